/- The few lemmas with which a function is walked. -/
import Derived.Test.YtjapbanelfcjhaaEvRun
set_option linter.unusedVariables false
set_option linter.unusedSimpArgs false
namespace Go.Proofs.Ytjapbanelfcjhaa.E
open Go
section
variable {T : List TI} {H : List (Nat × Nat × List Nat)} {KO : List Nat} {X : Task → Prop} {P : Program} {prim : Nat → List A → A → Prop}
theorem call_intro (hX : ∀ t, Step T H KO X P prim t → X t) {f : Nat} {fn : Func} {c : Code} {xs : List A} {σ : List Blk} {Q : A → List Blk → Prop} (hf : P.funcs[f]? = some fn) (hb : fn.body = some c) (hn : (fn.name == "runtime.NumGoroutine") = false)
    (h : bodyC T H KO X f fn c xs σ Q) : X (.call f xs σ Q) := hX _ (.inr ⟨fn, c, hf, hb, hn, h⟩)
theorem prim_intro (hX : ∀ t, Step T H KO X P prim t → X t) {f : Nat} {xs : List A} {r : A} {Q : A → List Blk → Prop} (hp : prim f xs r) (h : Q r []) : X (.call f xs [] Q) := hX _ (.inl ⟨r, hp, rfl, h⟩)
theorem loop_intro (hX : ∀ t, Step T H KO X P prim t → X t) {f m : Nat} {c : Code} {t : List A} {σ : List Blk} {K : Ex → List A → List Blk → Prop} (h : ev T H X f m c t σ fun e t σ => match e with
    | .normal => headF H f m c t σ fun t σ => X (.loop f m c t σ K)
    | .exit i => K (.exit i) t σ
    | .goto i => K (.goto i) t σ
    | .ret => K .ret t σ) : X (.loop f m c t σ K) := hX _ h
theorem jump_intro (hX : ∀ t, Step T H KO X P prim t → X t) {f m : Nat} {body rest : Code} {t : List A} {σ : List Blk} {K : Ex → List A → List Blk → Prop} (h : ev T H X f m rest t σ (jumpK X f m body K)) : X (.jump f m body rest t σ K) := hX _ h
theorem rest_intro (hX : ∀ t, Step T H KO X P prim t → X t) {f m : Nat} {c : Code} {t : List A} {σ : List Blk} {K : Ex → List A → List Blk → Prop} (h : ev T H X f m c t σ K) : X (.rest f m c t σ K) := hX _ h
theorem task_intro (hX : ∀ t, Step T H KO X P prim t → X t) {t : Task} (h : Step T H KO X P prim t) : X t := hX _ h
end
/-- the loops of a function, in the order of the text -/
noncomputable def loopsOf (c : Code) : List Code :=
  @Code.rec (fun _ => List Code) [] (fun _ _ _ => []) (fun _ _ a b => appR a b) (fun _ _ _ a b => appR a b) (fun _ _ a => a) (fun c a => c :: a) (fun _ _ _ _ _ _ => []) (fun _ => []) (fun _ a => a) (fun _ => []) (fun _ => []) [] (fun _ => []) c
noncomputable def loopN (fn : Func) (n : Nat) : Code := match fn.body with
  | some c => nth .skip (loopsOf c) n
  | none => .skip
/-- temporaries: so many that are not told of, then this one; behind the last 'rest' of them -/
noncomputable def pad (l : List (Nat × A)) (rest : Nat) : List A := @List.rec (Nat × A) (fun _ => List A) (repR (.one .junk) rest) (fun x _ ih => appR (repR (.one .junk) x.1) (x.2 :: ih)) l
structure Hold (G : Prop) : Prop where
  h : G
theorem merge {G R : Prop} (h : Hold G → R) (g : G) : R := h ⟨g⟩
theorem rest_id {X : Task → Prop} {f m : Nat} {c : Code} {t : List A} {σ : List Blk} {K : Ex → List A → List Blk → Prop} (h : Hold (X (.rest f m c t σ K))) : X (.rest f m c t σ K) := h.h
theorem loop_id {X : Task → Prop} {f m : Nat} {c : Code} {t : List A} {σ : List Blk} {K : Ex → List A → List Blk → Prop} (h : Hold (X (.loop f m c t σ K))) : X (.loop f m c t σ K) := h.h
theorem beq_self (b : Bool) : (@Bool.rec (fun _ => Bool) (!b) b b) = true := by cases b <;> rfl
theorem bc {b : Bool} {x y : Prop} (h1 : b = true → x) (h2 : b = false → y) : @Bool.rec (fun _ => Prop) y x b := by cases b with | true => exact h1 rfl | false => exact h2 rfl
theorem bct {b : Bool} {x y : Prop} (hb : b = true) (h : x) : @Bool.rec (fun _ => Prop) y x b := by subst hb; exact h
theorem bcf {b : Bool} {x y : Prop} (hb : b = false) (h : y) : @Bool.rec (fun _ => Prop) y x b := by subst hb; exact h
theorem nt {b : Bool} (h : b = true) : (!b) = false := by subst h; rfl
theorem nf {b : Bool} (h : b = false) : (!b) = true := by subst h; rfl
theorem wr64 {n : Int} (h1 : -9223372036854775808 ≤ n) (h2 : n ≤ 9223372036854775807) : wr .i64 n = n := by
  unfold wr IntKind.wrap
  simp [IntKind.signed, IntKind.bits]
  omega
theorem ltI_t {a b : Int} : ltI a b = true ↔ a < b := by simp [ltI]
theorem ltI_f {a b : Int} : ltI a b = false ↔ b ≤ a := by simp [ltI]
theorem leI_t {a b : Int} : leI a b = true ↔ a ≤ b := by simp [leI]
theorem leI_f {a b : Int} : leI a b = false ↔ b < a := by simp [leI]
theorem eqI_t {a b : Int} : eqI a b = true ↔ a = b := by simp [eqI]
theorem eqI_f {a b : Int} : eqI a b = false ↔ a ≠ b := by simp [eqI]
end Go.Proofs.Ytjapbanelfcjhaa.E
