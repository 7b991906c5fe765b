/- The few lemmas with which a function is walked. -/
import Derived.Test.YtaiedakbmmgmaaaEvRun
import Derived.Laws.StructEq
set_option linter.unusedVariables false
set_option linter.unusedSimpArgs false
namespace Go.Proofs.Ytaiedakbmmgmaaa.E
open Go
section
variable {T : List TI} {H : List (Nat × Nat × List Nat)} {KO : List Nat} {X : Task → Prop} {P : Program} {prim : Nat → List A → A → Prop}
theorem call_intro (hX : ∀ t, Step T H KO X P prim t → X t) {f : Nat} {fn : Func} {c : Code} {xs : List A} {σ : List Blk} {Q : A → List Blk → Prop} (hf : P.funcs[f]? = some fn) (hb : fn.body = some c) (hn : (fn.name == "runtime.NumGoroutine") = false)
    (h : bodyC T H KO X f fn c xs σ Q) : X (.call f xs σ Q) := hX _ (.inr (.inl ⟨fn, c, hf, hb, hn, h⟩))
/-- nil slices among the arguments, or in the result, read as slices of no rows -/
theorem call_nz (hX : ∀ t, Step T H KO X P prim t → X t) {f : Nat} {xs : List A} {σ : List Blk} {Q : A → List Blk → Prop} (h : mapF nzA xs fun ys => X (.call f ys σ fun r σ' => nzA r fun r' => Q r' σ')) : X (.call f xs σ Q) := hX _ (.inr (.inr h))
theorem prim_intro (hX : ∀ t, Step T H KO X P prim t → X t) {f : Nat} {xs : List A} {r : A} {Q : A → List Blk → Prop} (hp : prim f xs r) (h : Q r []) : X (.call f xs [] Q) := hX _ (.inl ⟨r, hp, rfl, h⟩)
theorem loop_intro (hX : ∀ t, Step T H KO X P prim t → X t) {f m : Nat} {c : Code} {t : List A} {σ : List Blk} {K : Ex → List A → List Blk → Prop} (h : ev T H X f m c t σ fun e t σ => match e with
    | .normal => headF H f m c t σ fun t σ => X (.loop f m c t σ K)
    | .exit i => K (.exit i) t σ
    | .goto i => K (.goto i) t σ
    | .ret => K .ret t σ) : X (.loop f m c t σ K) := hX _ h
theorem jump_intro (hX : ∀ t, Step T H KO X P prim t → X t) {f m : Nat} {body rest : Code} {t : List A} {σ : List Blk} {K : Ex → List A → List Blk → Prop} (h : ev T H X f m rest t σ (jumpK X f m body K)) : X (.jump f m body rest t σ K) := hX _ h
theorem rest_intro (hX : ∀ t, Step T H KO X P prim t → X t) {f m : Nat} {c : Code} {t : List A} {σ : List Blk} {K : Ex → List A → List Blk → Prop} (h : ev T H X f m c t σ K) : X (.rest f m c t σ K) := hX _ h
theorem task_intro (hX : ∀ t, Step T H KO X P prim t → X t) {t : Task} (h : Step T H KO X P prim t) : X t := hX _ h
end
/-- a loop's invariant I over states st, which a measure counts down -/
theorem loop_gen {X : Task → Prop} {f m : Nat} {c : Code} {K : Ex → List A → List Blk → Prop} {ST : Type} (T' : ST → List A) (S' : ST → List Blk) (I : ST → Prop) (μ : ST → Nat)
    (hstep : ∀ st, I st → (∀ st', I st' → μ st' < μ st → X (.loop f m c (T' st') (S' st') K)) → X (.loop f m c (T' st) (S' st) K)) (st0 : ST) (h0 : I st0) : X (.loop f m c (T' st0) (S' st0) K) := by
  have key : ∀ (n : Nat) (st : ST), μ st < n → I st → X (.loop f m c (T' st) (S' st) K) := by
    intro n
    induction n with
    | zero => intro st h; exact absurd h (Nat.not_lt_zero _)
    | succ n ih => intro st h hi; exact hstep st hi fun st' hi' hlt => ih st' (by omega) hi'
  exact key _ st0 (Nat.lt_succ_self _) h0
/-- the loops of a function, in the order of the text -/
noncomputable def loopsOf (c : Code) : List Code :=
  @Code.rec (fun _ => List Code) [] (fun _ _ _ => []) (fun _ _ a b => appR a b) (fun _ _ _ a b => appR a b) (fun _ _ a => a) (fun c a => c :: a) (fun _ _ _ _ _ _ => []) (fun _ => []) (fun _ a => a) (fun _ => []) (fun _ => []) [] (fun _ => []) c
noncomputable def loopN (fn : Func) (n : Nat) : Code := match fn.body with
  | some c => nth .skip (loopsOf c) n
  | none => .skip
/-- temporaries: so many that are not told of, then this one; behind the last 'rest' of them -/
noncomputable def pad (l : List (Nat × A)) (rest : Nat) : List A := @List.rec (Nat × A) (fun _ => List A) (repR (.one .junk) rest) (fun x _ ih => appR (repR (.one .junk) x.1) (x.2 :: ih)) l
structure Hold (G : Prop) : Prop where
  h : G
theorem merge {G R : Prop} (h : Hold G → R) (g : G) : R := h ⟨g⟩
theorem rest_id {X : Task → Prop} {f m : Nat} {c : Code} {t : List A} {σ : List Blk} {K : Ex → List A → List Blk → Prop} (h : Hold (X (.rest f m c t σ K))) : X (.rest f m c t σ K) := h.h
theorem loop_id {X : Task → Prop} {f m : Nat} {c : Code} {t : List A} {σ : List Blk} {K : Ex → List A → List Blk → Prop} (h : Hold (X (.loop f m c t σ K))) : X (.loop f m c t σ K) := h.h
theorem beq_self (b : Bool) : (@Bool.rec (fun _ => Bool) (!b) b b) = true := by cases b <;> rfl
theorem bc {b : Bool} {x y : Prop} (h1 : b = true → x) (h2 : b = false → y) : @Bool.rec (fun _ => Prop) y x b := by cases b with | true => exact h1 rfl | false => exact h2 rfl
theorem bct {b : Bool} {x y : Prop} (hb : b = true) (h : x) : @Bool.rec (fun _ => Prop) y x b := by subst hb; exact h
theorem bcf {b : Bool} {x y : Prop} (hb : b = false) (h : y) : @Bool.rec (fun _ => Prop) y x b := by subst hb; exact h
theorem nt {b : Bool} (h : b = true) : (!b) = false := by subst h; rfl
theorem nf {b : Bool} (h : b = false) : (!b) = true := by subst h; rfl
theorem eqS_refl (a : ByteArray) : eqS a a = true := by simp [eqS]
theorem eqS_t {a b : ByteArray} (h : a.data.toList = b.data.toList) : eqS a b = true := by simp [eqS, h]
theorem eqS_of {a b : ByteArray} (h : a = b) : eqS a b = true := h ▸ eqS_refl a
theorem lenL_cat (a b : List (List PC)) : lenL (catL a b) = lenL a + lenL b := by simp [lenL, catL]
theorem lenL_nn (a : List (List PC)) : 0 ≤ lenL a := by unfold lenL; omega
theorem strOk_cat {a b : List (List PC)} (h : strOk a = true) (h' : strOk b = true) : strOk (catL a b) = true := by
  unfold strOk catL at *; rw [List.all_append, h, h']; rfl
theorem strOf_cat (a b : List (List PC)) : strOf (catL a b) = catS (strOf a) (strOf b) := by
  unfold strOf catL catS
  apply ByteArray.ext
  simp
theorem strOk_in {a : List (List PC)} {i j : Int} (h : strOk a = true) : strOk (rowsIn a i j) = true := by
  unfold strOk rowsIn at *
  rw [List.all_eq_true] at *
  intro r hr
  exact h r (List.mem_of_mem_take (List.mem_of_mem_drop hr))
theorem rowsOk_str {a : List (List PC)} (h : strOk a = true) : rowsOk a 1 = true := by
  unfold strOk rowsOk at *
  rw [List.all_eq_true] at *
  intro r hr
  have := h r hr
  unfold pcByte at this
  split at this
  · rfl
  · cases this
theorem strOf_size (a : List (List PC)) : (strOf a).size = a.length := by simp [strOf, ByteArray.size]
theorem room1 {a b : List (List PC)} (h : a.length + b.length ≤ 140737488355328) : roomFor a b 1 = true := by
  unfold roomFor; simp; omega
theorem lenL_in {a : List (List PC)} {j : Int} (h : j ≤ lenL a) : lenL (rowsIn a 0 j) = if j < 0 then 0 else j := by
  unfold lenL rowsIn at *
  simp only [List.length_drop, List.length_take]
  split <;> omega
theorem and3 {a b c : Bool} (h1 : a = true) (h2 : b = true) (h3 : c = true) : (a && b && c) = true := by subst h1; subst h2; subst h3; rfl
theorem and4 {a b c d : Bool} (h1 : a = true) (h2 : b = true) (h3 : c = true) (h4 : d = true) : (a && b && c && d) = true := by subst h1; subst h2; subst h3; subst h4; rfl
theorem wr64 {n : Int} (h1 : -9223372036854775808 ≤ n) (h2 : n ≤ 9223372036854775807) : wr .i64 n = n := by
  unfold wr IntKind.wrap
  simp [IntKind.signed, IntKind.bits]
  omega
theorem ltI_t {a b : Int} : ltI a b = true ↔ a < b := by simp [ltI]
theorem ltI_f {a b : Int} : ltI a b = false ↔ b ≤ a := by simp [ltI]
theorem leI_t {a b : Int} : leI a b = true ↔ a ≤ b := by simp [leI]
theorem leI_f {a b : Int} : leI a b = false ↔ b < a := by simp [leI]
theorem eqI_t {a b : Int} : eqI a b = true ↔ a = b := by simp [eqI]
theorem eqI_f {a b : Int} : eqI a b = false ↔ a ≠ b := by simp [eqI]
end Go.Proofs.Ytaiedakbmmgmaaa.E
