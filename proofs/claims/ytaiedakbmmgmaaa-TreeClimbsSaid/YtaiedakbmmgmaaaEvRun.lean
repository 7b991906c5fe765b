/- The abstract evaluator, second part: regions, code, calls; the least predicate that is closed under a step; it is closed. -/
import Derived.Test.YtaiedakbmmgmaaaEvDef
set_option linter.unusedVariables false
set_option linter.unusedSimpArgs false
namespace Go.Proofs.Ytaiedakbmmgmaaa.E
open Go

/-! ### A region that draws its order: what must hold of its operations -/
def bindsG : Ground → Bool
  | .textOnly _ => false
  | .gcOnly _ => false
  | _ => true
noncomputable def sN (n : Nat) (k : Nat → Bool) : Bool := @Nat.rec (fun _ => Bool) (k 0) (fun m _ => k (m + 1)) n
/-- all that stands ahead of an operation with these edges, as bits -/
noncomputable def depMask (masks : List Nat) (es : List Edge) : Nat :=
  @List.rec Edge (fun _ => Nat) 0 (fun e _ s => @Bool.rec (fun _ => Nat) s (Nat.lor (Nat.lor (Nat.pow 2 e.on) (nth 0 masks e.on)) s) (bindsG e.ground)) es
noncomputable def masksB (l : List Oper) : List Nat → (List Nat → Bool) → Bool :=
  @List.rec Oper (fun _ => List Nat → (List Nat → Bool) → Bool) (fun acc k => k acc) (fun o _ ih acc k => sN (depMask acc o.after.toList) fun m => ih (appR acc [m]) k) l
noncomputable def ordB (masks : List Nat) (i j : Nat) : Bool := Nat.beq (Nat.land (Nat.shiftRight (nth 0 masks j) i) 1) 1
noncomputable def anyMem (l m : List Nat) : Bool := @List.rec Nat (fun _ => Bool) false (fun a _ ih => @Bool.rec (fun _ => Bool) ih true (memN a m)) l
/-- do two operations' blocks stand against each other? -/
noncomputable def conflB (x y : List Nat × List Nat) : Bool := anyMem x.2 y.1 || anyMem x.2 y.2 || anyMem x.1 y.2
noncomputable def forall2 {α : Type} (l : List (Nat × α)) (f : Nat × α → Nat × α → Bool) : Bool :=
  @List.rec (Nat × α) (fun _ => Bool) true (fun a l ih => @Bool.rec (fun _ => Bool) false ih (allR (f a) l)) l
noncomputable def numbered {α : Type} (l : List α) : Nat → List (Nat × α) := @List.rec α (fun _ => Nat → List (Nat × α)) (fun _ => []) (fun a _ ih n => (n, a) :: ih (n + 1)) l
noncomputable def revR {α : Type} (l : List α) : List α := @List.rec α (fun _ => List α) [] (fun a _ ih => appR ih [a]) l
noncomputable def drawOk (ops : List Oper) (tr : Tr) : Bool :=
  masksB ops [] fun masks =>
    allR (fun x : Nat × Oper => allR (fun e : Edge => @Bool.rec (fun _ => Bool) true (Nat.ble (e.on + 1) x.1) (bindsG e.ground)) x.2.after.toList) (numbered ops 0) &&
    forall2 (numbered ops 0) (fun x y => ordB masks x.1 y.1 || Oper.apart ops.toArray x.2 y.2) &&
    forall2 (numbered (revR tr) 0) (fun x y => ordB masks x.1 y.1 || !conflB x.2 y.2)

/-! ### Code -/
noncomputable def firstReg (c : Code) : Nat :=
  @Code.rec (fun _ => Nat) 0 (fun id _ _ => id + 1) (fun _ _ a b => @Nat.rec (fun _ => Nat) b (fun n _ => n + 1) a) (fun _ _ _ a b => @Nat.rec (fun _ => Nat) b (fun n _ => n + 1) a)
    (fun _ _ a => a) (fun _ a => a) (fun _ _ _ _ _ _ => 0) (fun _ => 0) (fun _ a => a) (fun _ => 0) (fun _ => 0) 0 (fun _ => 0) c
/-- the temporaries that a loop keeps, as gaps between them -/
noncomputable def gapsOf (H : List (Nat × Nat × List Nat)) (f r : Nat) : List Nat :=
  @List.rec (Nat × Nat × List Nat) (fun _ => List Nat) [] (fun h _ ih => @Bool.rec (fun _ => List Nat) ih h.2.2 (Nat.beq h.1 f && Nat.beq h.2.1 r)) H
noncomputable def keptR (t : List A) : List Nat → List A :=
  @List.rec A (fun _ => List Nat → List A) (fun _ => []) (fun a _ ih gs => match gs with
    | [] => .one .junk :: ih []
    | g :: gs => @Nat.rec (fun _ => List A) (a :: ih gs) (fun n _ => .one .junk :: ih (n :: gs)) g) t

variable (T : List TI) (H : List (Nat × Nat × List Nat)) (KO : List Nat)
/-- the blocks that were handed in, and all that they and these values lead to -/
noncomputable def rootsF (m : Nat) (σ : List Blk) (ts : List A) (k : List Nat → Prop) : Prop :=
  travF σ 200 (appR (flatR (mapR (fun b => refsB (look σ b)) (upTo m))) (flatR (mapR refsA ts))) (upTo m) k
/-- only what is kept goes on -/
noncomputable def headG (gs : List Nat) (m : Nat) (t : List A) (σ : List Blk) (k : List A → List Blk → Prop) : Prop :=
  mapF aF (keptR t gs) fun ts => rootsF m σ ts fun K => mapF (renA (fwd K)) ts fun ts => keepF K σ fun σ => k ts σ
/-- a loop's head -/
noncomputable def headF (f m : Nat) (c : Code) (t : List A) (σ : List Blk) (k : List A → List Blk → Prop) : Prop := headG (gapsOf H f (firstReg c)) m t σ k
/-- a cut, where there is a hint for it -/
noncomputable def cutF (gs : List Nat) (m : Nat) (t : List A) (σ : List Blk) (d : Prop) (k : List A → List Blk → Prop) : Prop := match gs with
  | [] => d
  | g :: gs => headG (g :: gs) m t σ k

variable (I : Task → Prop)
noncomputable def jumpK (f m : Nat) (body : Code) (K : Ex → List A → List Blk → Prop) (e : Ex) (t : List A) (σ : List Blk) : Prop := match e with
  | .goto l => match findLabel body l with
    | some rest => I (.jump f m body rest t σ K)
    | none => K (.goto l) t σ
  | .normal => K .normal t σ
  | .exit i => K (.exit i) t σ
  | .ret => K .ret t σ
noncomputable def ev (f m : Nat) (c : Code) : List A → List Blk → (Ex → List A → List Blk → Prop) → Prop :=
 @Code.rec (fun _ => List A → List Blk → (Ex → List A → List Blk → Prop) → Prop)
  (fun t σ K => K .normal t σ)
  (fun _ ops d t σ K => runF T I ops.toList ops.toList t σ [] fun t σ tr => @Bool.rec (fun _ => Prop) (K .normal t σ) (drawOk ops.toList tr = true ∧ K .normal t σ) d)
  (fun _ b iha ihb t σ K => iha t σ fun e t σ => match e with
    | .normal => cutF (gapsOf H f (1000 + firstReg b)) m t σ (ihb t σ K) fun t σ => I (.rest f m b t σ K)
    | .exit i => K (.exit i) t σ
    | .goto i => K (.goto i) t σ
    | .ret => K .ret t σ)
  (fun c _ _ iha ihb t σ K => match opd t c with
    | .one (.p (.v (.bool x))) => bcase x (iha t σ K) (ihb t σ K)
    | _ => False)
  (fun id _ ih t σ K => ih t σ fun e t σ => match e with
    | .exit i => bcase (Nat.beq i id) (K .normal t σ) (K (.exit i) t σ)
    | .normal => K .normal t σ
    | .goto i => K (.goto i) t σ
    | .ret => K .ret t σ)
  (fun c _ t σ K => headF H f m c t σ fun t σ => I (.loop f m c t σ K))
  (fun _ _ _ _ _ _ _ _ _ => False)
  (fun id t σ K => K (.exit id) t σ)
  (fun body ih t σ K => ih t σ (jumpK I f m body K))
  (fun _ t σ K => K .normal t σ)
  (fun l t σ K => K (.goto l) t σ)
  (fun t σ K => K .ret t σ)
  (fun _ _ _ _ => False) c

/-! ### A function's end -/
noncomputable def resC (t : List A) (σ : List Blk) (rs : List ResultVar) : (List A → Prop) → Prop :=
  @List.rec ResultVar (fun _ => (List A → Prop) → Prop) (fun k => k []) (fun r _ ih k => match r with
    | .tmp a => ih fun l => k (nth (.one .junk) t a :: l)
    | .cell a s => match nth (.one .junk) t a with
      | .one (.ptr b p) => loadC T σ s (.one (.ptr b p)) fun v _ _ _ => ih fun l => k (v :: l)
      | _ => False) rs
/-- owned slices in results are laid open -/
noncomputable def frzC (σ : List Blk) (c : C) (K : C → List Nat → Prop) : Prop := match c with
  | .own b => toP σ (.own b) fun c bs => K (.p c) bs
  | c => K c []
noncomputable def frzCs (σ : List Blk) (cs : List C) : (List C → List Nat → Prop) → Prop :=
  @List.rec C (fun _ => (List C → List Nat → Prop) → Prop) (fun k => k [] []) (fun c _ ih k => frzC σ c fun c bs => ih fun cs bs' => k (c :: cs) (appR bs bs')) cs
noncomputable def frzA (σ : List Blk) (a : A) (K : A → List Nat → Prop) : Prop := match a with
  | .one c => frzC σ c fun c bs => K (.one c) bs
  | .agg cs => frzCs σ cs fun cs bs => K (.agg cs) bs
  | .tup _ => False
noncomputable def frzAs (σ : List Blk) (xs : List A) : (List A → List Nat → Prop) → Prop :=
  @List.rec A (fun _ => (List A → List Nat → Prop) → Prop) (fun k => k [] []) (fun a _ ih k => frzA σ a fun a bs => ih fun l bs' => k (a :: l) (appR bs bs')) xs
noncomputable def plainA (a : A) : Bool := match a with
  | .tup _ => false
  | _ => true
noncomputable def oneR (l : List A) (K : A → Prop) : Prop := match l with
  | [a] => K a
  | l => bcase (allR plainA l) (K (.tup l)) False
noncomputable def finC (f m : Nat) (rs : List ResultVar) (t : List A) (σ : List Blk) (Q : A → List Blk → Prop) : Prop :=
  resC T t σ rs fun l =>
  @Bool.rec (fun _ => Prop)
    (frzAs σ l fun l bs => mapF aF l fun l => rootsF m σ l fun K => mapF (renA (fwd K)) l fun l => mapF (handB K bs σ) K fun σ => oneR l fun r => Q r σ)
    (mapF aF l fun l => rootsF m σ l fun K => mapF (renA (fwd K)) l fun l => keepF K σ fun σ => oneR l fun r => Q r σ) (memN f KO)
noncomputable def bodyC (f : Nat) (fn : Func) (c : Code) (xs : List A) (σ : List Blk) (Q : A → List Blk → Prop) : Prop :=
  appF xs (repR (.one .junk) (fn.ntmps - lenR xs)) fun t => ev T H I f (lenR σ) c t σ fun e t σ' => match e with
    | .normal => finC T KO f (lenR σ) fn.results.toList t σ' Q
    | .ret => finC T KO f (lenR σ) fn.results.toList t σ' Q
    | .exit _ => False
    | .goto _ => False

variable (P : Program) (prim : Nat → List A → A → Prop)
/-- one step of the evaluator -/
def Step : Task → Prop
  | .call f xs σ Q => (∃ r, prim f xs r ∧ σ = [] ∧ Q r []) ∨ (∃ fn c, P.funcs[f]? = some fn ∧ fn.body = some c ∧ (fn.name == "runtime.NumGoroutine") = false ∧ bodyC T H KO I f fn c xs σ Q) ∨ (mapF nzA xs fun ys => I (.call f ys σ fun r σ' => nzA r fun r' => Q r' σ'))
  | .loop f m c t σ K => ev T H I f m c t σ fun e t σ => match e with
    | .normal => headF H f m c t σ fun t σ => I (.loop f m c t σ K)
    | .exit i => K (.exit i) t σ
    | .goto i => K (.goto i) t σ
    | .ret => K .ret t σ
  | .jump f m body rest t σ K => ev T H I f m rest t σ (jumpK I f m body K)
  | .rest f m c t σ K => ev T H I f m c t σ K
end Go.Proofs.Ytaiedakbmmgmaaa.E
