/- Values by their Go types; what is closed under a step of the evaluator. -/
import Derived.Test.YtijkfjahgijphaaKTab
import Derived.Test.YtijkfjahgijphaaKHints
import Derived.Test.YtijkfjahgijphaaKEvA
import Derived.Test.YtijkfjahgijphaaKEvF
set_option linter.unusedVariables false
set_option linter.unusedSimpArgs false
set_option maxRecDepth 100000
set_option maxHeartbeats 4000000
namespace Go.Proofs.Ytijkfjahgijphaa
open Go E
def KO : List Nat := [54, 159, 56]
def prim : Nat → List A → List Blk → A → List Blk → Prop := fun f xs σ r σ' => CallOk Try.prog f xs σ r σ'
abbrev Closed (X : Task → Prop) : Prop := ∀ t, Step T Hh KO X Try.prog prim t → X t
abbrev iv (n : Int) : A := .one (.p (.v (.int .i64 n)))
abbrev ic (n : Int) : C := .p (.v (.int .i64 n))
abbrev ip (n : Int) : PC := .v (.int .i64 n)
abbrev bv (b : Bool) : A := .one (.p (.v (.bool b)))
abbrev sv (s : ByteArray) : A := .one (.p (.v (.string s)))
abbrev fv (x : Nat) : A := .one (.p (.v (.float .f64 x)))
abbrev cv (x y : Nat) : A := .one (.p (.v (.complex .f64 x y)))
abbrev sl (l : List (List PC)) : A := .one (.p (.sl l))
theorem Qa {Q : A → List Blk → Prop} {b b' : A} (h : Q b []) (e : b = b') : Q b' [] := e ▸ h
theorem Qb {Q : A → List Blk → Prop} {b b' : Bool} (h : Q (bv b) []) (e : b = b') : Q (bv b') [] := e ▸ h
theorem wrS {j : Nat} (h : j < 9223372036854775807) : wr .i64 ((j : Int) + 1) = ((j + 1 : Nat) : Int) := by rw [wr64 (by omega) (by omega)]; omega
structure Rw where
  k : Nat
  l : List (List PC)
theorem range_loop {X : Task → Prop} {f m : Nat} {c : Code} {K : Ex → List A → List Blk → Prop} {ST : Type} (T' : Nat → ST → List A) (S' : Nat → ST → List Blk) (I : Nat → ST → Prop) (n : Nat)
    (hstep : ∀ j st, j < n → I j st → (∀ st', I (j + 1) st' → X (.loop f m c (T' (j + 1) st') (S' (j + 1) st') K)) → X (.loop f m c (T' j st) (S' j st) K))
    (hend : ∀ st, I n st → X (.loop f m c (T' n st) (S' n st) K)) (st0 : ST) (h0 : I 0 st0) : X (.loop f m c (T' 0 st0) (S' 0 st0) K) := by
  have key : ∀ (d j : Nat) (st : ST), j + d = n → I j st → X (.loop f m c (T' j st) (S' j st) K) := by
    intro d
    induction d with
    | zero => intro j st h hi; have : j = n := by omega
              subst this; exact hend st hi
    | succ d ih => intro j st h hi; exact hstep j st (by omega) hi fun st' hi' => ih (j + 1) st' (by omega) hi'
  exact key n 0 st0 (by omega) h0
end Go.Proofs.Ytijkfjahgijphaa
