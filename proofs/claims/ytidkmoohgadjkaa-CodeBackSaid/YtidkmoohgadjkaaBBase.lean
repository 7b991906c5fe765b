/- Values by their Go types; what is closed under a step of the evaluator. -/
import Derived.Test.YtidkmoohgadjkaaBTab
import Derived.Test.YtidkmoohgadjkaaBHints
import Derived.Test.YtidkmoohgadjkaaBEvA
import Derived.Test.YtidkmoohgadjkaaBEvF
set_option linter.unusedVariables false
set_option linter.unusedSimpArgs false
set_option maxRecDepth 100000
set_option maxHeartbeats 4000000
namespace Go.Proofs.Ytidkmoohgadjkaa
open Go E
def KO : List Nat := []
def prim : Nat → List A → List Blk → A → List Blk → Prop := fun f xs σ r σ' => CallOk Try.prog f xs σ r σ'
abbrev Closed (X : Task → Prop) : Prop := ∀ t, Step T Hh KO X Try.prog prim t → X t
abbrev iv (n : Int) : A := .one (.p (.v (.int .i64 n)))
abbrev ic (n : Int) : C := .p (.v (.int .i64 n))
abbrev ip (n : Int) : PC := .v (.int .i64 n)
abbrev bv (b : Bool) : A := .one (.p (.v (.bool b)))
abbrev sv (s : ByteArray) : A := .one (.p (.v (.string s)))
abbrev fv (x : Nat) : A := .one (.p (.v (.float .f64 x)))
abbrev cv (x y : Nat) : A := .one (.p (.v (.complex .f64 x y)))
abbrev sl (l : List (List PC)) : A := .one (.p (.sl l))
theorem Qa {Q : A → List Blk → Prop} {b b' : A} (h : Q b []) (e : b = b') : Q b' [] := e ▸ h
theorem wrS {j : Nat} (h : j < 9223372036854775807) : wr .i64 ((j : Int) + 1) = ((j + 1 : Nat) : Int) := by rw [wr64 (by omega) (by omega)]; omega
structure Rw where
  k : Nat
  l : List (List PC)
end Go.Proofs.Ytidkmoohgadjkaa
