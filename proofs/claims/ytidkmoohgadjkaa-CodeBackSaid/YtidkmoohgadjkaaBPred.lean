/- Filters (layer 3): as trees; how large and how deep they are, and whether two are the same. -/
import Derived.Test.YtidkmoohgadjkaaBItem
set_option linter.unusedVariables false
set_option linter.unusedSimpArgs false
set_option maxRecDepth 100000
set_option maxHeartbeats 4000000
namespace Go.Proofs.Ytidkmoohgadjkaa
open Go E
inductive Pred where
  | mk (op : Int) (text : ByteArray) (n : Int) (re im : Nat) (kids : List Pred)
namespace Pred
def op : Pred → Int | mk a _ _ _ _ _ => a
def text : Pred → ByteArray | mk _ a _ _ _ _ => a
def n : Pred → Int | mk _ _ a _ _ _ => a
def re : Pred → Nat | mk _ _ _ a _ _ => a
def im : Pred → Nat | mk _ _ _ _ a _ => a
def kids : Pred → List Pred | mk _ _ _ _ _ a => a
mutual
def row : Pred → List PC
  | mk a t n re im ks => [ip a, .v (.string t), ip n, .v (.complex .f64 re im), .sl (rows0 ks)]
def rows0 : List Pred → List (List PC)
  | [] => []
  | k :: ks => row k :: rows0 ks
end
def rows (l : List Pred) : List (List PC) := l.map row
mutual
def lrow : Pred → List PC
  | mk a t n re im ks => [ip a, .v (.string t), ip n, .v (.float .f64 re), .v (.float .f64 im), .sl (lrows ks)]
def lrows : List Pred → List (List PC)
  | [] => []
  | k :: ks => lrow k :: lrows ks
end
mutual
def size : Pred → Nat
  | mk _ _ _ _ _ ks => sizes ks + 1
def sizes : List Pred → Nat
  | [] => 0
  | k :: ks => size k + sizes ks
end
mutual
def depth : Pred → Nat
  | mk _ _ _ _ _ ks => depths ks + 1
def depths : List Pred → Nat
  | [] => 0
  | k :: ks => max (depth k) (depths ks)
end
mutual
def Ok : Pred → Prop
  | mk a t n _ _ ks => (-9223372036854775808 ≤ a ∧ a ≤ 9223372036854775807) ∧ t.size ≤ 9223372036854775807 ∧ (-9223372036854775808 ≤ n ∧ n ≤ 9223372036854775807) ∧ ks.length ≤ 9223372036854775807 ∧ Oks ks
def Oks : List Pred → Prop
  | [] => True
  | k :: ks => Ok k ∧ Oks ks
end
abbrev cs (p : Pred) : List C := [ic p.op, .p (.v (.string p.text)), ic p.n, .p (.v (.complex .f64 p.re p.im)), .p (.sl (rows p.kids))]
abbrev a (p : Pred) : A := .agg p.cs
abbrev la (p : Pred) : A := .agg [ic p.op, .p (.v (.string p.text)), ic p.n, .p (.v (.float .f64 p.re)), .p (.v (.float .f64 p.im)), .p (.sl (lrows p.kids))]
theorem Ok.kids {p : Pred} (h : p.Ok) : Oks p.kids := by cases p; rw [Ok] at h; exact h.2.2.2.2
theorem Ok.text {p : Pred} (h : p.Ok) : p.text.size ≤ 9223372036854775807 := by cases p; rw [Ok] at h; exact h.2.1
theorem Ok.len {p : Pred} (h : p.Ok) : p.kids.length ≤ 9223372036854775807 := by cases p; rw [Ok] at h; exact h.2.2.2.1
theorem Ok.op {p : Pred} (h : p.Ok) : -9223372036854775808 ≤ p.op ∧ p.op ≤ 9223372036854775807 := by cases p; rw [Ok] at h; exact h.1
theorem Ok.n {p : Pred} (h : p.Ok) : -9223372036854775808 ≤ p.n ∧ p.n ≤ 9223372036854775807 := by cases p; rw [Ok] at h; exact h.2.2.1
end Pred
open Pred
attribute [irreducible] Pred.lrows Pred.size Pred.sizes Pred.depth Pred.depths Pred.Ok Pred.Oks
end Go.Proofs.Ytidkmoohgadjkaa
