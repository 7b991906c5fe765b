/- Which filter is seen in which (layer 5): the document's answer. -/
import Derived.Test.YtijkfjahgijphaaContain
set_option linter.unusedVariables false
set_option linter.unusedSimpArgs false
set_option maxRecDepth 100000
set_option maxHeartbeats 4000000
namespace Go.Proofs.Ytijkfjahgijphaa
open Go E Pred
def half (o o' : Bool) (ks : List Pred) (P : Pred → Bool) : Bool := (o && ks.all P) || (o' && ks.any P)
def listsB (N : Nat) (p q : Pred) : Bool := half (eqI p.op 9) (eqI p.op 8) p.kids (fun k => seenF N k q) || half (eqI q.op 8) (eqI q.op 9) q.kids (fun k => seenF N p k)
def notB (N : Nat) (p q : Pred) : Bool := eqI p.op 10 && (eqI q.op 10 && (match q.kids, p.kids with | k :: _, m :: _ => seenF N k m | _, _ => false))
theorem not_any_not {α : Type} (l : List α) (P : α → Bool) : (!(l.any fun k => !P k)) = l.all P := by
  induction l with
  | nil => rfl
  | cons a l ih => rw [List.any_cons, List.all_cons, ← ih]; cases P a <;> simp
theorem seenF_eq (N : Nat) (p q : Pred) : seenF (N + 1) p q = (((eqI q.op 1 || eqI p.op 2) || sameP p q) || (listsB N p q || (leafB p q || notB N p q))) := by
  show _ = _
  unfold listsB half notB
  rw [seenF]
  rw [not_any_not, not_any_not]
  generalize (eqI q.op 1 || eqI p.op 2) = a
  generalize sameP p q = b
  generalize leafB p q = c
  generalize (eqI p.op 9 && p.kids.all fun k => seenF N k q) = d
  generalize (eqI q.op 8 && q.kids.all fun k => seenF N p k) = e
  generalize (eqI p.op 8 && p.kids.any fun k => seenF N k q) = f
  generalize (eqI q.op 9 && q.kids.any fun k => seenF N p k) = g
  generalize (eqI p.op 10 && (eqI q.op 10 && (match q.kids, p.kids with | k :: _, m :: _ => seenF N k m | _, _ => false))) = h
  cases a <;> cases b <;> cases c <;> cases d <;> cases e <;> cases f <;> cases g <;> cases h <;> rfl
structure AS where
  a : Bool
  s : Bool
theorem all_step {α : Type} {l : List α} {P : α → Bool} {j : Nat} (h : j < l.length) : (l.take (j + 1)).all P = ((l.take j).all P && P l[j]) := by
  rw [List.take_succ_eq_append_getElem h, List.all_append]; simp
theorem any_step {α : Type} {l : List α} {P : α → Bool} {j : Nat} (h : j < l.length) : (l.take (j + 1)).any P = ((l.take j).any P || P l[j]) := by
  rw [List.take_succ_eq_append_getElem h, List.any_append]; simp
end Go.Proofs.Ytijkfjahgijphaa
