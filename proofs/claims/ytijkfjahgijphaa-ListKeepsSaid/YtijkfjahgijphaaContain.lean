/- Which filter is seen in which (layer 5): the program's answer, and the document's. -/
import Derived.Test.YtijkfjahgijphaaEval
set_option linter.unusedVariables false
set_option linter.unusedSimpArgs false
set_option maxRecDepth 100000
set_option maxHeartbeats 4000000
namespace Go.Proofs.Ytijkfjahgijphaa
open Go E Pred
/-- of two filters of one Op without Kids -/
def leafB (p q : Pred) : Bool := eqI p.op q.op &&
  (if p.op = 5 then leI p.n q.n else if p.op = 6 then leI q.n p.n else if p.op = 4 then prefB p.text q.text else if p.op = 7 then ((eqFl .f64 p.re q.re && eqFl .f64 p.im q.im) && leI p.n q.n) else false)
/-- is p seen in q, so far down? -/
def seenF : Nat → Pred → Pred → Bool
  | 0, _, _ => false
  | N + 1, p, q => ((eqI q.op 1 || eqI p.op 2) || (sameP p q || leafB p q)) ||
      ((eqI p.op 9 && !(p.kids.any fun k => !seenF N k q)) || ((eqI q.op 8 && !(q.kids.any fun k => !seenF N p k)) || ((eqI p.op 8 && p.kids.any fun k => seenF N k q) || ((eqI q.op 9 && q.kids.any fun k => seenF N p k) ||
        (eqI p.op 10 && (eqI q.op 10 && (match q.kids, p.kids with | k :: _, m :: _ => seenF N k m | _, _ => false)))))))
section
variable {X : Task → Prop} (hX : Closed X) {k p q : Pred} {b : Bool} {Q : A → List Blk → Prop}
include hX
end
theorem fits_kid {p : Pred} (h : fitsP p = true) {j : Nat} (hj : j < p.kids.length) : fitsP p.kids[j] = true := by
  rw [fitsP_eq, Bool.and_eq_true] at h; exact fitsL_mem h.2 (List.getElem_mem hj)
theorem fits_ten {p : Pred} (h : fitsP p = true) (ho : p.op = 10) : ∃ k, p.kids = [k] := by
  rw [fitsP_eq, Bool.and_eq_true, ho] at h
  have h1 := h.1
  unfold partB at h1
  simp [len_rows, eqI] at h1
  match hk : p.kids, h1 with
  | [k], _ => exact ⟨k, rfl⟩
  | [], h1 => simp [hk] at h1
  | _ :: _ :: _, h1 => simp [hk] at h1; omega
end Go.Proofs.Ytijkfjahgijphaa
