/- Which filter is seen in which (layer 5): the program's answer, and the document's. -/
import Derived.Test.YtaiedakbmmgmaaaEval
set_option linter.unusedVariables false
set_option linter.unusedSimpArgs false
set_option maxRecDepth 100000
set_option maxHeartbeats 4000000
namespace Go.Proofs.Ytaiedakbmmgmaaa
open Go E Pred
/-- of two filters of one Op without Kids -/
def leafB (p q : Pred) : Bool := eqI p.op q.op &&
  (if p.op = 5 then leI p.n q.n else if p.op = 6 then leI q.n p.n else if p.op = 4 then prefB p.text q.text else if p.op = 7 then ((eqFl .f64 p.re q.re && eqFl .f64 p.im q.im) && leI p.n q.n) else false)
theorem leaf_pred_ok {X : Task → Prop} (hX : Closed X) {p q : Pred} {Q : A → List Blk → Prop} (hQ : Q (bv (leafB p q)) []) : X (.call 101 [p.a, q.a] [] Q) := by
  refine call_intro hX Try.func101 rfl rfl ?_
  repeat' ((conv => whnf); first | exact hQ | refine ⟨by kernel_rfl, ?_⟩ | refine bct (by assumption) ?_ | refine bcf (by assumption) ?_ | refine bcf (nt (by assumption)) ?_ | refine bct (nf (by assumption)) ?_ | (refine Qb hQ ?_; unfold leafB; simp_all [eqI]; done) | refine hasPrefix_ok hX ?_ | refine bc (fun _ => ?_) (fun _ => ?_))
/-- is p seen in q, so far down? -/
def seenF : Nat → Pred → Pred → Bool
  | 0, _, _ => false
  | N + 1, p, q => ((eqI q.op 1 || eqI p.op 2) || (sameP p q || leafB p q)) ||
      ((eqI p.op 9 && !(p.kids.any fun k => !seenF N k q)) || ((eqI q.op 8 && !(q.kids.any fun k => !seenF N p k)) || ((eqI p.op 8 && p.kids.any fun k => seenF N k q) || ((eqI q.op 9 && q.kids.any fun k => seenF N p k) ||
        (eqI p.op 10 && (eqI q.op 10 && (match q.kids, p.kids with | k :: _, m :: _ => seenF N k m | _, _ => false)))))))
section
variable {X : Task → Prop} (hX : Closed X) {k p q : Pred} {b : Bool} {Q : A → List Blk → Prop}
include hX
theorem within_rp (hk : ∀ Q' : A → List Blk → Prop, Q' (bv b) [] → X (.call 77 [k.a, q.a] [] Q')) (hQ : Q (bv b) []) : X (.call 102 [k.a, .one (.rp [ip q.op, .v (.string q.text), ip q.n, .v (.complex .f64 q.re q.im), .sl (rows q.kids)])] [] Q) := by
  refine call_intro hX Try.func102 rfl rfl ?_
  repeat' ((conv => whnf); first | exact hQ | refine ⟨by kernel_rfl, ?_⟩ | refine bct (by assumption) ?_ | refine bcf (by assumption) ?_ | refine bcf (nt (by assumption)) ?_ | refine bct (nf (by assumption)) ?_ | refine hk _ ?_)
theorem beside_rp (hk : ∀ Q' : A → List Blk → Prop, Q' (bv b) [] → X (.call 77 [k.a, q.a] [] Q')) (hQ : Q (bv (!b)) []) : X (.call 103 [k.a, .one (.rp [ip q.op, .v (.string q.text), ip q.n, .v (.complex .f64 q.re q.im), .sl (rows q.kids)])] [] Q) := by
  refine call_intro hX Try.func103 rfl rfl ?_
  repeat' ((conv => whnf); first | exact hQ | refine ⟨by kernel_rfl, ?_⟩ | refine bct (by assumption) ?_ | refine bcf (by assumption) ?_ | refine bcf (nt (by assumption)) ?_ | refine bct (nf (by assumption)) ?_ | refine hk _ ?_)
theorem over_rp (hk : ∀ Q' : A → List Blk → Prop, Q' (bv b) [] → X (.call 77 [p.a, k.a] [] Q')) (hQ : Q (bv b) []) : X (.call 104 [k.a, .one (.rp [ip p.op, .v (.string p.text), ip p.n, .v (.complex .f64 p.re p.im), .sl (rows p.kids)])] [] Q) := by
  refine call_intro hX Try.func104 rfl rfl ?_
  repeat' ((conv => whnf); first | exact hQ | refine ⟨by kernel_rfl, ?_⟩ | refine bct (by assumption) ?_ | refine bcf (by assumption) ?_ | refine bcf (nt (by assumption)) ?_ | refine bct (nf (by assumption)) ?_ | refine hk _ ?_)
theorem under_rp (hk : ∀ Q' : A → List Blk → Prop, Q' (bv b) [] → X (.call 77 [p.a, k.a] [] Q')) (hQ : Q (bv (!b)) []) : X (.call 105 [k.a, .one (.rp [ip p.op, .v (.string p.text), ip p.n, .v (.complex .f64 p.re p.im), .sl (rows p.kids)])] [] Q) := by
  refine call_intro hX Try.func105 rfl rfl ?_
  repeat' ((conv => whnf); first | exact hQ | refine ⟨by kernel_rfl, ?_⟩ | refine bct (by assumption) ?_ | refine bcf (by assumption) ?_ | refine bcf (nt (by assumption)) ?_ | refine bct (nf (by assumption)) ?_ | refine hk _ ?_)
end
theorem fits_kid {p : Pred} (h : fitsP p = true) {j : Nat} (hj : j < p.kids.length) : fitsP p.kids[j] = true := by
  rw [fitsP_eq, Bool.and_eq_true] at h; exact fitsL_mem h.2 (List.getElem_mem hj)
theorem fits_ten {p : Pred} (h : fitsP p = true) (ho : p.op = 10) : ∃ k, p.kids = [k] := by
  rw [fitsP_eq, Bool.and_eq_true, ho] at h
  have h1 := h.1
  unfold partB at h1
  simp [len_rows, eqI] at h1
  match hk : p.kids, h1 with
  | [k], _ => exact ⟨k, rfl⟩
  | [], h1 => simp [hk] at h1
  | _ :: _ :: _, h1 => simp [hk] at h1; omega
theorem in_ok {X : Task → Prop} (hX : Closed X) : ∀ (N : Nat) {p q : Pred} {Q : A → List Blk → Prop}, p.size + q.size ≤ N → p.Ok → q.Ok → fitsP p = true → fitsP q = true → Q (bv (seenF N p q)) [] → X (.call 77 [p.a, q.a] [] Q)
  | 0, p, _, _, h, _, _, _, _, _ => absurd h (by have := size_pos p; omega)
  | N + 1, p, q, Q, h, op, oq, fp, fq, hQ => by
    have hlp := op.len
    have hlq := oq.len
    have hkp : ∀ (j : Nat) (hj : j < p.kids.length) (Q' : A → List Blk → Prop), Q' (bv (seenF N p.kids[j] q)) [] → X (.call 77 [p.kids[j].a, q.a] [] Q') := fun j hj Q' hQ' => in_ok hX N (by have := size_kid hj; omega) (op.kid hj) oq (fits_kid fp hj) fq hQ'
    have hkq : ∀ (j : Nat) (hj : j < q.kids.length) (Q' : A → List Blk → Prop), Q' (bv (seenF N p q.kids[j])) [] → X (.call 77 [p.a, q.kids[j].a] [] Q') := fun j hj Q' hQ' => in_ok hX N (by have := size_kid hj; omega) op (oq.kid hj) fp (fits_kid fq hj) hQ'
    unfold seenF at hQ
    refine call_intro hX Try.func77 rfl rfl ?_
    by_cases h10 : p.op = 10 ∧ q.op = 10
    · obtain ⟨k, hk⟩ := fits_ten fq h10.2
      obtain ⟨m, hm⟩ := fits_ten fp h10.1
      have hqk : 0 < q.kids.length := by rw [hk]; simp
      have hpk : 0 < p.kids.length := by rw [hm]; simp
      have r1 : lenB (rows q.kids) 0 = true := lenB_rows hqk
      have r2 : lenB (rows p.kids) 0 = true := lenB_rows hpk
      have r3 := at_rows hqk
      have r4 := at_rows hpk
      have e1 : eqI p.op 1 = false := by rw [h10.1]; rfl
      have e2 : eqI p.op 2 = false := by rw [h10.1]; rfl
      have e8 : eqI p.op 8 = false := by rw [h10.1]; rfl
      have e9 : eqI p.op 9 = false := by rw [h10.1]; rfl
      have e10 : eqI p.op 10 = true := by rw [h10.1]; rfl
      have g1 : eqI q.op 1 = false := by rw [h10.2]; rfl
      have g8 : eqI q.op 8 = false := by rw [h10.2]; rfl
      have g9 : eqI q.op 9 = false := by rw [h10.2]; rfl
      have g10 : eqI q.op 10 = true := by rw [h10.2]; rfl
      rw [e2, e8, e9, e10, g1, g8, g9, g10] at hQ
      have hrec : ∀ (Q' : A → List Blk → Prop), Q' (bv (seenF N q.kids[0] p.kids[0])) [] → X (.call 77 [q.kids[0].a, p.kids[0].a] [] Q') := fun Q' hQ' => in_ok hX N (by have := size_kid hqk; have := size_kid hpk; omega) (oq.kid hqk) (op.kid hpk) (fits_kid fq hqk) (fits_kid fp hpk) hQ'
      have hv : (match q.kids, p.kids with | k :: _, m :: _ => seenF N k m | _, _ => false) = seenF N q.kids[0] p.kids[0] := by simp only [hk, hm]; rfl
      rw [hv] at hQ
      simp only [Bool.false_or, Bool.false_and, Bool.true_and] at hQ
      repeat' ((conv => whnf); first | exact hQ | refine ⟨by kernel_rfl, ?_⟩ | refine bct (by assumption) ?_ | refine bcf (by assumption) ?_ | refine bcf (nt (by assumption)) ?_ | refine bct (nf (by assumption)) ?_ | (refine Qb hQ ?_; simp_all; done) | (refine psame_ok hX p.size (p := p) (q := q) (Nat.le_refl _) op ?_) | refine leaf_pred_ok hX ?_ | refine row_in r3 ?_ | refine row_in r4 ?_ | refine hrec _ ?_ | refine bc (fun _ => ?_) (fun _ => ?_))
    · have hz : (eqI p.op 10 && (eqI q.op 10 && (match q.kids, p.kids with | k :: _, m :: _ => seenF N k m | _, _ => false))) = false := by
        by_cases h1 : p.op = 10
        · rw [show eqI q.op 10 = false from eqI_f.2 fun h2 => h10 ⟨h1, h2⟩]; simp
        · rw [show eqI p.op 10 = false from eqI_f.2 h1]; simp
      have hz2 : eqI p.op 10 = true → eqI q.op 10 = false := fun h1 => eqI_f.2 fun h2 => h10 ⟨eqI_t.1 h1, h2⟩
      rw [hz, Bool.or_false] at hQ
      repeat' ((conv => whnf); first | exact hQ | refine ⟨by kernel_rfl, ?_⟩ | refine bct (by assumption) ?_ | refine bcf (by assumption) ?_ | refine bcf (nt (by assumption)) ?_ | refine bct (nf (by assumption)) ?_ | (refine Qb hQ ?_; simp_all; done) | (refine psame_ok hX p.size (p := p) (q := q) (Nat.le_refl _) op ?_) | refine leaf_pred_ok hX ?_ | refine Or.inr (Or.inl ?_) | (refine containsFunc_ok hX (P := fun k => !seenF N k q) hlp (fun j hj Q' hQ' => beside_rp hX (hkp j hj) hQ') ?_) | (refine containsFunc_ok hX (P := fun k => !seenF N p k) hlq (fun j hj Q' hQ' => under_rp hX (hkq j hj) hQ') ?_) | (refine containsFunc_ok hX (P := fun k => seenF N k q) hlp (fun j hj Q' hQ' => within_rp hX (hkp j hj) hQ') ?_) | (refine containsFunc_ok hX (P := fun k => seenF N p k) hlq (fun j hj Q' hQ' => over_rp hX (hkq j hj) hQ') ?_) | refine bcf (hz2 (by assumption)) ?_ | refine bc (fun _ => ?_) (fun _ => ?_))
end Go.Proofs.Ytaiedakbmmgmaaa
