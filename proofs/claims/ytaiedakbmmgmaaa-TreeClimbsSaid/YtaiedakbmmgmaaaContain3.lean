/- Which filter is seen in which (layer 5): both answers, and what they are. -/
import Dbgx.Dbg
import Derived.Test.YtaiedakbmmgmaaaContain2
set_option linter.unusedVariables false
set_option linter.unusedSimpArgs false
set_option maxRecDepth 100000
set_option maxHeartbeats 4000000
namespace Go.Proofs.Ytaiedakbmmgmaaa
open Go E Pred
theorem seen_ok {X : Task → Prop} (hX : Closed X) : ∀ (N : Nat) {p q : Pred} {Q : A → List Blk → Prop}, p.size + q.size ≤ N → p.Ok → q.Ok → fitsP p = true → fitsP q = true → Q (bv (seenF N p q)) [] → X (.call 78 [p.a, q.a] [] Q)
  | 0, p, _, _, h, _, _, _, _, _ => absurd h (by have := size_pos p; omega)
  | N + 1, p, q, Q, h, op, oq, fp, fq, hQ => by
    have hkp : ∀ (j : Nat) (hj : j < p.kids.length) (Q' : A → List Blk → Prop), Q' (bv (seenF N p.kids[j] q)) [] → X (.call 78 [p.kids[j].a, q.a] [] Q') := fun j hj Q' hQ' => seen_ok hX N (by have := size_kid hj; omega) (op.kid hj) oq (fits_kid fp hj) fq hQ'
    have hkq : ∀ (j : Nat) (hj : j < q.kids.length) (Q' : A → List Blk → Prop), Q' (bv (seenF N p q.kids[j])) [] → X (.call 78 [p.a, q.kids[j].a] [] Q') := fun j hj Q' hQ' => seen_ok hX N (by have := size_kid hj; omega) op (oq.kid hj) fp (fits_kid fq hj) hQ'
    have otq := oq.text
    rw [seenF_eq] at hQ
    refine call_intro hX Try.func78 rfl rfl ?_
    refine merge (G := ((eqI q.op 1 || eqI p.op 2) || sameP p q) = false → listsB N p q = false → X (.rest 78 0 ?c (pad [(2, .one (.ptr 0 0)), (0, .one (.ptr 1 0))] 101) [.box p.cs, .box q.cs] ?K)) (fun tail => ?_) ?_
    rotate_left 2
    · have hl : ∀ b, eqI p.op 8 = false → eqI p.op 9 = false → eqI q.op 8 = false → eqI q.op 9 = b → b = false → listsB N p q = false := fun b h1 h2 h3 h4 h5 => by unfold listsB half; rw [h1, h2, h3, h4, h5]; rfl
      repeat' ((conv => whnf); first | exact hQ | refine ⟨by kernel_rfl, ?_⟩ | refine bct (by assumption) ?_ | refine bcf (by assumption) ?_ | refine bcf (nt (by assumption)) ?_ | refine bct (nf (by assumption)) ?_ | (refine tail.h (by simp_all) (by assumption)) | (refine tail.h (by simp_all) (hl _ (by assumption) (by assumption) (by assumption) rfl (by assumption))) | (refine Qb hQ ?_; simp_all; done) | (refine rsame_pred_ok hX p.size (p := p) (q := q) (Nat.le_refl _) op ?_) | refine lists_ok hX op oq hkp hkq ?_ | refine bc (fun _ => ?_) (fun _ => ?_))
    · intro hA hL
      rw [hA, hL, Bool.false_or, Bool.false_or] at hQ
      clear hA hL
      refine rest_intro hX ?_
      by_cases h10 : p.op = 10 ∧ q.op = 10
      · obtain ⟨k, hk⟩ := fits_ten fq h10.2
        obtain ⟨m, hm⟩ := fits_ten fp h10.1
        have hqk : 0 < q.kids.length := by rw [hk]; simp
        have hpk : 0 < p.kids.length := by rw [hm]; simp
        have r1 : lenB (rows q.kids) 0 = true := lenB_rows hqk
        have r2 : lenB (rows p.kids) 0 = true := lenB_rows hpk
        have r3 := at_rows hqk
        have r4 := at_rows hpk
        have e0 : eqI p.op q.op = true := by rw [h10.1, h10.2]; rfl
        have e4 : eqI p.op 4 = false := by rw [h10.1]; rfl
        have e5 : eqI p.op 5 = false := by rw [h10.1]; rfl
        have e6 : eqI p.op 6 = false := by rw [h10.1]; rfl
        have e7 : eqI p.op 7 = false := by rw [h10.1]; rfl
        have e10 : eqI p.op 10 = true := by rw [h10.1]; rfl
        have hrec : ∀ (Q' : A → List Blk → Prop), Q' (bv (seenF N q.kids[0] p.kids[0])) [] → X (.call 78 [q.kids[0].a, p.kids[0].a] [] Q') := fun Q' hQ' => seen_ok hX N (by have := size_kid hqk; have := size_kid hpk; omega) (oq.kid hqk) (op.kid hpk) (fits_kid fq hqk) (fits_kid fp hpk) hQ'
        have hv : (leafB p q || notB N p q) = seenF N q.kids[0] p.kids[0] := by
          unfold leafB notB
          simp [h10.1, h10.2, hk, hm, eqI]
        rw [hv] at hQ
        repeat' ((conv => whnf); first | exact hQ | refine ⟨by kernel_rfl, ?_⟩ | refine bct (by assumption) ?_ | refine bcf (by assumption) ?_ | refine bcf (nt (by assumption)) ?_ | refine bct (nf (by assumption)) ?_ | refine row_in r3 ?_ | refine row_in r4 ?_ | refine hrec _ ?_)
      · have hz : notB N p q = false := by
          unfold notB
          by_cases h1 : p.op = 10
          · rw [show eqI q.op 10 = false from eqI_f.2 fun h2 => h10 ⟨h1, h2⟩]; simp
          · rw [show eqI p.op 10 = false from eqI_f.2 h1]; simp
        rw [hz, Bool.or_false] at hQ
        have hne : (!eqI p.op q.op) = false → eqI p.op 10 = false := fun h1 => eqI_f.2 fun h2 => h10 ⟨h2, (show p.op = q.op by simpa [eqI] using h1) ▸ h2⟩
        repeat' ((conv => whnf); first | exact hQ | refine ⟨by kernel_rfl, ?_⟩ | refine bct (by assumption) ?_ | refine bcf (by assumption) ?_ | refine bcf (nt (by assumption)) ?_ | refine bct (nf (by assumption)) ?_ | (refine Qb hQ ?_; unfold leafB; simp_all [eqI]; done) | refine begins_ok hX otq ?_ | refine bcf (hne (by assumption)) ?_ | refine bc (fun _ => ?_) (fun _ => ?_))
/-- is it seen, of filters that may be? -/
def inP (p q : Pred) : Bool := mayP p && (mayP q && seenF (p.size + q.size) p q)
theorem cin_ok {X : Task → Prop} (hX : Closed X) {p q : Pred} {Q : A → List Blk → Prop} (op : p.Ok) (oq : q.Ok) (hQ : Q (bv (inP p q)) []) : X (.call 37 [p.a, q.a] [] Q) := by
  unfold inP at hQ
  refine call_intro hX Try.func37 rfl rfl ?_
  cases mp : mayP p with
  | false =>
    rw [mp] at hQ
    repeat' ((conv => whnf); first | exact hQ | refine ⟨by kernel_rfl, ?_⟩ | refine bct (by assumption) ?_ | refine bcf (by assumption) ?_ | refine bcf (nt (by assumption)) ?_ | refine bct (nf (by assumption)) ?_ | refine known bv (fun _ h => may_pred_ok hX op h) mp ?_)
  | true =>
    cases mq : mayP q with
    | false =>
      rw [mp, mq] at hQ
      repeat' ((conv => whnf); first | exact hQ | refine ⟨by kernel_rfl, ?_⟩ | refine bct (by assumption) ?_ | refine bcf (by assumption) ?_ | refine bcf (nt (by assumption)) ?_ | refine bct (nf (by assumption)) ?_ | refine known bv (fun _ h => may_pred_ok hX op h) mp ?_ | refine known bv (fun _ h => may_pred_ok hX oq h) mq ?_)
    | true =>
      rw [mp, mq, Bool.true_and, Bool.true_and] at hQ
      repeat' ((conv => whnf); first | exact hQ | refine ⟨by kernel_rfl, ?_⟩ | refine bct (by assumption) ?_ | refine bcf (by assumption) ?_ | refine bcf (nt (by assumption)) ?_ | refine bct (nf (by assumption)) ?_ | refine known bv (fun _ h => may_pred_ok hX op h) mp ?_ | refine known bv (fun _ h => may_pred_ok hX oq h) mq ?_ | refine in_ok hX _ (Nat.le_refl _) op oq (mayP_iff.1 mp).2.2 (mayP_iff.1 mq).2.2 ?_)
theorem rin_ok {X : Task → Prop} (hX : Closed X) {p q : Pred} {Q : A → List Blk → Prop} (op : p.Ok) (oq : q.Ok) (sp : p.size ≤ 1000) (sq : q.size ≤ 1000) (hQ : Q (bv (inP p q)) []) : X (.call 38 [p.a, q.a] [] Q) := by
  unfold inP at hQ
  refine call_intro hX Try.func38 rfl rfl ?_
  cases mp : mayP p with
  | false =>
    rw [mp] at hQ
    repeat' ((conv => whnf); first | exact hQ | refine ⟨by kernel_rfl, ?_⟩ | refine bct (by assumption) ?_ | refine bcf (by assumption) ?_ | refine bcf (nt (by assumption)) ?_ | refine bct (nf (by assumption)) ?_ | refine known bv (fun _ h => rmay_pred_ok hX sp op h) mp ?_ | refine rmay_pred_ok hX sq oq ?_)
  | true =>
    cases mq : mayP q with
    | false =>
      rw [mp, mq] at hQ
      repeat' ((conv => whnf); first | exact hQ | refine ⟨by kernel_rfl, ?_⟩ | refine bct (by assumption) ?_ | refine bcf (by assumption) ?_ | refine bcf (nt (by assumption)) ?_ | refine bct (nf (by assumption)) ?_ | refine known bv (fun _ h => rmay_pred_ok hX sp op h) mp ?_ | refine known bv (fun _ h => rmay_pred_ok hX sq oq h) mq ?_)
    | true =>
      rw [mp, mq, Bool.true_and, Bool.true_and] at hQ
      repeat' ((conv => whnf); first | exact hQ | refine ⟨by kernel_rfl, ?_⟩ | refine bct (by assumption) ?_ | refine bcf (by assumption) ?_ | refine bcf (nt (by assumption)) ?_ | refine bct (nf (by assumption)) ?_ | refine known bv (fun _ h => rmay_pred_ok hX sp op h) mp ?_ | refine known bv (fun _ h => rmay_pred_ok hX sq oq h) mq ?_ | refine seen_ok hX _ (Nat.le_refl _) op oq (mayP_iff.1 mp).2.2 (mayP_iff.1 mq).2.2 ?_)
attribute [irreducible] inP
end Go.Proofs.Ytaiedakbmmgmaaa
