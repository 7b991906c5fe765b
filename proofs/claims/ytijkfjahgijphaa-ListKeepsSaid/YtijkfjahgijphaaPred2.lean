/- Filters (layer 3): which ones may be. -/
import Derived.Test.YtijkfjahgijphaaPred
set_option linter.unusedVariables false
set_option linter.unusedSimpArgs false
set_option maxRecDepth 100000
set_option maxHeartbeats 4000000
namespace Go.Proofs.Ytijkfjahgijphaa
open Go E Pred
theorem eqS_nil (s : ByteArray) : eqS s ⟨#[]⟩ = decide (s.size = 0) := by
  unfold eqS
  rw [Bool.eq_iff_iff, beq_iff_eq, decide_eq_true_iff]
  show s.data.toList = [] ↔ s.data.size = 0
  rw [← Array.length_toList, List.length_eq_zero_iff]
theorem text_eq (s : ByteArray) : (eqS s ⟨#[]⟩ || lettersB s 1) = lettersB s 0 := by
  rw [eqS_nil]
  unfold lettersB
  by_cases h : s.size = 0
  · have hb : bytesOf s = [] := List.eq_nil_of_length_eq_zero (by rw [bytes_len]; exact h)
    have e1 : ltI (lenS s) 0 = false := ltI_f.2 (by rw [lenS_def]; omega)
    have e2 : ltI 8 (lenS s) = false := ltI_f.2 (by rw [lenS_def]; omega)
    rw [hb, e1, e2, decide_eq_true h]; rfl
  · have e1 : ltI (lenS s) 0 = false := ltI_f.2 (by rw [lenS_def]; omega)
    have e2 : ltI (lenS s) 1 = false := ltI_f.2 (by rw [lenS_def]; omega)
    rw [e1, e2, decide_eq_false h]; rfl
theorem ptext_ok {X : Task → Prop} (hX : Closed X) {s : ByteArray} {Q : A → List Blk → Prop} (hs : s.size ≤ 9223372036854775807) (hQ : Q (bv (lettersB s 0)) []) : X (.call 163 [sv s] [] Q) := by
  refine call_intro hX Try.func163 rfl rfl ?_
  repeat' ((conv => whnf); first | exact hQ | refine eqv_id ?_ | refine Two.l ?_ | refine ⟨by kernel_rfl, ?_⟩ | refine bct (by assumption) ?_ | refine bcf (by assumption) ?_ | refine bcf (nt (by assumption)) ?_ | refine bct (nf (by assumption)) ?_ | refine name_ok hX hs ?_ | refine bc (fun _ => ?_) (fun _ => ?_))
  all_goals (conv => whnf)
  all_goals (refine Qb hQ ?_; rw [← text_eq]; simp_all)
def nearP (x y : Nat) (n : Int) : Bool := placeB x y && (leI 0 n && leI n 8000000)
def partB (o : Int) (t : ByteArray) (n : Int) (x y : Nat) (ks : List Pred) : Bool :=
  if o = 1 ∨ o = 2 then ((eqS t ⟨#[]⟩ && (eqI n 0 && (eqFl .f64 x 0 && eqFl .f64 y 0))) && eqI (lenL (rows ks)) 0)
  else if o = 3 ∨ o = 4 then (lettersB t 0 && (eqI n 0 && ((eqFl .f64 x 0 && eqFl .f64 y 0) && eqI (lenL (rows ks)) 0)))
  else if o = 5 ∨ o = 6 then (eqS t ⟨#[]⟩ && (leI (-1000000) n && (leI n 1000000 && ((eqFl .f64 x 0 && eqFl .f64 y 0) && eqI (lenL (rows ks)) 0))))
  else if o = 7 then (eqS t ⟨#[]⟩ && (nearP x y n && eqI (lenL (rows ks)) 0))
  else if o = 8 ∨ o = 9 then (eqS t ⟨#[]⟩ && (eqI n 0 && (eqFl .f64 x 0 && eqFl .f64 y 0)))
  else if o = 10 then ((eqS t ⟨#[]⟩ && (eqI n 0 && (eqFl .f64 x 0 && eqFl .f64 y 0))) && eqI (lenL (rows ks)) 1)
  else false
theorem r10 (o : Int) : o = 1 ∨ o = 2 ∨ o = 3 ∨ o = 4 ∨ o = 5 ∨ o = 6 ∨ o = 7 ∨ o = 8 ∨ o = 9 ∨ o = 10 ∨ (o ≠ 1 ∧ o ≠ 2 ∧ o ≠ 3 ∧ o ≠ 4 ∧ o ≠ 5 ∧ o ≠ 6 ∧ o ≠ 7 ∧ o ≠ 8 ∧ o ≠ 9 ∧ o ≠ 10) := by omega
abbrev prow (o : Int) (t : ByteArray) (n : Int) (x y : Nat) (ks : List Pred) : A := .agg [ic o, .p (.v (.string t)), ic n, .p (.v (.complex .f64 x y)), .p (.sl (rows ks))]
theorem pnear_ok {X : Task → Prop} (hX : Closed X) {o : Int} {t : ByteArray} {n : Int} {x y : Nat} {ks : List Pred} {Q : A → List Blk → Prop} (hQ : Q (bv (nearP x y n)) []) : X (.call 164 [prow o t n x y ks] [] Q) := by
  refine call_intro hX Try.func164 rfl rfl ?_
  repeat' ((conv => whnf); first | exact hQ | refine eqv_id ?_ | refine Two.l ?_ | refine ⟨by kernel_rfl, ?_⟩ | refine bct (by assumption) ?_ | refine bcf (by assumption) ?_ | refine bcf (nt (by assumption)) ?_ | refine bct (nf (by assumption)) ?_ | refine place_may_ok hX ?_ | refine bc (fun _ => ?_) (fun _ => ?_))
  all_goals (conv => whnf)
  all_goals (refine Qb hQ ?_; unfold nearP; simp_all)
theorem part_raw {X : Task → Prop} (hX : Closed X) {o : Int} {t : ByteArray} {n : Int} {x y : Nat} {ks : List Pred} {Q : A → List Blk → Prop} (ht : t.size ≤ 9223372036854775807) (hQ : Q (bv (partB o t n x y ks)) []) : X (.call 139 [prow o t n x y ks] [] Q) := by
  refine call_intro hX Try.func139 rfl rfl ?_
  rcases r10 o with rfl | rfl | rfl | rfl | rfl | rfl | rfl | rfl | rfl | rfl | ⟨n1, n2, n3, n4, n5, n6, n7, n8, n9, n10⟩
  rotate_right
  · have e1 : eqI o 1 = false := eqI_f.2 n1
    have e2 : eqI o 2 = false := eqI_f.2 n2
    have e3 : eqI o 3 = false := eqI_f.2 n3
    have e4 : eqI o 4 = false := eqI_f.2 n4
    have e5 : eqI o 5 = false := eqI_f.2 n5
    have e6 : eqI o 6 = false := eqI_f.2 n6
    have e7 : eqI o 7 = false := eqI_f.2 n7
    have e8 : eqI o 8 = false := eqI_f.2 n8
    have e9 : eqI o 9 = false := eqI_f.2 n9
    have e10 : eqI o 10 = false := eqI_f.2 n10
    repeat' ((conv => whnf); first | exact hQ | refine eqv_id ?_ | refine Two.l ?_ | refine ⟨by kernel_rfl, ?_⟩ | refine bct (by assumption) ?_ | refine bcf (by assumption) ?_ | refine bcf (nt (by assumption)) ?_ | refine bct (nf (by assumption)) ?_ | (refine Qb hQ ?_; unfold partB; simp [*]; done) | refine bc (fun _ => ?_) (fun _ => ?_))
  all_goals
    repeat' ((conv => whnf); first | exact hQ | refine eqv_id ?_ | refine Two.l ?_ | refine ⟨by kernel_rfl, ?_⟩ | refine bct (by assumption) ?_ | refine bcf (by assumption) ?_ | refine bcf (nt (by assumption)) ?_ | refine bct (nf (by assumption)) ?_ | (refine Qb hQ ?_; unfold partB; simp [*]; done) | (refine Qb hQ ?_; unfold partB; simp_all; done) | refine ptext_ok hX ht ?_ | refine pnear_ok hX ?_ | refine bc (fun _ => ?_) (fun _ => ?_))
def zeroB (t : ByteArray) (n : Int) (x y : Nat) (ks : List Pred) (bt bn ba bk : Bool) : Bool := (bt || eqS t ⟨#[]⟩) && ((bn || eqI n 0) && ((bk || !ltI 0 (lenL (rows ks))) && (ba || (eqFl .f64 x 0 && eqFl .f64 y 0))))
theorem zero_ok {X : Task → Prop} (hX : Closed X) {o : Int} {t : ByteArray} {n : Int} {x y : Nat} {ks : List Pred} {bt bn ba bk : Bool} {Q : A → List Blk → Prop} (hQ : Q (bv (zeroB t n x y ks bt bn ba bk)) []) : X (.call 135 [prow o t n x y ks, bv bt, bv bn, bv ba, bv bk] [] Q) := by
  refine call_intro hX Try.func135 rfl rfl ?_
  repeat' ((conv => whnf); first | exact hQ | refine eqv_id ?_ | refine Two.l ?_ | refine ⟨by kernel_rfl, ?_⟩ | refine bct (by assumption) ?_ | refine bcf (by assumption) ?_ | refine bcf (nt (by assumption)) ?_ | refine bct (nf (by assumption)) ?_ | (refine Qb hQ ?_; unfold zeroB; simp_all; done) | refine bc (fun _ => ?_) (fun _ => ?_))
def condB (o : Int) (t : ByteArray) (n : Int) (x y : Nat) (ks : List Pred) : Bool :=
  if o = 1 ∨ o = 2 then zeroB t n x y ks false false false false
  else if o = 3 ∨ o = 4 then zeroB t n x y ks true false false false && lettersB t 0
  else if o = 5 ∨ o = 6 then zeroB t n x y ks false true false false && (leI (-1000000) n && leI n 1000000)
  else if o = 7 then zeroB t n x y ks false true true false && (placeB x y && (leI 0 n && leI n 8000000))
  else if o = 8 ∨ o = 9 then zeroB t n x y ks false false false true
  else if o = 10 then zeroB t n x y ks false false false true && eqI (lenL (rows ks)) 1
  else false
theorem len0 (ks : List Pred) : (!ltI 0 (lenL (rows ks))) = eqI (lenL (rows ks)) 0 := by
  rw [len_rows]
  cases h : eqI (ks.length : Int) 0 with
  | true => rw [eqI_t] at h; rw [ltI_f.2 (by omega)]; rfl
  | false => rw [eqI_f] at h; rw [ltI_t.2 (by omega)]; rfl
theorem cond_eq (o : Int) (t : ByteArray) (n : Int) (x y : Nat) (ks : List Pred) : condB o t n x y ks = partB o t n x y ks := by
  unfold condB partB zeroB nearP
  rw [len0]
  rcases r10 o with rfl | rfl | rfl | rfl | rfl | rfl | rfl | rfl | rfl | rfl | ⟨n1, n2, n3, n4, n5, n6, n7, n8, n9, n10⟩
  rotate_right
  · simp [*]
  all_goals
    first | (simp only [Int.reduceEq, or_true, true_or, or_false, false_or, if_true, if_false, Bool.true_or, Bool.false_or, Bool.true_and, Bool.and_true]; done) | skip
    try simp only [Int.reduceEq, or_true, true_or, or_false, false_or, if_true, if_false, Bool.true_or, Bool.false_or, Bool.true_and, Bool.and_true]
    try cases eqS t ⟨#[]⟩ <;> cases eqI n 0 <;> cases eqI (lenL (rows ks)) 0 <;> cases (eqFl .f64 x 0 && eqFl .f64 y 0) <;> simp
mutual
/-- may all parts be? -/
def fitsP : Pred → Bool
  | .mk o t n x y ks => partB o t n x y ks && fitsL ks
def fitsL : List Pred → Bool
  | [] => true
  | k :: ks => fitsP k && fitsL ks
end
theorem fitsP_eq (p : Pred) : fitsP p = (partB p.op p.text p.n p.re p.im p.kids && fitsL p.kids) := by cases p; rw [fitsP]; rfl
theorem fitsL_nil : fitsL [] = true := by rw [fitsL]
theorem fitsL_app (l m : List Pred) : fitsL (l ++ m) = (fitsL l && fitsL m) := by
  induction l with
  | nil => rw [fitsL_nil]; simp
  | cons a l ih => rw [List.cons_append, fitsL, fitsL, ih, Bool.and_assoc]
theorem fitsL_take {l : List Pred} {j : Nat} (h : j < l.length) : fitsL (l.take (j + 1)) = (fitsL (l.take j) && fitsP l[j]) := by
  rw [List.take_succ_eq_append_getElem h, fitsL_app]
  congr 1
  rw [fitsL, fitsL_nil, Bool.and_true]
theorem fitsL_mem {l : List Pred} (h : fitsL l = true) {k : Pred} (hk : k ∈ l) : fitsP k = true := by
  induction l with
  | nil => cases hk
  | cons a l ih => rw [fitsL, Bool.and_eq_true] at h; rcases List.mem_cons.1 hk with rfl | hk
                   · exact h.1
                   · exact ih h.2 hk
attribute [irreducible] partB zeroB condB nearP fitsP fitsL
theorem ppart_ok {X : Task → Prop} (hX : Closed X) {p : Pred} {Q : A → List Blk → Prop} (ok : p.Ok) (hQ : Q (bv (partB p.op p.text p.n p.re p.im p.kids)) []) : X (.call 139 [p.a] [] Q) := part_raw hX ok.text hQ
theorem fits_ok {X : Task → Prop} (hX : Closed X) : ∀ (N : Nat) {p : Pred} {Q : A → List Blk → Prop}, p.size ≤ N → p.Ok → Q (bv (fitsP p)) [] → X (.call 94 [p.a] [] Q)
  | 0, p, _, h, _, _ => absurd h (by have := size_pos p; omega)
  | N + 1, p, Q, h, ok, hQ => by
    have ht := ok.text
    have hln := ok.len
    have hk := fun (j : Nat) (hj : j < p.kids.length) => size_kid hj
    have hok := fun (j : Nat) (hj : j < p.kids.length) => ok.kid hj
    have hf := fitsP_eq p
    rw [← cond_eq] at hf
    refine call_intro hX Try.func94 rfl rfl ?_
    rw [hf] at hQ
    clear hf ok
    simp only [Pred.a, Pred.cs]
    generalize p.op = o at *
    generalize p.text = t at *
    generalize p.n = n at *
    generalize p.re = x at *
    generalize p.im = y at *
    generalize p.kids = ks at *
    refine merge (G := ∀ b : Bool, b = condB o t n x y ks → X (.rest 94 0 ?c (pad [(1, .one (.ptr 0 0)), (1, bv b)] 90) [.box [ic o, .p (.v (.string t)), ic n, .p (.v (.complex .f64 x y)), .p (.sl (rows ks))]] ?K)) (fun tail => ?_) ?_
    rotate_left 2
    · rcases r10 o with rfl | rfl | rfl | rfl | rfl | rfl | rfl | rfl | rfl | rfl | ⟨n1, n2, n3, n4, n5, n6, n7, n8, n9, n10⟩
      rotate_right
      · have e1 : eqI o 1 = false := eqI_f.2 n1
        have e2 : eqI o 2 = false := eqI_f.2 n2
        have e3 : eqI o 3 = false := eqI_f.2 n3
        have e4 : eqI o 4 = false := eqI_f.2 n4
        have e5 : eqI o 5 = false := eqI_f.2 n5
        have e6 : eqI o 6 = false := eqI_f.2 n6
        have e7 : eqI o 7 = false := eqI_f.2 n7
        have e8 : eqI o 8 = false := eqI_f.2 n8
        have e9 : eqI o 9 = false := eqI_f.2 n9
        have e10 : eqI o 10 = false := eqI_f.2 n10
        repeat' ((conv => whnf); first | exact hQ | refine eqv_id ?_ | refine Two.l ?_ | refine ⟨by kernel_rfl, ?_⟩ | refine bct (by assumption) ?_ | refine bcf (by assumption) ?_ | refine bcf (nt (by assumption)) ?_ | refine bct (nf (by assumption)) ?_ | (refine tail.h _ ?_; unfold condB; simp [*]; done) | refine rtext_ok hX ht ?_ | refine ref_place_ok hX ?_ | refine zero_ok hX ?_ | refine bc (fun _ => ?_) (fun _ => ?_))
      all_goals
        repeat' ((conv => whnf); first | exact hQ | refine eqv_id ?_ | refine Two.l ?_ | refine ⟨by kernel_rfl, ?_⟩ | refine bct (by assumption) ?_ | refine bcf (by assumption) ?_ | refine bcf (nt (by assumption)) ?_ | refine bct (nf (by assumption)) ?_ | (refine tail.h _ ?_; unfold condB; simp [*]; done) | (refine tail.h _ ?_; unfold condB; simp_all; done) | refine rtext_ok hX ht ?_ | refine ref_place_ok hX ?_ | refine zero_ok hX ?_ | refine bc (fun _ => ?_) (fun _ => ?_))
    · intro b hb
      refine rest_intro hX ?_
      repeat' ((conv => whnf); first | exact hQ | refine eqv_id ?_ | refine Two.l ?_ | refine ⟨by kernel_rfl, ?_⟩ | refine bct (by assumption) ?_ | refine bcf (by assumption) ?_ | refine bcf (nt (by assumption)) ?_ | refine bct (nf (by assumption)) ?_)
      refine range_loop (fun j (b : Bool) => pad [(1, .one (.ptr 0 0)), (1, bv b), (2, iv (j : Int))] 87) (fun _ _ => [.box [ic o, .p (.v (.string t)), ic n, .p (.v (.complex .f64 x y)), .p (.sl (rows ks))]]) (fun j b => b = (condB o t n x y ks && fitsL (ks.take j))) ks.length (fun j b hj hI ih => ?_) (fun b hI => ?_) b (by rw [List.take_zero, fitsL_nil, Bool.and_true]; exact hb)
      · have q1 : ltI (j : Int) (lenL (rows ks)) = true := by rw [len_rows, ltI_t]; omega
        have q2 := lenB_rows hj
        have hk := hk j hj
        have ht := fitsL_take hj
        refine loop_intro hX ?_
        cases b with
        | true => repeat' ((conv => whnf); first | exact hQ | refine eqv_id ?_ | refine Two.l ?_ | refine ⟨by kernel_rfl, ?_⟩ | refine bct (by assumption) ?_ | refine bcf (by assumption) ?_ | refine bcf (nt (by assumption)) ?_ | refine bct (nf (by assumption)) ?_ | (rw [at_rows hj]) | refine fits_ok hX N (p := ks[j]) (by omega) (hok j hj) ?_ | (rw [wrS (by omega)]; exact ih _ (by rw [ht, ← Bool.and_assoc, ← hI]; rfl)))
        | false => repeat' ((conv => whnf); first | exact hQ | refine eqv_id ?_ | refine Two.l ?_ | refine ⟨by kernel_rfl, ?_⟩ | refine bct (by assumption) ?_ | refine bcf (by assumption) ?_ | refine bcf (nt (by assumption)) ?_ | refine bct (nf (by assumption)) ?_ | (rw [at_rows hj]) | refine fits_ok hX N (p := ks[j]) (by omega) (hok j hj) ?_ | (rw [wrS (by omega)]; exact ih _ (by rw [ht, ← Bool.and_assoc, ← hI]; rfl)))
      · have q1 : ltI (ks.length : Int) (lenL (rows ks)) = false := by rw [len_rows, ltI_f]; omega
        rw [List.take_length] at hI
        refine loop_intro hX ?_
        repeat' ((conv => whnf); first | exact hQ | refine eqv_id ?_ | refine Two.l ?_ | refine ⟨by kernel_rfl, ?_⟩ | refine bct (by assumption) ?_ | refine bcf (by assumption) ?_ | refine bcf (nt (by assumption)) ?_ | refine bct (nf (by assumption)) ?_ | (exact Qb hQ hI.symm))
def mayP (p : Pred) : Bool := decide (p.size ≤ 30) && (decide (p.depth ≤ 6) && fitsP p)
theorem rmay_pred_ok {X : Task → Prop} (hX : Closed X) {p : Pred} {Q : A → List Blk → Prop} (hs : p.size ≤ 1000) (ok : p.Ok) (hQ : Q (bv (mayP p)) []) : X (.call 35 [p.a] [] Q) := by
  refine call_intro hX Try.func35 rfl rfl ?_
  have e1 : leI (p.size : Int) 30 = decide (p.size ≤ 30) := by unfold leI; exact decide_eq_decide.2 (by omega)
  have e2 : leI (p.depth : Int) 6 = decide (p.depth ≤ 6) := by unfold leI; exact decide_eq_decide.2 (by omega)
  repeat' ((conv => whnf); first | exact hQ | refine eqv_id ?_ | refine Two.l ?_ | refine ⟨by kernel_rfl, ?_⟩ | refine bct (by assumption) ?_ | refine bcf (by assumption) ?_ | refine bcf (nt (by assumption)) ?_ | refine bct (nf (by assumption)) ?_ | (refine Qb hQ ?_; unfold mayP; rw [← e1, ← e2]; simp_all; done) | refine rsize_ok hX p.size (Nat.le_refl _) hs ?_ | refine rdepth_ok hX p.size (Nat.le_refl _) hs ?_ | refine fits_ok hX p.size (Nat.le_refl _) ok ?_ | refine bc (fun _ => ?_) (fun _ => ?_))
/-- within so many parts, so deep -/
def goodP (p : Pred) (d m : Nat) : Bool := fitsP p && (decide (p.size ≤ m) && decide (p.depth ≤ d))
theorem pmay_ok {X : Task → Prop} (hX : Closed X) : ∀ (N : Nat) {p : Pred} {d m : Nat} {Q : A → List Blk → Prop}, p.size ≤ N → p.Ok → d ≤ 1000 → m ≤ 1000 → (goodP p d m = true → Q (bv true) [.box [ic ((m - p.size : Nat) : Int)]]) → (goodP p d m = false → ∀ l : Int, Q (bv false) [.box [ic l]]) → X (.call 96 [p.a, iv (d : Int), .one (.ptr 0 0)] [.box [ic (m : Int)]] Q)
  | 0, p, _, _, _, h, _, _, _, _, _ => absurd h (by have := size_pos p; omega)
  | N + 1, p, d, m, Q, h, ok, hd, hm, hQ, hF => by
    have hsz := size_eq p
    have hde := depth_eq p
    have hft := fitsP_eq p
    have hln := ok.len
    refine call_intro hX Try.func96 rfl rfl ?_
    by_cases h0 : d = 0 ∨ m = 0 ∨ partB p.op p.text p.n p.re p.im p.kids = false
    · have hg : goodP p d m = false := by
        unfold goodP
        rcases h0 with rfl | rfl | h0
        · rw [decide_eq_false (p := p.depth ≤ 0) (by omega)]; simp
        · rw [decide_eq_false (p := p.size ≤ 0) (by omega)]; simp
        · rw [hft, h0]; rfl
      have hF := hF hg
      by_cases hd0 : d = 0
      · have q1 : eqI (d : Int) 0 = true := eqI_t.2 (by omega)
        repeat' ((conv => whnf); first | exact hQ | refine eqv_id ?_ | refine Two.l ?_ | refine ⟨by kernel_rfl, ?_⟩ | refine bct (by assumption) ?_ | refine bcf (by assumption) ?_ | refine bcf (nt (by assumption)) ?_ | refine bct (nf (by assumption)) ?_ | (exact hF _))
      · have q1 : eqI (d : Int) 0 = false := eqI_f.2 (by omega)
        by_cases hm0 : m = 0
        · have q2 : eqI (m : Int) 0 = true := eqI_t.2 (by omega)
          repeat' ((conv => whnf); first | exact hQ | refine eqv_id ?_ | refine Two.l ?_ | refine ⟨by kernel_rfl, ?_⟩ | refine bct (by assumption) ?_ | refine bcf (by assumption) ?_ | refine bcf (nt (by assumption)) ?_ | refine bct (nf (by assumption)) ?_ | (exact hF _))
        · have q2 : eqI (m : Int) 0 = false := eqI_f.2 (by omega)
          have h0 : partB p.op p.text p.n p.re p.im p.kids = false := (h0.resolve_left hd0).resolve_left hm0
          repeat' ((conv => whnf); first | exact hQ | refine eqv_id ?_ | refine Two.l ?_ | refine ⟨by kernel_rfl, ?_⟩ | refine bct (by assumption) ?_ | refine bcf (by assumption) ?_ | refine bcf (nt (by assumption)) ?_ | refine bct (nf (by assumption)) ?_ | (exact hF _) | (refine ppart_ok hX ok ?_; rw [h0]))
    · have hd0 : d ≠ 0 := fun h => h0 (.inl h)
      have hm0 : m ≠ 0 := fun h => h0 (.inr (.inl h))
      have hp : partB p.op p.text p.n p.re p.im p.kids = true := by
        cases h : partB p.op p.text p.n p.re p.im p.kids with
        | true => rfl
        | false => exact absurd (.inr (.inr h)) h0
      have q1 : eqI (d : Int) 0 = false := eqI_f.2 (by omega)
      have q2 : eqI (m : Int) 0 = false := eqI_f.2 (by omega)
      repeat' ((conv => whnf); first | exact hQ | refine eqv_id ?_ | refine Two.l ?_ | refine ⟨by kernel_rfl, ?_⟩ | refine bct (by assumption) ?_ | refine bcf (by assumption) ?_ | refine bcf (nt (by assumption)) ?_ | refine bct (nf (by assumption)) ?_ | (refine ppart_ok hX ok ?_; rw [hp]))
      (conv => whnf)
      refine range_loop (fun j (_ : Int) => pad [(1, iv (d : Int)), (0, .one (.ptr 0 0)), (25, sl (rows p.kids)), (0, iv (lenL (rows p.kids))), (0, iv (j : Int))] 10) (fun _ l => [.box [ic l]]) (fun j l => l = ((m - 1 - sizes (p.kids.take j) : Nat) : Int) ∧ fitsL (p.kids.take j) = true ∧ sizes (p.kids.take j) ≤ m - 1 ∧ depths (p.kids.take j) ≤ d - 1) p.kids.length (fun j l hj hI ih => ?_) (fun l hI => ?_) _ ⟨by rw [wr64 (by omega) (by omega), List.take_zero, sizes_nil]; omega, by rw [List.take_zero, fitsL_nil], by rw [List.take_zero, sizes_nil]; omega, by rw [List.take_zero, depths_nil]; omega⟩
      · obtain ⟨rfl, hI1, hI2, hI3⟩ := hI
        have q1 : ltI (j : Int) (lenL (rows p.kids)) = true := by rw [len_rows, ltI_t]; omega
        have q2 := lenB_rows hj
        have hk := size_kid hj
        have ht := fitsL_take hj
        have hs := take_sizes hj
        have hdp := take_depths hj
        have hsl := take_sizes_le p.kids (j + 1)
        have hdm := depth_mem (List.getElem_mem hj)
        have ew : wr .i64 ((d : Int) - 1) = ((d - 1 : Nat) : Int) := by rw [wr64 (by omega) (by omega)]; omega
        refine loop_intro hX ?_
        repeat' ((conv => whnf); first | exact hQ | refine eqv_id ?_ | refine Two.l ?_ | refine ⟨by kernel_rfl, ?_⟩ | refine bct (by assumption) ?_ | refine bcf (by assumption) ?_ | refine bcf (nt (by assumption)) ?_ | refine bct (nf (by assumption)) ?_ | (rw [at_rows hj]) | (rw [ew]; refine pmay_ok hX N (p := p.kids[j]) (by omega) (ok.kid hj) (by omega) (by omega) (fun hg => ?_) (fun hg l => ?_)))
        · have hg' := hg
          unfold goodP at hg'
          simp only [Bool.and_eq_true, decide_eq_true_eq] at hg'
          repeat' ((conv => whnf); first | exact hQ | refine eqv_id ?_ | refine Two.l ?_ | refine ⟨by kernel_rfl, ?_⟩ | refine bct (by assumption) ?_ | refine bcf (by assumption) ?_ | refine bcf (nt (by assumption)) ?_ | refine bct (nf (by assumption)) ?_ | (rw [wrS (by omega)]; exact ih _ ⟨by congr 1; omega, by rw [ht, hI1, hg'.1]; rfl, by omega, by omega⟩))
        · have hgp : goodP p d m = false := by
            cases hgp : goodP p d m with
            | false => rfl
            | true =>
              unfold goodP at hgp hg
              simp only [Bool.and_eq_true, decide_eq_true_eq] at hgp
              obtain ⟨g1, g2, g3⟩ := hgp
              rw [hft, Bool.and_eq_true] at g1
              have := fitsL_mem g1.2 (List.getElem_mem hj)
              rw [this, decide_eq_true (by omega), decide_eq_true (by omega)] at hg
              cases hg
          repeat' ((conv => whnf); first | exact hQ | refine eqv_id ?_ | refine Two.l ?_ | refine ⟨by kernel_rfl, ?_⟩ | refine bct (by assumption) ?_ | refine bcf (by assumption) ?_ | refine bcf (nt (by assumption)) ?_ | refine bct (nf (by assumption)) ?_ | (exact hF hgp _))
      · obtain ⟨rfl, hI1, hI2, hI3⟩ := hI
        have q1 : ltI (p.kids.length : Int) (lenL (rows p.kids)) = false := by rw [len_rows, ltI_f]; omega
        rw [List.take_length] at *
        have hgp : goodP p d m = true := by
          unfold goodP
          rw [hft, hp, hI1, decide_eq_true (by omega), decide_eq_true (by omega)]; rfl
        have e : m - 1 - sizes p.kids = m - p.size := by omega
        rw [e]
        have hQ := hQ hgp
        refine loop_intro hX ?_
        repeat' ((conv => whnf); first | exact hQ | refine eqv_id ?_ | refine Two.l ?_ | refine ⟨by kernel_rfl, ?_⟩ | refine bct (by assumption) ?_ | refine bcf (by assumption) ?_ | refine bcf (nt (by assumption)) ?_ | refine bct (nf (by assumption)) ?_)
theorem good_may (p : Pred) : goodP p 6 30 = mayP p := by unfold goodP mayP; rw [Bool.and_comm, Bool.and_assoc]
theorem may_pred_ok {X : Task → Prop} (hX : Closed X) {p : Pred} {Q : A → List Blk → Prop} (ok : p.Ok) (hQ : Q (bv (mayP p)) []) : X (.call 39 [p.a] [] Q) := by
  refine call_intro hX Try.func39 rfl rfl ?_
  rw [← good_may] at hQ
  repeat' ((conv => whnf); first | exact hQ | refine eqv_id ?_ | refine Two.l ?_ | refine ⟨by kernel_rfl, ?_⟩ | refine bct (by assumption) ?_ | refine bcf (by assumption) ?_ | refine bcf (nt (by assumption)) ?_ | refine bct (nf (by assumption)) ?_ | (refine pmay_ok hX p.size (d := 6) (m := 30) (Nat.le_refl _) ok (by decide) (by decide) (fun hg => ?_) (fun hg l => ?_); all_goals rw [hg] at hQ))
attribute [irreducible] mayP goodP
end Go.Proofs.Ytijkfjahgijphaa
