/- Filters (layer 3): which ones may be. -/
import Derived.Test.YtijkfjahgijphaaAPred
set_option linter.unusedVariables false
set_option linter.unusedSimpArgs false
set_option maxRecDepth 100000
set_option maxHeartbeats 4000000
namespace Go.Proofs.Ytijkfjahgijphaa
open Go E Pred
def nearP (x y : Nat) (n : Int) : Bool := placeB x y && (leI 0 n && leI n 8000000)
def partB (o : Int) (t : ByteArray) (n : Int) (x y : Nat) (ks : List Pred) : Bool :=
  if o = 1 ∨ o = 2 then ((eqS t ⟨#[]⟩ && (eqI n 0 && (eqFl .f64 x 0 && eqFl .f64 y 0))) && eqI (lenL (rows ks)) 0)
  else if o = 3 ∨ o = 4 then (lettersB t 0 && (eqI n 0 && ((eqFl .f64 x 0 && eqFl .f64 y 0) && eqI (lenL (rows ks)) 0)))
  else if o = 5 ∨ o = 6 then (eqS t ⟨#[]⟩ && (leI (-1000000) n && (leI n 1000000 && ((eqFl .f64 x 0 && eqFl .f64 y 0) && eqI (lenL (rows ks)) 0))))
  else if o = 7 then (eqS t ⟨#[]⟩ && (nearP x y n && eqI (lenL (rows ks)) 0))
  else if o = 8 ∨ o = 9 then (eqS t ⟨#[]⟩ && (eqI n 0 && (eqFl .f64 x 0 && eqFl .f64 y 0)))
  else if o = 10 then ((eqS t ⟨#[]⟩ && (eqI n 0 && (eqFl .f64 x 0 && eqFl .f64 y 0))) && eqI (lenL (rows ks)) 1)
  else false
theorem r10 (o : Int) : o = 1 ∨ o = 2 ∨ o = 3 ∨ o = 4 ∨ o = 5 ∨ o = 6 ∨ o = 7 ∨ o = 8 ∨ o = 9 ∨ o = 10 ∨ (o ≠ 1 ∧ o ≠ 2 ∧ o ≠ 3 ∧ o ≠ 4 ∧ o ≠ 5 ∧ o ≠ 6 ∧ o ≠ 7 ∧ o ≠ 8 ∧ o ≠ 9 ∧ o ≠ 10) := by omega
abbrev prow (o : Int) (t : ByteArray) (n : Int) (x y : Nat) (ks : List Pred) : A := .agg [ic o, .p (.v (.string t)), ic n, .p (.v (.complex .f64 x y)), .p (.sl (rows ks))]
def zeroB (t : ByteArray) (n : Int) (x y : Nat) (ks : List Pred) (bt bn ba bk : Bool) : Bool := (bt || eqS t ⟨#[]⟩) && ((bn || eqI n 0) && ((bk || !ltI 0 (lenL (rows ks))) && (ba || (eqFl .f64 x 0 && eqFl .f64 y 0))))
theorem zero_ok {X : Task → Prop} (hX : Closed X) {o : Int} {t : ByteArray} {n : Int} {x y : Nat} {ks : List Pred} {bt bn ba bk : Bool} {Q : A → List Blk → Prop} (hQ : Q (bv (zeroB t n x y ks bt bn ba bk)) []) : X (.call 135 [prow o t n x y ks, bv bt, bv bn, bv ba, bv bk] [] Q) := by
  refine call_intro hX Try.func135 rfl rfl ?_
  repeat' ((conv => whnf); first | exact hQ | refine eqv_id ?_ | refine Two.l ?_ | refine ⟨by kernel_rfl, ?_⟩ | refine bct (by assumption) ?_ | refine bcf (by assumption) ?_ | refine bcf (nt (by assumption)) ?_ | refine bct (nf (by assumption)) ?_ | (refine Qb hQ ?_; unfold zeroB; simp_all; done) | refine bc (fun _ => ?_) (fun _ => ?_))
def condB (o : Int) (t : ByteArray) (n : Int) (x y : Nat) (ks : List Pred) : Bool :=
  if o = 1 ∨ o = 2 then zeroB t n x y ks false false false false
  else if o = 3 ∨ o = 4 then zeroB t n x y ks true false false false && lettersB t 0
  else if o = 5 ∨ o = 6 then zeroB t n x y ks false true false false && (leI (-1000000) n && leI n 1000000)
  else if o = 7 then zeroB t n x y ks false true true false && (placeB x y && (leI 0 n && leI n 8000000))
  else if o = 8 ∨ o = 9 then zeroB t n x y ks false false false true
  else if o = 10 then zeroB t n x y ks false false false true && eqI (lenL (rows ks)) 1
  else false
theorem len0 (ks : List Pred) : (!ltI 0 (lenL (rows ks))) = eqI (lenL (rows ks)) 0 := by
  rw [len_rows]
  cases h : eqI (ks.length : Int) 0 with
  | true => rw [eqI_t] at h; rw [ltI_f.2 (by omega)]; rfl
  | false => rw [eqI_f] at h; rw [ltI_t.2 (by omega)]; rfl
theorem cond_eq (o : Int) (t : ByteArray) (n : Int) (x y : Nat) (ks : List Pred) : condB o t n x y ks = partB o t n x y ks := by
  unfold condB partB zeroB nearP
  rw [len0]
  rcases r10 o with rfl | rfl | rfl | rfl | rfl | rfl | rfl | rfl | rfl | rfl | ⟨n1, n2, n3, n4, n5, n6, n7, n8, n9, n10⟩
  rotate_right
  · simp [*]
  all_goals
    first | (simp only [Int.reduceEq, or_true, true_or, or_false, false_or, if_true, if_false, Bool.true_or, Bool.false_or, Bool.true_and, Bool.and_true]; done) | skip
    try simp only [Int.reduceEq, or_true, true_or, or_false, false_or, if_true, if_false, Bool.true_or, Bool.false_or, Bool.true_and, Bool.and_true]
    try cases eqS t ⟨#[]⟩ <;> cases eqI n 0 <;> cases eqI (lenL (rows ks)) 0 <;> cases (eqFl .f64 x 0 && eqFl .f64 y 0) <;> simp
mutual
def fitsP : Pred → Bool
  | .mk o t n x y ks => partB o t n x y ks && fitsL ks
def fitsL : List Pred → Bool
  | [] => true
  | k :: ks => fitsP k && fitsL ks
end
theorem fitsP_eq (p : Pred) : fitsP p = (partB p.op p.text p.n p.re p.im p.kids && fitsL p.kids) := by cases p; rw [fitsP]; rfl
theorem fitsL_nil : fitsL [] = true := by rw [fitsL]
theorem fitsL_app (l m : List Pred) : fitsL (l ++ m) = (fitsL l && fitsL m) := by
  induction l with
  | nil => rw [fitsL_nil]; simp
  | cons a l ih => rw [List.cons_append, fitsL, fitsL, ih, Bool.and_assoc]
theorem fitsL_take {l : List Pred} {j : Nat} (h : j < l.length) : fitsL (l.take (j + 1)) = (fitsL (l.take j) && fitsP l[j]) := by
  rw [List.take_succ_eq_append_getElem h, fitsL_app]
  congr 1
  rw [fitsL, fitsL_nil, Bool.and_true]
attribute [irreducible] partB zeroB condB nearP fitsP fitsL
theorem fits_ok {X : Task → Prop} (hX : Closed X) : ∀ (N : Nat) {p : Pred} {Q : A → List Blk → Prop}, p.size ≤ N → p.Ok → Q (bv (fitsP p)) [] → X (.call 94 [p.a] [] Q)
  | 0, p, _, h, _, _ => absurd h (by have := size_pos p; omega)
  | N + 1, p, Q, h, ok, hQ => by
    have ht := ok.text
    have hln := ok.len
    have hk := fun (j : Nat) (hj : j < p.kids.length) => size_kid hj
    have hok := fun (j : Nat) (hj : j < p.kids.length) => ok.kid hj
    have hf := fitsP_eq p
    rw [← cond_eq] at hf
    refine call_intro hX Try.func94 rfl rfl ?_
    rw [hf] at hQ
    clear hf ok
    simp only [Pred.a, Pred.cs]
    generalize p.op = o at *
    generalize p.text = t at *
    generalize p.n = n at *
    generalize p.re = x at *
    generalize p.im = y at *
    generalize p.kids = ks at *
    refine merge (G := ∀ b : Bool, b = condB o t n x y ks → X (.rest 94 0 ?c (pad [(1, .one (.ptr 0 0)), (1, bv b)] 90) [.box [ic o, .p (.v (.string t)), ic n, .p (.v (.complex .f64 x y)), .p (.sl (rows ks))]] ?K)) (fun tail => ?_) ?_
    rotate_left 2
    · rcases r10 o with rfl | rfl | rfl | rfl | rfl | rfl | rfl | rfl | rfl | rfl | ⟨n1, n2, n3, n4, n5, n6, n7, n8, n9, n10⟩
      rotate_right
      · have e1 : eqI o 1 = false := eqI_f.2 n1
        have e2 : eqI o 2 = false := eqI_f.2 n2
        have e3 : eqI o 3 = false := eqI_f.2 n3
        have e4 : eqI o 4 = false := eqI_f.2 n4
        have e5 : eqI o 5 = false := eqI_f.2 n5
        have e6 : eqI o 6 = false := eqI_f.2 n6
        have e7 : eqI o 7 = false := eqI_f.2 n7
        have e8 : eqI o 8 = false := eqI_f.2 n8
        have e9 : eqI o 9 = false := eqI_f.2 n9
        have e10 : eqI o 10 = false := eqI_f.2 n10
        repeat' ((conv => whnf); first | exact hQ | refine eqv_id ?_ | refine Two.l ?_ | refine ⟨by kernel_rfl, ?_⟩ | refine bct (by assumption) ?_ | refine bcf (by assumption) ?_ | refine bcf (nt (by assumption)) ?_ | refine bct (nf (by assumption)) ?_ | (refine tail.h _ ?_; unfold condB; simp [*]; done) | refine rtext_ok hX ht ?_ | refine ref_place_ok hX ?_ | refine zero_ok hX ?_ | refine bc (fun _ => ?_) (fun _ => ?_))
      all_goals
        repeat' ((conv => whnf); first | exact hQ | refine eqv_id ?_ | refine Two.l ?_ | refine ⟨by kernel_rfl, ?_⟩ | refine bct (by assumption) ?_ | refine bcf (by assumption) ?_ | refine bcf (nt (by assumption)) ?_ | refine bct (nf (by assumption)) ?_ | (refine tail.h _ ?_; unfold condB; simp [*]; done) | (refine tail.h _ ?_; unfold condB; simp_all; done) | refine rtext_ok hX ht ?_ | refine ref_place_ok hX ?_ | refine zero_ok hX ?_ | refine bc (fun _ => ?_) (fun _ => ?_))
    · intro b hb
      refine rest_intro hX ?_
      repeat' ((conv => whnf); first | exact hQ | refine eqv_id ?_ | refine Two.l ?_ | refine ⟨by kernel_rfl, ?_⟩ | refine bct (by assumption) ?_ | refine bcf (by assumption) ?_ | refine bcf (nt (by assumption)) ?_ | refine bct (nf (by assumption)) ?_)
      refine range_loop (fun j (b : Bool) => pad [(1, .one (.ptr 0 0)), (1, bv b), (2, iv (j : Int))] 87) (fun _ _ => [.box [ic o, .p (.v (.string t)), ic n, .p (.v (.complex .f64 x y)), .p (.sl (rows ks))]]) (fun j b => b = (condB o t n x y ks && fitsL (ks.take j))) ks.length (fun j b hj hI ih => ?_) (fun b hI => ?_) b (by rw [List.take_zero, fitsL_nil, Bool.and_true]; exact hb)
      · have q1 : ltI (j : Int) (lenL (rows ks)) = true := by rw [len_rows, ltI_t]; omega
        have q2 := lenB_rows hj
        have hk := hk j hj
        have ht := fitsL_take hj
        refine loop_intro hX ?_
        cases b with
        | true => repeat' ((conv => whnf); first | exact hQ | refine eqv_id ?_ | refine Two.l ?_ | refine ⟨by kernel_rfl, ?_⟩ | refine bct (by assumption) ?_ | refine bcf (by assumption) ?_ | refine bcf (nt (by assumption)) ?_ | refine bct (nf (by assumption)) ?_ | (rw [at_rows hj]) | refine fits_ok hX N (p := ks[j]) (by omega) (hok j hj) ?_ | (rw [wrS (by omega)]; exact ih _ (by rw [ht, ← Bool.and_assoc, ← hI]; rfl)))
        | false => repeat' ((conv => whnf); first | exact hQ | refine eqv_id ?_ | refine Two.l ?_ | refine ⟨by kernel_rfl, ?_⟩ | refine bct (by assumption) ?_ | refine bcf (by assumption) ?_ | refine bcf (nt (by assumption)) ?_ | refine bct (nf (by assumption)) ?_ | (rw [at_rows hj]) | refine fits_ok hX N (p := ks[j]) (by omega) (hok j hj) ?_ | (rw [wrS (by omega)]; exact ih _ (by rw [ht, ← Bool.and_assoc, ← hI]; rfl)))
      · have q1 : ltI (ks.length : Int) (lenL (rows ks)) = false := by rw [len_rows, ltI_f]; omega
        rw [List.take_length] at hI
        refine loop_intro hX ?_
        repeat' ((conv => whnf); first | exact hQ | refine eqv_id ?_ | refine Two.l ?_ | refine ⟨by kernel_rfl, ?_⟩ | refine bct (by assumption) ?_ | refine bcf (by assumption) ?_ | refine bcf (nt (by assumption)) ?_ | refine bct (nf (by assumption)) ?_ | (exact Qb hQ hI.symm))
def mayP (p : Pred) : Bool := decide (p.size ≤ 30) && (decide (p.depth ≤ 6) && fitsP p)
theorem rmay_pred_ok {X : Task → Prop} (hX : Closed X) {p : Pred} {Q : A → List Blk → Prop} (hs : p.size ≤ 1000) (ok : p.Ok) (hQ : Q (bv (mayP p)) []) : X (.call 35 [p.a] [] Q) := by
  refine call_intro hX Try.func35 rfl rfl ?_
  have e1 : leI (p.size : Int) 30 = decide (p.size ≤ 30) := by unfold leI; exact decide_eq_decide.2 (by omega)
  have e2 : leI (p.depth : Int) 6 = decide (p.depth ≤ 6) := by unfold leI; exact decide_eq_decide.2 (by omega)
  repeat' ((conv => whnf); first | exact hQ | refine eqv_id ?_ | refine Two.l ?_ | refine ⟨by kernel_rfl, ?_⟩ | refine bct (by assumption) ?_ | refine bcf (by assumption) ?_ | refine bcf (nt (by assumption)) ?_ | refine bct (nf (by assumption)) ?_ | (refine Qb hQ ?_; unfold mayP; rw [← e1, ← e2]; simp_all; done) | refine rsize_ok hX p.size (Nat.le_refl _) hs ?_ | refine rdepth_ok hX p.size (Nat.le_refl _) hs ?_ | refine fits_ok hX p.size (Nat.le_refl _) ok ?_ | refine bc (fun _ => ?_) (fun _ => ?_))
attribute [irreducible] mayP
end Go.Proofs.Ytijkfjahgijphaa
