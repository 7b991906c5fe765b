/- Which items a filter has (layer 4): the program's answer, and the document's. -/
import Derived.Test.YtijkfjahgijphaaAPredLaw
import Derived.Test.YtijkfjahgijphaaAKit
set_option linter.unusedVariables false
set_option linter.unusedSimpArgs false
set_option maxRecDepth 100000
set_option maxHeartbeats 4000000
namespace Go.Proofs.Ytijkfjahgijphaa
open Go E Pred
def prefB (s t : ByteArray) : Bool := (bytesOf t).isPrefixOf (bytesOf s)
theorem pref_take {a b : List UInt8} {j : Nat} (hj : j < b.length) (h : b.take j = a.take j) (ha : j < a.length) (he : a[j] = b[j]) : b.take (j + 1) = a.take (j + 1) := by
  rw [List.take_succ_eq_append_getElem hj, List.take_succ_eq_append_getElem ha, h, he]
theorem begins_ok {X : Task → Prop} (hX : Closed X) {s t : ByteArray} {Q : A → List Blk → Prop} (ht : t.size ≤ 9223372036854775807) (hQ : Q (bv (prefB s t)) []) : X (.call 90 [sv s, sv t] [] Q) := by
  refine call_intro hX Try.func90 rfl rfl ?_
  repeat' ((conv => whnf); first | exact hQ | refine eqv_id ?_ | refine Two.l ?_ | refine ⟨by kernel_rfl, ?_⟩ | refine bct (by assumption) ?_ | refine bcf (by assumption) ?_ | refine bcf (nt (by assumption)) ?_ | refine bct (nf (by assumption)) ?_)
  have hlt := bytes_len t
  refine range_loop (fun j (_ : Unit) => pad [(0, sv s), (0, sv t), (3, iv (j : Int))] 19) (fun _ _ => []) (fun j _ => (bytesOf t).take j = (bytesOf s).take j) (bytesOf t).length (fun j st hj hI ih => ?_) (fun st hI => ?_) () rfl
  · have q1 : ltI (j : Int) (lenS t) = true := by rw [len_bytes, ltI_t]; omega
    have q2 := inB_j hj
    have q3 := atS_eq hj
    have hbad : ¬ ((bytesOf t).take (j + 1) = (bytesOf s).take (j + 1)) → prefB s t = false := fun h => by
      cases hp : prefB s t with
      | false => rfl
      | true =>
        unfold prefB at hp
        rw [List.isPrefixOf_iff_prefix] at hp
        obtain ⟨r, hr⟩ := hp
        exact absurd (by rw [← hr, List.take_append_of_le_length (by omega)]) h
    refine loop_intro hX ?_
    by_cases hs : j < (bytesOf s).length
    · have q4 : leI (lenS s) (j : Int) = false := by rw [len_bytes, leI_f]; omega
      have q5 := inB_j hs
      have q6 := atS_eq hs
      by_cases he : (bytesOf s)[j] = (bytesOf t)[j]
      · have q7 : eqI (atS s (j : Int)) (atS t (j : Int)) = true := by rw [q3, q6, he, eqI_t]
        repeat' ((conv => whnf); first | exact hQ | refine eqv_id ?_ | refine Two.l ?_ | refine ⟨by kernel_rfl, ?_⟩ | refine bct (by assumption) ?_ | refine bcf (by assumption) ?_ | refine bcf (nt (by assumption)) ?_ | refine bct (nf (by assumption)) ?_ | (rw [wrS (by omega)]; exact ih () (pref_take hj hI hs he)))
      · have q7 : eqI (atS s (j : Int)) (atS t (j : Int)) = false := by
          rw [q3, q6, eqI_f]
          intro h
          exact he (UInt8.toNat.inj (by omega))
        have hb := hbad fun h => he (by
          rw [List.take_succ_eq_append_getElem hj, List.take_succ_eq_append_getElem hs] at h
          have := List.append_inj_right h (by rw [List.length_take, List.length_take]; omega)
          simpa using this.symm)
        repeat' ((conv => whnf); first | exact hQ | refine eqv_id ?_ | refine Two.l ?_ | refine ⟨by kernel_rfl, ?_⟩ | refine bct (by assumption) ?_ | refine bcf (by assumption) ?_ | refine bcf (nt (by assumption)) ?_ | refine bct (nf (by assumption)) ?_ | (exact Qb hQ hb))
    · have q4 : leI (lenS s) (j : Int) = true := by rw [len_bytes, leI_t]; omega
      have hb := hbad fun h => by
        have := congrArg List.length h
        rw [List.length_take, List.length_take] at this
        omega
      repeat' ((conv => whnf); first | exact hQ | refine eqv_id ?_ | refine Two.l ?_ | refine ⟨by kernel_rfl, ?_⟩ | refine bct (by assumption) ?_ | refine bcf (by assumption) ?_ | refine bcf (nt (by assumption)) ?_ | refine bct (nf (by assumption)) ?_ | (exact Qb hQ hb))
  · have q1 : ltI ((bytesOf t).length : Int) (lenS t) = false := by rw [len_bytes, ltI_f]; omega
    have hp : prefB s t = true := by
      unfold prefB
      rw [List.isPrefixOf_iff_prefix, List.prefix_iff_eq_take]
      rw [List.take_length] at hI
      exact hI
    refine loop_intro hX ?_
    repeat' ((conv => whnf); first | exact hQ | refine eqv_id ?_ | refine Two.l ?_ | refine ⟨by kernel_rfl, ?_⟩ | refine bct (by assumption) ?_ | refine bcf (by assumption) ?_ | refine bcf (nt (by assumption)) ?_ | refine bct (nf (by assumption)) ?_ | (exact Qb hQ hp))
section
variable {X : Task → Prop} (hX : Closed X) {g : Nat} {cells : List PC} {ks : List Pred} {P : Pred → Bool} {Q : A → List Blk → Prop}
include hX
end
mutual
def hasP : Pred → Item → Bool
  | .mk o t n a b ks, x => if o = 1 then true else if o = 3 then eqS x.kind t else if o = 4 then prefB x.id t else if o = 5 then ltI x.num n else if o = 6 then leI n x.num
    else if o = 7 then nearB x.re x.im a b n else if o = 8 then hasAll ks x else if o = 9 then hasAny ks x else if o = 10 then hasNot ks x else false
def hasAll : List Pred → Item → Bool
  | [], _ => true
  | k :: ks, x => hasP k x && hasAll ks x
def hasAny : List Pred → Item → Bool
  | [], _ => false
  | k :: ks, x => hasP k x || hasAny ks x
def hasNot : List Pred → Item → Bool
  | [], _ => false
  | k :: _, x => !hasP k x
end
def has0 (o : Int) (t : ByteArray) (n : Int) (a b : Nat) (ks : List Pred) (x : Item) : Bool := if o = 1 then true else if o = 3 then eqS x.kind t else if o = 4 then prefB x.id t else if o = 5 then ltI x.num n else if o = 6 then leI n x.num
    else if o = 7 then nearB x.re x.im a b n else if o = 8 then hasAll ks x else if o = 9 then hasAny ks x else if o = 10 then hasNot ks x else false
theorem hasP_eq (p : Pred) (x : Item) : hasP p x = has0 p.op p.text p.n p.re p.im p.kids x := by cases p; rw [hasP]; rfl
theorem hasAll_eq (ks : List Pred) (x : Item) : hasAll ks x = !(ks.any fun k => !hasP k x) := by
  induction ks with
  | nil => rw [hasAll]; rfl
  | cons k ks ih => rw [hasAll, ih, List.any_cons]; simp
theorem hasAny_eq (ks : List Pred) (x : Item) : hasAny ks x = ks.any fun k => hasP k x := by
  induction ks with
  | nil => rw [hasAny]; rfl
  | cons k ks ih => rw [hasAny, ih, List.any_cons]
theorem hasNot_cons {ks : List Pred} {x : Item} (h : 0 < ks.length) : hasNot ks x = !hasP ks[0] x := by
  cases ks with
  | nil => cases h
  | cons k ks => rw [hasNot]; rfl
theorem hasNot_nil {ks : List Pred} {x : Item} (h : ¬ 0 < ks.length) : hasNot ks x = false := by
  cases ks with
  | nil => rw [hasNot]
  | cons k ks => simp at h
theorem has_all_count (ks : List Pred) (x : Item) : hasAll ks x = decide (ks.countP (fun k => hasP k x) = ks.length) := by
  rw [hasAll_eq, Bool.eq_iff_iff, decide_eq_true_iff, List.countP_eq_length]; simp
theorem has_any_count (ks : List Pred) (x : Item) : hasAny ks x = decide (0 < ks.countP (fun k => hasP k x)) := by
  rw [hasAny_eq, Bool.eq_iff_iff, decide_eq_true_iff, List.countP_pos_iff]; simp
theorem count_take {ks : List Pred} {P : Pred → Bool} {j : Nat} (h : j < ks.length) : (ks.take (j + 1)).countP P = (ks.take j).countP P + (if P ks[j] then 1 else 0) := by
  rw [List.take_succ_eq_append_getElem h, List.countP_append, List.countP_singleton]
attribute [irreducible] hasP hasAll hasAny hasNot has0 prefB
theorem nearB_eq2 (a b c d : Nat) (n : Int) : nearB a b c d n = (leI 0 (farV a b c d) && leI (farV a b c d) n) := by
  unfold nearB leI; rw [Bool.decide_and]
section
variable {X : Task → Prop} (hX : Closed X) {k : Pred} {x : Item} {b : Bool} {Q : A → List Blk → Prop}
include hX
end
theorem rhas_ok {X : Task → Prop} (hX : Closed X) : ∀ (N : Nat) {p : Pred} {x : Item} {Q : A → List Blk → Prop}, p.size ≤ N → p.Ok → x.Ok → Q (bv (hasP p x)) [] → X (.call 34 [p.a, x.a] [] Q)
  | 0, p, _, _, h, _, _, _ => absurd h (by have := size_pos p; omega)
  | N + 1, p, x, Q, h, ok, ox, hQ => by
    have hln := ok.len
    have htx := ok.text
    have hkid : ∀ (j : Nat) (hj : j < p.kids.length) (Q' : A → List Blk → Prop), Q' (bv (hasP p.kids[j] x)) [] → X (.call 34 [p.kids[j].a, x.a] [] Q') := fun j hj Q' hQ' => rhas_ok hX N (by have := size_kid hj; omega) (ok.kid hj) ox hQ'
    rw [hasP_eq] at hQ
    refine call_intro hX Try.func34 rfl rfl ?_
    clear ok
    simp only [Pred.a, Pred.cs]
    generalize p.op = o at *
    generalize p.text = t at *
    generalize p.n = n at *
    generalize p.re = a at *
    generalize p.im = b at *
    generalize p.kids = ks at *
    repeat' ((conv => whnf); first | exact hQ | refine eqv_id ?_ | refine Two.l ?_ | refine ⟨by kernel_rfl, ?_⟩ | refine bct (by assumption) ?_ | refine bcf (by assumption) ?_ | refine bcf (nt (by assumption)) ?_ | refine bct (nf (by assumption)) ?_)
    refine range_ix (fun i (m : Int) => pad [(2, .one (.ptr 0 0)), (0, .one (.ptr 1 0)), (1, iv m), (0, iv i)] 90) (fun _ _ => [.box [ic o, .p (.v (.string t)), ic n, .p (.v (.complex .f64 a b)), .p (.sl (rows ks))], .box x.cs]) (fun j m => m = (((ks.take j).countP fun k => hasP k x : Nat) : Int)) ks.length 0 (Nat.zero_le _) (fun j m _ hj hI ih => ?_) (fun m hI => ?_) 0 0 rfl rfl
    · have q1 : ltI (j : Int) (lenL (rows ks)) = true := by rw [len_rows, ltI_t]; omega
      have q2 := lenB_rows hj
      have hct := count_take (P := fun k => hasP k x) hj
      have hcl := List.countP_le_length (p := fun k => hasP k x) (l := ks.take j)
      rw [List.length_take] at hcl
      refine loop_intro hX ?_
      cases hh : hasP ks[j] x with
      | true =>
        rw [hh, if_pos rfl] at hct
        have e : wr .i64 (m + 1) = (((ks.take (j + 1)).countP fun k => hasP k x : Nat) : Int) := by rw [hct, hI, wrS (by omega)]
        clear hct hI hcl
        repeat' ((conv => whnf); first | exact hQ | refine eqv_id ?_ | refine Two.l ?_ | refine ⟨by kernel_rfl, ?_⟩ | refine bct (by assumption) ?_ | refine bcf (by assumption) ?_ | refine bcf (nt (by assumption)) ?_ | refine bct (nf (by assumption)) ?_ | refine row_in (at_rows hj) ?_ | refine known bv (hkid j hj) hh ?_ | (exact ih _ _ (wrS (by omega)) e))
      | false =>
        rw [hh, if_neg (by simp), Nat.add_zero] at hct
        have e : m = (((ks.take (j + 1)).countP fun k => hasP k x : Nat) : Int) := by rw [hct]; exact hI
        clear hct hI hcl
        repeat' ((conv => whnf); first | exact hQ | refine eqv_id ?_ | refine Two.l ?_ | refine ⟨by kernel_rfl, ?_⟩ | refine bct (by assumption) ?_ | refine bcf (by assumption) ?_ | refine bcf (nt (by assumption)) ?_ | refine bct (nf (by assumption)) ?_ | refine row_in (at_rows hj) ?_ | refine known bv (hkid j hj) hh ?_ | (exact ih _ _ (wrS (by omega)) e))
    · have q1 : ltI (ks.length : Int) (lenL (rows ks)) = false := by rw [len_rows, ltI_f]; omega
      rw [List.take_length] at hI
      subst hI
      refine loop_intro hX ?_
      rcases r10 o with rfl | rfl | rfl | rfl | rfl | rfl | rfl | rfl | rfl | rfl | ⟨n1, n2, n3, n4, n5, n6, n7, n8, n9, n10⟩
      rotate_right
      · have e1 : eqI o 1 = false := eqI_f.2 n1
        have e3 : eqI o 3 = false := eqI_f.2 n3
        have e4 : eqI o 4 = false := eqI_f.2 n4
        have e5 : eqI o 5 = false := eqI_f.2 n5
        have e6 : eqI o 6 = false := eqI_f.2 n6
        have e7 : eqI o 7 = false := eqI_f.2 n7
        have e8 : eqI o 8 = false := eqI_f.2 n8
        have e9 : eqI o 9 = false := eqI_f.2 n9
        have e10 : eqI o 10 = false := eqI_f.2 n10
        repeat' ((conv => whnf); first | exact hQ | refine eqv_id ?_ | refine Two.l ?_ | refine ⟨by kernel_rfl, ?_⟩ | refine bct (by assumption) ?_ | refine bcf (by assumption) ?_ | refine bcf (nt (by assumption)) ?_ | refine bct (nf (by assumption)) ?_ | (refine Qb hQ ?_; unfold has0; simp [*]; done))
      rotate_right
      · by_cases h0 : 0 < ks.length
        · have q1 : eqI (lenL (rows ks)) 0 = false := by rw [len_rows, eqI_f]; omega
          have q2 : lenB (rows ks) 0 = true := lenB_rows h0
          have q3 := at_rows h0
          repeat' ((conv => whnf); first | exact hQ | refine eqv_id ?_ | refine Two.l ?_ | refine ⟨by kernel_rfl, ?_⟩ | refine bct (by assumption) ?_ | refine bcf (by assumption) ?_ | refine bcf (nt (by assumption)) ?_ | refine bct (nf (by assumption)) ?_ | (refine Qb hQ ?_; unfold has0; simp [hasNot_cons h0]; done) | refine row_in q3 ?_ | refine hkid 0 h0 _ ?_)
        · have q1 : eqI (lenL (rows ks)) 0 = true := by rw [len_rows, eqI_t]; omega
          repeat' ((conv => whnf); first | exact hQ | refine eqv_id ?_ | refine Two.l ?_ | refine ⟨by kernel_rfl, ?_⟩ | refine bct (by assumption) ?_ | refine bcf (by assumption) ?_ | refine bcf (nt (by assumption)) ?_ | refine bct (nf (by assumption)) ?_ | (refine Qb hQ ?_; unfold has0; simp [hasNot_nil h0]; done))
      rotate_right
      · repeat' ((conv => whnf); first | exact hQ | refine eqv_id ?_ | refine Two.l ?_ | refine ⟨by kernel_rfl, ?_⟩ | refine bct (by assumption) ?_ | refine bcf (by assumption) ?_ | refine bcf (nt (by assumption)) ?_ | refine bct (nf (by assumption)) ?_ | (refine Qb hQ ?_; unfold has0; simp [has_any_count, ltI]; done))
      rotate_right
      · have e8 : hasAll ks x = eqI ((ks.countP fun k => hasP k x : Nat) : Int) (lenL (rows ks)) := by
          rw [has_all_count, len_rows]; unfold eqI; rw [Bool.eq_iff_iff, decide_eq_true_iff, beq_iff_eq]; omega
        repeat' ((conv => whnf); first | exact hQ | refine eqv_id ?_ | refine Two.l ?_ | refine ⟨by kernel_rfl, ?_⟩ | refine bct (by assumption) ?_ | refine bcf (by assumption) ?_ | refine bcf (nt (by assumption)) ?_ | refine bct (nf (by assumption)) ?_ | (refine Qb hQ ?_; unfold has0; simp [e8]; done))
      rotate_right
      · repeat' ((conv => whnf); first | exact hQ | refine eqv_id ?_ | refine Two.l ?_ | refine ⟨by kernel_rfl, ?_⟩ | refine bct (by assumption) ?_ | refine bcf (by assumption) ?_ | refine bcf (nt (by assumption)) ?_ | refine bct (nf (by assumption)) ?_ | (refine Qb hQ ?_; unfold has0; simp_all [nearB_eq2]; done) | refine ref_far_ok hX ?_ | refine bc (fun _ => ?_) (fun _ => ?_))
      all_goals
        repeat' ((conv => whnf); first | exact hQ | refine eqv_id ?_ | refine Two.l ?_ | refine ⟨by kernel_rfl, ?_⟩ | refine bct (by assumption) ?_ | refine bcf (by assumption) ?_ | refine bcf (nt (by assumption)) ?_ | refine bct (nf (by assumption)) ?_ | (refine Qb hQ ?_; unfold has0; simp; done) | refine begins_ok hX htx ?_)
end Go.Proofs.Ytijkfjahgijphaa
