/- One byte turned. -/
import Derived.Test.YtjapbanelfcjhaaCode4
set_option linter.unusedVariables false
set_option linter.unusedSimpArgs false
set_option maxRecDepth 100000
namespace Go.Proofs.Ytjapbanelfcjhaa.C
open Go E N
theorem pick_neg {n m : Int} (hm : 0 < m) (h : tmodI n m < 0) : tmodI n m + m = n % m := by
  unfold tmodI at *
  have h1 := Int.tmod_eq_emod (a := n) (b := m)
  have h2 := Int.emod_nonneg n (by omega : m ≠ 0)
  have h3 := Int.emod_lt_of_pos n hm
  split at h1 <;> omega
theorem pick_pos {n m : Int} (hm : 0 < m) (h : 0 ≤ tmodI n m) : tmodI n m = n % m := by
  unfold tmodI at *
  have h1 := Int.tmod_eq_emod (a := n) (b := m)
  have h2 := Int.emod_nonneg n (by omega : m ≠ 0)
  have h3 := Int.emod_lt_of_pos n hm
  split at h1 <;> omega
/-- a sealed text of which one byte is another one is not open -/
theorem turned {xs : List Nat} {i y : Nat} (hb : ∀ x ∈ xs, x < 256) (hi : i < (sealN xs).length) (hy : y < 256) (hne : (sealN xs)[i]? ≠ some y) : okN ((sealN xs).set i y) = false := by
  have hl := seal_len xs
  unfold okN
  refine decide_eq_false fun h => ?_
  have h2 := h.2
  rw [List.length_set, hl, Nat.add_sub_cancel] at h2
  by_cases hix : i < xs.length
  · have e : (sealN xs).set i y = xs.set i y ++ tail4 (sumN xs) := by
      unfold sealN; rw [List.set_append_left _ _ hix]
    rw [e] at h2
    have e2 : (xs.set i y ++ tail4 (sumN xs)).take xs.length = xs.set i y := by
      rw [List.take_append_of_le_length (by simp), List.take_of_length_le (by simp)]
    rw [e2] at h2
    unfold sealN at h2
    have h3 := List.append_cancel_left h2
    have hb' : ∀ x ∈ xs.set i y, x < 256 := fun x hx => by
      rcases List.mem_or_eq_of_mem_set hx with h | rfl
      · exact hb x h
      · exact hy
    have s1 := sum_lt hb
    have s2 := sum_lt hb'
    have h4 : sumN (xs.set i y) = sumN xs := by
      simp only [tail4, List.cons.injEq, and_true] at h3; omega
    have h5 := sum_set hb hy hix h4
    apply hne
    unfold sealN
    rw [List.getElem?_append_left hix]; exact h5
  · have e : (sealN xs).set i y = xs ++ (tail4 (sumN xs)).set (i - xs.length) y := by
      unfold sealN; rw [List.set_append_right _ _ (by omega)]
    rw [e] at h2
    have e2 : (xs ++ (tail4 (sumN xs)).set (i - xs.length) y).take xs.length = xs := by
      rw [List.take_append_of_le_length (Nat.le_refl _), List.take_length]
    rw [e2] at h2
    unfold sealN at h2
    have h3 := List.append_cancel_left h2
    apply hne
    unfold sealN
    rw [List.getElem?_append_right (by omega)]
    rw [← h3, List.getElem?_set_self (by rw [hl] at hi; simp [tail4]; omega)]
theorem set_bs (xs : List Nat) (i y : Nat) : setRow (bs xs) i (bRow y) = bs (xs.set i y) := by unfold setRow; simp [List.map_set]
theorem bxor8 {a b : Nat} (ha : a < 256) (hb : b < 256) : bitsI .xor .u8 (a : Int) (b : Int) = ((a ^^^ b : Nat) : Int) ∧ a ^^^ b < 256 := by
  have hl : a ^^^ b < 2 ^ 8 := Nat.xor_lt_two_pow ha hb
  refine ⟨?_, hl⟩
  have o : ∀ {n : Nat}, n < 256 → (BitVec.ofInt 8 (n : Int)).toNat = n := fun h => by rw [BitVec.ofInt_natCast, BitVec.toNat_ofNat, Nat.mod_eq_of_lt h]
  show IntKind.wrap .u8 (((BitVec.ofInt 8 (a : Int) ^^^ BitVec.ofInt 8 (b : Int)).toNat : Nat) : Int) = _
  rw [BitVec.toNat_xor, o ha, o hb]
  unfold IntKind.wrap
  simp [IntKind.signed, IntKind.bits]
  omega
theorem xor_ne {a b : Nat} (h : b ≠ 0) : a ^^^ b ≠ a := fun e => h (by
  have := congrArg (a ^^^ ·) e
  simpa [← Nat.xor_assoc] using this)
section
variable {X : Task → Prop} (hX : Closed X) {Q : A → List Blk → Prop} {c : PC} {xs : List Nat}
include hX
theorem pick_ok {n m z : Int} (hm : 0 < m) (hm' : m ≤ 1000000) (hz : n % m = z) (hQ : Q (iv z) []) : X (.call 44 [iv n, iv m] [] Q) := by
  have h0 : eqI m 0 = false := eqI_f.2 (by omega)
  have h2 := Int.emod_nonneg n (by omega : m ≠ 0)
  have h3 := Int.emod_lt_of_pos n hm
  refine call_intro hX Try.func44 rfl rfl ?_
  by_cases hneg : ltI (tmodI n m) 0 = true
  · have h4 := pick_neg hm (ltI_t.1 hneg)
    repeat' ((conv => whnf); first | refine bct (by assumption) ?_ | refine bcf (by assumption) ?_)
    all_goals (conv => whnf)
    refine Qa hQ ?_
    rw [h4, hz, wr64 (by omega) (by omega)]
  · have hneg' : ltI (tmodI n m) 0 = false := by simpa using hneg
    have h4 := pick_pos hm (ltI_f.1 hneg')
    repeat' ((conv => whnf); first | refine bct (by assumption) ?_ | refine bcf (by assumption) ?_)
    all_goals (conv => whnf)
    refine Qa hQ ?_
    rw [h4, hz]
theorem turns_ok {at_ : Int} {by_ : Nat} (hby : by_ < 256) (hc : BytesP c xs) (hQ : Q (bv true) []) : X (.call 14 [.one (.p c), iv at_, .one (.p (.v (.int .u8 (by_ : Int))))] [] Q) := by
  refine call_intro hX Try.func14 rfl rfl ?_
  by_cases hbig : 10000 < xs.length
  · have q1 : ltI 10000 (lenL (bs xs)) = true := by rw [len_bs, ltI_t]; omega
    obtain ⟨hc, hb⟩ := hc
    rcases hc with rfl | ⟨rfl, rfl⟩
    · repeat' ((conv => whnf); first | exact hQ | refine ⟨by kernel_rfl, ?_⟩ | refine cup_ok hX ?_ | refine bct (by assumption) ?_)
    · simp at hbig
  · have q1 : ltI 10000 (lenL (bs xs)) = false := by rw [len_bs, ltI_f]; omega
    by_cases hz : by_ = 0
    · subst hz
      have q2 : eqI ((0 : Nat) : Int) 0 = true := rfl
      obtain ⟨hc, hb⟩ := hc
      rcases hc with rfl | ⟨rfl, rfl⟩
      all_goals
        repeat' ((conv => whnf); first | exact hQ | refine ⟨by kernel_rfl, ?_⟩ | refine cup_ok hX ?_ | refine bct (by assumption) ?_ | refine bcf (by assumption) ?_)
    · have q2 : eqI (by_ : Int) 0 = false := eqI_f.2 (by omega)
      have hl : xs.length ≤ 20000 := by omega
      have hc' := hc
      obtain ⟨hc, hb⟩ := hc
      have hsl := seal_len xs
      have hsb := seal_lt hb
      have ls : lenL (bs (sealN xs)) = (xs.length : Int) + 4 := by rw [len_bs, hsl]; omega
      have q3 : eqI (lenL (bs (sealN xs))) (wr .i64 (lenL (bs xs) + 4)) = true := by rw [ls, len_bs, wr64 (by omega) (by omega), eqI_t]
      have q4 : (roomFor [] (bs (sealN xs)) 1 && rowsOk (bs (sealN xs)) 1 && (Nat.beq 1 1 || Nat.beq 1 0)) = true := room_bs (xs := []) (by rw [hsl]; simp; omega)
      have hm : 0 < lenL (catL [] (bs (sealN xs))) := by show 0 < lenL (bs (sealN xs)); rw [ls]; omega
      have hm' : lenL (catL [] (bs (sealN xs))) ≤ 1000000 := by show lenL (bs (sealN xs)) ≤ _; rw [ls]; omega
      obtain ⟨j, hj⟩ : ∃ j : Nat, at_ % lenL (catL [] (bs (sealN xs))) = (j : Int) := ⟨_, (Int.toNat_of_nonneg (Int.emod_nonneg at_ (by omega))).symm⟩
      have hj' : j < (sealN xs).length := by
        have := Int.emod_lt_of_pos at_ hm
        rw [hj] at this
        have h5 : lenL (catL [] (bs (sealN xs))) = lenL (bs (sealN xs)) := rfl
        rw [h5, ls] at this
        omega
      have hxj := hsb _ (List.getElem_mem hj')
      have b1 : lenB (catL [] (bs (sealN xs))) (j : Int) = true := lenB_bs hj'
      have q5 : (lenB (catL [] (bs (sealN xs))) (j : Int) && Nat.beq 1 1) = true := by rw [b1]; rfl
      have r1 : E.rowAt (catL [] (bs (sealN xs))) (j : Int) = [.v (.int .u8 (((sealN xs)[j] : Nat) : Int))] := at_bs hj'
      obtain ⟨e1, e2⟩ := bxor8 hxj hby
      have hok := turned hb hj' e2 (by rw [List.getElem?_eq_getElem hj']; intro h; injection h with h; exact xor_ne hz h.symm)
      have hsb2 : ∀ x ∈ (sealN xs).set j ((sealN xs)[j] ^^^ by_), x < 256 := fun x hx => by
        rcases List.mem_or_eq_of_mem_set hx with h | rfl
        · exact hsb x h
        · exact e2
      have hB : BytesP (.sl (setRow (catL [] (bs (sealN xs))) j [.v (.int .u8 (bitsI .xor .u8 (((sealN xs)[j] : Nat) : Int) (by_ : Int)))])) ((sealN xs).set j ((sealN xs)[j] ^^^ by_)) := ⟨.inl (by rw [e1]; exact congrArg PC.sl (set_bs _ _ _)), hsb2⟩
      have hl2 : ((sealN xs).set j ((sealN xs)[j] ^^^ by_)).length ≤ 20000 := by rw [List.length_set, hsl]; omega
      have hch : chunk (ty T 5).sz 0 [] = [] := rfl
      rcases hc with rfl | ⟨rfl, rfl⟩
      all_goals
        repeat' ((conv => whnf); first
          | exact hQ | refine ⟨by kernel_rfl, ?_⟩ | refine cup_ok hX ?_ | refine seal_ok hX hc' hl ?_ | refine pick_ok hX hm hm' hj ?_ | refine open_f hX hB hl2 hok ?_ | refine bct (by assumption) ?_ | refine bcf (by assumption) ?_ | refine bcf (nt (by assumption)) ?_ | ((try rw [hch]); (try rw [Int.toNat_natCast]); rw [r1]))
end
end Go.Proofs.Ytjapbanelfcjhaa.C
