/- What is open. -/
import Derived.Test.YtjapbanelfcjhaaCode2
set_option linter.unusedVariables false
set_option linter.unusedSimpArgs false
set_option maxRecDepth 100000
namespace Go.Proofs.Ytjapbanelfcjhaa.C
open Go E N
def okN (xs : List Nat) : Bool := decide (4 ≤ xs.length ∧ xs = sealN (xs.take (xs.length - 4)))
abbrev zN (xs : List Nat) : Int := wr .i64 (lenL (bs xs) - 4)
theorem zN_eq {xs : List Nat} (h : xs.length ≤ 20000) : zN xs = (xs.length : Int) - 4 := by unfold zN; rw [len_bs, wr64 (by omega) (by omega)]
theorem zN_nat {xs : List Nat} (h : xs.length ≤ 20000) (h4 : 4 ≤ xs.length) : zN xs = ((xs.length - 4 : Nat) : Int) := by rw [zN_eq h]; omega
theorem in_z {xs : List Nat} (h : xs.length ≤ 20000) (h4 : 4 ≤ xs.length) : rowsIn (bs xs) 0 (zN xs) = bs (xs.take (xs.length - 4)) := by rw [zN_nat h h4]; exact in_bs _ _
theorem parts {xs : List Nat} (h4 : 4 ≤ xs.length) : ∃ y0 y1 y2 y3, xs = xs.take (xs.length - 4) ++ [y0, y1, y2, y3] := by
  have hl : (xs.drop (xs.length - 4)).length = 4 := by simp; omega
  match hd : xs.drop (xs.length - 4), hl with
  | [y0, y1, y2, y3], _ => exact ⟨y0, y1, y2, y3, by rw [← hd, List.take_append_drop]⟩
theorem tail_iff {s y0 y1 y2 y3 : Nat} (hs : s < 2 ^ 32) (h0 : y0 < 256) (h1 : y1 < 256) (h2 : y2 < 256) (h3 : y3 < 256) : tail4 s = [y0, y1, y2, y3] ↔ s = y0 + 256 * y1 + 65536 * y2 + 16777216 * y3 := by
  simp only [tail4, List.cons.injEq, and_true]; omega
theorem ok_iff {xs t : List Nat} {y0 y1 y2 y3 : Nat} (h4 : 4 ≤ xs.length) (ht : t = xs.take (xs.length - 4)) (hx : xs = t ++ [y0, y1, y2, y3]) (hb : ∀ x ∈ xs, x < 256) : okN xs = decide (sumN t = y0 + 256 * y1 + 65536 * y2 + 16777216 * y3) := by
  unfold okN
  rw [Bool.eq_iff_iff, decide_eq_true_iff, decide_eq_true_iff, ← ht]
  have hbt : ∀ x ∈ t, x < 256 := fun x h => hb x (by rw [hx]; simp [h])
  rw [← tail_iff (sum_lt hbt) (hb y0 (by rw [hx]; simp)) (hb y1 (by rw [hx]; simp)) (hb y2 (by rw [hx]; simp)) (hb y3 (by rw [hx]; simp))]
  constructor
  · rintro ⟨_, h⟩
    rw [hx] at h
    exact (List.append_cancel_left h).symm
  · intro h
    refine ⟨h4, ?_⟩
    unfold sealN; rw [h]; exact hx
section
variable {X : Task → Prop} (hX : Closed X) {Q : A → List Blk → Prop} {c : PC} {xs : List Nat}
include hX
theorem open_ok (hc : BytesP c xs) (hl : xs.length ≤ 20000) (h1 : okN xs = true → Q (.tup [sl (bs (xs.take (xs.length - 4))), ne]) []) (h2 : okN xs = false → Q (.tup [sl [], er 7]) []) : X (.call 66 [.one (.p c)] [] Q) := by
  have hc' := hc
  obtain ⟨hc, hb⟩ := hc
  refine call_intro hX Try.func66 rfl rfl ?_
  by_cases h4 : 4 ≤ xs.length
  · have hz := zN_nat hl h4
    have q1 : ltI (zN xs) 0 = false := by rw [hz, ltI_f]; omega
    have q2 : (lenC (bs xs) (zN xs) && leI 0 0 && leI 0 (zN xs) && rowsOk (bs xs) 1) = true := and4 (by rw [hz]; unfold lenC; simp <;> omega) rfl (by rw [hz, leI_t]; omega) (rowsOk_bs xs)
    have hbt : ∀ x ∈ xs.take (xs.length - 4), x < 256 := fun x h => hb x (List.mem_of_mem_take h)
    have q3 : BytesP (.sl (rowsIn (bs xs) 0 (zN xs))) (xs.take (xs.length - 4)) := ⟨.inl (congrArg PC.sl (in_z hl h4)), hbt⟩
    have hlt : (xs.take (xs.length - 4)).length ≤ 20000 := by simp <;> omega
    have q4 := strOk_bs xs
    have q5 := strOk_bs (sealN (xs.take (xs.length - 4)))
    have q6 : (roomFor [] (rowsIn (bs xs) 0 (zN xs)) 1 && rowsOk (rowsIn (bs xs) 0 (zN xs)) 1 && (Nat.beq 1 1 || Nat.beq 1 0)) = true := by rw [in_z hl h4]; exact room_bs (xs := []) (by simp <;> omega)
    rcases hc with rfl | ⟨rfl, rfl⟩
    · cases hok : okN xs with
      | true =>
        have e : eqS (strOf (bs (sealN (xs.take (xs.length - 4))))) (strOf (bs xs)) = true := by
          rw [eqS_bs (seal_lt hbt) hb]; unfold okN at hok; simp only [decide_eq_true_eq] at *; exact hok.2.symm
        have fin : Q (.tup [sl (catL [] (rowsIn (bs xs) 0 (zN xs))), ne]) [] := by
          rw [in_z hl h4]; exact h1 hok
        repeat' ((conv => whnf); first | exact fin | refine ⟨by kernel_rfl, ?_⟩ | refine seal_ok hX q3 hlt ?_ | refine bct (by assumption) ?_ | refine bcf (by assumption) ?_ | refine bcf (nt (by assumption)) ?_)
      | false =>
        have e : eqS (strOf (bs (sealN (xs.take (xs.length - 4))))) (strOf (bs xs)) = false := by
          rw [eqS_bs (seal_lt hbt) hb]; unfold okN at hok; simp only [decide_eq_false_iff_not] at *; exact fun h => hok ⟨h4, h.symm⟩
        repeat' ((conv => whnf); first | exact h2 hok | refine ⟨by kernel_rfl, ?_⟩ | refine seal_ok hX q3 hlt ?_ | refine bct (by assumption) ?_ | refine bcf (by assumption) ?_ | refine bct (nf (by assumption)) ?_)
    · simp at h4
  · have q1 : ltI (zN xs) 0 = true := by rw [zN_eq hl, ltI_t]; omega
    have hok : okN xs = false := by unfold okN; exact decide_eq_false (fun h => h4 h.1)
    rcases hc with rfl | ⟨rfl, rfl⟩
    all_goals
      repeat' ((conv => whnf); first | exact h2 hok | refine ⟨by kernel_rfl, ?_⟩ | refine bct (by assumption) ?_ | refine bcf (by assumption) ?_)
theorem ropen_ok (hc : BytesP c xs) (hl : xs.length ≤ 20000) (h1 : okN xs = true → Q (.tup [sl (bs (xs.take (xs.length - 4))), bv true]) []) (h2 : okN xs = false → Q (.tup [sl [], bv false]) []) : X (.call 67 [.one (.p c)] [] Q) := by
  have hc' := hc
  obtain ⟨hc, hb⟩ := hc
  refine call_intro hX Try.func67 rfl rfl ?_
  by_cases h4 : 4 ≤ xs.length
  · have hz := zN_nat hl h4
    have q1 : ltI (lenL (bs xs)) 4 = false := by rw [len_bs, ltI_f]; omega
    have q2 : (lenC (bs xs) (zN xs) && leI 0 0 && leI 0 (zN xs) && rowsOk (bs xs) 1) = true := and4 (by rw [hz]; unfold lenC; simp <;> omega) rfl (by rw [hz, leI_t]; omega) (rowsOk_bs xs)
    have hbt : ∀ x ∈ xs.take (xs.length - 4), x < 256 := fun x h => hb x (List.mem_of_mem_take h)
    have q3 : BytesP (.sl (rowsIn (bs xs) 0 (zN xs))) (xs.take (xs.length - 4)) := ⟨.inl (congrArg PC.sl (in_z hl h4)), hbt⟩
    have hlt : (xs.take (xs.length - 4)).length ≤ 20000 := by simp <;> omega
    have q6 : (roomFor [] (rowsIn (bs xs) 0 (zN xs)) 1 && rowsOk (rowsIn (bs xs) 0 (zN xs)) 1 && (Nat.beq 1 1 || Nat.beq 1 0)) = true := by rw [in_z hl h4]; exact room_bs (xs := []) (by simp <;> omega)
    obtain ⟨y0, y1, y2, y3, hx⟩ := parts h4
    have hm : ∀ k : Nat, k < 4 → wr .i64 (zN xs + (k : Int)) = ((xs.length - 4 + k : Nat) : Int) := fun k hk => by rw [hz, wr64 (by omega) (by omega)]; omega
    have hy : ∀ (k : Nat) (y : Nat), [y0, y1, y2, y3][k]? = some y → xs[xs.length - 4 + k]? = some y := fun k y h => by
      have h3 : (xs.take (xs.length - 4)).length = xs.length - 4 := by simp
      rw [hx, List.getElem?_append_right (by rw [← hx]; simp)]
      rw [← hx, h3, show xs.length - 4 + k - (xs.length - 4) = k by omega]; exact h
    have hyr : ∀ (k y : Nat) (z : Int), k < 4 → [y0, y1, y2, y3][k]? = some y → z = ((xs.length - 4 + k : Nat) : Int) → E.rowAt (bs xs) z = [.v (.int .u8 (y : Int))] ∧ lenB (bs xs) z = true := fun k y z hk h hz' => by
      subst hz'
      have hlt' : xs.length - 4 + k < xs.length := by omega
      have h5 := hy k y h
      rw [List.getElem?_eq_getElem hlt'] at h5
      injection h5 with h5
      exact ⟨by rw [at_bs hlt', h5], lenB_bs hlt'⟩
    obtain ⟨r0, b0⟩ := hyr 0 y0 (zN xs) (by omega) rfl (by rw [hz]; rfl)
    obtain ⟨r1, b1⟩ := hyr 1 y1 (wr .i64 (zN xs + 1)) (by omega) rfl (hm 1 (by omega))
    obtain ⟨r2, b2⟩ := hyr 2 y2 (wr .i64 (zN xs + 2)) (by omega) rfl (hm 2 (by omega))
    obtain ⟨r3, b3⟩ := hyr 3 y3 (wr .i64 (zN xs + 3)) (by omega) rfl (hm 3 (by omega))
    have k0 : y0 < 256 := hb y0 (by rw [hx]; simp)
    have k1 : y1 < 256 := hb y1 (by rw [hx]; simp)
    have k2 : y2 < 256 := hb y2 (by rw [hx]; simp)
    have k3 : y3 < 256 := hb y3 (by rw [hx]; simp)
    have hS : wr .u32 (wr .u32 (wr .u32 (wr .u32 (y0 : Int) + wr .u32 (256 * wr .u32 (y1 : Int))) + wr .u32 (65536 * wr .u32 (y2 : Int))) + wr .u32 (16777216 * wr .u32 (y3 : Int))) = ((y0 + 256 * y1 + 65536 * y2 + 16777216 * y3 : Nat) : Int) := by
      have w : ∀ z : Int, 0 ≤ z → z < 4294967296 → wr .u32 z = z := fun z h1 h2 => by
        obtain ⟨n, rfl⟩ := Int.eq_ofNat_of_zero_le h1
        exact wr32 (by omega)
      rw [w y0 (by omega) (by omega), w y1 (by omega) (by omega), w y2 (by omega) (by omega), w y3 (by omega) (by omega), w (256 * y1) (by omega) (by omega), w (65536 * y2) (by omega) (by omega), w (16777216 * y3) (by omega) (by omega), w ((y0 : Int) + 256 * y1) (by omega) (by omega), w ((y0 : Int) + 256 * y1 + 65536 * y2) (by omega) (by omega), w ((y0 : Int) + 256 * y1 + 65536 * y2 + 16777216 * y3) (by omega) (by omega)]
      omega
    have hoi := ok_iff h4 rfl hx hb
    rcases hc with rfl | ⟨rfl, rfl⟩
    · cases hok : okN xs with
      | true =>
        have e : eqI ((sumN (xs.take (xs.length - 4)) : Nat) : Int) (wr .u32 (wr .u32 (wr .u32 (wr .u32 (y0 : Int) + wr .u32 (256 * wr .u32 (y1 : Int))) + wr .u32 (65536 * wr .u32 (y2 : Int))) + wr .u32 (16777216 * wr .u32 (y3 : Int)))) = true := by
          rw [hS, eqI_t]; rw [hok] at hoi; have := of_decide_eq_true hoi.symm; omega
        have fin : Q (.tup [sl (catL [] (rowsIn (bs xs) 0 (zN xs))), bv true]) [] := by
          rw [in_z hl h4]; exact h1 hok
        repeat' ((conv => whnf); first | exact fin | refine ⟨by kernel_rfl, ?_⟩ | refine rsum_ok hX q3 hlt ?_ | refine bct (by assumption) ?_ | refine bcf (by assumption) ?_ | refine bcf (nt (by assumption)) ?_ | rw [r0] | rw [r1] | rw [r2] | rw [r3])
      | false =>
        have e : eqI ((sumN (xs.take (xs.length - 4)) : Nat) : Int) (wr .u32 (wr .u32 (wr .u32 (wr .u32 (y0 : Int) + wr .u32 (256 * wr .u32 (y1 : Int))) + wr .u32 (65536 * wr .u32 (y2 : Int))) + wr .u32 (16777216 * wr .u32 (y3 : Int)))) = false := by
          rw [hS, eqI_f]; rw [hok] at hoi; have := of_decide_eq_false hoi.symm; omega
        repeat' ((conv => whnf); first | exact h2 hok | refine ⟨by kernel_rfl, ?_⟩ | refine rsum_ok hX q3 hlt ?_ | refine bct (by assumption) ?_ | refine bcf (by assumption) ?_ | refine bct (nf (by assumption)) ?_ | rw [r0] | rw [r1] | rw [r2] | rw [r3])
    · simp at h4
  · have q1 : ltI (lenL (bs xs)) 4 = true := by rw [len_bs, ltI_t]; omega
    have hok : okN xs = false := by unfold okN; exact decide_eq_false (fun h => h4 h.1)
    rcases hc with rfl | ⟨rfl, rfl⟩
    all_goals
      repeat' ((conv => whnf); first | exact h2 hok | refine ⟨by kernel_rfl, ?_⟩ | refine bct (by assumption) ?_ | refine bcf (by assumption) ?_)
end
end Go.Proofs.Ytjapbanelfcjhaa.C
