/- Texts that were put are got, and what is got, put, is those bytes. -/
import Derived.Test.YtidkmoohgadjkaaBCodeBackN
set_option linter.unusedVariables false
set_option linter.unusedSimpArgs false
set_option maxRecDepth 100000
set_option maxHeartbeats 4000000
namespace Go.Proofs.Ytidkmoohgadjkaa.C
open Go E N
theorem gN_text {s : ByteArray} (h : s.size ≤ 8) (rest : List Nat) : gN (textL s ++ rest) = ((s.size : Int), 1) := by
  unfold textL
  rw [if_pos h, List.cons_append]
  have e := gN_enc (v := 2 * s.size) (sB s ++ rest) (by omega)
  rw [enc_one (by omega)] at e
  refine Eq.trans e ?_
  unfold dec
  rw [if_neg (by omega), show 2 * s.size / 2 = s.size by omega]; rfl
theorem strOf_sB (s : ByteArray) : strOf (bs (sB s)) = s := by
  rw [strOf_bs]
  apply ByteArray.ext
  unfold sB
  rw [List.map_map]
  have : (UInt8.ofNat ∘ UInt8.toNat) = id := by funext x; simp
  rw [this, List.map_id]
theorem rows_part (xs : List Nat) (a b : Nat) : rowsIn (bs xs) (a : Int) (b : Int) = bs ((xs.take b).drop a) := by
  unfold rowsIn; simp [List.map_take, List.map_drop]
theorem gT_text {s : ByteArray} (h : s.size ≤ 8) (rest : List Nat) : gT (textL s ++ rest) = (s, (s.size : Int) + 1) := by
  unfold gT
  rw [gN_text h]
  have hl : (textL s ++ rest).length = s.size + 1 + rest.length := by unfold textL; rw [if_pos h, List.length_append, List.length_cons, sB_len]
  rw [if_neg (by simp only []; omega)]
  have e : (1 : Int) + (s.size : Int) = ((s.size + 1 : Nat) : Int) := by omega
  simp only []
  rw [e, show (1 : Int) = ((1 : Nat) : Int) from rfl, rows_part]
  have e2 : ((textL s ++ rest).take (s.size + 1)).drop 1 = sB s := by
    unfold textL; rw [if_pos h, List.cons_append, List.take_succ_cons, List.drop_succ_cons, List.drop_zero, ← sB_len s, List.take_left]
  rw [e2, strOf_sB]; congr 1
theorem gT_inv {xs : List Nat} (hb : ∀ x ∈ xs, x < 256) (h : (gT xs).2 ≠ 0) : ∃ m : Nat, (gT xs).2 = (m : Int) ∧ m ≤ xs.length ∧ textL (gT xs).1 = xs.take m := by
  by_cases hc : (gN xs).2 = 0 ∨ (gN xs).1 < 0 ∨ 8 < (gN xs).1 ∨ (xs.length : Int) < (gN xs).2 + (gN xs).1
  · unfold gT at h; rw [if_pos hc] at h; exact absurd rfl h
  · have e : gT xs = (strOf (rowsIn (bs xs) (gN xs).2 ((gN xs).2 + (gN xs).1)), (gN xs).2 + (gN xs).1) := by unfold gT; rw [if_neg hc]
    obtain ⟨w, h1, h2, h3, h4⟩ := gN_inv hb (by omega)
    have hw : w = 2 * (gN xs).1.toNat ∧ w % 2 = 0 := by
      rw [h3] at hc ⊢; unfold dec at hc ⊢
      split at hc <;> rename_i hp
      · rw [if_pos hp]; simp only [] at hc ⊢; omega
      · rw [if_neg hp]; simp only [] at hc ⊢; omega
    have hk : (gN xs).1.toNat ≤ 8 := by omega
    have he : encN 4 w = [w] := enc_one (by omega)
    rw [he] at h1 h2 h3
    have h31 : (gN xs).2 = 1 := by rw [h3]; unfold dec; split <;> rfl
    generalize hn : (gN xs).1 = n at *
    obtain ⟨k, rfl⟩ : ∃ k : Nat, n = (k : Int) := ⟨n.toNat, by omega⟩
    rw [h31] at e hc
    have e' : (1 : Int) + (k : Int) = ((k + 1 : Nat) : Int) := by omega
    rw [e', show (1 : Int) = ((1 : Nat) : Int) from rfl, rows_part] at e
    refine ⟨k + 1, by rw [e], by omega, ?_⟩
    rw [e]
    simp only []
    have hxs : xs = w :: xs.drop 1 := by
      cases xs with
      | nil => simp at h2
      | cons x xs => simp at h1; rw [h1]; rfl
    have hd : (xs.take (k + 1)).drop 1 = (xs.drop 1).take k := by
      rw [hxs]; rfl
    have hb' : ∀ y ∈ (xs.drop 1).take k, y < 256 := fun y hy => hb y (List.mem_of_mem_drop (List.mem_of_mem_take hy))
    rw [hd]
    have hsb : sB (strOf (bs ((xs.drop 1).take k))) = (xs.drop 1).take k := by
      rw [strOf_bs]; unfold sB
      show List.map UInt8.toNat ((List.map UInt8.ofNat _).toArray.toList) = _
      rw [List.map_map]
      refine (List.map_congr_left fun y hy => ?_).trans (List.map_id _)
      show (UInt8.ofNat y).toNat = y
      rw [UInt8.toNat_ofNat']; exact Nat.mod_eq_of_lt (hb' y hy)
    have hlen : ((xs.drop 1).take k).length = k := by rw [List.length_take, List.length_drop]; omega
    have hsz : (strOf (bs ((xs.drop 1).take k))).size = k := by rw [← sB_len, hsb, hlen]
    unfold textL
    rw [if_pos (by omega), hsb, hsz]
    have : xs.take (k + 1) = w :: (xs.drop 1).take k := by
      conv => lhs; rw [hxs]
      exact List.take_succ_cons
    rw [this]; congr 1; simp at hw; omega
theorem gN_range {xs : List Nat} (hb : ∀ x ∈ xs, x < 256) : 0 ≤ (gN xs).2 ∧ (gN xs).2 ≤ (xs.length : Int) := by
  by_cases h : (gN xs).2 = 0
  · omega
  · obtain ⟨w, h1, h2, h3, h4⟩ := gN_inv hb h
    rw [h3, (num_dec h4 _).2.2.2]; omega
theorem gT_range {xs : List Nat} (hb : ∀ x ∈ xs, x < 256) : 0 ≤ (gT xs).2 ∧ (gT xs).2 ≤ (xs.length : Int) := by
  by_cases h : (gT xs).2 = 0
  · omega
  · obtain ⟨m, h1, h2, h3⟩ := gT_inv hb h
    omega
end Go.Proofs.Ytidkmoohgadjkaa.C
