/- What was put is got, and what is got, put, is those bytes: plain numbers. -/
import Derived.Test.YtidkmoohgadjkaaBCode2
set_option linter.unusedVariables false
set_option linter.unusedSimpArgs false
set_option maxRecDepth 100000
set_option maxHeartbeats 4000000
namespace Go.Proofs.Ytidkmoohgadjkaa.C
open Go E N
theorem get_enc : ∀ (f v j a : Nat) (rest : List Nat), v < 128 ^ (f + 1) → ∃ x, (0 < v → 0 < x) ∧ getN (f + 1) j a (encN f v ++ rest) = getF (a + v * 128 ^ j) (j + (encN f v).length) x ∧ (v < 128 → (encN f v).length = 1)
  | 0, v, j, a, rest, h => by
    refine ⟨v, id, ?_, fun _ => rfl⟩
    have hv : v < 128 := by simpa using h
    rw [encN, List.singleton_append, getN, if_neg (by omega), Nat.mod_eq_of_lt hv]; rfl
  | f + 1, v, j, a, rest, h => by
    by_cases hv : 128 ≤ v
    · have h' : v / 128 < 128 ^ (f + 1) := by rw [Nat.div_lt_iff_lt_mul (by decide)]; rw [Nat.pow_succ] at h; exact h
      obtain ⟨x, h1, h2, h3⟩ := get_enc f (v / 128) (j + 1) (a + (v % 128) * 128 ^ j) rest h'
      refine ⟨x, fun _ => h1 (by omega), ?_, fun h => by omega⟩
      rw [encN, if_pos hv, List.cons_append, getN, if_pos (by omega), show (v % 128 + 128) % 128 = v % 128 by omega, h2, List.length_cons]
      have e : a + v % 128 * 128 ^ j + v / 128 * 128 ^ (j + 1) = a + v * 128 ^ j := by
        rw [Nat.pow_succ, Nat.add_assoc]; congr 1
        rw [Nat.mul_comm (128 ^ j) 128, ← Nat.mul_assoc, ← Nat.add_mul]; congr 1; omega
      rw [e]; congr 1; omega
    · refine ⟨v, id, ?_, fun _ => by rw [encN, if_neg hv]; rfl⟩
      rw [encN, if_neg hv, List.singleton_append, getN, if_neg hv, Nat.mod_eq_of_lt (by omega)]; rfl
def dec (u m : Nat) : Int × Int := if u % 2 = 1 then (-((u / 2 : Nat) : Int) - 1, (m : Int)) else (((u / 2 : Nat) : Int), (m : Int))
theorem gN_enc {v : Nat} (rest : List Nat) (h : v ≤ 4294967295) : gN (encN 4 v ++ rest) = dec v (encN 4 v).length := by
  obtain ⟨x, h1, h2, h3⟩ := get_enc 4 v 0 0 rest (by omega)
  unfold gN
  rw [h2]
  unfold getF dec
  rw [Nat.pow_zero, Nat.mul_one, Nat.zero_add, Nat.zero_add, if_neg]
  rintro (h' | ⟨h', h''⟩)
  · omega
  · by_cases hv : v < 128
    · rw [h3 hv] at h''; omega
    · have := h1 (by omega); omega
theorem numU_le {n : Int} (h1 : -2147483648 ≤ n) (h2 : n ≤ 2147483647) : numU n ≤ 4294967295 := by unfold numU; split <;> omega
theorem dec_num {n : Int} (h1 : -2147483648 ≤ n) (h2 : n ≤ 2147483647) (m : Nat) : dec (numU n) m = (n, (m : Int)) := by
  unfold dec numU
  split <;> split <;> (simp only [Prod.mk.injEq, and_true]; omega)
theorem num_dec {u : Nat} (h : u ≤ 4294967295) (m : Nat) : numU (dec u m).1 = u ∧ -2147483648 ≤ (dec u m).1 ∧ (dec u m).1 ≤ 2147483647 ∧ (dec u m).2 = (m : Int) := by
  unfold dec
  split <;> refine ⟨?_, ?_, ?_, rfl⟩ <;> (try unfold numU) <;> (try split) <;> (simp only [] at *; omega)
theorem get_inv : ∀ (f j a : Nat) (xs : List Nat), (∀ x ∈ xs, x < 256) → (getN (f + 1) j a xs).2 ≠ 0 →
    ∃ w, xs.take (encN f w).length = encN f w ∧ (encN f w).length ≤ xs.length ∧ (1 ≤ j → 0 < w) ∧ getN (f + 1) j a xs = dec (a + w * 128 ^ j) (j + (encN f w).length) ∧ a + w * 128 ^ j ≤ 4294967295
  | f, j, a, [], hb, h => by exact absurd rfl h
  | f, j, a, x :: xs, hb, h => by
    by_cases hx : 128 ≤ x
    · rw [getN, if_pos hx] at h ⊢
      cases f with
      | zero => exact absurd rfl h
      | succ f =>
        obtain ⟨w, h1, h2, h3, h4, h5⟩ := get_inv f (j + 1) (a + (x % 128) * 128 ^ j) xs (fun y hy => hb y (List.mem_cons_of_mem _ hy)) h
        have hw := h3 (by omega)
        have hx2 := hb x (List.mem_cons_self ..)
        have e : encN (f + 1) (x % 128 + 128 * w) = x :: encN f w := by
          rw [encN, if_pos (by omega), show (x % 128 + 128 * w) % 128 + 128 = x by omega, show (x % 128 + 128 * w) / 128 = w by omega]
        have e2 : a + x % 128 * 128 ^ j + w * 128 ^ (j + 1) = a + (x % 128 + 128 * w) * 128 ^ j := by
          rw [Nat.pow_succ, Nat.add_assoc]; congr 1
          rw [Nat.add_mul]; congr 1
          rw [Nat.mul_comm (128 ^ j) 128, ← Nat.mul_assoc, Nat.mul_comm w 128]
        refine ⟨x % 128 + 128 * w, ?_, ?_, fun _ => by omega, ?_, ?_⟩
        · rw [e, List.length_cons, List.take_succ_cons, h1]
        · rw [e, List.length_cons, List.length_cons]; omega
        · rw [h4, e, List.length_cons, e2]; congr 1; omega
        · rw [← e2]; exact h5
    · rw [getN, if_neg hx] at h ⊢
      have e : encN f x = [x] := by cases f with
        | zero => rfl
        | succ f => rw [encN, if_neg hx]
      have hm : x % 128 = x := Nat.mod_eq_of_lt (by omega)
      rw [hm] at h ⊢
      unfold getF at h ⊢
      by_cases hc : 4294967295 < a + x * 128 ^ j ∨ (x = 0 ∧ 1 < j + 1)
      · rw [if_pos hc] at h; exact absurd rfl h
      · rw [if_neg hc]
        refine ⟨x, by rw [e]; rfl, by rw [e]; simp, fun hj => ?_, ?_, ?_⟩
        · rcases Nat.eq_zero_or_pos x with h0 | h0
          · exact absurd (.inr ⟨h0, by omega⟩) hc
          · exact h0
        · rw [e]; rfl
        · rcases Nat.lt_or_ge 4294967295 (a + x * 128 ^ j) with h' | h'
          · exact absurd (.inl h') hc
          · exact h'
theorem gN_inv {xs : List Nat} (hb : ∀ x ∈ xs, x < 256) (h : (gN xs).2 ≠ 0) : ∃ w, xs.take (encN 4 w).length = encN 4 w ∧ (encN 4 w).length ≤ xs.length ∧ gN xs = dec w (encN 4 w).length ∧ w ≤ 4294967295 := by
  obtain ⟨w, h1, h2, h3, h4, h5⟩ := get_inv 4 0 0 xs hb h
  refine ⟨w, h1, h2, ?_, ?_⟩
  · unfold gN; rw [h4, Nat.pow_zero, Nat.mul_one, Nat.zero_add, Nat.zero_add]
  · rw [Nat.pow_zero, Nat.mul_one, Nat.zero_add] at h5; exact h5
theorem enc_one {u : Nat} (h : u < 128) : encN 4 u = [u] := by rw [encN, if_neg (by omega)]
theorem okN_seal (xs : List Nat) : okN (sealN xs) = true ∧ (sealN xs).take ((sealN xs).length - 4) = xs := by
  have e : (sealN xs).take ((sealN xs).length - 4) = xs := by
    rw [seal_len, Nat.add_sub_cancel]; unfold sealN; rw [List.take_left]
  refine ⟨?_, e⟩
  unfold okN
  rw [e, seal_len]
  exact decide_eq_true ⟨by omega, rfl⟩
end Go.Proofs.Ytidkmoohgadjkaa.C
