/- Numbers and texts as bytes. -/
import Derived.Test.YtjapbanelfcjhaaCode4
set_option linter.unusedVariables false
set_option linter.unusedSimpArgs false
set_option maxRecDepth 100000
namespace Go.Proofs.Ytjapbanelfcjhaa.C
open Go E N
def encN : Nat → Nat → List Nat
  | 0, u => [u]
  | f + 1, u => if 128 ≤ u then (u % 128 + 128) :: encN f (u / 128) else [u]
def numU (n : Int) : Nat := if n < 0 then (-2 * n - 1).toNat else (2 * n).toNat
theorem enc_lt : ∀ (f : Nat) {u : Nat}, u < 128 ^ (f + 1) → ∀ x ∈ encN f u, x < 256
  | 0, u, h, x, hx => by simp [encN] at hx; subst hx; simp at h; omega
  | f + 1, u, h, x, hx => by
    unfold encN at hx
    split at hx
    · rcases List.mem_cons.1 hx with rfl | hx
      · omega
      · exact enc_lt f (by rw [Nat.pow_succ] at h; exact Nat.div_lt_of_lt_mul (by rw [Nat.mul_comm]; exact h)) x hx
    · simp at hx; omega
theorem enc_len : ∀ (f u : Nat), (encN f u).length ≤ f + 1
  | 0, _ => by simp [encN]
  | f + 1, u => by unfold encN; split <;> simp; exact enc_len f _
structure NS where
  u : Int
  k : Nat
  acc : List (List PC)
def NumI (tot : List Nat) (s : NS) : Prop := ∃ (f v : Nat) (ys : List Nat), s.u = (v : Int) ∧ s.acc = bs ys ∧ v < 128 ^ (f + 1) ∧ f ≤ 4 ∧ ys ++ encN f v = tot ∧ ys.length + f ≤ 4 ∧ (Nat.beq s.k 1 || Nat.beq s.k 0) = true
theorem tmod128 (a : Nat) : tmodI (a : Int) 128 = ((a % 128 : Nat) : Int) := by
  unfold tmodI; rw [Int.tmod_eq_emod_of_nonneg (by omega)]; omega
theorem tdiv128 (a : Nat) : tdivI (a : Int) 128 = ((a / 128 : Nat) : Int) := by
  unfold tdivI; rw [Int.tdiv_eq_ediv_of_nonneg (by omega)]; omega
theorem wr64u {n : Int} (h1 : 0 ≤ n) (h2 : n < 18446744073709551616) : wr .u64 n = n := by
  unfold wr IntKind.wrap
  simp [IntKind.signed, IntKind.bits]
  omega
theorem num_step {tot ys : List Nat} {f v : Nat} {z b : Int} {a' : List (List PC)} (hv : v < 128 ^ (f + 1)) (hf : f ≤ 4) (ht : ys ++ encN f v = tot) (hl : ys.length + f ≤ 4) (h : 128 ≤ v) (hz : z = ((v / 128 : Nat) : Int)) (hb : b = ((v % 128 + 128 : Nat) : Int)) (ha : a' = catL (bs ys) [[.v (.int .u8 b)]]) : NumI tot ⟨z, 1, a'⟩ := by
  cases f with
  | zero => simp at hv; omega
  | succ f =>
    refine ⟨f, v / 128, ys ++ [v % 128 + 128], hz, ?_, by rw [Nat.pow_succ] at hv; exact Nat.div_lt_of_lt_mul (by rw [Nat.mul_comm]; exact hv), by omega, ?_, by simp; omega, rfl⟩
    · rw [ha, hb]; exact cat_bs ys [v % 128 + 128]
    · rw [← ht, show encN (f + 1) v = (v % 128 + 128) :: encN f (v / 128) by rw [encN, if_pos h]]; simp
theorem num_end {tot ys : List Nat} {f v : Nat} {b : Int} (ht : ys ++ encN f v = tot) (h : ¬ 128 ≤ v) (hb : b = (v : Int)) : catL (bs ys) [[.v (.int .u8 b)]] = bs tot := by
  rw [hb, ← ht, show encN f v = [v] by cases f with | zero => rfl | succ f => unfold encN; rw [if_neg h]]
  exact cat_bs ys [v]
theorem rmk {ys : List Nat} {c : Int} {k : Nat} (h : ys.length ≤ 4) (hk : (Nat.beq k 1 || Nat.beq k 0) = true) : (roomFor (bs ys) [[.v (.int .u8 c)]] 1 && rowsOk [[.v (.int .u8 c)]] 1 && (Nat.beq k 1 || Nat.beq k 0)) = true :=
  and3 (room1 (by simp; omega)) rfl hk
theorem num_meas {v : Nat} {z : Int} (h : 128 ≤ v) (hz : z = ((v / 128 : Nat) : Int)) : z.toNat < ((v : Nat) : Int).toNat := by rw [hz]; omega
abbrev u64 (n : Int) : A := .one (.p (.v (.int .u64 n)))
section
variable {X : Task → Prop} (hX : Closed X) {Q : A → List Blk → Prop} {c : PC} {xs : List Nat}
include hX
theorem num_loop {K : Ex → List A → List Blk → Prop} {tot : List Nat} (hend : ∀ (v k : Nat) (ys : List Nat) (f : Nat), ¬ 128 ≤ v → v < 128 ^ (f + 1) → ys.length ≤ 4 → ys ++ encN f v = tot → (Nat.beq k 1 || Nat.beq k 0) = true → X (.loop 58 0 (loopN Try.f58 0) (pad [(3, u64 (v : Int)), (0, .one (.own 0))] 31) [.rows k (bs ys)] K))
    (s : NS) (hI : NumI tot s) : X (.loop 58 0 (loopN Try.f58 0) (pad [(3, u64 s.u), (0, .one (.own 0))] 31) [.rows s.k s.acc] K) := by
  refine loop_gen (fun s : NS => pad [(3, u64 s.u), (0, .one (.own 0))] 31) (fun s => [.rows s.k s.acc]) (NumI tot) (fun s => s.u.toNat) (fun s hI ih => ?_) s hI
  obtain ⟨u, k, acc⟩ := s
  obtain ⟨f, v, ys, rfl, rfl, hv, hf, ht, hl, hk⟩ := hI
  by_cases hge : 128 ≤ v
  · have p1 : leI 128 (v : Int) = true := leI_t.2 (by omega)
    have hvb : v < 128 ^ 5 := Nat.lt_of_lt_of_le hv (Nat.pow_le_pow_right (by decide) (by omega))
    have hz : wr .u64 (tdivI (v : Int) 128) = ((v / 128 : Nat) : Int) := by rw [tdiv128, wr64u (by omega) (by omega)]
    have hb : wr .u8 (wr .u8 (tmodI (v : Int) 128) + 128) = ((v % 128 + 128 : Nat) : Int) := by
      rw [tmod128, wr8, show ((v % 128 % 256 : Nat) : Int) + 128 = ((v % 128 + 128 : Nat) : Int) by omega, wr8]; omega
    refine loop_intro hX ?_
    repeat' ((conv => whnf); first
      | refine bct (by assumption) ?_ | refine bcf (by assumption) ?_ | refine bct (rmk (by omega) hk) ?_
      | refine ih ⟨_, _, _⟩ (num_step hv hf ht hl hge hz hb rfl) (num_meas hge hz))
  · exact hend v k ys f hge hv (by omega) ht hk
theorem num_ok {n : Int} (h1 : -2147483648 ≤ n → n ≤ 2147483647 → Q (.one (.own 0)) [.rows 1 (bs (encN 4 (numU n)))]) (h2 : (n < -2147483648 ∨ 2147483647 < n) → Q (.one (.own 0)) [.rows 0 []]) : X (.call 58 [iv n] [] Q) := by
  refine call_intro hX Try.func58 rfl rfl ?_
  by_cases hr : -2147483648 ≤ n ∧ n ≤ 2147483647
  · have q1 : ltI n (-2147483648) = false := ltI_f.2 (by omega)
    have q2 : ltI 2147483647 n = false := ltI_f.2 (by omega)
    have fin := h1 hr.1 hr.2
    have hend : ∀ l, l = bs (encN 4 (numU n)) → Q (.one (.own 0)) [.rows 1 l] := fun l hl => hl ▸ fin
    by_cases hneg : n < 0
    · have q3 : ltI n 0 = true := ltI_t.2 hneg
      have hz : wr .u64 (wr .i64 (wr .i64 (-2 * n) - 1)) = ((numU n : Nat) : Int) := by
        unfold numU; rw [if_pos hneg, wr64 (n := -2 * n) (by omega) (by omega), wr64 (by omega) (by omega), wr64u (by omega) (by omega)]; omega
      have hu : numU n < 128 ^ (4 + 1) := by unfold numU; rw [if_pos hneg]; omega
      repeat' ((conv => whnf); first | refine bct (by assumption) ?_ | refine bcf (by assumption) ?_)
      refine num_loop hX (tot := encN 4 (numU n)) (fun v k ys f hge hv hl ht hk => ?_) ⟨_, 0, []⟩ ⟨4, numU n, [], hz, rfl, hu, by omega, rfl, by simp, rfl⟩
      have p1 : leI 128 (v : Int) = false := leI_f.2 (by omega)
      have hb : wr .u8 (v : Int) = (v : Int) := by rw [wr8]; omega
      refine loop_intro hX ?_
      repeat' ((conv => whnf); first | exact hend _ (num_end ht hge hb) | refine bct (by assumption) ?_ | refine bcf (by assumption) ?_ | refine bct (rmk hl hk) ?_)
    · have q3 : ltI n 0 = false := ltI_f.2 (by omega)
      have hz : wr .u64 (wr .i64 (2 * n)) = ((numU n : Nat) : Int) := by
        unfold numU; rw [if_neg hneg, wr64 (by omega) (by omega), wr64u (by omega) (by omega)]; omega
      have hu : numU n < 128 ^ (4 + 1) := by unfold numU; rw [if_neg hneg]; omega
      repeat' ((conv => whnf); first | refine bct (by assumption) ?_ | refine bcf (by assumption) ?_)
      refine num_loop hX (tot := encN 4 (numU n)) (fun v k ys f hge hv hl ht hk => ?_) ⟨_, 0, []⟩ ⟨4, numU n, [], hz, rfl, hu, by omega, rfl, by simp, rfl⟩
      have p1 : leI 128 (v : Int) = false := leI_f.2 (by omega)
      have hb : wr .u8 (v : Int) = (v : Int) := by rw [wr8]; omega
      refine loop_intro hX ?_
      repeat' ((conv => whnf); first | exact hend _ (num_end ht hge hb) | refine bct (by assumption) ?_ | refine bcf (by assumption) ?_ | refine bct (rmk hl hk) ?_)
  · have fin := h2 (by omega)
    by_cases hneg : n < -2147483648
    · have q1 : ltI n (-2147483648) = true := ltI_t.2 hneg
      repeat' ((conv => whnf); first | exact fin | refine bct (by assumption) ?_ | refine bcf (by assumption) ?_)
    · have q1 : ltI n (-2147483648) = false := ltI_f.2 (by omega)
      have q2 : ltI 2147483647 n = true := ltI_t.2 (by omega)
      repeat' ((conv => whnf); first | exact fin | refine bct (by assumption) ?_ | refine bcf (by assumption) ?_)
theorem rnum_loop {K : Ex → List A → List Blk → Prop} {tot : List Nat} (hend : ∀ (v k : Nat) (ys : List Nat) (f : Nat), ¬ 128 ≤ v → v < 128 ^ (f + 1) → ys.length ≤ 4 → ys ++ encN f v = tot → (Nat.beq k 1 || Nat.beq k 0) = true → X (.loop 59 0 (loopN Try.f59 0) (pad [(3, iv (v : Int)), (0, .one (.own 0))] 29) [.rows k (bs ys)] K))
    (s : NS) (hI : NumI tot s) : X (.loop 59 0 (loopN Try.f59 0) (pad [(3, iv s.u), (0, .one (.own 0))] 29) [.rows s.k s.acc] K) := by
  refine loop_gen (fun s : NS => pad [(3, iv s.u), (0, .one (.own 0))] 29) (fun s => [.rows s.k s.acc]) (NumI tot) (fun s => s.u.toNat) (fun s hI ih => ?_) s hI
  obtain ⟨u, k, acc⟩ := s
  obtain ⟨f, v, ys, rfl, rfl, hv, hf, ht, hl, hk⟩ := hI
  by_cases hge : 128 ≤ v
  · have p1 : ltI 127 (v : Int) = true := ltI_t.2 (by omega)
    have hvb : v < 128 ^ 5 := Nat.lt_of_lt_of_le hv (Nat.pow_le_pow_right (by decide) (by omega))
    have hz : wr .i64 (tdivI (v : Int) 128) = ((v / 128 : Nat) : Int) := by rw [tdiv128, wr64 (by omega) (by omega)]
    have hb : wr .u8 (wr .i64 (128 + tmodI (v : Int) 128)) = ((v % 128 + 128 : Nat) : Int) := by
      rw [tmod128, wr64 (by omega) (by omega), show 128 + ((v % 128 : Nat) : Int) = ((v % 128 + 128 : Nat) : Int) by omega, wr8]; omega
    refine loop_intro hX ?_
    repeat' ((conv => whnf); first
      | refine bct (by assumption) ?_ | refine bcf (by assumption) ?_ | refine bct (rmk (by omega) hk) ?_
      | refine ih ⟨_, _, _⟩ (num_step hv hf ht hl hge hz hb rfl) (num_meas hge hz))
  · exact hend v k ys f hge hv (by omega) ht hk
theorem rnum_ok {n : Int} (h1 : -2147483648 ≤ n → n ≤ 2147483647 → Q (sl (bs (encN 4 (numU n)))) []) (h2 : (n < -2147483648 ∨ 2147483647 < n) → Q (sl []) []) : X (.call 59 [iv n] [] Q) := by
  refine call_intro hX Try.func59 rfl rfl ?_
  by_cases hr : -2147483648 ≤ n ∧ n ≤ 2147483647
  · have q1 : ltI n (-2147483648) = false := ltI_f.2 (by omega)
    have q2 : ltI 2147483647 n = false := ltI_f.2 (by omega)
    have fin := h1 hr.1 hr.2
    have hend : ∀ l, l = bs (encN 4 (numU n)) → Q (sl l) [] := fun l hl => hl ▸ fin
    by_cases hneg : n < 0
    · have q3 : ltI n 0 = true := ltI_t.2 hneg
      have hz : wr .i64 (wr .i64 (-2 * n) - 1) = ((numU n : Nat) : Int) := by
        unfold numU; rw [if_pos hneg, wr64 (n := -2 * n) (by omega) (by omega), wr64 (by omega) (by omega)]; omega
      have hu : numU n < 128 ^ (4 + 1) := by unfold numU; rw [if_pos hneg]; omega
      repeat' ((conv => whnf); first | refine bct (by assumption) ?_ | refine bcf (by assumption) ?_)
      refine rnum_loop hX (tot := encN 4 (numU n)) (fun v k ys f hge hv hl ht hk => ?_) ⟨_, 0, []⟩ ⟨4, numU n, [], hz, rfl, hu, by omega, rfl, by simp, rfl⟩
      have p1 : ltI 127 (v : Int) = false := ltI_f.2 (by omega)
      have hb : wr .u8 (v : Int) = (v : Int) := by rw [wr8]; omega
      refine loop_intro hX ?_
      repeat' ((conv => whnf); first | exact hend _ (num_end ht hge hb) | refine bct (by assumption) ?_ | refine bcf (by assumption) ?_ | refine bct (rmk hl hk) ?_)
    · have q3 : ltI n 0 = false := ltI_f.2 (by omega)
      have hz : wr .i64 (2 * n) = ((numU n : Nat) : Int) := by
        unfold numU; rw [if_neg hneg, wr64 (by omega) (by omega)]; omega
      have hu : numU n < 128 ^ (4 + 1) := by unfold numU; rw [if_neg hneg]; omega
      repeat' ((conv => whnf); first | refine bct (by assumption) ?_ | refine bcf (by assumption) ?_)
      refine rnum_loop hX (tot := encN 4 (numU n)) (fun v k ys f hge hv hl ht hk => ?_) ⟨_, 0, []⟩ ⟨4, numU n, [], hz, rfl, hu, by omega, rfl, by simp, rfl⟩
      have p1 : ltI 127 (v : Int) = false := ltI_f.2 (by omega)
      have hb : wr .u8 (v : Int) = (v : Int) := by rw [wr8]; omega
      refine loop_intro hX ?_
      repeat' ((conv => whnf); first | exact hend _ (num_end ht hge hb) | refine bct (by assumption) ?_ | refine bcf (by assumption) ?_ | refine bct (rmk hl hk) ?_)
  · have fin := h2 (by omega)
    by_cases hneg : n < -2147483648
    · have q1 : ltI n (-2147483648) = true := ltI_t.2 hneg
      repeat' ((conv => whnf); first | exact fin | refine bct (by assumption) ?_ | refine bcf (by assumption) ?_)
    · have q1 : ltI n (-2147483648) = false := ltI_f.2 (by omega)
      have q2 : ltI 2147483647 n = true := ltI_t.2 (by omega)
      repeat' ((conv => whnf); first | exact fin | refine bct (by assumption) ?_ | refine bcf (by assumption) ?_)
end
end Go.Proofs.Ytjapbanelfcjhaa.C
