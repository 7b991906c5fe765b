/- What the functions of code compute, for a law that calls them. -/
import Derived.Test.YtidkmoohgadjkaaBCodeUp
set_option linter.unusedVariables false
set_option linter.unusedSimpArgs false
set_option maxRecDepth 100000
set_option maxHeartbeats 4000000
namespace Go.Proofs.Ytidkmoohgadjkaa.C
open Go E N
theorem sound2 : ∀ t, Step T Hh1 [] (TaskOk Try.prog) Try.prog prim t → TaskOk Try.prog t := sound T_ok mixedF prim_ok
namespace D
section
variable {X : Task → Prop} (hX : ∀ t, Step T Hh1 [] X Try.prog prim t → X t) {Q : A → List Blk → Prop} {c : PC} {xs : List Nat}
include hX
theorem num_loop {K : Ex → List A → List Blk → Prop} {tot : List Nat} (hend : ∀ (v k : Nat) (ys : List Nat) (f : Nat), ¬ 128 ≤ v → v < 128 ^ (f + 1) → ys.length ≤ 4 → ys ++ encN f v = tot → (Nat.beq k 1 || Nat.beq k 0) = true → X (.loop 5 0 (loopN Try.f5 0) (pad [(3, u64 (v : Int)), (0, .one (.own 0))] 31) [.rows k (bs ys)] K))
    (s : NS) (hI : NumI tot s) : X (.loop 5 0 (loopN Try.f5 0) (pad [(3, u64 s.u), (0, .one (.own 0))] 31) [.rows s.k s.acc] K) := by
  refine loop_gen (fun s : NS => pad [(3, u64 s.u), (0, .one (.own 0))] 31) (fun s => [.rows s.k s.acc]) (NumI tot) (fun s => s.u.toNat) (fun s hI ih => ?_) s hI
  obtain ⟨u, k, acc⟩ := s
  obtain ⟨f, v, ys, rfl, rfl, hv, hf, ht, hl, hk⟩ := hI
  by_cases hge : 128 ≤ v
  · have p1 : leI 128 (v : Int) = true := leI_t.2 (by omega)
    have hvb : v < 128 ^ 5 := Nat.lt_of_lt_of_le hv (Nat.pow_le_pow_right (by decide) (by omega))
    have hz : wr .u64 (tdivI (v : Int) 128) = ((v / 128 : Nat) : Int) := by rw [tdiv128, wr64u (by omega) (by omega)]
    have hb : wr .u8 (wr .u8 (tmodI (v : Int) 128) + 128) = ((v % 128 + 128 : Nat) : Int) := by
      rw [tmod128, wr8, show ((v % 128 % 256 : Nat) : Int) + 128 = ((v % 128 + 128 : Nat) : Int) by omega, wr8]; omega
    refine loop_intro hX ?_
    repeat' ((conv => whnf); first
      | refine eqv_id ?_ | refine Two.l ?_
      | refine bct (by assumption) ?_ | refine bcf (by assumption) ?_ | refine bct (rmk (by omega) hk) ?_
      | refine ih ⟨_, _, _⟩ (num_step hv hf ht hl hge hz hb rfl) (num_meas hge hz))
  · exact hend v k ys f hge hv (by omega) ht hk
theorem num_ok {n : Int} (h1 : -2147483648 ≤ n → n ≤ 2147483647 → Q (sl (bs (encN 4 (numU n)))) []) (h2 : (n < -2147483648 ∨ 2147483647 < n) → Q (sl []) []) : X (.call 5 [iv n] [] Q) := by
  refine call_intro hX Try.func5 rfl rfl ?_
  by_cases hr : -2147483648 ≤ n ∧ n ≤ 2147483647
  · have q1 : ltI n (-2147483648) = false := ltI_f.2 (by omega)
    have q2 : ltI 2147483647 n = false := ltI_f.2 (by omega)
    have fin := h1 hr.1 hr.2
    have hend : ∀ l, l = bs (encN 4 (numU n)) → Q (sl l) [] := fun l hl => hl ▸ fin
    by_cases hneg : n < 0
    · have q3 : ltI n 0 = true := ltI_t.2 hneg
      have hz : wr .u64 (wr .i64 (wr .i64 (-2 * n) - 1)) = ((numU n : Nat) : Int) := by
        unfold numU; rw [if_pos hneg, wr64 (n := -2 * n) (by omega) (by omega), wr64 (by omega) (by omega), wr64u (by omega) (by omega)]; omega
      have hu : numU n < 128 ^ (4 + 1) := by unfold numU; rw [if_pos hneg]; omega
      repeat' ((conv => whnf); first | refine eqv_id ?_ | refine Two.l ?_ | refine bct (by assumption) ?_ | refine bcf (by assumption) ?_)
      refine num_loop hX (tot := encN 4 (numU n)) (fun v k ys f hge hv hl ht hk => ?_) ⟨_, 0, []⟩ ⟨4, numU n, [], hz, rfl, hu, by omega, rfl, by simp, rfl⟩
      have p1 : leI 128 (v : Int) = false := leI_f.2 (by omega)
      have hb : wr .u8 (v : Int) = (v : Int) := by rw [wr8]; omega
      refine loop_intro hX ?_
      repeat' ((conv => whnf); first | refine eqv_id ?_ | refine Two.l ?_ | exact hend _ (num_end ht hge hb) | refine bct (by assumption) ?_ | refine bcf (by assumption) ?_ | refine bct (rmk hl hk) ?_)
    · have q3 : ltI n 0 = false := ltI_f.2 (by omega)
      have hz : wr .u64 (wr .i64 (2 * n)) = ((numU n : Nat) : Int) := by
        unfold numU; rw [if_neg hneg, wr64 (by omega) (by omega), wr64u (by omega) (by omega)]; omega
      have hu : numU n < 128 ^ (4 + 1) := by unfold numU; rw [if_neg hneg]; omega
      repeat' ((conv => whnf); first | refine eqv_id ?_ | refine Two.l ?_ | refine bct (by assumption) ?_ | refine bcf (by assumption) ?_)
      refine num_loop hX (tot := encN 4 (numU n)) (fun v k ys f hge hv hl ht hk => ?_) ⟨_, 0, []⟩ ⟨4, numU n, [], hz, rfl, hu, by omega, rfl, by simp, rfl⟩
      have p1 : leI 128 (v : Int) = false := leI_f.2 (by omega)
      have hb : wr .u8 (v : Int) = (v : Int) := by rw [wr8]; omega
      refine loop_intro hX ?_
      repeat' ((conv => whnf); first | refine eqv_id ?_ | refine Two.l ?_ | exact hend _ (num_end ht hge hb) | refine bct (by assumption) ?_ | refine bcf (by assumption) ?_ | refine bct (rmk hl hk) ?_)
  · have fin := h2 (by omega)
    by_cases hneg : n < -2147483648
    · have q1 : ltI n (-2147483648) = true := ltI_t.2 hneg
      repeat' ((conv => whnf); first | refine eqv_id ?_ | refine Two.l ?_ | exact fin | refine bct (by assumption) ?_ | refine bcf (by assumption) ?_)
    · have q1 : ltI n (-2147483648) = false := ltI_f.2 (by omega)
      have q2 : ltI 2147483647 n = true := ltI_t.2 (by omega)
      repeat' ((conv => whnf); first | refine eqv_id ?_ | refine Two.l ?_ | exact fin | refine bct (by assumption) ?_ | refine bcf (by assumption) ?_)
end
section
variable {X : Task → Prop} (hX : ∀ t, Step T Hh1 [] X Try.prog prim t → X t) {Q : A → List Blk → Prop} {c : PC} {xs : List Nat}
include hX
end
end D
end Go.Proofs.Ytidkmoohgadjkaa.C
