/- DiskPlays: what the law computes is true. -/
import Derived.Test.YtjapbanelfcjhaaDisk2
import Derived.Test.YtjapbanelfcjhaaEvRow
set_option linter.unusedVariables false
set_option linter.unusedSimpArgs false
set_option maxRecDepth 100000
namespace Go.Proofs.Ytjapbanelfcjhaa.P
open Go E
def DeedIs (rows : List (List PC)) (i : Int) (w n : Int) (c : PC) (r : List (List PC)) : Prop := E.rowAt rows i = [.v (.int .i64 w), .v (.int .i64 n), c] ∧ RowsP c r ∧ strOk r = true
theorem pick_neg {n m : Int} (hm : 0 < m) (h : tmodI n m < 0) : tmodI n m + m = n % m := by
  unfold tmodI at *
  have h1 := Int.tmod_eq_emod (a := n) (b := m)
  have h2 := Int.emod_nonneg n (by omega : m ≠ 0)
  have h3 := Int.emod_lt_of_pos n hm
  split at h1 <;> omega
theorem pick_pos {n m : Int} (hm : 0 < m) (h : 0 ≤ tmodI n m) : tmodI n m = n % m := by
  unfold tmodI at *
  have h1 := Int.tmod_eq_emod (a := n) (b := m)
  have h2 := Int.emod_nonneg n (by omega : m ≠ 0)
  have h3 := Int.emod_lt_of_pos n hm
  split at h1 <;> omega
theorem deed_same {rows : List (List PC)} {i w n c r w' n' c' r'} (h : DeedIs rows i w n c r) (h' : DeedIs rows i w' n' c' r') : lenL r = lenL r' := by
  obtain ⟨h1, h2, _⟩ := h
  obtain ⟨h1', h2', _⟩ := h'
  rw [h1] at h1'
  simp only [List.cons.injEq, PC.v.injEq, Value.int.injEq, true_and, and_true] at h1'
  obtain ⟨_, _, rfl⟩ := h1'
  rcases h2 with rfl | ⟨rfl, rfl⟩ <;> rcases h2' with h2' | ⟨h2', rfl⟩
  · injection h2' with h2'; rw [h2']
  · cases h2'
  · cases h2'
  · rfl
section
variable {X : Task → Prop} (hX : Closed X) {Q : A → List Blk → Prop} {rows : List (List PC)}
include hX
theorem pick_ok {n z : Int} (hz : n % 8 = z) (hQ : Q (iv z) []) : X (.call 44 [iv n, iv 8] [] Q) := by
  refine call_intro hX Try.func44 rfl rfl ?_
  by_cases hneg : ltI (tmodI n 8) 0 = true
  · have h4 := pick_neg (m := 8) (by decide) (ltI_t.1 hneg)
    repeat' ((conv => whnf); first | refine bct (by assumption) ?_ | refine bcf (by assumption) ?_)
    all_goals (conv => whnf)
    refine Qa hQ ?_
    rw [h4, hz, wr64 (by omega) (by omega)]
  · have hneg' : ltI (tmodI n 8) 0 = false := by simpa using hneg
    have h4 := pick_pos (m := 8) (by decide) (ltI_f.1 hneg')
    repeat' ((conv => whnf); first | refine bct (by assumption) ?_ | refine bcf (by assumption) ?_)
    all_goals (conv => whnf)
    refine Qa hQ ?_
    rw [h4, hz]
def Few (rows : List (List PC)) : Prop := lenL rows ≤ 100 ∧ ∀ (i : Int) w n c r, lenB rows i = true → DeedIs rows i w n c r → lenL r ≤ 1000
def FewI (rows : List (List PC)) (i : Int) : Prop := 0 ≤ i ∧ i ≤ lenL rows ∧ ∀ (j : Int) w n c r, 0 ≤ j → j < i → DeedIs rows j w n c r → lenL r ≤ 1000
theorem few_ok {l : PC} (hl : RowsP l rows) (hrow : ∀ i, lenB rows i = true → ∃ w n c r, DeedIs rows i w n c r) (h1 : Few rows → Q (iv 1) []) (h2 : Q (iv 0) []) : X (.call 43 [.one (.p l)] [] Q) := by
  refine call_intro hX Try.func43 rfl rfl ?_
  rcases hl with rfl | ⟨rfl, rfl⟩
  · by_cases hbig : 100 < lenL rows
    · have q1 : ltI 100 (lenL rows) = true := ltI_t.2 hbig
      repeat' ((conv => whnf); first | exact h2 | refine ⟨by kernel_rfl, ?_⟩ | refine bct (by assumption) ?_ | refine bcf (by assumption) ?_)
    · have q1 : ltI 100 (lenL rows) = false := ltI_f.2 (by omega)
      repeat' ((conv => whnf); first | refine ⟨by kernel_rfl, ?_⟩ | refine bct (by assumption) ?_ | refine bcf (by assumption) ?_)
      (conv => whnf)
      refine loop_gen (fun i : Int => pad [(0, .one (.p (.sl rows))), (2, iv i)] 16) (fun _ => []) (FewI rows) (fun i => (lenL rows - i).toNat) (fun i hI ih => ?_) 0 ⟨by omega, lenL_nn _, fun j _ _ _ _ h0 h1 => by omega⟩
      obtain ⟨hi0, hi1, hI⟩ := hI
      refine loop_intro hX ?_
      by_cases hend : i < lenL rows
      · have q2 : ltI i (lenL rows) = true := ltI_t.2 hend
        have q3 : lenB rows i = true := by unfold lenB; rw [decide_eq_true_eq]; exact ⟨hi0, hend⟩
        obtain ⟨w, n, c, r, hd⟩ := hrow i q3
        have hd' := hd
        obtain ⟨hc, hcr, hrs⟩ := hd
        have k1 : wr .i64 (i + 1) = i + 1 := wr64 (by omega) (by omega)
        by_cases h1000 : 1000 < lenL r
        · have q4 : ltI 1000 (lenL r) = true := ltI_t.2 h1000
          rcases hcr with rfl | ⟨rfl, rfl⟩
          all_goals
            repeat' ((conv => whnf); first | exact h2 | refine ⟨by kernel_rfl, ?_⟩ | refine bct (by assumption) ?_ | refine bcf (by assumption) ?_ | rw [hc])
          all_goals (exfalso; revert h1000; decide)
        · have q4 : ltI 1000 (lenL r) = false := ltI_f.2 (by omega)
          have hI' : FewI rows (wr .i64 (i + 1)) := by
            rw [k1]
            refine ⟨by omega, by omega, fun j w' n' c' r' h0 hj hdj => ?_⟩
            by_cases hji : j = i
            · subst hji; rw [deed_same hdj hd']; omega
            · exact hI j w' n' c' r' h0 (by omega) hdj
          have hms : (lenL rows - wr .i64 (i + 1)).toNat < (lenL rows - i).toNat := by rw [k1]; omega
          rcases hcr with rfl | ⟨rfl, rfl⟩
          all_goals
            repeat' ((conv => whnf); first | refine ⟨by kernel_rfl, ?_⟩ | refine bct (by assumption) ?_ | refine bcf (by assumption) ?_ | refine ih _ hI' hms | rw [hc])
      · have q2 : ltI i (lenL rows) = false := ltI_f.2 (by omega)
        have fin := h1 ⟨by omega, fun j w n c r hj hd => hI j w n c r (by unfold lenB at hj; rw [decide_eq_true_eq] at hj; omega) (by unfold lenB at hj; rw [decide_eq_true_eq] at hj; unfold lenL at hend; omega) hd⟩
        repeat' ((conv => whnf); first | exact fin | refine ⟨by kernel_rfl, ?_⟩ | refine bct (by assumption) ?_ | refine bcf (by assumption) ?_)
  · have fin := h1 ⟨by decide, fun j w n c r hj hd => by unfold lenB at hj; rw [decide_eq_true_eq] at hj; simp at hj; omega⟩
    repeat' ((conv => whnf); first | exact fin | refine ⟨by kernel_rfl, ?_⟩ | refine bct (by assumption) ?_ | refine bcf (by assumption) ?_ | refine loop_intro hX ?_)
theorem pup_ok (hQ : Q (bv true) []) : X (.call 15 [] [] Q) := by
  refine call_intro hX Try.func15 rfl rfl ?_
  repeat' ((conv => whnf); first
    | exact hQ | refine ⟨by kernel_rfl, ?_⟩ | refine new_ok hX ?_ | refine fuse_ok hX rfl ?_ | refine add_cut hX (.inl rfl) rfl rfl rfl ?_ | refine down_ok hX ?_ | refine up_ok hX ?_ | refine bytes_ok hX rfl ?_ | refine bct (eqS_t rfl) ?_)
end
end Go.Proofs.Ytjapbanelfcjhaa.P
