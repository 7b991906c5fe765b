/- DiskCuts: what the law computes is true. -/
import Derived.Test.YtjapbanelfcjhaaDiskCutsW
import Derived.Test.YtjapbanelfcjhaaEvRow
set_option linter.unusedVariables false
set_option linter.unusedSimpArgs false
set_option maxRecDepth 100000
namespace Go.Proofs.Ytjapbanelfcjhaa.D
open Go E
theorem cuts_ok {X : Task → Prop} (hX : Closed X) {l : PC} {rows : List (List PC)} {a n b : Int} {Q : A → List Blk → Prop} (hl : RowsP l rows) (hrow : ∀ i, lenB rows i = true → ∃ c r, RowIs rows i c r)
    (hn : n ≤ 9223372036854775807) (hQ : Q (bv true) []) : X (.call 3 [.one (.p l), iv a, iv n, iv b] [] Q) := by
  refine call_intro hX Try.func3 rfl rfl ?_
  rcases hl with rfl | ⟨rfl, rfl⟩
  · repeat' ((conv => whnf); first | exact hQ | refine ⟨by kernel_rfl, ?_⟩ | refine lup_ok hX ?_ | refine new_ok hX ?_ | refine bct (by assumption) ?_ | refine bcf (by assumption) ?_ | refine bc (fun _ => ?_) (fun _ => ?_))
    rename_i h60 hn0
    (conv => whnf)
    rw [ltI_f] at h60
    refine loop_gen (St.t (.sl rows) a n b) St.s (Inv1 rows a n) (fun s => (lenL rows - s.i).toNat) (fun st hI ih => ?_) ⟨0, ⟨#[]⟩, false, 0, false, 0, false, 0, []⟩ ⟨by decide, lenL_nn _, rfl, rfl, by decide, rfl, by decide, by decide, .inl ⟨rfl, rfl, rfl⟩⟩
    obtain ⟨i, w, lit, rest, dl, left, dn, k, bs⟩ := st
    by_cases hend : ltI i (lenL rows) = true
    · refine round_ok hX (Q := Q) hn0 hn h60 hI hrow hend ih (fun t σ h => ?_)
      (conv => whnf)
      rw [h]
      exact hQ
    · have hend' : ltI i (lenL rows) = false := by simpa using hend
      have hw := hI.w
      have hok := hI.ok
      have hlen := hI.len
      have hi1 := hI.i1
      dsimp only at *
      have g1 : (roomFor [] bs 1 && rowsOk bs 1 && (Nat.beq 1 1 || Nat.beq 1 0)) = true := and3 (room1 (by unfold lenL at *; simp; omega)) (rowsOk_str hok) rfl
      have g2 : eqS (strOf (catL [] bs)) w = true := by subst hw; exact eqS_refl _
      refine loop_intro hX ?_
      repeat' ((conv => whnf); first | exact hQ | refine ⟨by kernel_rfl, ?_⟩ | refine bytes_ok hX (by assumption) ?_ | refine bct (by assumption) ?_ | refine bcf (by assumption) ?_)
      all_goals (conv => whnf)
      all_goals exact Qa hQ (by rw [g2])
  · repeat' ((conv => whnf); first | exact hQ | refine ⟨by kernel_rfl, ?_⟩ | refine lup_ok hX ?_ | refine new_ok hX ?_ | refine bytes_ok hX rfl ?_ | refine bct (by assumption) ?_ | refine bcf (by assumption) ?_ | refine bc (fun _ => ?_) (fun _ => ?_) | refine loop_intro hX ?_)
end Go.Proofs.Ytjapbanelfcjhaa.D
