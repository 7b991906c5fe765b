/- DiskPlays: the whole law. -/
import Derived.Test.YtjapbanelfcjhaaPlaysZ0
import Derived.Test.YtjapbanelfcjhaaPlaysZ4
import Derived.Test.YtjapbanelfcjhaaPlaysZ5
import Derived.Test.YtjapbanelfcjhaaPlaysZ6
import Derived.Test.YtjapbanelfcjhaaPlaysZ7
set_option linter.unusedVariables false
set_option linter.unusedSimpArgs false
set_option maxRecDepth 100000
namespace Go.Proofs.Ytjapbanelfcjhaa.P
open Go E
theorem plays_round {X : Task → Prop} (hX : Closed X) {rows : List (List PC)} {K : Ex → List A → List Blk → Prop} (hfew : Few rows) (hrow : ∀ i, lenB rows i = true → ∃ w n c r, DeedIs rows i w n c r ∧ n ≤ 9223372036854775807) (st : Pv) (hI : PInv rows st.i st) (hend : st.i < lenL rows)
    (ih : ∀ st', PInv rows st'.i st' → (lenL rows - st'.i).toNat < (lenL rows - st.i).toNat → X (.loop 8 0 (loopN Try.f8 0) (Pv.t (.sl rows) st') (Pv.s st') K)) : X (.loop 8 0 (loopN Try.f8 0) (Pv.t (.sl rows) st) (Pv.s st) K) := by
  have q2 : lenB rows st.i = true := by unfold lenB; rw [decide_eq_true_eq]; exact ⟨hI.i0, hend⟩
  obtain ⟨w, n, c, r, hd, hn⟩ := hrow st.i q2
  have hz : w % 8 = 4 ∨ w % 8 = 5 ∨ w % 8 = 6 ∨ w % 8 = 7 ∨ (eqI (w % 8) 4 = false ∧ eqI (w % 8) 5 = false ∧ eqI (w % 8) 6 = false ∧ eqI (w % 8) 7 = false) := by
    simp only [eqI_f]; omega
  cases ho : st.o with
  | true =>
    rcases hz with hz | hz | hz | hz | ⟨h4, h5, h6, h7⟩
    · exact plays_Z4_o hX hfew hI hend ho hd hn hz ih
    · exact plays_Z5_o hX hfew hI hend ho hd hn hz ih
    · exact plays_Z6_o hX hfew hI hend ho hd hn hz ih
    · exact plays_Z7_o hX hfew hI hend ho hd hn hz ih
    · exact plays_Z0_o hX hfew hI hend ho hd hn rfl h4 h5 h6 h7 ih
  | false =>
    rcases hz with hz | hz | hz | hz | ⟨h4, h5, h6, h7⟩
    · exact plays_Z4_n hX hfew hI hend ho hd hn hz ih
    · exact plays_Z5_n hX hfew hI hend ho hd hn hz ih
    · exact plays_Z6_n hX hfew hI hend ho hd hn hz ih
    · exact plays_Z7_n hX hfew hI hend ho hd hn hz ih
    · exact plays_Z0_n hX hfew hI hend ho hd hn rfl h4 h5 h6 h7 ih
theorem plays_ok {X : Task → Prop} (hX : Closed X) {Q : A → List Blk → Prop} {rows : List (List PC)} {l : PC} (hl : RowsP l rows) (hrow : ∀ i, lenB rows i = true → ∃ w n c r, DeedIs rows i w n c r ∧ n ≤ 9223372036854775807) (hQ : Q (bv true) []) : X (.call 8 [.one (.p l)] [] Q) := by
  have hrow' : ∀ i, lenB rows i = true → ∃ w n c r, DeedIs rows i w n c r := fun i hi => let ⟨w, n, c, r, h, _⟩ := hrow i hi; ⟨w, n, c, r, h⟩
  refine call_intro hX Try.func8 rfl rfl ?_
  rcases hl with rfl | ⟨rfl, rfl⟩
  · repeat' ((conv => whnf); first
      | exact hQ | refine ⟨by kernel_rfl, ?_⟩ | refine pup_ok hX ?_ | refine new_ok hX ?_ | refine rnew_ok hX ?_ | refine few_ok hX (.inl rfl) hrow' (fun _ => ?_) ?_ | refine bct (by assumption) ?_ | refine bcf (by assumption) ?_)
    rename_i hfew
    (conv => whnf)
    refine loop_gen (Pv.t (.sl rows)) Pv.s (fun st => PInv rows st.i st) (fun st => (lenL rows - st.i).toNat) (fun st hI ih => ?_) ⟨0, false, 0, false, 0, [], false, -1, 0, []⟩ ⟨Int.le_refl _, lenL_nn _, by decide, rfl, rfl, rfl, rfl, fun _ => rfl, .inl ⟨rfl, rfl, rfl⟩⟩
    by_cases hend : st.i < lenL rows
    · exact plays_round hX hfew hrow st hI hend ih
    · obtain ⟨i, dl, left, dn, k, bs, o, f, km, cs⟩ := st
      have q1 : ltI i (lenL rows) = false := ltI_f.2 (by dsimp only at hend; omega)
      refine loop_intro hX ?_
      cases o with
      | true => repeat' ((conv => whnf); first | exact hQ | refine ⟨by kernel_rfl, ?_⟩ | refine bct (by assumption) ?_ | refine bcf (by assumption) ?_)
      | false => repeat' ((conv => whnf); first | exact hQ | refine ⟨by kernel_rfl, ?_⟩ | refine bct (by assumption) ?_ | refine bcf (by assumption) ?_)
  · repeat' ((conv => whnf); first
      | exact hQ | refine ⟨by kernel_rfl, ?_⟩ | refine pup_ok hX ?_ | refine new_ok hX ?_ | refine rnew_ok hX ?_ | refine few_ok hX (.inr ⟨rfl, rfl⟩) hrow' (fun _ => ?_) ?_ | refine bct (by assumption) ?_ | refine bcf (by assumption) ?_ | refine loop_intro hX ?_)
end Go.Proofs.Ytjapbanelfcjhaa.P
