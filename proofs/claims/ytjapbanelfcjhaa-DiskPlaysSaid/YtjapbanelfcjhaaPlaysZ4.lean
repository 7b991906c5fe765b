/- DiskPlays: one round, a deed of class Z4. -/
import Derived.Test.YtjapbanelfcjhaaPlays2
set_option linter.unusedVariables false
set_option linter.unusedSimpArgs false
set_option maxRecDepth 100000
namespace Go.Proofs.Ytjapbanelfcjhaa.P
open Go E
set_option maxHeartbeats 8000000 in
theorem plays_Z4_o {X : Task → Prop} (hX : Closed X) {rows : List (List PC)} {K : Ex → List A → List Blk → Prop} (hfew : Few rows) {st : Pv} (hI : PInv rows st.i st) (hend : st.i < lenL rows) (ho : st.o = true) {w n : Int} {c : PC} {r : List (List PC)} (hd : DeedIs rows st.i w n c r) (hnM : n ≤ 9223372036854775807) (hz : w % 8 = 4)
    (ih : ∀ st', PInv rows st'.i st' → (lenL rows - st'.i).toNat < (lenL rows - st.i).toNat → X (.loop 8 0 (loopN Try.f8 0) (Pv.t (.sl rows) st') (Pv.s st') K)) : X (.loop 8 0 (loopN Try.f8 0) (Pv.t (.sl rows) st) (Pv.s st) K) := by
  obtain ⟨i, dl, left, dn, k, bs, o, f, km, cs⟩ := st
  obtain ⟨i0, i1, hb, ok, hk, hkm, heq, hnil, hmode⟩ := hI
  dsimp only at *
  subst ho
  have heq' := heq.symm
  subst heq'
  have q1 : ltI i (lenL rows) = true := ltI_t.2 hend
  have q2 : lenB rows i = true := by unfold lenB; rw [decide_eq_true_eq]; exact ⟨i0, hend⟩
  have hr := hfew.2 _ _ _ _ _ q2 hd
  have h100 := hfew.1
  obtain ⟨hc, hcr, hrs⟩ := hd
  have hcr' := hcr
  have hbn := lenL_nn bs
  have hrn := lenL_nn r
  have hbk : lenL bs ≤ 1000 * (i + 1) := by omega
  have hba : lenL (catL bs r) ≤ 1000 * (i + 1) := by rw [lenL_cat]; omega
  have hbj : ∀ j, lenL (catL bs (rowsIn r 0 j)) ≤ 1000 * (i + 1) := fun j => by have := inlen (a := r) (j := j); rw [lenL_cat]; omega
  have hbc : ∀ j, lenL (rowsIn bs 0 j) ≤ 1000 * (i + 1) := fun j => by have := inlen (a := bs) (j := j); omega
  have a1 : (roomFor bs r 1 && rowsOk r 1 && (Nat.beq k 1 || Nat.beq k 0)) = true := rm_k (by omega) hrs hk
  have a2 : (roomFor [] bs 1 && rowsOk bs 1 && (Nat.beq 1 1 || Nat.beq 1 0)) = true := rm_k (by show 0 + lenL bs ≤ _; omega) ok rfl
  have a3 : (roomFor (catL [] bs) (rowsIn r 0 (lenL r)) 1 && rowsOk (rowsIn r 0 (lenL r)) 1 && (Nat.beq 1 1 || Nat.beq 1 0)) = true := rm_k (by rw [in_all]; show lenL bs + lenL r ≤ _; omega) (strOk_in hrs) rfl
  have a4 : (lenC r (lenL r) && leI 0 0 && leI 0 (lenL r) && rowsOk r 1) = true := in_ok hrn (Int.le_refl _) hrs
  refine loop_intro hX ?_
  rcases hmode with ⟨rfl, rfl, rfl⟩ | ⟨rfl, rfl, rfl, h0, h9⟩ | rfl
  · by_cases hn : n < 0
    · have p1 : ltI n 0 = true := ltI_t.2 hn
      rcases hcr with rfl | ⟨rfl, rfl⟩
      all_goals
        apply merge30 (X := X) (rows := rows) (l := .sl rows) (i := i)
        · intro tail
          repeat' ((conv => whnf); first
            | refine tail.h.1 _ _ _ _ _ _ _ _ _ ?_
            | refine ⟨by kernel_rfl, ?_⟩ | refine pick_ok hX hz ?_ | refine code_ne hX ?_ | refine code_er8 hX ?_ | refine code_er1 hX ?_
            | refine up_ok hX ?_ | refine fuse_down hX ?_ | refine fuse_neg hX (by assumption) ?_ | refine fuse_ok hX (by assumption) ?_ | refine cut_down hX ?_ | refine cut_bad hX (by assumption) ?_ | refine cut_ok hX (by assumption) (by assumption) (by assumption) ?_
            | refine add_down hX ?_ | refine add_plain hX hcr' (by assumption) ?_ | refine add_cut hX hcr' (by assumption) (by assumption) (by assumption) ?_ | refine add_lit hX hcr' (by assumption) (by assumption) ?_
            | refine rup_o hX ?_ | refine light_down_o hX ?_ | refine light_neg_o hX (by assumption) ?_ | refine light_ok_o hX (by assumption) ?_ | refine rcut_down_o hX ?_ | refine rcut_neg_o hX (by assumption) ?_ | refine rcut_far_o hX (by assumption) (by assumption) ?_ | refine rcut_ok_o hX (by assumption) (by assumption) (by assumption) (by assumption) ?_
            | refine radd_down_o hX ?_ | refine radd_plain_o hX hcr' rfl (by assumption) (by assumption) (by assumption) ?_ | refine radd_cut_o hX hcr' (by assumption) (by assumption) (by assumption) (by assumption) (by assumption) ?_ | refine radd_lit_o hX hcr' (by assumption) (by assumption) (by assumption) (by assumption) (by assumption) ?_
            | refine bct (by assumption) ?_ | refine bcf (by assumption) ?_ | rw [hc])
          all_goals
            refine ⟨i0, Int.le_of_lt hend, ?_, ?_, ?_, ?_, ?_, ?_, ?_⟩
          all_goals dsimp only
          all_goals
            first
              | exact hbk | exact hba | exact hbj _ | exact hbc _
              | exact ok | exact strOk_cat ok hrs | exact strOk_cat ok (strOk_in hrs) | exact strOk_in ok
              | exact hk | exact hkm | rfl | exact congrArg (catL _) in_all
              | exact fun _ => rfl | (intro hh; cases hh)
              | exact Or.inl ⟨rfl, rfl, rfl⟩ | exact Or.inr (Or.inr rfl) | exact Or.inr (Or.inl ⟨rfl, rfl, rfl, by assumption, by assumption⟩)
        · intro e s' hI' hi'
          obtain ⟨i', dl', left', dn', k', bs', o', f', km', cs'⟩ := s'
          obtain ⟨j0, j1, jb, jok, jk, jkm, jeq, jnil, jmode⟩ := hI'
          dsimp only at *
          have jeq' := jeq.symm
          subst jeq'
          subst hi'
          have y1 : (roomFor [] bs' 1 && rowsOk bs' 1 && (Nat.beq 1 1 || Nat.beq 1 0)) = true := rm_k (by show 0 + lenL bs' ≤ _; omega) jok rfl
          have y2 := wrI j0 hend h100
          have y3 : PInv rows (wr .i64 (i' + 1)) ⟨wr .i64 (i' + 1), dl', left', dn', k', bs', o', f', km', bs'⟩ := by
            rw [y2]; exact ⟨by dsimp only; omega, by dsimp only; omega, jb, jok, jk, jkm, rfl, jnil, jmode⟩
          have y4 : (lenL rows - wr .i64 (i' + 1)).toNat < (lenL rows - i').toNat := by rw [y2]; omega
          refine rest_intro hX ?_
          cases o' with
          | true =>
            repeat' ((conv => whnf); first
              | refine ih ⟨_, _, _, _, _, _, true, _, _, _⟩ y3 y4 | refine ⟨by kernel_rfl, ?_⟩ | refine down_ok hX ?_ | refine bytes_ok hX y1 ?_ | refine bcf (nt (eqI_refl _)) ?_ | refine bcf (bneq_self _) ?_ | refine bcf (nt (eqS_refl _)) ?_ | refine bct jok ?_)
          | false =>
            have jn := jnil rfl
            subst jn
            repeat' ((conv => whnf); first
              | refine ih ⟨_, _, _, _, _, _, false, _, km', []⟩ y3 y4 | refine ⟨by kernel_rfl, ?_⟩ | refine down_ok hX ?_ | refine bytes_ok hX y1 ?_ | refine bcf (nt (eqI_refl _)) ?_ | refine bcf (bneq_self _) ?_ | refine bcf (nt (eqS_refl _)) ?_ | refine bct jok ?_)
    · have p1 : ltI n 0 = false := ltI_f.2 (by omega)
      have p2 : 0 ≤ n := by omega
      rcases hcr with rfl | ⟨rfl, rfl⟩
      all_goals
        apply merge30 (X := X) (rows := rows) (l := .sl rows) (i := i)
        · intro tail
          repeat' ((conv => whnf); first
            | refine tail.h.1 _ _ _ _ _ _ _ _ _ ?_
            | refine ⟨by kernel_rfl, ?_⟩ | refine pick_ok hX hz ?_ | refine code_ne hX ?_ | refine code_er8 hX ?_ | refine code_er1 hX ?_
            | refine up_ok hX ?_ | refine fuse_down hX ?_ | refine fuse_neg hX (by assumption) ?_ | refine fuse_ok hX (by assumption) ?_ | refine cut_down hX ?_ | refine cut_bad hX (by assumption) ?_ | refine cut_ok hX (by assumption) (by assumption) (by assumption) ?_
            | refine add_down hX ?_ | refine add_plain hX hcr' (by assumption) ?_ | refine add_cut hX hcr' (by assumption) (by assumption) (by assumption) ?_ | refine add_lit hX hcr' (by assumption) (by assumption) ?_
            | refine rup_o hX ?_ | refine light_down_o hX ?_ | refine light_neg_o hX (by assumption) ?_ | refine light_ok_o hX (by assumption) ?_ | refine rcut_down_o hX ?_ | refine rcut_neg_o hX (by assumption) ?_ | refine rcut_far_o hX (by assumption) (by assumption) ?_ | refine rcut_ok_o hX (by assumption) (by assumption) (by assumption) (by assumption) ?_
            | refine radd_down_o hX ?_ | refine radd_plain_o hX hcr' rfl (by assumption) (by assumption) (by assumption) ?_ | refine radd_cut_o hX hcr' (by assumption) (by assumption) (by assumption) (by assumption) (by assumption) ?_ | refine radd_lit_o hX hcr' (by assumption) (by assumption) (by assumption) (by assumption) (by assumption) ?_
            | refine bct (by assumption) ?_ | refine bcf (by assumption) ?_ | rw [hc])
          all_goals
            refine ⟨i0, Int.le_of_lt hend, ?_, ?_, ?_, ?_, ?_, ?_, ?_⟩
          all_goals dsimp only
          all_goals
            first
              | exact hbk | exact hba | exact hbj _ | exact hbc _
              | exact ok | exact strOk_cat ok hrs | exact strOk_cat ok (strOk_in hrs) | exact strOk_in ok
              | exact hk | exact hkm | rfl | exact congrArg (catL _) in_all
              | exact fun _ => rfl | (intro hh; cases hh)
              | exact Or.inl ⟨rfl, rfl, rfl⟩ | exact Or.inr (Or.inr rfl) | exact Or.inr (Or.inl ⟨rfl, rfl, rfl, by assumption, by assumption⟩)
        · intro e s' hI' hi'
          obtain ⟨i', dl', left', dn', k', bs', o', f', km', cs'⟩ := s'
          obtain ⟨j0, j1, jb, jok, jk, jkm, jeq, jnil, jmode⟩ := hI'
          dsimp only at *
          have jeq' := jeq.symm
          subst jeq'
          subst hi'
          have y1 : (roomFor [] bs' 1 && rowsOk bs' 1 && (Nat.beq 1 1 || Nat.beq 1 0)) = true := rm_k (by show 0 + lenL bs' ≤ _; omega) jok rfl
          have y2 := wrI j0 hend h100
          have y3 : PInv rows (wr .i64 (i' + 1)) ⟨wr .i64 (i' + 1), dl', left', dn', k', bs', o', f', km', bs'⟩ := by
            rw [y2]; exact ⟨by dsimp only; omega, by dsimp only; omega, jb, jok, jk, jkm, rfl, jnil, jmode⟩
          have y4 : (lenL rows - wr .i64 (i' + 1)).toNat < (lenL rows - i').toNat := by rw [y2]; omega
          refine rest_intro hX ?_
          cases o' with
          | true =>
            repeat' ((conv => whnf); first
              | refine ih ⟨_, _, _, _, _, _, true, _, _, _⟩ y3 y4 | refine ⟨by kernel_rfl, ?_⟩ | refine down_ok hX ?_ | refine bytes_ok hX y1 ?_ | refine bcf (nt (eqI_refl _)) ?_ | refine bcf (bneq_self _) ?_ | refine bcf (nt (eqS_refl _)) ?_ | refine bct jok ?_)
          | false =>
            have jn := jnil rfl
            subst jn
            repeat' ((conv => whnf); first
              | refine ih ⟨_, _, _, _, _, _, false, _, km', []⟩ y3 y4 | refine ⟨by kernel_rfl, ?_⟩ | refine down_ok hX ?_ | refine bytes_ok hX y1 ?_ | refine bcf (nt (eqI_refl _)) ?_ | refine bcf (bneq_self _) ?_ | refine bcf (nt (eqS_refl _)) ?_ | refine bct jok ?_)
  · by_cases hn : n < 0
    · have p1 : ltI n 0 = true := ltI_t.2 hn
      rcases hcr with rfl | ⟨rfl, rfl⟩
      all_goals
        apply merge30 (X := X) (rows := rows) (l := .sl rows) (i := i)
        · intro tail
          repeat' ((conv => whnf); first
            | refine tail.h.1 _ _ _ _ _ _ _ _ _ ?_
            | refine ⟨by kernel_rfl, ?_⟩ | refine pick_ok hX hz ?_ | refine code_ne hX ?_ | refine code_er8 hX ?_ | refine code_er1 hX ?_
            | refine up_ok hX ?_ | refine fuse_down hX ?_ | refine fuse_neg hX (by assumption) ?_ | refine fuse_ok hX (by assumption) ?_ | refine cut_down hX ?_ | refine cut_bad hX (by assumption) ?_ | refine cut_ok hX (by assumption) (by assumption) (by assumption) ?_
            | refine add_down hX ?_ | refine add_plain hX hcr' (by assumption) ?_ | refine add_cut hX hcr' (by assumption) (by assumption) (by assumption) ?_ | refine add_lit hX hcr' (by assumption) (by assumption) ?_
            | refine rup_o hX ?_ | refine light_down_o hX ?_ | refine light_neg_o hX (by assumption) ?_ | refine light_ok_o hX (by assumption) ?_ | refine rcut_down_o hX ?_ | refine rcut_neg_o hX (by assumption) ?_ | refine rcut_far_o hX (by assumption) (by assumption) ?_ | refine rcut_ok_o hX (by assumption) (by assumption) (by assumption) (by assumption) ?_
            | refine radd_down_o hX ?_ | refine radd_plain_o hX hcr' rfl (by assumption) (by assumption) (by assumption) ?_ | refine radd_cut_o hX hcr' (by assumption) (by assumption) (by assumption) (by assumption) (by assumption) ?_ | refine radd_lit_o hX hcr' (by assumption) (by assumption) (by assumption) (by assumption) (by assumption) ?_
            | refine bct (by assumption) ?_ | refine bcf (by assumption) ?_ | rw [hc])
          all_goals
            refine ⟨i0, Int.le_of_lt hend, ?_, ?_, ?_, ?_, ?_, ?_, ?_⟩
          all_goals dsimp only
          all_goals
            first
              | exact hbk | exact hba | exact hbj _ | exact hbc _
              | exact ok | exact strOk_cat ok hrs | exact strOk_cat ok (strOk_in hrs) | exact strOk_in ok
              | exact hk | exact hkm | rfl | exact congrArg (catL _) in_all
              | exact fun _ => rfl | (intro hh; cases hh)
              | exact Or.inl ⟨rfl, rfl, rfl⟩ | exact Or.inr (Or.inr rfl) | exact Or.inr (Or.inl ⟨rfl, rfl, rfl, by assumption, by assumption⟩)
        · intro e s' hI' hi'
          obtain ⟨i', dl', left', dn', k', bs', o', f', km', cs'⟩ := s'
          obtain ⟨j0, j1, jb, jok, jk, jkm, jeq, jnil, jmode⟩ := hI'
          dsimp only at *
          have jeq' := jeq.symm
          subst jeq'
          subst hi'
          have y1 : (roomFor [] bs' 1 && rowsOk bs' 1 && (Nat.beq 1 1 || Nat.beq 1 0)) = true := rm_k (by show 0 + lenL bs' ≤ _; omega) jok rfl
          have y2 := wrI j0 hend h100
          have y3 : PInv rows (wr .i64 (i' + 1)) ⟨wr .i64 (i' + 1), dl', left', dn', k', bs', o', f', km', bs'⟩ := by
            rw [y2]; exact ⟨by dsimp only; omega, by dsimp only; omega, jb, jok, jk, jkm, rfl, jnil, jmode⟩
          have y4 : (lenL rows - wr .i64 (i' + 1)).toNat < (lenL rows - i').toNat := by rw [y2]; omega
          refine rest_intro hX ?_
          cases o' with
          | true =>
            repeat' ((conv => whnf); first
              | refine ih ⟨_, _, _, _, _, _, true, _, _, _⟩ y3 y4 | refine ⟨by kernel_rfl, ?_⟩ | refine down_ok hX ?_ | refine bytes_ok hX y1 ?_ | refine bcf (nt (eqI_refl _)) ?_ | refine bcf (bneq_self _) ?_ | refine bcf (nt (eqS_refl _)) ?_ | refine bct jok ?_)
          | false =>
            have jn := jnil rfl
            subst jn
            repeat' ((conv => whnf); first
              | refine ih ⟨_, _, _, _, _, _, false, _, km', []⟩ y3 y4 | refine ⟨by kernel_rfl, ?_⟩ | refine down_ok hX ?_ | refine bytes_ok hX y1 ?_ | refine bcf (nt (eqI_refl _)) ?_ | refine bcf (bneq_self _) ?_ | refine bcf (nt (eqS_refl _)) ?_ | refine bct jok ?_)
    · have p1 : ltI n 0 = false := ltI_f.2 (by omega)
      have p2 : 0 ≤ n := by omega
      rcases hcr with rfl | ⟨rfl, rfl⟩
      all_goals
        apply merge30 (X := X) (rows := rows) (l := .sl rows) (i := i)
        · intro tail
          repeat' ((conv => whnf); first
            | refine tail.h.1 _ _ _ _ _ _ _ _ _ ?_
            | refine ⟨by kernel_rfl, ?_⟩ | refine pick_ok hX hz ?_ | refine code_ne hX ?_ | refine code_er8 hX ?_ | refine code_er1 hX ?_
            | refine up_ok hX ?_ | refine fuse_down hX ?_ | refine fuse_neg hX (by assumption) ?_ | refine fuse_ok hX (by assumption) ?_ | refine cut_down hX ?_ | refine cut_bad hX (by assumption) ?_ | refine cut_ok hX (by assumption) (by assumption) (by assumption) ?_
            | refine add_down hX ?_ | refine add_plain hX hcr' (by assumption) ?_ | refine add_cut hX hcr' (by assumption) (by assumption) (by assumption) ?_ | refine add_lit hX hcr' (by assumption) (by assumption) ?_
            | refine rup_o hX ?_ | refine light_down_o hX ?_ | refine light_neg_o hX (by assumption) ?_ | refine light_ok_o hX (by assumption) ?_ | refine rcut_down_o hX ?_ | refine rcut_neg_o hX (by assumption) ?_ | refine rcut_far_o hX (by assumption) (by assumption) ?_ | refine rcut_ok_o hX (by assumption) (by assumption) (by assumption) (by assumption) ?_
            | refine radd_down_o hX ?_ | refine radd_plain_o hX hcr' rfl (by assumption) (by assumption) (by assumption) ?_ | refine radd_cut_o hX hcr' (by assumption) (by assumption) (by assumption) (by assumption) (by assumption) ?_ | refine radd_lit_o hX hcr' (by assumption) (by assumption) (by assumption) (by assumption) (by assumption) ?_
            | refine bct (by assumption) ?_ | refine bcf (by assumption) ?_ | rw [hc])
          all_goals
            refine ⟨i0, Int.le_of_lt hend, ?_, ?_, ?_, ?_, ?_, ?_, ?_⟩
          all_goals dsimp only
          all_goals
            first
              | exact hbk | exact hba | exact hbj _ | exact hbc _
              | exact ok | exact strOk_cat ok hrs | exact strOk_cat ok (strOk_in hrs) | exact strOk_in ok
              | exact hk | exact hkm | rfl | exact congrArg (catL _) in_all
              | exact fun _ => rfl | (intro hh; cases hh)
              | exact Or.inl ⟨rfl, rfl, rfl⟩ | exact Or.inr (Or.inr rfl) | exact Or.inr (Or.inl ⟨rfl, rfl, rfl, by assumption, by assumption⟩)
        · intro e s' hI' hi'
          obtain ⟨i', dl', left', dn', k', bs', o', f', km', cs'⟩ := s'
          obtain ⟨j0, j1, jb, jok, jk, jkm, jeq, jnil, jmode⟩ := hI'
          dsimp only at *
          have jeq' := jeq.symm
          subst jeq'
          subst hi'
          have y1 : (roomFor [] bs' 1 && rowsOk bs' 1 && (Nat.beq 1 1 || Nat.beq 1 0)) = true := rm_k (by show 0 + lenL bs' ≤ _; omega) jok rfl
          have y2 := wrI j0 hend h100
          have y3 : PInv rows (wr .i64 (i' + 1)) ⟨wr .i64 (i' + 1), dl', left', dn', k', bs', o', f', km', bs'⟩ := by
            rw [y2]; exact ⟨by dsimp only; omega, by dsimp only; omega, jb, jok, jk, jkm, rfl, jnil, jmode⟩
          have y4 : (lenL rows - wr .i64 (i' + 1)).toNat < (lenL rows - i').toNat := by rw [y2]; omega
          refine rest_intro hX ?_
          cases o' with
          | true =>
            repeat' ((conv => whnf); first
              | refine ih ⟨_, _, _, _, _, _, true, _, _, _⟩ y3 y4 | refine ⟨by kernel_rfl, ?_⟩ | refine down_ok hX ?_ | refine bytes_ok hX y1 ?_ | refine bcf (nt (eqI_refl _)) ?_ | refine bcf (bneq_self _) ?_ | refine bcf (nt (eqS_refl _)) ?_ | refine bct jok ?_)
          | false =>
            have jn := jnil rfl
            subst jn
            repeat' ((conv => whnf); first
              | refine ih ⟨_, _, _, _, _, _, false, _, km', []⟩ y3 y4 | refine ⟨by kernel_rfl, ?_⟩ | refine down_ok hX ?_ | refine bytes_ok hX y1 ?_ | refine bcf (nt (eqI_refl _)) ?_ | refine bcf (bneq_self _) ?_ | refine bcf (nt (eqS_refl _)) ?_ | refine bct jok ?_)
  ·
    rcases hcr with rfl | ⟨rfl, rfl⟩
    all_goals
      apply merge30 (X := X) (rows := rows) (l := .sl rows) (i := i)
      · intro tail
        repeat' ((conv => whnf); first
          | refine tail.h.1 _ _ _ _ _ _ _ _ _ ?_
          | refine ⟨by kernel_rfl, ?_⟩ | refine pick_ok hX hz ?_ | refine code_ne hX ?_ | refine code_er8 hX ?_ | refine code_er1 hX ?_
          | refine up_ok hX ?_ | refine fuse_down hX ?_ | refine fuse_neg hX (by assumption) ?_ | refine fuse_ok hX (by assumption) ?_ | refine cut_down hX ?_ | refine cut_bad hX (by assumption) ?_ | refine cut_ok hX (by assumption) (by assumption) (by assumption) ?_
          | refine add_down hX ?_ | refine add_plain hX hcr' (by assumption) ?_ | refine add_cut hX hcr' (by assumption) (by assumption) (by assumption) ?_ | refine add_lit hX hcr' (by assumption) (by assumption) ?_
          | refine rup_o hX ?_ | refine light_down_o hX ?_ | refine light_neg_o hX (by assumption) ?_ | refine light_ok_o hX (by assumption) ?_ | refine rcut_down_o hX ?_ | refine rcut_neg_o hX (by assumption) ?_ | refine rcut_far_o hX (by assumption) (by assumption) ?_ | refine rcut_ok_o hX (by assumption) (by assumption) (by assumption) (by assumption) ?_
          | refine radd_down_o hX ?_ | refine radd_plain_o hX hcr' rfl (by assumption) (by assumption) (by assumption) ?_ | refine radd_cut_o hX hcr' (by assumption) (by assumption) (by assumption) (by assumption) (by assumption) ?_ | refine radd_lit_o hX hcr' (by assumption) (by assumption) (by assumption) (by assumption) (by assumption) ?_
          | refine bct (by assumption) ?_ | refine bcf (by assumption) ?_ | rw [hc])
        all_goals
          refine ⟨i0, Int.le_of_lt hend, ?_, ?_, ?_, ?_, ?_, ?_, ?_⟩
        all_goals dsimp only
        all_goals
          first
            | exact hbk | exact hba | exact hbj _ | exact hbc _
            | exact ok | exact strOk_cat ok hrs | exact strOk_cat ok (strOk_in hrs) | exact strOk_in ok
            | exact hk | exact hkm | rfl | exact congrArg (catL _) in_all
            | exact fun _ => rfl | (intro hh; cases hh)
            | exact Or.inl ⟨rfl, rfl, rfl⟩ | exact Or.inr (Or.inr rfl) | exact Or.inr (Or.inl ⟨rfl, rfl, rfl, by assumption, by assumption⟩)
      · intro e s' hI' hi'
        obtain ⟨i', dl', left', dn', k', bs', o', f', km', cs'⟩ := s'
        obtain ⟨j0, j1, jb, jok, jk, jkm, jeq, jnil, jmode⟩ := hI'
        dsimp only at *
        have jeq' := jeq.symm
        subst jeq'
        subst hi'
        have y1 : (roomFor [] bs' 1 && rowsOk bs' 1 && (Nat.beq 1 1 || Nat.beq 1 0)) = true := rm_k (by show 0 + lenL bs' ≤ _; omega) jok rfl
        have y2 := wrI j0 hend h100
        have y3 : PInv rows (wr .i64 (i' + 1)) ⟨wr .i64 (i' + 1), dl', left', dn', k', bs', o', f', km', bs'⟩ := by
          rw [y2]; exact ⟨by dsimp only; omega, by dsimp only; omega, jb, jok, jk, jkm, rfl, jnil, jmode⟩
        have y4 : (lenL rows - wr .i64 (i' + 1)).toNat < (lenL rows - i').toNat := by rw [y2]; omega
        refine rest_intro hX ?_
        cases o' with
        | true =>
          repeat' ((conv => whnf); first
            | refine ih ⟨_, _, _, _, _, _, true, _, _, _⟩ y3 y4 | refine ⟨by kernel_rfl, ?_⟩ | refine down_ok hX ?_ | refine bytes_ok hX y1 ?_ | refine bcf (nt (eqI_refl _)) ?_ | refine bcf (bneq_self _) ?_ | refine bcf (nt (eqS_refl _)) ?_ | refine bct jok ?_)
        | false =>
          have jn := jnil rfl
          subst jn
          repeat' ((conv => whnf); first
            | refine ih ⟨_, _, _, _, _, _, false, _, km', []⟩ y3 y4 | refine ⟨by kernel_rfl, ?_⟩ | refine down_ok hX ?_ | refine bytes_ok hX y1 ?_ | refine bcf (nt (eqI_refl _)) ?_ | refine bcf (bneq_self _) ?_ | refine bcf (nt (eqS_refl _)) ?_ | refine bct jok ?_)
set_option maxHeartbeats 8000000 in
theorem plays_Z4_n {X : Task → Prop} (hX : Closed X) {rows : List (List PC)} {K : Ex → List A → List Blk → Prop} (hfew : Few rows) {st : Pv} (hI : PInv rows st.i st) (hend : st.i < lenL rows) (ho : st.o = false) {w n : Int} {c : PC} {r : List (List PC)} (hd : DeedIs rows st.i w n c r) (hnM : n ≤ 9223372036854775807) (hz : w % 8 = 4)
    (ih : ∀ st', PInv rows st'.i st' → (lenL rows - st'.i).toNat < (lenL rows - st.i).toNat → X (.loop 8 0 (loopN Try.f8 0) (Pv.t (.sl rows) st') (Pv.s st') K)) : X (.loop 8 0 (loopN Try.f8 0) (Pv.t (.sl rows) st) (Pv.s st) K) := by
  obtain ⟨i, dl, left, dn, k, bs, o, f, km, cs⟩ := st
  obtain ⟨i0, i1, hb, ok, hk, hkm, heq, hnil, hmode⟩ := hI
  dsimp only at *
  subst ho
  have heq' := heq.symm
  subst heq'
  have hnil' := hnil rfl
  subst hnil'
  have q1 : ltI i (lenL rows) = true := ltI_t.2 hend
  have q2 : lenB rows i = true := by unfold lenB; rw [decide_eq_true_eq]; exact ⟨i0, hend⟩
  have hr := hfew.2 _ _ _ _ _ q2 hd
  have h100 := hfew.1
  obtain ⟨hc, hcr, hrs⟩ := hd
  have hcr' := hcr
  have hbn := lenL_nn []
  have hrn := lenL_nn r
  have hbk : lenL [] ≤ 1000 * (i + 1) := by omega
  have hba : lenL (catL [] r) ≤ 1000 * (i + 1) := by rw [lenL_cat]; omega
  have hbj : ∀ j, lenL (catL [] (rowsIn r 0 j)) ≤ 1000 * (i + 1) := fun j => by have := inlen (a := r) (j := j); rw [lenL_cat]; omega
  have hbc : ∀ j, lenL (rowsIn [] 0 j) ≤ 1000 * (i + 1) := fun j => by have := inlen (a := []) (j := j); omega
  have a1 : (roomFor [] r 1 && rowsOk r 1 && (Nat.beq k 1 || Nat.beq k 0)) = true := rm_k (by omega) hrs hk
  have a2 : (roomFor [] [] 1 && rowsOk [] 1 && (Nat.beq 1 1 || Nat.beq 1 0)) = true := rm_k (by show 0 + lenL [] ≤ _; omega) ok rfl
  have a3 : (roomFor (catL [] []) (rowsIn r 0 (lenL r)) 1 && rowsOk (rowsIn r 0 (lenL r)) 1 && (Nat.beq 1 1 || Nat.beq 1 0)) = true := rm_k (by rw [in_all]; show lenL [] + lenL r ≤ _; omega) (strOk_in hrs) rfl
  have a4 : (lenC r (lenL r) && leI 0 0 && leI 0 (lenL r) && rowsOk r 1) = true := in_ok hrn (Int.le_refl _) hrs
  refine loop_intro hX ?_
  rcases hmode with ⟨rfl, rfl, rfl⟩ | ⟨rfl, rfl, rfl, h0, h9⟩ | rfl
  · by_cases hn : n < 0
    · have p1 : ltI n 0 = true := ltI_t.2 hn
      rcases hcr with rfl | ⟨rfl, rfl⟩
      all_goals
        apply merge30 (X := X) (rows := rows) (l := .sl rows) (i := i)
        · intro tail
          repeat' ((conv => whnf); first
            | refine tail.h.1 _ _ _ _ _ _ _ _ _ ?_ | refine tail.h.2 _ _ _ _ _ _ _ ?_
            | refine ⟨by kernel_rfl, ?_⟩ | refine pick_ok hX hz ?_ | refine code_ne hX ?_ | refine code_er8 hX ?_ | refine code_er1 hX ?_
            | refine up_ok hX ?_ | refine fuse_down hX ?_ | refine fuse_neg hX (by assumption) ?_ | refine fuse_ok hX (by assumption) ?_ | refine cut_down hX ?_ | refine cut_bad hX (by assumption) ?_ | refine cut_ok hX (by assumption) (by assumption) (by assumption) ?_
            | refine add_down hX ?_ | refine add_plain hX hcr' (by assumption) ?_ | refine add_cut hX hcr' (by assumption) (by assumption) (by assumption) ?_ | refine add_lit hX hcr' (by assumption) (by assumption) ?_
            | refine rup_n hX ?_ | refine light_down_n hX ?_ | refine light_neg_n hX (by assumption) ?_ | refine light_ok_n hX (by assumption) ?_ | refine rcut_down_n hX ?_ | refine rcut_neg_n hX (by assumption) ?_ | refine rcut_far_n hX (by assumption) (by assumption) ?_ | refine rcut_ok_n hX (by assumption) (by assumption) (by assumption) (by assumption) ?_
            | refine radd_down_n hX ?_ | refine radd_plain_n hX hcr' rfl (by assumption) (by assumption) (by assumption) ?_ | refine radd_cut_n hX hcr' (by assumption) (by assumption) (by assumption) (by assumption) (by assumption) ?_ | refine radd_lit_n hX hcr' (by assumption) (by assumption) (by assumption) (by assumption) (by assumption) ?_
            | refine bct (by assumption) ?_ | refine bcf (by assumption) ?_ | rw [hc])
          all_goals
            refine ⟨i0, Int.le_of_lt hend, ?_, ?_, ?_, ?_, ?_, ?_, ?_⟩
          all_goals dsimp only
          all_goals
            first
              | exact hbk | exact hba | exact hbj _ | exact hbc _
              | exact ok | exact strOk_cat ok hrs | exact strOk_cat ok (strOk_in hrs) | exact strOk_in ok
              | exact hk | exact hkm | rfl | exact congrArg (catL _) in_all
              | exact fun _ => rfl | (intro hh; cases hh)
              | exact Or.inl ⟨rfl, rfl, rfl⟩ | exact Or.inr (Or.inr rfl) | exact Or.inr (Or.inl ⟨rfl, rfl, rfl, by assumption, by assumption⟩)
        · intro e s' hI' hi'
          obtain ⟨i', dl', left', dn', k', bs', o', f', km', cs'⟩ := s'
          obtain ⟨j0, j1, jb, jok, jk, jkm, jeq, jnil, jmode⟩ := hI'
          dsimp only at *
          have jeq' := jeq.symm
          subst jeq'
          subst hi'
          have y1 : (roomFor [] bs' 1 && rowsOk bs' 1 && (Nat.beq 1 1 || Nat.beq 1 0)) = true := rm_k (by show 0 + lenL bs' ≤ _; omega) jok rfl
          have y2 := wrI j0 hend h100
          have y3 : PInv rows (wr .i64 (i' + 1)) ⟨wr .i64 (i' + 1), dl', left', dn', k', bs', o', f', km', bs'⟩ := by
            rw [y2]; exact ⟨by dsimp only; omega, by dsimp only; omega, jb, jok, jk, jkm, rfl, jnil, jmode⟩
          have y4 : (lenL rows - wr .i64 (i' + 1)).toNat < (lenL rows - i').toNat := by rw [y2]; omega
          refine rest_intro hX ?_
          cases o' with
          | true =>
            repeat' ((conv => whnf); first
              | refine ih ⟨_, _, _, _, _, _, true, _, _, _⟩ y3 y4 | refine ⟨by kernel_rfl, ?_⟩ | refine down_ok hX ?_ | refine bytes_ok hX y1 ?_ | refine bcf (nt (eqI_refl _)) ?_ | refine bcf (bneq_self _) ?_ | refine bcf (nt (eqS_refl _)) ?_ | refine bct jok ?_)
          | false =>
            have jn := jnil rfl
            subst jn
            repeat' ((conv => whnf); first
              | refine ih ⟨_, _, _, _, _, _, false, _, km', []⟩ y3 y4 | refine ⟨by kernel_rfl, ?_⟩ | refine down_ok hX ?_ | refine bytes_ok hX y1 ?_ | refine bcf (nt (eqI_refl _)) ?_ | refine bcf (bneq_self _) ?_ | refine bcf (nt (eqS_refl _)) ?_ | refine bct jok ?_)
    · have p1 : ltI n 0 = false := ltI_f.2 (by omega)
      have p2 : 0 ≤ n := by omega
      rcases hcr with rfl | ⟨rfl, rfl⟩
      all_goals
        apply merge30 (X := X) (rows := rows) (l := .sl rows) (i := i)
        · intro tail
          repeat' ((conv => whnf); first
            | refine tail.h.1 _ _ _ _ _ _ _ _ _ ?_ | refine tail.h.2 _ _ _ _ _ _ _ ?_
            | refine ⟨by kernel_rfl, ?_⟩ | refine pick_ok hX hz ?_ | refine code_ne hX ?_ | refine code_er8 hX ?_ | refine code_er1 hX ?_
            | refine up_ok hX ?_ | refine fuse_down hX ?_ | refine fuse_neg hX (by assumption) ?_ | refine fuse_ok hX (by assumption) ?_ | refine cut_down hX ?_ | refine cut_bad hX (by assumption) ?_ | refine cut_ok hX (by assumption) (by assumption) (by assumption) ?_
            | refine add_down hX ?_ | refine add_plain hX hcr' (by assumption) ?_ | refine add_cut hX hcr' (by assumption) (by assumption) (by assumption) ?_ | refine add_lit hX hcr' (by assumption) (by assumption) ?_
            | refine rup_n hX ?_ | refine light_down_n hX ?_ | refine light_neg_n hX (by assumption) ?_ | refine light_ok_n hX (by assumption) ?_ | refine rcut_down_n hX ?_ | refine rcut_neg_n hX (by assumption) ?_ | refine rcut_far_n hX (by assumption) (by assumption) ?_ | refine rcut_ok_n hX (by assumption) (by assumption) (by assumption) (by assumption) ?_
            | refine radd_down_n hX ?_ | refine radd_plain_n hX hcr' rfl (by assumption) (by assumption) (by assumption) ?_ | refine radd_cut_n hX hcr' (by assumption) (by assumption) (by assumption) (by assumption) (by assumption) ?_ | refine radd_lit_n hX hcr' (by assumption) (by assumption) (by assumption) (by assumption) (by assumption) ?_
            | refine bct (by assumption) ?_ | refine bcf (by assumption) ?_ | rw [hc])
          all_goals
            refine ⟨i0, Int.le_of_lt hend, ?_, ?_, ?_, ?_, ?_, ?_, ?_⟩
          all_goals dsimp only
          all_goals
            first
              | exact hbk | exact hba | exact hbj _ | exact hbc _
              | exact ok | exact strOk_cat ok hrs | exact strOk_cat ok (strOk_in hrs) | exact strOk_in ok
              | exact hk | exact hkm | rfl | exact congrArg (catL _) in_all
              | exact fun _ => rfl | (intro hh; cases hh)
              | exact Or.inl ⟨rfl, rfl, rfl⟩ | exact Or.inr (Or.inr rfl) | exact Or.inr (Or.inl ⟨rfl, rfl, rfl, by assumption, by assumption⟩)
        · intro e s' hI' hi'
          obtain ⟨i', dl', left', dn', k', bs', o', f', km', cs'⟩ := s'
          obtain ⟨j0, j1, jb, jok, jk, jkm, jeq, jnil, jmode⟩ := hI'
          dsimp only at *
          have jeq' := jeq.symm
          subst jeq'
          subst hi'
          have y1 : (roomFor [] bs' 1 && rowsOk bs' 1 && (Nat.beq 1 1 || Nat.beq 1 0)) = true := rm_k (by show 0 + lenL bs' ≤ _; omega) jok rfl
          have y2 := wrI j0 hend h100
          have y3 : PInv rows (wr .i64 (i' + 1)) ⟨wr .i64 (i' + 1), dl', left', dn', k', bs', o', f', km', bs'⟩ := by
            rw [y2]; exact ⟨by dsimp only; omega, by dsimp only; omega, jb, jok, jk, jkm, rfl, jnil, jmode⟩
          have y4 : (lenL rows - wr .i64 (i' + 1)).toNat < (lenL rows - i').toNat := by rw [y2]; omega
          refine rest_intro hX ?_
          cases o' with
          | true =>
            repeat' ((conv => whnf); first
              | refine ih ⟨_, _, _, _, _, _, true, _, _, _⟩ y3 y4 | refine ⟨by kernel_rfl, ?_⟩ | refine down_ok hX ?_ | refine bytes_ok hX y1 ?_ | refine bcf (nt (eqI_refl _)) ?_ | refine bcf (bneq_self _) ?_ | refine bcf (nt (eqS_refl _)) ?_ | refine bct jok ?_)
          | false =>
            have jn := jnil rfl
            subst jn
            repeat' ((conv => whnf); first
              | refine ih ⟨_, _, _, _, _, _, false, _, km', []⟩ y3 y4 | refine ⟨by kernel_rfl, ?_⟩ | refine down_ok hX ?_ | refine bytes_ok hX y1 ?_ | refine bcf (nt (eqI_refl _)) ?_ | refine bcf (bneq_self _) ?_ | refine bcf (nt (eqS_refl _)) ?_ | refine bct jok ?_)
  · by_cases hn : n < 0
    · have p1 : ltI n 0 = true := ltI_t.2 hn
      rcases hcr with rfl | ⟨rfl, rfl⟩
      all_goals
        apply merge30 (X := X) (rows := rows) (l := .sl rows) (i := i)
        · intro tail
          repeat' ((conv => whnf); first
            | refine tail.h.1 _ _ _ _ _ _ _ _ _ ?_ | refine tail.h.2 _ _ _ _ _ _ _ ?_
            | refine ⟨by kernel_rfl, ?_⟩ | refine pick_ok hX hz ?_ | refine code_ne hX ?_ | refine code_er8 hX ?_ | refine code_er1 hX ?_
            | refine up_ok hX ?_ | refine fuse_down hX ?_ | refine fuse_neg hX (by assumption) ?_ | refine fuse_ok hX (by assumption) ?_ | refine cut_down hX ?_ | refine cut_bad hX (by assumption) ?_ | refine cut_ok hX (by assumption) (by assumption) (by assumption) ?_
            | refine add_down hX ?_ | refine add_plain hX hcr' (by assumption) ?_ | refine add_cut hX hcr' (by assumption) (by assumption) (by assumption) ?_ | refine add_lit hX hcr' (by assumption) (by assumption) ?_
            | refine rup_n hX ?_ | refine light_down_n hX ?_ | refine light_neg_n hX (by assumption) ?_ | refine light_ok_n hX (by assumption) ?_ | refine rcut_down_n hX ?_ | refine rcut_neg_n hX (by assumption) ?_ | refine rcut_far_n hX (by assumption) (by assumption) ?_ | refine rcut_ok_n hX (by assumption) (by assumption) (by assumption) (by assumption) ?_
            | refine radd_down_n hX ?_ | refine radd_plain_n hX hcr' rfl (by assumption) (by assumption) (by assumption) ?_ | refine radd_cut_n hX hcr' (by assumption) (by assumption) (by assumption) (by assumption) (by assumption) ?_ | refine radd_lit_n hX hcr' (by assumption) (by assumption) (by assumption) (by assumption) (by assumption) ?_
            | refine bct (by assumption) ?_ | refine bcf (by assumption) ?_ | rw [hc])
          all_goals
            refine ⟨i0, Int.le_of_lt hend, ?_, ?_, ?_, ?_, ?_, ?_, ?_⟩
          all_goals dsimp only
          all_goals
            first
              | exact hbk | exact hba | exact hbj _ | exact hbc _
              | exact ok | exact strOk_cat ok hrs | exact strOk_cat ok (strOk_in hrs) | exact strOk_in ok
              | exact hk | exact hkm | rfl | exact congrArg (catL _) in_all
              | exact fun _ => rfl | (intro hh; cases hh)
              | exact Or.inl ⟨rfl, rfl, rfl⟩ | exact Or.inr (Or.inr rfl) | exact Or.inr (Or.inl ⟨rfl, rfl, rfl, by assumption, by assumption⟩)
        · intro e s' hI' hi'
          obtain ⟨i', dl', left', dn', k', bs', o', f', km', cs'⟩ := s'
          obtain ⟨j0, j1, jb, jok, jk, jkm, jeq, jnil, jmode⟩ := hI'
          dsimp only at *
          have jeq' := jeq.symm
          subst jeq'
          subst hi'
          have y1 : (roomFor [] bs' 1 && rowsOk bs' 1 && (Nat.beq 1 1 || Nat.beq 1 0)) = true := rm_k (by show 0 + lenL bs' ≤ _; omega) jok rfl
          have y2 := wrI j0 hend h100
          have y3 : PInv rows (wr .i64 (i' + 1)) ⟨wr .i64 (i' + 1), dl', left', dn', k', bs', o', f', km', bs'⟩ := by
            rw [y2]; exact ⟨by dsimp only; omega, by dsimp only; omega, jb, jok, jk, jkm, rfl, jnil, jmode⟩
          have y4 : (lenL rows - wr .i64 (i' + 1)).toNat < (lenL rows - i').toNat := by rw [y2]; omega
          refine rest_intro hX ?_
          cases o' with
          | true =>
            repeat' ((conv => whnf); first
              | refine ih ⟨_, _, _, _, _, _, true, _, _, _⟩ y3 y4 | refine ⟨by kernel_rfl, ?_⟩ | refine down_ok hX ?_ | refine bytes_ok hX y1 ?_ | refine bcf (nt (eqI_refl _)) ?_ | refine bcf (bneq_self _) ?_ | refine bcf (nt (eqS_refl _)) ?_ | refine bct jok ?_)
          | false =>
            have jn := jnil rfl
            subst jn
            repeat' ((conv => whnf); first
              | refine ih ⟨_, _, _, _, _, _, false, _, km', []⟩ y3 y4 | refine ⟨by kernel_rfl, ?_⟩ | refine down_ok hX ?_ | refine bytes_ok hX y1 ?_ | refine bcf (nt (eqI_refl _)) ?_ | refine bcf (bneq_self _) ?_ | refine bcf (nt (eqS_refl _)) ?_ | refine bct jok ?_)
    · have p1 : ltI n 0 = false := ltI_f.2 (by omega)
      have p2 : 0 ≤ n := by omega
      rcases hcr with rfl | ⟨rfl, rfl⟩
      all_goals
        apply merge30 (X := X) (rows := rows) (l := .sl rows) (i := i)
        · intro tail
          repeat' ((conv => whnf); first
            | refine tail.h.1 _ _ _ _ _ _ _ _ _ ?_ | refine tail.h.2 _ _ _ _ _ _ _ ?_
            | refine ⟨by kernel_rfl, ?_⟩ | refine pick_ok hX hz ?_ | refine code_ne hX ?_ | refine code_er8 hX ?_ | refine code_er1 hX ?_
            | refine up_ok hX ?_ | refine fuse_down hX ?_ | refine fuse_neg hX (by assumption) ?_ | refine fuse_ok hX (by assumption) ?_ | refine cut_down hX ?_ | refine cut_bad hX (by assumption) ?_ | refine cut_ok hX (by assumption) (by assumption) (by assumption) ?_
            | refine add_down hX ?_ | refine add_plain hX hcr' (by assumption) ?_ | refine add_cut hX hcr' (by assumption) (by assumption) (by assumption) ?_ | refine add_lit hX hcr' (by assumption) (by assumption) ?_
            | refine rup_n hX ?_ | refine light_down_n hX ?_ | refine light_neg_n hX (by assumption) ?_ | refine light_ok_n hX (by assumption) ?_ | refine rcut_down_n hX ?_ | refine rcut_neg_n hX (by assumption) ?_ | refine rcut_far_n hX (by assumption) (by assumption) ?_ | refine rcut_ok_n hX (by assumption) (by assumption) (by assumption) (by assumption) ?_
            | refine radd_down_n hX ?_ | refine radd_plain_n hX hcr' rfl (by assumption) (by assumption) (by assumption) ?_ | refine radd_cut_n hX hcr' (by assumption) (by assumption) (by assumption) (by assumption) (by assumption) ?_ | refine radd_lit_n hX hcr' (by assumption) (by assumption) (by assumption) (by assumption) (by assumption) ?_
            | refine bct (by assumption) ?_ | refine bcf (by assumption) ?_ | rw [hc])
          all_goals
            refine ⟨i0, Int.le_of_lt hend, ?_, ?_, ?_, ?_, ?_, ?_, ?_⟩
          all_goals dsimp only
          all_goals
            first
              | exact hbk | exact hba | exact hbj _ | exact hbc _
              | exact ok | exact strOk_cat ok hrs | exact strOk_cat ok (strOk_in hrs) | exact strOk_in ok
              | exact hk | exact hkm | rfl | exact congrArg (catL _) in_all
              | exact fun _ => rfl | (intro hh; cases hh)
              | exact Or.inl ⟨rfl, rfl, rfl⟩ | exact Or.inr (Or.inr rfl) | exact Or.inr (Or.inl ⟨rfl, rfl, rfl, by assumption, by assumption⟩)
        · intro e s' hI' hi'
          obtain ⟨i', dl', left', dn', k', bs', o', f', km', cs'⟩ := s'
          obtain ⟨j0, j1, jb, jok, jk, jkm, jeq, jnil, jmode⟩ := hI'
          dsimp only at *
          have jeq' := jeq.symm
          subst jeq'
          subst hi'
          have y1 : (roomFor [] bs' 1 && rowsOk bs' 1 && (Nat.beq 1 1 || Nat.beq 1 0)) = true := rm_k (by show 0 + lenL bs' ≤ _; omega) jok rfl
          have y2 := wrI j0 hend h100
          have y3 : PInv rows (wr .i64 (i' + 1)) ⟨wr .i64 (i' + 1), dl', left', dn', k', bs', o', f', km', bs'⟩ := by
            rw [y2]; exact ⟨by dsimp only; omega, by dsimp only; omega, jb, jok, jk, jkm, rfl, jnil, jmode⟩
          have y4 : (lenL rows - wr .i64 (i' + 1)).toNat < (lenL rows - i').toNat := by rw [y2]; omega
          refine rest_intro hX ?_
          cases o' with
          | true =>
            repeat' ((conv => whnf); first
              | refine ih ⟨_, _, _, _, _, _, true, _, _, _⟩ y3 y4 | refine ⟨by kernel_rfl, ?_⟩ | refine down_ok hX ?_ | refine bytes_ok hX y1 ?_ | refine bcf (nt (eqI_refl _)) ?_ | refine bcf (bneq_self _) ?_ | refine bcf (nt (eqS_refl _)) ?_ | refine bct jok ?_)
          | false =>
            have jn := jnil rfl
            subst jn
            repeat' ((conv => whnf); first
              | refine ih ⟨_, _, _, _, _, _, false, _, km', []⟩ y3 y4 | refine ⟨by kernel_rfl, ?_⟩ | refine down_ok hX ?_ | refine bytes_ok hX y1 ?_ | refine bcf (nt (eqI_refl _)) ?_ | refine bcf (bneq_self _) ?_ | refine bcf (nt (eqS_refl _)) ?_ | refine bct jok ?_)
  ·
    rcases hcr with rfl | ⟨rfl, rfl⟩
    all_goals
      apply merge30 (X := X) (rows := rows) (l := .sl rows) (i := i)
      · intro tail
        repeat' ((conv => whnf); first
          | refine tail.h.1 _ _ _ _ _ _ _ _ _ ?_ | refine tail.h.2 _ _ _ _ _ _ _ ?_
          | refine ⟨by kernel_rfl, ?_⟩ | refine pick_ok hX hz ?_ | refine code_ne hX ?_ | refine code_er8 hX ?_ | refine code_er1 hX ?_
          | refine up_ok hX ?_ | refine fuse_down hX ?_ | refine fuse_neg hX (by assumption) ?_ | refine fuse_ok hX (by assumption) ?_ | refine cut_down hX ?_ | refine cut_bad hX (by assumption) ?_ | refine cut_ok hX (by assumption) (by assumption) (by assumption) ?_
          | refine add_down hX ?_ | refine add_plain hX hcr' (by assumption) ?_ | refine add_cut hX hcr' (by assumption) (by assumption) (by assumption) ?_ | refine add_lit hX hcr' (by assumption) (by assumption) ?_
          | refine rup_n hX ?_ | refine light_down_n hX ?_ | refine light_neg_n hX (by assumption) ?_ | refine light_ok_n hX (by assumption) ?_ | refine rcut_down_n hX ?_ | refine rcut_neg_n hX (by assumption) ?_ | refine rcut_far_n hX (by assumption) (by assumption) ?_ | refine rcut_ok_n hX (by assumption) (by assumption) (by assumption) (by assumption) ?_
          | refine radd_down_n hX ?_ | refine radd_plain_n hX hcr' rfl (by assumption) (by assumption) (by assumption) ?_ | refine radd_cut_n hX hcr' (by assumption) (by assumption) (by assumption) (by assumption) (by assumption) ?_ | refine radd_lit_n hX hcr' (by assumption) (by assumption) (by assumption) (by assumption) (by assumption) ?_
          | refine bct (by assumption) ?_ | refine bcf (by assumption) ?_ | rw [hc])
        all_goals
          refine ⟨i0, Int.le_of_lt hend, ?_, ?_, ?_, ?_, ?_, ?_, ?_⟩
        all_goals dsimp only
        all_goals
          first
            | exact hbk | exact hba | exact hbj _ | exact hbc _
            | exact ok | exact strOk_cat ok hrs | exact strOk_cat ok (strOk_in hrs) | exact strOk_in ok
            | exact hk | exact hkm | rfl | exact congrArg (catL _) in_all
            | exact fun _ => rfl | (intro hh; cases hh)
            | exact Or.inl ⟨rfl, rfl, rfl⟩ | exact Or.inr (Or.inr rfl) | exact Or.inr (Or.inl ⟨rfl, rfl, rfl, by assumption, by assumption⟩)
      · intro e s' hI' hi'
        obtain ⟨i', dl', left', dn', k', bs', o', f', km', cs'⟩ := s'
        obtain ⟨j0, j1, jb, jok, jk, jkm, jeq, jnil, jmode⟩ := hI'
        dsimp only at *
        have jeq' := jeq.symm
        subst jeq'
        subst hi'
        have y1 : (roomFor [] bs' 1 && rowsOk bs' 1 && (Nat.beq 1 1 || Nat.beq 1 0)) = true := rm_k (by show 0 + lenL bs' ≤ _; omega) jok rfl
        have y2 := wrI j0 hend h100
        have y3 : PInv rows (wr .i64 (i' + 1)) ⟨wr .i64 (i' + 1), dl', left', dn', k', bs', o', f', km', bs'⟩ := by
          rw [y2]; exact ⟨by dsimp only; omega, by dsimp only; omega, jb, jok, jk, jkm, rfl, jnil, jmode⟩
        have y4 : (lenL rows - wr .i64 (i' + 1)).toNat < (lenL rows - i').toNat := by rw [y2]; omega
        refine rest_intro hX ?_
        cases o' with
        | true =>
          repeat' ((conv => whnf); first
            | refine ih ⟨_, _, _, _, _, _, true, _, _, _⟩ y3 y4 | refine ⟨by kernel_rfl, ?_⟩ | refine down_ok hX ?_ | refine bytes_ok hX y1 ?_ | refine bcf (nt (eqI_refl _)) ?_ | refine bcf (bneq_self _) ?_ | refine bcf (nt (eqS_refl _)) ?_ | refine bct jok ?_)
        | false =>
          have jn := jnil rfl
          subst jn
          repeat' ((conv => whnf); first
            | refine ih ⟨_, _, _, _, _, _, false, _, km', []⟩ y3 y4 | refine ⟨by kernel_rfl, ?_⟩ | refine down_ok hX ?_ | refine bytes_ok hX y1 ?_ | refine bcf (nt (eqI_refl _)) ?_ | refine bcf (bneq_self _) ?_ | refine bcf (nt (eqS_refl _)) ?_ | refine bct jok ?_)
end Go.Proofs.Ytjapbanelfcjhaa.P
