/- DiskCuts: what the law computes is true. -/
import Derived.Test.YtjapbanelfcjhaaDisk
import Derived.Test.YtjapbanelfcjhaaEvRow
set_option linter.unusedVariables false
set_option linter.unusedSimpArgs false
set_option maxRecDepth 100000
namespace Go.Proofs.Ytjapbanelfcjhaa.D
open Go E
theorem lup_ok {X : Task → Prop} (hX : Closed X) {Q : A → List Blk → Prop} (hQ : Q (bv true) []) : X (.call 15 [] [] Q) := by
  refine call_intro hX Try.func15 rfl rfl ?_
  repeat' ((conv => whnf); first | exact hQ | refine ⟨by kernel_rfl, ?_⟩ | refine new_ok hX ?_ | refine fuse_ok hX rfl ?_ | refine add_cut hX (.inl rfl) rfl rfl rfl ?_ | refine down_ok hX ?_ | refine up_ok hX ?_ | refine bytes_ok hX rfl ?_ | refine bct (eqS_t rfl) ?_)
structure St where
  i : Int
  w : ByteArray
  lit : Bool
  rest : Int
  dl : Bool
  left : Int
  dn : Bool
  k : Nat
  bs : List (List PC)
noncomputable def St.t (l : PC) (a n b : Int) (s : St) : List A :=
  pad [(0, .one (.p l)), (0, iv a), (0, iv n), (0, iv b), (5, bv true), (0, pt 0), (0, .one (.p (.v (.string s.w)))), (0, bv s.lit), (0, iv s.rest), (0, iv s.i)] 124
noncomputable def St.s (s : St) : List Blk := [dk 1 s.dl s.left s.dn, .rows s.k s.bs]
structure Inv1 (rows : List (List PC)) (a n : Int) (s : St) : Prop where
  i0 : 0 ≤ s.i
  i1 : s.i ≤ lenL rows
  w : s.w = strOf s.bs
  ok : strOk s.bs = true
  len : (s.bs.length : Int) ≤ 1000 * s.i
  k : (Nat.beq s.k 1 || Nat.beq s.k 0) = true
  r0 : -(1000 * s.i) - 1 ≤ s.rest
  r1 : s.rest ≤ 9223372036854775807
  st : (s.lit = false ∧ s.dl = false ∧ s.dn = false) ∨ (s.lit = true ∧ a < s.i ∧ s.dl = true ∧ s.left = s.rest ∧ s.dn = false ∧ 0 ≤ s.rest) ∨ (s.lit = true ∧ a < s.i ∧ s.dn = true ∧ s.rest < 0)
/-- a row of the argument -/
def RowIs (rows : List (List PC)) (i : Int) (c : PC) (r : List (List PC)) : Prop := E.rowAt rows i = [c] ∧ RowsP c r ∧ strOk r = true
section
variable {rows bs r : List (List PC)} {a n b i rest j left left' : Int} {w : ByteArray} {lit dl dn dl' dn' : Bool} {k : Nat}
theorem wr1 (hi0 : 0 ≤ i) (hend : i < lenL rows) (h60 : lenL rows ≤ 60) : wr .i64 (i + 1) = i + 1 := wr64 (by omega) (by omega)
theorem meas (hi0 : 0 ≤ i) (hend : i < lenL rows) (h60 : lenL rows ≤ 60) : (lenL rows - wr .i64 (i + 1)).toNat < (lenL rows - i).toNat := by
  rw [wr1 hi0 hend h60]; omega
theorem inv_plain (hI : Inv1 rows a n ⟨i, w, lit, rest, dl, left, dn, k, bs⟩) (hend : i < lenL rows) (h60 : lenL rows ≤ 60) (hrs : strOk r = true) (hr : lenL r ≤ 1000) : Inv1 rows a n ⟨wr .i64 (i + 1), catS w (strOf r), false, wr .i64 (rest - lenL r), false, left', false, 1, catL bs r⟩ := by
  have h0 := hI.i0; have h1 := hI.r0; have h2 := hI.r1; have h3 := lenL_nn r; have h4 := hI.len
  dsimp only at *
  have e : wr .i64 (rest - lenL r) = rest - lenL r := wr64 (by omega) (by omega)
  rw [wr1 h0 hend h60, e]
  refine ⟨by dsimp only; omega, by dsimp only; omega, ?_, strOk_cat hI.ok hrs, ?_, rfl, by dsimp only; omega, by dsimp only; omega, .inl ⟨rfl, rfl, rfl⟩⟩
  · dsimp only; rw [strOf_cat, show w = strOf bs from hI.w]
  · have := lenL_cat bs r; unfold lenL at *; dsimp only; omega
theorem inv_lit (hI : Inv1 rows a n ⟨i, w, lit, rest, dl, left, dn, k, bs⟩) (hend : i < lenL rows) (h60 : lenL rows ≤ 60) (hrs : strOk r = true) (hr : lenL r ≤ 1000) (ha : a ≤ i) (hj : 0 ≤ j) (hj' : j ≤ 9223372036854775807) (hl : leI j (lenL r) = false) :
    Inv1 rows a n ⟨wr .i64 (i + 1), catS w (strOf r), true, wr .i64 (j - lenL r), true, wr .i64 (j - lenL r), false, 1, catL bs r⟩ := by
  have h0 := hI.i0; have h3 := lenL_nn r; have h4 := hI.len
  rw [leI_f] at hl
  dsimp only at *
  have e : wr .i64 (j - lenL r) = j - lenL r := wr64 (by omega) (by omega)
  rw [wr1 h0 hend h60, e]
  refine ⟨by dsimp only; omega, by dsimp only; omega, ?_, strOk_cat hI.ok hrs, ?_, rfl, by dsimp only; omega, by dsimp only; omega, .inr (.inl ⟨rfl, by dsimp only; omega, rfl, rfl, rfl, by dsimp only; omega⟩)⟩
  · dsimp only; rw [strOf_cat, show w = strOf bs from hI.w]
  · have := lenL_cat bs r; unfold lenL at *; dsimp only; omega
theorem inv_cut (hI : Inv1 rows a n ⟨i, w, lit, rest, dl, left, dn, k, bs⟩) (hend : i < lenL rows) (h60 : lenL rows ≤ 60) (hrs : strOk r = true) (hr : lenL r ≤ 1000) (ha : a ≤ i) (hj : 0 ≤ j) (hl : leI j (lenL r) = true) :
    Inv1 rows a n ⟨wr .i64 (i + 1), catS w (strOf (rowsIn r 0 j)), true, -1, dl', left', true, 1, catL bs (rowsIn r 0 j)⟩ := by
  have h0 := hI.i0; have h3 := lenL_nn r; have h4 := hI.len
  rw [leI_t] at hl
  dsimp only at *
  rw [wr1 h0 hend h60]
  refine ⟨by dsimp only; omega, by dsimp only; omega, ?_, strOk_cat hI.ok (strOk_in hrs), ?_, rfl, by dsimp only; omega, by dsimp only; omega, .inr (.inr ⟨rfl, by dsimp only; omega, rfl, by dsimp only; omega⟩)⟩
  · dsimp only; rw [strOf_cat, show w = strOf bs from hI.w]
  · have := lenL_cat bs (rowsIn r 0 j); have h5 := lenL_in hl; rw [if_neg (by omega)] at h5; unfold lenL at *; dsimp only; omega
theorem inv_down (hI : Inv1 rows a n ⟨i, w, lit, rest, dl, left, dn, k, bs⟩) (hend : i < lenL rows) (h60 : lenL rows ≤ 60) (ha : a < i) (hr : rest < 0) :
    Inv1 rows a n ⟨wr .i64 (i + 1), w, true, rest, dl', left', true, k, bs⟩ := by
  have h0 := hI.i0; have h1 := hI.r0; have h2 := hI.r1; have h4 := hI.len
  dsimp only at *
  rw [wr1 h0 hend h60]
  exact ⟨by dsimp only; omega, by dsimp only; omega, hI.w, hI.ok, by dsimp only; omega, hI.k, by dsimp only; omega, h2, .inr (.inr ⟨rfl, by dsimp only; omega, rfl, hr⟩)⟩
theorem f_room (hI : Inv1 rows a n ⟨i, w, lit, rest, dl, left, dn, k, bs⟩) (hend : i < lenL rows) (h60 : lenL rows ≤ 60) (hrs : strOk r = true) (hr : lenL r ≤ 1000) : (roomFor bs r 1 && rowsOk r 1 && (Nat.beq k 1 || Nat.beq k 0)) = true := by
  have h0 := hI.i0; have h4 := hI.len
  dsimp only at *
  exact and3 (room1 (by unfold lenL at *; omega)) (rowsOk_str hrs) hI.k
theorem f_cat (hI : Inv1 rows a n ⟨i, w, lit, rest, dl, left, dn, k, bs⟩) (hend : i < lenL rows) (h60 : lenL rows ≤ 60) (hr : lenL r ≤ 1000) : catOk w (strOf r) = true := by
  have h0 := hI.i0; have h4 := hI.len; have h5 := hI.w
  dsimp only at *
  subst h5
  unfold catOk
  rw [strOf_size, strOf_size]
  simp [IntKind.max, IntKind.signed, IntKind.bits]
  unfold lenL at *; omega
theorem f_in (hrs : strOk r = true) (hj : 0 ≤ j) (hl : leI j (lenL r) = true) : (lenC r j && leI 0 0 && leI 0 j && rowsOk r 1) = true := by
  rw [leI_t] at hl
  exact and4 (by unfold lenC lenL at *; simp; omega) rfl (leI_t.2 hj) (rowsOk_str hrs)
theorem f_inlen (hr : lenL r ≤ 1000) (hj : 0 ≤ j) (hl : leI j (lenL r) = true) : lenL (rowsIn r 0 j) ≤ 1000 := by
  rw [leI_t] at hl
  rw [lenL_in hl, if_neg (by omega)]; omega
end
set_option maxHeartbeats 2000000 in
theorem round_ok {X : Task → Prop} (hX : Closed X) {rows : List (List PC)} {a n b : Int} {K : Ex → List A → List Blk → Prop} {Q : A → List Blk → Prop} (hn : ltI n 0 = false) (hn' : n ≤ 9223372036854775807) (h60 : lenL rows ≤ 60)
    {i : Int} {w : ByteArray} {lit : Bool} {rest : Int} {dl : Bool} {left : Int} {dn : Bool} {k : Nat} {bs : List (List PC)} (hI : Inv1 rows a n ⟨i, w, lit, rest, dl, left, dn, k, bs⟩)
    (hrow : ∀ i, lenB rows i = true → ∃ c r, RowIs rows i c r) (hendB : ltI i (lenL rows) = true)
    (ih : ∀ st', Inv1 rows a n st' → (lenL rows - st'.i).toNat < (lenL rows - i).toNat → X (.loop 3 0 (loopN Try.f3 0) (St.t (.sl rows) a n b st') (St.s st') K))
    (hret : ∀ t σ, nth (.one .junk) t 8 = bv true → K .ret t σ) : X (.loop 3 0 (loopN Try.f3 0) (St.t (.sl rows) a n b ⟨i, w, lit, rest, dl, left, dn, k, bs⟩) (St.s ⟨i, w, lit, rest, dl, left, dn, k, bs⟩) K) := by
  have hend := ltI_t.1 hendB
  have hi0 : 0 ≤ i := hI.i0
  have hb : lenB rows i = true := by unfold lenB; rw [decide_eq_true_eq]; exact ⟨hi0, hend⟩
  obtain ⟨c, r, hc, hcr, hrs⟩ := hrow i hb
  refine loop_intro hX ?_
  have hcr' := hcr
  by_cases hbig : ltI 1000 (lenL r) = true
  · rcases hcr with rfl | ⟨rfl, rfl⟩
    all_goals
      repeat' ((conv => whnf); first | refine ⟨by kernel_rfl, ?_⟩ | exact hret _ _ rfl | refine bct (by assumption) ?_ | refine bcf (by assumption) ?_ | rw [hc])
    all_goals (exfalso; rw [ltI_t] at hbig; revert hbig; decide)
  have hbigB : ltI 1000 (lenL r) = false := by simpa using hbig
  have hr := ltI_f.1 hbigB
  have hn0 := ltI_f.1 hn
  have g1 := f_room hI hend h60 hrs hr
  have g2 := f_cat hI hend h60 hr
  rcases hI.st with ⟨h1, h2, h3⟩ | ⟨h1, ha, h2, h3, h4, h5⟩ | ⟨h1, ha, h3, h5⟩ <;> dsimp only at *
  · subst h1; subst h2; subst h3
    rcases Int.lt_trichotomy i a with hia | hia | hia
    · have q1 : eqI i a = false := eqI_f.2 (by omega)
      have q2 : ltI a i = false := ltI_f.2 (by omega)
      rcases hcr' with rfl | ⟨rfl, rfl⟩
      all_goals
        repeat' ((conv => whnf); first
          | refine ⟨by kernel_rfl, ?_⟩ | refine bct (by assumption) ?_ | refine bcf (by assumption) ?_
          | refine fuse_ok hX (by assumption) ?_ | refine up_ok hX ?_ | refine down_ok hX ?_ | refine add_down hX ?_ | refine add_plain hX hcr (by assumption) ?_ | refine add_cut hX hcr (by assumption) (by assumption) (by assumption) ?_ | refine add_lit hX hcr (by assumption) (by assumption) ?_
          | refine ih ⟨_, _, _, _, _, _, _, _, _⟩ (inv_plain hI hend h60 hrs hr) ?_
          | refine bc (fun _ => ?_) (fun _ => ?_) | rw [hc])
        all_goals exact meas hi0 hend h60
    · subst hia
      have q1 : eqI i i = true := eqI_t.2 rfl
      have q2 : ltI i i = false := ltI_f.2 (by omega)
      by_cases hl : leI n (lenL r) = true
      · have g3 := f_in hrs hn0 hl
        have g4 := f_room hI hend h60 (strOk_in (i := 0) (j := n) hrs) (f_inlen hr hn0 hl)
        have g5 := f_cat hI hend h60 (f_inlen hr hn0 hl)
        have g6 := strOk_in (i := 0) (j := n) hrs
        rcases hcr' with rfl | ⟨rfl, rfl⟩
        all_goals
          repeat' ((conv => whnf); first
            | refine ⟨by kernel_rfl, ?_⟩ | refine bct (by assumption) ?_ | refine bcf (by assumption) ?_
            | refine fuse_ok hX (by assumption) ?_ | refine up_ok hX ?_ | refine down_ok hX ?_ | refine add_down hX ?_ | refine add_plain hX hcr (by assumption) ?_ | refine add_cut hX hcr (by assumption) (by assumption) (by assumption) ?_ | refine add_lit hX hcr (by assumption) (by assumption) ?_
            | refine ih ⟨_, _, _, _, _, _, _, _, _⟩ (inv_cut hI hend h60 hrs hr (Int.le_refl i) hn0 hl) ?_
            | refine bc (fun _ => ?_) (fun _ => ?_) | rw [hc])
          all_goals exact meas hi0 hend h60
      · have hl' : leI n (lenL r) = false := by simpa using hl
        rcases hcr' with rfl | ⟨rfl, rfl⟩
        all_goals
          repeat' ((conv => whnf); first
            | refine ⟨by kernel_rfl, ?_⟩ | refine bct (by assumption) ?_ | refine bcf (by assumption) ?_
            | refine fuse_ok hX (by assumption) ?_ | refine up_ok hX ?_ | refine down_ok hX ?_ | refine add_down hX ?_ | refine add_plain hX hcr (by assumption) ?_ | refine add_cut hX hcr (by assumption) (by assumption) (by assumption) ?_ | refine add_lit hX hcr (by assumption) (by assumption) ?_
            | refine ih ⟨_, _, _, _, _, _, _, _, _⟩ (inv_lit hI hend h60 hrs hr (Int.le_refl i) hn0 hn' hl') ?_
            | refine bc (fun _ => ?_) (fun _ => ?_) | rw [hc])
          all_goals exact meas hi0 hend h60
    · have q1 : eqI i a = false := eqI_f.2 (by omega)
      have q2 : ltI a i = true := ltI_t.2 (by omega)
      rcases hcr' with rfl | ⟨rfl, rfl⟩
      all_goals
        repeat' ((conv => whnf); first
          | refine ⟨by kernel_rfl, ?_⟩ | refine bct (by assumption) ?_ | refine bcf (by assumption) ?_
          | refine fuse_ok hX (by assumption) ?_ | refine up_ok hX ?_ | refine down_ok hX ?_ | refine add_down hX ?_ | refine add_plain hX hcr (by assumption) ?_ | refine add_cut hX hcr (by assumption) (by assumption) (by assumption) ?_ | refine add_lit hX hcr (by assumption) (by assumption) ?_
          | refine ih ⟨_, _, _, _, _, _, _, _, _⟩ (inv_plain hI hend h60 hrs hr) ?_
          | refine bc (fun _ => ?_) (fun _ => ?_) | rw [hc])
        all_goals exact meas hi0 hend h60
  · subst h1; subst h2; subst h3; subst h4
    have q1 : eqI i a = false := eqI_f.2 (by omega)
    have q2 : ltI a i = true := ltI_t.2 (by omega)
    have q3 : ltI left 0 = false := ltI_f.2 h5
    have hr1 : left ≤ 9223372036854775807 := hI.r1
    by_cases hl : leI left (lenL r) = true
    · have g3 := f_in hrs h5 hl
      have g4 := f_room hI hend h60 (strOk_in (i := 0) (j := left) hrs) (f_inlen hr h5 hl)
      have g5 := f_cat hI hend h60 (f_inlen hr h5 hl)
      have g6 := strOk_in (i := 0) (j := left) hrs
      rcases hcr' with rfl | ⟨rfl, rfl⟩
      all_goals
        repeat' ((conv => whnf); first
          | refine ⟨by kernel_rfl, ?_⟩ | refine bct (by assumption) ?_ | refine bcf (by assumption) ?_
          | refine fuse_ok hX (by assumption) ?_ | refine up_ok hX ?_ | refine down_ok hX ?_ | refine add_down hX ?_ | refine add_plain hX hcr (by assumption) ?_ | refine add_cut hX hcr (by assumption) (by assumption) (by assumption) ?_ | refine add_lit hX hcr (by assumption) (by assumption) ?_
          | refine ih ⟨_, _, _, _, _, _, _, _, _⟩ (by first | exact inv_plain hI hend h60 hrs hr | exact inv_cut hI hend h60 hrs hr (Int.le_of_lt ha) h5 hl) ?_
          | refine bc (fun _ => ?_) (fun _ => ?_) | rw [hc])
        all_goals exact meas hi0 hend h60
    · have hl' : leI left (lenL r) = false := by simpa using hl
      rcases hcr' with rfl | ⟨rfl, rfl⟩
      all_goals
        repeat' ((conv => whnf); first
          | refine ⟨by kernel_rfl, ?_⟩ | refine bct (by assumption) ?_ | refine bcf (by assumption) ?_
          | refine fuse_ok hX (by assumption) ?_ | refine up_ok hX ?_ | refine down_ok hX ?_ | refine add_down hX ?_ | refine add_plain hX hcr (by assumption) ?_ | refine add_cut hX hcr (by assumption) (by assumption) (by assumption) ?_ | refine add_lit hX hcr (by assumption) (by assumption) ?_
          | refine ih ⟨_, _, _, _, _, _, _, _, _⟩ (by first | exact inv_plain hI hend h60 hrs hr | exact inv_lit hI hend h60 hrs hr (Int.le_of_lt ha) h5 hr1 hl') ?_
          | refine bc (fun _ => ?_) (fun _ => ?_) | rw [hc])
        all_goals exact meas hi0 hend h60
  · subst h1; subst h3
    have q1 : eqI i a = false := eqI_f.2 (by omega)
    have q2 : ltI a i = true := ltI_t.2 (by omega)
    have q3 : ltI rest 0 = true := ltI_t.2 h5
    rcases hcr' with rfl | ⟨rfl, rfl⟩
    all_goals
      repeat' ((conv => whnf); first
        | refine ⟨by kernel_rfl, ?_⟩ | refine bct (by assumption) ?_ | refine bcf (by assumption) ?_
        | refine fuse_ok hX (by assumption) ?_ | refine up_ok hX ?_ | refine down_ok hX ?_ | refine add_down hX ?_ | refine add_plain hX hcr (by assumption) ?_ | refine add_cut hX hcr (by assumption) (by assumption) (by assumption) ?_ | refine add_lit hX hcr (by assumption) (by assumption) ?_
        | refine ih ⟨_, _, _, _, _, _, _, _, _⟩ (by first | exact inv_plain hI hend h60 hrs hr | exact inv_down (dl' := dl) (left' := left) hI hend h60 ha h5) ?_
        | refine bc (fun _ => ?_) (fun _ => ?_) | rw [hc])
      all_goals exact meas hi0 hend h60
end Go.Proofs.Ytjapbanelfcjhaa.D
