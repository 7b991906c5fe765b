/- The statements of layer 20, walked. -/
import Derived.Test.YtaiedakbmmgmaaaTree
import Derived.Test.YtaiedakbmmgmaaaContainLaw
set_option linter.unusedVariables false
set_option linter.unusedSimpArgs false
set_option maxRecDepth 100000
set_option maxHeartbeats 4000000
namespace Go.Proofs.Ytaiedakbmmgmaaa
open Go E Pred
abbrev l3 : List Pred := [.mk 1 ⟨#[]⟩ 0 0 0 [], .mk 5 ⟨#[]⟩ 5 0 0 [], .mk 5 ⟨#[]⟩ 3 0 0 []]
theorem rows_l3 : rows l3 = [[ip 1, .v (.string ⟨#[]⟩), ip 0, .v (.complex .f64 0 0), .sl []], [ip 5, .v (.string ⟨#[]⟩), ip 5, .v (.complex .f64 0 0), .sl []], [ip 5, .v (.string ⟨#[]⟩), ip 3, .v (.complex .f64 0 0), .sl []]] := by
  rw [rows_eq]; simp only [List.map_cons, List.map_nil, row_eq, Pred.op, Pred.text, Pred.n, Pred.re, Pred.im, Pred.kids, rows_nil]
theorem l3_ok : ∀ p ∈ l3, p.Ok := by
  intro p hp
  rcases List.mem_cons.1 hp with rfl | hp
  · exact leaf_ok 1 (by decide)
  · rcases List.mem_cons.1 hp with rfl | hp
    · exact less_ok 5 (by decide) 5 (by decide)
    · rw [List.mem_singleton.1 hp]; exact less_ok 3 (by decide) 5 (by decide)
theorem bad3 : badT l3 = false := by
  unfold badT
  have e1 : rootV l3 = 0 := by unfold rootV idxP; simp [Pred.op, eqI]
  have e2 : l3.any (fun p => !mayP p) = false := by
    simp only [List.any_cons, List.any_nil, may_star, may_num (o := 5) (n := 5) (.inl rfl) (by decide), may_num (o := 5) (n := 3) (.inl rfl) (by decide)]; rfl
  rw [e1, e2, len_rows]; rfl
theorem place3 : placeV l3 = [(0, 0), (1, 1), (2, 2)] := by
  have e1 : rootV l3 = 0 := by unfold rootV idxP; simp [Pred.op, eqI]
  unfold placeV
  rw [bad3, e1]
  have n1 : placeN l3 0 1 = [(0, 0), (0, 0), (0, 0)] := by simp [placeN, List.replicate]
  have n2 : placeN l3 0 2 = [(0, 0), (1, 1), (0, 0)] := by
    rw [placeN, n1]
    simp [bestR, lev]
  have n3 : placeN l3 0 3 = [(0, 0), (1, 1), (2, 2)] := by
    rw [placeN, n2]
    have : bestR l3 [(0, 0), (1, 1), (0, 0)] 2 0 2 = 1 := by
      have h1 : bestR l3 [(0, 0), (1, 1), (0, 0)] 2 0 1 = 0 := by simp [bestR]
      rw [bestR, h1]
      have : inP (pAt l3 2) (pAt l3 1) = true := in_less1
      rw [this]; simp [lev, ltI]
    rw [this]; simp [lev]
  exact n3
theorem place_as {X : Task → Prop} (hX : Closed X) {l : List Pred} {r : List (List PC)} {Q : A → List Blk → Prop} (hr : rows l = r) (hl : ∀ p ∈ l, p.Ok) (hln : l.length ≤ 9223372036854775807) {v : List Nd} (hv : placeV l = v) (hQ : Q (sl (v.map nrow)) []) : X (.call 47 [sl r] [] Q) := by
  subst hr; subst hv; exact place_ok hX hl hln hQ
theorem up20_ok {X : Task → Prop} (hX : Closed X) {Q : A → List Blk → Prop} (hQ : Q (bv true) []) : X (.call 44 [] [] Q) := by
  refine call_intro hX Try.func44 rfl rfl ?_
  repeat' ((conv => whnf); first | exact hQ | refine ⟨by kernel_rfl, ?_⟩ | refine bct (by assumption) ?_ | refine bcf (by assumption) ?_ | refine bcf (nt (by assumption)) ?_ | refine bct (nf (by assumption)) ?_ | refine Or.inl ?_ | refine place_as hX rows_l3 l3_ok (by decide) place3 ?_)
theorem eqI_self (a : Int) : eqI a a = true := by simp [eqI]
def fewB (l : List Pred) : Bool := decide (l.length ≤ 12) && l.all fun p => decide (p.size ≤ 60)
theorem few_ok {X : Task → Prop} (hX : Closed X) {l : List Pred} {Q : A → List Blk → Prop} (hl : ∀ p ∈ l, p.Ok) (hln : l.length ≤ 9223372036854775807) (hQ : Q (iv (if fewB l then 1 else 0)) []) : X (.call 45 [sl (lrows l)] [] Q) := by
  refine call_intro hX Try.func45 rfl rfl ?_
  by_cases h12 : l.length ≤ 12
  · have q0 : ltI 12 (lenL (lrows l)) = false := by rw [len_lrows, ltI_f]; omega
    repeat' ((conv => whnf); first | exact hQ | refine ⟨by kernel_rfl, ?_⟩ | refine bct (by assumption) ?_ | refine bcf (by assumption) ?_ | refine bcf (nt (by assumption)) ?_ | refine bct (nf (by assumption)) ?_)
    refine range_ix (fun i (_ : Unit) => pad [(0, sl (lrows l)), (2, iv i)] 15) (fun _ _ => []) (fun j _ => (l.take j).all (fun p => decide (p.size ≤ 60)) = true) l.length 0 (Nat.zero_le _) (fun j st _ hj hI ih => ?_) (fun st hI => ?_) 0 () rfl rfl
    · have q1 : ltI (j : Int) (lenL (lrows l)) = true := by rw [len_lrows, ltI_t]; omega
      have q2 := lenB_lrows hj
      have r1 := at_lrows hj
      have okj := hl _ (List.getElem_mem hj)
      refine loop_intro hX ?_
      by_cases hs : l[j].size ≤ 60
      · have e := all_take (p := fun p : Pred => decide (p.size ≤ 60)) hj hI (decide_eq_true hs)
        repeat' ((conv => whnf); first | exact hQ | refine ⟨by kernel_rfl, ?_⟩ | refine bct (by assumption) ?_ | refine bcf (by assumption) ?_ | refine bcf (nt (by assumption)) ?_ | refine bct (nf (by assumption)) ?_ | refine row_in r1 ?_ | refine known iv (fun _ h => small_ok hX (p := l[j]) okj h) (if_pos hs) ?_ | (exact ih _ () (wrS (by omega)) e))
      · have hf : fewB l = false := by unfold fewB; rw [all_bad (p := fun p : Pred => decide (p.size ≤ 60)) hj (decide_eq_false hs)]; simp
        rw [hf] at hQ
        repeat' ((conv => whnf); first | exact hQ | refine ⟨by kernel_rfl, ?_⟩ | refine bct (by assumption) ?_ | refine bcf (by assumption) ?_ | refine bcf (nt (by assumption)) ?_ | refine bct (nf (by assumption)) ?_ | refine row_in r1 ?_ | refine known iv (fun _ h => small_ok hX (p := l[j]) okj h) (if_neg hs) ?_)
    · have q1 : ltI (l.length : Int) (lenL (lrows l)) = false := by rw [len_lrows, ltI_f]; omega
      rw [List.take_length] at hI
      have hf : fewB l = true := by unfold fewB; rw [hI, decide_eq_true h12]; rfl
      rw [hf] at hQ
      refine loop_intro hX ?_
      repeat' ((conv => whnf); first | exact hQ | refine ⟨by kernel_rfl, ?_⟩ | refine bct (by assumption) ?_ | refine bcf (by assumption) ?_ | refine bcf (nt (by assumption)) ?_ | refine bct (nf (by assumption)) ?_)
  · have q0 : ltI 12 (lenL (lrows l)) = true := by rw [len_lrows, ltI_t]; omega
    have hf : fewB l = false := by unfold fewB; rw [decide_eq_false h12]; rfl
    rw [hf] at hQ
    repeat' ((conv => whnf); first | exact hQ | refine ⟨by kernel_rfl, ?_⟩ | refine bct (by assumption) ?_ | refine bcf (by assumption) ?_ | refine bcf (nt (by assumption)) ?_ | refine bct (nf (by assumption)) ?_)
theorem preds_ok {X : Task → Prop} (hX : Closed X) {l : List Pred} {Q : A → List Blk → Prop} (hl : ∀ p ∈ l, p.Ok) (hs : ∀ p ∈ l, p.size ≤ 1000) (hln : l.length ≤ 1000) (hQ : Q (sl (rows l)) []) : X (.call 46 [sl (lrows l)] [] Q) := by
  refine call_intro hX Try.func46 rfl rfl ?_
  repeat' ((conv => whnf); first | exact hQ | refine ⟨by kernel_rfl, ?_⟩ | refine bct (by assumption) ?_ | refine bcf (by assumption) ?_ | refine bcf (nt (by assumption)) ?_ | refine bct (nf (by assumption)) ?_)
  refine range_ix (fun i (_ : Rw) => pad [(0, sl (lrows l)), (2, .one (.own 0)), (0, iv i)] 15) (fun _ st => [.rows st.k st.l]) (fun j st => (Nat.beq st.k 5 || Nat.beq st.k 0) = true ∧ st.l = rows (l.take j)) l.length 0 (Nat.zero_le _) (fun j st _ hj hI ih => ?_) (fun st hI => ?_) 0 ⟨_, _⟩ rfl ⟨rfl, by rw [List.take_zero, rows_nil]⟩
  · obtain ⟨k, m⟩ := st
    obtain ⟨hk, hm⟩ := hI
    dsimp only at hk hm
    subst hm
    have q1 : ltI (j : Int) (lenL (lrows l)) = true := by rw [len_lrows, ltI_t]; omega
    have q2 := lenB_lrows hj
    have r1 := at_lrows hj
    have okj := hl _ (List.getElem_mem hj)
    have skj := hs _ (List.getElem_mem hj)
    have hlr : (rows (l.take j)).length ≤ 50000 := by rw [rows_eq, List.length_map, List.length_take]; omega
    have e3 := rows_take hj
    refine loop_intro hX ?_
    repeat' ((conv => whnf); first | exact hQ | refine ⟨by kernel_rfl, ?_⟩ | refine bct (by assumption) ?_ | refine bcf (by assumption) ?_ | refine bcf (nt (by assumption)) ?_ | refine bct (nf (by assumption)) ?_ | refine row_in r1 ?_ | refine lpred_ok hX l[j].size (p := l[j]) (Nat.le_refl _) skj okj ?_ | refine bct (room3 hlr rfl rfl rfl hk) ?_ | (exact ih _ ⟨_, _⟩ (wrS (by omega)) ⟨rfl, e3⟩))
  · obtain ⟨k, m⟩ := st
    obtain ⟨hk, hm⟩ := hI
    dsimp only at hk hm
    subst hm
    have q1 : ltI (l.length : Int) (lenL (lrows l)) = false := by rw [len_lrows, ltI_f]; omega
    rw [List.take_length]
    refine loop_intro hX ?_
    repeat' ((conv => whnf); first | exact hQ | refine ⟨by kernel_rfl, ?_⟩ | refine bct (by assumption) ?_ | refine bcf (by assumption) ?_ | refine bcf (nt (by assumption)) ?_ | refine bct (nf (by assumption)) ?_)
theorem few_iff {l : List Pred} (h : fewB l = true) : l.length ≤ 12 ∧ ∀ p ∈ l, p.size ≤ 60 := by
  unfold fewB at h
  simpa using h
theorem law_treePlaces {X : Task → Prop} (hX : Closed X) {l : List Pred} (hl : l.length ≤ 9223372036854775807 ∧ ∀ p ∈ l, p.Ok) {Q : A → List Blk → Prop} (hQ : Q (bv true) []) : X (.call 10 [sl (lrows l)] [] Q) := by
  obtain ⟨hln, hl⟩ := hl
  refine call_intro hX Try.func10 rfl rfl ?_
  cases hf : fewB l with
  | false => repeat' ((conv => whnf); first | exact hQ | refine ⟨by kernel_rfl, ?_⟩ | refine bct (by assumption) ?_ | refine bcf (by assumption) ?_ | refine bcf (nt (by assumption)) ?_ | refine bct (nf (by assumption)) ?_ | refine up20_ok hX ?_ | refine known iv (fun _ h => few_ok hX hl hln h) (by rw [hf]; rfl : (if fewB l then (1 : Int) else 0) = 0) ?_)
  | true =>
    obtain ⟨h12, h60⟩ := few_iff hf
    have hs : ∀ p ∈ l, p.size ≤ 1000 := fun p hp => Nat.le_trans (h60 p hp) (by decide)
    obtain ⟨v, hv⟩ : ∃ v, placeV l = v := ⟨_, rfl⟩
    have q0 := eqI_self (lenL (v.map nrow))
    repeat' ((conv => whnf); first | exact hQ | refine ⟨by kernel_rfl, ?_⟩ | refine bct (by assumption) ?_ | refine bcf (by assumption) ?_ | refine bcf (nt (by assumption)) ?_ | refine bct (nf (by assumption)) ?_ | refine up20_ok hX ?_ | refine known iv (fun _ h => few_ok hX hl hln h) (by rw [hf]; rfl : (if fewB l then (1 : Int) else 0) = 1) ?_ | refine preds_ok hX hl hs (by omega) ?_ | refine known (fun v : List Nd => sl (v.map nrow)) (fun _ h => place_ok hX hl hln h) hv ?_ | refine known (fun v : List Nd => sl (v.map nrow)) (fun _ h => rplace_ok hX hl hs (by omega) h) hv ?_)
    have hvl : v.length ≤ 12 := by
      rw [← hv]; unfold placeV; split
      · simp
      · rw [placeN_len]; exact h12
    refine range_ix (fun i (_ : Unit) => pad [(3, bv true), (1, sl (v.map nrow)), (0, sl (v.map nrow)), (0, iv i)] 47) (fun _ _ => []) (fun _ _ => True) v.length 0 (Nat.zero_le _) (fun j st _ hj hI ih => ?_) (fun st hI => ?_) 0 () rfl trivial
    · have q1 : ltI (j : Int) (lenL (v.map nrow)) = true := by rw [lenL_map, ltI_t]; omega
      have q2 : lenB (v.map nrow) (j : Int) = true := lenB_map hj
      have r1 := at_nodes hj
      refine loop_intro hX ?_
      repeat' ((conv => whnf); first | exact hQ | refine ⟨by kernel_rfl, ?_⟩ | refine bct (by assumption) ?_ | refine bcf (by assumption) ?_ | refine bcf (nt (by assumption)) ?_ | refine bct (nf (by assumption)) ?_ | refine row_in r1 ?_ | refine bcf (nt (eqI_self _)) ?_ | (exact ih _ () (wrS (by omega)) trivial))
    · have q1 : ltI (v.length : Int) (lenL (v.map nrow)) = false := by rw [lenL_map, ltI_f]; omega
      refine loop_intro hX ?_
      repeat' ((conv => whnf); first | exact hQ | refine ⟨by kernel_rfl, ?_⟩ | refine bct (by assumption) ?_ | refine bcf (by assumption) ?_ | refine bcf (nt (by assumption)) ?_ | refine bct (nf (by assumption)) ?_)
/-! ### from each one the root is reached -/
theorem getD_set' (out : List Nd) (i k : Nat) (x : Nd) : (out.set i x).getD k (0, 0) = if i = k ∧ k < out.length then x else out.getD k (0, 0) := by
  rw [List.getD_eq_getElem?_getD, List.getD_eq_getElem?_getD, List.getElem?_set]
  by_cases h : i = k
  · subst h
    by_cases h2 : i < out.length
    · simp [h2]
    · simp [h2]
  · simp [h]
theorem placeN_keep {l : List Pred} {r i k : Nat} (h : k < i ∨ k = r) : ∀ d, (placeN l r (i + d)).getD k (0, 0) = (placeN l r i).getD k (0, 0)
  | 0 => rfl
  | d + 1 => by
    rw [← placeN_keep h d]
    show (placeN l r (i + d + 1)).getD k _ = _
    rw [placeN]
    by_cases hr : i + d = r
    · rw [if_pos hr]
    · rw [if_neg hr, getD_set', if_neg (by omega)]
theorem placeN_root {l : List Pred} {r : Nat} (n : Nat) : (placeN l r n).getD r (0, 0) = (0, 0) := by
  have := placeN_keep (l := l) (r := r) (i := 0) (k := r) (.inr rfl) n
  rw [Nat.zero_add] at this
  rw [this]
  unfold placeN
  rw [List.getD_eq_getElem?_getD, List.getElem?_replicate]
  split <;> rfl
theorem bestR_opt {l : List Pred} {out : List Nd} {i r : Nat} (hr : inP (pAt l i) (pAt l r) = true) : ∀ n, inP (pAt l i) (pAt l (bestR l out i r n)) = true ∧ lev out r ≤ lev out (bestR l out i r n) ∧ ∀ k, k < n → k ≠ r → inP (pAt l i) (pAt l k) = true → lev out k ≤ lev out (bestR l out i r n)
  | 0 => ⟨hr, Int.le_refl _, fun k hk => absurd hk (Nat.not_lt_zero _)⟩
  | n + 1 => by
    obtain ⟨h1, h2, h3⟩ := bestR_opt (out := out) hr n
    rw [bestR]
    by_cases hn : n = r
    · rw [if_neg (by simp [hn])]
      refine ⟨h1, h2, fun k hk hkr hin => ?_⟩
      exact h3 k (by omega) hkr hin
    · cases hin : inP (pAt l i) (pAt l n) with
      | false =>
        rw [if_neg (by simp)]
        refine ⟨h1, h2, fun k hk hkr hk2 => ?_⟩
        rcases Nat.lt_succ_iff_lt_or_eq.1 hk with h | rfl
        · exact h3 k h hkr hk2
        · rw [hin] at hk2; exact absurd hk2 (by decide)
      | true =>
        cases hlt : ltI (lev out (bestR l out i r n)) (lev out n) with
        | true =>
          have hl := ltI_t.1 hlt
          rw [if_pos (by simp [hn])]
          refine ⟨hin, by omega, fun k hk hkr hk2 => ?_⟩
          rcases Nat.lt_succ_iff_lt_or_eq.1 hk with h | rfl
          · have := h3 k h hkr hk2; omega
          · exact Int.le_refl _
        | false =>
          have hl := ltI_f.1 hlt
          rw [if_neg (by simp)]
          refine ⟨h1, h2, fun k hk hkr hk2 => ?_⟩
          rcases Nat.lt_succ_iff_lt_or_eq.1 hk with h | rfl
          · exact h3 k h hkr hk2
          · omega
/-- what is known of one that is not the root, and of the one it pulls from -/
structure Up (l : List Pred) (r : Nat) (v : List Nd) (i b : Nat) : Prop where
  node : v.getD i (0, 0) = ((b : Int) + 1, lev v b + 1)
  ord : b = r ∨ b < i
  lt : b < l.length
  sees : inP (pAt l i) (pAt l b) = true
  best : ∀ k, k < i → inP (pAt l i) (pAt l k) = true → lev v k ≤ lev v b
theorem up_of {l : List Pred} {r i : Nat} (g : Good l r) (hi : i < l.length) (hne : i ≠ r) : ∃ b, Up l r (placeN l r l.length) i b := by
  obtain ⟨d, hd⟩ : ∃ d, l.length = i + 1 + d := ⟨l.length - (i + 1), by omega⟩
  have hk : ∀ k, k < i ∨ k = r → (placeN l r l.length).getD k (0, 0) = (placeN l r i).getD k (0, 0) := fun k h => by
    rw [hd, show i + 1 + d = i + (1 + d) by omega]; exact placeN_keep h _
  have hkl : ∀ k, k < i ∨ k = r → lev (placeN l r l.length) k = lev (placeN l r i) k := fun k h => by unfold lev; rw [hk k h]
  have hi1 : (placeN l r l.length).getD i (0, 0) = (placeN l r (i + 1)).getD i (0, 0) := by
    rw [hd]; exact placeN_keep (.inl (by omega)) _
  have hb := bestR_lt (l := l) (out := placeN l r i) (i := i) (r := r) i
  obtain ⟨o1, o2, o3⟩ := bestR_opt (l := l) (out := placeN l r i) (i := i) (good_in g hi) i
  have hb' : bestR l (placeN l r i) i r i < i ∨ bestR l (placeN l r i) i r i = r := hb.symm
  refine ⟨bestR l (placeN l r i) i r i, ?_, hb, ?_, o1, fun k hk' hin => ?_⟩
  · rw [hi1, placeN, if_neg hne, getD_set', if_pos ⟨rfl, by rw [placeN_len]; exact hi⟩, hkl _ hb']
  · rcases hb with h | h
    · rw [h]; exact g.lt
    · omega
  · rw [hkl _ hb', hkl k (.inl hk')]
    by_cases hkr : k = r
    · rw [hkr]; exact o2
    · exact o3 k hk' hkr hin
theorem no_star {l : List Pred} {r : Nat} (g : Good l r) {k : Nat} (h : k < r) : eqI (pAt l k).op 1 = false := by
  obtain ⟨j, hj, e1, e2, e3⟩ := idxP_ex (p := fun p : Pred => eqI p.op 1) (l := l) (i := 0) (by have := g.root; unfold rootV at this; omega)
  have hr := g.root
  unfold rootV at hr
  have : j = r := by omega
  subst this
  rw [pAt_get (by omega)]
  exact e3 k h
def RI (l : List Pred) (r d : Nat) (ro : Int) : Prop := l.length - d ≤ r → ro = ((r + 1 : Nat) : Int)
theorem law_treeClimbs {X : Task → Prop} (hX : Closed X) {l : List Pred} (hl : l.length ≤ 9223372036854775807 ∧ ∀ p ∈ l, p.Ok) {Q : A → List Blk → Prop} (hQ : Q (bv true) []) : X (.call 11 [sl (lrows l)] [] Q) := by
  obtain ⟨hln, hl⟩ := hl
  refine call_intro hX Try.func11 rfl rfl ?_
  cases hf : fewB l with
  | false => repeat' ((conv => whnf); first | exact hQ | refine ⟨by kernel_rfl, ?_⟩ | refine bct (by assumption) ?_ | refine bcf (by assumption) ?_ | refine bcf (nt (by assumption)) ?_ | refine bct (nf (by assumption)) ?_ | refine up20_ok hX ?_ | refine known iv (fun _ h => few_ok hX hl hln h) (by rw [hf]; rfl : (if fewB l then (1 : Int) else 0) = 0) ?_)
  | true =>
    obtain ⟨h12, h60⟩ := few_iff hf
    have hs : ∀ p ∈ l, p.size ≤ 1000 := fun p hp => Nat.le_trans (h60 p hp) (by decide)
    cases hb : badT l with
    | true =>
      have hv : placeV l = [] := by unfold placeV; rw [hb]; rfl
      repeat' ((conv => whnf); first | exact hQ | refine ⟨by kernel_rfl, ?_⟩ | refine bct (by assumption) ?_ | refine bcf (by assumption) ?_ | refine bcf (nt (by assumption)) ?_ | refine bct (nf (by assumption)) ?_ | refine up20_ok hX ?_ | refine known iv (fun _ h => few_ok hX hl hln h) (by rw [hf]; rfl : (if fewB l then (1 : Int) else 0) = 1) ?_ | refine preds_ok hX hl hs (by omega) ?_ | refine known (fun v : List Nd => sl (v.map nrow)) (fun _ h => place_ok hX hl hln h) hv ?_)
    | false =>
      obtain ⟨r, g⟩ := good_of hb
      have hv : placeV l = placeN l r l.length := by unfold placeV; rw [hb, g.root]; rfl
      have hup := fun i hi hne => up_of (l := l) (r := r) (i := i) g hi hne
      have hroot := placeN_root (l := l) (r := r) l.length
      have hvl := placeN_len l r l.length
      have hlv := fun k => placeN_lev l r l.length k
      have hst := fun k h => no_star g (k := k) h
      have hrl := g.lt
      have hrs := g.star
      have hn8 := g.len
      generalize placeN l r l.length = v at *
      have q0 : eqI (lenL (v.map nrow)) 0 = false := by rw [lenL_map, eqI_f]; omega
      have q00 : eqI (lenL (v.map nrow)) (lenL (rows l)) = true := by rw [lenL_map, len_rows, eqI_t]; omega
      repeat' ((conv => whnf); first | exact hQ | refine ⟨by kernel_rfl, ?_⟩ | refine bct (by assumption) ?_ | refine bcf (by assumption) ?_ | refine bcf (nt (by assumption)) ?_ | refine bct (nf (by assumption)) ?_ | refine up20_ok hX ?_ | refine known iv (fun _ h => few_ok hX hl hln h) (by rw [hf]; rfl : (if fewB l then (1 : Int) else 0) = 1) ?_ | refine preds_ok hX hl hs (by omega) ?_ | refine known (fun v : List Nd => sl (v.map nrow)) (fun _ h => place_ok hX hl hln h) hv ?_)
      clear hf h60 hs hv hb g hln
      refine range_down (fun i (ro : Int) => pad [(3, bv true), (0, sl (rows l)), (0, sl (v.map nrow)), (0, iv ro), (0, iv i)] 169) (fun _ _ => []) (fun d ro => RI l r d ro) l.length (fun d ro hd hI ih => ?_) (fun ro hI => ?_) _ 0 (by rw [len_rows, wr64 (by omega) (by omega)]) (fun h => by omega)
      · obtain ⟨i, hi⟩ : ∃ i, l.length - 1 - d = i := ⟨_, rfl⟩
        rw [hi]
        have hil : i < l.length := by omega
        have q1 : leI 0 (i : Int) = true := leI_t.2 (by omega)
        have q2 := lenB_rows hil
        have r1 := at_rows' hil
        have w1 : wr .i64 ((i : Int) - 1) = (l.length : Int) - 1 - (d + 1 : Nat) := by rw [wr64 (by omega) (by omega)]; omega
        refine loop_intro hX ?_
        cases hst1 : eqI (pAt l i).op 1 with
        | true =>
          have e : RI l r (d + 1) (wr .i64 ((i : Int) + 1)) := fun h => by
            have : ¬ i < r := fun h' => by rw [hst i h'] at hst1; exact absurd hst1 (by decide)
            rw [wrS (by omega)]; omega
          repeat' ((conv => whnf); first | exact hQ | refine ⟨by kernel_rfl, ?_⟩ | refine bct (by assumption) ?_ | refine bcf (by assumption) ?_ | refine bcf (nt (by assumption)) ?_ | refine bct (nf (by assumption)) ?_ | refine row_in r1 ?_ | (exact ih _ _ w1 e))
        | false =>
          have e : RI l r (d + 1) ro := fun h => hI (by
            have : i ≠ r := fun h' => by rw [h', eqI_t.2 hrs] at hst1; exact absurd hst1 (by decide)
            omega)
          repeat' ((conv => whnf); first | exact hQ | refine ⟨by kernel_rfl, ?_⟩ | refine bct (by assumption) ?_ | refine bcf (by assumption) ?_ | refine bcf (nt (by assumption)) ?_ | refine bct (nf (by assumption)) ?_ | refine row_in r1 ?_ | (exact ih _ _ w1 e))
      · have hro : ro = ((r + 1 : Nat) : Int) := hI (by omega)
        subst hro
        clear hI
        have q1 : leI 0 (-1 : Int) = false := rfl
        refine loop_intro hX ?_
        repeat' ((conv => whnf); first | exact hQ | refine ⟨by kernel_rfl, ?_⟩ | refine bct (by assumption) ?_ | refine bcf (by assumption) ?_ | refine bcf (nt (by assumption)) ?_ | refine bct (nf (by assumption)) ?_)
        refine range_ix (fun i (_ : Unit) => pad [(3, bv true), (0, sl (rows l)), (0, sl (v.map nrow)), (0, iv ((r + 1 : Nat) : Int)), (1, iv i)] 168) (fun _ _ => []) (fun _ _ => True) v.length 0 (Nat.zero_le _) (fun j st _ hj hI ih => ?_) (fun st hI => ?_) 0 () rfl trivial
        · have q1 : ltI (j : Int) (lenL (v.map nrow)) = true := by rw [lenL_map, ltI_t]; omega
          have q2 : lenB (v.map nrow) (j : Int) = true := lenB_map hj
          have r1 := at_nodes hj
          have hjl : j < l.length := by omega
          by_cases hjr : j = r
          · subst hjr
            have r2 : E.rowAt (v.map nrow) (j : Int) = [ip 0, ip 0] := by rw [r1, hroot]
            have f2 : eqI (wr .i64 ((j : Int) + 1)) ((j + 1 : Nat) : Int) = true := by rw [wrS (by omega)]; exact eqI_self _
            have f4 : ltI (lenL (rows l)) 0 = false := by rw [len_rows, ltI_f]; omega
            have f5 : ltI (j : Int) 0 = false := ltI_f.2 (by omega)
            refine loop_intro hX ?_
            repeat' ((conv => whnf); first | exact hQ | refine ⟨by kernel_rfl, ?_⟩ | refine bct (by assumption) ?_ | refine bcf (by assumption) ?_ | refine bcf (nt (by assumption)) ?_ | refine bct (nf (by assumption)) ?_ | refine row_in r2 ?_ | refine bcf (by rw [f2]; rfl) ?_ | (exact ih _ () (wrS (by omega)) trivial))
          · obtain ⟨b, hnode, hord, hbl, hsees, hbest⟩ := hup j hjl hjr
            obtain ⟨p, hp⟩ : ∃ p : Int, (b : Int) + 1 = p := ⟨_, rfl⟩
            have hlb := hlv b
            obtain ⟨M, hM⟩ : ∃ M : Nat, lev v b + 1 = (M : Int) := ⟨(lev v b + 1).toNat, by omega⟩
            have hlj : lev v j = (M : Int) := by unfold lev; rw [hnode]; exact hM
            have r2 : E.rowAt (v.map nrow) (j : Int) = [ip p, ip (M : Int)] := by rw [r1, hnode, hp, hM]
            have wp : wr .i64 (p - 1) = (b : Int) := by rw [wr64 (by omega) (by omega)]; omega
            have f1 : eqI p 0 = false := eqI_f.2 (by omega)
            have f2 : eqI (wr .i64 ((j : Int) + 1)) ((r + 1 : Nat) : Int) = false := by rw [wrS (by omega)]; exact eqI_f.2 (by omega)
            have f3 : ltI p 0 = false := ltI_f.2 (by omega)
            have f4 : ltI (lenL (rows l)) p = false := by rw [len_rows, ltI_f]; omega
            have f5 : ltI (j : Int) p = false ∨ (ltI (j : Int) p = true ∧ eqI p ((r + 1 : Nat) : Int) = true) := by
              rcases hord with h | h
              · cases hq : ltI (j : Int) p with
                | false => exact .inl rfl
                | true => exact .inr ⟨rfl, eqI_t.2 (by omega)⟩
              · exact .inl (ltI_f.2 (by omega))
            have lb : lenB (v.map nrow) (wr .i64 (p - 1)) = true := by rw [wp]; exact lenB_map (by omega)
            have lb2 : lenB (rows l) (wr .i64 (p - 1)) = true := by rw [wp]; exact lenB_rows hbl
            have lj2 := lenB_rows hjl
            have rb := at_nodes (out := v) (j := b) (by omega)
            have rb : E.rowAt (v.map nrow) (wr .i64 (p - 1)) = [ip (v.getD b (0, 0)).1, ip (lev v b)] := by rw [wp]; exact rb
            have rp := at_rows' hbl
            rw [← wp] at rp
            have rj := at_rows' hjl
            have okj := hl _ (getD_mem hjl)
            have okb := hl _ (getD_mem hbl)
            have fL : eqI (M : Int) (wr .i64 (lev v b + 1)) = true := by rw [wr64 (by omega) (by omega), hM]; exact eqI_self _
            rcases f5 with f5 | ⟨f5, f6⟩ <;>
            (refine loop_intro hX ?_
             repeat' ((conv => whnf); first | exact hQ | refine ⟨by kernel_rfl, ?_⟩ | refine bct (by assumption) ?_ | refine bcf (by assumption) ?_ | refine bcf (nt (by assumption)) ?_ | refine bct (nf (by assumption)) ?_ | refine row_in r2 ?_ | refine row_in rb ?_ | refine row_in rj ?_ | refine row_in rp ?_ | refine bcf (by rw [f1, f2]) ?_ | refine known bv (fun _ h => cin_ok hX okj okb h) hsees ?_)
             refine range_ix (fun i (_ : Unit) => pad [(3, bv true), (0, sl (rows l)), (0, sl (v.map nrow)), (0, iv ((r + 1 : Nat) : Int)), (1, iv (j : Int)), (0, iv p), (0, iv i)] 166) (fun _ _ => []) (fun _ _ => True) j 0 (Nat.zero_le _) (fun k st _ hk hI ih' => ?_) (fun st hI => ?_) 0 () rfl trivial
             · have q1 : ltI (k : Int) (j : Int) = true := ltI_t.2 (by omega)
               have hkl : k < l.length := by omega
               have lk := lenB_rows hkl
               have lk2 : lenB (v.map nrow) (k : Int) = true := lenB_map (by omega)
               have rk := at_rows' hkl
               have rk2 := at_nodes (out := v) (j := k) (by omega)
               have okk := hl _ (getD_mem hkl)
               refine loop_intro hX ?_
               cases hin : inP (pAt l j) (pAt l k) with
               | true =>
                 have g1 : ltI (lev v b) (lev v k) = false := ltI_f.2 (by have := hbest k hk hin; omega)
                 repeat' ((conv => whnf); first | exact hQ | refine ⟨by kernel_rfl, ?_⟩ | refine bct (by assumption) ?_ | refine bcf (by assumption) ?_ | refine bcf (nt (by assumption)) ?_ | refine bct (nf (by assumption)) ?_ | refine row_in rj ?_ | refine row_in rk ?_ | refine row_in rk2 ?_ | refine row_in rb ?_ | refine known bv (fun _ h => cin_ok hX okj okk h) hin ?_ | (exact ih' _ () (wrS (by omega)) trivial))
               | false =>
                 repeat' ((conv => whnf); first | exact hQ | refine ⟨by kernel_rfl, ?_⟩ | refine bct (by assumption) ?_ | refine bcf (by assumption) ?_ | refine bcf (nt (by assumption)) ?_ | refine bct (nf (by assumption)) ?_ | refine row_in rj ?_ | refine row_in rk ?_ | refine known bv (fun _ h => cin_ok hX okj okk h) hin ?_ | (exact ih' _ () (wrS (by omega)) trivial))
             · have q1 : ltI (j : Int) (j : Int) = false := ltI_f.2 (by omega)
               refine loop_intro hX ?_
               repeat' ((conv => whnf); first | exact hQ | refine ⟨by kernel_rfl, ?_⟩ | refine bct (by assumption) ?_ | refine bcf (by assumption) ?_ | refine bcf (nt (by assumption)) ?_ | refine bct (nf (by assumption)) ?_)
               refine range_ix (fun i (a : Int) => pad [(3, bv true), (0, sl (rows l)), (0, sl (v.map nrow)), (0, iv ((r + 1 : Nat) : Int)), (1, iv (j : Int)), (2, iv a), (0, iv i)] 164) (fun _ _ => []) (fun m a => ∃ n : Nat, a = ((n + 1 : Nat) : Int) ∧ n < l.length ∧ lev v n + m = (M : Int)) M 0 (Nat.zero_le _) (fun m a _ hm hI ih' => ?_) (fun a hI => ?_) 0 _ rfl ⟨j, wrS (by omega), hjl, by rw [hlj]; omega⟩
               · obtain ⟨n, rfl, hnl, hln⟩ := hI
                 have hnr : n ≠ r := fun h => by
                   subst h
                   have : lev v n = 0 := by unfold lev; rw [hroot]
                   omega
                 obtain ⟨c, cnode, cord, cbl, csees, cbest⟩ := hup n hnl hnr
                 have wn : wr .i64 (((n + 1 : Nat) : Int) - 1) = (n : Int) := by rw [wr64 (by omega) (by omega)]; omega
                 have g1 : ltI (m : Int) (M : Int) = true := ltI_t.2 (by omega)
                 have g3 : leI 1 ((n + 1 : Nat) : Int) = true := leI_t.2 (by omega)
                 have g4 : leI ((n + 1 : Nat) : Int) (lenL (v.map nrow)) = true := by rw [lenL_map, leI_t]; omega
                 have ln2 : lenB (v.map nrow) (wr .i64 (((n + 1 : Nat) : Int) - 1)) = true := by rw [wn]; exact lenB_map (by omega)
                 have rn := at_nodes (out := v) (j := n) (by omega)
                 have rn : E.rowAt (v.map nrow) (wr .i64 (((n + 1 : Nat) : Int) - 1)) = [ip ((c + 1 : Nat) : Int), ip (lev v c + 1)] := by rw [wn, rn, cnode, show ((c + 1 : Nat) : Int) = (c : Int) + 1 by omega]
                 have hlc : lev v n = lev v c + 1 := by show (v.getD n (0, 0)).2 = _; rw [cnode]
                 have e : ∃ n' : Nat, ((c + 1 : Nat) : Int) = ((n' + 1 : Nat) : Int) ∧ n' < l.length ∧ lev v n' + ((m + 1 : Nat) : Int) = (M : Int) := ⟨c, rfl, cbl, by omega⟩
                 refine loop_intro hX ?_
                 repeat' ((conv => whnf); first | exact hQ | refine ⟨by kernel_rfl, ?_⟩ | refine bct (by assumption) ?_ | refine bcf (by assumption) ?_ | refine bcf (nt (by assumption)) ?_ | refine bct (nf (by assumption)) ?_ | refine row_in r2 ?_ | refine row_in rn ?_ | (exact ih' _ _ (wrS (by omega)) e))
               · obtain ⟨n, rfl, hnl, hln⟩ := hI
                 have hnr : n = r := Decidable.byContradiction fun h => by
                   obtain ⟨c, cnode, cord, cbl, csees, cbest⟩ := hup n hnl h
                   have hlc : lev v n = lev v c + 1 := by show (v.getD n (0, 0)).2 = _; rw [cnode]
                   have := hlv c
                   omega
                 subst hnr
                 have g1 : ltI (M : Int) (M : Int) = false := ltI_f.2 (by omega)
                 have g2 : eqI ((n + 1 : Nat) : Int) ((n + 1 : Nat) : Int) = true := eqI_self _
                 refine loop_intro hX ?_
                 repeat' ((conv => whnf); first | exact hQ | refine ⟨by kernel_rfl, ?_⟩ | refine bct (by assumption) ?_ | refine bcf (by assumption) ?_ | refine bcf (nt (by assumption)) ?_ | refine bct (nf (by assumption)) ?_ | refine row_in r2 ?_ | (exact ih _ () (wrS (by omega)) trivial)))
        · have q1 : ltI (v.length : Int) (lenL (v.map nrow)) = false := by rw [lenL_map, ltI_f]; omega
          refine loop_intro hX ?_
          repeat' ((conv => whnf); first | exact hQ | refine ⟨by kernel_rfl, ?_⟩ | refine bct (by assumption) ?_ | refine bcf (by assumption) ?_ | refine bcf (nt (by assumption)) ?_ | refine bct (nf (by assumption)) ?_)
end Go.Proofs.Ytaiedakbmmgmaaa
