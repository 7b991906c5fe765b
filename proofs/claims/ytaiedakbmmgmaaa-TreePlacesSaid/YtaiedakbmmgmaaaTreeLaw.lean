/- The statements of layer 20, walked. -/
import Derived.Test.YtaiedakbmmgmaaaTree
import Derived.Test.YtaiedakbmmgmaaaContainLaw
set_option linter.unusedVariables false
set_option linter.unusedSimpArgs false
set_option maxRecDepth 100000
set_option maxHeartbeats 4000000
namespace Go.Proofs.Ytaiedakbmmgmaaa
open Go E Pred
abbrev l3 : List Pred := [.mk 1 ⟨#[]⟩ 0 0 0 [], .mk 5 ⟨#[]⟩ 5 0 0 [], .mk 5 ⟨#[]⟩ 3 0 0 []]
theorem rows_l3 : rows l3 = [[ip 1, .v (.string ⟨#[]⟩), ip 0, .v (.complex .f64 0 0), .sl []], [ip 5, .v (.string ⟨#[]⟩), ip 5, .v (.complex .f64 0 0), .sl []], [ip 5, .v (.string ⟨#[]⟩), ip 3, .v (.complex .f64 0 0), .sl []]] := by
  rw [rows_eq]; simp only [List.map_cons, List.map_nil, row_eq, Pred.op, Pred.text, Pred.n, Pred.re, Pred.im, Pred.kids, rows_nil]
theorem l3_ok : ∀ p ∈ l3, p.Ok := by
  intro p hp
  rcases List.mem_cons.1 hp with rfl | hp
  · exact leaf_ok 1 (by decide)
  · rcases List.mem_cons.1 hp with rfl | hp
    · exact less_ok 5 (by decide) 5 (by decide)
    · rw [List.mem_singleton.1 hp]; exact less_ok 3 (by decide) 5 (by decide)
theorem bad3 : badT l3 = false := by
  unfold badT
  have e1 : rootV l3 = 0 := by unfold rootV idxP; simp [Pred.op, eqI]
  have e2 : l3.any (fun p => !mayP p) = false := by
    simp only [List.any_cons, List.any_nil, may_star, may_num (o := 5) (n := 5) (.inl rfl) (by decide), may_num (o := 5) (n := 3) (.inl rfl) (by decide)]; rfl
  rw [e1, e2, len_rows]; rfl
theorem place3 : placeV l3 = [(0, 0), (1, 1), (2, 2)] := by
  have e1 : rootV l3 = 0 := by unfold rootV idxP; simp [Pred.op, eqI]
  unfold placeV
  rw [bad3, e1]
  have n1 : placeN l3 0 1 = [(0, 0), (0, 0), (0, 0)] := by simp [placeN, List.replicate]
  have n2 : placeN l3 0 2 = [(0, 0), (1, 1), (0, 0)] := by
    rw [placeN, n1]
    simp [bestR, lev]
  have n3 : placeN l3 0 3 = [(0, 0), (1, 1), (2, 2)] := by
    rw [placeN, n2]
    have : bestR l3 [(0, 0), (1, 1), (0, 0)] 2 0 2 = 1 := by
      have h1 : bestR l3 [(0, 0), (1, 1), (0, 0)] 2 0 1 = 0 := by simp [bestR]
      rw [bestR, h1]
      have : inP (pAt l3 2) (pAt l3 1) = true := in_less1
      rw [this]; simp [lev, ltI]
    rw [this]; simp [lev]
  exact n3
theorem place_as {X : Task → Prop} (hX : Closed X) {l : List Pred} {r : List (List PC)} {Q : A → List Blk → Prop} (hr : rows l = r) (hl : ∀ p ∈ l, p.Ok) (hln : l.length ≤ 9223372036854775807) {v : List Nd} (hv : placeV l = v) (hQ : Q (sl (v.map nrow)) []) : X (.call 47 [sl r] [] Q) := by
  subst hr; subst hv; exact place_ok hX hl hln hQ
theorem up20_ok {X : Task → Prop} (hX : Closed X) {Q : A → List Blk → Prop} (hQ : Q (bv true) []) : X (.call 44 [] [] Q) := by
  refine call_intro hX Try.func44 rfl rfl ?_
  repeat' ((conv => whnf); first | exact hQ | refine ⟨by kernel_rfl, ?_⟩ | refine bct (by assumption) ?_ | refine bcf (by assumption) ?_ | refine bcf (nt (by assumption)) ?_ | refine bct (nf (by assumption)) ?_ | refine Or.inl ?_ | refine place_as hX rows_l3 l3_ok (by decide) place3 ?_)
theorem eqI_self (a : Int) : eqI a a = true := by simp [eqI]
def fewB (l : List Pred) : Bool := decide (l.length ≤ 12) && l.all fun p => decide (p.size ≤ 60)
theorem few_ok {X : Task → Prop} (hX : Closed X) {l : List Pred} {Q : A → List Blk → Prop} (hl : ∀ p ∈ l, p.Ok) (hln : l.length ≤ 9223372036854775807) (hQ : Q (iv (if fewB l then 1 else 0)) []) : X (.call 45 [sl (lrows l)] [] Q) := by
  refine call_intro hX Try.func45 rfl rfl ?_
  by_cases h12 : l.length ≤ 12
  · have q0 : ltI 12 (lenL (lrows l)) = false := by rw [len_lrows, ltI_f]; omega
    repeat' ((conv => whnf); first | exact hQ | refine ⟨by kernel_rfl, ?_⟩ | refine bct (by assumption) ?_ | refine bcf (by assumption) ?_ | refine bcf (nt (by assumption)) ?_ | refine bct (nf (by assumption)) ?_)
    refine range_ix (fun i (_ : Unit) => pad [(0, sl (lrows l)), (2, iv i)] 15) (fun _ _ => []) (fun j _ => (l.take j).all (fun p => decide (p.size ≤ 60)) = true) l.length 0 (Nat.zero_le _) (fun j st _ hj hI ih => ?_) (fun st hI => ?_) 0 () rfl rfl
    · have q1 : ltI (j : Int) (lenL (lrows l)) = true := by rw [len_lrows, ltI_t]; omega
      have q2 := lenB_lrows hj
      have r1 := at_lrows hj
      have okj := hl _ (List.getElem_mem hj)
      refine loop_intro hX ?_
      by_cases hs : l[j].size ≤ 60
      · have e := all_take (p := fun p : Pred => decide (p.size ≤ 60)) hj hI (decide_eq_true hs)
        repeat' ((conv => whnf); first | exact hQ | refine ⟨by kernel_rfl, ?_⟩ | refine bct (by assumption) ?_ | refine bcf (by assumption) ?_ | refine bcf (nt (by assumption)) ?_ | refine bct (nf (by assumption)) ?_ | refine row_in r1 ?_ | refine known iv (fun _ h => small_ok hX (p := l[j]) okj h) (if_pos hs) ?_ | (exact ih _ () (wrS (by omega)) e))
      · have hf : fewB l = false := by unfold fewB; rw [all_bad (p := fun p : Pred => decide (p.size ≤ 60)) hj (decide_eq_false hs)]; simp
        rw [hf] at hQ
        repeat' ((conv => whnf); first | exact hQ | refine ⟨by kernel_rfl, ?_⟩ | refine bct (by assumption) ?_ | refine bcf (by assumption) ?_ | refine bcf (nt (by assumption)) ?_ | refine bct (nf (by assumption)) ?_ | refine row_in r1 ?_ | refine known iv (fun _ h => small_ok hX (p := l[j]) okj h) (if_neg hs) ?_)
    · have q1 : ltI (l.length : Int) (lenL (lrows l)) = false := by rw [len_lrows, ltI_f]; omega
      rw [List.take_length] at hI
      have hf : fewB l = true := by unfold fewB; rw [hI, decide_eq_true h12]; rfl
      rw [hf] at hQ
      refine loop_intro hX ?_
      repeat' ((conv => whnf); first | exact hQ | refine ⟨by kernel_rfl, ?_⟩ | refine bct (by assumption) ?_ | refine bcf (by assumption) ?_ | refine bcf (nt (by assumption)) ?_ | refine bct (nf (by assumption)) ?_)
  · have q0 : ltI 12 (lenL (lrows l)) = true := by rw [len_lrows, ltI_t]; omega
    have hf : fewB l = false := by unfold fewB; rw [decide_eq_false h12]; rfl
    rw [hf] at hQ
    repeat' ((conv => whnf); first | exact hQ | refine ⟨by kernel_rfl, ?_⟩ | refine bct (by assumption) ?_ | refine bcf (by assumption) ?_ | refine bcf (nt (by assumption)) ?_ | refine bct (nf (by assumption)) ?_)
theorem preds_ok {X : Task → Prop} (hX : Closed X) {l : List Pred} {Q : A → List Blk → Prop} (hl : ∀ p ∈ l, p.Ok) (hs : ∀ p ∈ l, p.size ≤ 1000) (hln : l.length ≤ 1000) (hQ : Q (sl (rows l)) []) : X (.call 46 [sl (lrows l)] [] Q) := by
  refine call_intro hX Try.func46 rfl rfl ?_
  repeat' ((conv => whnf); first | exact hQ | refine ⟨by kernel_rfl, ?_⟩ | refine bct (by assumption) ?_ | refine bcf (by assumption) ?_ | refine bcf (nt (by assumption)) ?_ | refine bct (nf (by assumption)) ?_)
  refine range_ix (fun i (_ : Rw) => pad [(0, sl (lrows l)), (2, .one (.own 0)), (0, iv i)] 15) (fun _ st => [.rows st.k st.l]) (fun j st => (Nat.beq st.k 5 || Nat.beq st.k 0) = true ∧ st.l = rows (l.take j)) l.length 0 (Nat.zero_le _) (fun j st _ hj hI ih => ?_) (fun st hI => ?_) 0 ⟨_, _⟩ rfl ⟨rfl, by rw [List.take_zero, rows_nil]⟩
  · obtain ⟨k, m⟩ := st
    obtain ⟨hk, hm⟩ := hI
    dsimp only at hk hm
    subst hm
    have q1 : ltI (j : Int) (lenL (lrows l)) = true := by rw [len_lrows, ltI_t]; omega
    have q2 := lenB_lrows hj
    have r1 := at_lrows hj
    have okj := hl _ (List.getElem_mem hj)
    have skj := hs _ (List.getElem_mem hj)
    have hlr : (rows (l.take j)).length ≤ 50000 := by rw [rows_eq, List.length_map, List.length_take]; omega
    have e3 := rows_take hj
    refine loop_intro hX ?_
    repeat' ((conv => whnf); first | exact hQ | refine ⟨by kernel_rfl, ?_⟩ | refine bct (by assumption) ?_ | refine bcf (by assumption) ?_ | refine bcf (nt (by assumption)) ?_ | refine bct (nf (by assumption)) ?_ | refine row_in r1 ?_ | refine lpred_ok hX l[j].size (p := l[j]) (Nat.le_refl _) skj okj ?_ | refine bct (room3 hlr rfl rfl rfl hk) ?_ | (exact ih _ ⟨_, _⟩ (wrS (by omega)) ⟨rfl, e3⟩))
  · obtain ⟨k, m⟩ := st
    obtain ⟨hk, hm⟩ := hI
    dsimp only at hk hm
    subst hm
    have q1 : ltI (l.length : Int) (lenL (lrows l)) = false := by rw [len_lrows, ltI_f]; omega
    rw [List.take_length]
    refine loop_intro hX ?_
    repeat' ((conv => whnf); first | exact hQ | refine ⟨by kernel_rfl, ?_⟩ | refine bct (by assumption) ?_ | refine bcf (by assumption) ?_ | refine bcf (nt (by assumption)) ?_ | refine bct (nf (by assumption)) ?_)
theorem few_iff {l : List Pred} (h : fewB l = true) : l.length ≤ 12 ∧ ∀ p ∈ l, p.size ≤ 60 := by
  unfold fewB at h
  simpa using h
theorem law_treePlaces {X : Task → Prop} (hX : Closed X) {l : List Pred} (hl : l.length ≤ 9223372036854775807 ∧ ∀ p ∈ l, p.Ok) {Q : A → List Blk → Prop} (hQ : Q (bv true) []) : X (.call 10 [sl (lrows l)] [] Q) := by
  obtain ⟨hln, hl⟩ := hl
  refine call_intro hX Try.func10 rfl rfl ?_
  cases hf : fewB l with
  | false => repeat' ((conv => whnf); first | exact hQ | refine ⟨by kernel_rfl, ?_⟩ | refine bct (by assumption) ?_ | refine bcf (by assumption) ?_ | refine bcf (nt (by assumption)) ?_ | refine bct (nf (by assumption)) ?_ | refine up20_ok hX ?_ | refine known iv (fun _ h => few_ok hX hl hln h) (by rw [hf]; rfl : (if fewB l then (1 : Int) else 0) = 0) ?_)
  | true =>
    obtain ⟨h12, h60⟩ := few_iff hf
    have hs : ∀ p ∈ l, p.size ≤ 1000 := fun p hp => Nat.le_trans (h60 p hp) (by decide)
    obtain ⟨v, hv⟩ : ∃ v, placeV l = v := ⟨_, rfl⟩
    have q0 := eqI_self (lenL (v.map nrow))
    repeat' ((conv => whnf); first | exact hQ | refine ⟨by kernel_rfl, ?_⟩ | refine bct (by assumption) ?_ | refine bcf (by assumption) ?_ | refine bcf (nt (by assumption)) ?_ | refine bct (nf (by assumption)) ?_ | refine up20_ok hX ?_ | refine known iv (fun _ h => few_ok hX hl hln h) (by rw [hf]; rfl : (if fewB l then (1 : Int) else 0) = 1) ?_ | refine preds_ok hX hl hs (by omega) ?_ | refine known (fun v : List Nd => sl (v.map nrow)) (fun _ h => place_ok hX hl hln h) hv ?_ | refine known (fun v : List Nd => sl (v.map nrow)) (fun _ h => rplace_ok hX hl hs (by omega) h) hv ?_)
    have hvl : v.length ≤ 12 := by
      rw [← hv]; unfold placeV; split
      · simp
      · rw [placeN_len]; exact h12
    refine range_ix (fun i (_ : Unit) => pad [(3, bv true), (1, sl (v.map nrow)), (0, sl (v.map nrow)), (0, iv i)] 47) (fun _ _ => []) (fun _ _ => True) v.length 0 (Nat.zero_le _) (fun j st _ hj hI ih => ?_) (fun st hI => ?_) 0 () rfl trivial
    · have q1 : ltI (j : Int) (lenL (v.map nrow)) = true := by rw [lenL_map, ltI_t]; omega
      have q2 : lenB (v.map nrow) (j : Int) = true := lenB_map hj
      have r1 := at_nodes hj
      refine loop_intro hX ?_
      repeat' ((conv => whnf); first | exact hQ | refine ⟨by kernel_rfl, ?_⟩ | refine bct (by assumption) ?_ | refine bcf (by assumption) ?_ | refine bcf (nt (by assumption)) ?_ | refine bct (nf (by assumption)) ?_ | refine row_in r1 ?_ | refine bcf (nt (eqI_self _)) ?_ | (exact ih _ () (wrS (by omega)) trivial))
    · have q1 : ltI (v.length : Int) (lenL (v.map nrow)) = false := by rw [lenL_map, ltI_f]; omega
      refine loop_intro hX ?_
      repeat' ((conv => whnf); first | exact hQ | refine ⟨by kernel_rfl, ?_⟩ | refine bct (by assumption) ?_ | refine bcf (by assumption) ?_ | refine bcf (nt (by assumption)) ?_ | refine bct (nf (by assumption)) ?_)
end Go.Proofs.Ytaiedakbmmgmaaa
