/- What is known (layer 7): what it means to be made plain, joined, known with a version. -/
import Derived.Test.YtijkfjahgijphaaKKnowSpec3
set_option linter.unusedVariables false
set_option linter.unusedSimpArgs false
set_option maxRecDepth 100000
namespace Go.Proofs.Ytijkfjahgijphaa
open Go E Pred
noncomputable section
open Classical
theorem at_cut (a s : V8) (r : Int) : (cutV a s).at r = cutI (a.at r) (s.at r) := by
  unfold V8.at cutV
  repeat' split
  all_goals rfl
theorem at_zero (r : Int) : zero8.at r = 0 := by
  unfold V8.at zero8
  repeat' split
  all_goals rfl
theorem has_zero (r c : Int) : hasV zero8 r c = false := by
  unfold hasV; rw [at_zero]; exact decide_eq_false (by omega)
theorem has_cut (s a : V8) (r c : Int) : (hasV s r c || hasV (cutV a s) r c) = (hasV s r c || hasV a r c) := by
  unfold hasV
  rw [at_cut, Bool.eq_iff_iff]
  simp only [Bool.or_eq_true, decide_eq_true_eq]
  unfold cutI leI
  by_cases h : a.at r ≤ s.at r
  · rw [if_pos (by simpa using h)]; omega
  · rw [if_neg (by simpa using h)]
theorem has_sum (id : ByteArray) (r c : Int) : ∀ (l : List Frag) (v : V8), hasV (sumV id l v) r c = (hasV v r c || l.any fun f => hasF f id r c)
  | [], v => by simp [sumV]
  | f :: l, v => by
    have ih := fun v => has_sum id r c l v
    have e : sumV id (f :: l) v = sumV id l (if memB f.ids id then maxV v f.vec else v) := rfl
    rw [e, ih, List.any_cons]
    unfold hasF
    cases memB f.ids id with
    | true => simp only [if_true, Bool.true_and]; rw [has_max, Bool.or_assoc]
    | false => simp
theorem hasK_sum (k : Know) (id : ByteArray) (r c : Int) : hasK k id r c = (hasV k.star r c || hasV (beyondV k id) r c) := by
  unfold beyondV hasK
  rw [has_cut, has_sum, has_zero, Bool.false_or]
theorem sum_none {id : ByteArray} : ∀ (l : List Frag) (v : V8), (∀ f ∈ l, id ∉ f.ids) → sumV id l v = v
  | [], v, _ => rfl
  | f :: l, v, h => by
    have e : sumV id (f :: l) v = sumV id l (if memB f.ids id then maxV v f.vec else v) := rfl
    have hf : ¬ memB f.ids id = true := by rw [memB_iff]; exact h f (List.mem_cons_self ..)
    rw [e, if_neg hf]; exact sum_none l v fun g hg => h g (List.mem_cons_of_mem _ hg)
theorem cutI_0 (s : Int) : cutI 0 s = 0 := by unfold cutI; split <;> rfl
theorem cut_zero (s : V8) : cutV zero8 s = zero8 := by unfold cutV zero8; simp only [cutI_0]
theorem beyond_none {k : Know} {id : ByteArray} (h : id ∉ namesK k) : beyondV k id = zero8 := by
  unfold beyondV
  rw [sum_none _ _ fun f hf hz => h (namesK_mem.2 ⟨f, hf, hz⟩), cut_zero]
structure Pieces (k : Know) (P : ByteArray → Prop) (out : List Frag) : Prop where
  of_ : ∀ f ∈ out, ∀ id ∈ f.ids, beyondV k id = f.vec ∧ f.vec ≠ zero8
  has : ∀ id, P id → beyondV k id ≠ zero8 → ∃ f ∈ out, id ∈ f.ids
theorem pieces_step {k : Know} {P : ByteArray → Prop} {out : List Frag} {id : ByteArray} (h : Pieces k P out) : Pieces k (fun x => P x ∨ x = id) (stepP k out id) := by
  unfold stepP
  by_cases hz : eq8 (beyondV k id) zero8 = true
  · rw [if_pos hz]
    refine ⟨h.of_, fun x hx hb => ?_⟩
    rcases hx with hx | rfl
    · exact h.has x hx hb
    · exact absurd (eq8_t.1 hz) hb
  · rw [if_neg hz]
    have hz' : beyondV k id ≠ zero8 := fun e => hz (eq8_t.2 e)
    rcases fat_add (id := id) (v := beyondV k id) out 0 with ⟨_, e⟩ | ⟨pre, f, post, e1, _, e2, e⟩
    · rw [e]
      refine ⟨fun g hg x hx => ?_, fun x hx hb => ?_⟩
      · rcases List.mem_append.1 hg with hg | hg
        · exact h.of_ g hg x hx
        · rw [List.mem_singleton.1 hg] at hx ⊢
          rw [List.mem_singleton.1 hx]; exact ⟨rfl, hz'⟩
      · rcases hx with hx | rfl
        · obtain ⟨g, hg, hi⟩ := h.has x hx hb
          exact ⟨g, List.mem_append_left _ hg, hi⟩
        · exact ⟨⟨[x], beyondV k x⟩, List.mem_append_right _ (List.mem_singleton.2 rfl), List.mem_singleton.2 rfl⟩
    · rw [e]
      refine ⟨fun g hg x hx => ?_, fun x hx hb => ?_⟩
      · rcases List.mem_append.1 hg with hg | hg
        · exact h.of_ g (by rw [e1]; exact List.mem_append_left _ hg) x hx
        · rcases List.mem_cons.1 hg with rfl | hg
          · rcases List.mem_append.1 hx with hx | hx
            · exact h.of_ f (by rw [e1]; exact List.mem_append_right _ (List.mem_cons_self ..)) x hx
            · rw [List.mem_singleton.1 hx]
              exact ⟨e2.symm, by rw [e2]; exact hz'⟩
          · exact h.of_ g (by rw [e1]; exact List.mem_append_right _ (List.mem_cons_of_mem _ hg)) x hx
      · rcases hx with hx | rfl
        · obtain ⟨g, hg, hi⟩ := h.has x hx hb
          rw [e1] at hg
          rcases List.mem_append.1 hg with hg | hg
          · exact ⟨g, List.mem_append_left _ hg, hi⟩
          · rcases List.mem_cons.1 hg with rfl | hg
            · exact ⟨_, List.mem_append_right _ (List.mem_cons_self ..), List.mem_append_left _ hi⟩
            · exact ⟨g, List.mem_append_right _ (List.mem_cons_of_mem _ hg), hi⟩
        · exact ⟨_, List.mem_append_right _ (List.mem_cons_self ..), List.mem_append_right _ (List.mem_singleton.2 rfl)⟩
theorem pieces_fold {k : Know} : ∀ (names : List ByteArray) {P : ByteArray → Prop} {out : List Frag}, Pieces k P out → Pieces k (fun x => P x ∨ x ∈ names) (names.foldl (stepP k) out)
  | [], P, out, h => ⟨h.of_, fun x hx hb => h.has x (by simpa using hx) hb⟩
  | id :: names, P, out, h => by
    have := pieces_fold names (pieces_step (id := id) h)
    rw [List.foldl_cons]
    exact ⟨this.of_, fun x hx hb => this.has x (by
      rcases hx with hx | hx
      · exact .inl (.inl hx)
      · rcases List.mem_cons.1 hx with hx | hx
        · exact .inl (.inr hx)
        · exact .inr hx) hb⟩
theorem pieces_plain (k : Know) : Pieces k (fun _ => True) (plainK k).l := by
  have h := pieces_fold (k := k) (namesK k) (P := fun _ => False) (out := []) ⟨fun f hf => (by cases hf), fun id h => h.elim⟩
  refine ⟨h.of_, fun id _ hb => h.has id (.inr ?_) hb⟩
  exact Classical.byContradiction fun hn => hb (beyond_none hn)
theorem maxI_0 {a : Int} (h : 0 ≤ a) : maxI 0 a = a := by unfold maxI; split <;> omega
theorem max_zero {v : V8} (h : NonNeg v) : maxV zero8 v = v := by
  unfold maxV zero8
  simp only [maxI_0 h.h0, maxI_0 h.h1, maxI_0 h.h2, maxI_0 h.h3, maxI_0 h.h4, maxI_0 h.h5, maxI_0 h.h6, maxI_0 h.h7]
theorem cut_nnI {a s : Int} (h : 0 ≤ a) : 0 ≤ cutI a s := by unfold cutI; split <;> omega
theorem NonNeg.cut {a : V8} (h : NonNeg a) (s : V8) : NonNeg (cutV a s) := ⟨cut_nnI h.h0, cut_nnI h.h1, cut_nnI h.h2, cut_nnI h.h3, cut_nnI h.h4, cut_nnI h.h5, cut_nnI h.h6, cut_nnI h.h7⟩
theorem nn_beyond (k : Know) (id : ByteArray) : NonNeg (beyondV k id) := (nn_sum id k.l nn_zero).cut _
theorem sum_all {id : ByteArray} {b : V8} : ∀ (l : List Frag) (v : V8), (∀ f ∈ l, id ∈ f.ids → f.vec = b) → sumV id l v = if (l.any fun f => memB f.ids id) = true then maxV v b else v
  | [], v, _ => rfl
  | f :: l, v, h => by
    have e : sumV id (f :: l) v = sumV id l (if memB f.ids id then maxV v f.vec else v) := rfl
    rw [e, sum_all l _ fun g hg => h g (List.mem_cons_of_mem _ hg), List.any_cons]
    by_cases hf : memB f.ids id = true
    · rw [if_pos hf, hf, h f (List.mem_cons_self ..) (memB_iff.1 hf), Bool.true_or, if_pos rfl, maxV_idem]
      split <;> rfl
    · rw [if_neg hf]
      simp only [Bool.not_eq_true] at hf
      rw [hf, Bool.false_or]
theorem sum_plain (k : Know) (id : ByteArray) : sumV id (plainK k).l zero8 = beyondV k id := by
  have hp := pieces_plain k
  rw [sum_all (b := beyondV k id) _ _ fun f hf hi => (hp.of_ f hf id hi).1.symm]
  split
  · exact max_zero (nn_beyond k id)
  · rename_i h
    refine (Classical.byContradiction fun hb => h ?_ : zero8 = beyondV k id)
    obtain ⟨f, hf, hi⟩ := hp.has id trivial fun e => hb e.symm
    exact List.any_eq_true.2 ⟨f, hf, memB_iff.2 hi⟩
theorem cutI_cut (a s : Int) : cutI (cutI a s) s = cutI a s := by
  unfold cutI
  cases h : leI a s with
  | true => simp
  | false => simp [h]
theorem cut_cut (a s : V8) : cutV (cutV a s) s = cutV a s := by unfold cutV; simp only [cutI_cut]
theorem beyond_plain (k : Know) (id : ByteArray) : beyondV (plainK k) id = beyondV k id := by
  unfold beyondV
  rw [sum_plain]
  exact cut_cut _ _
theorem hasK_plain (k : Know) (id : ByteArray) (r c : Int) : hasK (plainK k) id r c = hasK k id r c := by
  rw [hasK_sum, hasK_sum, beyond_plain]; rfl
theorem fold_filter (k : Know) : ∀ (names : List ByteArray) (out : List Frag), names.foldl (stepP k) out = (names.filter fun id => !eq8 (beyondV k id) zero8).foldl (stepP k) out
  | [], _ => rfl
  | id :: names, out => by
    rw [List.foldl_cons, List.filter_cons]
    cases h : eq8 (beyondV k id) zero8 with
    | true => rw [stepP_t h]; exact fold_filter k names out
    | false => rw [if_pos (by rfl), List.foldl_cons]; exact fold_filter k names _
theorem plainK_ext {a b : Know} (hs : a.star = b.star) (hb : ∀ id, beyondV a id = beyondV b id) : plainK a = plainK b := by
  have hstep : stepP a = stepP b := by funext out id; unfold stepP; rw [hb]
  have hn : (namesK a).filter (fun id => !eq8 (beyondV a id) zero8) = (namesK b).filter fun id => !eq8 (beyondV b id) zero8 := by
    refine srt_ext ((namesK_srt a).filter _) ((namesK_srt b).filter _) fun z => ?_
    have key : ∀ {a b : Know}, (∀ id, beyondV a id = beyondV b id) → z ∈ (namesK a).filter (fun id => !eq8 (beyondV a id) zero8) → z ∈ (namesK b).filter fun id => !eq8 (beyondV b id) zero8 := fun {a b} hb h => by
      rw [List.mem_filter] at h ⊢
      have h2 := h.2
      rw [hb] at h2
      refine ⟨Classical.byContradiction fun hn => ?_, h2⟩
      rw [beyond_none hn, eq8_self] at h2
      cases h2
    exact ⟨key hb, key fun id => (hb id).symm⟩
  unfold plainK
  rw [fold_filter a, fold_filter b, hn, hstep, hs]
theorem plain_plain (k : Know) : plainK (plainK k) = plainK k := plainK_ext rfl fun id => beyond_plain k id
theorem eqL_refl : ∀ l : List ByteArray, eqL l l = true
  | [] => rfl
  | x :: l => by rw [eqL, eqS_self, eqL_refl l]; rfl
theorem alikeL_refl : ∀ l : List Frag, alikeL l l = true
  | [] => rfl
  | f :: l => by rw [alikeL, alikeL_refl l]; unfold alikeF; rw [eq8_self, eqL_refl]; rfl
theorem alike_self (k : Know) : alikeK k k = true := by unfold alikeK; rw [eq8_self, alikeL_refl]; rfl
def joinK (a b : Know) : Know := plainK ⟨maxV a.star b.star, a.l ++ b.l⟩
theorem sum_app (id : ByteArray) (l m : List Frag) (v : V8) : sumV id (l ++ m) v = sumV id m (sumV id l v) := by unfold sumV; rw [List.foldl_append]
theorem maxI_assoc (a b c : Int) : maxI (maxI a b) c = maxI a (maxI b c) := by unfold maxI; by_cases h1 : b > a <;> by_cases h2 : c > b <;> by_cases h3 : c > a <;> simp [h1, h2, h3] <;> omega
theorem maxV_assoc (a b c : V8) : maxV (maxV a b) c = maxV a (maxV b c) := by unfold maxV; simp only [maxI_assoc]
theorem maxV_comm (a b : V8) : maxV a b = maxV b a := by unfold maxV; rw [maxI_comm a.x0, maxI_comm a.x1, maxI_comm a.x2, maxI_comm a.x3, maxI_comm a.x4, maxI_comm a.x5, maxI_comm a.x6, maxI_comm a.x7]
theorem sum_from {id : ByteArray} : ∀ (l : List Frag) {v : V8}, NonNeg v → sumV id l v = maxV v (sumV id l zero8)
  | [], v, h => by show v = maxV v zero8; rw [maxV_comm, max_zero h]
  | f :: l, v, h => by
    have e : ∀ v, sumV id (f :: l) v = sumV id l (if memB f.ids id then maxV v f.vec else v) := fun _ => rfl
    rw [e, e]
    by_cases hf : memB f.ids id = true
    · rw [if_pos hf, if_pos hf, sum_from l h.max, sum_from l nn_zero.max, maxV_assoc, maxV_assoc, ← maxV_assoc v zero8, maxV_comm v zero8, max_zero h]
    · rw [if_neg hf, if_neg hf, sum_from l h]
theorem sum_join (id : ByteArray) (l m : List Frag) : sumV id (l ++ m) zero8 = maxV (sumV id l zero8) (sumV id m zero8) := by
  rw [sum_app, sum_from m (nn_sum id l nn_zero)]
theorem join_comm (a b : Know) : joinK a b = joinK b a := by
  refine plainK_ext (maxV_comm _ _) fun id => ?_
  unfold beyondV
  rw [sum_join, sum_join, maxV_comm (sumV id a.l zero8)]
  show cutV _ (maxV a.star b.star) = cutV _ (maxV b.star a.star)
  rw [maxV_comm a.star]
theorem cut_againI {A B S : Int} (hB : 0 ≤ B) : cutI (maxI (cutI (maxI A B) S) B) S = cutI (maxI A B) S := by
  unfold cutI
  by_cases h : leI (maxI A B) S = true
  · rw [if_pos h, maxI_0 hB]
    have : leI B S = true := by rw [leI_t] at h ⊢; unfold maxI at h; split at h <;> omega
    rw [if_pos this]
  · rw [if_neg h, maxI_idem, if_neg h]
theorem join_again (a b : Know) : joinK (joinK a b) b = joinK a b := by
  refine plainK_ext (maxV_idem _ _) fun id => ?_
  unfold beyondV
  rw [sum_join]
  have e : sumV id (joinK a b).l zero8 = cutV (maxV (sumV id a.l zero8) (sumV id b.l zero8)) (maxV a.star b.star) := by
    unfold joinK
    rw [sum_plain]
    unfold beyondV
    rw [sum_join]
  rw [e, sum_join]
  have hB := nn_sum id b.l nn_zero
  show cutV _ (maxV (maxV a.star b.star) b.star) = _
  rw [maxV_idem]
  show cutV (maxV (cutV (maxV (sumV id a.l zero8) (sumV id b.l zero8)) (maxV a.star b.star)) (sumV id b.l zero8)) (maxV a.star b.star) = cutV (maxV (sumV id a.l zero8) (sumV id b.l zero8)) (maxV a.star b.star)
  generalize sumV id a.l zero8 = A
  generalize sumV id b.l zero8 = B at hB
  generalize maxV a.star b.star = S
  unfold cutV maxV
  simp only [cut_againI hB.h0, cut_againI hB.h1, cut_againI hB.h2, cut_againI hB.h3, cut_againI hB.h4, cut_againI hB.h5, cut_againI hB.h6, cut_againI hB.h7]
theorem hasK_join (a b : Know) (id : ByteArray) (r c : Int) : hasK (joinK a b) id r c = (hasK a id r c || hasK b id r c) := by
  unfold joinK
  rw [hasK_plain]
  unfold hasK
  show (hasV (maxV a.star b.star) r c || (a.l ++ b.l).any _) = _
  rw [has_max, List.any_append]
  cases hasV a.star r c <;> cases hasV b.star r c <;> simp
def pieceK (k : Know) (id : ByteArray) (r c : Int) : Know := ⟨k.star, k.l ++ [⟨[id], withV zero8 r c⟩]⟩
def withK (k : Know) (id : ByteArray) (r c : Int) : Know := plainK (pieceK k id r c)
theorem hasK_with (k : Know) (id : ByteArray) (r c : Int) (id' : ByteArray) (r' c' : Int) : hasK (withK k id r c) id' r' c' = (hasK k id' r' c' || (eqS id id' && hasV (withV zero8 r c) r' c')) := by
  unfold withK
  rw [hasK_plain]
  unfold pieceK hasK
  show (hasV k.star r' c' || (k.l ++ [Frag.mk [id] (withV zero8 r c)]).any _) = _
  rw [List.any_append, ← Bool.or_assoc]
  congr 1
  simp [hasF, memB]
def ownB (k : Know) (r c : Int) : Bool := decide (1 ≤ r ∧ r ≤ 8 ∧ 1 ≤ c ∧ k.star.at r = wr .i64 (c - 1))
def ownK (k : Know) (id : ByteArray) (r c : Int) : Know := if ownB k r c = true then plainK ⟨withV k.star r c, k.l⟩ else withK k id r c
theorem at_putq (v : V8) (r n q : Int) (hr : 1 ≤ r ∧ r ≤ 8) : (v.put r n).at q = if q = r then n else v.at q := by
  by_cases hq : q = r
  · rw [if_pos hq, hq]; exact at_put v r n hr
  · rw [if_neg hq]
    rcases r8 r with h' | rfl | rfl | rfl | rfl | rfl | rfl | rfl | rfl
    · omega
    all_goals simp [V8.put, V8.at, hq]
theorem at_with (v : V8) (r c q : Int) (hr : 1 ≤ r ∧ r ≤ 8) : (withV v r c).at q = if q = r then maxI (v.at r) c else v.at q := at_putq v r _ q hr
theorem hasK_own {k : Know} {id : ByteArray} {r c : Int} (hc : -9223372036854775808 ≤ c ∧ c ≤ 9223372036854775807) {id' : ByteArray} {r' c' : Int} (h : hasK (withK k id r c) id' r' c' = true) : hasK (ownK k id r c) id' r' c' = true := by
  unfold ownK
  by_cases hb : ownB k r c = true
  · rw [if_pos hb, hasK_plain]
    unfold ownB at hb
    rw [decide_eq_true_eq] at hb
    obtain ⟨h1, h2, h3, h4⟩ := hb
    rw [wr64 (by omega) (by omega)] at h4
    rw [hasK_with] at h
    unfold hasK at h ⊢
    have mono : ∀ q n, hasV k.star q n = true → hasV (withV k.star r c) q n = true := fun q n hq => by
      unfold hasV at hq ⊢
      rw [decide_eq_true_eq] at hq ⊢
      rw [at_with _ _ _ _ ⟨h1, h2⟩]
      refine ⟨hq.1, hq.2.1, hq.2.2.1, ?_⟩
      split
      · rename_i e; subst e; unfold maxI; split <;> omega
      · exact hq.2.2.2
    show (hasV (withV k.star r c) r' c' || k.l.any _) = true
    rw [Bool.or_eq_true, Bool.or_eq_true] at h
    rw [Bool.or_eq_true]
    rcases h with (h | h) | h
    · exact .inl (mono _ _ h)
    · exact .inr h
    · rw [Bool.and_eq_true] at h
      refine .inl ?_
      have h' := h.2
      unfold hasV at h' ⊢
      rw [decide_eq_true_eq] at h' ⊢
      rw [at_with _ _ _ _ ⟨h1, h2⟩] at h' ⊢
      rw [at_zero, at_zero] at h'
      refine ⟨h'.1, h'.2.1, h'.2.2.1, ?_⟩
      by_cases e : r' = r
      · rw [if_pos e] at h' ⊢
        have := h'.2.2.2
        unfold maxI at this ⊢
        split at this <;> split <;> omega
      · rw [if_neg e] at h'; omega
  · rw [if_neg hb]; exact h
end
end Go.Proofs.Ytijkfjahgijphaa
