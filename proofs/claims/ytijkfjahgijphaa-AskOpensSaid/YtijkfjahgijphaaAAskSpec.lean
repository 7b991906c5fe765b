/- Layers 8, 9, 11: items, states, sessions: what the code computes, as answers. -/
import Derived.Test.YtijkfjahgijphaaAG11
import Derived.Test.YtijkfjahgijphaaAListSpec0
import Derived.Test.YtijkfjahgijphaaAEvalPlainLaw
set_option linter.unusedVariables false
set_option linter.unusedSimpArgs false
set_option maxRecDepth 100000
namespace Go.Proofs.Ytijkfjahgijphaa
open Go E Pred
noncomputable section
open Classical
theorem may3_s {p : Pred} (h : p.Ok) (hs : p.size ≤ 1000) : ref03_May_s p = some (mayP p) := by unfold ref03_May_s; rw [chk_t (decide_eq_true hs), chk_t (decide_eq_true h)]
theorem has3_s {p : Pred} {x : Item} (h : p.Ok) (hx : x.Ok) : ref03_Has_s p x = some (hasP p x) := by unfold ref03_Has_s; rw [chk_t (decide_eq_true h), chk_t (decide_eq_true hx)]
structure StOk (x : State) : Prop where
  f : x.f.Ok
  fs : x.f.size ≤ 1000
  store : ∀ i ∈ x.store, i.Ok
  out : ∀ i ∈ x.out, i.Ok
  sl : x.store.length ≤ 990
  ol : x.out.length ≤ 990
  k : KB x.k 990
  ids : IdsOk x.k
theorem stood_l {x : State} (h : StOk x) (b : Bool) : ∀ l : List Item, (∀ i ∈ l, i.Ok) → ∃ r, ref09_stood_l1 x b l = some r
  | [], _ => ⟨_, by rw [ref09_stood_l1]⟩
  | i :: l, hl => by
    obtain ⟨r, hr⟩ := stood_l h b l fun j hj => hl j (List.mem_cons_of_mem _ hj)
    rw [ref09_stood_l1, bnd_of (has3_s h.f (hl i (List.mem_cons_self ..))), bnd_of (hasK_s (by decide) h.k), hr]
    rw [br_if, br_if, br_if]
    split
    · exact ⟨_, rfl⟩
    · split
      · exact ⟨_, rfl⟩
      · split <;> exact ⟨_, rfl⟩
theorem stood_s {x : State} (h : StOk x) (b : Bool) {l : List Item} (hl : ∀ i ∈ l, i.Ok) (hn : l.length ≤ 990) : ∃ r, ref09_stood_s x l b = some r := by
  obtain ⟨r, hr⟩ := stood_l h b l hl
  exact ⟨r, by unfold ref09_stood_s; rw [chk_t (smallL_of (by omega)), hr]⟩
theorem beyond9_l (r n : Int) : ∀ l : List Frag, ∃ b, ref09_Beyond_l1 r n l = some b
  | [] => ⟨_, by rw [ref09_Beyond_l1]⟩
  | f :: l => by
    obtain ⟨b, hb⟩ := beyond9_l r n l
    rw [ref09_Beyond_l1, bnd_of (show ref06_Count_s f.vec r = some (f.vec.at r) from rfl), hb, br_if]
    split <;> exact ⟨_, rfl⟩
theorem beyond9_s {k : Know} (h : KB k 990) (r n : Int) : ∃ b, ref09_Beyond_s k r n = some b := by
  obtain ⟨b, hb⟩ := beyond9_l r n k.l
  unfold ref09_Beyond_s
  rw [bnd_of (show ref06_Count_s k.star r = some (k.star.at r) from rfl), chk_t (smallL_of (by have := h.l; omega)), hb, br_if]
  split <;> exact ⟨_, rfl⟩
theorem may9_l {x : State} (h : StOk x) : ∀ l : List Item, ∃ b, ref09_May_l1 x l = some b
  | [] => by
    obtain ⟨a, ha⟩ := stood_s h true h.store h.sl
    obtain ⟨b, hb⟩ := stood_s h false h.out h.ol
    obtain ⟨c, hc⟩ := beyond9_s h.k x.r x.count
    rw [ref09_May_l1, bnd_of ha, bnd_of hb, bnd_of hc]
    cases a <;> cases b <;> exact ⟨_, rfl⟩
  | i :: l => by
    obtain ⟨b, hb⟩ := may9_l h l
    rw [ref09_May_l1, bnd_of (get_s (by have := h.sl; omega)), hb, br_if]
    split <;> exact ⟨_, rfl⟩
theorem may9_s {x : State} (h : StOk x) : ∃ b, ref09_May_s x = some b ∧ (b = true → mayP x.f = true ∧ mayListB x.store = true ∧ mayListB x.out = true ∧ mayK x.k = true) := by
  obtain ⟨b, hb⟩ := may9_l h x.out
  have hs := h.sl
  have ho := h.ol
  unfold ref09_May_s
  rw [bnd_of (may3_s h.f h.fs), bnd_of (mayList_s (by omega) h.store), bnd_of (mayList_s (by omega) h.out), bnd_of (mayK_s h.k h.ids), chk_t (smallL_of (by omega)), hb]
  cases mayP x.f with
  | false => exact ⟨false, rfl, fun e => by cases e⟩
  | true =>
    cases mayListB x.store with
    | false => exact ⟨false, rfl, fun e => by cases e⟩
    | true =>
      cases mayListB x.out with
      | false => exact ⟨false, rfl, fun e => by cases e⟩
      | true =>
        cases mayK x.k with
        | false => exact ⟨false, rfl, fun e => by cases e⟩
        | true =>
          simp only [br_if, Bool.not_true, Bool.false_eq_true, if_false]
          repeat' split
          all_goals exact ⟨_, rfl, fun _ => by simp⟩
theorem fresh_know_l {k : Know} : ∀ (l acc : List Frag), acc.length + l.length ≤ 999990 → (∀ f ∈ l, f.ids.length ≤ 1000000) → fresh_Know_l1 k l acc = some ⟨k.star, acc ++ l⟩
  | [], acc, _, _ => by rw [fresh_Know_l1, List.append_nil]
  | f :: l, acc, h, hi => by
    rw [List.length_cons] at h
    have e : clone_s f.ids = some f.ids := by unfold clone_s; rw [chk_t (decide_eq_true (hi f (List.mem_cons_self ..)))]
    rw [fresh_Know_l1, bnd_of e, chk_t (roomL_of (by omega)), fresh_know_l l _ (by rw [List.length_append]; simp; omega) fun g hg => hi g (List.mem_cons_of_mem _ hg), List.append_assoc]; rfl
theorem fresh_know {k : Know} (h : KB k 990) : fresh_Know_s k = some k := by
  have := h.l
  unfold fresh_Know_s
  rw [chk_t (smallL_of (by omega)), fresh_know_l k.l [] (by simp; omega) fun f hf => by have := h.ids f hf; omega]; rfl
theorem fresh_pred_l {p : Pred} {rc : Pred → Option Pred} : ∀ (l acc : List Pred), (∀ q ∈ l, rc q = some q) → acc.length + l.length ≤ 999990 → fresh_Pred_l1 p rc l acc = some (.mk p.op p.text p.n p.re p.im (acc ++ l))
  | [], acc, _, _ => by rw [fresh_Pred_l1, List.append_nil]
  | q :: l, acc, h, hn => by
    rw [List.length_cons] at hn
    rw [fresh_Pred_l1, bnd_of (h q (List.mem_cons_self ..)), chk_t (roomL_of (by omega)), fresh_pred_l l _ (fun x hx => h x (List.mem_cons_of_mem _ hx)) (by rw [List.length_append]; simp; omega), List.append_assoc]; rfl
theorem fresh_pred : ∀ (n : Nat) {p : Pred}, p.size ≤ n → p.size ≤ 1000 → fresh_Pred_s n p = some p
  | 0, p, h, _ => by have := size_pos p; omega
  | n + 1, p, h, hs => by
    have e := size_eq p
    have hl := len_sizes p.kids
    show fresh_Pred_b (fresh_Pred_s n) p = some p
    unfold fresh_Pred_b
    rw [chk_t (smallL_of (by omega)), fresh_pred_l p.kids [] (fun q hq => fresh_pred n (by have := size_mem hq; omega) (by have := size_mem hq; omega)) (by simp; omega)]
    cases p; rfl
def hasOf (x : Item) : Has := ⟨x.id, x.vr, x.vc, x.stamp⟩
def sess0 (x : State) (w sid : Int) : Sess := ⟨sid, w, x.epoch, 0, [], false, false, false, 0, ⟨zero8, []⟩, []⟩
def ask0 (x : State) (w sid : Int) : Msg := ⟨1, x.r, w, sid, 0, x.f, x.k, x.store.map hasOf, 0, [], false⟩
theorem ask_l {x : State} {w sid : Int} {f : Pred} {k : Know} : ∀ (xs : List Item) (acc : List Has), acc.length + xs.length ≤ 999990 → ask_Open_l1 x w sid f k xs acc = some (sess0 x w sid, ⟨1, x.r, w, sid, 0, f, k, acc ++ xs.map hasOf, 0, [], false⟩)
  | [], acc, _ => by rw [ask_Open_l1, List.map_nil, List.append_nil]; rfl
  | i :: xs, acc, h => by
    rw [List.length_cons] at h
    rw [ask_Open_l1, chk_t (roomL_of (by omega)), ask_l xs _ (by rw [List.length_append]; simp; omega), List.append_assoc]; rfl
theorem ask_s {x : State} {w sid : Int} (hf : x.f.size ≤ 1000) (hs : x.store.length ≤ 990) (hk : KB x.k 990) : ask_Open_s x w sid = some (sess0 x w sid, ask0 x w sid) := by
  unfold ask_Open_s
  rw [bnd_of (fresh_pred fuelR (by unfold fuelR; omega) hf), bnd_of (fresh_know hk), chk_t (smallL_of (by omega)), ask_l _ _ (by simp; omega)]; rfl
theorem rask_l {x : State} {w sid : Int} : ∀ (xs : List Item) (acc : List Has), acc.length + xs.length ≤ 999990 → ref11_Open_l1 x w sid xs acc = some (sess0 x w sid, ⟨1, x.r, w, sid, 0, x.f, x.k, acc ++ xs.map hasOf, 0, [], false⟩)
  | [], acc, _ => by rw [ref11_Open_l1, List.map_nil, List.append_nil]; rfl
  | i :: xs, acc, h => by
    rw [List.length_cons] at h
    rw [ref11_Open_l1, chk_t (roomL_of (by omega)), rask_l xs _ (by rw [List.length_append]; simp; omega), List.append_assoc]; rfl
theorem rask_s {x : State} {w sid : Int} (hs : x.store.length ≤ 990) : ref11_Open_s x w sid = some (sess0 x w sid, ask0 x w sid) := by
  unfold ref11_Open_s
  rw [chk_t (smallL_of (by omega)), rask_l _ _ (by simp; omega)]; rfl
theorem eqL_refl : ∀ l : List ByteArray, eqL l l = true
  | [] => rfl
  | x :: l => by rw [eqL, eqS_refl, eqL_refl l]; rfl
theorem eq8_refl (v : V8) : eq8 v v = true := by rw [eq8_iff]; simp
theorem alikeL_refl : ∀ l : List Frag, alikeL l l = true
  | [] => rfl
  | f :: l => by rw [alikeL, alikeL_refl l]; unfold alikeF; rw [eq8_refl, eqL_refl]; rfl
theorem alikeK_refl (k : Know) : alikeK k k = true := by unfold alikeK; rw [eq8_refl, alikeL_refl]; rfl
theorem eqI_self (n : Int) : eqI n n = true := eqI_t.2 rfl
theorem sameMsg_l {m : Msg} (hf : m.f.Ok) (hs : sameP m.f m.f = true) (hk : KB m.k 990) (hl : m.l = []) : ∀ (xs pre : List Has), m.have_ = pre ++ xs → ref11_SameMsg_l1 m m xs (pre.length : Int) = some true
  | [], pre, _ => by
    have e : ref03_Same_s m.f m.f = some true := by rw [rsame_s hf, hs]
    have e2 : ref11_SameEntries_s m.l m.l = some true := by rw [hl]; rfl
    rw [ref11_SameMsg_l1, bnd_of e, bnd_of (alike_s (by decide) hk), alikeK_refl, bnd_of e2]; rfl
  | x :: xs, pre, h => by
    have ih := sameMsg_l hf hs hk hl xs (pre ++ [x]) (by rw [h]; simp)
    rw [List.length_append] at ih
    rw [ref11_SameMsg_l1, bnd_of (by rw [h]; exact at_app pre x xs), eqS_refl, eqI_self, eqI_self, eqI_self]
    exact ih
theorem sameMsg_s {m : Msg} (hf : m.f.Ok) (hs : sameP m.f m.f = true) (hk : KB m.k 990) (hl : m.l = []) (hn : m.have_.length ≤ 1000000000) : ref11_SameMsg_s m m = some true := by
  unfold ref11_SameMsg_s
  have h9 := sameMsg_l hf hs hk hl m.have_ [] rfl
  rw [show (([] : List Has).length : Int) = 0 from rfl] at h9
  have hb : (@Bool.rec (fun _ => Bool) m.star (!m.star) m.star) = false := by cases m.star <;> rfl
  rw [eqI_self, eqI_self, eqI_self, eqI_self, eqI_self, eqI_self, eqI_self, hb, chk_t (smallL_of hn), h9]; rfl
theorem sameSess0 (x : State) (w sid : Int) : ref11_Same_s (sess0 x w sid) (sess0 x w sid) = some true := by
  have e : ref06_Alike_s ⟨zero8, []⟩ ⟨zero8, []⟩ = some true := by rw [alike_s (N := 0) (by decide) ⟨Nat.le_refl _, fun f hf => by cases hf⟩, alikeK_refl]
  unfold ref11_Same_s sess0
  simp only [eqI_self]
  show bnd (ref06_Alike_s ⟨zero8, []⟩ ⟨zero8, []⟩) _ = _
  rw [bnd_of e]
theorem known_l : ∀ (l : List Frag), ∃ b, law00_Known_l1 l = some b ∧ (b = 0 ∨ (b = 1 ∧ ∀ f ∈ l, f.ids.length ≤ 60))
  | [] => ⟨1, by rw [law00_Known_l1], .inr ⟨rfl, fun f hf => by cases hf⟩⟩
  | f :: l => by
    obtain ⟨b, hb, h⟩ := known_l l
    rw [law00_Known_l1, br_if]
    by_cases hf : ltI 60 (f.ids.length : Int) = true
    · exact ⟨0, by rw [if_pos hf], .inl rfl⟩
    · refine ⟨b, by rw [if_neg hf, hb], h.imp id fun ⟨h1, h2⟩ => ⟨h1, fun g hg => ?_⟩⟩
      rw [ltI_t] at hf
      rcases List.mem_cons.1 hg with rfl | hg
      · omega
      · exact h2 g hg
theorem known_s (k : Know) : ∃ b, law00_Known_s k = some b ∧ (b = 0 ∨ (b = 1 ∧ KB k 60)) := by
  unfold law00_Known_s
  rw [br_if]
  by_cases hf : ltI 30 (k.l.length : Int) = true
  · exact ⟨0, by rw [if_pos hf], .inl rfl⟩
  · rw [if_neg hf]
    rw [ltI_t] at hf
    obtain ⟨b, hb, h⟩ := known_l k.l
    exact ⟨b, by rw [chk_t (smallL_of (by omega)), hb], h.imp id fun ⟨h1, h2⟩ => ⟨h1, ⟨by omega, h2⟩⟩⟩
structure Sit.Ok (s : Sit) : Prop where
  f : s.f.Ok
  store : ∀ i ∈ s.store, i.Ok
  out : ∀ i ∈ s.out, i.Ok
  ids : IdsOk s.k
def Sit.st (s : Sit) : State := ⟨s.r, s.f, s.store, s.out, s.k, s.count, s.clock, s.epoch⟩
theorem KB.mono {k : Know} {n m : Nat} (h : KB k n) (hm : n ≤ m) : KB k m := ⟨Nat.le_trans h.l hm, fun f hf => Nat.le_trans (h.ids f hf) hm⟩
theorem fits_sit {s : Sit} (ok : s.Ok) : ∃ b, law00_Fits_s s = some b ∧ (b = 0 ∨ (b = 1 ∧ StOk s.st ∧ s.f.size ≤ 60 ∧ s.store.length ≤ 60 ∧ s.out.length ≤ 60 ∧ KB s.k 60)) := by
  unfold law00_Fits_s
  rw [br_if, br_if]
  by_cases h1 : ltI 60 (s.store.length : Int) = true
  · exact ⟨0, by rw [if_pos h1], .inl rfl⟩
  · rw [if_neg h1]
    by_cases h2 : ltI 60 (s.out.length : Int) = true
    · exact ⟨0, by rw [if_pos h2], .inl rfl⟩
    · rw [if_neg h2]
      rw [ltI_t] at h1 h2
      obtain ⟨b, hb, hk⟩ := known_s s.k
      by_cases h3 : s.f.size ≤ 60
      · rw [bnd_of (lsmall_t ok.f h3), bnd_of hb]
        rcases hk with rfl | ⟨rfl, hk⟩
        · exact ⟨_, rfl, .inl rfl⟩
        · exact ⟨_, rfl, .inr ⟨rfl, ⟨ok.f, by show s.f.size ≤ 1000; omega, ok.store, ok.out, by show s.store.length ≤ 990; omega, by show s.out.length ≤ 990; omega, hk.mono (by decide), ok.ids⟩, h3, by omega, by omega, hk⟩⟩
      · rw [bnd_of (lsmall_f ok.f h3), bnd_of hb]
        exact ⟨_, rfl, .inl (by rw [Int.zero_mul]; rfl)⟩
theorem state_s {s : Sit} (ok : s.Ok) (h : StOk s.st) : law00_State_s s = some s.st := by
  have h1 := h.fs
  have h2 := h.sl
  have h3 := h.ol
  unfold law00_State_s
  rw [bnd_of (lpred_s ok.f h1), bnd_of (items_s (l := s.store) (by show s.st.store.length ≤ _; omega)), bnd_of (items_s (l := s.out) (by show s.st.out.length ≤ _; omega))]; rfl
theorem up11 : law11_up_s = some true := by
  unfold law11_up_s
  have hk : KB ⟨⟨0, 0, 0, 0, 0, 0, 0, 0⟩, []⟩ 990 := ⟨Nat.zero_le _, fun f hf => by cases hf⟩
  have hs : (bare 1 []).size ≤ 1000 := by rw [mk_size, sizes_nil]; decide
  rw [bnd_of (ask_s (x := ⟨1, bare 1 [], [], [], ⟨⟨0, 0, 0, 0, 0, 0, 0, 0⟩, []⟩, 0, 0, 0⟩) (w := 2) (sid := 7) hs (by simp) hk)]
  rfl
theorem askOpens_s {s : Sit} {w sid : Int} (ok : s.Ok) : law11_AskOpens_s s w sid = some true := by
  unfold law11_AskOpens_s
  obtain ⟨b, hb, h⟩ := fits_sit ok
  rw [bnd_of up11, bnd_of hb]
  rcases h with rfl | ⟨rfl, hst, h3, h4, h5, h6⟩
  · rfl
  · rw [br_f (by rfl), bnd_of (state_s ok hst)]
    obtain ⟨may, hm, hmay⟩ := may9_s hst
    rw [bnd_of hm]
    cases may with
    | false => rfl
    | true =>
      obtain ⟨m1, m2, m3, m4⟩ := hmay rfl
      have hf := (mayP_iff.1 m1).2.2
      rw [br_f (by rfl), bnd_of (ask_s hst.fs hst.sl hst.k), bnd_of (rask_s hst.sl), bnd_of (show law11_Sess_s (sess0 s.st w sid) = some (sess0 s.st w sid) from rfl), bnd_of (sameSess0 ..)]
      have e : ref11_SameMsg_s (ask0 s.st w sid) (ask0 s.st w sid) = some true := sameMsg_s hst.f (sameP_refl hf) hst.k rfl (by show (s.st.store.map hasOf).length ≤ _; rw [List.length_map]; have := hst.sl; omega)
      rw [bnd_of e]; rfl
end
end Go.Proofs.Ytijkfjahgijphaa
