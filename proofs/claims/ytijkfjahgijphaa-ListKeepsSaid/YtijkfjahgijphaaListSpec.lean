/- Lists of items that rise (layer 8): what the program's functions and the document's do to them. -/
import Derived.Test.YtijkfjahgijphaaListSpec0
import Derived.Test.YtijkfjahgijphaaG2
import Derived.Test.YtijkfjahgijphaaStrs
set_option linter.unusedVariables false
set_option linter.unusedSimpArgs false
set_option maxRecDepth 100000
namespace Go.Proofs.Ytijkfjahgijphaa
open Go E Pred
noncomputable section
open Classical
def lk (l : List Item) (id : ByteArray) : Option Item := l.find? fun x => eqS x.id id
theorem lk_cons (x : Item) (l : List Item) (id : ByteArray) : lk (x :: l) id = if eqS x.id id = true then some x else lk l id := by
  unfold lk; rw [List.find?_cons]; cases eqS x.id id <;> simp
theorem lk_some {l : List Item} {id : ByteArray} {x : Item} (h : lk l id = some x) : x ∈ l ∧ x.id = id := ⟨List.mem_of_find?_eq_some h, eqS_t.1 (List.find?_some (p := fun y : Item => eqS y.id id) h)⟩
theorem lk_none {l : List Item} {id : ByteArray} : lk l id = none ↔ ∀ x ∈ l, eqS x.id id = false := by
  unfold lk; rw [List.find?_eq_none]
  exact ⟨fun h x hx => by simpa using h x hx, fun h x hx => by simpa using h x hx⟩
theorem lk_app (l m : List Item) (id : ByteArray) : lk (l ++ m) id = (lk l id).or (lk m id) := List.find?_append
theorem ris_cons {x : Item} {l : List Item} : Ris (x :: l) ↔ (∀ y ∈ l, ltS x.id y.id = true) ∧ Ris l := List.pairwise_cons
theorem lk_lt {l : List Item} {id : ByteArray} (h : ∀ x ∈ l, ltS x.id id = true) : lk l id = none := lk_none.2 fun x hx => ltS_ne (h x hx)
theorem lk_gt {l : List Item} {id : ByteArray} (h : ∀ x ∈ l, ltS id x.id = true) : lk l id = none := lk_none.2 fun x hx => by rw [eqS_comm']; exact ltS_ne (h x hx)
theorem lk_mem : ∀ {l : List Item} {x : Item}, Ris l → x ∈ l → lk l x.id = some x
  | y :: l, x, h, hx => by
    rw [ris_cons] at h
    rw [lk_cons]
    rcases List.mem_cons.1 hx with rfl | hx
    · rw [if_pos (eqS_self _)]
    · rw [if_neg (by rw [ltS_ne (h.1 x hx)]; simp)]; exact lk_mem h.2 hx
theorem ris_ext : ∀ {l m : List Item}, Ris l → Ris m → (∀ id, lk l id = lk m id) → l = m
  | [], [], _, _, _ => rfl
  | [], y :: m, _, _, h => by have := h y.id; rw [lk_cons, if_pos (eqS_self _)] at this; cases this
  | x :: l, [], _, _, h => by have := h x.id; rw [lk_cons, if_pos (eqS_self _)] at this; cases this
  | x :: l, y :: m, hl, hm, h => by
    have hx : x ∈ y :: m := (lk_some ((h x.id).symm.trans (lk_mem hl (List.mem_cons_self ..)))).1
    have hy : y ∈ x :: l := (lk_some ((h y.id).trans (lk_mem hm (List.mem_cons_self ..)))).1
    rw [ris_cons] at hl hm
    have e : x = y := by
      rcases List.mem_cons.1 hx with e | hx
      · exact e
      · rcases List.mem_cons.1 hy with e | hy
        · exact e.symm
        · have := ltS_asym (hl.1 y hy); rw [hm.1 x hx] at this; cases this
    subst e
    rw [ris_ext hl.2 hm.2 fun id => ?_]
    have := h id
    rw [lk_cons, lk_cons] at this
    by_cases hi : eqS x.id id = true
    · have hi' := eqS_t.1 hi
      subst hi'
      rw [lk_gt hl.1, lk_gt hm.1]
    · rw [if_neg hi, if_neg hi] at this; exact this
theorem getI_lk (id : ByteArray) : ∀ l : List Item, getI id l = match lk l id with
    | some x => (x, true)
    | none => (item0', false)
  | [] => rfl
  | x :: l => by
    rw [getI, lk_cons]
    split
    · rfl
    · exact getI_lk id l
theorem getI_t {l : List Item} {id : ByteArray} {x : Item} (h : lk l id = some x) : getI id l = (x, true) := by rw [getI_lk, h]
theorem getI_f {l : List Item} {id : ByteArray} (h : lk l id = none) : getI id l = (item0', false) := by rw [getI_lk, h]
/-! rises, as the code tells it -/
theorem risesG_iff : ∀ (l : List Item) (p : Item), risesG p l = true ↔ Ris (p :: l)
  | [], p => ⟨fun _ => ris_cons.2 ⟨fun y hy => (by cases hy), List.Pairwise.nil⟩, fun _ => rfl⟩
  | x :: l, p => by
    rw [risesG, Bool.and_eq_true, risesG_iff l x, ris_cons (x := p), ris_cons (x := x)]
    constructor
    · rintro ⟨h1, h2, h3⟩
      have hp : ltS p.id x.id = true := by
        cases h : ltS p.id x.id with
        | true => rfl
        | false =>
          cases h' : ltS x.id p.id with
          | true => rw [h'] at h1; cases h1
          | false => rw [h', ltS_tri h' h, eqS_self] at h1; cases h1
      exact ⟨fun y hy => by
        rcases List.mem_cons.1 hy with rfl | hy
        · exact hp
        · exact ltS_tr hp (h2 y hy), h2, h3⟩
    · rintro ⟨h1, h2, h3⟩
      have hp := h1 x (List.mem_cons_self ..)
      refine ⟨?_, h2, h3⟩
      rw [ltS_asym hp, eqS_comm', ltS_ne hp]; rfl
theorem ris_iff {l : List Item} : risesB l = true ↔ Ris l := by
  cases l with
  | nil => exact ⟨fun _ => .nil, fun _ => rfl⟩
  | cons x l => exact risesG_iff l x
/-! the program's search -/
theorem mid_of {i j : Nat} (h : i + j ≤ 4000000) : wr .i64 (shrI .u64 (wr .u64 (wr .i64 ((i : Int) + (j : Int)))) 1) = (((i + j) / 2 : Nat) : Int) := by
  have h1 : wr .i64 ((i : Int) + (j : Int)) = ((i + j : Nat) : Int) := by rw [wr64 (by omega) (by omega)]; omega
  have h2 : wr .u64 ((i + j : Nat) : Int) = ((i + j : Nat) : Int) := by
    unfold wr IntKind.wrap
    simp only [IntKind.signed, IntKind.bits]
    simp
    omega
  have h3 : shrI .u64 ((i + j : Nat) : Int) 1 = (((i + j) / 2 : Nat) : Int) := by
    unfold shrI
    rw [Int.fdiv_eq_ediv_of_nonneg _ (by decide)]
    simp [IntKind.bits]
  rw [h1, h2, h3, wr64 (by omega) (by omega)]
theorem br_same {α : Type} (c : Bool) (x : Option α) : br c x x = x := by cases c <;> rfl
theorem ris_get {l : List Item} (hr : Ris l) {i j : Nat} {x y : Item} (hx : l[i]? = some x) (hy : l[j]? = some y) (h : i < j) : ltS x.id y.id = true := by
  obtain ⟨hi, rfl⟩ := List.getElem?_eq_some_iff.1 hx
  obtain ⟨hj, rfl⟩ := List.getElem?_eq_some_iff.1 hy
  exact List.pairwise_iff_getElem.1 hr i j hi hj h
theorem find_l {l : List Item} {id : ByteArray} (hr : Ris l) (hn : l.length ≤ 999990) : ∀ (fl i j : Nat), i ≤ j → j ≤ l.length → j - i < fl → (∀ k x, l[k]? = some x → k < i → ltS x.id id = true) → (∀ k x, l[k]? = some x → j ≤ k → ltS x.id id = false) →
    ∃ p, p ≤ l.length ∧ list_find_l1 l id fl (j : Int) (i : Int) = some ((p : Int), match l[p]? with | some x => eqS x.id id | none => false) ∧ (∀ k x, l[k]? = some x → k < p → ltS x.id id = true) ∧ (∀ k x, l[k]? = some x → p ≤ k → ltS x.id id = false)
  | 0, i, j, _, _, h, _, _ => by omega
  | fl + 1, i, j, hij, hj, hf, h1, h2 => by
    rw [list_find_l1]
    by_cases hlt : i < j
    · have hm : (i + j) / 2 < l.length := by omega
      rw [br_t (by rw [ltI_t]; omega), mid_of (by omega), bnd_of (atL_of hm), br_f (by rw [eqS_self]; rfl), br_f (by rw [eqS_self]; rfl)]
      have hx : l[(i + j) / 2]? = some l[(i + j) / 2] := List.getElem?_eq_getElem hm
      cases hc : ltS l[(i + j) / 2].id id with
      | true =>
        rw [br_t rfl, wrS (by omega)]
        refine find_l hr hn fl ((i + j) / 2 + 1) j (by omega) hj (by omega) (fun k x hk hki => ?_) h2
        by_cases hkm : k = (i + j) / 2
        · subst hkm; rw [hx] at hk; injection hk with hk; rw [← hk]; exact hc
        · exact ltS_tr (ris_get hr hk hx (by omega)) hc
      | false =>
        rw [br_f rfl, br_same]
        refine find_l hr hn fl i ((i + j) / 2) (by omega) (by omega) (by omega) h1 (fun k x hk hki => ?_)
        by_cases hkm : k = (i + j) / 2
        · subst hkm; rw [hx] at hk; injection hk with hk; rw [← hk]; exact hc
        · cases h : ltS x.id id with
          | false => rfl
          | true => have := ltS_tr (ris_get hr hx hk (by omega)) h; rw [hc] at this; cases this
    · obtain rfl : i = j := by omega
      refine ⟨i, hj, ?_, h1, h2⟩
      rw [br_f (by rw [ltI_f]; omega)]
      by_cases hil : i < l.length
      · have hx : l[i]? = some l[i] := List.getElem?_eq_getElem hil
        rw [br_t (by rw [ltI_t]; omega), bnd_of (atL_of hil), br_f (by rw [eqS_self]; rfl), br_f (by rw [eqS_self]; rfl), br_f (h2 i _ hx (Nat.le_refl _)), h2 i _ hx (Nat.le_refl _), hx]
        dsimp only
        cases eqS l[i].id id <;> rfl
      · rw [br_f (by rw [ltI_f]; omega), List.getElem?_eq_none (by omega)]
theorem find_s {l : List Item} {id : ByteArray} (hr : Ris l) (hn : l.length ≤ 999990) : ∃ A B : List Item, l = A ++ B ∧ (∀ x ∈ A, ltS x.id id = true) ∧ (∀ x ∈ B, ltS x.id id = false) ∧ list_find_s l id = some ((A.length : Int), (lk l id).isSome) := by
  obtain ⟨p, hp, e, h1, h2⟩ := find_l hr hn fuelN 0 l.length (Nat.zero_le _) (Nat.le_refl _) (by unfold fuelN; omega) (fun k x _ h => by omega) (fun k x hk h => by rw [List.getElem?_eq_none h] at hk; cases hk) (id := id)
  have hA : ∀ x ∈ l.take p, ltS x.id id = true := fun x hx => by
    obtain ⟨k, hk⟩ := List.getElem?_of_mem hx
    rw [List.getElem?_take] at hk
    split at hk
    · exact h1 k x hk (by omega)
    · cases hk
  have hB : ∀ x ∈ l.drop p, ltS x.id id = false := fun x hx => by
    obtain ⟨k, hk⟩ := List.getElem?_of_mem hx
    rw [List.getElem?_drop] at hk
    exact h2 _ x hk (by omega)
  refine ⟨l.take p, l.drop p, (List.take_append_drop p l).symm, hA, hB, ?_⟩
  unfold list_find_s
  rw [show ((0 : Nat) : Int) = 0 from rfl] at e
  rw [e, List.length_take, Nat.min_eq_left hp]
  congr 2
  have hl : lk l id = lk (l.drop p) id := by
    conv => lhs; rw [← List.take_append_drop p l, lk_app, lk_lt hA]
    rfl
  rw [hl]
  cases hd : l.drop p with
  | nil =>
    have : l[p]? = none := by have := List.getElem?_drop (xs := l) (i := p) (j := 0); rw [hd] at this; simpa using this.symm
    rw [this]; rfl
  | cons x B =>
    have hx : l[p]? = some x := by have := List.getElem?_drop (xs := l) (i := p) (j := 0); rw [hd] at this; simpa using this.symm
    have hr' : Ris (x :: B) := by rw [← hd]; exact hr.sublist (List.drop_sublist _ _)
    rw [hx, lk_cons]
    dsimp only
    cases hc : eqS x.id id with
    | true => simp
    | false =>
      have hgt : ∀ y ∈ B, ltS id y.id = true := fun y hy => by
        have h3 := (ris_cons.1 hr').1 y hy
        have h4 := hB x (by rw [hd]; exact List.mem_cons_self ..)
        exact le_ltS_tr h4 h3
      rw [if_neg (by simp), lk_gt hgt]; rfl
/-- what stands behind the place -/
theorem find_head {l A B : List Item} {id : ByteArray} (hr : Ris l) (e : l = A ++ B) (hA : ∀ x ∈ A, ltS x.id id = true) (hB : ∀ x ∈ B, ltS x.id id = false) :
    (lk l id = none ∧ ∀ x ∈ B, ltS id x.id = true) ∨ ∃ x B', B = x :: B' ∧ x.id = id ∧ lk l id = some x ∧ ∀ y ∈ B', ltS id y.id = true := by
  have hl : lk l id = lk B id := by rw [e, lk_app, lk_lt hA]; rfl
  cases B with
  | nil => exact .inl ⟨by rw [hl]; rfl, fun x hx => by cases hx⟩
  | cons x B =>
    have hr' : Ris (x :: B) := by rw [e] at hr; exact hr.sublist (List.sublist_append_right _ _)
    have hx := hB x (List.mem_cons_self ..)
    have hgt : ∀ y ∈ B, ltS id y.id = true := fun y hy => le_ltS_tr hx ((ris_cons.1 hr').1 y hy)
    cases hc : ltS id x.id with
    | true =>
      refine .inl ⟨?_, fun y hy => ?_⟩
      · rw [hl, lk_gt]
        intro y hy
        rcases List.mem_cons.1 hy with rfl | hy
        · exact hc
        · exact hgt y hy
      · rcases List.mem_cons.1 hy with rfl | hy
        · exact hc
        · exact hgt y hy
    | false =>
      have e' := ltS_tri hx hc
      exact .inr ⟨x, B, rfl, e', by rw [hl, lk_cons, if_pos (eqS_t.2 e')], hgt⟩
theorem lget_s {l : List Item} {id : ByteArray} (hr : Ris l) (hn : l.length ≤ 999990) : list_Get_s l id = some (getI id l) := by
  obtain ⟨A, B, e, hA, hB, hf⟩ := find_s (id := id) hr hn
  unfold list_Get_s
  rw [bnd_of hf]
  rcases find_head hr e hA hB with ⟨hl, _⟩ | ⟨x, B', rfl, hx, hl, _⟩
  · rw [br_f (by rw [hl]; rfl), getI_f hl]; rfl
  · rw [br_t (by rw [hl]; rfl), bnd_of (show atL l (A.length : Int) = some x by rw [e]; exact at_app A x B'), getI_t hl]
/-! with an item, without an Id -/
def putV (l : List Item) (x : Item) : List Item := (l.filter fun y => ltS y.id x.id) ++ x :: l.filter fun y => ltS x.id y.id
def dropV (l : List Item) (id : ByteArray) : List Item := l.filter fun y => !eqS y.id id
theorem lk_filter_t {l : List Item} {p : Item → Bool} {id : ByteArray} (h : ∀ x, x.id = id → p x = true) : lk (l.filter p) id = lk l id := by
  induction l with
  | nil => rfl
  | cons x l ih =>
    rw [List.filter_cons]
    by_cases hx : eqS x.id id = true
    · rw [if_pos (h x (eqS_t.1 hx)), lk_cons, lk_cons, if_pos hx, if_pos hx]
    · split
      · rw [lk_cons, lk_cons, if_neg hx, if_neg hx, ih]
      · rw [lk_cons, if_neg hx, ih]
theorem lk_filter_f {l : List Item} {p : Item → Bool} {id : ByteArray} (h : ∀ x, x.id = id → p x = false) : lk (l.filter p) id = none :=
  lk_none.2 fun x hx => eqS_f.2 fun e => by have := (List.mem_filter.1 hx).2; rw [h x e] at this; cases this
theorem lk_put (l : List Item) (x : Item) (id : ByteArray) : lk (putV l x) id = if eqS x.id id = true then some x else lk l id := by
  unfold putV
  rw [lk_app, lk_cons]
  by_cases hx : eqS x.id id = true
  · rw [if_pos hx, if_pos hx, lk_filter_f fun y hy => by rw [hy, ← eqS_t.1 hx]; exact ltS_self _]; rfl
  · rw [if_neg hx, if_neg hx]
    cases h1 : ltS id x.id with
    | true => rw [lk_filter_t fun y hy => by rw [hy]; exact h1, lk_filter_f fun y hy => by rw [hy]; exact ltS_asym h1]; cases lk l id <;> rfl
    | false =>
      rw [lk_filter_f fun y hy => by rw [hy]; exact h1]
      cases h2 : ltS x.id id with
      | true => rw [lk_filter_t fun y hy => by rw [hy]; exact h2]; rfl
      | false => exact absurd (eqS_t.2 (ltS_tri h2 h1)) hx
theorem lk_drop (l : List Item) (d id : ByteArray) : lk (dropV l d) id = if eqS d id = true then none else lk l id := by
  unfold dropV
  by_cases hx : eqS d id = true
  · rw [if_pos hx, lk_filter_f fun y hy => by rw [hy, eqS_comm', hx]; rfl]
  · rw [if_neg hx, lk_filter_t fun y hy => by rw [hy, eqS_comm']; simp at hx; rw [hx]; rfl]
theorem ris_put {l : List Item} (hr : Ris l) (x : Item) : Ris (putV l x) := by
  unfold putV Ris
  rw [List.pairwise_append, List.pairwise_cons]
  refine ⟨hr.filter _, ⟨fun y hy => (List.mem_filter.1 hy).2, hr.filter _⟩, fun a ha b hb => ?_⟩
  have h1 := (List.mem_filter.1 ha).2
  rcases List.mem_cons.1 hb with rfl | hb
  · exact h1
  · exact ltS_tr h1 (List.mem_filter.1 hb).2
theorem ris_drop {l : List Item} (hr : Ris l) (id : ByteArray) : Ris (dropV l id) := hr.filter _
theorem rput_l2 {x : Item} : ∀ (l acc : List Item), acc.length + l.length ≤ 999990 → ref06_Put_l2 x l acc = some (acc ++ l.filter fun y => ltS x.id y.id)
  | [], acc, _ => by rw [ref06_Put_l2]; simp
  | y :: l, acc, h => by
    rw [List.length_cons] at h
    have e : (!(ltS y.id x.id || eqS y.id x.id)) = ltS x.id y.id := by
      cases h1 : ltS x.id y.id with
      | true => rw [ltS_asym h1, eqS_comm', ltS_ne h1]; rfl
      | false =>
        cases h2 : ltS y.id x.id with
        | true => rfl
        | false => rw [ltS_tri h2 h1, eqS_self]; rfl
    rw [ref06_Put_l2, e, List.filter_cons]
    cases ltS x.id y.id with
    | true => rw [br_t rfl, chk_t (roomL_of (by omega)), rput_l2 l _ (by rw [List.length_append]; simp; omega)]; simp
    | false => rw [br_f rfl, rput_l2 l _ (by omega)]; simp
theorem rput_l1 {L : List Item} {x : Item} (hL : L.length ≤ 400000) : ∀ (l acc : List Item), acc.length + l.length ≤ 400000 → ref06_Put_l1 L x l acc = some (acc ++ (l.filter fun y => ltS y.id x.id) ++ x :: L.filter fun y => ltS x.id y.id)
  | [], acc, h => by
    rw [List.length_nil] at h
    rw [ref06_Put_l1, chk_t (roomL_of (by omega)), chk_t (smallL_of (by omega)), rput_l2 L _ (by rw [List.length_append]; simp; omega)]; simp
  | y :: l, acc, h => by
    rw [List.length_cons] at h
    rw [ref06_Put_l1, List.filter_cons]
    cases ltS y.id x.id with
    | true => rw [br_t rfl, chk_t (roomL_of (by omega)), rput_l1 hL l _ (by rw [List.length_append]; simp; omega)]; simp
    | false => rw [br_f rfl, rput_l1 hL l _ (by omega)]; simp
theorem rput_s {l : List Item} {x : Item} (h : l.length ≤ 400000) : ref06_Put_s l x = some (putV l x) := by
  unfold ref06_Put_s; rw [chk_t (smallL_of (by omega)), rput_l1 h l [] (by simpa using h)]; rfl
theorem rdrop_l {id : ByteArray} : ∀ (l acc : List Item), acc.length + l.length ≤ 999990 → ref06_Drop_l1 id l acc = some (acc ++ dropV l id)
  | [], acc, _ => by rw [ref06_Drop_l1]; simp [dropV]
  | y :: l, acc, h => by
    rw [List.length_cons] at h
    rw [ref06_Drop_l1]
    unfold dropV
    rw [List.filter_cons]
    cases eqS y.id id with
    | false => rw [br_t (by rfl), chk_t (roomL_of (by omega)), rdrop_l l _ (by rw [List.length_append]; simp; omega)]; simp [dropV]
    | true => rw [br_f (by rfl), rdrop_l l _ (by omega)]; simp [dropV]
theorem rdrop_s {l : List Item} {id : ByteArray} (h : l.length ≤ 999990) : ref06_Drop_s l id = some (dropV l id) := by
  unfold ref06_Drop_s; rw [chk_t (smallL_of (by omega)), rdrop_l l [] (by simpa using h)]; rfl
theorem lput_s {l : List Item} {x : Item} (hr : Ris l) (hn : l.length ≤ 999990) : list_Put_s l x = some (putV l x) := by
  obtain ⟨A, B, e, hA, hB, hf⟩ := find_s (id := x.id) hr hn
  have hrA : Ris A := by rw [e] at hr; exact hr.sublist (List.sublist_append_left _ _)
  have hrB : Ris B := by rw [e] at hr; exact hr.sublist (List.sublist_append_right _ _)
  unfold list_Put_s
  rw [bnd_of hf, bnd_of (show clone_s l = some l by unfold clone_s; rw [chk_t (decide_eq_true (by omega))])]
  have key : ∀ {B' : List Item}, (∀ y ∈ B', ltS x.id y.id = true) → Ris B' → (∀ id, eqS x.id id = false → lk B' id = lk B id) → A ++ x :: B' = putV l x := fun {B'} h1 h2 h3 => by
    refine ris_ext ?_ (ris_put hr x) fun id => ?_
    · unfold Ris
      rw [List.pairwise_append, List.pairwise_cons]
      refine ⟨hrA, ⟨h1, h2⟩, fun a ha b hb => ?_⟩
      rcases List.mem_cons.1 hb with rfl | hb
      · exact hA a ha
      · exact ltS_tr (hA a ha) (h1 b hb)
    · rw [lk_put, lk_app, lk_cons]
      by_cases hx : eqS x.id id = true
      · rw [if_pos hx, if_pos hx, ← eqS_t.1 hx, lk_lt hA]; rfl
      · rw [if_neg hx, if_neg hx, h3 id (by simpa using hx), e, lk_app]
  rcases find_head hr e hA hB with ⟨hl, hgt⟩ | ⟨y, B', rfl, hy, hl, hgt⟩
  · rw [br_f (by rw [hl]; rfl)]
    have hi : ins_s l (A.length : Int) x = some (A ++ x :: B) := by
      unfold ins_s
      rw [chk_t (decide_eq_true ⟨by omega, by rw [e]; simp; omega, by omega⟩), Int.toNat_natCast, e, List.take_left, List.drop_left]
    rw [bnd_of hi, key hgt hrB fun _ _ => rfl]
  · rw [br_t (by rw [hl]; rfl), bnd_of (show atL l (A.length : Int) = some y by rw [e]; exact at_app A y B'), Int.toNat_natCast]
    have : l.set A.length x = A ++ x :: B' := by rw [e]; exact set_app A y x B'
    rw [this, key hgt (ris_cons.1 hrB).2 fun id hid => by rw [lk_cons, if_neg (by rw [hy, hid]; simp)]]
theorem ldrop_s {l : List Item} {id : ByteArray} (hr : Ris l) (hn : l.length ≤ 999990) : list_Drop_s l id = some (dropV l id) := by
  obtain ⟨A, B, e, hA, hB, hf⟩ := find_s (id := id) hr hn
  have hrA : Ris A := by rw [e] at hr; exact hr.sublist (List.sublist_append_left _ _)
  unfold list_Drop_s
  rw [bnd_of (show clone_s l = some l by unfold clone_s; rw [chk_t (decide_eq_true (by omega))]), bnd_of hf]
  rcases find_head hr e hA hB with ⟨hl, hgt⟩ | ⟨y, B', rfl, hy, hl, hgt⟩
  · rw [br_f (by rw [hl]; rfl)]
    congr 1
    unfold dropV
    rw [List.filter_eq_self.2]
    intro y hy
    rw [lk_none.1 hl y hy]; rfl
  · rw [br_t (by rw [hl]; rfl)]
    have hi : del_s l (A.length : Int) = some (A ++ B') := by
      unfold del_s
      rw [chk_t (decide_eq_true ⟨by omega, by rw [e]; simp; omega, by omega⟩), Int.toNat_natCast, e, List.take_left]
      congr 2
      rw [← List.drop_drop, List.drop_left]; rfl
    rw [bnd_of hi]
    congr 1
    refine ris_ext ?_ (ris_drop hr id) fun id' => ?_
    · rw [e] at hr
      exact hr.sublist (List.Sublist.append_left (List.sublist_cons_self _ _) _)
    · rw [lk_drop, lk_app]
      by_cases hx : eqS id id' = true
      · rw [if_pos hx, ← eqS_t.1 hx, lk_lt hA, lk_gt hgt]; rfl
      · rw [if_neg hx, e, lk_app, lk_cons, if_neg (by rw [hy]; exact hx)]
end
end Go.Proofs.Ytijkfjahgijphaa
