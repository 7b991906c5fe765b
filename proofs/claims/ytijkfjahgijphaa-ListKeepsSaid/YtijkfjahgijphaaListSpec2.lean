/- Lists of items that rise (layer 8): all of both; whether items may be a list. -/
import Derived.Test.YtijkfjahgijphaaListSpec
set_option linter.unusedVariables false
set_option linter.unusedSimpArgs false
set_option maxRecDepth 100000
namespace Go.Proofs.Ytijkfjahgijphaa
open Go E Pred
noncomputable section
open Classical
/-- the one of two that comes behind -/
def newer : Option Item → Option Item → Option Item
  | none, p => p
  | some x, none => some x
  | some x, some y => if behindB y x = true then some y else some x
theorem newer_none (o : Option Item) : newer o none = o := by cases o <;> rfl
def mergeF : Nat → List Item → List Item → List Item
  | 0, _, _ => []
  | _ + 1, [], b => b
  | _ + 1, x :: a, [] => x :: a
  | n + 1, x :: a, y :: b => if ltS x.id y.id = true then x :: mergeF n a (y :: b) else if ltS y.id x.id = true then y :: mergeF n (x :: a) b else if behindB y x = true then mergeF n a (y :: b) else mergeF n (x :: a) b
def bothV (a b : List Item) : List Item := mergeF (a.length + b.length + 1) a b
theorem cmp_pos (a b : Item) : ltI 0 (compareV a b) = behindB a b := by
  unfold compareV
  cases behindB a b with
  | true => rfl
  | false =>
    cases behindB b a <;> rfl
theorem both_l : ∀ (n fl : Nat) (a out b : List Item), a.length + b.length < n → n ≤ fl → out.length + a.length + b.length ≤ 999990 → list_Both_l1 fl a out b = some (out ++ mergeF n a b)
  | 0, _, _, _, _, h, _, _ => by omega
  | n + 1, 0, _, _, _, _, h, _ => by omega
  | n + 1, fl + 1, [], out, b, h, hf, hl => by
    rw [list_Both_l1, br_f (by rfl), chk_t (roomL_of (by simpa using by simp at hl; omega)), chk_t (roomL_of (by simp at hl ⊢; omega)), mergeF]; simp
  | n + 1, fl + 1, x :: a, out, [], h, hf, hl => by
    rw [list_Both_l1, br_t (by rw [ltI_t, List.length_cons]; omega), br_f (by rfl), chk_t (roomL_of (by simp at hl ⊢; omega)), chk_t (roomL_of (by simp at hl ⊢; omega)), mergeF]; simp
  | n + 1, fl + 1, x :: a, out, y :: b, h, hf, hl => by
    have l1 : leI 1 ((x :: a).length : Int) = true := by rw [leI_t, List.length_cons]; omega
    have l2 : leI 1 ((y :: b).length : Int) = true := by rw [leI_t, List.length_cons]; omega
    have i1 := fun o => both_l n fl a o (y :: b) (by simp at h ⊢; omega) (by omega)
    have i2 := fun o => both_l n fl (x :: a) o b (by simp at h ⊢; omega) (by omega)
    rw [list_Both_l1, br_t (by rw [ltI_t, List.length_cons]; omega), br_t (by rw [ltI_t, List.length_cons]; omega), bnd_of (show atL (x :: a) 0 = some x from rfl), bnd_of (show atL (y :: b) 0 = some y from rfl), mergeF]
    cases h1 : ltS x.id y.id with
    | true =>
      rw [br_t rfl, chk_t (roomL_of (by simp at hl; omega)), chk_t l1, if_pos rfl]
      rw [show (x :: a).drop 1 = a from rfl, i1 _ (by simp at hl ⊢; omega)]; simp
    | false =>
      rw [br_f rfl, if_neg (by simp)]
      cases h2 : ltS y.id x.id with
      | true =>
        have : (!(false || eqS x.id y.id)) = true := by rw [eqS_comm', ltS_ne h2]; rfl
        rw [br_t this, chk_t (roomL_of (by simp at hl; omega)), chk_t l2, if_pos rfl]
        rw [show (y :: b).drop 1 = b from rfl, i2 _ (by simp at hl ⊢; omega)]; simp
      | false =>
        have : (!(false || eqS x.id y.id)) = false := by rw [eqS_t.2 (ltS_tri h1 h2)]; rfl
        rw [br_f this, if_neg (by simp), bnd_of (show item_Compare_s y x = some (compareV y x) from rfl), cmp_pos]
        cases behindB y x with
        | true => rw [br_t rfl, chk_t l1, if_pos rfl]; exact i1 _ (by simp at hl ⊢; omega)
        | false => rw [br_f rfl, chk_t l2, if_neg (by simp)]; exact i2 _ (by simp at hl ⊢; omega)
theorem lboth_s {a b : List Item} (h : a.length + b.length ≤ 999980) : list_Both_s a b = some (bothV a b) := by
  unfold list_Both_s bothV
  rw [both_l (a.length + b.length + 1) fuelN a [] b (by omega) (by unfold fuelN; omega) (by simp; omega)]; rfl
theorem mem_merge : ∀ (n : Nat) (a b : List Item) (z : Item), z ∈ mergeF n a b → z ∈ a ∨ z ∈ b
  | 0, _, _, _, h => by rw [mergeF] at h; cases h
  | n + 1, [], b, z, h => by rw [mergeF] at h; exact .inr h
  | n + 1, x :: a, [], z, h => by rw [mergeF] at h; exact .inl h
  | n + 1, x :: a, y :: b, z, h => by
    rw [mergeF] at h
    split at h
    · rcases List.mem_cons.1 h with rfl | h
      · exact .inl (List.mem_cons_self ..)
      · exact (mem_merge n a (y :: b) z h).imp (List.mem_cons_of_mem _) id
    · split at h
      · rcases List.mem_cons.1 h with rfl | h
        · exact .inr (List.mem_cons_self ..)
        · exact (mem_merge n (x :: a) b z h).imp id (List.mem_cons_of_mem _)
      · split at h
        · exact (mem_merge n a (y :: b) z h).imp (List.mem_cons_of_mem _) id
        · exact (mem_merge n (x :: a) b z h).imp id (List.mem_cons_of_mem _)
theorem len_merge : ∀ (n : Nat) (a b : List Item), (mergeF n a b).length ≤ a.length + b.length
  | 0, _, _ => by rw [mergeF]; simp
  | n + 1, [], b => by rw [mergeF]; simp
  | n + 1, x :: a, [] => by rw [mergeF]; simp
  | n + 1, x :: a, y :: b => by
    have h1 := len_merge n a (y :: b)
    have h2 := len_merge n (x :: a) b
    rw [mergeF]
    simp only [List.length_cons] at *
    split
    · simp; omega
    · split
      · simp; omega
      · split <;> omega
theorem ris_merge : ∀ (n : Nat) {a b : List Item}, Ris a → Ris b → Ris (mergeF n a b)
  | 0, _, _, _, _ => by rw [mergeF]; exact .nil
  | n + 1, [], b, _, hb => by rw [mergeF]; exact hb
  | n + 1, x :: a, [], ha, _ => by rw [mergeF]; exact ha
  | n + 1, x :: a, y :: b, ha, hb => by
    have ha' := ris_cons.1 ha
    have hb' := ris_cons.1 hb
    rw [mergeF]
    split
    · rename_i h1
      refine ris_cons.2 ⟨fun z hz => ?_, ris_merge n ha'.2 hb⟩
      rcases mem_merge n _ _ z hz with hz | hz
      · exact ha'.1 z hz
      · rcases List.mem_cons.1 hz with rfl | hz
        · exact h1
        · exact ltS_tr h1 (hb'.1 z hz)
    · split
      · rename_i h2
        refine ris_cons.2 ⟨fun z hz => ?_, ris_merge n ha hb'.2⟩
        rcases mem_merge n _ _ z hz with hz | hz
        · rcases List.mem_cons.1 hz with rfl | hz
          · exact h2
          · exact ltS_tr h2 (ha'.1 z hz)
        · exact hb'.1 z hz
      · split
        · exact ris_merge n ha'.2 hb
        · exact ris_merge n ha hb'.2
theorem lk_merge : ∀ (n : Nat) {a b : List Item} (id : ByteArray), a.length + b.length < n → Ris a → Ris b → lk (mergeF n a b) id = newer (lk a id) (lk b id)
  | 0, _, _, _, h, _, _ => by omega
  | n + 1, [], b, id, _, _, _ => by rw [mergeF]; rfl
  | n + 1, x :: a, [], id, _, _, _ => by rw [mergeF]; exact (newer_none _).symm
  | n + 1, x :: a, y :: b, id, h, ha, hb => by
    have ha' := ris_cons.1 ha
    have hb' := ris_cons.1 hb
    have i1 := lk_merge n id (a := a) (b := y :: b) (by simp at h ⊢; omega) ha'.2 hb
    have i2 := lk_merge n id (a := x :: a) (b := b) (by simp at h ⊢; omega) ha hb'.2
    rw [mergeF]
    by_cases h1 : ltS x.id y.id = true
    · rw [if_pos h1, lk_cons, lk_cons x a, i1]
      by_cases hx : eqS x.id id = true
      · have hn : lk (y :: b) id = none := lk_gt fun z hz => by
          rw [← eqS_t.1 hx]
          rcases List.mem_cons.1 hz with rfl | hz
          · exact h1
          · exact ltS_tr h1 (hb'.1 z hz)
        rw [if_pos hx, if_pos hx, hn]; rfl
      · rw [if_neg hx, if_neg hx]
    · rw [if_neg h1]
      by_cases h2 : ltS y.id x.id = true
      · rw [if_pos h2, lk_cons, lk_cons y b, i2]
        by_cases hy : eqS y.id id = true
        · have hn : lk (x :: a) id = none := lk_gt fun z hz => by
            rw [← eqS_t.1 hy]
            rcases List.mem_cons.1 hz with rfl | hz
            · exact h2
            · exact ltS_tr h2 (ha'.1 z hz)
          rw [if_pos hy, if_pos hy, hn]; rfl
        · rw [if_neg hy, if_neg hy]
      · rw [if_neg h2]
        simp only [Bool.not_eq_true] at h1 h2
        have e := ltS_tri h1 h2
        by_cases hx : eqS x.id id = true
        · have hy : eqS y.id id = true := by rw [← e]; exact hx
          have na : lk a id = none := lk_gt fun z hz => by rw [← eqS_t.1 hx]; exact ha'.1 z hz
          have nb : lk b id = none := lk_gt fun z hz => by rw [← eqS_t.1 hy]; exact hb'.1 z hz
          have ex : lk (x :: a) id = some x := by rw [lk_cons, if_pos hx]
          have ey : lk (y :: b) id = some y := by rw [lk_cons, if_pos hy]
          rw [na, ey] at i1
          rw [nb, ex] at i2
          rw [ex, ey]
          show _ = if behindB y x = true then some y else some x
          split
          · exact i1
          · exact i2
        · have hy : ¬ eqS y.id id = true := by rw [← e]; exact hx
          have ex : lk (x :: a) id = lk a id := by rw [lk_cons, if_neg hx]
          have ey : lk (y :: b) id = lk b id := by rw [lk_cons, if_neg hy]
          rw [ey] at i1
          rw [ex] at i2
          rw [ex, ey]
          split
          · exact i1
          · exact i2
theorem ris_both {a b : List Item} (ha : Ris a) (hb : Ris b) : Ris (bothV a b) := ris_merge _ ha hb
theorem lk_both {a b : List Item} (ha : Ris a) (hb : Ris b) (id : ByteArray) : lk (bothV a b) id = newer (lk a id) (lk b id) := lk_merge _ id (by omega) ha hb
theorem len_both (a b : List Item) : (bothV a b).length ≤ a.length + b.length := len_merge _ a b
/-! the document's -/
def stepB (acc : List Item) (y : Item) : List Item := match lk acc y.id with
  | none => putV acc y
  | some h => if behindB y h = true then putV acc y else acc
theorem len_put (l : List Item) (x : Item) : (putV l x).length ≤ 2 * l.length + 1 := by
  unfold putV
  have h1 := List.length_filter_le (fun y : Item => ltS y.id x.id) l
  have h2 := List.length_filter_le (fun y : Item => ltS x.id y.id) l
  rw [List.length_append, List.length_cons]; omega
theorem len_put1 {l : List Item} (hr : Ris l) (x : Item) : (putV l x).length ≤ l.length + 1 := by
  have h1 : ((l.filter fun y => ltS y.id x.id) ++ l.filter fun y => ltS x.id y.id).length ≤ l.length := by
    rw [List.length_append]
    induction l with
    | nil => simp
    | cons y l ih =>
      have := ih (ris_cons.1 hr).2
      rw [List.filter_cons, List.filter_cons]
      cases h : ltS y.id x.id with
      | true => rw [ltS_asym h]; simp; omega
      | false => cases ltS x.id y.id <;> simp <;> omega
  unfold putV
  rw [List.length_append] at h1 ⊢
  rw [List.length_cons]; omega
theorem ris_step {acc : List Item} (h : Ris acc) (y : Item) : Ris (stepB acc y) := by
  unfold stepB
  split
  · exact ris_put h y
  · split
    · exact ris_put h y
    · exact h
theorem len_step {acc : List Item} (h : Ris acc) (y : Item) : (stepB acc y).length ≤ acc.length + 1 := by
  unfold stepB
  split
  · exact len_put1 h y
  · split
    · exact len_put1 h y
    · omega
theorem lk_step (acc : List Item) (y : Item) (id : ByteArray) : lk (stepB acc y) id = newer (lk acc id) (if eqS y.id id = true then some y else none) := by
  unfold stepB
  by_cases hy : eqS y.id id = true
  · rw [if_pos hy, ← eqS_t.1 hy]
    cases h : lk acc y.id with
    | none => dsimp only; rw [lk_put, if_pos (eqS_self _)]; rfl
    | some x =>
      dsimp only
      show _ = if behindB y x = true then some y else some x
      split
      · rw [lk_put, if_pos (eqS_self _)]
      · exact h
  · rw [if_neg hy, newer_none]
    split
    · rw [lk_put, if_neg hy]
    · split
      · rw [lk_put, if_neg hy]
      · rfl
theorem ris_fold : ∀ (b acc : List Item), Ris acc → Ris (b.foldl stepB acc)
  | [], _, h => h
  | y :: b, acc, h => ris_fold b _ (ris_step h y)
theorem lk_fold (id : ByteArray) : ∀ (b acc : List Item), Ris b → lk (b.foldl stepB acc) id = newer (lk acc id) (lk b id)
  | [], acc, _ => (newer_none _).symm
  | y :: b, acc, h => by
    have h' := ris_cons.1 h
    rw [List.foldl_cons, lk_fold id b _ h'.2, lk_step, lk_cons]
    by_cases hy : eqS y.id id = true
    · rw [if_pos hy, if_pos hy, lk_gt (l := b) fun z hz => by rw [← eqS_t.1 hy]; exact h'.1 z hz, newer_none]
    · rw [if_neg hy, if_neg hy, newer_none]
theorem rboth_l : ∀ (b acc : List Item), Ris acc → acc.length + b.length ≤ 400000 → ref06_Both_l1 b acc = some (b.foldl stepB acc)
  | [], acc, _, _ => by rw [ref06_Both_l1]; rfl
  | y :: b, acc, hr, h => by
    rw [List.length_cons] at h
    have ih := rboth_l b (stepB acc y) (ris_step hr y) (by have := len_step hr y; omega)
    rw [ref06_Both_l1, bnd_of (get_s (by omega)), List.foldl_cons, ← ih]
    unfold stepB
    cases hk : lk acc y.id with
    | none => rw [getI_f hk, br_t (by rfl), bnd_of (rput_s (by omega))]
    | some x =>
      rw [getI_t hk, br_f (by rfl), bnd_of (show ref01_Behind_s y (x, true).1 = some (behindB y x) from rfl)]
      dsimp only
      cases behindB y x with
      | true => rw [br_t rfl, bnd_of (rput_s (by omega)), if_pos rfl]
      | false => rw [br_f rfl, if_neg (by simp)]
theorem rboth_s {a b : List Item} (ha : Ris a) (hb : Ris b) (h : a.length + b.length ≤ 400000) : ref06_Both_s a b = some (bothV a b) := by
  unfold ref06_Both_s
  rw [chk_t (roomL_of (by omega)), chk_t (smallL_of (by omega)), rboth_l b a ha h]
  congr 1
  exact ris_ext (ris_fold b a ha) (ris_both ha hb) fun id => by rw [lk_fold id b a hb, lk_both ha hb]
/-! whether items may be a list; two lists that are the same -/
theorem lmay_l {L : List Item} (hn : L.length ≤ 999990) : ∀ (xs : List Item) (p : Item) (pre : List Item), L = pre ++ p :: xs → (∀ x ∈ xs, x.Ok) → list_May_l1 L xs ((pre.length : Int) + 1) = some (xs.all mayI && risesG p xs)
  | [], p, pre, _, _ => by rw [list_May_l1]; rfl
  | x :: xs, p, pre, h, hx => by
    have hlen : L.length = pre.length + (xs.length + 2) := by rw [h]; simp
    have e : item_May_s x = some (mayI x) := by unfold item_May_s; rw [chk_t (decide_eq_true (hx x (List.mem_cons_self ..)))]
    have a0 : atL L (wr .i64 ((pre.length : Int) + 1 - 1)) = some p := by
      rw [wr64 (by omega) (by omega), show (pre.length : Int) + 1 - 1 = pre.length by omega, h]; exact at_app pre p (x :: xs)
    have ih := lmay_l hn xs x (pre ++ [p]) (by rw [h]; simp) fun y hy => hx y (List.mem_cons_of_mem _ hy)
    rw [List.length_append] at ih
    rw [list_May_l1, bnd_of e, List.all_cons, risesG]
    cases mayI x with
    | false => rfl
    | true =>
      rw [br_f (by rfl), br_t (by rw [ltI_t]; omega), bnd_of a0]
      have eq : (!(ltS x.id p.id || eqS x.id p.id)) = ltS p.id x.id := by
        cases h1 : ltS p.id x.id with
        | true => rw [ltS_asym h1, eqS_comm', ltS_ne h1]; rfl
        | false =>
          cases h2 : ltS x.id p.id with
          | true => rfl
          | false => rw [ltS_tri h2 h1, eqS_self]; rfl
      rw [eq]
      cases ltS p.id x.id with
      | false => rw [br_t (by rfl)]; simp
      | true =>
        rw [br_f (by rfl)]
        refine Eq.trans ?_ (ih.trans ?_)
        · rfl
        · simp
theorem lmay_s {l : List Item} (hn : l.length ≤ 999990) (hx : ∀ x ∈ l, x.Ok) : list_May_s l = some (mayListB l) := by
  unfold list_May_s mayListB
  rw [chk_t (smallL_of (by omega))]
  match l, hn, hx with
  | [], _, _ => rfl
  | x :: xs, hn, hx =>
    have e : item_May_s x = some (mayI x) := by unfold item_May_s; rw [chk_t (decide_eq_true (hx x (List.mem_cons_self ..)))]
    have ih := lmay_l hn xs x [] rfl fun y hy => hx y (List.mem_cons_of_mem _ hy)
    rw [list_May_l1, bnd_of e, List.all_cons]
    cases mayI x with
    | false => rfl
    | true =>
      rw [br_f (by rfl), br_f (by rfl)]
      refine Eq.trans ?_ (ih.trans ?_)
      · rfl
      · simp [risesB]
theorem may_ris {l : List Item} (h : mayListB l = true) : Ris l := by
  unfold mayListB at h; rw [Bool.and_eq_true] at h; exact ris_iff.1 h.2
theorem may_all {l : List Item} (h : mayListB l = true) : ∀ x ∈ l, mayI x = true := by
  unfold mayListB at h; rw [Bool.and_eq_true, List.all_eq_true] at h; exact h.1
theorem may_of {l : List Item} (h : Ris l) (h' : ∀ x ∈ l, mayI x = true) : mayListB l = true := by
  unfold mayListB; rw [Bool.and_eq_true, List.all_eq_true]; exact ⟨h', ris_iff.2 h⟩
theorem sameList_l : ∀ (xs pre ys L : List Item), L = pre ++ ys → xs.length = ys.length → (∀ p ∈ xs.zip ys, sameI p.1 p.2 = true) → ref06_SameList_l1 L xs (pre.length : Int) = some true
  | [], pre, [], L, _, _, _ => by rw [ref06_SameList_l1]
  | x :: xs, pre, y :: ys, L, h, hl, hs => by
    have ih := sameList_l xs (pre ++ [y]) ys L (by rw [h]; simp) (by simpa using hl) fun p hp => hs p (by simp [hp])
    rw [List.length_append] at ih
    rw [ref06_SameList_l1, bnd_of (show atL L (pre.length : Int) = some y by rw [h]; exact at_app pre y ys), bnd_of (show ref01_Same_s x y = some (sameI x y) from rfl), hs (x, y) (by simp), br_f (by rfl)]
    exact ih
  | [], _, _ :: _, _, _, h, _ => by simp at h
  | _ :: _, _, [], _, _, h, _ => by simp at h
theorem same0_s {l : List Item} (hn : l.length ≤ 1000000000) (h : ∀ x ∈ l, sameI x x = true) : law00_Same_s l l = some 1 := by
  have e : ref06_SameList_s l l = some true := by
    unfold ref06_SameList_s
    rw [eqI_t.2 rfl, br_f (by rfl), chk_t (smallL_of hn)]
    have := sameList_l l [] l l rfl rfl fun p hp => by
      obtain ⟨i, hi⟩ := List.getElem?_of_mem hp
      rw [List.getElem?_zip_eq_some] at hi
      have e : p.1 = p.2 := by have := hi.1.symm.trans hi.2; injection this
      rw [← e]
      exact h p.1 (List.mem_of_getElem? hi.1)
    exact this
  unfold law00_Same_s
  rw [bnd_of e]; rfl
end
end Go.Proofs.Ytijkfjahgijphaa
