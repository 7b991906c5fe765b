/- Regions that draw their order: what the check says. -/
import Derived.Test.YtaiedakbmmgmaaaEvDraw
set_option linter.unusedVariables false
set_option linter.unusedSimpArgs false
namespace Go.Proofs.Ytaiedakbmmgmaaa.E
open Go
variable {P : Program} {T : List TI} {t : List A} {σ : List Blk} {I : Task → Prop}

theorem binds_any (e : Edge) : Region.binds .any e = bindsG e.ground := by
  unfold Region.binds bindsG
  cases e.ground <;> rfl
theorem dep_bit (masks : List Nat) (es : List Edge) (i : Nat) : (depMask masks es).testBit i = true ↔ ∃ e, e ∈ es ∧ bindsG e.ground = true ∧ (i = e.on ∨ (masks.getD e.on 0).testBit i = true) := by
  induction es with
  | nil => simp [depMask]
  | cons e es ih =>
    change (@Bool.rec (fun _ => Nat) (depMask masks es) (((2 ^ e.on) ||| (nth 0 masks e.on)) ||| (depMask masks es)) (bindsG e.ground)).testBit i = true ↔ _
    cases hb : bindsG e.ground with
    | false =>
      show (depMask masks es).testBit i = true ↔ _
      rw [ih]
      constructor
      · rintro ⟨e', he, h⟩; exact ⟨e', by simp [he], h⟩
      · rintro ⟨e', he, h1, h2⟩
        rcases List.mem_cons.1 he with rfl | he
        · rw [hb] at h1; cases h1
        · exact ⟨e', he, h1, h2⟩
    | true =>
      show (((2 ^ e.on) ||| (nth 0 masks e.on)) ||| (depMask masks es)).testBit i = true ↔ _
      rw [Nat.testBit_or, Nat.testBit_or, nth_eq, Nat.testBit_two_pow]
      simp only [Bool.or_eq_true, decide_eq_true_eq, ih]
      constructor
      · rintro ((h | h) | ⟨e', he, h⟩)
        · exact ⟨e, by simp, hb, .inl h.symm⟩
        · exact ⟨e, by simp, hb, .inr h⟩
        · exact ⟨e', by simp [he], h⟩
      · rintro ⟨e', he, h1, h2⟩
        rcases List.mem_cons.1 he with rfl | he
        · rcases h2 with h2 | h2
          · exact .inl (.inl h2.symm)
          · exact .inl (.inr h2)
        · exact .inr ⟨e', he, h1, h2⟩
theorem sN_eq (n : Nat) (k : Nat → Bool) : sN n k = k n := by cases n <;> rfl
theorem masksB_ok (l : List Oper) : ∀ (acc : List Nat) (k : List Nat → Bool), ∃ ms, masksB l acc k = k (acc ++ ms) ∧ ms.length = l.length ∧
    ∀ j o, l[j]? = some o → (acc ++ ms).getD (acc.length + j) 0 = depMask ((acc ++ ms).take (acc.length + j)) o.after.toList := by
  induction l with
  | nil => intro acc k; exact ⟨[], by rw [List.append_nil]; rfl, rfl, fun j o h => by simp at h⟩
  | cons o l ih =>
    intro acc k
    obtain ⟨ms, h1, h2, h3⟩ := ih (acc ++ [depMask acc o.after.toList]) k
    refine ⟨depMask acc o.after.toList :: ms, ?_, by simp [h2], fun j o' hj => ?_⟩
    · change sN (depMask acc o.after.toList) (fun m => masksB l (appR acc [m]) k) = _
      rw [sN_eq, appR_eq, h1]
      simp
    · cases j with
      | zero =>
        simp at hj; subst hj
        simp [List.getD_eq_getElem?_getD]
      | succ j =>
        have := h3 j o' (by simpa using hj)
        rw [List.append_assoc, List.singleton_append, List.length_append, List.length_singleton] at this
        rwa [show acc.length + (j + 1) = acc.length + 1 + j from by omega]
theorem ordB_iff (masks : List Nat) (i j : Nat) : ordB masks i j = true ↔ (masks.getD j 0).testBit i = true := by
  unfold ordB
  rw [nth_eq, Nat.testBit_eq_decide_div_mod_eq, decide_eq_true_eq]
  change Nat.beq (((masks.getD j 0) >>> i) &&& 1) 1 = true ↔ _
  rw [Nat.and_one_is_mod, Nat.shiftRight_eq_div_pow]
  exact ⟨Nat.eq_of_beq_eq_true, fun h => by rw [h]; rfl⟩
theorem numbered_get {α : Type} (l : List α) : ∀ (n i : Nat), (numbered l n)[i]? = (l[i]?).map fun a => (n + i, a) := by
  induction l with
  | nil => intro n i; rfl
  | cons a l ih =>
    intro n i
    change ((n, a) :: numbered l (n + 1))[i]? = _
    cases i with
    | zero => simp
    | succ i =>
      simp only [List.getElem?_cons_succ, ih]
      congr 1
      funext x
      rw [show n + 1 + i = n + (i + 1) from by omega]
theorem forall2_ok {α : Type} {f : Nat × α → Nat × α → Bool} (l : List (Nat × α)) (h : forall2 l f = true) : ∀ {i j : Nat} {a b : Nat × α}, i < j → l[i]? = some a → l[j]? = some b → f a b = true := by
  induction l with
  | nil => intro i j a b _ hi; simp at hi
  | cons x l ih =>
    intro i j a b hij hi hj
    change @Bool.rec (fun _ => Bool) false (forall2 l f) (allR (f x) l) = true at h
    cases hx : allR (f x) l with
    | false => rw [hx] at h; cases h
    | true =>
      rw [hx] at h
      cases j with
      | zero => omega
      | succ j =>
        simp only [List.getElem?_cons_succ] at hj
        cases i with
        | zero =>
          simp at hi; subst hi
          simp only [allR_eq, List.all_eq_true] at hx
          exact hx b (List.mem_of_getElem? hj)
        | succ i => exact ih h (i := i) (j := j) (by omega) (by simpa using hi) hj
theorem anyMem_iff (l m : List Nat) : anyMem l m = true ↔ ∃ a, a ∈ l ∧ a ∈ m := by
  induction l with
  | nil => simp [anyMem]
  | cons x l ih =>
    change @Bool.rec (fun _ => Bool) (anyMem l m) true (memN x m) = true ↔ _
    cases hm : memN x m with
    | true => simp only [true_iff]; exact ⟨x, by simp, (memN_iff x m).1 hm⟩
    | false =>
      have : x ∉ m := fun h => by rw [(memN_iff x m).2 h] at hm; cases hm
      show anyMem l m = true ↔ _
      rw [ih]
      constructor
      · rintro ⟨a, h1, h2⟩; exact ⟨a, by simp [h1], h2⟩
      · rintro ⟨a, h1, h2⟩
        rcases List.mem_cons.1 h1 with rfl | h1
        · exact absurd h2 this
        · exact ⟨a, h1, h2⟩
theorem revR_eq {α : Type} (l : List α) : revR l = l.reverse := by
  induction l with
  | nil => rfl
  | cons a l ih =>
    change appR (revR l) [a] = _
    rw [appR_eq, ih]; simp

/-- what the check says of a region -/
structure Drawn (ops : List Oper) (feet : List (List Nat × List Nat)) (ord : Nat → Nat → Prop) : Prop where
  back : ∀ (j : Nat) (o : Oper), ops[j]? = some o → ∀ e : Edge, e ∈ o.after.toList → bindsG e.ground = true → e.on < j
  step : ∀ i j, ord i j → ∃ o : Oper, ops[j]? = some o ∧ ∃ e : Edge, e ∈ o.after.toList ∧ bindsG e.ground = true ∧ (i = e.on ∨ ord i e.on)
  apart : ∀ (i j : Nat) (x y : Oper), i < j → ops[i]? = some x → ops[j]? = some y → ord i j ∨ Oper.apart ops.toArray x y = true
  feet : ∀ (i j : Nat) (x y : List Nat × List Nat), i < j → feet[i]? = some x → feet[j]? = some y → ord i j ∨ ((∀ b, b ∈ x.2 → b ∉ y.1 ∧ b ∉ y.2) ∧ ∀ b, b ∈ x.1 → b ∉ y.2)
theorem drawn_of {ops : List Oper} {feet : List (List Nat × List Nat)} (h : drawOk ops feet.reverse = true) : ∃ ord, Drawn ops feet ord := by
  unfold drawOk at h
  obtain ⟨ms, hm, hl, hms⟩ := masksB_ok ops [] _
  rw [hm, List.nil_append] at h
  simp only [List.nil_append, List.length_nil, Nat.zero_add] at hms
  simp only [Bool.and_eq_true, revR_eq, List.reverse_reverse] at h
  obtain ⟨⟨h1, h2⟩, h3⟩ := h
  simp only [allR_eq, List.all_eq_true] at h1
  have hback : ∀ (j : Nat) (o : Oper), ops[j]? = some o → ∀ e : Edge, e ∈ o.after.toList → bindsG e.ground = true → e.on < j := fun j o hj e he hb => by
    have hn : (j, o) ∈ numbered ops 0 := List.mem_of_getElem? (i := j) (by rw [numbered_get, hj]; simp)
    have := h1 _ hn e he
    rw [hb] at this
    exact Nat.le_of_ble_eq_true this
  refine ⟨fun i j => ordB ms i j = true, hback, fun i j hij => ?_, fun i j x y hij hx hy => ?_, fun i j x y hij hx hy => ?_⟩
  · rw [ordB_iff] at hij
    have hjl : j < ms.length := by
      rcases Nat.lt_or_ge j ms.length with h | h
      · exact h
      · rw [List.getD_eq_getElem?_getD, List.getElem?_eq_none h] at hij; simp at hij
    have hj : ops[j]? = some ops[j] := List.getElem?_eq_getElem (by omega)
    refine ⟨_, hj, ?_⟩
    rw [hms j _ hj, dep_bit] at hij
    obtain ⟨e, he, hb, h⟩ := hij
    refine ⟨e, he, hb, h.imp id fun h => ?_⟩
    rw [ordB_iff]
    have := hback j _ hj e he hb
    rwa [List.getD_eq_getElem?_getD, List.getElem?_take, if_pos this, ← List.getD_eq_getElem?_getD] at h
  · have := forall2_ok _ h2 hij (a := (i, x)) (b := (j, y)) (by rw [numbered_get, hx]; simp) (by rw [numbered_get, hy]; simp)
    exact (Bool.or_eq_true _ _ ▸ this : _ ∨ _)
  · have := forall2_ok _ h3 hij (a := (i, x)) (b := (j, y)) (by rw [numbered_get, hx]; simp) (by rw [numbered_get, hy]; simp)
    rcases (Bool.or_eq_true _ _ ▸ this : _ ∨ _) with h | h
    · exact .inl h
    · right
      simp only [Bool.not_eq_true'] at h
      unfold conflB at h
      simp only [Bool.or_eq_false_iff] at h
      obtain ⟨⟨ha, hb⟩, hc⟩ := h
      have no : ∀ {l m : List Nat}, anyMem l m = false → ∀ b, b ∈ l → b ∉ m := fun {l m} h b hb hb' => by
        rw [(anyMem_iff l m).2 ⟨b, hb, hb'⟩] at h; cases h
      exact ⟨fun b hb' => ⟨no ha b hb', no hb b hb'⟩, no hc⟩
/-- a set that holds, with each operation, those that stand ahead of it -/
def Closed (ops : List Oper) (D : Nat → Bool) : Prop := ∀ (j : Nat) (o : Oper), ops[j]? = some o → D j = true → ∀ e : Edge, e ∈ o.after.toList → bindsG e.ground = true → D e.on = true
theorem Drawn.closed {ops feet ord} (h : Drawn ops feet ord) {D : Nat → Bool} (hD : Closed ops D) : ∀ j i, ord i j → D j = true → D i = true := by
  intro j
  induction j using Nat.strongRecOn with
  | _ j ih =>
    intro i hij hj
    obtain ⟨o, ho, e, he, hb, h1⟩ := h.step i j hij
    have h2 := hD j o ho hj e he hb
    rcases h1 with rfl | h1
    · exact h2
    · exact ih e.on (h.back j o ho e he hb) i h1 h2
end Go.Proofs.Ytaiedakbmmgmaaa.E
