/- Functions as they are told in plain Lean: checks, parting ways, rounds; how a walk follows them. -/
import Derived.Test.YtijkfjahgijphaaKit
set_option linter.unusedVariables false
set_option linter.unusedSimpArgs false
namespace Go.Proofs.Ytijkfjahgijphaa
open Go E
section
variable {α β : Type}
def chk (c : Bool) (x : Option α) : Option α := match c with
  | true => x
  | false => none
def br (c : Bool) (x y : Option α) : Option α := match c with
  | true => x
  | false => y
def bnd (x : Option α) (f : α → Option β) : Option β := match x with
  | some a => f a
  | none => none
def opt (o : Option α) (f : α → Option β) (n : Option β) : Option β := match o with
  | some a => f a
  | none => n
def atL (l : List α) (j : Int) : Option α := if 0 ≤ j then l[j.toNat]? else none
def subL (l : List α) (a b : Int) : List α := (l.take b.toNat).drop a.toNat
def roomL (a b : Nat) : Bool := decide (a + b ≤ 1000000)
def smallL (l : List α) : Bool := decide (l.length ≤ 1000000000)
theorem chk_some {c : Bool} {x : Option α} {r : α} (h : chk c x = some r) : c = true ∧ x = some r := by cases c; cases h; exact ⟨rfl, h⟩
theorem bnd_some {x : Option α} {f : α → Option β} {r : β} (h : bnd x f = some r) : ∃ a, x = some a ∧ f a = some r := by cases x; cases h; exact ⟨_, rfl, h⟩
theorem br_some {c : Bool} {x y : Option α} {r : α} {T F : Prop} (h : br c x y = some r) (ht : c = true → x = some r → T) (hf : c = false → y = some r → F) : @Bool.rec (fun _ => Prop) F T c := by
  cases c
  · exact hf rfl h
  · exact ht rfl h
theorem ret_some {a b : α} {f : α → A} {g : α → List Blk} {Q : A → List Blk → Prop} (h : some a = some b) (hQ : Q (f b) (g b)) : Q (f a) (g a) := by injection h with h; rw [h]; exact hQ
theorem no_some {r : α} {G : Prop} (h : none = some r) : G := nomatch h
/-! rows -/
variable {f : α → List PC}
theorem map_len (l : List α) : lenL (l.map f) = (l.length : Int) := by unfold lenL; simp
theorem at_in {l : List α} {j : Int} {x : α} (h : atL l j = some x) : lenB (l.map f) j = true := by
  unfold atL at h; unfold lenB
  split at h
  · rename_i h0
    have := (List.getElem?_eq_some_iff.1 h).1
    simp; omega
  · cases h
theorem at_row {l : List α} {j : Int} {x : α} (h : atL l j = some x) : E.rowAt (l.map f) j = f x := by
  unfold atL at h; unfold E.rowAt
  split at h
  · rw [List.getD_eq_getElem?_getD, List.getElem?_map, h]; rfl
  · cases h
theorem at_nat {l : List α} {j : Int} {x : α} (h : atL l j = some x) : atL l (j.toNat : Int) = some x := by
  unfold atL at *
  split at h
  · rw [if_pos (by omega), Int.toNat_natCast]; exact h
  · cases h
theorem room_nest {l : List α} {news : List (List PC)} {m b : Nat} {c1 c2 c3 c4 c5 : Bool} (c : roomL l.length m = true) (hn : news.length = m) (hb : Nat.ble b 100000000 = true) (h : (c1 && c2 && c3 && c4 && c5) = true) : (roomFor (l.map f) news b && c1 && c2 && c3 && c4 && c5) = true := by
  have hb := Nat.le_of_ble_eq_true hb
  unfold roomL at c; simp only [decide_eq_true_eq] at c
  have : roomFor (l.map f) news b = true := by
    unfold roomFor
    rw [List.length_map, hn, decide_eq_true_eq]
    have := Nat.mul_le_mul c hb
    omega
  rw [this]; simpa using h
theorem cat_one (l : List α) (x : α) : catL (l.map f) [f x] = (l ++ [x]).map f := by unfold catL; simp
theorem cat_map (l m : List α) : catL (l.map f) (m.map f) = (l ++ m).map f := by unfold catL; simp
theorem nil_one (x : α) : catL [] [f x] = [x].map f := rfl
theorem nil_map (m : List α) : catL [] (m.map f) = m.map f := rfl
theorem in_map (l : List α) (a b : Int) : rowsIn (l.map f) a b = (subL l a b).map f := by unfold rowsIn subL; simp [List.map_take, List.map_drop]
theorem set_map (l : List α) (i : Nat) (x : α) : setRow (l.map f) i (f x) = (l.set i x).map f := by unfold setRow; simp [List.map_set]
theorem rowsOk_map {sz : Nat} (hf : ∀ x, (f x).length = sz) (m : List α) : rowsOk (m.map f) sz = true := by unfold rowsOk; simp [hf]
theorem in_drop (l : List α) (n : Nat) : rowsIn (l.map f) (n : Int) (lenL (l.map f)) = (l.drop n).map f := by
  unfold rowsIn lenL
  rw [Int.toNat_natCast, Int.toNat_natCast, List.take_length, List.map_drop]
theorem drop_ok {l : List α} (n : Nat) {sz : Nat} (h : leI (n : Int) (l.length : Int) = true) (hf : ∀ x, (f x).length = sz) : (lenC (l.map f) (lenL (l.map f)) && leI 0 (n : Int) && leI (n : Int) (lenL (l.map f)) && rowsOk (l.map f) sz) = true := by
  rw [map_len, h, rowsOk_map hf, Bool.and_true, Bool.and_true, leI_t.2 (Int.natCast_nonneg n), Bool.and_true]
  unfold lenC; simp
theorem room_map {l : List α} {news : List (List PC)} {m b sz k : Nat} (c : roomL l.length m = true) (hn : news.length = m) (hb : Nat.ble b 100000000 = true) (h2 : rowsOk news sz = true) (h3 : (Nat.beq k sz || Nat.beq k 0) = true) : (roomFor (l.map f) news b && rowsOk news sz && (Nat.beq k sz || Nat.beq k 0)) = true := by
  have hb := Nat.le_of_ble_eq_true hb
  unfold roomL at c; simp only [decide_eq_true_eq] at c
  refine and3 ?_ h2 h3
  unfold roomFor
  rw [List.length_map, hn, decide_eq_true_eq]
  have := Nat.mul_le_mul c hb
  omega
theorem room_nil {news : List (List PC)} {m b sz : Nat} (c : roomL 0 m = true) (hn : news.length = m) (hb : Nat.ble b 100000000 = true) (h2 : rowsOk news sz = true) : (roomFor [] news b && rowsOk news sz) = true := by
  have hb := Nat.le_of_ble_eq_true hb
  unfold roomL at c; simp only [decide_eq_true_eq] at c
  rw [h2, Bool.and_true]
  unfold roomFor
  rw [hn, decide_eq_true_eq]
  have := Nat.mul_le_mul c hb
  simp only [List.length_nil]
  omega
theorem andt {a b : Bool} (h : a = true) (h' : b = true) : (a && b) = true := by rw [h, h']; rfl
theorem wrL {l : List α} {i : Int} {pre xs : List α} {x : α} (hs : smallL l = true) (hl : l = pre ++ x :: xs) (hi : i = (pre.length : Int)) : wr .i64 (i + 1) = i + 1 := by
  unfold smallL at hs; simp only [decide_eq_true_eq] at hs
  rw [hl, List.length_append] at hs
  rw [wr64 (by omega) (by omega)]
theorem lt_mid {l : List α} {i : Int} {pre xs : List α} {x : α} (hl : l = pre ++ x :: xs) (hi : i = (pre.length : Int)) : ltI i (l.length : Int) = true := by
  rw [ltI_t, hl, hi]; simp; omega
theorem lt_end {l : List α} {i : Int} (hi : i = (l.length : Int)) : ltI i (l.length : Int) = false := by rw [ltI_f, hi]; omega
theorem at_mid {l : List α} {i : Int} {pre xs : List α} {x : α} (hl : l = pre ++ x :: xs) (hi : i = (pre.length : Int)) : atL l i = some x := by
  unfold atL; rw [if_pos (by omega), hl, hi]; simp
end
theorem opt_some {α β : Type} {o : Option α} {f : α → Option β} {n : Option β} {r : β} {G : Prop} (h : opt o f n = some r) (hs : ∀ x, o = some x → f x = some r → G) (hn : o = none → n = some r → G) : G := by
  cases o with
  | none => exact hn rfl h
  | some a => exact hs a rfl h
theorem call_args {X : Task → Prop} {f : Nat} {xs ys : List A} {σ : List Blk} {Q : A → List Blk → Prop} (e : xs = ys) (h : X (.call f ys σ Q)) : X (.call f xs σ Q) := e ▸ h
def clone_s {α : Type} (l : List α) : Option (List α) := chk (decide (l.length ≤ 1000000)) (some l)
theorem clone_c {α : Type} {f : α → List PC} {k g : Nat} (hf : ∀ x, (f x).length = k) (hm : (g, k) ∈ cloneFs) {X : Task → Prop} (hX : Closed X) {l r : List α} {Q : A → List Blk → Prop} (h : clone_s l = some r) (hQ : Q (.one (.own 0)) [.rows k (r.map f)]) : X (.call g [.one (.p (.sl (l.map f)))] [] Q) := by
  unfold clone_s at h
  obtain ⟨d, h⟩ := chk_some h
  injection h with h; subst h
  exact clone_call hX hm (rowsOk_map hf l) (by rw [List.length_map]; exact of_decide_eq_true d) hQ
def fuelN : Nat := 1000000
/-- for calls of a function by itself -/
def fuelR : Nat := 1000
theorem natbeq_self (n : Nat) : Nat.beq n n = true := Nat.beq_refl n
theorem and4 {a b c d : Bool} (h1 : a = true) (h2 : b = true) (h3 : c = true) (h4 : d = true) : (a && b && c && d) = true := by rw [h1, h2, h3, h4]; rfl
theorem room_zero {news : List (List PC)} {m b sz k : Nat} (c : roomL 0 m = true) (hn : news.length = m) (hb : Nat.ble b 100000000 = true) (h2 : rowsOk news sz = true) (h3 : (Nat.beq k sz || Nat.beq k 0) = true) : (roomFor [] news b && rowsOk news sz && (Nat.beq k sz || Nat.beq k 0)) = true := by
  rw [room_nil c hn hb h2, h3]; rfl
abbrev irw (n : Int) : List PC := [ip n]
abbrev srw (s : ByteArray) : List PC := [.v (.string s)]
/-! maps -/
section
variable {κ ν : Type} {f : κ → List PC} {g : ν → List PC}
def mget (f : κ → List PC) (l : List (κ × ν)) (k : κ) : Option ν := (l.find? fun e => keyEq (f e.1) (f k)).map (·.2)
def mset (f : κ → List PC) (l : List (κ × ν)) (k : κ) (v : ν) : List (κ × ν) := if (mget f l k).isSome then l.map fun e => if keyEq (f e.1) (f k) then (e.1, v) else e else l ++ [(k, v)]
theorem get_mp (l : List (κ × ν)) (k : κ) : getM (l.map fun e => (f e.1, g e.2)) (f k) = (mget f l k).map g := by
  unfold getM mget
  rw [List.find?_map]
  cases h : List.find? ((fun e => keyEq e.1 (f k)) ∘ fun e : κ × ν => (f e.1, g e.2)) l with
  | none => rw [show (List.find? (fun e : κ × ν => keyEq (f e.1) (f k)) l) = none from h]; rfl
  | some a => rw [show (List.find? (fun e : κ × ν => keyEq (f e.1) (f k)) l) = some a from h]; rfl
theorem set_mp (l : List (κ × ν)) (k : κ) (v : ν) : setM (l.map fun e => (f e.1, g e.2)) (f k) (g v) = (mset f l k v).map fun e => (f e.1, g e.2) := by
  unfold setM mset
  rw [get_mp]
  cases h : mget f l k with
  | none => simp
  | some a =>
    simp only [Option.map_some, Option.isSome_some, if_true, List.map_map]
    refine List.map_congr_left fun e _ => ?_
    simp only [Function.comp]
    cases h1 : keyEq (f e.1) (f k) <;> simp
theorem map_look {α : Type} {o : Option ν} {F : ν → Option α} {n : Option α} {r : α} {a : Option (List PC)} {K : Option (List PC) → Prop} (h : opt o F n = some r) (hs : ∀ x, o = some x → F x = some r → K (some (g x))) (hn : o = none → n = some r → K none) (e : a = o.map g) : eqv a K := fun w e' => by
  rw [e', e]
  exact opt_some h (fun x hx hr => by rw [hx]; exact hs x hx hr) (fun hx hr => by rw [hx]; exact hn hx hr)
end
theorem next_cut {α : Type} {l pre xs : List α} {x : α} (h : l = pre ++ x :: xs) : l = (pre ++ [x]) ++ xs := by rw [h]; simp
theorem next_len {α : Type} {l pre xs : List α} {x : α} {i : Int} (hs : smallL l = true) (h : l = pre ++ x :: xs) (hi : i = (pre.length : Int)) : wr .i64 (i + 1) = ((pre ++ [x]).length : Int) := by
  rw [wrL hs h hi, hi]; simp
theorem one_len {α : Type} {l : List α} (h : ltI 0 (l.length : Int) = true) : (1 : Int) = ((l.take 1).length : Int) := by
  rw [ltI_t] at h; rw [List.length_take]; omega
theorem one_cut {α : Type} (l : List α) : l = l.take 1 ++ l.drop 1 := (List.take_append_drop 1 l).symm
theorem loop_lisz0 {R α : Type} {X : Task → Prop} {f m : Nat} {c : Code} {K : Ex → List A → List Blk → Prop} {r : R} (T' : Int → List A) (S' : Int → List Blk) (L : List α → Option R) (l pre0 l0 : List α) (i0 : Int) (hl0 : l = pre0 ++ l0) (hi0 : i0 = (pre0.length : Int))
    (hstep : ∀ (pre : List α) (x : α) (xs : List α) (i : Int), l = pre ++ x :: xs → i = (pre.length : Int) → L (x :: xs) = some r → (∀ (i' : Int), i' = i + 1 → L xs = some r → X (.loop f m c (T' i') (S' i') K)) → X (.loop f m c (T' i) (S' i) K))
    (hend : ∀ (i : Int), i = (l.length : Int) → L [] = some r → X (.loop f m c (T' i) (S' i) K)) (h : L l0 = some r) : X (.loop f m c (T' i0) (S' i0) K) := by
  have key : ∀ (xs pre : List α) (i : Int), l = pre ++ xs → i = (pre.length : Int) → L xs = some r → X (.loop f m c (T' i) (S' i) K) := by
    intro xs
    induction xs with
    | nil => intro pre i hl hi h; exact hend i (by rw [hl, hi]; simp) h
    | cons x xs ih => intro pre i hl hi h; exact hstep pre x xs i hl hi h fun i' hi' h' => by subst hi'; exact ih (pre ++ [x]) (i + 1) (by rw [hl]; simp) (by rw [hi]; simp) h'
  exact key l0 pre0 i0 hl0 hi0 h
theorem loop_lisx0 {R α : Type} {X : Task → Prop} {f m : Nat} {c : Code} {K : Ex → List A → List Blk → Prop} {r : R} (T' : Int → List A) (S' : Int → List Blk) (L : List α → Option R) (l : List α)
    (hstep : ∀ (pre : List α) (x : α) (xs : List α) (i : Int), l = pre ++ x :: xs → i = (pre.length : Int) → L (x :: xs) = some r → (∀ (i' : Int), i' = i + 1 → L xs = some r → X (.loop f m c (T' i') (S' i') K)) → X (.loop f m c (T' i) (S' i) K))
    (hend : ∀ (i : Int), i = (l.length : Int) → L [] = some r → X (.loop f m c (T' i) (S' i) K)) (h : L l = some r) : X (.loop f m c (T' 0) (S' 0) K) := by
  have key : ∀ (xs pre : List α) (i : Int), l = pre ++ xs → i = (pre.length : Int) → L xs = some r → X (.loop f m c (T' i) (S' i) K) := by
    intro xs
    induction xs with
    | nil => intro pre i hl hi h; exact hend i (by rw [hl, hi]; simp) h
    | cons x xs ih => intro pre i hl hi h; exact hstep pre x xs i hl hi h fun i' hi' h' => by subst hi'; exact ih (pre ++ [x]) (i + 1) (by rw [hl]; simp) (by rw [hi]; simp) h'
  exact key l [] 0 rfl rfl h
theorem loop_lisw0 {R α : Type} {X : Task → Prop} {f m : Nat} {c : Code} {K : Ex → List A → List Blk → Prop} {r : R} (T' : Int → List A) (S' : Int → List Blk) (L : List α → Int → Option R) (l pre0 l0 : List α) (i0 : Int) (hl0 : l = pre0 ++ l0) (hi0 : i0 = (pre0.length : Int))
    (hstep : ∀ (pre : List α) (x : α) (xs : List α) (i : Int), l = pre ++ x :: xs → i = (pre.length : Int) → L (x :: xs) i = some r → (∀ (i' : Int), i' = i + 1 → L xs (i + 1) = some r → X (.loop f m c (T' i') (S' i') K)) → X (.loop f m c (T' i) (S' i) K))
    (hend : ∀ (i : Int), i = (l.length : Int) → L [] i = some r → X (.loop f m c (T' i) (S' i) K)) (h : L l0 i0 = some r) : X (.loop f m c (T' i0) (S' i0) K) := by
  have key : ∀ (xs pre : List α) (i : Int), l = pre ++ xs → i = (pre.length : Int) → L xs i = some r → X (.loop f m c (T' i) (S' i) K) := by
    intro xs
    induction xs with
    | nil => intro pre i hl hi h; exact hend i (by rw [hl, hi]; simp) h
    | cons x xs ih => intro pre i hl hi h; exact hstep pre x xs i hl hi h fun i' hi' h' => by subst hi'; exact ih (pre ++ [x]) (i + 1) (by rw [hl]; simp) (by rw [hi]; simp) h'
  exact key l0 pre0 i0 hl0 hi0 h
theorem loop_list0 {R α : Type} {X : Task → Prop} {f m : Nat} {c : Code} {K : Ex → List A → List Blk → Prop} {r : R} (T' : Int → List A) (S' : Int → List Blk) (L : List α → Int → Option R) (l : List α)
    (hstep : ∀ (pre : List α) (x : α) (xs : List α) (i : Int), l = pre ++ x :: xs → i = (pre.length : Int) → L (x :: xs) i = some r → (∀ (i' : Int), i' = i + 1 → L xs (i + 1) = some r → X (.loop f m c (T' i') (S' i') K)) → X (.loop f m c (T' i) (S' i) K))
    (hend : ∀ (i : Int), i = (l.length : Int) → L [] i = some r → X (.loop f m c (T' i) (S' i) K)) (h : L l 0 = some r) : X (.loop f m c (T' 0) (S' 0) K) := by
  have key : ∀ (xs pre : List α) (i : Int), l = pre ++ xs → i = (pre.length : Int) → L xs i = some r → X (.loop f m c (T' i) (S' i) K) := by
    intro xs
    induction xs with
    | nil => intro pre i hl hi h; exact hend i (by rw [hl, hi]; simp) h
    | cons x xs ih => intro pre i hl hi h; exact hstep pre x xs i hl hi h fun i' hi' h' => by subst hi'; exact ih (pre ++ [x]) (i + 1) (by rw [hl]; simp) (by rw [hi]; simp) h'
  exact key l [] 0 rfl rfl h
theorem loop_fuel0 {R : Type} {X : Task → Prop} {f m : Nat} {c : Code} {K : Ex → List A → List Blk → Prop} {r : R} (T' : List A) (S' : List Blk) (L : Nat → Option R)
    (h0 : ∀ (_ : Unit), L 0 = some r → False)
    (hstep : ∀ (n : Nat), L (n + 1) = some r → (L n = some r → X (.loop f m c T' S' K)) → X (.loop f m c T' S' K)) (N : Nat) (h : L N = some r) : X (.loop f m c T' S' K) := by
  induction N with
  | zero => exact (h0 () h).elim
  | succ N ih => exact hstep N h fun h' => ih h'
theorem join0 {R : Type} {X : Task → Prop} {f m : Nat} {c : Code} {K : Ex → List A → List Blk → Prop} {r : R} {G : Prop} {j : Option R} (T' : List A) (S' : List Blk)
    (main : Hold (j = some r → X (.rest f m c T' S' K)) → G) (tail : j = some r → X (.rest f m c T' S' K)) : G := main ⟨tail⟩
theorem loop_lisz1 {R α : Type} {S0 : Type} {X : Task → Prop} {f m : Nat} {c : Code} {K : Ex → List A → List Blk → Prop} {r : R} (T' : Int → S0 → List A) (S' : Int → S0 → List Blk) (L : List α → S0 → Option R) (l pre0 l0 : List α) (i0 : Int) (hl0 : l = pre0 ++ l0) (hi0 : i0 = (pre0.length : Int))
    (hstep : ∀ (pre : List α) (x : α) (xs : List α) (i : Int) (a0 : S0), l = pre ++ x :: xs → i = (pre.length : Int) → L (x :: xs) a0 = some r → (∀ (i' : Int) (b0 : S0), i' = i + 1 → L xs b0 = some r → X (.loop f m c (T' i' b0) (S' i' b0) K)) → X (.loop f m c (T' i a0) (S' i a0) K))
    (hend : ∀ (i : Int) (a0 : S0), i = (l.length : Int) → L [] a0 = some r → X (.loop f m c (T' i a0) (S' i a0) K)) (a0 : S0) (h : L l0 a0 = some r) : X (.loop f m c (T' i0 a0) (S' i0 a0) K) := by
  have key : ∀ (xs pre : List α) (i : Int) (a0 : S0), l = pre ++ xs → i = (pre.length : Int) → L xs a0 = some r → X (.loop f m c (T' i a0) (S' i a0) K) := by
    intro xs
    induction xs with
    | nil => intro pre i a0 hl hi h; exact hend i a0 (by rw [hl, hi]; simp) h
    | cons x xs ih => intro pre i a0 hl hi h; exact hstep pre x xs i a0 hl hi h fun i' b0 hi' h' => by subst hi'; exact ih (pre ++ [x]) (i + 1) b0 (by rw [hl]; simp) (by rw [hi]; simp) h'
  exact key l0 pre0 i0 a0 hl0 hi0 h
theorem loop_lisx1 {R α : Type} {S0 : Type} {X : Task → Prop} {f m : Nat} {c : Code} {K : Ex → List A → List Blk → Prop} {r : R} (T' : Int → S0 → List A) (S' : Int → S0 → List Blk) (L : List α → S0 → Option R) (l : List α)
    (hstep : ∀ (pre : List α) (x : α) (xs : List α) (i : Int) (a0 : S0), l = pre ++ x :: xs → i = (pre.length : Int) → L (x :: xs) a0 = some r → (∀ (i' : Int) (b0 : S0), i' = i + 1 → L xs b0 = some r → X (.loop f m c (T' i' b0) (S' i' b0) K)) → X (.loop f m c (T' i a0) (S' i a0) K))
    (hend : ∀ (i : Int) (a0 : S0), i = (l.length : Int) → L [] a0 = some r → X (.loop f m c (T' i a0) (S' i a0) K)) (a0 : S0) (h : L l a0 = some r) : X (.loop f m c (T' 0 a0) (S' 0 a0) K) := by
  have key : ∀ (xs pre : List α) (i : Int) (a0 : S0), l = pre ++ xs → i = (pre.length : Int) → L xs a0 = some r → X (.loop f m c (T' i a0) (S' i a0) K) := by
    intro xs
    induction xs with
    | nil => intro pre i a0 hl hi h; exact hend i a0 (by rw [hl, hi]; simp) h
    | cons x xs ih => intro pre i a0 hl hi h; exact hstep pre x xs i a0 hl hi h fun i' b0 hi' h' => by subst hi'; exact ih (pre ++ [x]) (i + 1) b0 (by rw [hl]; simp) (by rw [hi]; simp) h'
  exact key l [] 0 a0 rfl rfl h
theorem loop_lisw1 {R α : Type} {S0 : Type} {X : Task → Prop} {f m : Nat} {c : Code} {K : Ex → List A → List Blk → Prop} {r : R} (T' : Int → S0 → List A) (S' : Int → S0 → List Blk) (L : List α → Int → S0 → Option R) (l pre0 l0 : List α) (i0 : Int) (hl0 : l = pre0 ++ l0) (hi0 : i0 = (pre0.length : Int))
    (hstep : ∀ (pre : List α) (x : α) (xs : List α) (i : Int) (a0 : S0), l = pre ++ x :: xs → i = (pre.length : Int) → L (x :: xs) i a0 = some r → (∀ (i' : Int) (b0 : S0), i' = i + 1 → L xs (i + 1) b0 = some r → X (.loop f m c (T' i' b0) (S' i' b0) K)) → X (.loop f m c (T' i a0) (S' i a0) K))
    (hend : ∀ (i : Int) (a0 : S0), i = (l.length : Int) → L [] i a0 = some r → X (.loop f m c (T' i a0) (S' i a0) K)) (a0 : S0) (h : L l0 i0 a0 = some r) : X (.loop f m c (T' i0 a0) (S' i0 a0) K) := by
  have key : ∀ (xs pre : List α) (i : Int) (a0 : S0), l = pre ++ xs → i = (pre.length : Int) → L xs i a0 = some r → X (.loop f m c (T' i a0) (S' i a0) K) := by
    intro xs
    induction xs with
    | nil => intro pre i a0 hl hi h; exact hend i a0 (by rw [hl, hi]; simp) h
    | cons x xs ih => intro pre i a0 hl hi h; exact hstep pre x xs i a0 hl hi h fun i' b0 hi' h' => by subst hi'; exact ih (pre ++ [x]) (i + 1) b0 (by rw [hl]; simp) (by rw [hi]; simp) h'
  exact key l0 pre0 i0 a0 hl0 hi0 h
theorem loop_list1 {R α : Type} {S0 : Type} {X : Task → Prop} {f m : Nat} {c : Code} {K : Ex → List A → List Blk → Prop} {r : R} (T' : Int → S0 → List A) (S' : Int → S0 → List Blk) (L : List α → Int → S0 → Option R) (l : List α)
    (hstep : ∀ (pre : List α) (x : α) (xs : List α) (i : Int) (a0 : S0), l = pre ++ x :: xs → i = (pre.length : Int) → L (x :: xs) i a0 = some r → (∀ (i' : Int) (b0 : S0), i' = i + 1 → L xs (i + 1) b0 = some r → X (.loop f m c (T' i' b0) (S' i' b0) K)) → X (.loop f m c (T' i a0) (S' i a0) K))
    (hend : ∀ (i : Int) (a0 : S0), i = (l.length : Int) → L [] i a0 = some r → X (.loop f m c (T' i a0) (S' i a0) K)) (a0 : S0) (h : L l 0 a0 = some r) : X (.loop f m c (T' 0 a0) (S' 0 a0) K) := by
  have key : ∀ (xs pre : List α) (i : Int) (a0 : S0), l = pre ++ xs → i = (pre.length : Int) → L xs i a0 = some r → X (.loop f m c (T' i a0) (S' i a0) K) := by
    intro xs
    induction xs with
    | nil => intro pre i a0 hl hi h; exact hend i a0 (by rw [hl, hi]; simp) h
    | cons x xs ih => intro pre i a0 hl hi h; exact hstep pre x xs i a0 hl hi h fun i' b0 hi' h' => by subst hi'; exact ih (pre ++ [x]) (i + 1) b0 (by rw [hl]; simp) (by rw [hi]; simp) h'
  exact key l [] 0 a0 rfl rfl h
theorem loop_fuel1 {R : Type} {S0 : Type} {X : Task → Prop} {f m : Nat} {c : Code} {K : Ex → List A → List Blk → Prop} {r : R} (T' : S0 → List A) (S' : S0 → List Blk) (L : Nat → S0 → Option R)
    (h0 : ∀ (a0 : S0), L 0 a0 = some r → False)
    (hstep : ∀ (n : Nat) (a0 : S0), L (n + 1) a0 = some r → (∀ (b0 : S0), L n b0 = some r → X (.loop f m c (T' b0) (S' b0) K)) → X (.loop f m c (T' a0) (S' a0) K)) (N : Nat) (a0 : S0) (h : L N a0 = some r) : X (.loop f m c (T' a0) (S' a0) K) := by
  induction N generalizing a0 with
  | zero => exact (h0 a0 h).elim
  | succ N ih => exact hstep N a0 h fun b0 h' => ih b0 h'
theorem join1 {R : Type} {S0 : Type} {X : Task → Prop} {f m : Nat} {c : Code} {K : Ex → List A → List Blk → Prop} {r : R} {G : Prop} {j : S0 → Option R} (T' : S0 → List A) (S' : S0 → List Blk)
    (main : Hold (∀ (a0 : S0), j a0 = some r → X (.rest f m c (T' a0) (S' a0) K)) → G) (tail : ∀ (a0 : S0), j a0 = some r → X (.rest f m c (T' a0) (S' a0) K)) : G := main ⟨tail⟩
theorem loop_lisz2 {R α : Type} {S0 S1 : Type} {X : Task → Prop} {f m : Nat} {c : Code} {K : Ex → List A → List Blk → Prop} {r : R} (T' : Int → S0 → S1 → List A) (S' : Int → S0 → S1 → List Blk) (L : List α → S0 → S1 → Option R) (l pre0 l0 : List α) (i0 : Int) (hl0 : l = pre0 ++ l0) (hi0 : i0 = (pre0.length : Int))
    (hstep : ∀ (pre : List α) (x : α) (xs : List α) (i : Int) (a0 : S0) (a1 : S1), l = pre ++ x :: xs → i = (pre.length : Int) → L (x :: xs) a0 a1 = some r → (∀ (i' : Int) (b0 : S0) (b1 : S1), i' = i + 1 → L xs b0 b1 = some r → X (.loop f m c (T' i' b0 b1) (S' i' b0 b1) K)) → X (.loop f m c (T' i a0 a1) (S' i a0 a1) K))
    (hend : ∀ (i : Int) (a0 : S0) (a1 : S1), i = (l.length : Int) → L [] a0 a1 = some r → X (.loop f m c (T' i a0 a1) (S' i a0 a1) K)) (a0 : S0) (a1 : S1) (h : L l0 a0 a1 = some r) : X (.loop f m c (T' i0 a0 a1) (S' i0 a0 a1) K) := by
  have key : ∀ (xs pre : List α) (i : Int) (a0 : S0) (a1 : S1), l = pre ++ xs → i = (pre.length : Int) → L xs a0 a1 = some r → X (.loop f m c (T' i a0 a1) (S' i a0 a1) K) := by
    intro xs
    induction xs with
    | nil => intro pre i a0 a1 hl hi h; exact hend i a0 a1 (by rw [hl, hi]; simp) h
    | cons x xs ih => intro pre i a0 a1 hl hi h; exact hstep pre x xs i a0 a1 hl hi h fun i' b0 b1 hi' h' => by subst hi'; exact ih (pre ++ [x]) (i + 1) b0 b1 (by rw [hl]; simp) (by rw [hi]; simp) h'
  exact key l0 pre0 i0 a0 a1 hl0 hi0 h
theorem loop_lisx2 {R α : Type} {S0 S1 : Type} {X : Task → Prop} {f m : Nat} {c : Code} {K : Ex → List A → List Blk → Prop} {r : R} (T' : Int → S0 → S1 → List A) (S' : Int → S0 → S1 → List Blk) (L : List α → S0 → S1 → Option R) (l : List α)
    (hstep : ∀ (pre : List α) (x : α) (xs : List α) (i : Int) (a0 : S0) (a1 : S1), l = pre ++ x :: xs → i = (pre.length : Int) → L (x :: xs) a0 a1 = some r → (∀ (i' : Int) (b0 : S0) (b1 : S1), i' = i + 1 → L xs b0 b1 = some r → X (.loop f m c (T' i' b0 b1) (S' i' b0 b1) K)) → X (.loop f m c (T' i a0 a1) (S' i a0 a1) K))
    (hend : ∀ (i : Int) (a0 : S0) (a1 : S1), i = (l.length : Int) → L [] a0 a1 = some r → X (.loop f m c (T' i a0 a1) (S' i a0 a1) K)) (a0 : S0) (a1 : S1) (h : L l a0 a1 = some r) : X (.loop f m c (T' 0 a0 a1) (S' 0 a0 a1) K) := by
  have key : ∀ (xs pre : List α) (i : Int) (a0 : S0) (a1 : S1), l = pre ++ xs → i = (pre.length : Int) → L xs a0 a1 = some r → X (.loop f m c (T' i a0 a1) (S' i a0 a1) K) := by
    intro xs
    induction xs with
    | nil => intro pre i a0 a1 hl hi h; exact hend i a0 a1 (by rw [hl, hi]; simp) h
    | cons x xs ih => intro pre i a0 a1 hl hi h; exact hstep pre x xs i a0 a1 hl hi h fun i' b0 b1 hi' h' => by subst hi'; exact ih (pre ++ [x]) (i + 1) b0 b1 (by rw [hl]; simp) (by rw [hi]; simp) h'
  exact key l [] 0 a0 a1 rfl rfl h
theorem loop_lisw2 {R α : Type} {S0 S1 : Type} {X : Task → Prop} {f m : Nat} {c : Code} {K : Ex → List A → List Blk → Prop} {r : R} (T' : Int → S0 → S1 → List A) (S' : Int → S0 → S1 → List Blk) (L : List α → Int → S0 → S1 → Option R) (l pre0 l0 : List α) (i0 : Int) (hl0 : l = pre0 ++ l0) (hi0 : i0 = (pre0.length : Int))
    (hstep : ∀ (pre : List α) (x : α) (xs : List α) (i : Int) (a0 : S0) (a1 : S1), l = pre ++ x :: xs → i = (pre.length : Int) → L (x :: xs) i a0 a1 = some r → (∀ (i' : Int) (b0 : S0) (b1 : S1), i' = i + 1 → L xs (i + 1) b0 b1 = some r → X (.loop f m c (T' i' b0 b1) (S' i' b0 b1) K)) → X (.loop f m c (T' i a0 a1) (S' i a0 a1) K))
    (hend : ∀ (i : Int) (a0 : S0) (a1 : S1), i = (l.length : Int) → L [] i a0 a1 = some r → X (.loop f m c (T' i a0 a1) (S' i a0 a1) K)) (a0 : S0) (a1 : S1) (h : L l0 i0 a0 a1 = some r) : X (.loop f m c (T' i0 a0 a1) (S' i0 a0 a1) K) := by
  have key : ∀ (xs pre : List α) (i : Int) (a0 : S0) (a1 : S1), l = pre ++ xs → i = (pre.length : Int) → L xs i a0 a1 = some r → X (.loop f m c (T' i a0 a1) (S' i a0 a1) K) := by
    intro xs
    induction xs with
    | nil => intro pre i a0 a1 hl hi h; exact hend i a0 a1 (by rw [hl, hi]; simp) h
    | cons x xs ih => intro pre i a0 a1 hl hi h; exact hstep pre x xs i a0 a1 hl hi h fun i' b0 b1 hi' h' => by subst hi'; exact ih (pre ++ [x]) (i + 1) b0 b1 (by rw [hl]; simp) (by rw [hi]; simp) h'
  exact key l0 pre0 i0 a0 a1 hl0 hi0 h
theorem loop_list2 {R α : Type} {S0 S1 : Type} {X : Task → Prop} {f m : Nat} {c : Code} {K : Ex → List A → List Blk → Prop} {r : R} (T' : Int → S0 → S1 → List A) (S' : Int → S0 → S1 → List Blk) (L : List α → Int → S0 → S1 → Option R) (l : List α)
    (hstep : ∀ (pre : List α) (x : α) (xs : List α) (i : Int) (a0 : S0) (a1 : S1), l = pre ++ x :: xs → i = (pre.length : Int) → L (x :: xs) i a0 a1 = some r → (∀ (i' : Int) (b0 : S0) (b1 : S1), i' = i + 1 → L xs (i + 1) b0 b1 = some r → X (.loop f m c (T' i' b0 b1) (S' i' b0 b1) K)) → X (.loop f m c (T' i a0 a1) (S' i a0 a1) K))
    (hend : ∀ (i : Int) (a0 : S0) (a1 : S1), i = (l.length : Int) → L [] i a0 a1 = some r → X (.loop f m c (T' i a0 a1) (S' i a0 a1) K)) (a0 : S0) (a1 : S1) (h : L l 0 a0 a1 = some r) : X (.loop f m c (T' 0 a0 a1) (S' 0 a0 a1) K) := by
  have key : ∀ (xs pre : List α) (i : Int) (a0 : S0) (a1 : S1), l = pre ++ xs → i = (pre.length : Int) → L xs i a0 a1 = some r → X (.loop f m c (T' i a0 a1) (S' i a0 a1) K) := by
    intro xs
    induction xs with
    | nil => intro pre i a0 a1 hl hi h; exact hend i a0 a1 (by rw [hl, hi]; simp) h
    | cons x xs ih => intro pre i a0 a1 hl hi h; exact hstep pre x xs i a0 a1 hl hi h fun i' b0 b1 hi' h' => by subst hi'; exact ih (pre ++ [x]) (i + 1) b0 b1 (by rw [hl]; simp) (by rw [hi]; simp) h'
  exact key l [] 0 a0 a1 rfl rfl h
theorem loop_fuel2 {R : Type} {S0 S1 : Type} {X : Task → Prop} {f m : Nat} {c : Code} {K : Ex → List A → List Blk → Prop} {r : R} (T' : S0 → S1 → List A) (S' : S0 → S1 → List Blk) (L : Nat → S0 → S1 → Option R)
    (h0 : ∀ (a0 : S0) (a1 : S1), L 0 a0 a1 = some r → False)
    (hstep : ∀ (n : Nat) (a0 : S0) (a1 : S1), L (n + 1) a0 a1 = some r → (∀ (b0 : S0) (b1 : S1), L n b0 b1 = some r → X (.loop f m c (T' b0 b1) (S' b0 b1) K)) → X (.loop f m c (T' a0 a1) (S' a0 a1) K)) (N : Nat) (a0 : S0) (a1 : S1) (h : L N a0 a1 = some r) : X (.loop f m c (T' a0 a1) (S' a0 a1) K) := by
  induction N generalizing a0 a1 with
  | zero => exact (h0 a0 a1 h).elim
  | succ N ih => exact hstep N a0 a1 h fun b0 b1 h' => ih b0 b1 h'
theorem join2 {R : Type} {S0 S1 : Type} {X : Task → Prop} {f m : Nat} {c : Code} {K : Ex → List A → List Blk → Prop} {r : R} {G : Prop} {j : S0 → S1 → Option R} (T' : S0 → S1 → List A) (S' : S0 → S1 → List Blk)
    (main : Hold (∀ (a0 : S0) (a1 : S1), j a0 a1 = some r → X (.rest f m c (T' a0 a1) (S' a0 a1) K)) → G) (tail : ∀ (a0 : S0) (a1 : S1), j a0 a1 = some r → X (.rest f m c (T' a0 a1) (S' a0 a1) K)) : G := main ⟨tail⟩
theorem loop_lisz3 {R α : Type} {S0 S1 S2 : Type} {X : Task → Prop} {f m : Nat} {c : Code} {K : Ex → List A → List Blk → Prop} {r : R} (T' : Int → S0 → S1 → S2 → List A) (S' : Int → S0 → S1 → S2 → List Blk) (L : List α → S0 → S1 → S2 → Option R) (l pre0 l0 : List α) (i0 : Int) (hl0 : l = pre0 ++ l0) (hi0 : i0 = (pre0.length : Int))
    (hstep : ∀ (pre : List α) (x : α) (xs : List α) (i : Int) (a0 : S0) (a1 : S1) (a2 : S2), l = pre ++ x :: xs → i = (pre.length : Int) → L (x :: xs) a0 a1 a2 = some r → (∀ (i' : Int) (b0 : S0) (b1 : S1) (b2 : S2), i' = i + 1 → L xs b0 b1 b2 = some r → X (.loop f m c (T' i' b0 b1 b2) (S' i' b0 b1 b2) K)) → X (.loop f m c (T' i a0 a1 a2) (S' i a0 a1 a2) K))
    (hend : ∀ (i : Int) (a0 : S0) (a1 : S1) (a2 : S2), i = (l.length : Int) → L [] a0 a1 a2 = some r → X (.loop f m c (T' i a0 a1 a2) (S' i a0 a1 a2) K)) (a0 : S0) (a1 : S1) (a2 : S2) (h : L l0 a0 a1 a2 = some r) : X (.loop f m c (T' i0 a0 a1 a2) (S' i0 a0 a1 a2) K) := by
  have key : ∀ (xs pre : List α) (i : Int) (a0 : S0) (a1 : S1) (a2 : S2), l = pre ++ xs → i = (pre.length : Int) → L xs a0 a1 a2 = some r → X (.loop f m c (T' i a0 a1 a2) (S' i a0 a1 a2) K) := by
    intro xs
    induction xs with
    | nil => intro pre i a0 a1 a2 hl hi h; exact hend i a0 a1 a2 (by rw [hl, hi]; simp) h
    | cons x xs ih => intro pre i a0 a1 a2 hl hi h; exact hstep pre x xs i a0 a1 a2 hl hi h fun i' b0 b1 b2 hi' h' => by subst hi'; exact ih (pre ++ [x]) (i + 1) b0 b1 b2 (by rw [hl]; simp) (by rw [hi]; simp) h'
  exact key l0 pre0 i0 a0 a1 a2 hl0 hi0 h
theorem loop_lisx3 {R α : Type} {S0 S1 S2 : Type} {X : Task → Prop} {f m : Nat} {c : Code} {K : Ex → List A → List Blk → Prop} {r : R} (T' : Int → S0 → S1 → S2 → List A) (S' : Int → S0 → S1 → S2 → List Blk) (L : List α → S0 → S1 → S2 → Option R) (l : List α)
    (hstep : ∀ (pre : List α) (x : α) (xs : List α) (i : Int) (a0 : S0) (a1 : S1) (a2 : S2), l = pre ++ x :: xs → i = (pre.length : Int) → L (x :: xs) a0 a1 a2 = some r → (∀ (i' : Int) (b0 : S0) (b1 : S1) (b2 : S2), i' = i + 1 → L xs b0 b1 b2 = some r → X (.loop f m c (T' i' b0 b1 b2) (S' i' b0 b1 b2) K)) → X (.loop f m c (T' i a0 a1 a2) (S' i a0 a1 a2) K))
    (hend : ∀ (i : Int) (a0 : S0) (a1 : S1) (a2 : S2), i = (l.length : Int) → L [] a0 a1 a2 = some r → X (.loop f m c (T' i a0 a1 a2) (S' i a0 a1 a2) K)) (a0 : S0) (a1 : S1) (a2 : S2) (h : L l a0 a1 a2 = some r) : X (.loop f m c (T' 0 a0 a1 a2) (S' 0 a0 a1 a2) K) := by
  have key : ∀ (xs pre : List α) (i : Int) (a0 : S0) (a1 : S1) (a2 : S2), l = pre ++ xs → i = (pre.length : Int) → L xs a0 a1 a2 = some r → X (.loop f m c (T' i a0 a1 a2) (S' i a0 a1 a2) K) := by
    intro xs
    induction xs with
    | nil => intro pre i a0 a1 a2 hl hi h; exact hend i a0 a1 a2 (by rw [hl, hi]; simp) h
    | cons x xs ih => intro pre i a0 a1 a2 hl hi h; exact hstep pre x xs i a0 a1 a2 hl hi h fun i' b0 b1 b2 hi' h' => by subst hi'; exact ih (pre ++ [x]) (i + 1) b0 b1 b2 (by rw [hl]; simp) (by rw [hi]; simp) h'
  exact key l [] 0 a0 a1 a2 rfl rfl h
theorem loop_lisw3 {R α : Type} {S0 S1 S2 : Type} {X : Task → Prop} {f m : Nat} {c : Code} {K : Ex → List A → List Blk → Prop} {r : R} (T' : Int → S0 → S1 → S2 → List A) (S' : Int → S0 → S1 → S2 → List Blk) (L : List α → Int → S0 → S1 → S2 → Option R) (l pre0 l0 : List α) (i0 : Int) (hl0 : l = pre0 ++ l0) (hi0 : i0 = (pre0.length : Int))
    (hstep : ∀ (pre : List α) (x : α) (xs : List α) (i : Int) (a0 : S0) (a1 : S1) (a2 : S2), l = pre ++ x :: xs → i = (pre.length : Int) → L (x :: xs) i a0 a1 a2 = some r → (∀ (i' : Int) (b0 : S0) (b1 : S1) (b2 : S2), i' = i + 1 → L xs (i + 1) b0 b1 b2 = some r → X (.loop f m c (T' i' b0 b1 b2) (S' i' b0 b1 b2) K)) → X (.loop f m c (T' i a0 a1 a2) (S' i a0 a1 a2) K))
    (hend : ∀ (i : Int) (a0 : S0) (a1 : S1) (a2 : S2), i = (l.length : Int) → L [] i a0 a1 a2 = some r → X (.loop f m c (T' i a0 a1 a2) (S' i a0 a1 a2) K)) (a0 : S0) (a1 : S1) (a2 : S2) (h : L l0 i0 a0 a1 a2 = some r) : X (.loop f m c (T' i0 a0 a1 a2) (S' i0 a0 a1 a2) K) := by
  have key : ∀ (xs pre : List α) (i : Int) (a0 : S0) (a1 : S1) (a2 : S2), l = pre ++ xs → i = (pre.length : Int) → L xs i a0 a1 a2 = some r → X (.loop f m c (T' i a0 a1 a2) (S' i a0 a1 a2) K) := by
    intro xs
    induction xs with
    | nil => intro pre i a0 a1 a2 hl hi h; exact hend i a0 a1 a2 (by rw [hl, hi]; simp) h
    | cons x xs ih => intro pre i a0 a1 a2 hl hi h; exact hstep pre x xs i a0 a1 a2 hl hi h fun i' b0 b1 b2 hi' h' => by subst hi'; exact ih (pre ++ [x]) (i + 1) b0 b1 b2 (by rw [hl]; simp) (by rw [hi]; simp) h'
  exact key l0 pre0 i0 a0 a1 a2 hl0 hi0 h
theorem loop_list3 {R α : Type} {S0 S1 S2 : Type} {X : Task → Prop} {f m : Nat} {c : Code} {K : Ex → List A → List Blk → Prop} {r : R} (T' : Int → S0 → S1 → S2 → List A) (S' : Int → S0 → S1 → S2 → List Blk) (L : List α → Int → S0 → S1 → S2 → Option R) (l : List α)
    (hstep : ∀ (pre : List α) (x : α) (xs : List α) (i : Int) (a0 : S0) (a1 : S1) (a2 : S2), l = pre ++ x :: xs → i = (pre.length : Int) → L (x :: xs) i a0 a1 a2 = some r → (∀ (i' : Int) (b0 : S0) (b1 : S1) (b2 : S2), i' = i + 1 → L xs (i + 1) b0 b1 b2 = some r → X (.loop f m c (T' i' b0 b1 b2) (S' i' b0 b1 b2) K)) → X (.loop f m c (T' i a0 a1 a2) (S' i a0 a1 a2) K))
    (hend : ∀ (i : Int) (a0 : S0) (a1 : S1) (a2 : S2), i = (l.length : Int) → L [] i a0 a1 a2 = some r → X (.loop f m c (T' i a0 a1 a2) (S' i a0 a1 a2) K)) (a0 : S0) (a1 : S1) (a2 : S2) (h : L l 0 a0 a1 a2 = some r) : X (.loop f m c (T' 0 a0 a1 a2) (S' 0 a0 a1 a2) K) := by
  have key : ∀ (xs pre : List α) (i : Int) (a0 : S0) (a1 : S1) (a2 : S2), l = pre ++ xs → i = (pre.length : Int) → L xs i a0 a1 a2 = some r → X (.loop f m c (T' i a0 a1 a2) (S' i a0 a1 a2) K) := by
    intro xs
    induction xs with
    | nil => intro pre i a0 a1 a2 hl hi h; exact hend i a0 a1 a2 (by rw [hl, hi]; simp) h
    | cons x xs ih => intro pre i a0 a1 a2 hl hi h; exact hstep pre x xs i a0 a1 a2 hl hi h fun i' b0 b1 b2 hi' h' => by subst hi'; exact ih (pre ++ [x]) (i + 1) b0 b1 b2 (by rw [hl]; simp) (by rw [hi]; simp) h'
  exact key l [] 0 a0 a1 a2 rfl rfl h
theorem loop_fuel3 {R : Type} {S0 S1 S2 : Type} {X : Task → Prop} {f m : Nat} {c : Code} {K : Ex → List A → List Blk → Prop} {r : R} (T' : S0 → S1 → S2 → List A) (S' : S0 → S1 → S2 → List Blk) (L : Nat → S0 → S1 → S2 → Option R)
    (h0 : ∀ (a0 : S0) (a1 : S1) (a2 : S2), L 0 a0 a1 a2 = some r → False)
    (hstep : ∀ (n : Nat) (a0 : S0) (a1 : S1) (a2 : S2), L (n + 1) a0 a1 a2 = some r → (∀ (b0 : S0) (b1 : S1) (b2 : S2), L n b0 b1 b2 = some r → X (.loop f m c (T' b0 b1 b2) (S' b0 b1 b2) K)) → X (.loop f m c (T' a0 a1 a2) (S' a0 a1 a2) K)) (N : Nat) (a0 : S0) (a1 : S1) (a2 : S2) (h : L N a0 a1 a2 = some r) : X (.loop f m c (T' a0 a1 a2) (S' a0 a1 a2) K) := by
  induction N generalizing a0 a1 a2 with
  | zero => exact (h0 a0 a1 a2 h).elim
  | succ N ih => exact hstep N a0 a1 a2 h fun b0 b1 b2 h' => ih b0 b1 b2 h'
theorem join3 {R : Type} {S0 S1 S2 : Type} {X : Task → Prop} {f m : Nat} {c : Code} {K : Ex → List A → List Blk → Prop} {r : R} {G : Prop} {j : S0 → S1 → S2 → Option R} (T' : S0 → S1 → S2 → List A) (S' : S0 → S1 → S2 → List Blk)
    (main : Hold (∀ (a0 : S0) (a1 : S1) (a2 : S2), j a0 a1 a2 = some r → X (.rest f m c (T' a0 a1 a2) (S' a0 a1 a2) K)) → G) (tail : ∀ (a0 : S0) (a1 : S1) (a2 : S2), j a0 a1 a2 = some r → X (.rest f m c (T' a0 a1 a2) (S' a0 a1 a2) K)) : G := main ⟨tail⟩
theorem loop_lisz4 {R α : Type} {S0 S1 S2 S3 : Type} {X : Task → Prop} {f m : Nat} {c : Code} {K : Ex → List A → List Blk → Prop} {r : R} (T' : Int → S0 → S1 → S2 → S3 → List A) (S' : Int → S0 → S1 → S2 → S3 → List Blk) (L : List α → S0 → S1 → S2 → S3 → Option R) (l pre0 l0 : List α) (i0 : Int) (hl0 : l = pre0 ++ l0) (hi0 : i0 = (pre0.length : Int))
    (hstep : ∀ (pre : List α) (x : α) (xs : List α) (i : Int) (a0 : S0) (a1 : S1) (a2 : S2) (a3 : S3), l = pre ++ x :: xs → i = (pre.length : Int) → L (x :: xs) a0 a1 a2 a3 = some r → (∀ (i' : Int) (b0 : S0) (b1 : S1) (b2 : S2) (b3 : S3), i' = i + 1 → L xs b0 b1 b2 b3 = some r → X (.loop f m c (T' i' b0 b1 b2 b3) (S' i' b0 b1 b2 b3) K)) → X (.loop f m c (T' i a0 a1 a2 a3) (S' i a0 a1 a2 a3) K))
    (hend : ∀ (i : Int) (a0 : S0) (a1 : S1) (a2 : S2) (a3 : S3), i = (l.length : Int) → L [] a0 a1 a2 a3 = some r → X (.loop f m c (T' i a0 a1 a2 a3) (S' i a0 a1 a2 a3) K)) (a0 : S0) (a1 : S1) (a2 : S2) (a3 : S3) (h : L l0 a0 a1 a2 a3 = some r) : X (.loop f m c (T' i0 a0 a1 a2 a3) (S' i0 a0 a1 a2 a3) K) := by
  have key : ∀ (xs pre : List α) (i : Int) (a0 : S0) (a1 : S1) (a2 : S2) (a3 : S3), l = pre ++ xs → i = (pre.length : Int) → L xs a0 a1 a2 a3 = some r → X (.loop f m c (T' i a0 a1 a2 a3) (S' i a0 a1 a2 a3) K) := by
    intro xs
    induction xs with
    | nil => intro pre i a0 a1 a2 a3 hl hi h; exact hend i a0 a1 a2 a3 (by rw [hl, hi]; simp) h
    | cons x xs ih => intro pre i a0 a1 a2 a3 hl hi h; exact hstep pre x xs i a0 a1 a2 a3 hl hi h fun i' b0 b1 b2 b3 hi' h' => by subst hi'; exact ih (pre ++ [x]) (i + 1) b0 b1 b2 b3 (by rw [hl]; simp) (by rw [hi]; simp) h'
  exact key l0 pre0 i0 a0 a1 a2 a3 hl0 hi0 h
theorem loop_lisx4 {R α : Type} {S0 S1 S2 S3 : Type} {X : Task → Prop} {f m : Nat} {c : Code} {K : Ex → List A → List Blk → Prop} {r : R} (T' : Int → S0 → S1 → S2 → S3 → List A) (S' : Int → S0 → S1 → S2 → S3 → List Blk) (L : List α → S0 → S1 → S2 → S3 → Option R) (l : List α)
    (hstep : ∀ (pre : List α) (x : α) (xs : List α) (i : Int) (a0 : S0) (a1 : S1) (a2 : S2) (a3 : S3), l = pre ++ x :: xs → i = (pre.length : Int) → L (x :: xs) a0 a1 a2 a3 = some r → (∀ (i' : Int) (b0 : S0) (b1 : S1) (b2 : S2) (b3 : S3), i' = i + 1 → L xs b0 b1 b2 b3 = some r → X (.loop f m c (T' i' b0 b1 b2 b3) (S' i' b0 b1 b2 b3) K)) → X (.loop f m c (T' i a0 a1 a2 a3) (S' i a0 a1 a2 a3) K))
    (hend : ∀ (i : Int) (a0 : S0) (a1 : S1) (a2 : S2) (a3 : S3), i = (l.length : Int) → L [] a0 a1 a2 a3 = some r → X (.loop f m c (T' i a0 a1 a2 a3) (S' i a0 a1 a2 a3) K)) (a0 : S0) (a1 : S1) (a2 : S2) (a3 : S3) (h : L l a0 a1 a2 a3 = some r) : X (.loop f m c (T' 0 a0 a1 a2 a3) (S' 0 a0 a1 a2 a3) K) := by
  have key : ∀ (xs pre : List α) (i : Int) (a0 : S0) (a1 : S1) (a2 : S2) (a3 : S3), l = pre ++ xs → i = (pre.length : Int) → L xs a0 a1 a2 a3 = some r → X (.loop f m c (T' i a0 a1 a2 a3) (S' i a0 a1 a2 a3) K) := by
    intro xs
    induction xs with
    | nil => intro pre i a0 a1 a2 a3 hl hi h; exact hend i a0 a1 a2 a3 (by rw [hl, hi]; simp) h
    | cons x xs ih => intro pre i a0 a1 a2 a3 hl hi h; exact hstep pre x xs i a0 a1 a2 a3 hl hi h fun i' b0 b1 b2 b3 hi' h' => by subst hi'; exact ih (pre ++ [x]) (i + 1) b0 b1 b2 b3 (by rw [hl]; simp) (by rw [hi]; simp) h'
  exact key l [] 0 a0 a1 a2 a3 rfl rfl h
theorem loop_lisw4 {R α : Type} {S0 S1 S2 S3 : Type} {X : Task → Prop} {f m : Nat} {c : Code} {K : Ex → List A → List Blk → Prop} {r : R} (T' : Int → S0 → S1 → S2 → S3 → List A) (S' : Int → S0 → S1 → S2 → S3 → List Blk) (L : List α → Int → S0 → S1 → S2 → S3 → Option R) (l pre0 l0 : List α) (i0 : Int) (hl0 : l = pre0 ++ l0) (hi0 : i0 = (pre0.length : Int))
    (hstep : ∀ (pre : List α) (x : α) (xs : List α) (i : Int) (a0 : S0) (a1 : S1) (a2 : S2) (a3 : S3), l = pre ++ x :: xs → i = (pre.length : Int) → L (x :: xs) i a0 a1 a2 a3 = some r → (∀ (i' : Int) (b0 : S0) (b1 : S1) (b2 : S2) (b3 : S3), i' = i + 1 → L xs (i + 1) b0 b1 b2 b3 = some r → X (.loop f m c (T' i' b0 b1 b2 b3) (S' i' b0 b1 b2 b3) K)) → X (.loop f m c (T' i a0 a1 a2 a3) (S' i a0 a1 a2 a3) K))
    (hend : ∀ (i : Int) (a0 : S0) (a1 : S1) (a2 : S2) (a3 : S3), i = (l.length : Int) → L [] i a0 a1 a2 a3 = some r → X (.loop f m c (T' i a0 a1 a2 a3) (S' i a0 a1 a2 a3) K)) (a0 : S0) (a1 : S1) (a2 : S2) (a3 : S3) (h : L l0 i0 a0 a1 a2 a3 = some r) : X (.loop f m c (T' i0 a0 a1 a2 a3) (S' i0 a0 a1 a2 a3) K) := by
  have key : ∀ (xs pre : List α) (i : Int) (a0 : S0) (a1 : S1) (a2 : S2) (a3 : S3), l = pre ++ xs → i = (pre.length : Int) → L xs i a0 a1 a2 a3 = some r → X (.loop f m c (T' i a0 a1 a2 a3) (S' i a0 a1 a2 a3) K) := by
    intro xs
    induction xs with
    | nil => intro pre i a0 a1 a2 a3 hl hi h; exact hend i a0 a1 a2 a3 (by rw [hl, hi]; simp) h
    | cons x xs ih => intro pre i a0 a1 a2 a3 hl hi h; exact hstep pre x xs i a0 a1 a2 a3 hl hi h fun i' b0 b1 b2 b3 hi' h' => by subst hi'; exact ih (pre ++ [x]) (i + 1) b0 b1 b2 b3 (by rw [hl]; simp) (by rw [hi]; simp) h'
  exact key l0 pre0 i0 a0 a1 a2 a3 hl0 hi0 h
theorem loop_list4 {R α : Type} {S0 S1 S2 S3 : Type} {X : Task → Prop} {f m : Nat} {c : Code} {K : Ex → List A → List Blk → Prop} {r : R} (T' : Int → S0 → S1 → S2 → S3 → List A) (S' : Int → S0 → S1 → S2 → S3 → List Blk) (L : List α → Int → S0 → S1 → S2 → S3 → Option R) (l : List α)
    (hstep : ∀ (pre : List α) (x : α) (xs : List α) (i : Int) (a0 : S0) (a1 : S1) (a2 : S2) (a3 : S3), l = pre ++ x :: xs → i = (pre.length : Int) → L (x :: xs) i a0 a1 a2 a3 = some r → (∀ (i' : Int) (b0 : S0) (b1 : S1) (b2 : S2) (b3 : S3), i' = i + 1 → L xs (i + 1) b0 b1 b2 b3 = some r → X (.loop f m c (T' i' b0 b1 b2 b3) (S' i' b0 b1 b2 b3) K)) → X (.loop f m c (T' i a0 a1 a2 a3) (S' i a0 a1 a2 a3) K))
    (hend : ∀ (i : Int) (a0 : S0) (a1 : S1) (a2 : S2) (a3 : S3), i = (l.length : Int) → L [] i a0 a1 a2 a3 = some r → X (.loop f m c (T' i a0 a1 a2 a3) (S' i a0 a1 a2 a3) K)) (a0 : S0) (a1 : S1) (a2 : S2) (a3 : S3) (h : L l 0 a0 a1 a2 a3 = some r) : X (.loop f m c (T' 0 a0 a1 a2 a3) (S' 0 a0 a1 a2 a3) K) := by
  have key : ∀ (xs pre : List α) (i : Int) (a0 : S0) (a1 : S1) (a2 : S2) (a3 : S3), l = pre ++ xs → i = (pre.length : Int) → L xs i a0 a1 a2 a3 = some r → X (.loop f m c (T' i a0 a1 a2 a3) (S' i a0 a1 a2 a3) K) := by
    intro xs
    induction xs with
    | nil => intro pre i a0 a1 a2 a3 hl hi h; exact hend i a0 a1 a2 a3 (by rw [hl, hi]; simp) h
    | cons x xs ih => intro pre i a0 a1 a2 a3 hl hi h; exact hstep pre x xs i a0 a1 a2 a3 hl hi h fun i' b0 b1 b2 b3 hi' h' => by subst hi'; exact ih (pre ++ [x]) (i + 1) b0 b1 b2 b3 (by rw [hl]; simp) (by rw [hi]; simp) h'
  exact key l [] 0 a0 a1 a2 a3 rfl rfl h
theorem loop_fuel4 {R : Type} {S0 S1 S2 S3 : Type} {X : Task → Prop} {f m : Nat} {c : Code} {K : Ex → List A → List Blk → Prop} {r : R} (T' : S0 → S1 → S2 → S3 → List A) (S' : S0 → S1 → S2 → S3 → List Blk) (L : Nat → S0 → S1 → S2 → S3 → Option R)
    (h0 : ∀ (a0 : S0) (a1 : S1) (a2 : S2) (a3 : S3), L 0 a0 a1 a2 a3 = some r → False)
    (hstep : ∀ (n : Nat) (a0 : S0) (a1 : S1) (a2 : S2) (a3 : S3), L (n + 1) a0 a1 a2 a3 = some r → (∀ (b0 : S0) (b1 : S1) (b2 : S2) (b3 : S3), L n b0 b1 b2 b3 = some r → X (.loop f m c (T' b0 b1 b2 b3) (S' b0 b1 b2 b3) K)) → X (.loop f m c (T' a0 a1 a2 a3) (S' a0 a1 a2 a3) K)) (N : Nat) (a0 : S0) (a1 : S1) (a2 : S2) (a3 : S3) (h : L N a0 a1 a2 a3 = some r) : X (.loop f m c (T' a0 a1 a2 a3) (S' a0 a1 a2 a3) K) := by
  induction N generalizing a0 a1 a2 a3 with
  | zero => exact (h0 a0 a1 a2 a3 h).elim
  | succ N ih => exact hstep N a0 a1 a2 a3 h fun b0 b1 b2 b3 h' => ih b0 b1 b2 b3 h'
theorem join4 {R : Type} {S0 S1 S2 S3 : Type} {X : Task → Prop} {f m : Nat} {c : Code} {K : Ex → List A → List Blk → Prop} {r : R} {G : Prop} {j : S0 → S1 → S2 → S3 → Option R} (T' : S0 → S1 → S2 → S3 → List A) (S' : S0 → S1 → S2 → S3 → List Blk)
    (main : Hold (∀ (a0 : S0) (a1 : S1) (a2 : S2) (a3 : S3), j a0 a1 a2 a3 = some r → X (.rest f m c (T' a0 a1 a2 a3) (S' a0 a1 a2 a3) K)) → G) (tail : ∀ (a0 : S0) (a1 : S1) (a2 : S2) (a3 : S3), j a0 a1 a2 a3 = some r → X (.rest f m c (T' a0 a1 a2 a3) (S' a0 a1 a2 a3) K)) : G := main ⟨tail⟩
theorem loop_lisz5 {R α : Type} {S0 S1 S2 S3 S4 : Type} {X : Task → Prop} {f m : Nat} {c : Code} {K : Ex → List A → List Blk → Prop} {r : R} (T' : Int → S0 → S1 → S2 → S3 → S4 → List A) (S' : Int → S0 → S1 → S2 → S3 → S4 → List Blk) (L : List α → S0 → S1 → S2 → S3 → S4 → Option R) (l pre0 l0 : List α) (i0 : Int) (hl0 : l = pre0 ++ l0) (hi0 : i0 = (pre0.length : Int))
    (hstep : ∀ (pre : List α) (x : α) (xs : List α) (i : Int) (a0 : S0) (a1 : S1) (a2 : S2) (a3 : S3) (a4 : S4), l = pre ++ x :: xs → i = (pre.length : Int) → L (x :: xs) a0 a1 a2 a3 a4 = some r → (∀ (i' : Int) (b0 : S0) (b1 : S1) (b2 : S2) (b3 : S3) (b4 : S4), i' = i + 1 → L xs b0 b1 b2 b3 b4 = some r → X (.loop f m c (T' i' b0 b1 b2 b3 b4) (S' i' b0 b1 b2 b3 b4) K)) → X (.loop f m c (T' i a0 a1 a2 a3 a4) (S' i a0 a1 a2 a3 a4) K))
    (hend : ∀ (i : Int) (a0 : S0) (a1 : S1) (a2 : S2) (a3 : S3) (a4 : S4), i = (l.length : Int) → L [] a0 a1 a2 a3 a4 = some r → X (.loop f m c (T' i a0 a1 a2 a3 a4) (S' i a0 a1 a2 a3 a4) K)) (a0 : S0) (a1 : S1) (a2 : S2) (a3 : S3) (a4 : S4) (h : L l0 a0 a1 a2 a3 a4 = some r) : X (.loop f m c (T' i0 a0 a1 a2 a3 a4) (S' i0 a0 a1 a2 a3 a4) K) := by
  have key : ∀ (xs pre : List α) (i : Int) (a0 : S0) (a1 : S1) (a2 : S2) (a3 : S3) (a4 : S4), l = pre ++ xs → i = (pre.length : Int) → L xs a0 a1 a2 a3 a4 = some r → X (.loop f m c (T' i a0 a1 a2 a3 a4) (S' i a0 a1 a2 a3 a4) K) := by
    intro xs
    induction xs with
    | nil => intro pre i a0 a1 a2 a3 a4 hl hi h; exact hend i a0 a1 a2 a3 a4 (by rw [hl, hi]; simp) h
    | cons x xs ih => intro pre i a0 a1 a2 a3 a4 hl hi h; exact hstep pre x xs i a0 a1 a2 a3 a4 hl hi h fun i' b0 b1 b2 b3 b4 hi' h' => by subst hi'; exact ih (pre ++ [x]) (i + 1) b0 b1 b2 b3 b4 (by rw [hl]; simp) (by rw [hi]; simp) h'
  exact key l0 pre0 i0 a0 a1 a2 a3 a4 hl0 hi0 h
theorem loop_lisx5 {R α : Type} {S0 S1 S2 S3 S4 : Type} {X : Task → Prop} {f m : Nat} {c : Code} {K : Ex → List A → List Blk → Prop} {r : R} (T' : Int → S0 → S1 → S2 → S3 → S4 → List A) (S' : Int → S0 → S1 → S2 → S3 → S4 → List Blk) (L : List α → S0 → S1 → S2 → S3 → S4 → Option R) (l : List α)
    (hstep : ∀ (pre : List α) (x : α) (xs : List α) (i : Int) (a0 : S0) (a1 : S1) (a2 : S2) (a3 : S3) (a4 : S4), l = pre ++ x :: xs → i = (pre.length : Int) → L (x :: xs) a0 a1 a2 a3 a4 = some r → (∀ (i' : Int) (b0 : S0) (b1 : S1) (b2 : S2) (b3 : S3) (b4 : S4), i' = i + 1 → L xs b0 b1 b2 b3 b4 = some r → X (.loop f m c (T' i' b0 b1 b2 b3 b4) (S' i' b0 b1 b2 b3 b4) K)) → X (.loop f m c (T' i a0 a1 a2 a3 a4) (S' i a0 a1 a2 a3 a4) K))
    (hend : ∀ (i : Int) (a0 : S0) (a1 : S1) (a2 : S2) (a3 : S3) (a4 : S4), i = (l.length : Int) → L [] a0 a1 a2 a3 a4 = some r → X (.loop f m c (T' i a0 a1 a2 a3 a4) (S' i a0 a1 a2 a3 a4) K)) (a0 : S0) (a1 : S1) (a2 : S2) (a3 : S3) (a4 : S4) (h : L l a0 a1 a2 a3 a4 = some r) : X (.loop f m c (T' 0 a0 a1 a2 a3 a4) (S' 0 a0 a1 a2 a3 a4) K) := by
  have key : ∀ (xs pre : List α) (i : Int) (a0 : S0) (a1 : S1) (a2 : S2) (a3 : S3) (a4 : S4), l = pre ++ xs → i = (pre.length : Int) → L xs a0 a1 a2 a3 a4 = some r → X (.loop f m c (T' i a0 a1 a2 a3 a4) (S' i a0 a1 a2 a3 a4) K) := by
    intro xs
    induction xs with
    | nil => intro pre i a0 a1 a2 a3 a4 hl hi h; exact hend i a0 a1 a2 a3 a4 (by rw [hl, hi]; simp) h
    | cons x xs ih => intro pre i a0 a1 a2 a3 a4 hl hi h; exact hstep pre x xs i a0 a1 a2 a3 a4 hl hi h fun i' b0 b1 b2 b3 b4 hi' h' => by subst hi'; exact ih (pre ++ [x]) (i + 1) b0 b1 b2 b3 b4 (by rw [hl]; simp) (by rw [hi]; simp) h'
  exact key l [] 0 a0 a1 a2 a3 a4 rfl rfl h
theorem loop_lisw5 {R α : Type} {S0 S1 S2 S3 S4 : Type} {X : Task → Prop} {f m : Nat} {c : Code} {K : Ex → List A → List Blk → Prop} {r : R} (T' : Int → S0 → S1 → S2 → S3 → S4 → List A) (S' : Int → S0 → S1 → S2 → S3 → S4 → List Blk) (L : List α → Int → S0 → S1 → S2 → S3 → S4 → Option R) (l pre0 l0 : List α) (i0 : Int) (hl0 : l = pre0 ++ l0) (hi0 : i0 = (pre0.length : Int))
    (hstep : ∀ (pre : List α) (x : α) (xs : List α) (i : Int) (a0 : S0) (a1 : S1) (a2 : S2) (a3 : S3) (a4 : S4), l = pre ++ x :: xs → i = (pre.length : Int) → L (x :: xs) i a0 a1 a2 a3 a4 = some r → (∀ (i' : Int) (b0 : S0) (b1 : S1) (b2 : S2) (b3 : S3) (b4 : S4), i' = i + 1 → L xs (i + 1) b0 b1 b2 b3 b4 = some r → X (.loop f m c (T' i' b0 b1 b2 b3 b4) (S' i' b0 b1 b2 b3 b4) K)) → X (.loop f m c (T' i a0 a1 a2 a3 a4) (S' i a0 a1 a2 a3 a4) K))
    (hend : ∀ (i : Int) (a0 : S0) (a1 : S1) (a2 : S2) (a3 : S3) (a4 : S4), i = (l.length : Int) → L [] i a0 a1 a2 a3 a4 = some r → X (.loop f m c (T' i a0 a1 a2 a3 a4) (S' i a0 a1 a2 a3 a4) K)) (a0 : S0) (a1 : S1) (a2 : S2) (a3 : S3) (a4 : S4) (h : L l0 i0 a0 a1 a2 a3 a4 = some r) : X (.loop f m c (T' i0 a0 a1 a2 a3 a4) (S' i0 a0 a1 a2 a3 a4) K) := by
  have key : ∀ (xs pre : List α) (i : Int) (a0 : S0) (a1 : S1) (a2 : S2) (a3 : S3) (a4 : S4), l = pre ++ xs → i = (pre.length : Int) → L xs i a0 a1 a2 a3 a4 = some r → X (.loop f m c (T' i a0 a1 a2 a3 a4) (S' i a0 a1 a2 a3 a4) K) := by
    intro xs
    induction xs with
    | nil => intro pre i a0 a1 a2 a3 a4 hl hi h; exact hend i a0 a1 a2 a3 a4 (by rw [hl, hi]; simp) h
    | cons x xs ih => intro pre i a0 a1 a2 a3 a4 hl hi h; exact hstep pre x xs i a0 a1 a2 a3 a4 hl hi h fun i' b0 b1 b2 b3 b4 hi' h' => by subst hi'; exact ih (pre ++ [x]) (i + 1) b0 b1 b2 b3 b4 (by rw [hl]; simp) (by rw [hi]; simp) h'
  exact key l0 pre0 i0 a0 a1 a2 a3 a4 hl0 hi0 h
theorem loop_list5 {R α : Type} {S0 S1 S2 S3 S4 : Type} {X : Task → Prop} {f m : Nat} {c : Code} {K : Ex → List A → List Blk → Prop} {r : R} (T' : Int → S0 → S1 → S2 → S3 → S4 → List A) (S' : Int → S0 → S1 → S2 → S3 → S4 → List Blk) (L : List α → Int → S0 → S1 → S2 → S3 → S4 → Option R) (l : List α)
    (hstep : ∀ (pre : List α) (x : α) (xs : List α) (i : Int) (a0 : S0) (a1 : S1) (a2 : S2) (a3 : S3) (a4 : S4), l = pre ++ x :: xs → i = (pre.length : Int) → L (x :: xs) i a0 a1 a2 a3 a4 = some r → (∀ (i' : Int) (b0 : S0) (b1 : S1) (b2 : S2) (b3 : S3) (b4 : S4), i' = i + 1 → L xs (i + 1) b0 b1 b2 b3 b4 = some r → X (.loop f m c (T' i' b0 b1 b2 b3 b4) (S' i' b0 b1 b2 b3 b4) K)) → X (.loop f m c (T' i a0 a1 a2 a3 a4) (S' i a0 a1 a2 a3 a4) K))
    (hend : ∀ (i : Int) (a0 : S0) (a1 : S1) (a2 : S2) (a3 : S3) (a4 : S4), i = (l.length : Int) → L [] i a0 a1 a2 a3 a4 = some r → X (.loop f m c (T' i a0 a1 a2 a3 a4) (S' i a0 a1 a2 a3 a4) K)) (a0 : S0) (a1 : S1) (a2 : S2) (a3 : S3) (a4 : S4) (h : L l 0 a0 a1 a2 a3 a4 = some r) : X (.loop f m c (T' 0 a0 a1 a2 a3 a4) (S' 0 a0 a1 a2 a3 a4) K) := by
  have key : ∀ (xs pre : List α) (i : Int) (a0 : S0) (a1 : S1) (a2 : S2) (a3 : S3) (a4 : S4), l = pre ++ xs → i = (pre.length : Int) → L xs i a0 a1 a2 a3 a4 = some r → X (.loop f m c (T' i a0 a1 a2 a3 a4) (S' i a0 a1 a2 a3 a4) K) := by
    intro xs
    induction xs with
    | nil => intro pre i a0 a1 a2 a3 a4 hl hi h; exact hend i a0 a1 a2 a3 a4 (by rw [hl, hi]; simp) h
    | cons x xs ih => intro pre i a0 a1 a2 a3 a4 hl hi h; exact hstep pre x xs i a0 a1 a2 a3 a4 hl hi h fun i' b0 b1 b2 b3 b4 hi' h' => by subst hi'; exact ih (pre ++ [x]) (i + 1) b0 b1 b2 b3 b4 (by rw [hl]; simp) (by rw [hi]; simp) h'
  exact key l [] 0 a0 a1 a2 a3 a4 rfl rfl h
theorem loop_fuel5 {R : Type} {S0 S1 S2 S3 S4 : Type} {X : Task → Prop} {f m : Nat} {c : Code} {K : Ex → List A → List Blk → Prop} {r : R} (T' : S0 → S1 → S2 → S3 → S4 → List A) (S' : S0 → S1 → S2 → S3 → S4 → List Blk) (L : Nat → S0 → S1 → S2 → S3 → S4 → Option R)
    (h0 : ∀ (a0 : S0) (a1 : S1) (a2 : S2) (a3 : S3) (a4 : S4), L 0 a0 a1 a2 a3 a4 = some r → False)
    (hstep : ∀ (n : Nat) (a0 : S0) (a1 : S1) (a2 : S2) (a3 : S3) (a4 : S4), L (n + 1) a0 a1 a2 a3 a4 = some r → (∀ (b0 : S0) (b1 : S1) (b2 : S2) (b3 : S3) (b4 : S4), L n b0 b1 b2 b3 b4 = some r → X (.loop f m c (T' b0 b1 b2 b3 b4) (S' b0 b1 b2 b3 b4) K)) → X (.loop f m c (T' a0 a1 a2 a3 a4) (S' a0 a1 a2 a3 a4) K)) (N : Nat) (a0 : S0) (a1 : S1) (a2 : S2) (a3 : S3) (a4 : S4) (h : L N a0 a1 a2 a3 a4 = some r) : X (.loop f m c (T' a0 a1 a2 a3 a4) (S' a0 a1 a2 a3 a4) K) := by
  induction N generalizing a0 a1 a2 a3 a4 with
  | zero => exact (h0 a0 a1 a2 a3 a4 h).elim
  | succ N ih => exact hstep N a0 a1 a2 a3 a4 h fun b0 b1 b2 b3 b4 h' => ih b0 b1 b2 b3 b4 h'
theorem join5 {R : Type} {S0 S1 S2 S3 S4 : Type} {X : Task → Prop} {f m : Nat} {c : Code} {K : Ex → List A → List Blk → Prop} {r : R} {G : Prop} {j : S0 → S1 → S2 → S3 → S4 → Option R} (T' : S0 → S1 → S2 → S3 → S4 → List A) (S' : S0 → S1 → S2 → S3 → S4 → List Blk)
    (main : Hold (∀ (a0 : S0) (a1 : S1) (a2 : S2) (a3 : S3) (a4 : S4), j a0 a1 a2 a3 a4 = some r → X (.rest f m c (T' a0 a1 a2 a3 a4) (S' a0 a1 a2 a3 a4) K)) → G) (tail : ∀ (a0 : S0) (a1 : S1) (a2 : S2) (a3 : S3) (a4 : S4), j a0 a1 a2 a3 a4 = some r → X (.rest f m c (T' a0 a1 a2 a3 a4) (S' a0 a1 a2 a3 a4) K)) : G := main ⟨tail⟩
theorem loop_lisz6 {R α : Type} {S0 S1 S2 S3 S4 S5 : Type} {X : Task → Prop} {f m : Nat} {c : Code} {K : Ex → List A → List Blk → Prop} {r : R} (T' : Int → S0 → S1 → S2 → S3 → S4 → S5 → List A) (S' : Int → S0 → S1 → S2 → S3 → S4 → S5 → List Blk) (L : List α → S0 → S1 → S2 → S3 → S4 → S5 → Option R) (l pre0 l0 : List α) (i0 : Int) (hl0 : l = pre0 ++ l0) (hi0 : i0 = (pre0.length : Int))
    (hstep : ∀ (pre : List α) (x : α) (xs : List α) (i : Int) (a0 : S0) (a1 : S1) (a2 : S2) (a3 : S3) (a4 : S4) (a5 : S5), l = pre ++ x :: xs → i = (pre.length : Int) → L (x :: xs) a0 a1 a2 a3 a4 a5 = some r → (∀ (i' : Int) (b0 : S0) (b1 : S1) (b2 : S2) (b3 : S3) (b4 : S4) (b5 : S5), i' = i + 1 → L xs b0 b1 b2 b3 b4 b5 = some r → X (.loop f m c (T' i' b0 b1 b2 b3 b4 b5) (S' i' b0 b1 b2 b3 b4 b5) K)) → X (.loop f m c (T' i a0 a1 a2 a3 a4 a5) (S' i a0 a1 a2 a3 a4 a5) K))
    (hend : ∀ (i : Int) (a0 : S0) (a1 : S1) (a2 : S2) (a3 : S3) (a4 : S4) (a5 : S5), i = (l.length : Int) → L [] a0 a1 a2 a3 a4 a5 = some r → X (.loop f m c (T' i a0 a1 a2 a3 a4 a5) (S' i a0 a1 a2 a3 a4 a5) K)) (a0 : S0) (a1 : S1) (a2 : S2) (a3 : S3) (a4 : S4) (a5 : S5) (h : L l0 a0 a1 a2 a3 a4 a5 = some r) : X (.loop f m c (T' i0 a0 a1 a2 a3 a4 a5) (S' i0 a0 a1 a2 a3 a4 a5) K) := by
  have key : ∀ (xs pre : List α) (i : Int) (a0 : S0) (a1 : S1) (a2 : S2) (a3 : S3) (a4 : S4) (a5 : S5), l = pre ++ xs → i = (pre.length : Int) → L xs a0 a1 a2 a3 a4 a5 = some r → X (.loop f m c (T' i a0 a1 a2 a3 a4 a5) (S' i a0 a1 a2 a3 a4 a5) K) := by
    intro xs
    induction xs with
    | nil => intro pre i a0 a1 a2 a3 a4 a5 hl hi h; exact hend i a0 a1 a2 a3 a4 a5 (by rw [hl, hi]; simp) h
    | cons x xs ih => intro pre i a0 a1 a2 a3 a4 a5 hl hi h; exact hstep pre x xs i a0 a1 a2 a3 a4 a5 hl hi h fun i' b0 b1 b2 b3 b4 b5 hi' h' => by subst hi'; exact ih (pre ++ [x]) (i + 1) b0 b1 b2 b3 b4 b5 (by rw [hl]; simp) (by rw [hi]; simp) h'
  exact key l0 pre0 i0 a0 a1 a2 a3 a4 a5 hl0 hi0 h
theorem loop_lisx6 {R α : Type} {S0 S1 S2 S3 S4 S5 : Type} {X : Task → Prop} {f m : Nat} {c : Code} {K : Ex → List A → List Blk → Prop} {r : R} (T' : Int → S0 → S1 → S2 → S3 → S4 → S5 → List A) (S' : Int → S0 → S1 → S2 → S3 → S4 → S5 → List Blk) (L : List α → S0 → S1 → S2 → S3 → S4 → S5 → Option R) (l : List α)
    (hstep : ∀ (pre : List α) (x : α) (xs : List α) (i : Int) (a0 : S0) (a1 : S1) (a2 : S2) (a3 : S3) (a4 : S4) (a5 : S5), l = pre ++ x :: xs → i = (pre.length : Int) → L (x :: xs) a0 a1 a2 a3 a4 a5 = some r → (∀ (i' : Int) (b0 : S0) (b1 : S1) (b2 : S2) (b3 : S3) (b4 : S4) (b5 : S5), i' = i + 1 → L xs b0 b1 b2 b3 b4 b5 = some r → X (.loop f m c (T' i' b0 b1 b2 b3 b4 b5) (S' i' b0 b1 b2 b3 b4 b5) K)) → X (.loop f m c (T' i a0 a1 a2 a3 a4 a5) (S' i a0 a1 a2 a3 a4 a5) K))
    (hend : ∀ (i : Int) (a0 : S0) (a1 : S1) (a2 : S2) (a3 : S3) (a4 : S4) (a5 : S5), i = (l.length : Int) → L [] a0 a1 a2 a3 a4 a5 = some r → X (.loop f m c (T' i a0 a1 a2 a3 a4 a5) (S' i a0 a1 a2 a3 a4 a5) K)) (a0 : S0) (a1 : S1) (a2 : S2) (a3 : S3) (a4 : S4) (a5 : S5) (h : L l a0 a1 a2 a3 a4 a5 = some r) : X (.loop f m c (T' 0 a0 a1 a2 a3 a4 a5) (S' 0 a0 a1 a2 a3 a4 a5) K) := by
  have key : ∀ (xs pre : List α) (i : Int) (a0 : S0) (a1 : S1) (a2 : S2) (a3 : S3) (a4 : S4) (a5 : S5), l = pre ++ xs → i = (pre.length : Int) → L xs a0 a1 a2 a3 a4 a5 = some r → X (.loop f m c (T' i a0 a1 a2 a3 a4 a5) (S' i a0 a1 a2 a3 a4 a5) K) := by
    intro xs
    induction xs with
    | nil => intro pre i a0 a1 a2 a3 a4 a5 hl hi h; exact hend i a0 a1 a2 a3 a4 a5 (by rw [hl, hi]; simp) h
    | cons x xs ih => intro pre i a0 a1 a2 a3 a4 a5 hl hi h; exact hstep pre x xs i a0 a1 a2 a3 a4 a5 hl hi h fun i' b0 b1 b2 b3 b4 b5 hi' h' => by subst hi'; exact ih (pre ++ [x]) (i + 1) b0 b1 b2 b3 b4 b5 (by rw [hl]; simp) (by rw [hi]; simp) h'
  exact key l [] 0 a0 a1 a2 a3 a4 a5 rfl rfl h
theorem loop_lisw6 {R α : Type} {S0 S1 S2 S3 S4 S5 : Type} {X : Task → Prop} {f m : Nat} {c : Code} {K : Ex → List A → List Blk → Prop} {r : R} (T' : Int → S0 → S1 → S2 → S3 → S4 → S5 → List A) (S' : Int → S0 → S1 → S2 → S3 → S4 → S5 → List Blk) (L : List α → Int → S0 → S1 → S2 → S3 → S4 → S5 → Option R) (l pre0 l0 : List α) (i0 : Int) (hl0 : l = pre0 ++ l0) (hi0 : i0 = (pre0.length : Int))
    (hstep : ∀ (pre : List α) (x : α) (xs : List α) (i : Int) (a0 : S0) (a1 : S1) (a2 : S2) (a3 : S3) (a4 : S4) (a5 : S5), l = pre ++ x :: xs → i = (pre.length : Int) → L (x :: xs) i a0 a1 a2 a3 a4 a5 = some r → (∀ (i' : Int) (b0 : S0) (b1 : S1) (b2 : S2) (b3 : S3) (b4 : S4) (b5 : S5), i' = i + 1 → L xs (i + 1) b0 b1 b2 b3 b4 b5 = some r → X (.loop f m c (T' i' b0 b1 b2 b3 b4 b5) (S' i' b0 b1 b2 b3 b4 b5) K)) → X (.loop f m c (T' i a0 a1 a2 a3 a4 a5) (S' i a0 a1 a2 a3 a4 a5) K))
    (hend : ∀ (i : Int) (a0 : S0) (a1 : S1) (a2 : S2) (a3 : S3) (a4 : S4) (a5 : S5), i = (l.length : Int) → L [] i a0 a1 a2 a3 a4 a5 = some r → X (.loop f m c (T' i a0 a1 a2 a3 a4 a5) (S' i a0 a1 a2 a3 a4 a5) K)) (a0 : S0) (a1 : S1) (a2 : S2) (a3 : S3) (a4 : S4) (a5 : S5) (h : L l0 i0 a0 a1 a2 a3 a4 a5 = some r) : X (.loop f m c (T' i0 a0 a1 a2 a3 a4 a5) (S' i0 a0 a1 a2 a3 a4 a5) K) := by
  have key : ∀ (xs pre : List α) (i : Int) (a0 : S0) (a1 : S1) (a2 : S2) (a3 : S3) (a4 : S4) (a5 : S5), l = pre ++ xs → i = (pre.length : Int) → L xs i a0 a1 a2 a3 a4 a5 = some r → X (.loop f m c (T' i a0 a1 a2 a3 a4 a5) (S' i a0 a1 a2 a3 a4 a5) K) := by
    intro xs
    induction xs with
    | nil => intro pre i a0 a1 a2 a3 a4 a5 hl hi h; exact hend i a0 a1 a2 a3 a4 a5 (by rw [hl, hi]; simp) h
    | cons x xs ih => intro pre i a0 a1 a2 a3 a4 a5 hl hi h; exact hstep pre x xs i a0 a1 a2 a3 a4 a5 hl hi h fun i' b0 b1 b2 b3 b4 b5 hi' h' => by subst hi'; exact ih (pre ++ [x]) (i + 1) b0 b1 b2 b3 b4 b5 (by rw [hl]; simp) (by rw [hi]; simp) h'
  exact key l0 pre0 i0 a0 a1 a2 a3 a4 a5 hl0 hi0 h
theorem loop_list6 {R α : Type} {S0 S1 S2 S3 S4 S5 : Type} {X : Task → Prop} {f m : Nat} {c : Code} {K : Ex → List A → List Blk → Prop} {r : R} (T' : Int → S0 → S1 → S2 → S3 → S4 → S5 → List A) (S' : Int → S0 → S1 → S2 → S3 → S4 → S5 → List Blk) (L : List α → Int → S0 → S1 → S2 → S3 → S4 → S5 → Option R) (l : List α)
    (hstep : ∀ (pre : List α) (x : α) (xs : List α) (i : Int) (a0 : S0) (a1 : S1) (a2 : S2) (a3 : S3) (a4 : S4) (a5 : S5), l = pre ++ x :: xs → i = (pre.length : Int) → L (x :: xs) i a0 a1 a2 a3 a4 a5 = some r → (∀ (i' : Int) (b0 : S0) (b1 : S1) (b2 : S2) (b3 : S3) (b4 : S4) (b5 : S5), i' = i + 1 → L xs (i + 1) b0 b1 b2 b3 b4 b5 = some r → X (.loop f m c (T' i' b0 b1 b2 b3 b4 b5) (S' i' b0 b1 b2 b3 b4 b5) K)) → X (.loop f m c (T' i a0 a1 a2 a3 a4 a5) (S' i a0 a1 a2 a3 a4 a5) K))
    (hend : ∀ (i : Int) (a0 : S0) (a1 : S1) (a2 : S2) (a3 : S3) (a4 : S4) (a5 : S5), i = (l.length : Int) → L [] i a0 a1 a2 a3 a4 a5 = some r → X (.loop f m c (T' i a0 a1 a2 a3 a4 a5) (S' i a0 a1 a2 a3 a4 a5) K)) (a0 : S0) (a1 : S1) (a2 : S2) (a3 : S3) (a4 : S4) (a5 : S5) (h : L l 0 a0 a1 a2 a3 a4 a5 = some r) : X (.loop f m c (T' 0 a0 a1 a2 a3 a4 a5) (S' 0 a0 a1 a2 a3 a4 a5) K) := by
  have key : ∀ (xs pre : List α) (i : Int) (a0 : S0) (a1 : S1) (a2 : S2) (a3 : S3) (a4 : S4) (a5 : S5), l = pre ++ xs → i = (pre.length : Int) → L xs i a0 a1 a2 a3 a4 a5 = some r → X (.loop f m c (T' i a0 a1 a2 a3 a4 a5) (S' i a0 a1 a2 a3 a4 a5) K) := by
    intro xs
    induction xs with
    | nil => intro pre i a0 a1 a2 a3 a4 a5 hl hi h; exact hend i a0 a1 a2 a3 a4 a5 (by rw [hl, hi]; simp) h
    | cons x xs ih => intro pre i a0 a1 a2 a3 a4 a5 hl hi h; exact hstep pre x xs i a0 a1 a2 a3 a4 a5 hl hi h fun i' b0 b1 b2 b3 b4 b5 hi' h' => by subst hi'; exact ih (pre ++ [x]) (i + 1) b0 b1 b2 b3 b4 b5 (by rw [hl]; simp) (by rw [hi]; simp) h'
  exact key l [] 0 a0 a1 a2 a3 a4 a5 rfl rfl h
theorem loop_fuel6 {R : Type} {S0 S1 S2 S3 S4 S5 : Type} {X : Task → Prop} {f m : Nat} {c : Code} {K : Ex → List A → List Blk → Prop} {r : R} (T' : S0 → S1 → S2 → S3 → S4 → S5 → List A) (S' : S0 → S1 → S2 → S3 → S4 → S5 → List Blk) (L : Nat → S0 → S1 → S2 → S3 → S4 → S5 → Option R)
    (h0 : ∀ (a0 : S0) (a1 : S1) (a2 : S2) (a3 : S3) (a4 : S4) (a5 : S5), L 0 a0 a1 a2 a3 a4 a5 = some r → False)
    (hstep : ∀ (n : Nat) (a0 : S0) (a1 : S1) (a2 : S2) (a3 : S3) (a4 : S4) (a5 : S5), L (n + 1) a0 a1 a2 a3 a4 a5 = some r → (∀ (b0 : S0) (b1 : S1) (b2 : S2) (b3 : S3) (b4 : S4) (b5 : S5), L n b0 b1 b2 b3 b4 b5 = some r → X (.loop f m c (T' b0 b1 b2 b3 b4 b5) (S' b0 b1 b2 b3 b4 b5) K)) → X (.loop f m c (T' a0 a1 a2 a3 a4 a5) (S' a0 a1 a2 a3 a4 a5) K)) (N : Nat) (a0 : S0) (a1 : S1) (a2 : S2) (a3 : S3) (a4 : S4) (a5 : S5) (h : L N a0 a1 a2 a3 a4 a5 = some r) : X (.loop f m c (T' a0 a1 a2 a3 a4 a5) (S' a0 a1 a2 a3 a4 a5) K) := by
  induction N generalizing a0 a1 a2 a3 a4 a5 with
  | zero => exact (h0 a0 a1 a2 a3 a4 a5 h).elim
  | succ N ih => exact hstep N a0 a1 a2 a3 a4 a5 h fun b0 b1 b2 b3 b4 b5 h' => ih b0 b1 b2 b3 b4 b5 h'
theorem join6 {R : Type} {S0 S1 S2 S3 S4 S5 : Type} {X : Task → Prop} {f m : Nat} {c : Code} {K : Ex → List A → List Blk → Prop} {r : R} {G : Prop} {j : S0 → S1 → S2 → S3 → S4 → S5 → Option R} (T' : S0 → S1 → S2 → S3 → S4 → S5 → List A) (S' : S0 → S1 → S2 → S3 → S4 → S5 → List Blk)
    (main : Hold (∀ (a0 : S0) (a1 : S1) (a2 : S2) (a3 : S3) (a4 : S4) (a5 : S5), j a0 a1 a2 a3 a4 a5 = some r → X (.rest f m c (T' a0 a1 a2 a3 a4 a5) (S' a0 a1 a2 a3 a4 a5) K)) → G) (tail : ∀ (a0 : S0) (a1 : S1) (a2 : S2) (a3 : S3) (a4 : S4) (a5 : S5), j a0 a1 a2 a3 a4 a5 = some r → X (.rest f m c (T' a0 a1 a2 a3 a4 a5) (S' a0 a1 a2 a3 a4 a5) K)) : G := main ⟨tail⟩
theorem loop_lisz7 {R α : Type} {S0 S1 S2 S3 S4 S5 S6 : Type} {X : Task → Prop} {f m : Nat} {c : Code} {K : Ex → List A → List Blk → Prop} {r : R} (T' : Int → S0 → S1 → S2 → S3 → S4 → S5 → S6 → List A) (S' : Int → S0 → S1 → S2 → S3 → S4 → S5 → S6 → List Blk) (L : List α → S0 → S1 → S2 → S3 → S4 → S5 → S6 → Option R) (l pre0 l0 : List α) (i0 : Int) (hl0 : l = pre0 ++ l0) (hi0 : i0 = (pre0.length : Int))
    (hstep : ∀ (pre : List α) (x : α) (xs : List α) (i : Int) (a0 : S0) (a1 : S1) (a2 : S2) (a3 : S3) (a4 : S4) (a5 : S5) (a6 : S6), l = pre ++ x :: xs → i = (pre.length : Int) → L (x :: xs) a0 a1 a2 a3 a4 a5 a6 = some r → (∀ (i' : Int) (b0 : S0) (b1 : S1) (b2 : S2) (b3 : S3) (b4 : S4) (b5 : S5) (b6 : S6), i' = i + 1 → L xs b0 b1 b2 b3 b4 b5 b6 = some r → X (.loop f m c (T' i' b0 b1 b2 b3 b4 b5 b6) (S' i' b0 b1 b2 b3 b4 b5 b6) K)) → X (.loop f m c (T' i a0 a1 a2 a3 a4 a5 a6) (S' i a0 a1 a2 a3 a4 a5 a6) K))
    (hend : ∀ (i : Int) (a0 : S0) (a1 : S1) (a2 : S2) (a3 : S3) (a4 : S4) (a5 : S5) (a6 : S6), i = (l.length : Int) → L [] a0 a1 a2 a3 a4 a5 a6 = some r → X (.loop f m c (T' i a0 a1 a2 a3 a4 a5 a6) (S' i a0 a1 a2 a3 a4 a5 a6) K)) (a0 : S0) (a1 : S1) (a2 : S2) (a3 : S3) (a4 : S4) (a5 : S5) (a6 : S6) (h : L l0 a0 a1 a2 a3 a4 a5 a6 = some r) : X (.loop f m c (T' i0 a0 a1 a2 a3 a4 a5 a6) (S' i0 a0 a1 a2 a3 a4 a5 a6) K) := by
  have key : ∀ (xs pre : List α) (i : Int) (a0 : S0) (a1 : S1) (a2 : S2) (a3 : S3) (a4 : S4) (a5 : S5) (a6 : S6), l = pre ++ xs → i = (pre.length : Int) → L xs a0 a1 a2 a3 a4 a5 a6 = some r → X (.loop f m c (T' i a0 a1 a2 a3 a4 a5 a6) (S' i a0 a1 a2 a3 a4 a5 a6) K) := by
    intro xs
    induction xs with
    | nil => intro pre i a0 a1 a2 a3 a4 a5 a6 hl hi h; exact hend i a0 a1 a2 a3 a4 a5 a6 (by rw [hl, hi]; simp) h
    | cons x xs ih => intro pre i a0 a1 a2 a3 a4 a5 a6 hl hi h; exact hstep pre x xs i a0 a1 a2 a3 a4 a5 a6 hl hi h fun i' b0 b1 b2 b3 b4 b5 b6 hi' h' => by subst hi'; exact ih (pre ++ [x]) (i + 1) b0 b1 b2 b3 b4 b5 b6 (by rw [hl]; simp) (by rw [hi]; simp) h'
  exact key l0 pre0 i0 a0 a1 a2 a3 a4 a5 a6 hl0 hi0 h
theorem loop_lisx7 {R α : Type} {S0 S1 S2 S3 S4 S5 S6 : Type} {X : Task → Prop} {f m : Nat} {c : Code} {K : Ex → List A → List Blk → Prop} {r : R} (T' : Int → S0 → S1 → S2 → S3 → S4 → S5 → S6 → List A) (S' : Int → S0 → S1 → S2 → S3 → S4 → S5 → S6 → List Blk) (L : List α → S0 → S1 → S2 → S3 → S4 → S5 → S6 → Option R) (l : List α)
    (hstep : ∀ (pre : List α) (x : α) (xs : List α) (i : Int) (a0 : S0) (a1 : S1) (a2 : S2) (a3 : S3) (a4 : S4) (a5 : S5) (a6 : S6), l = pre ++ x :: xs → i = (pre.length : Int) → L (x :: xs) a0 a1 a2 a3 a4 a5 a6 = some r → (∀ (i' : Int) (b0 : S0) (b1 : S1) (b2 : S2) (b3 : S3) (b4 : S4) (b5 : S5) (b6 : S6), i' = i + 1 → L xs b0 b1 b2 b3 b4 b5 b6 = some r → X (.loop f m c (T' i' b0 b1 b2 b3 b4 b5 b6) (S' i' b0 b1 b2 b3 b4 b5 b6) K)) → X (.loop f m c (T' i a0 a1 a2 a3 a4 a5 a6) (S' i a0 a1 a2 a3 a4 a5 a6) K))
    (hend : ∀ (i : Int) (a0 : S0) (a1 : S1) (a2 : S2) (a3 : S3) (a4 : S4) (a5 : S5) (a6 : S6), i = (l.length : Int) → L [] a0 a1 a2 a3 a4 a5 a6 = some r → X (.loop f m c (T' i a0 a1 a2 a3 a4 a5 a6) (S' i a0 a1 a2 a3 a4 a5 a6) K)) (a0 : S0) (a1 : S1) (a2 : S2) (a3 : S3) (a4 : S4) (a5 : S5) (a6 : S6) (h : L l a0 a1 a2 a3 a4 a5 a6 = some r) : X (.loop f m c (T' 0 a0 a1 a2 a3 a4 a5 a6) (S' 0 a0 a1 a2 a3 a4 a5 a6) K) := by
  have key : ∀ (xs pre : List α) (i : Int) (a0 : S0) (a1 : S1) (a2 : S2) (a3 : S3) (a4 : S4) (a5 : S5) (a6 : S6), l = pre ++ xs → i = (pre.length : Int) → L xs a0 a1 a2 a3 a4 a5 a6 = some r → X (.loop f m c (T' i a0 a1 a2 a3 a4 a5 a6) (S' i a0 a1 a2 a3 a4 a5 a6) K) := by
    intro xs
    induction xs with
    | nil => intro pre i a0 a1 a2 a3 a4 a5 a6 hl hi h; exact hend i a0 a1 a2 a3 a4 a5 a6 (by rw [hl, hi]; simp) h
    | cons x xs ih => intro pre i a0 a1 a2 a3 a4 a5 a6 hl hi h; exact hstep pre x xs i a0 a1 a2 a3 a4 a5 a6 hl hi h fun i' b0 b1 b2 b3 b4 b5 b6 hi' h' => by subst hi'; exact ih (pre ++ [x]) (i + 1) b0 b1 b2 b3 b4 b5 b6 (by rw [hl]; simp) (by rw [hi]; simp) h'
  exact key l [] 0 a0 a1 a2 a3 a4 a5 a6 rfl rfl h
theorem loop_lisw7 {R α : Type} {S0 S1 S2 S3 S4 S5 S6 : Type} {X : Task → Prop} {f m : Nat} {c : Code} {K : Ex → List A → List Blk → Prop} {r : R} (T' : Int → S0 → S1 → S2 → S3 → S4 → S5 → S6 → List A) (S' : Int → S0 → S1 → S2 → S3 → S4 → S5 → S6 → List Blk) (L : List α → Int → S0 → S1 → S2 → S3 → S4 → S5 → S6 → Option R) (l pre0 l0 : List α) (i0 : Int) (hl0 : l = pre0 ++ l0) (hi0 : i0 = (pre0.length : Int))
    (hstep : ∀ (pre : List α) (x : α) (xs : List α) (i : Int) (a0 : S0) (a1 : S1) (a2 : S2) (a3 : S3) (a4 : S4) (a5 : S5) (a6 : S6), l = pre ++ x :: xs → i = (pre.length : Int) → L (x :: xs) i a0 a1 a2 a3 a4 a5 a6 = some r → (∀ (i' : Int) (b0 : S0) (b1 : S1) (b2 : S2) (b3 : S3) (b4 : S4) (b5 : S5) (b6 : S6), i' = i + 1 → L xs (i + 1) b0 b1 b2 b3 b4 b5 b6 = some r → X (.loop f m c (T' i' b0 b1 b2 b3 b4 b5 b6) (S' i' b0 b1 b2 b3 b4 b5 b6) K)) → X (.loop f m c (T' i a0 a1 a2 a3 a4 a5 a6) (S' i a0 a1 a2 a3 a4 a5 a6) K))
    (hend : ∀ (i : Int) (a0 : S0) (a1 : S1) (a2 : S2) (a3 : S3) (a4 : S4) (a5 : S5) (a6 : S6), i = (l.length : Int) → L [] i a0 a1 a2 a3 a4 a5 a6 = some r → X (.loop f m c (T' i a0 a1 a2 a3 a4 a5 a6) (S' i a0 a1 a2 a3 a4 a5 a6) K)) (a0 : S0) (a1 : S1) (a2 : S2) (a3 : S3) (a4 : S4) (a5 : S5) (a6 : S6) (h : L l0 i0 a0 a1 a2 a3 a4 a5 a6 = some r) : X (.loop f m c (T' i0 a0 a1 a2 a3 a4 a5 a6) (S' i0 a0 a1 a2 a3 a4 a5 a6) K) := by
  have key : ∀ (xs pre : List α) (i : Int) (a0 : S0) (a1 : S1) (a2 : S2) (a3 : S3) (a4 : S4) (a5 : S5) (a6 : S6), l = pre ++ xs → i = (pre.length : Int) → L xs i a0 a1 a2 a3 a4 a5 a6 = some r → X (.loop f m c (T' i a0 a1 a2 a3 a4 a5 a6) (S' i a0 a1 a2 a3 a4 a5 a6) K) := by
    intro xs
    induction xs with
    | nil => intro pre i a0 a1 a2 a3 a4 a5 a6 hl hi h; exact hend i a0 a1 a2 a3 a4 a5 a6 (by rw [hl, hi]; simp) h
    | cons x xs ih => intro pre i a0 a1 a2 a3 a4 a5 a6 hl hi h; exact hstep pre x xs i a0 a1 a2 a3 a4 a5 a6 hl hi h fun i' b0 b1 b2 b3 b4 b5 b6 hi' h' => by subst hi'; exact ih (pre ++ [x]) (i + 1) b0 b1 b2 b3 b4 b5 b6 (by rw [hl]; simp) (by rw [hi]; simp) h'
  exact key l0 pre0 i0 a0 a1 a2 a3 a4 a5 a6 hl0 hi0 h
theorem loop_list7 {R α : Type} {S0 S1 S2 S3 S4 S5 S6 : Type} {X : Task → Prop} {f m : Nat} {c : Code} {K : Ex → List A → List Blk → Prop} {r : R} (T' : Int → S0 → S1 → S2 → S3 → S4 → S5 → S6 → List A) (S' : Int → S0 → S1 → S2 → S3 → S4 → S5 → S6 → List Blk) (L : List α → Int → S0 → S1 → S2 → S3 → S4 → S5 → S6 → Option R) (l : List α)
    (hstep : ∀ (pre : List α) (x : α) (xs : List α) (i : Int) (a0 : S0) (a1 : S1) (a2 : S2) (a3 : S3) (a4 : S4) (a5 : S5) (a6 : S6), l = pre ++ x :: xs → i = (pre.length : Int) → L (x :: xs) i a0 a1 a2 a3 a4 a5 a6 = some r → (∀ (i' : Int) (b0 : S0) (b1 : S1) (b2 : S2) (b3 : S3) (b4 : S4) (b5 : S5) (b6 : S6), i' = i + 1 → L xs (i + 1) b0 b1 b2 b3 b4 b5 b6 = some r → X (.loop f m c (T' i' b0 b1 b2 b3 b4 b5 b6) (S' i' b0 b1 b2 b3 b4 b5 b6) K)) → X (.loop f m c (T' i a0 a1 a2 a3 a4 a5 a6) (S' i a0 a1 a2 a3 a4 a5 a6) K))
    (hend : ∀ (i : Int) (a0 : S0) (a1 : S1) (a2 : S2) (a3 : S3) (a4 : S4) (a5 : S5) (a6 : S6), i = (l.length : Int) → L [] i a0 a1 a2 a3 a4 a5 a6 = some r → X (.loop f m c (T' i a0 a1 a2 a3 a4 a5 a6) (S' i a0 a1 a2 a3 a4 a5 a6) K)) (a0 : S0) (a1 : S1) (a2 : S2) (a3 : S3) (a4 : S4) (a5 : S5) (a6 : S6) (h : L l 0 a0 a1 a2 a3 a4 a5 a6 = some r) : X (.loop f m c (T' 0 a0 a1 a2 a3 a4 a5 a6) (S' 0 a0 a1 a2 a3 a4 a5 a6) K) := by
  have key : ∀ (xs pre : List α) (i : Int) (a0 : S0) (a1 : S1) (a2 : S2) (a3 : S3) (a4 : S4) (a5 : S5) (a6 : S6), l = pre ++ xs → i = (pre.length : Int) → L xs i a0 a1 a2 a3 a4 a5 a6 = some r → X (.loop f m c (T' i a0 a1 a2 a3 a4 a5 a6) (S' i a0 a1 a2 a3 a4 a5 a6) K) := by
    intro xs
    induction xs with
    | nil => intro pre i a0 a1 a2 a3 a4 a5 a6 hl hi h; exact hend i a0 a1 a2 a3 a4 a5 a6 (by rw [hl, hi]; simp) h
    | cons x xs ih => intro pre i a0 a1 a2 a3 a4 a5 a6 hl hi h; exact hstep pre x xs i a0 a1 a2 a3 a4 a5 a6 hl hi h fun i' b0 b1 b2 b3 b4 b5 b6 hi' h' => by subst hi'; exact ih (pre ++ [x]) (i + 1) b0 b1 b2 b3 b4 b5 b6 (by rw [hl]; simp) (by rw [hi]; simp) h'
  exact key l [] 0 a0 a1 a2 a3 a4 a5 a6 rfl rfl h
theorem loop_fuel7 {R : Type} {S0 S1 S2 S3 S4 S5 S6 : Type} {X : Task → Prop} {f m : Nat} {c : Code} {K : Ex → List A → List Blk → Prop} {r : R} (T' : S0 → S1 → S2 → S3 → S4 → S5 → S6 → List A) (S' : S0 → S1 → S2 → S3 → S4 → S5 → S6 → List Blk) (L : Nat → S0 → S1 → S2 → S3 → S4 → S5 → S6 → Option R)
    (h0 : ∀ (a0 : S0) (a1 : S1) (a2 : S2) (a3 : S3) (a4 : S4) (a5 : S5) (a6 : S6), L 0 a0 a1 a2 a3 a4 a5 a6 = some r → False)
    (hstep : ∀ (n : Nat) (a0 : S0) (a1 : S1) (a2 : S2) (a3 : S3) (a4 : S4) (a5 : S5) (a6 : S6), L (n + 1) a0 a1 a2 a3 a4 a5 a6 = some r → (∀ (b0 : S0) (b1 : S1) (b2 : S2) (b3 : S3) (b4 : S4) (b5 : S5) (b6 : S6), L n b0 b1 b2 b3 b4 b5 b6 = some r → X (.loop f m c (T' b0 b1 b2 b3 b4 b5 b6) (S' b0 b1 b2 b3 b4 b5 b6) K)) → X (.loop f m c (T' a0 a1 a2 a3 a4 a5 a6) (S' a0 a1 a2 a3 a4 a5 a6) K)) (N : Nat) (a0 : S0) (a1 : S1) (a2 : S2) (a3 : S3) (a4 : S4) (a5 : S5) (a6 : S6) (h : L N a0 a1 a2 a3 a4 a5 a6 = some r) : X (.loop f m c (T' a0 a1 a2 a3 a4 a5 a6) (S' a0 a1 a2 a3 a4 a5 a6) K) := by
  induction N generalizing a0 a1 a2 a3 a4 a5 a6 with
  | zero => exact (h0 a0 a1 a2 a3 a4 a5 a6 h).elim
  | succ N ih => exact hstep N a0 a1 a2 a3 a4 a5 a6 h fun b0 b1 b2 b3 b4 b5 b6 h' => ih b0 b1 b2 b3 b4 b5 b6 h'
theorem join7 {R : Type} {S0 S1 S2 S3 S4 S5 S6 : Type} {X : Task → Prop} {f m : Nat} {c : Code} {K : Ex → List A → List Blk → Prop} {r : R} {G : Prop} {j : S0 → S1 → S2 → S3 → S4 → S5 → S6 → Option R} (T' : S0 → S1 → S2 → S3 → S4 → S5 → S6 → List A) (S' : S0 → S1 → S2 → S3 → S4 → S5 → S6 → List Blk)
    (main : Hold (∀ (a0 : S0) (a1 : S1) (a2 : S2) (a3 : S3) (a4 : S4) (a5 : S5) (a6 : S6), j a0 a1 a2 a3 a4 a5 a6 = some r → X (.rest f m c (T' a0 a1 a2 a3 a4 a5 a6) (S' a0 a1 a2 a3 a4 a5 a6) K)) → G) (tail : ∀ (a0 : S0) (a1 : S1) (a2 : S2) (a3 : S3) (a4 : S4) (a5 : S5) (a6 : S6), j a0 a1 a2 a3 a4 a5 a6 = some r → X (.rest f m c (T' a0 a1 a2 a3 a4 a5 a6) (S' a0 a1 a2 a3 a4 a5 a6) K)) : G := main ⟨tail⟩
theorem loop_lisz8 {R α : Type} {S0 S1 S2 S3 S4 S5 S6 S7 : Type} {X : Task → Prop} {f m : Nat} {c : Code} {K : Ex → List A → List Blk → Prop} {r : R} (T' : Int → S0 → S1 → S2 → S3 → S4 → S5 → S6 → S7 → List A) (S' : Int → S0 → S1 → S2 → S3 → S4 → S5 → S6 → S7 → List Blk) (L : List α → S0 → S1 → S2 → S3 → S4 → S5 → S6 → S7 → Option R) (l pre0 l0 : List α) (i0 : Int) (hl0 : l = pre0 ++ l0) (hi0 : i0 = (pre0.length : Int))
    (hstep : ∀ (pre : List α) (x : α) (xs : List α) (i : Int) (a0 : S0) (a1 : S1) (a2 : S2) (a3 : S3) (a4 : S4) (a5 : S5) (a6 : S6) (a7 : S7), l = pre ++ x :: xs → i = (pre.length : Int) → L (x :: xs) a0 a1 a2 a3 a4 a5 a6 a7 = some r → (∀ (i' : Int) (b0 : S0) (b1 : S1) (b2 : S2) (b3 : S3) (b4 : S4) (b5 : S5) (b6 : S6) (b7 : S7), i' = i + 1 → L xs b0 b1 b2 b3 b4 b5 b6 b7 = some r → X (.loop f m c (T' i' b0 b1 b2 b3 b4 b5 b6 b7) (S' i' b0 b1 b2 b3 b4 b5 b6 b7) K)) → X (.loop f m c (T' i a0 a1 a2 a3 a4 a5 a6 a7) (S' i a0 a1 a2 a3 a4 a5 a6 a7) K))
    (hend : ∀ (i : Int) (a0 : S0) (a1 : S1) (a2 : S2) (a3 : S3) (a4 : S4) (a5 : S5) (a6 : S6) (a7 : S7), i = (l.length : Int) → L [] a0 a1 a2 a3 a4 a5 a6 a7 = some r → X (.loop f m c (T' i a0 a1 a2 a3 a4 a5 a6 a7) (S' i a0 a1 a2 a3 a4 a5 a6 a7) K)) (a0 : S0) (a1 : S1) (a2 : S2) (a3 : S3) (a4 : S4) (a5 : S5) (a6 : S6) (a7 : S7) (h : L l0 a0 a1 a2 a3 a4 a5 a6 a7 = some r) : X (.loop f m c (T' i0 a0 a1 a2 a3 a4 a5 a6 a7) (S' i0 a0 a1 a2 a3 a4 a5 a6 a7) K) := by
  have key : ∀ (xs pre : List α) (i : Int) (a0 : S0) (a1 : S1) (a2 : S2) (a3 : S3) (a4 : S4) (a5 : S5) (a6 : S6) (a7 : S7), l = pre ++ xs → i = (pre.length : Int) → L xs a0 a1 a2 a3 a4 a5 a6 a7 = some r → X (.loop f m c (T' i a0 a1 a2 a3 a4 a5 a6 a7) (S' i a0 a1 a2 a3 a4 a5 a6 a7) K) := by
    intro xs
    induction xs with
    | nil => intro pre i a0 a1 a2 a3 a4 a5 a6 a7 hl hi h; exact hend i a0 a1 a2 a3 a4 a5 a6 a7 (by rw [hl, hi]; simp) h
    | cons x xs ih => intro pre i a0 a1 a2 a3 a4 a5 a6 a7 hl hi h; exact hstep pre x xs i a0 a1 a2 a3 a4 a5 a6 a7 hl hi h fun i' b0 b1 b2 b3 b4 b5 b6 b7 hi' h' => by subst hi'; exact ih (pre ++ [x]) (i + 1) b0 b1 b2 b3 b4 b5 b6 b7 (by rw [hl]; simp) (by rw [hi]; simp) h'
  exact key l0 pre0 i0 a0 a1 a2 a3 a4 a5 a6 a7 hl0 hi0 h
theorem loop_lisx8 {R α : Type} {S0 S1 S2 S3 S4 S5 S6 S7 : Type} {X : Task → Prop} {f m : Nat} {c : Code} {K : Ex → List A → List Blk → Prop} {r : R} (T' : Int → S0 → S1 → S2 → S3 → S4 → S5 → S6 → S7 → List A) (S' : Int → S0 → S1 → S2 → S3 → S4 → S5 → S6 → S7 → List Blk) (L : List α → S0 → S1 → S2 → S3 → S4 → S5 → S6 → S7 → Option R) (l : List α)
    (hstep : ∀ (pre : List α) (x : α) (xs : List α) (i : Int) (a0 : S0) (a1 : S1) (a2 : S2) (a3 : S3) (a4 : S4) (a5 : S5) (a6 : S6) (a7 : S7), l = pre ++ x :: xs → i = (pre.length : Int) → L (x :: xs) a0 a1 a2 a3 a4 a5 a6 a7 = some r → (∀ (i' : Int) (b0 : S0) (b1 : S1) (b2 : S2) (b3 : S3) (b4 : S4) (b5 : S5) (b6 : S6) (b7 : S7), i' = i + 1 → L xs b0 b1 b2 b3 b4 b5 b6 b7 = some r → X (.loop f m c (T' i' b0 b1 b2 b3 b4 b5 b6 b7) (S' i' b0 b1 b2 b3 b4 b5 b6 b7) K)) → X (.loop f m c (T' i a0 a1 a2 a3 a4 a5 a6 a7) (S' i a0 a1 a2 a3 a4 a5 a6 a7) K))
    (hend : ∀ (i : Int) (a0 : S0) (a1 : S1) (a2 : S2) (a3 : S3) (a4 : S4) (a5 : S5) (a6 : S6) (a7 : S7), i = (l.length : Int) → L [] a0 a1 a2 a3 a4 a5 a6 a7 = some r → X (.loop f m c (T' i a0 a1 a2 a3 a4 a5 a6 a7) (S' i a0 a1 a2 a3 a4 a5 a6 a7) K)) (a0 : S0) (a1 : S1) (a2 : S2) (a3 : S3) (a4 : S4) (a5 : S5) (a6 : S6) (a7 : S7) (h : L l a0 a1 a2 a3 a4 a5 a6 a7 = some r) : X (.loop f m c (T' 0 a0 a1 a2 a3 a4 a5 a6 a7) (S' 0 a0 a1 a2 a3 a4 a5 a6 a7) K) := by
  have key : ∀ (xs pre : List α) (i : Int) (a0 : S0) (a1 : S1) (a2 : S2) (a3 : S3) (a4 : S4) (a5 : S5) (a6 : S6) (a7 : S7), l = pre ++ xs → i = (pre.length : Int) → L xs a0 a1 a2 a3 a4 a5 a6 a7 = some r → X (.loop f m c (T' i a0 a1 a2 a3 a4 a5 a6 a7) (S' i a0 a1 a2 a3 a4 a5 a6 a7) K) := by
    intro xs
    induction xs with
    | nil => intro pre i a0 a1 a2 a3 a4 a5 a6 a7 hl hi h; exact hend i a0 a1 a2 a3 a4 a5 a6 a7 (by rw [hl, hi]; simp) h
    | cons x xs ih => intro pre i a0 a1 a2 a3 a4 a5 a6 a7 hl hi h; exact hstep pre x xs i a0 a1 a2 a3 a4 a5 a6 a7 hl hi h fun i' b0 b1 b2 b3 b4 b5 b6 b7 hi' h' => by subst hi'; exact ih (pre ++ [x]) (i + 1) b0 b1 b2 b3 b4 b5 b6 b7 (by rw [hl]; simp) (by rw [hi]; simp) h'
  exact key l [] 0 a0 a1 a2 a3 a4 a5 a6 a7 rfl rfl h
theorem loop_lisw8 {R α : Type} {S0 S1 S2 S3 S4 S5 S6 S7 : Type} {X : Task → Prop} {f m : Nat} {c : Code} {K : Ex → List A → List Blk → Prop} {r : R} (T' : Int → S0 → S1 → S2 → S3 → S4 → S5 → S6 → S7 → List A) (S' : Int → S0 → S1 → S2 → S3 → S4 → S5 → S6 → S7 → List Blk) (L : List α → Int → S0 → S1 → S2 → S3 → S4 → S5 → S6 → S7 → Option R) (l pre0 l0 : List α) (i0 : Int) (hl0 : l = pre0 ++ l0) (hi0 : i0 = (pre0.length : Int))
    (hstep : ∀ (pre : List α) (x : α) (xs : List α) (i : Int) (a0 : S0) (a1 : S1) (a2 : S2) (a3 : S3) (a4 : S4) (a5 : S5) (a6 : S6) (a7 : S7), l = pre ++ x :: xs → i = (pre.length : Int) → L (x :: xs) i a0 a1 a2 a3 a4 a5 a6 a7 = some r → (∀ (i' : Int) (b0 : S0) (b1 : S1) (b2 : S2) (b3 : S3) (b4 : S4) (b5 : S5) (b6 : S6) (b7 : S7), i' = i + 1 → L xs (i + 1) b0 b1 b2 b3 b4 b5 b6 b7 = some r → X (.loop f m c (T' i' b0 b1 b2 b3 b4 b5 b6 b7) (S' i' b0 b1 b2 b3 b4 b5 b6 b7) K)) → X (.loop f m c (T' i a0 a1 a2 a3 a4 a5 a6 a7) (S' i a0 a1 a2 a3 a4 a5 a6 a7) K))
    (hend : ∀ (i : Int) (a0 : S0) (a1 : S1) (a2 : S2) (a3 : S3) (a4 : S4) (a5 : S5) (a6 : S6) (a7 : S7), i = (l.length : Int) → L [] i a0 a1 a2 a3 a4 a5 a6 a7 = some r → X (.loop f m c (T' i a0 a1 a2 a3 a4 a5 a6 a7) (S' i a0 a1 a2 a3 a4 a5 a6 a7) K)) (a0 : S0) (a1 : S1) (a2 : S2) (a3 : S3) (a4 : S4) (a5 : S5) (a6 : S6) (a7 : S7) (h : L l0 i0 a0 a1 a2 a3 a4 a5 a6 a7 = some r) : X (.loop f m c (T' i0 a0 a1 a2 a3 a4 a5 a6 a7) (S' i0 a0 a1 a2 a3 a4 a5 a6 a7) K) := by
  have key : ∀ (xs pre : List α) (i : Int) (a0 : S0) (a1 : S1) (a2 : S2) (a3 : S3) (a4 : S4) (a5 : S5) (a6 : S6) (a7 : S7), l = pre ++ xs → i = (pre.length : Int) → L xs i a0 a1 a2 a3 a4 a5 a6 a7 = some r → X (.loop f m c (T' i a0 a1 a2 a3 a4 a5 a6 a7) (S' i a0 a1 a2 a3 a4 a5 a6 a7) K) := by
    intro xs
    induction xs with
    | nil => intro pre i a0 a1 a2 a3 a4 a5 a6 a7 hl hi h; exact hend i a0 a1 a2 a3 a4 a5 a6 a7 (by rw [hl, hi]; simp) h
    | cons x xs ih => intro pre i a0 a1 a2 a3 a4 a5 a6 a7 hl hi h; exact hstep pre x xs i a0 a1 a2 a3 a4 a5 a6 a7 hl hi h fun i' b0 b1 b2 b3 b4 b5 b6 b7 hi' h' => by subst hi'; exact ih (pre ++ [x]) (i + 1) b0 b1 b2 b3 b4 b5 b6 b7 (by rw [hl]; simp) (by rw [hi]; simp) h'
  exact key l0 pre0 i0 a0 a1 a2 a3 a4 a5 a6 a7 hl0 hi0 h
theorem loop_list8 {R α : Type} {S0 S1 S2 S3 S4 S5 S6 S7 : Type} {X : Task → Prop} {f m : Nat} {c : Code} {K : Ex → List A → List Blk → Prop} {r : R} (T' : Int → S0 → S1 → S2 → S3 → S4 → S5 → S6 → S7 → List A) (S' : Int → S0 → S1 → S2 → S3 → S4 → S5 → S6 → S7 → List Blk) (L : List α → Int → S0 → S1 → S2 → S3 → S4 → S5 → S6 → S7 → Option R) (l : List α)
    (hstep : ∀ (pre : List α) (x : α) (xs : List α) (i : Int) (a0 : S0) (a1 : S1) (a2 : S2) (a3 : S3) (a4 : S4) (a5 : S5) (a6 : S6) (a7 : S7), l = pre ++ x :: xs → i = (pre.length : Int) → L (x :: xs) i a0 a1 a2 a3 a4 a5 a6 a7 = some r → (∀ (i' : Int) (b0 : S0) (b1 : S1) (b2 : S2) (b3 : S3) (b4 : S4) (b5 : S5) (b6 : S6) (b7 : S7), i' = i + 1 → L xs (i + 1) b0 b1 b2 b3 b4 b5 b6 b7 = some r → X (.loop f m c (T' i' b0 b1 b2 b3 b4 b5 b6 b7) (S' i' b0 b1 b2 b3 b4 b5 b6 b7) K)) → X (.loop f m c (T' i a0 a1 a2 a3 a4 a5 a6 a7) (S' i a0 a1 a2 a3 a4 a5 a6 a7) K))
    (hend : ∀ (i : Int) (a0 : S0) (a1 : S1) (a2 : S2) (a3 : S3) (a4 : S4) (a5 : S5) (a6 : S6) (a7 : S7), i = (l.length : Int) → L [] i a0 a1 a2 a3 a4 a5 a6 a7 = some r → X (.loop f m c (T' i a0 a1 a2 a3 a4 a5 a6 a7) (S' i a0 a1 a2 a3 a4 a5 a6 a7) K)) (a0 : S0) (a1 : S1) (a2 : S2) (a3 : S3) (a4 : S4) (a5 : S5) (a6 : S6) (a7 : S7) (h : L l 0 a0 a1 a2 a3 a4 a5 a6 a7 = some r) : X (.loop f m c (T' 0 a0 a1 a2 a3 a4 a5 a6 a7) (S' 0 a0 a1 a2 a3 a4 a5 a6 a7) K) := by
  have key : ∀ (xs pre : List α) (i : Int) (a0 : S0) (a1 : S1) (a2 : S2) (a3 : S3) (a4 : S4) (a5 : S5) (a6 : S6) (a7 : S7), l = pre ++ xs → i = (pre.length : Int) → L xs i a0 a1 a2 a3 a4 a5 a6 a7 = some r → X (.loop f m c (T' i a0 a1 a2 a3 a4 a5 a6 a7) (S' i a0 a1 a2 a3 a4 a5 a6 a7) K) := by
    intro xs
    induction xs with
    | nil => intro pre i a0 a1 a2 a3 a4 a5 a6 a7 hl hi h; exact hend i a0 a1 a2 a3 a4 a5 a6 a7 (by rw [hl, hi]; simp) h
    | cons x xs ih => intro pre i a0 a1 a2 a3 a4 a5 a6 a7 hl hi h; exact hstep pre x xs i a0 a1 a2 a3 a4 a5 a6 a7 hl hi h fun i' b0 b1 b2 b3 b4 b5 b6 b7 hi' h' => by subst hi'; exact ih (pre ++ [x]) (i + 1) b0 b1 b2 b3 b4 b5 b6 b7 (by rw [hl]; simp) (by rw [hi]; simp) h'
  exact key l [] 0 a0 a1 a2 a3 a4 a5 a6 a7 rfl rfl h
theorem loop_fuel8 {R : Type} {S0 S1 S2 S3 S4 S5 S6 S7 : Type} {X : Task → Prop} {f m : Nat} {c : Code} {K : Ex → List A → List Blk → Prop} {r : R} (T' : S0 → S1 → S2 → S3 → S4 → S5 → S6 → S7 → List A) (S' : S0 → S1 → S2 → S3 → S4 → S5 → S6 → S7 → List Blk) (L : Nat → S0 → S1 → S2 → S3 → S4 → S5 → S6 → S7 → Option R)
    (h0 : ∀ (a0 : S0) (a1 : S1) (a2 : S2) (a3 : S3) (a4 : S4) (a5 : S5) (a6 : S6) (a7 : S7), L 0 a0 a1 a2 a3 a4 a5 a6 a7 = some r → False)
    (hstep : ∀ (n : Nat) (a0 : S0) (a1 : S1) (a2 : S2) (a3 : S3) (a4 : S4) (a5 : S5) (a6 : S6) (a7 : S7), L (n + 1) a0 a1 a2 a3 a4 a5 a6 a7 = some r → (∀ (b0 : S0) (b1 : S1) (b2 : S2) (b3 : S3) (b4 : S4) (b5 : S5) (b6 : S6) (b7 : S7), L n b0 b1 b2 b3 b4 b5 b6 b7 = some r → X (.loop f m c (T' b0 b1 b2 b3 b4 b5 b6 b7) (S' b0 b1 b2 b3 b4 b5 b6 b7) K)) → X (.loop f m c (T' a0 a1 a2 a3 a4 a5 a6 a7) (S' a0 a1 a2 a3 a4 a5 a6 a7) K)) (N : Nat) (a0 : S0) (a1 : S1) (a2 : S2) (a3 : S3) (a4 : S4) (a5 : S5) (a6 : S6) (a7 : S7) (h : L N a0 a1 a2 a3 a4 a5 a6 a7 = some r) : X (.loop f m c (T' a0 a1 a2 a3 a4 a5 a6 a7) (S' a0 a1 a2 a3 a4 a5 a6 a7) K) := by
  induction N generalizing a0 a1 a2 a3 a4 a5 a6 a7 with
  | zero => exact (h0 a0 a1 a2 a3 a4 a5 a6 a7 h).elim
  | succ N ih => exact hstep N a0 a1 a2 a3 a4 a5 a6 a7 h fun b0 b1 b2 b3 b4 b5 b6 b7 h' => ih b0 b1 b2 b3 b4 b5 b6 b7 h'
theorem join8 {R : Type} {S0 S1 S2 S3 S4 S5 S6 S7 : Type} {X : Task → Prop} {f m : Nat} {c : Code} {K : Ex → List A → List Blk → Prop} {r : R} {G : Prop} {j : S0 → S1 → S2 → S3 → S4 → S5 → S6 → S7 → Option R} (T' : S0 → S1 → S2 → S3 → S4 → S5 → S6 → S7 → List A) (S' : S0 → S1 → S2 → S3 → S4 → S5 → S6 → S7 → List Blk)
    (main : Hold (∀ (a0 : S0) (a1 : S1) (a2 : S2) (a3 : S3) (a4 : S4) (a5 : S5) (a6 : S6) (a7 : S7), j a0 a1 a2 a3 a4 a5 a6 a7 = some r → X (.rest f m c (T' a0 a1 a2 a3 a4 a5 a6 a7) (S' a0 a1 a2 a3 a4 a5 a6 a7) K)) → G) (tail : ∀ (a0 : S0) (a1 : S1) (a2 : S2) (a3 : S3) (a4 : S4) (a5 : S5) (a6 : S6) (a7 : S7), j a0 a1 a2 a3 a4 a5 a6 a7 = some r → X (.rest f m c (T' a0 a1 a2 a3 a4 a5 a6 a7) (S' a0 a1 a2 a3 a4 a5 a6 a7) K)) : G := main ⟨tail⟩
theorem loop_lisz9 {R α : Type} {S0 S1 S2 S3 S4 S5 S6 S7 S8 : Type} {X : Task → Prop} {f m : Nat} {c : Code} {K : Ex → List A → List Blk → Prop} {r : R} (T' : Int → S0 → S1 → S2 → S3 → S4 → S5 → S6 → S7 → S8 → List A) (S' : Int → S0 → S1 → S2 → S3 → S4 → S5 → S6 → S7 → S8 → List Blk) (L : List α → S0 → S1 → S2 → S3 → S4 → S5 → S6 → S7 → S8 → Option R) (l pre0 l0 : List α) (i0 : Int) (hl0 : l = pre0 ++ l0) (hi0 : i0 = (pre0.length : Int))
    (hstep : ∀ (pre : List α) (x : α) (xs : List α) (i : Int) (a0 : S0) (a1 : S1) (a2 : S2) (a3 : S3) (a4 : S4) (a5 : S5) (a6 : S6) (a7 : S7) (a8 : S8), l = pre ++ x :: xs → i = (pre.length : Int) → L (x :: xs) a0 a1 a2 a3 a4 a5 a6 a7 a8 = some r → (∀ (i' : Int) (b0 : S0) (b1 : S1) (b2 : S2) (b3 : S3) (b4 : S4) (b5 : S5) (b6 : S6) (b7 : S7) (b8 : S8), i' = i + 1 → L xs b0 b1 b2 b3 b4 b5 b6 b7 b8 = some r → X (.loop f m c (T' i' b0 b1 b2 b3 b4 b5 b6 b7 b8) (S' i' b0 b1 b2 b3 b4 b5 b6 b7 b8) K)) → X (.loop f m c (T' i a0 a1 a2 a3 a4 a5 a6 a7 a8) (S' i a0 a1 a2 a3 a4 a5 a6 a7 a8) K))
    (hend : ∀ (i : Int) (a0 : S0) (a1 : S1) (a2 : S2) (a3 : S3) (a4 : S4) (a5 : S5) (a6 : S6) (a7 : S7) (a8 : S8), i = (l.length : Int) → L [] a0 a1 a2 a3 a4 a5 a6 a7 a8 = some r → X (.loop f m c (T' i a0 a1 a2 a3 a4 a5 a6 a7 a8) (S' i a0 a1 a2 a3 a4 a5 a6 a7 a8) K)) (a0 : S0) (a1 : S1) (a2 : S2) (a3 : S3) (a4 : S4) (a5 : S5) (a6 : S6) (a7 : S7) (a8 : S8) (h : L l0 a0 a1 a2 a3 a4 a5 a6 a7 a8 = some r) : X (.loop f m c (T' i0 a0 a1 a2 a3 a4 a5 a6 a7 a8) (S' i0 a0 a1 a2 a3 a4 a5 a6 a7 a8) K) := by
  have key : ∀ (xs pre : List α) (i : Int) (a0 : S0) (a1 : S1) (a2 : S2) (a3 : S3) (a4 : S4) (a5 : S5) (a6 : S6) (a7 : S7) (a8 : S8), l = pre ++ xs → i = (pre.length : Int) → L xs a0 a1 a2 a3 a4 a5 a6 a7 a8 = some r → X (.loop f m c (T' i a0 a1 a2 a3 a4 a5 a6 a7 a8) (S' i a0 a1 a2 a3 a4 a5 a6 a7 a8) K) := by
    intro xs
    induction xs with
    | nil => intro pre i a0 a1 a2 a3 a4 a5 a6 a7 a8 hl hi h; exact hend i a0 a1 a2 a3 a4 a5 a6 a7 a8 (by rw [hl, hi]; simp) h
    | cons x xs ih => intro pre i a0 a1 a2 a3 a4 a5 a6 a7 a8 hl hi h; exact hstep pre x xs i a0 a1 a2 a3 a4 a5 a6 a7 a8 hl hi h fun i' b0 b1 b2 b3 b4 b5 b6 b7 b8 hi' h' => by subst hi'; exact ih (pre ++ [x]) (i + 1) b0 b1 b2 b3 b4 b5 b6 b7 b8 (by rw [hl]; simp) (by rw [hi]; simp) h'
  exact key l0 pre0 i0 a0 a1 a2 a3 a4 a5 a6 a7 a8 hl0 hi0 h
theorem loop_lisx9 {R α : Type} {S0 S1 S2 S3 S4 S5 S6 S7 S8 : Type} {X : Task → Prop} {f m : Nat} {c : Code} {K : Ex → List A → List Blk → Prop} {r : R} (T' : Int → S0 → S1 → S2 → S3 → S4 → S5 → S6 → S7 → S8 → List A) (S' : Int → S0 → S1 → S2 → S3 → S4 → S5 → S6 → S7 → S8 → List Blk) (L : List α → S0 → S1 → S2 → S3 → S4 → S5 → S6 → S7 → S8 → Option R) (l : List α)
    (hstep : ∀ (pre : List α) (x : α) (xs : List α) (i : Int) (a0 : S0) (a1 : S1) (a2 : S2) (a3 : S3) (a4 : S4) (a5 : S5) (a6 : S6) (a7 : S7) (a8 : S8), l = pre ++ x :: xs → i = (pre.length : Int) → L (x :: xs) a0 a1 a2 a3 a4 a5 a6 a7 a8 = some r → (∀ (i' : Int) (b0 : S0) (b1 : S1) (b2 : S2) (b3 : S3) (b4 : S4) (b5 : S5) (b6 : S6) (b7 : S7) (b8 : S8), i' = i + 1 → L xs b0 b1 b2 b3 b4 b5 b6 b7 b8 = some r → X (.loop f m c (T' i' b0 b1 b2 b3 b4 b5 b6 b7 b8) (S' i' b0 b1 b2 b3 b4 b5 b6 b7 b8) K)) → X (.loop f m c (T' i a0 a1 a2 a3 a4 a5 a6 a7 a8) (S' i a0 a1 a2 a3 a4 a5 a6 a7 a8) K))
    (hend : ∀ (i : Int) (a0 : S0) (a1 : S1) (a2 : S2) (a3 : S3) (a4 : S4) (a5 : S5) (a6 : S6) (a7 : S7) (a8 : S8), i = (l.length : Int) → L [] a0 a1 a2 a3 a4 a5 a6 a7 a8 = some r → X (.loop f m c (T' i a0 a1 a2 a3 a4 a5 a6 a7 a8) (S' i a0 a1 a2 a3 a4 a5 a6 a7 a8) K)) (a0 : S0) (a1 : S1) (a2 : S2) (a3 : S3) (a4 : S4) (a5 : S5) (a6 : S6) (a7 : S7) (a8 : S8) (h : L l a0 a1 a2 a3 a4 a5 a6 a7 a8 = some r) : X (.loop f m c (T' 0 a0 a1 a2 a3 a4 a5 a6 a7 a8) (S' 0 a0 a1 a2 a3 a4 a5 a6 a7 a8) K) := by
  have key : ∀ (xs pre : List α) (i : Int) (a0 : S0) (a1 : S1) (a2 : S2) (a3 : S3) (a4 : S4) (a5 : S5) (a6 : S6) (a7 : S7) (a8 : S8), l = pre ++ xs → i = (pre.length : Int) → L xs a0 a1 a2 a3 a4 a5 a6 a7 a8 = some r → X (.loop f m c (T' i a0 a1 a2 a3 a4 a5 a6 a7 a8) (S' i a0 a1 a2 a3 a4 a5 a6 a7 a8) K) := by
    intro xs
    induction xs with
    | nil => intro pre i a0 a1 a2 a3 a4 a5 a6 a7 a8 hl hi h; exact hend i a0 a1 a2 a3 a4 a5 a6 a7 a8 (by rw [hl, hi]; simp) h
    | cons x xs ih => intro pre i a0 a1 a2 a3 a4 a5 a6 a7 a8 hl hi h; exact hstep pre x xs i a0 a1 a2 a3 a4 a5 a6 a7 a8 hl hi h fun i' b0 b1 b2 b3 b4 b5 b6 b7 b8 hi' h' => by subst hi'; exact ih (pre ++ [x]) (i + 1) b0 b1 b2 b3 b4 b5 b6 b7 b8 (by rw [hl]; simp) (by rw [hi]; simp) h'
  exact key l [] 0 a0 a1 a2 a3 a4 a5 a6 a7 a8 rfl rfl h
theorem loop_lisw9 {R α : Type} {S0 S1 S2 S3 S4 S5 S6 S7 S8 : Type} {X : Task → Prop} {f m : Nat} {c : Code} {K : Ex → List A → List Blk → Prop} {r : R} (T' : Int → S0 → S1 → S2 → S3 → S4 → S5 → S6 → S7 → S8 → List A) (S' : Int → S0 → S1 → S2 → S3 → S4 → S5 → S6 → S7 → S8 → List Blk) (L : List α → Int → S0 → S1 → S2 → S3 → S4 → S5 → S6 → S7 → S8 → Option R) (l pre0 l0 : List α) (i0 : Int) (hl0 : l = pre0 ++ l0) (hi0 : i0 = (pre0.length : Int))
    (hstep : ∀ (pre : List α) (x : α) (xs : List α) (i : Int) (a0 : S0) (a1 : S1) (a2 : S2) (a3 : S3) (a4 : S4) (a5 : S5) (a6 : S6) (a7 : S7) (a8 : S8), l = pre ++ x :: xs → i = (pre.length : Int) → L (x :: xs) i a0 a1 a2 a3 a4 a5 a6 a7 a8 = some r → (∀ (i' : Int) (b0 : S0) (b1 : S1) (b2 : S2) (b3 : S3) (b4 : S4) (b5 : S5) (b6 : S6) (b7 : S7) (b8 : S8), i' = i + 1 → L xs (i + 1) b0 b1 b2 b3 b4 b5 b6 b7 b8 = some r → X (.loop f m c (T' i' b0 b1 b2 b3 b4 b5 b6 b7 b8) (S' i' b0 b1 b2 b3 b4 b5 b6 b7 b8) K)) → X (.loop f m c (T' i a0 a1 a2 a3 a4 a5 a6 a7 a8) (S' i a0 a1 a2 a3 a4 a5 a6 a7 a8) K))
    (hend : ∀ (i : Int) (a0 : S0) (a1 : S1) (a2 : S2) (a3 : S3) (a4 : S4) (a5 : S5) (a6 : S6) (a7 : S7) (a8 : S8), i = (l.length : Int) → L [] i a0 a1 a2 a3 a4 a5 a6 a7 a8 = some r → X (.loop f m c (T' i a0 a1 a2 a3 a4 a5 a6 a7 a8) (S' i a0 a1 a2 a3 a4 a5 a6 a7 a8) K)) (a0 : S0) (a1 : S1) (a2 : S2) (a3 : S3) (a4 : S4) (a5 : S5) (a6 : S6) (a7 : S7) (a8 : S8) (h : L l0 i0 a0 a1 a2 a3 a4 a5 a6 a7 a8 = some r) : X (.loop f m c (T' i0 a0 a1 a2 a3 a4 a5 a6 a7 a8) (S' i0 a0 a1 a2 a3 a4 a5 a6 a7 a8) K) := by
  have key : ∀ (xs pre : List α) (i : Int) (a0 : S0) (a1 : S1) (a2 : S2) (a3 : S3) (a4 : S4) (a5 : S5) (a6 : S6) (a7 : S7) (a8 : S8), l = pre ++ xs → i = (pre.length : Int) → L xs i a0 a1 a2 a3 a4 a5 a6 a7 a8 = some r → X (.loop f m c (T' i a0 a1 a2 a3 a4 a5 a6 a7 a8) (S' i a0 a1 a2 a3 a4 a5 a6 a7 a8) K) := by
    intro xs
    induction xs with
    | nil => intro pre i a0 a1 a2 a3 a4 a5 a6 a7 a8 hl hi h; exact hend i a0 a1 a2 a3 a4 a5 a6 a7 a8 (by rw [hl, hi]; simp) h
    | cons x xs ih => intro pre i a0 a1 a2 a3 a4 a5 a6 a7 a8 hl hi h; exact hstep pre x xs i a0 a1 a2 a3 a4 a5 a6 a7 a8 hl hi h fun i' b0 b1 b2 b3 b4 b5 b6 b7 b8 hi' h' => by subst hi'; exact ih (pre ++ [x]) (i + 1) b0 b1 b2 b3 b4 b5 b6 b7 b8 (by rw [hl]; simp) (by rw [hi]; simp) h'
  exact key l0 pre0 i0 a0 a1 a2 a3 a4 a5 a6 a7 a8 hl0 hi0 h
theorem loop_list9 {R α : Type} {S0 S1 S2 S3 S4 S5 S6 S7 S8 : Type} {X : Task → Prop} {f m : Nat} {c : Code} {K : Ex → List A → List Blk → Prop} {r : R} (T' : Int → S0 → S1 → S2 → S3 → S4 → S5 → S6 → S7 → S8 → List A) (S' : Int → S0 → S1 → S2 → S3 → S4 → S5 → S6 → S7 → S8 → List Blk) (L : List α → Int → S0 → S1 → S2 → S3 → S4 → S5 → S6 → S7 → S8 → Option R) (l : List α)
    (hstep : ∀ (pre : List α) (x : α) (xs : List α) (i : Int) (a0 : S0) (a1 : S1) (a2 : S2) (a3 : S3) (a4 : S4) (a5 : S5) (a6 : S6) (a7 : S7) (a8 : S8), l = pre ++ x :: xs → i = (pre.length : Int) → L (x :: xs) i a0 a1 a2 a3 a4 a5 a6 a7 a8 = some r → (∀ (i' : Int) (b0 : S0) (b1 : S1) (b2 : S2) (b3 : S3) (b4 : S4) (b5 : S5) (b6 : S6) (b7 : S7) (b8 : S8), i' = i + 1 → L xs (i + 1) b0 b1 b2 b3 b4 b5 b6 b7 b8 = some r → X (.loop f m c (T' i' b0 b1 b2 b3 b4 b5 b6 b7 b8) (S' i' b0 b1 b2 b3 b4 b5 b6 b7 b8) K)) → X (.loop f m c (T' i a0 a1 a2 a3 a4 a5 a6 a7 a8) (S' i a0 a1 a2 a3 a4 a5 a6 a7 a8) K))
    (hend : ∀ (i : Int) (a0 : S0) (a1 : S1) (a2 : S2) (a3 : S3) (a4 : S4) (a5 : S5) (a6 : S6) (a7 : S7) (a8 : S8), i = (l.length : Int) → L [] i a0 a1 a2 a3 a4 a5 a6 a7 a8 = some r → X (.loop f m c (T' i a0 a1 a2 a3 a4 a5 a6 a7 a8) (S' i a0 a1 a2 a3 a4 a5 a6 a7 a8) K)) (a0 : S0) (a1 : S1) (a2 : S2) (a3 : S3) (a4 : S4) (a5 : S5) (a6 : S6) (a7 : S7) (a8 : S8) (h : L l 0 a0 a1 a2 a3 a4 a5 a6 a7 a8 = some r) : X (.loop f m c (T' 0 a0 a1 a2 a3 a4 a5 a6 a7 a8) (S' 0 a0 a1 a2 a3 a4 a5 a6 a7 a8) K) := by
  have key : ∀ (xs pre : List α) (i : Int) (a0 : S0) (a1 : S1) (a2 : S2) (a3 : S3) (a4 : S4) (a5 : S5) (a6 : S6) (a7 : S7) (a8 : S8), l = pre ++ xs → i = (pre.length : Int) → L xs i a0 a1 a2 a3 a4 a5 a6 a7 a8 = some r → X (.loop f m c (T' i a0 a1 a2 a3 a4 a5 a6 a7 a8) (S' i a0 a1 a2 a3 a4 a5 a6 a7 a8) K) := by
    intro xs
    induction xs with
    | nil => intro pre i a0 a1 a2 a3 a4 a5 a6 a7 a8 hl hi h; exact hend i a0 a1 a2 a3 a4 a5 a6 a7 a8 (by rw [hl, hi]; simp) h
    | cons x xs ih => intro pre i a0 a1 a2 a3 a4 a5 a6 a7 a8 hl hi h; exact hstep pre x xs i a0 a1 a2 a3 a4 a5 a6 a7 a8 hl hi h fun i' b0 b1 b2 b3 b4 b5 b6 b7 b8 hi' h' => by subst hi'; exact ih (pre ++ [x]) (i + 1) b0 b1 b2 b3 b4 b5 b6 b7 b8 (by rw [hl]; simp) (by rw [hi]; simp) h'
  exact key l [] 0 a0 a1 a2 a3 a4 a5 a6 a7 a8 rfl rfl h
theorem loop_fuel9 {R : Type} {S0 S1 S2 S3 S4 S5 S6 S7 S8 : Type} {X : Task → Prop} {f m : Nat} {c : Code} {K : Ex → List A → List Blk → Prop} {r : R} (T' : S0 → S1 → S2 → S3 → S4 → S5 → S6 → S7 → S8 → List A) (S' : S0 → S1 → S2 → S3 → S4 → S5 → S6 → S7 → S8 → List Blk) (L : Nat → S0 → S1 → S2 → S3 → S4 → S5 → S6 → S7 → S8 → Option R)
    (h0 : ∀ (a0 : S0) (a1 : S1) (a2 : S2) (a3 : S3) (a4 : S4) (a5 : S5) (a6 : S6) (a7 : S7) (a8 : S8), L 0 a0 a1 a2 a3 a4 a5 a6 a7 a8 = some r → False)
    (hstep : ∀ (n : Nat) (a0 : S0) (a1 : S1) (a2 : S2) (a3 : S3) (a4 : S4) (a5 : S5) (a6 : S6) (a7 : S7) (a8 : S8), L (n + 1) a0 a1 a2 a3 a4 a5 a6 a7 a8 = some r → (∀ (b0 : S0) (b1 : S1) (b2 : S2) (b3 : S3) (b4 : S4) (b5 : S5) (b6 : S6) (b7 : S7) (b8 : S8), L n b0 b1 b2 b3 b4 b5 b6 b7 b8 = some r → X (.loop f m c (T' b0 b1 b2 b3 b4 b5 b6 b7 b8) (S' b0 b1 b2 b3 b4 b5 b6 b7 b8) K)) → X (.loop f m c (T' a0 a1 a2 a3 a4 a5 a6 a7 a8) (S' a0 a1 a2 a3 a4 a5 a6 a7 a8) K)) (N : Nat) (a0 : S0) (a1 : S1) (a2 : S2) (a3 : S3) (a4 : S4) (a5 : S5) (a6 : S6) (a7 : S7) (a8 : S8) (h : L N a0 a1 a2 a3 a4 a5 a6 a7 a8 = some r) : X (.loop f m c (T' a0 a1 a2 a3 a4 a5 a6 a7 a8) (S' a0 a1 a2 a3 a4 a5 a6 a7 a8) K) := by
  induction N generalizing a0 a1 a2 a3 a4 a5 a6 a7 a8 with
  | zero => exact (h0 a0 a1 a2 a3 a4 a5 a6 a7 a8 h).elim
  | succ N ih => exact hstep N a0 a1 a2 a3 a4 a5 a6 a7 a8 h fun b0 b1 b2 b3 b4 b5 b6 b7 b8 h' => ih b0 b1 b2 b3 b4 b5 b6 b7 b8 h'
theorem join9 {R : Type} {S0 S1 S2 S3 S4 S5 S6 S7 S8 : Type} {X : Task → Prop} {f m : Nat} {c : Code} {K : Ex → List A → List Blk → Prop} {r : R} {G : Prop} {j : S0 → S1 → S2 → S3 → S4 → S5 → S6 → S7 → S8 → Option R} (T' : S0 → S1 → S2 → S3 → S4 → S5 → S6 → S7 → S8 → List A) (S' : S0 → S1 → S2 → S3 → S4 → S5 → S6 → S7 → S8 → List Blk)
    (main : Hold (∀ (a0 : S0) (a1 : S1) (a2 : S2) (a3 : S3) (a4 : S4) (a5 : S5) (a6 : S6) (a7 : S7) (a8 : S8), j a0 a1 a2 a3 a4 a5 a6 a7 a8 = some r → X (.rest f m c (T' a0 a1 a2 a3 a4 a5 a6 a7 a8) (S' a0 a1 a2 a3 a4 a5 a6 a7 a8) K)) → G) (tail : ∀ (a0 : S0) (a1 : S1) (a2 : S2) (a3 : S3) (a4 : S4) (a5 : S5) (a6 : S6) (a7 : S7) (a8 : S8), j a0 a1 a2 a3 a4 a5 a6 a7 a8 = some r → X (.rest f m c (T' a0 a1 a2 a3 a4 a5 a6 a7 a8) (S' a0 a1 a2 a3 a4 a5 a6 a7 a8) K)) : G := main ⟨tail⟩
theorem loop_lisz10 {R α : Type} {S0 S1 S2 S3 S4 S5 S6 S7 S8 S9 : Type} {X : Task → Prop} {f m : Nat} {c : Code} {K : Ex → List A → List Blk → Prop} {r : R} (T' : Int → S0 → S1 → S2 → S3 → S4 → S5 → S6 → S7 → S8 → S9 → List A) (S' : Int → S0 → S1 → S2 → S3 → S4 → S5 → S6 → S7 → S8 → S9 → List Blk) (L : List α → S0 → S1 → S2 → S3 → S4 → S5 → S6 → S7 → S8 → S9 → Option R) (l pre0 l0 : List α) (i0 : Int) (hl0 : l = pre0 ++ l0) (hi0 : i0 = (pre0.length : Int))
    (hstep : ∀ (pre : List α) (x : α) (xs : List α) (i : Int) (a0 : S0) (a1 : S1) (a2 : S2) (a3 : S3) (a4 : S4) (a5 : S5) (a6 : S6) (a7 : S7) (a8 : S8) (a9 : S9), l = pre ++ x :: xs → i = (pre.length : Int) → L (x :: xs) a0 a1 a2 a3 a4 a5 a6 a7 a8 a9 = some r → (∀ (i' : Int) (b0 : S0) (b1 : S1) (b2 : S2) (b3 : S3) (b4 : S4) (b5 : S5) (b6 : S6) (b7 : S7) (b8 : S8) (b9 : S9), i' = i + 1 → L xs b0 b1 b2 b3 b4 b5 b6 b7 b8 b9 = some r → X (.loop f m c (T' i' b0 b1 b2 b3 b4 b5 b6 b7 b8 b9) (S' i' b0 b1 b2 b3 b4 b5 b6 b7 b8 b9) K)) → X (.loop f m c (T' i a0 a1 a2 a3 a4 a5 a6 a7 a8 a9) (S' i a0 a1 a2 a3 a4 a5 a6 a7 a8 a9) K))
    (hend : ∀ (i : Int) (a0 : S0) (a1 : S1) (a2 : S2) (a3 : S3) (a4 : S4) (a5 : S5) (a6 : S6) (a7 : S7) (a8 : S8) (a9 : S9), i = (l.length : Int) → L [] a0 a1 a2 a3 a4 a5 a6 a7 a8 a9 = some r → X (.loop f m c (T' i a0 a1 a2 a3 a4 a5 a6 a7 a8 a9) (S' i a0 a1 a2 a3 a4 a5 a6 a7 a8 a9) K)) (a0 : S0) (a1 : S1) (a2 : S2) (a3 : S3) (a4 : S4) (a5 : S5) (a6 : S6) (a7 : S7) (a8 : S8) (a9 : S9) (h : L l0 a0 a1 a2 a3 a4 a5 a6 a7 a8 a9 = some r) : X (.loop f m c (T' i0 a0 a1 a2 a3 a4 a5 a6 a7 a8 a9) (S' i0 a0 a1 a2 a3 a4 a5 a6 a7 a8 a9) K) := by
  have key : ∀ (xs pre : List α) (i : Int) (a0 : S0) (a1 : S1) (a2 : S2) (a3 : S3) (a4 : S4) (a5 : S5) (a6 : S6) (a7 : S7) (a8 : S8) (a9 : S9), l = pre ++ xs → i = (pre.length : Int) → L xs a0 a1 a2 a3 a4 a5 a6 a7 a8 a9 = some r → X (.loop f m c (T' i a0 a1 a2 a3 a4 a5 a6 a7 a8 a9) (S' i a0 a1 a2 a3 a4 a5 a6 a7 a8 a9) K) := by
    intro xs
    induction xs with
    | nil => intro pre i a0 a1 a2 a3 a4 a5 a6 a7 a8 a9 hl hi h; exact hend i a0 a1 a2 a3 a4 a5 a6 a7 a8 a9 (by rw [hl, hi]; simp) h
    | cons x xs ih => intro pre i a0 a1 a2 a3 a4 a5 a6 a7 a8 a9 hl hi h; exact hstep pre x xs i a0 a1 a2 a3 a4 a5 a6 a7 a8 a9 hl hi h fun i' b0 b1 b2 b3 b4 b5 b6 b7 b8 b9 hi' h' => by subst hi'; exact ih (pre ++ [x]) (i + 1) b0 b1 b2 b3 b4 b5 b6 b7 b8 b9 (by rw [hl]; simp) (by rw [hi]; simp) h'
  exact key l0 pre0 i0 a0 a1 a2 a3 a4 a5 a6 a7 a8 a9 hl0 hi0 h
theorem loop_lisx10 {R α : Type} {S0 S1 S2 S3 S4 S5 S6 S7 S8 S9 : Type} {X : Task → Prop} {f m : Nat} {c : Code} {K : Ex → List A → List Blk → Prop} {r : R} (T' : Int → S0 → S1 → S2 → S3 → S4 → S5 → S6 → S7 → S8 → S9 → List A) (S' : Int → S0 → S1 → S2 → S3 → S4 → S5 → S6 → S7 → S8 → S9 → List Blk) (L : List α → S0 → S1 → S2 → S3 → S4 → S5 → S6 → S7 → S8 → S9 → Option R) (l : List α)
    (hstep : ∀ (pre : List α) (x : α) (xs : List α) (i : Int) (a0 : S0) (a1 : S1) (a2 : S2) (a3 : S3) (a4 : S4) (a5 : S5) (a6 : S6) (a7 : S7) (a8 : S8) (a9 : S9), l = pre ++ x :: xs → i = (pre.length : Int) → L (x :: xs) a0 a1 a2 a3 a4 a5 a6 a7 a8 a9 = some r → (∀ (i' : Int) (b0 : S0) (b1 : S1) (b2 : S2) (b3 : S3) (b4 : S4) (b5 : S5) (b6 : S6) (b7 : S7) (b8 : S8) (b9 : S9), i' = i + 1 → L xs b0 b1 b2 b3 b4 b5 b6 b7 b8 b9 = some r → X (.loop f m c (T' i' b0 b1 b2 b3 b4 b5 b6 b7 b8 b9) (S' i' b0 b1 b2 b3 b4 b5 b6 b7 b8 b9) K)) → X (.loop f m c (T' i a0 a1 a2 a3 a4 a5 a6 a7 a8 a9) (S' i a0 a1 a2 a3 a4 a5 a6 a7 a8 a9) K))
    (hend : ∀ (i : Int) (a0 : S0) (a1 : S1) (a2 : S2) (a3 : S3) (a4 : S4) (a5 : S5) (a6 : S6) (a7 : S7) (a8 : S8) (a9 : S9), i = (l.length : Int) → L [] a0 a1 a2 a3 a4 a5 a6 a7 a8 a9 = some r → X (.loop f m c (T' i a0 a1 a2 a3 a4 a5 a6 a7 a8 a9) (S' i a0 a1 a2 a3 a4 a5 a6 a7 a8 a9) K)) (a0 : S0) (a1 : S1) (a2 : S2) (a3 : S3) (a4 : S4) (a5 : S5) (a6 : S6) (a7 : S7) (a8 : S8) (a9 : S9) (h : L l a0 a1 a2 a3 a4 a5 a6 a7 a8 a9 = some r) : X (.loop f m c (T' 0 a0 a1 a2 a3 a4 a5 a6 a7 a8 a9) (S' 0 a0 a1 a2 a3 a4 a5 a6 a7 a8 a9) K) := by
  have key : ∀ (xs pre : List α) (i : Int) (a0 : S0) (a1 : S1) (a2 : S2) (a3 : S3) (a4 : S4) (a5 : S5) (a6 : S6) (a7 : S7) (a8 : S8) (a9 : S9), l = pre ++ xs → i = (pre.length : Int) → L xs a0 a1 a2 a3 a4 a5 a6 a7 a8 a9 = some r → X (.loop f m c (T' i a0 a1 a2 a3 a4 a5 a6 a7 a8 a9) (S' i a0 a1 a2 a3 a4 a5 a6 a7 a8 a9) K) := by
    intro xs
    induction xs with
    | nil => intro pre i a0 a1 a2 a3 a4 a5 a6 a7 a8 a9 hl hi h; exact hend i a0 a1 a2 a3 a4 a5 a6 a7 a8 a9 (by rw [hl, hi]; simp) h
    | cons x xs ih => intro pre i a0 a1 a2 a3 a4 a5 a6 a7 a8 a9 hl hi h; exact hstep pre x xs i a0 a1 a2 a3 a4 a5 a6 a7 a8 a9 hl hi h fun i' b0 b1 b2 b3 b4 b5 b6 b7 b8 b9 hi' h' => by subst hi'; exact ih (pre ++ [x]) (i + 1) b0 b1 b2 b3 b4 b5 b6 b7 b8 b9 (by rw [hl]; simp) (by rw [hi]; simp) h'
  exact key l [] 0 a0 a1 a2 a3 a4 a5 a6 a7 a8 a9 rfl rfl h
theorem loop_lisw10 {R α : Type} {S0 S1 S2 S3 S4 S5 S6 S7 S8 S9 : Type} {X : Task → Prop} {f m : Nat} {c : Code} {K : Ex → List A → List Blk → Prop} {r : R} (T' : Int → S0 → S1 → S2 → S3 → S4 → S5 → S6 → S7 → S8 → S9 → List A) (S' : Int → S0 → S1 → S2 → S3 → S4 → S5 → S6 → S7 → S8 → S9 → List Blk) (L : List α → Int → S0 → S1 → S2 → S3 → S4 → S5 → S6 → S7 → S8 → S9 → Option R) (l pre0 l0 : List α) (i0 : Int) (hl0 : l = pre0 ++ l0) (hi0 : i0 = (pre0.length : Int))
    (hstep : ∀ (pre : List α) (x : α) (xs : List α) (i : Int) (a0 : S0) (a1 : S1) (a2 : S2) (a3 : S3) (a4 : S4) (a5 : S5) (a6 : S6) (a7 : S7) (a8 : S8) (a9 : S9), l = pre ++ x :: xs → i = (pre.length : Int) → L (x :: xs) i a0 a1 a2 a3 a4 a5 a6 a7 a8 a9 = some r → (∀ (i' : Int) (b0 : S0) (b1 : S1) (b2 : S2) (b3 : S3) (b4 : S4) (b5 : S5) (b6 : S6) (b7 : S7) (b8 : S8) (b9 : S9), i' = i + 1 → L xs (i + 1) b0 b1 b2 b3 b4 b5 b6 b7 b8 b9 = some r → X (.loop f m c (T' i' b0 b1 b2 b3 b4 b5 b6 b7 b8 b9) (S' i' b0 b1 b2 b3 b4 b5 b6 b7 b8 b9) K)) → X (.loop f m c (T' i a0 a1 a2 a3 a4 a5 a6 a7 a8 a9) (S' i a0 a1 a2 a3 a4 a5 a6 a7 a8 a9) K))
    (hend : ∀ (i : Int) (a0 : S0) (a1 : S1) (a2 : S2) (a3 : S3) (a4 : S4) (a5 : S5) (a6 : S6) (a7 : S7) (a8 : S8) (a9 : S9), i = (l.length : Int) → L [] i a0 a1 a2 a3 a4 a5 a6 a7 a8 a9 = some r → X (.loop f m c (T' i a0 a1 a2 a3 a4 a5 a6 a7 a8 a9) (S' i a0 a1 a2 a3 a4 a5 a6 a7 a8 a9) K)) (a0 : S0) (a1 : S1) (a2 : S2) (a3 : S3) (a4 : S4) (a5 : S5) (a6 : S6) (a7 : S7) (a8 : S8) (a9 : S9) (h : L l0 i0 a0 a1 a2 a3 a4 a5 a6 a7 a8 a9 = some r) : X (.loop f m c (T' i0 a0 a1 a2 a3 a4 a5 a6 a7 a8 a9) (S' i0 a0 a1 a2 a3 a4 a5 a6 a7 a8 a9) K) := by
  have key : ∀ (xs pre : List α) (i : Int) (a0 : S0) (a1 : S1) (a2 : S2) (a3 : S3) (a4 : S4) (a5 : S5) (a6 : S6) (a7 : S7) (a8 : S8) (a9 : S9), l = pre ++ xs → i = (pre.length : Int) → L xs i a0 a1 a2 a3 a4 a5 a6 a7 a8 a9 = some r → X (.loop f m c (T' i a0 a1 a2 a3 a4 a5 a6 a7 a8 a9) (S' i a0 a1 a2 a3 a4 a5 a6 a7 a8 a9) K) := by
    intro xs
    induction xs with
    | nil => intro pre i a0 a1 a2 a3 a4 a5 a6 a7 a8 a9 hl hi h; exact hend i a0 a1 a2 a3 a4 a5 a6 a7 a8 a9 (by rw [hl, hi]; simp) h
    | cons x xs ih => intro pre i a0 a1 a2 a3 a4 a5 a6 a7 a8 a9 hl hi h; exact hstep pre x xs i a0 a1 a2 a3 a4 a5 a6 a7 a8 a9 hl hi h fun i' b0 b1 b2 b3 b4 b5 b6 b7 b8 b9 hi' h' => by subst hi'; exact ih (pre ++ [x]) (i + 1) b0 b1 b2 b3 b4 b5 b6 b7 b8 b9 (by rw [hl]; simp) (by rw [hi]; simp) h'
  exact key l0 pre0 i0 a0 a1 a2 a3 a4 a5 a6 a7 a8 a9 hl0 hi0 h
theorem loop_list10 {R α : Type} {S0 S1 S2 S3 S4 S5 S6 S7 S8 S9 : Type} {X : Task → Prop} {f m : Nat} {c : Code} {K : Ex → List A → List Blk → Prop} {r : R} (T' : Int → S0 → S1 → S2 → S3 → S4 → S5 → S6 → S7 → S8 → S9 → List A) (S' : Int → S0 → S1 → S2 → S3 → S4 → S5 → S6 → S7 → S8 → S9 → List Blk) (L : List α → Int → S0 → S1 → S2 → S3 → S4 → S5 → S6 → S7 → S8 → S9 → Option R) (l : List α)
    (hstep : ∀ (pre : List α) (x : α) (xs : List α) (i : Int) (a0 : S0) (a1 : S1) (a2 : S2) (a3 : S3) (a4 : S4) (a5 : S5) (a6 : S6) (a7 : S7) (a8 : S8) (a9 : S9), l = pre ++ x :: xs → i = (pre.length : Int) → L (x :: xs) i a0 a1 a2 a3 a4 a5 a6 a7 a8 a9 = some r → (∀ (i' : Int) (b0 : S0) (b1 : S1) (b2 : S2) (b3 : S3) (b4 : S4) (b5 : S5) (b6 : S6) (b7 : S7) (b8 : S8) (b9 : S9), i' = i + 1 → L xs (i + 1) b0 b1 b2 b3 b4 b5 b6 b7 b8 b9 = some r → X (.loop f m c (T' i' b0 b1 b2 b3 b4 b5 b6 b7 b8 b9) (S' i' b0 b1 b2 b3 b4 b5 b6 b7 b8 b9) K)) → X (.loop f m c (T' i a0 a1 a2 a3 a4 a5 a6 a7 a8 a9) (S' i a0 a1 a2 a3 a4 a5 a6 a7 a8 a9) K))
    (hend : ∀ (i : Int) (a0 : S0) (a1 : S1) (a2 : S2) (a3 : S3) (a4 : S4) (a5 : S5) (a6 : S6) (a7 : S7) (a8 : S8) (a9 : S9), i = (l.length : Int) → L [] i a0 a1 a2 a3 a4 a5 a6 a7 a8 a9 = some r → X (.loop f m c (T' i a0 a1 a2 a3 a4 a5 a6 a7 a8 a9) (S' i a0 a1 a2 a3 a4 a5 a6 a7 a8 a9) K)) (a0 : S0) (a1 : S1) (a2 : S2) (a3 : S3) (a4 : S4) (a5 : S5) (a6 : S6) (a7 : S7) (a8 : S8) (a9 : S9) (h : L l 0 a0 a1 a2 a3 a4 a5 a6 a7 a8 a9 = some r) : X (.loop f m c (T' 0 a0 a1 a2 a3 a4 a5 a6 a7 a8 a9) (S' 0 a0 a1 a2 a3 a4 a5 a6 a7 a8 a9) K) := by
  have key : ∀ (xs pre : List α) (i : Int) (a0 : S0) (a1 : S1) (a2 : S2) (a3 : S3) (a4 : S4) (a5 : S5) (a6 : S6) (a7 : S7) (a8 : S8) (a9 : S9), l = pre ++ xs → i = (pre.length : Int) → L xs i a0 a1 a2 a3 a4 a5 a6 a7 a8 a9 = some r → X (.loop f m c (T' i a0 a1 a2 a3 a4 a5 a6 a7 a8 a9) (S' i a0 a1 a2 a3 a4 a5 a6 a7 a8 a9) K) := by
    intro xs
    induction xs with
    | nil => intro pre i a0 a1 a2 a3 a4 a5 a6 a7 a8 a9 hl hi h; exact hend i a0 a1 a2 a3 a4 a5 a6 a7 a8 a9 (by rw [hl, hi]; simp) h
    | cons x xs ih => intro pre i a0 a1 a2 a3 a4 a5 a6 a7 a8 a9 hl hi h; exact hstep pre x xs i a0 a1 a2 a3 a4 a5 a6 a7 a8 a9 hl hi h fun i' b0 b1 b2 b3 b4 b5 b6 b7 b8 b9 hi' h' => by subst hi'; exact ih (pre ++ [x]) (i + 1) b0 b1 b2 b3 b4 b5 b6 b7 b8 b9 (by rw [hl]; simp) (by rw [hi]; simp) h'
  exact key l [] 0 a0 a1 a2 a3 a4 a5 a6 a7 a8 a9 rfl rfl h
theorem loop_fuel10 {R : Type} {S0 S1 S2 S3 S4 S5 S6 S7 S8 S9 : Type} {X : Task → Prop} {f m : Nat} {c : Code} {K : Ex → List A → List Blk → Prop} {r : R} (T' : S0 → S1 → S2 → S3 → S4 → S5 → S6 → S7 → S8 → S9 → List A) (S' : S0 → S1 → S2 → S3 → S4 → S5 → S6 → S7 → S8 → S9 → List Blk) (L : Nat → S0 → S1 → S2 → S3 → S4 → S5 → S6 → S7 → S8 → S9 → Option R)
    (h0 : ∀ (a0 : S0) (a1 : S1) (a2 : S2) (a3 : S3) (a4 : S4) (a5 : S5) (a6 : S6) (a7 : S7) (a8 : S8) (a9 : S9), L 0 a0 a1 a2 a3 a4 a5 a6 a7 a8 a9 = some r → False)
    (hstep : ∀ (n : Nat) (a0 : S0) (a1 : S1) (a2 : S2) (a3 : S3) (a4 : S4) (a5 : S5) (a6 : S6) (a7 : S7) (a8 : S8) (a9 : S9), L (n + 1) a0 a1 a2 a3 a4 a5 a6 a7 a8 a9 = some r → (∀ (b0 : S0) (b1 : S1) (b2 : S2) (b3 : S3) (b4 : S4) (b5 : S5) (b6 : S6) (b7 : S7) (b8 : S8) (b9 : S9), L n b0 b1 b2 b3 b4 b5 b6 b7 b8 b9 = some r → X (.loop f m c (T' b0 b1 b2 b3 b4 b5 b6 b7 b8 b9) (S' b0 b1 b2 b3 b4 b5 b6 b7 b8 b9) K)) → X (.loop f m c (T' a0 a1 a2 a3 a4 a5 a6 a7 a8 a9) (S' a0 a1 a2 a3 a4 a5 a6 a7 a8 a9) K)) (N : Nat) (a0 : S0) (a1 : S1) (a2 : S2) (a3 : S3) (a4 : S4) (a5 : S5) (a6 : S6) (a7 : S7) (a8 : S8) (a9 : S9) (h : L N a0 a1 a2 a3 a4 a5 a6 a7 a8 a9 = some r) : X (.loop f m c (T' a0 a1 a2 a3 a4 a5 a6 a7 a8 a9) (S' a0 a1 a2 a3 a4 a5 a6 a7 a8 a9) K) := by
  induction N generalizing a0 a1 a2 a3 a4 a5 a6 a7 a8 a9 with
  | zero => exact (h0 a0 a1 a2 a3 a4 a5 a6 a7 a8 a9 h).elim
  | succ N ih => exact hstep N a0 a1 a2 a3 a4 a5 a6 a7 a8 a9 h fun b0 b1 b2 b3 b4 b5 b6 b7 b8 b9 h' => ih b0 b1 b2 b3 b4 b5 b6 b7 b8 b9 h'
theorem join10 {R : Type} {S0 S1 S2 S3 S4 S5 S6 S7 S8 S9 : Type} {X : Task → Prop} {f m : Nat} {c : Code} {K : Ex → List A → List Blk → Prop} {r : R} {G : Prop} {j : S0 → S1 → S2 → S3 → S4 → S5 → S6 → S7 → S8 → S9 → Option R} (T' : S0 → S1 → S2 → S3 → S4 → S5 → S6 → S7 → S8 → S9 → List A) (S' : S0 → S1 → S2 → S3 → S4 → S5 → S6 → S7 → S8 → S9 → List Blk)
    (main : Hold (∀ (a0 : S0) (a1 : S1) (a2 : S2) (a3 : S3) (a4 : S4) (a5 : S5) (a6 : S6) (a7 : S7) (a8 : S8) (a9 : S9), j a0 a1 a2 a3 a4 a5 a6 a7 a8 a9 = some r → X (.rest f m c (T' a0 a1 a2 a3 a4 a5 a6 a7 a8 a9) (S' a0 a1 a2 a3 a4 a5 a6 a7 a8 a9) K)) → G) (tail : ∀ (a0 : S0) (a1 : S1) (a2 : S2) (a3 : S3) (a4 : S4) (a5 : S5) (a6 : S6) (a7 : S7) (a8 : S8) (a9 : S9), j a0 a1 a2 a3 a4 a5 a6 a7 a8 a9 = some r → X (.rest f m c (T' a0 a1 a2 a3 a4 a5 a6 a7 a8 a9) (S' a0 a1 a2 a3 a4 a5 a6 a7 a8 a9) K)) : G := main ⟨tail⟩
theorem loop_lisz11 {R α : Type} {S0 S1 S2 S3 S4 S5 S6 S7 S8 S9 S10 : Type} {X : Task → Prop} {f m : Nat} {c : Code} {K : Ex → List A → List Blk → Prop} {r : R} (T' : Int → S0 → S1 → S2 → S3 → S4 → S5 → S6 → S7 → S8 → S9 → S10 → List A) (S' : Int → S0 → S1 → S2 → S3 → S4 → S5 → S6 → S7 → S8 → S9 → S10 → List Blk) (L : List α → S0 → S1 → S2 → S3 → S4 → S5 → S6 → S7 → S8 → S9 → S10 → Option R) (l pre0 l0 : List α) (i0 : Int) (hl0 : l = pre0 ++ l0) (hi0 : i0 = (pre0.length : Int))
    (hstep : ∀ (pre : List α) (x : α) (xs : List α) (i : Int) (a0 : S0) (a1 : S1) (a2 : S2) (a3 : S3) (a4 : S4) (a5 : S5) (a6 : S6) (a7 : S7) (a8 : S8) (a9 : S9) (a10 : S10), l = pre ++ x :: xs → i = (pre.length : Int) → L (x :: xs) a0 a1 a2 a3 a4 a5 a6 a7 a8 a9 a10 = some r → (∀ (i' : Int) (b0 : S0) (b1 : S1) (b2 : S2) (b3 : S3) (b4 : S4) (b5 : S5) (b6 : S6) (b7 : S7) (b8 : S8) (b9 : S9) (b10 : S10), i' = i + 1 → L xs b0 b1 b2 b3 b4 b5 b6 b7 b8 b9 b10 = some r → X (.loop f m c (T' i' b0 b1 b2 b3 b4 b5 b6 b7 b8 b9 b10) (S' i' b0 b1 b2 b3 b4 b5 b6 b7 b8 b9 b10) K)) → X (.loop f m c (T' i a0 a1 a2 a3 a4 a5 a6 a7 a8 a9 a10) (S' i a0 a1 a2 a3 a4 a5 a6 a7 a8 a9 a10) K))
    (hend : ∀ (i : Int) (a0 : S0) (a1 : S1) (a2 : S2) (a3 : S3) (a4 : S4) (a5 : S5) (a6 : S6) (a7 : S7) (a8 : S8) (a9 : S9) (a10 : S10), i = (l.length : Int) → L [] a0 a1 a2 a3 a4 a5 a6 a7 a8 a9 a10 = some r → X (.loop f m c (T' i a0 a1 a2 a3 a4 a5 a6 a7 a8 a9 a10) (S' i a0 a1 a2 a3 a4 a5 a6 a7 a8 a9 a10) K)) (a0 : S0) (a1 : S1) (a2 : S2) (a3 : S3) (a4 : S4) (a5 : S5) (a6 : S6) (a7 : S7) (a8 : S8) (a9 : S9) (a10 : S10) (h : L l0 a0 a1 a2 a3 a4 a5 a6 a7 a8 a9 a10 = some r) : X (.loop f m c (T' i0 a0 a1 a2 a3 a4 a5 a6 a7 a8 a9 a10) (S' i0 a0 a1 a2 a3 a4 a5 a6 a7 a8 a9 a10) K) := by
  have key : ∀ (xs pre : List α) (i : Int) (a0 : S0) (a1 : S1) (a2 : S2) (a3 : S3) (a4 : S4) (a5 : S5) (a6 : S6) (a7 : S7) (a8 : S8) (a9 : S9) (a10 : S10), l = pre ++ xs → i = (pre.length : Int) → L xs a0 a1 a2 a3 a4 a5 a6 a7 a8 a9 a10 = some r → X (.loop f m c (T' i a0 a1 a2 a3 a4 a5 a6 a7 a8 a9 a10) (S' i a0 a1 a2 a3 a4 a5 a6 a7 a8 a9 a10) K) := by
    intro xs
    induction xs with
    | nil => intro pre i a0 a1 a2 a3 a4 a5 a6 a7 a8 a9 a10 hl hi h; exact hend i a0 a1 a2 a3 a4 a5 a6 a7 a8 a9 a10 (by rw [hl, hi]; simp) h
    | cons x xs ih => intro pre i a0 a1 a2 a3 a4 a5 a6 a7 a8 a9 a10 hl hi h; exact hstep pre x xs i a0 a1 a2 a3 a4 a5 a6 a7 a8 a9 a10 hl hi h fun i' b0 b1 b2 b3 b4 b5 b6 b7 b8 b9 b10 hi' h' => by subst hi'; exact ih (pre ++ [x]) (i + 1) b0 b1 b2 b3 b4 b5 b6 b7 b8 b9 b10 (by rw [hl]; simp) (by rw [hi]; simp) h'
  exact key l0 pre0 i0 a0 a1 a2 a3 a4 a5 a6 a7 a8 a9 a10 hl0 hi0 h
theorem loop_lisx11 {R α : Type} {S0 S1 S2 S3 S4 S5 S6 S7 S8 S9 S10 : Type} {X : Task → Prop} {f m : Nat} {c : Code} {K : Ex → List A → List Blk → Prop} {r : R} (T' : Int → S0 → S1 → S2 → S3 → S4 → S5 → S6 → S7 → S8 → S9 → S10 → List A) (S' : Int → S0 → S1 → S2 → S3 → S4 → S5 → S6 → S7 → S8 → S9 → S10 → List Blk) (L : List α → S0 → S1 → S2 → S3 → S4 → S5 → S6 → S7 → S8 → S9 → S10 → Option R) (l : List α)
    (hstep : ∀ (pre : List α) (x : α) (xs : List α) (i : Int) (a0 : S0) (a1 : S1) (a2 : S2) (a3 : S3) (a4 : S4) (a5 : S5) (a6 : S6) (a7 : S7) (a8 : S8) (a9 : S9) (a10 : S10), l = pre ++ x :: xs → i = (pre.length : Int) → L (x :: xs) a0 a1 a2 a3 a4 a5 a6 a7 a8 a9 a10 = some r → (∀ (i' : Int) (b0 : S0) (b1 : S1) (b2 : S2) (b3 : S3) (b4 : S4) (b5 : S5) (b6 : S6) (b7 : S7) (b8 : S8) (b9 : S9) (b10 : S10), i' = i + 1 → L xs b0 b1 b2 b3 b4 b5 b6 b7 b8 b9 b10 = some r → X (.loop f m c (T' i' b0 b1 b2 b3 b4 b5 b6 b7 b8 b9 b10) (S' i' b0 b1 b2 b3 b4 b5 b6 b7 b8 b9 b10) K)) → X (.loop f m c (T' i a0 a1 a2 a3 a4 a5 a6 a7 a8 a9 a10) (S' i a0 a1 a2 a3 a4 a5 a6 a7 a8 a9 a10) K))
    (hend : ∀ (i : Int) (a0 : S0) (a1 : S1) (a2 : S2) (a3 : S3) (a4 : S4) (a5 : S5) (a6 : S6) (a7 : S7) (a8 : S8) (a9 : S9) (a10 : S10), i = (l.length : Int) → L [] a0 a1 a2 a3 a4 a5 a6 a7 a8 a9 a10 = some r → X (.loop f m c (T' i a0 a1 a2 a3 a4 a5 a6 a7 a8 a9 a10) (S' i a0 a1 a2 a3 a4 a5 a6 a7 a8 a9 a10) K)) (a0 : S0) (a1 : S1) (a2 : S2) (a3 : S3) (a4 : S4) (a5 : S5) (a6 : S6) (a7 : S7) (a8 : S8) (a9 : S9) (a10 : S10) (h : L l a0 a1 a2 a3 a4 a5 a6 a7 a8 a9 a10 = some r) : X (.loop f m c (T' 0 a0 a1 a2 a3 a4 a5 a6 a7 a8 a9 a10) (S' 0 a0 a1 a2 a3 a4 a5 a6 a7 a8 a9 a10) K) := by
  have key : ∀ (xs pre : List α) (i : Int) (a0 : S0) (a1 : S1) (a2 : S2) (a3 : S3) (a4 : S4) (a5 : S5) (a6 : S6) (a7 : S7) (a8 : S8) (a9 : S9) (a10 : S10), l = pre ++ xs → i = (pre.length : Int) → L xs a0 a1 a2 a3 a4 a5 a6 a7 a8 a9 a10 = some r → X (.loop f m c (T' i a0 a1 a2 a3 a4 a5 a6 a7 a8 a9 a10) (S' i a0 a1 a2 a3 a4 a5 a6 a7 a8 a9 a10) K) := by
    intro xs
    induction xs with
    | nil => intro pre i a0 a1 a2 a3 a4 a5 a6 a7 a8 a9 a10 hl hi h; exact hend i a0 a1 a2 a3 a4 a5 a6 a7 a8 a9 a10 (by rw [hl, hi]; simp) h
    | cons x xs ih => intro pre i a0 a1 a2 a3 a4 a5 a6 a7 a8 a9 a10 hl hi h; exact hstep pre x xs i a0 a1 a2 a3 a4 a5 a6 a7 a8 a9 a10 hl hi h fun i' b0 b1 b2 b3 b4 b5 b6 b7 b8 b9 b10 hi' h' => by subst hi'; exact ih (pre ++ [x]) (i + 1) b0 b1 b2 b3 b4 b5 b6 b7 b8 b9 b10 (by rw [hl]; simp) (by rw [hi]; simp) h'
  exact key l [] 0 a0 a1 a2 a3 a4 a5 a6 a7 a8 a9 a10 rfl rfl h
theorem loop_lisw11 {R α : Type} {S0 S1 S2 S3 S4 S5 S6 S7 S8 S9 S10 : Type} {X : Task → Prop} {f m : Nat} {c : Code} {K : Ex → List A → List Blk → Prop} {r : R} (T' : Int → S0 → S1 → S2 → S3 → S4 → S5 → S6 → S7 → S8 → S9 → S10 → List A) (S' : Int → S0 → S1 → S2 → S3 → S4 → S5 → S6 → S7 → S8 → S9 → S10 → List Blk) (L : List α → Int → S0 → S1 → S2 → S3 → S4 → S5 → S6 → S7 → S8 → S9 → S10 → Option R) (l pre0 l0 : List α) (i0 : Int) (hl0 : l = pre0 ++ l0) (hi0 : i0 = (pre0.length : Int))
    (hstep : ∀ (pre : List α) (x : α) (xs : List α) (i : Int) (a0 : S0) (a1 : S1) (a2 : S2) (a3 : S3) (a4 : S4) (a5 : S5) (a6 : S6) (a7 : S7) (a8 : S8) (a9 : S9) (a10 : S10), l = pre ++ x :: xs → i = (pre.length : Int) → L (x :: xs) i a0 a1 a2 a3 a4 a5 a6 a7 a8 a9 a10 = some r → (∀ (i' : Int) (b0 : S0) (b1 : S1) (b2 : S2) (b3 : S3) (b4 : S4) (b5 : S5) (b6 : S6) (b7 : S7) (b8 : S8) (b9 : S9) (b10 : S10), i' = i + 1 → L xs (i + 1) b0 b1 b2 b3 b4 b5 b6 b7 b8 b9 b10 = some r → X (.loop f m c (T' i' b0 b1 b2 b3 b4 b5 b6 b7 b8 b9 b10) (S' i' b0 b1 b2 b3 b4 b5 b6 b7 b8 b9 b10) K)) → X (.loop f m c (T' i a0 a1 a2 a3 a4 a5 a6 a7 a8 a9 a10) (S' i a0 a1 a2 a3 a4 a5 a6 a7 a8 a9 a10) K))
    (hend : ∀ (i : Int) (a0 : S0) (a1 : S1) (a2 : S2) (a3 : S3) (a4 : S4) (a5 : S5) (a6 : S6) (a7 : S7) (a8 : S8) (a9 : S9) (a10 : S10), i = (l.length : Int) → L [] i a0 a1 a2 a3 a4 a5 a6 a7 a8 a9 a10 = some r → X (.loop f m c (T' i a0 a1 a2 a3 a4 a5 a6 a7 a8 a9 a10) (S' i a0 a1 a2 a3 a4 a5 a6 a7 a8 a9 a10) K)) (a0 : S0) (a1 : S1) (a2 : S2) (a3 : S3) (a4 : S4) (a5 : S5) (a6 : S6) (a7 : S7) (a8 : S8) (a9 : S9) (a10 : S10) (h : L l0 i0 a0 a1 a2 a3 a4 a5 a6 a7 a8 a9 a10 = some r) : X (.loop f m c (T' i0 a0 a1 a2 a3 a4 a5 a6 a7 a8 a9 a10) (S' i0 a0 a1 a2 a3 a4 a5 a6 a7 a8 a9 a10) K) := by
  have key : ∀ (xs pre : List α) (i : Int) (a0 : S0) (a1 : S1) (a2 : S2) (a3 : S3) (a4 : S4) (a5 : S5) (a6 : S6) (a7 : S7) (a8 : S8) (a9 : S9) (a10 : S10), l = pre ++ xs → i = (pre.length : Int) → L xs i a0 a1 a2 a3 a4 a5 a6 a7 a8 a9 a10 = some r → X (.loop f m c (T' i a0 a1 a2 a3 a4 a5 a6 a7 a8 a9 a10) (S' i a0 a1 a2 a3 a4 a5 a6 a7 a8 a9 a10) K) := by
    intro xs
    induction xs with
    | nil => intro pre i a0 a1 a2 a3 a4 a5 a6 a7 a8 a9 a10 hl hi h; exact hend i a0 a1 a2 a3 a4 a5 a6 a7 a8 a9 a10 (by rw [hl, hi]; simp) h
    | cons x xs ih => intro pre i a0 a1 a2 a3 a4 a5 a6 a7 a8 a9 a10 hl hi h; exact hstep pre x xs i a0 a1 a2 a3 a4 a5 a6 a7 a8 a9 a10 hl hi h fun i' b0 b1 b2 b3 b4 b5 b6 b7 b8 b9 b10 hi' h' => by subst hi'; exact ih (pre ++ [x]) (i + 1) b0 b1 b2 b3 b4 b5 b6 b7 b8 b9 b10 (by rw [hl]; simp) (by rw [hi]; simp) h'
  exact key l0 pre0 i0 a0 a1 a2 a3 a4 a5 a6 a7 a8 a9 a10 hl0 hi0 h
theorem loop_list11 {R α : Type} {S0 S1 S2 S3 S4 S5 S6 S7 S8 S9 S10 : Type} {X : Task → Prop} {f m : Nat} {c : Code} {K : Ex → List A → List Blk → Prop} {r : R} (T' : Int → S0 → S1 → S2 → S3 → S4 → S5 → S6 → S7 → S8 → S9 → S10 → List A) (S' : Int → S0 → S1 → S2 → S3 → S4 → S5 → S6 → S7 → S8 → S9 → S10 → List Blk) (L : List α → Int → S0 → S1 → S2 → S3 → S4 → S5 → S6 → S7 → S8 → S9 → S10 → Option R) (l : List α)
    (hstep : ∀ (pre : List α) (x : α) (xs : List α) (i : Int) (a0 : S0) (a1 : S1) (a2 : S2) (a3 : S3) (a4 : S4) (a5 : S5) (a6 : S6) (a7 : S7) (a8 : S8) (a9 : S9) (a10 : S10), l = pre ++ x :: xs → i = (pre.length : Int) → L (x :: xs) i a0 a1 a2 a3 a4 a5 a6 a7 a8 a9 a10 = some r → (∀ (i' : Int) (b0 : S0) (b1 : S1) (b2 : S2) (b3 : S3) (b4 : S4) (b5 : S5) (b6 : S6) (b7 : S7) (b8 : S8) (b9 : S9) (b10 : S10), i' = i + 1 → L xs (i + 1) b0 b1 b2 b3 b4 b5 b6 b7 b8 b9 b10 = some r → X (.loop f m c (T' i' b0 b1 b2 b3 b4 b5 b6 b7 b8 b9 b10) (S' i' b0 b1 b2 b3 b4 b5 b6 b7 b8 b9 b10) K)) → X (.loop f m c (T' i a0 a1 a2 a3 a4 a5 a6 a7 a8 a9 a10) (S' i a0 a1 a2 a3 a4 a5 a6 a7 a8 a9 a10) K))
    (hend : ∀ (i : Int) (a0 : S0) (a1 : S1) (a2 : S2) (a3 : S3) (a4 : S4) (a5 : S5) (a6 : S6) (a7 : S7) (a8 : S8) (a9 : S9) (a10 : S10), i = (l.length : Int) → L [] i a0 a1 a2 a3 a4 a5 a6 a7 a8 a9 a10 = some r → X (.loop f m c (T' i a0 a1 a2 a3 a4 a5 a6 a7 a8 a9 a10) (S' i a0 a1 a2 a3 a4 a5 a6 a7 a8 a9 a10) K)) (a0 : S0) (a1 : S1) (a2 : S2) (a3 : S3) (a4 : S4) (a5 : S5) (a6 : S6) (a7 : S7) (a8 : S8) (a9 : S9) (a10 : S10) (h : L l 0 a0 a1 a2 a3 a4 a5 a6 a7 a8 a9 a10 = some r) : X (.loop f m c (T' 0 a0 a1 a2 a3 a4 a5 a6 a7 a8 a9 a10) (S' 0 a0 a1 a2 a3 a4 a5 a6 a7 a8 a9 a10) K) := by
  have key : ∀ (xs pre : List α) (i : Int) (a0 : S0) (a1 : S1) (a2 : S2) (a3 : S3) (a4 : S4) (a5 : S5) (a6 : S6) (a7 : S7) (a8 : S8) (a9 : S9) (a10 : S10), l = pre ++ xs → i = (pre.length : Int) → L xs i a0 a1 a2 a3 a4 a5 a6 a7 a8 a9 a10 = some r → X (.loop f m c (T' i a0 a1 a2 a3 a4 a5 a6 a7 a8 a9 a10) (S' i a0 a1 a2 a3 a4 a5 a6 a7 a8 a9 a10) K) := by
    intro xs
    induction xs with
    | nil => intro pre i a0 a1 a2 a3 a4 a5 a6 a7 a8 a9 a10 hl hi h; exact hend i a0 a1 a2 a3 a4 a5 a6 a7 a8 a9 a10 (by rw [hl, hi]; simp) h
    | cons x xs ih => intro pre i a0 a1 a2 a3 a4 a5 a6 a7 a8 a9 a10 hl hi h; exact hstep pre x xs i a0 a1 a2 a3 a4 a5 a6 a7 a8 a9 a10 hl hi h fun i' b0 b1 b2 b3 b4 b5 b6 b7 b8 b9 b10 hi' h' => by subst hi'; exact ih (pre ++ [x]) (i + 1) b0 b1 b2 b3 b4 b5 b6 b7 b8 b9 b10 (by rw [hl]; simp) (by rw [hi]; simp) h'
  exact key l [] 0 a0 a1 a2 a3 a4 a5 a6 a7 a8 a9 a10 rfl rfl h
theorem loop_fuel11 {R : Type} {S0 S1 S2 S3 S4 S5 S6 S7 S8 S9 S10 : Type} {X : Task → Prop} {f m : Nat} {c : Code} {K : Ex → List A → List Blk → Prop} {r : R} (T' : S0 → S1 → S2 → S3 → S4 → S5 → S6 → S7 → S8 → S9 → S10 → List A) (S' : S0 → S1 → S2 → S3 → S4 → S5 → S6 → S7 → S8 → S9 → S10 → List Blk) (L : Nat → S0 → S1 → S2 → S3 → S4 → S5 → S6 → S7 → S8 → S9 → S10 → Option R)
    (h0 : ∀ (a0 : S0) (a1 : S1) (a2 : S2) (a3 : S3) (a4 : S4) (a5 : S5) (a6 : S6) (a7 : S7) (a8 : S8) (a9 : S9) (a10 : S10), L 0 a0 a1 a2 a3 a4 a5 a6 a7 a8 a9 a10 = some r → False)
    (hstep : ∀ (n : Nat) (a0 : S0) (a1 : S1) (a2 : S2) (a3 : S3) (a4 : S4) (a5 : S5) (a6 : S6) (a7 : S7) (a8 : S8) (a9 : S9) (a10 : S10), L (n + 1) a0 a1 a2 a3 a4 a5 a6 a7 a8 a9 a10 = some r → (∀ (b0 : S0) (b1 : S1) (b2 : S2) (b3 : S3) (b4 : S4) (b5 : S5) (b6 : S6) (b7 : S7) (b8 : S8) (b9 : S9) (b10 : S10), L n b0 b1 b2 b3 b4 b5 b6 b7 b8 b9 b10 = some r → X (.loop f m c (T' b0 b1 b2 b3 b4 b5 b6 b7 b8 b9 b10) (S' b0 b1 b2 b3 b4 b5 b6 b7 b8 b9 b10) K)) → X (.loop f m c (T' a0 a1 a2 a3 a4 a5 a6 a7 a8 a9 a10) (S' a0 a1 a2 a3 a4 a5 a6 a7 a8 a9 a10) K)) (N : Nat) (a0 : S0) (a1 : S1) (a2 : S2) (a3 : S3) (a4 : S4) (a5 : S5) (a6 : S6) (a7 : S7) (a8 : S8) (a9 : S9) (a10 : S10) (h : L N a0 a1 a2 a3 a4 a5 a6 a7 a8 a9 a10 = some r) : X (.loop f m c (T' a0 a1 a2 a3 a4 a5 a6 a7 a8 a9 a10) (S' a0 a1 a2 a3 a4 a5 a6 a7 a8 a9 a10) K) := by
  induction N generalizing a0 a1 a2 a3 a4 a5 a6 a7 a8 a9 a10 with
  | zero => exact (h0 a0 a1 a2 a3 a4 a5 a6 a7 a8 a9 a10 h).elim
  | succ N ih => exact hstep N a0 a1 a2 a3 a4 a5 a6 a7 a8 a9 a10 h fun b0 b1 b2 b3 b4 b5 b6 b7 b8 b9 b10 h' => ih b0 b1 b2 b3 b4 b5 b6 b7 b8 b9 b10 h'
theorem join11 {R : Type} {S0 S1 S2 S3 S4 S5 S6 S7 S8 S9 S10 : Type} {X : Task → Prop} {f m : Nat} {c : Code} {K : Ex → List A → List Blk → Prop} {r : R} {G : Prop} {j : S0 → S1 → S2 → S3 → S4 → S5 → S6 → S7 → S8 → S9 → S10 → Option R} (T' : S0 → S1 → S2 → S3 → S4 → S5 → S6 → S7 → S8 → S9 → S10 → List A) (S' : S0 → S1 → S2 → S3 → S4 → S5 → S6 → S7 → S8 → S9 → S10 → List Blk)
    (main : Hold (∀ (a0 : S0) (a1 : S1) (a2 : S2) (a3 : S3) (a4 : S4) (a5 : S5) (a6 : S6) (a7 : S7) (a8 : S8) (a9 : S9) (a10 : S10), j a0 a1 a2 a3 a4 a5 a6 a7 a8 a9 a10 = some r → X (.rest f m c (T' a0 a1 a2 a3 a4 a5 a6 a7 a8 a9 a10) (S' a0 a1 a2 a3 a4 a5 a6 a7 a8 a9 a10) K)) → G) (tail : ∀ (a0 : S0) (a1 : S1) (a2 : S2) (a3 : S3) (a4 : S4) (a5 : S5) (a6 : S6) (a7 : S7) (a8 : S8) (a9 : S9) (a10 : S10), j a0 a1 a2 a3 a4 a5 a6 a7 a8 a9 a10 = some r → X (.rest f m c (T' a0 a1 a2 a3 a4 a5 a6 a7 a8 a9 a10) (S' a0 a1 a2 a3 a4 a5 a6 a7 a8 a9 a10) K)) : G := main ⟨tail⟩
theorem loop_lisz12 {R α : Type} {S0 S1 S2 S3 S4 S5 S6 S7 S8 S9 S10 S11 : Type} {X : Task → Prop} {f m : Nat} {c : Code} {K : Ex → List A → List Blk → Prop} {r : R} (T' : Int → S0 → S1 → S2 → S3 → S4 → S5 → S6 → S7 → S8 → S9 → S10 → S11 → List A) (S' : Int → S0 → S1 → S2 → S3 → S4 → S5 → S6 → S7 → S8 → S9 → S10 → S11 → List Blk) (L : List α → S0 → S1 → S2 → S3 → S4 → S5 → S6 → S7 → S8 → S9 → S10 → S11 → Option R) (l pre0 l0 : List α) (i0 : Int) (hl0 : l = pre0 ++ l0) (hi0 : i0 = (pre0.length : Int))
    (hstep : ∀ (pre : List α) (x : α) (xs : List α) (i : Int) (a0 : S0) (a1 : S1) (a2 : S2) (a3 : S3) (a4 : S4) (a5 : S5) (a6 : S6) (a7 : S7) (a8 : S8) (a9 : S9) (a10 : S10) (a11 : S11), l = pre ++ x :: xs → i = (pre.length : Int) → L (x :: xs) a0 a1 a2 a3 a4 a5 a6 a7 a8 a9 a10 a11 = some r → (∀ (i' : Int) (b0 : S0) (b1 : S1) (b2 : S2) (b3 : S3) (b4 : S4) (b5 : S5) (b6 : S6) (b7 : S7) (b8 : S8) (b9 : S9) (b10 : S10) (b11 : S11), i' = i + 1 → L xs b0 b1 b2 b3 b4 b5 b6 b7 b8 b9 b10 b11 = some r → X (.loop f m c (T' i' b0 b1 b2 b3 b4 b5 b6 b7 b8 b9 b10 b11) (S' i' b0 b1 b2 b3 b4 b5 b6 b7 b8 b9 b10 b11) K)) → X (.loop f m c (T' i a0 a1 a2 a3 a4 a5 a6 a7 a8 a9 a10 a11) (S' i a0 a1 a2 a3 a4 a5 a6 a7 a8 a9 a10 a11) K))
    (hend : ∀ (i : Int) (a0 : S0) (a1 : S1) (a2 : S2) (a3 : S3) (a4 : S4) (a5 : S5) (a6 : S6) (a7 : S7) (a8 : S8) (a9 : S9) (a10 : S10) (a11 : S11), i = (l.length : Int) → L [] a0 a1 a2 a3 a4 a5 a6 a7 a8 a9 a10 a11 = some r → X (.loop f m c (T' i a0 a1 a2 a3 a4 a5 a6 a7 a8 a9 a10 a11) (S' i a0 a1 a2 a3 a4 a5 a6 a7 a8 a9 a10 a11) K)) (a0 : S0) (a1 : S1) (a2 : S2) (a3 : S3) (a4 : S4) (a5 : S5) (a6 : S6) (a7 : S7) (a8 : S8) (a9 : S9) (a10 : S10) (a11 : S11) (h : L l0 a0 a1 a2 a3 a4 a5 a6 a7 a8 a9 a10 a11 = some r) : X (.loop f m c (T' i0 a0 a1 a2 a3 a4 a5 a6 a7 a8 a9 a10 a11) (S' i0 a0 a1 a2 a3 a4 a5 a6 a7 a8 a9 a10 a11) K) := by
  have key : ∀ (xs pre : List α) (i : Int) (a0 : S0) (a1 : S1) (a2 : S2) (a3 : S3) (a4 : S4) (a5 : S5) (a6 : S6) (a7 : S7) (a8 : S8) (a9 : S9) (a10 : S10) (a11 : S11), l = pre ++ xs → i = (pre.length : Int) → L xs a0 a1 a2 a3 a4 a5 a6 a7 a8 a9 a10 a11 = some r → X (.loop f m c (T' i a0 a1 a2 a3 a4 a5 a6 a7 a8 a9 a10 a11) (S' i a0 a1 a2 a3 a4 a5 a6 a7 a8 a9 a10 a11) K) := by
    intro xs
    induction xs with
    | nil => intro pre i a0 a1 a2 a3 a4 a5 a6 a7 a8 a9 a10 a11 hl hi h; exact hend i a0 a1 a2 a3 a4 a5 a6 a7 a8 a9 a10 a11 (by rw [hl, hi]; simp) h
    | cons x xs ih => intro pre i a0 a1 a2 a3 a4 a5 a6 a7 a8 a9 a10 a11 hl hi h; exact hstep pre x xs i a0 a1 a2 a3 a4 a5 a6 a7 a8 a9 a10 a11 hl hi h fun i' b0 b1 b2 b3 b4 b5 b6 b7 b8 b9 b10 b11 hi' h' => by subst hi'; exact ih (pre ++ [x]) (i + 1) b0 b1 b2 b3 b4 b5 b6 b7 b8 b9 b10 b11 (by rw [hl]; simp) (by rw [hi]; simp) h'
  exact key l0 pre0 i0 a0 a1 a2 a3 a4 a5 a6 a7 a8 a9 a10 a11 hl0 hi0 h
theorem loop_lisx12 {R α : Type} {S0 S1 S2 S3 S4 S5 S6 S7 S8 S9 S10 S11 : Type} {X : Task → Prop} {f m : Nat} {c : Code} {K : Ex → List A → List Blk → Prop} {r : R} (T' : Int → S0 → S1 → S2 → S3 → S4 → S5 → S6 → S7 → S8 → S9 → S10 → S11 → List A) (S' : Int → S0 → S1 → S2 → S3 → S4 → S5 → S6 → S7 → S8 → S9 → S10 → S11 → List Blk) (L : List α → S0 → S1 → S2 → S3 → S4 → S5 → S6 → S7 → S8 → S9 → S10 → S11 → Option R) (l : List α)
    (hstep : ∀ (pre : List α) (x : α) (xs : List α) (i : Int) (a0 : S0) (a1 : S1) (a2 : S2) (a3 : S3) (a4 : S4) (a5 : S5) (a6 : S6) (a7 : S7) (a8 : S8) (a9 : S9) (a10 : S10) (a11 : S11), l = pre ++ x :: xs → i = (pre.length : Int) → L (x :: xs) a0 a1 a2 a3 a4 a5 a6 a7 a8 a9 a10 a11 = some r → (∀ (i' : Int) (b0 : S0) (b1 : S1) (b2 : S2) (b3 : S3) (b4 : S4) (b5 : S5) (b6 : S6) (b7 : S7) (b8 : S8) (b9 : S9) (b10 : S10) (b11 : S11), i' = i + 1 → L xs b0 b1 b2 b3 b4 b5 b6 b7 b8 b9 b10 b11 = some r → X (.loop f m c (T' i' b0 b1 b2 b3 b4 b5 b6 b7 b8 b9 b10 b11) (S' i' b0 b1 b2 b3 b4 b5 b6 b7 b8 b9 b10 b11) K)) → X (.loop f m c (T' i a0 a1 a2 a3 a4 a5 a6 a7 a8 a9 a10 a11) (S' i a0 a1 a2 a3 a4 a5 a6 a7 a8 a9 a10 a11) K))
    (hend : ∀ (i : Int) (a0 : S0) (a1 : S1) (a2 : S2) (a3 : S3) (a4 : S4) (a5 : S5) (a6 : S6) (a7 : S7) (a8 : S8) (a9 : S9) (a10 : S10) (a11 : S11), i = (l.length : Int) → L [] a0 a1 a2 a3 a4 a5 a6 a7 a8 a9 a10 a11 = some r → X (.loop f m c (T' i a0 a1 a2 a3 a4 a5 a6 a7 a8 a9 a10 a11) (S' i a0 a1 a2 a3 a4 a5 a6 a7 a8 a9 a10 a11) K)) (a0 : S0) (a1 : S1) (a2 : S2) (a3 : S3) (a4 : S4) (a5 : S5) (a6 : S6) (a7 : S7) (a8 : S8) (a9 : S9) (a10 : S10) (a11 : S11) (h : L l a0 a1 a2 a3 a4 a5 a6 a7 a8 a9 a10 a11 = some r) : X (.loop f m c (T' 0 a0 a1 a2 a3 a4 a5 a6 a7 a8 a9 a10 a11) (S' 0 a0 a1 a2 a3 a4 a5 a6 a7 a8 a9 a10 a11) K) := by
  have key : ∀ (xs pre : List α) (i : Int) (a0 : S0) (a1 : S1) (a2 : S2) (a3 : S3) (a4 : S4) (a5 : S5) (a6 : S6) (a7 : S7) (a8 : S8) (a9 : S9) (a10 : S10) (a11 : S11), l = pre ++ xs → i = (pre.length : Int) → L xs a0 a1 a2 a3 a4 a5 a6 a7 a8 a9 a10 a11 = some r → X (.loop f m c (T' i a0 a1 a2 a3 a4 a5 a6 a7 a8 a9 a10 a11) (S' i a0 a1 a2 a3 a4 a5 a6 a7 a8 a9 a10 a11) K) := by
    intro xs
    induction xs with
    | nil => intro pre i a0 a1 a2 a3 a4 a5 a6 a7 a8 a9 a10 a11 hl hi h; exact hend i a0 a1 a2 a3 a4 a5 a6 a7 a8 a9 a10 a11 (by rw [hl, hi]; simp) h
    | cons x xs ih => intro pre i a0 a1 a2 a3 a4 a5 a6 a7 a8 a9 a10 a11 hl hi h; exact hstep pre x xs i a0 a1 a2 a3 a4 a5 a6 a7 a8 a9 a10 a11 hl hi h fun i' b0 b1 b2 b3 b4 b5 b6 b7 b8 b9 b10 b11 hi' h' => by subst hi'; exact ih (pre ++ [x]) (i + 1) b0 b1 b2 b3 b4 b5 b6 b7 b8 b9 b10 b11 (by rw [hl]; simp) (by rw [hi]; simp) h'
  exact key l [] 0 a0 a1 a2 a3 a4 a5 a6 a7 a8 a9 a10 a11 rfl rfl h
theorem loop_lisw12 {R α : Type} {S0 S1 S2 S3 S4 S5 S6 S7 S8 S9 S10 S11 : Type} {X : Task → Prop} {f m : Nat} {c : Code} {K : Ex → List A → List Blk → Prop} {r : R} (T' : Int → S0 → S1 → S2 → S3 → S4 → S5 → S6 → S7 → S8 → S9 → S10 → S11 → List A) (S' : Int → S0 → S1 → S2 → S3 → S4 → S5 → S6 → S7 → S8 → S9 → S10 → S11 → List Blk) (L : List α → Int → S0 → S1 → S2 → S3 → S4 → S5 → S6 → S7 → S8 → S9 → S10 → S11 → Option R) (l pre0 l0 : List α) (i0 : Int) (hl0 : l = pre0 ++ l0) (hi0 : i0 = (pre0.length : Int))
    (hstep : ∀ (pre : List α) (x : α) (xs : List α) (i : Int) (a0 : S0) (a1 : S1) (a2 : S2) (a3 : S3) (a4 : S4) (a5 : S5) (a6 : S6) (a7 : S7) (a8 : S8) (a9 : S9) (a10 : S10) (a11 : S11), l = pre ++ x :: xs → i = (pre.length : Int) → L (x :: xs) i a0 a1 a2 a3 a4 a5 a6 a7 a8 a9 a10 a11 = some r → (∀ (i' : Int) (b0 : S0) (b1 : S1) (b2 : S2) (b3 : S3) (b4 : S4) (b5 : S5) (b6 : S6) (b7 : S7) (b8 : S8) (b9 : S9) (b10 : S10) (b11 : S11), i' = i + 1 → L xs (i + 1) b0 b1 b2 b3 b4 b5 b6 b7 b8 b9 b10 b11 = some r → X (.loop f m c (T' i' b0 b1 b2 b3 b4 b5 b6 b7 b8 b9 b10 b11) (S' i' b0 b1 b2 b3 b4 b5 b6 b7 b8 b9 b10 b11) K)) → X (.loop f m c (T' i a0 a1 a2 a3 a4 a5 a6 a7 a8 a9 a10 a11) (S' i a0 a1 a2 a3 a4 a5 a6 a7 a8 a9 a10 a11) K))
    (hend : ∀ (i : Int) (a0 : S0) (a1 : S1) (a2 : S2) (a3 : S3) (a4 : S4) (a5 : S5) (a6 : S6) (a7 : S7) (a8 : S8) (a9 : S9) (a10 : S10) (a11 : S11), i = (l.length : Int) → L [] i a0 a1 a2 a3 a4 a5 a6 a7 a8 a9 a10 a11 = some r → X (.loop f m c (T' i a0 a1 a2 a3 a4 a5 a6 a7 a8 a9 a10 a11) (S' i a0 a1 a2 a3 a4 a5 a6 a7 a8 a9 a10 a11) K)) (a0 : S0) (a1 : S1) (a2 : S2) (a3 : S3) (a4 : S4) (a5 : S5) (a6 : S6) (a7 : S7) (a8 : S8) (a9 : S9) (a10 : S10) (a11 : S11) (h : L l0 i0 a0 a1 a2 a3 a4 a5 a6 a7 a8 a9 a10 a11 = some r) : X (.loop f m c (T' i0 a0 a1 a2 a3 a4 a5 a6 a7 a8 a9 a10 a11) (S' i0 a0 a1 a2 a3 a4 a5 a6 a7 a8 a9 a10 a11) K) := by
  have key : ∀ (xs pre : List α) (i : Int) (a0 : S0) (a1 : S1) (a2 : S2) (a3 : S3) (a4 : S4) (a5 : S5) (a6 : S6) (a7 : S7) (a8 : S8) (a9 : S9) (a10 : S10) (a11 : S11), l = pre ++ xs → i = (pre.length : Int) → L xs i a0 a1 a2 a3 a4 a5 a6 a7 a8 a9 a10 a11 = some r → X (.loop f m c (T' i a0 a1 a2 a3 a4 a5 a6 a7 a8 a9 a10 a11) (S' i a0 a1 a2 a3 a4 a5 a6 a7 a8 a9 a10 a11) K) := by
    intro xs
    induction xs with
    | nil => intro pre i a0 a1 a2 a3 a4 a5 a6 a7 a8 a9 a10 a11 hl hi h; exact hend i a0 a1 a2 a3 a4 a5 a6 a7 a8 a9 a10 a11 (by rw [hl, hi]; simp) h
    | cons x xs ih => intro pre i a0 a1 a2 a3 a4 a5 a6 a7 a8 a9 a10 a11 hl hi h; exact hstep pre x xs i a0 a1 a2 a3 a4 a5 a6 a7 a8 a9 a10 a11 hl hi h fun i' b0 b1 b2 b3 b4 b5 b6 b7 b8 b9 b10 b11 hi' h' => by subst hi'; exact ih (pre ++ [x]) (i + 1) b0 b1 b2 b3 b4 b5 b6 b7 b8 b9 b10 b11 (by rw [hl]; simp) (by rw [hi]; simp) h'
  exact key l0 pre0 i0 a0 a1 a2 a3 a4 a5 a6 a7 a8 a9 a10 a11 hl0 hi0 h
theorem loop_list12 {R α : Type} {S0 S1 S2 S3 S4 S5 S6 S7 S8 S9 S10 S11 : Type} {X : Task → Prop} {f m : Nat} {c : Code} {K : Ex → List A → List Blk → Prop} {r : R} (T' : Int → S0 → S1 → S2 → S3 → S4 → S5 → S6 → S7 → S8 → S9 → S10 → S11 → List A) (S' : Int → S0 → S1 → S2 → S3 → S4 → S5 → S6 → S7 → S8 → S9 → S10 → S11 → List Blk) (L : List α → Int → S0 → S1 → S2 → S3 → S4 → S5 → S6 → S7 → S8 → S9 → S10 → S11 → Option R) (l : List α)
    (hstep : ∀ (pre : List α) (x : α) (xs : List α) (i : Int) (a0 : S0) (a1 : S1) (a2 : S2) (a3 : S3) (a4 : S4) (a5 : S5) (a6 : S6) (a7 : S7) (a8 : S8) (a9 : S9) (a10 : S10) (a11 : S11), l = pre ++ x :: xs → i = (pre.length : Int) → L (x :: xs) i a0 a1 a2 a3 a4 a5 a6 a7 a8 a9 a10 a11 = some r → (∀ (i' : Int) (b0 : S0) (b1 : S1) (b2 : S2) (b3 : S3) (b4 : S4) (b5 : S5) (b6 : S6) (b7 : S7) (b8 : S8) (b9 : S9) (b10 : S10) (b11 : S11), i' = i + 1 → L xs (i + 1) b0 b1 b2 b3 b4 b5 b6 b7 b8 b9 b10 b11 = some r → X (.loop f m c (T' i' b0 b1 b2 b3 b4 b5 b6 b7 b8 b9 b10 b11) (S' i' b0 b1 b2 b3 b4 b5 b6 b7 b8 b9 b10 b11) K)) → X (.loop f m c (T' i a0 a1 a2 a3 a4 a5 a6 a7 a8 a9 a10 a11) (S' i a0 a1 a2 a3 a4 a5 a6 a7 a8 a9 a10 a11) K))
    (hend : ∀ (i : Int) (a0 : S0) (a1 : S1) (a2 : S2) (a3 : S3) (a4 : S4) (a5 : S5) (a6 : S6) (a7 : S7) (a8 : S8) (a9 : S9) (a10 : S10) (a11 : S11), i = (l.length : Int) → L [] i a0 a1 a2 a3 a4 a5 a6 a7 a8 a9 a10 a11 = some r → X (.loop f m c (T' i a0 a1 a2 a3 a4 a5 a6 a7 a8 a9 a10 a11) (S' i a0 a1 a2 a3 a4 a5 a6 a7 a8 a9 a10 a11) K)) (a0 : S0) (a1 : S1) (a2 : S2) (a3 : S3) (a4 : S4) (a5 : S5) (a6 : S6) (a7 : S7) (a8 : S8) (a9 : S9) (a10 : S10) (a11 : S11) (h : L l 0 a0 a1 a2 a3 a4 a5 a6 a7 a8 a9 a10 a11 = some r) : X (.loop f m c (T' 0 a0 a1 a2 a3 a4 a5 a6 a7 a8 a9 a10 a11) (S' 0 a0 a1 a2 a3 a4 a5 a6 a7 a8 a9 a10 a11) K) := by
  have key : ∀ (xs pre : List α) (i : Int) (a0 : S0) (a1 : S1) (a2 : S2) (a3 : S3) (a4 : S4) (a5 : S5) (a6 : S6) (a7 : S7) (a8 : S8) (a9 : S9) (a10 : S10) (a11 : S11), l = pre ++ xs → i = (pre.length : Int) → L xs i a0 a1 a2 a3 a4 a5 a6 a7 a8 a9 a10 a11 = some r → X (.loop f m c (T' i a0 a1 a2 a3 a4 a5 a6 a7 a8 a9 a10 a11) (S' i a0 a1 a2 a3 a4 a5 a6 a7 a8 a9 a10 a11) K) := by
    intro xs
    induction xs with
    | nil => intro pre i a0 a1 a2 a3 a4 a5 a6 a7 a8 a9 a10 a11 hl hi h; exact hend i a0 a1 a2 a3 a4 a5 a6 a7 a8 a9 a10 a11 (by rw [hl, hi]; simp) h
    | cons x xs ih => intro pre i a0 a1 a2 a3 a4 a5 a6 a7 a8 a9 a10 a11 hl hi h; exact hstep pre x xs i a0 a1 a2 a3 a4 a5 a6 a7 a8 a9 a10 a11 hl hi h fun i' b0 b1 b2 b3 b4 b5 b6 b7 b8 b9 b10 b11 hi' h' => by subst hi'; exact ih (pre ++ [x]) (i + 1) b0 b1 b2 b3 b4 b5 b6 b7 b8 b9 b10 b11 (by rw [hl]; simp) (by rw [hi]; simp) h'
  exact key l [] 0 a0 a1 a2 a3 a4 a5 a6 a7 a8 a9 a10 a11 rfl rfl h
theorem loop_fuel12 {R : Type} {S0 S1 S2 S3 S4 S5 S6 S7 S8 S9 S10 S11 : Type} {X : Task → Prop} {f m : Nat} {c : Code} {K : Ex → List A → List Blk → Prop} {r : R} (T' : S0 → S1 → S2 → S3 → S4 → S5 → S6 → S7 → S8 → S9 → S10 → S11 → List A) (S' : S0 → S1 → S2 → S3 → S4 → S5 → S6 → S7 → S8 → S9 → S10 → S11 → List Blk) (L : Nat → S0 → S1 → S2 → S3 → S4 → S5 → S6 → S7 → S8 → S9 → S10 → S11 → Option R)
    (h0 : ∀ (a0 : S0) (a1 : S1) (a2 : S2) (a3 : S3) (a4 : S4) (a5 : S5) (a6 : S6) (a7 : S7) (a8 : S8) (a9 : S9) (a10 : S10) (a11 : S11), L 0 a0 a1 a2 a3 a4 a5 a6 a7 a8 a9 a10 a11 = some r → False)
    (hstep : ∀ (n : Nat) (a0 : S0) (a1 : S1) (a2 : S2) (a3 : S3) (a4 : S4) (a5 : S5) (a6 : S6) (a7 : S7) (a8 : S8) (a9 : S9) (a10 : S10) (a11 : S11), L (n + 1) a0 a1 a2 a3 a4 a5 a6 a7 a8 a9 a10 a11 = some r → (∀ (b0 : S0) (b1 : S1) (b2 : S2) (b3 : S3) (b4 : S4) (b5 : S5) (b6 : S6) (b7 : S7) (b8 : S8) (b9 : S9) (b10 : S10) (b11 : S11), L n b0 b1 b2 b3 b4 b5 b6 b7 b8 b9 b10 b11 = some r → X (.loop f m c (T' b0 b1 b2 b3 b4 b5 b6 b7 b8 b9 b10 b11) (S' b0 b1 b2 b3 b4 b5 b6 b7 b8 b9 b10 b11) K)) → X (.loop f m c (T' a0 a1 a2 a3 a4 a5 a6 a7 a8 a9 a10 a11) (S' a0 a1 a2 a3 a4 a5 a6 a7 a8 a9 a10 a11) K)) (N : Nat) (a0 : S0) (a1 : S1) (a2 : S2) (a3 : S3) (a4 : S4) (a5 : S5) (a6 : S6) (a7 : S7) (a8 : S8) (a9 : S9) (a10 : S10) (a11 : S11) (h : L N a0 a1 a2 a3 a4 a5 a6 a7 a8 a9 a10 a11 = some r) : X (.loop f m c (T' a0 a1 a2 a3 a4 a5 a6 a7 a8 a9 a10 a11) (S' a0 a1 a2 a3 a4 a5 a6 a7 a8 a9 a10 a11) K) := by
  induction N generalizing a0 a1 a2 a3 a4 a5 a6 a7 a8 a9 a10 a11 with
  | zero => exact (h0 a0 a1 a2 a3 a4 a5 a6 a7 a8 a9 a10 a11 h).elim
  | succ N ih => exact hstep N a0 a1 a2 a3 a4 a5 a6 a7 a8 a9 a10 a11 h fun b0 b1 b2 b3 b4 b5 b6 b7 b8 b9 b10 b11 h' => ih b0 b1 b2 b3 b4 b5 b6 b7 b8 b9 b10 b11 h'
theorem join12 {R : Type} {S0 S1 S2 S3 S4 S5 S6 S7 S8 S9 S10 S11 : Type} {X : Task → Prop} {f m : Nat} {c : Code} {K : Ex → List A → List Blk → Prop} {r : R} {G : Prop} {j : S0 → S1 → S2 → S3 → S4 → S5 → S6 → S7 → S8 → S9 → S10 → S11 → Option R} (T' : S0 → S1 → S2 → S3 → S4 → S5 → S6 → S7 → S8 → S9 → S10 → S11 → List A) (S' : S0 → S1 → S2 → S3 → S4 → S5 → S6 → S7 → S8 → S9 → S10 → S11 → List Blk)
    (main : Hold (∀ (a0 : S0) (a1 : S1) (a2 : S2) (a3 : S3) (a4 : S4) (a5 : S5) (a6 : S6) (a7 : S7) (a8 : S8) (a9 : S9) (a10 : S10) (a11 : S11), j a0 a1 a2 a3 a4 a5 a6 a7 a8 a9 a10 a11 = some r → X (.rest f m c (T' a0 a1 a2 a3 a4 a5 a6 a7 a8 a9 a10 a11) (S' a0 a1 a2 a3 a4 a5 a6 a7 a8 a9 a10 a11) K)) → G) (tail : ∀ (a0 : S0) (a1 : S1) (a2 : S2) (a3 : S3) (a4 : S4) (a5 : S5) (a6 : S6) (a7 : S7) (a8 : S8) (a9 : S9) (a10 : S10) (a11 : S11), j a0 a1 a2 a3 a4 a5 a6 a7 a8 a9 a10 a11 = some r → X (.rest f m c (T' a0 a1 a2 a3 a4 a5 a6 a7 a8 a9 a10 a11) (S' a0 a1 a2 a3 a4 a5 a6 a7 a8 a9 a10 a11) K)) : G := main ⟨tail⟩
end Go.Proofs.Ytijkfjahgijphaa
