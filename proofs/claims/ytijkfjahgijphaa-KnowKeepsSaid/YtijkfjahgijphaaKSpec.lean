/- Functions as they are told in plain Lean: checks, parting ways, rounds; how a walk follows them. -/
import Derived.Test.YtijkfjahgijphaaKKit
import Derived.Test.YtijkfjahgijphaaKClone
set_option linter.unusedVariables false
set_option linter.unusedSimpArgs false
namespace Go.Proofs.Ytijkfjahgijphaa
open Go E
section
variable {α β : Type}
def chk (c : Bool) (x : Option α) : Option α := match c with
  | true => x
  | false => none
def br (c : Bool) (x y : Option α) : Option α := match c with
  | true => x
  | false => y
def bnd (x : Option α) (f : α → Option β) : Option β := match x with
  | some a => f a
  | none => none
def opt (o : Option α) (f : α → Option β) (n : Option β) : Option β := match o with
  | some a => f a
  | none => n
def atL (l : List α) (j : Int) : Option α := if 0 ≤ j then l[j.toNat]? else none
def roomL (a b : Nat) : Bool := decide (a + b ≤ 1000000)
def smallL (l : List α) : Bool := decide (l.length ≤ 1000000000)
theorem chk_some {c : Bool} {x : Option α} {r : α} (h : chk c x = some r) : c = true ∧ x = some r := by cases c; cases h; exact ⟨rfl, h⟩
theorem bnd_some {x : Option α} {f : α → Option β} {r : β} (h : bnd x f = some r) : ∃ a, x = some a ∧ f a = some r := by cases x; cases h; exact ⟨_, rfl, h⟩
theorem br_some {c : Bool} {x y : Option α} {r : α} {T F : Prop} (h : br c x y = some r) (ht : c = true → x = some r → T) (hf : c = false → y = some r → F) : @Bool.rec (fun _ => Prop) F T c := by
  cases c
  · exact hf rfl h
  · exact ht rfl h
theorem ret_some {a b : α} {f : α → A} {g : α → List Blk} {Q : A → List Blk → Prop} (h : some a = some b) (hQ : Q (f b) (g b)) : Q (f a) (g a) := by injection h with h; rw [h]; exact hQ
theorem no_some {r : α} {G : Prop} (h : none = some r) : G := nomatch h
variable {f : α → List PC}
theorem map_len (l : List α) : lenL (l.map f) = (l.length : Int) := by unfold lenL; simp
theorem at_in {l : List α} {j : Int} {x : α} (h : atL l j = some x) : lenB (l.map f) j = true := by
  unfold atL at h; unfold lenB
  split at h
  · rename_i h0
    have := (List.getElem?_eq_some_iff.1 h).1
    simp; omega
  · cases h
theorem at_row {l : List α} {j : Int} {x : α} (h : atL l j = some x) : E.rowAt (l.map f) j = f x := by
  unfold atL at h; unfold E.rowAt
  split at h
  · rw [List.getD_eq_getElem?_getD, List.getElem?_map, h]; rfl
  · cases h
theorem at_nat {l : List α} {j : Int} {x : α} (h : atL l j = some x) : atL l (j.toNat : Int) = some x := by
  unfold atL at *
  split at h
  · rw [if_pos (by omega), Int.toNat_natCast]; exact h
  · cases h
theorem room_nest {l : List α} {news : List (List PC)} {m b : Nat} {c1 c2 c3 c4 c5 : Bool} (c : roomL l.length m = true) (hn : news.length = m) (hb : Nat.ble b 100000000 = true) (h : (c1 && c2 && c3 && c4 && c5) = true) : (roomFor (l.map f) news b && c1 && c2 && c3 && c4 && c5) = true := by
  have hb := Nat.le_of_ble_eq_true hb
  unfold roomL at c; simp only [decide_eq_true_eq] at c
  have : roomFor (l.map f) news b = true := by
    unfold roomFor
    rw [List.length_map, hn, decide_eq_true_eq]
    have := Nat.mul_le_mul c hb
    omega
  rw [this]; simpa using h
theorem cat_one (l : List α) (x : α) : catL (l.map f) [f x] = (l ++ [x]).map f := by unfold catL; simp
theorem cat_map (l m : List α) : catL (l.map f) (m.map f) = (l ++ m).map f := by unfold catL; simp
theorem nil_one (x : α) : catL [] [f x] = [x].map f := rfl
theorem nil_map (m : List α) : catL [] (m.map f) = m.map f := rfl
theorem set_map (l : List α) (i : Nat) (x : α) : setRow (l.map f) i (f x) = (l.set i x).map f := by unfold setRow; simp [List.map_set]
theorem rowsOk_map {sz : Nat} (hf : ∀ x, (f x).length = sz) (m : List α) : rowsOk (m.map f) sz = true := by unfold rowsOk; simp [hf]
theorem room_map {l : List α} {news : List (List PC)} {m b sz k : Nat} (c : roomL l.length m = true) (hn : news.length = m) (hb : Nat.ble b 100000000 = true) (h2 : rowsOk news sz = true) (h3 : (Nat.beq k sz || Nat.beq k 0) = true) : (roomFor (l.map f) news b && rowsOk news sz && (Nat.beq k sz || Nat.beq k 0)) = true := by
  have hb := Nat.le_of_ble_eq_true hb
  unfold roomL at c; simp only [decide_eq_true_eq] at c
  refine and3 ?_ h2 h3
  unfold roomFor
  rw [List.length_map, hn, decide_eq_true_eq]
  have := Nat.mul_le_mul c hb
  omega
theorem room_nil {news : List (List PC)} {m b sz : Nat} (c : roomL 0 m = true) (hn : news.length = m) (hb : Nat.ble b 100000000 = true) (h2 : rowsOk news sz = true) : (roomFor [] news b && rowsOk news sz) = true := by
  have hb := Nat.le_of_ble_eq_true hb
  unfold roomL at c; simp only [decide_eq_true_eq] at c
  rw [h2, Bool.and_true]
  unfold roomFor
  rw [hn, decide_eq_true_eq]
  have := Nat.mul_le_mul c hb
  simp only [List.length_nil]
  omega
theorem andt {a b : Bool} (h : a = true) (h' : b = true) : (a && b) = true := by rw [h, h']; rfl
theorem wrL {l : List α} {i : Int} {pre xs : List α} {x : α} (hs : smallL l = true) (hl : l = pre ++ x :: xs) (hi : i = (pre.length : Int)) : wr .i64 (i + 1) = i + 1 := by
  unfold smallL at hs; simp only [decide_eq_true_eq] at hs
  rw [hl, List.length_append] at hs
  rw [wr64 (by omega) (by omega)]
theorem lt_mid {l : List α} {i : Int} {pre xs : List α} {x : α} (hl : l = pre ++ x :: xs) (hi : i = (pre.length : Int)) : ltI i (l.length : Int) = true := by
  rw [ltI_t, hl, hi]; simp; omega
theorem lt_end {l : List α} {i : Int} (hi : i = (l.length : Int)) : ltI i (l.length : Int) = false := by rw [ltI_f, hi]; omega
theorem at_mid {l : List α} {i : Int} {pre xs : List α} {x : α} (hl : l = pre ++ x :: xs) (hi : i = (pre.length : Int)) : atL l i = some x := by
  unfold atL; rw [if_pos (by omega), hl, hi]; simp
end
theorem opt_some {α β : Type} {o : Option α} {f : α → Option β} {n : Option β} {r : β} {G : Prop} (h : opt o f n = some r) (hs : ∀ x, o = some x → f x = some r → G) (hn : o = none → n = some r → G) : G := by
  cases o with
  | none => exact hn rfl h
  | some a => exact hs a rfl h
def clone_s {α : Type} (l : List α) : Option (List α) := chk (decide (l.length ≤ 1000000)) (some l)
theorem clone_c {α : Type} {f : α → List PC} {k g : Nat} (hf : ∀ x, (f x).length = k) (hm : (g, k) ∈ cloneFs) {X : Task → Prop} (hX : Closed X) {l r : List α} {Q : A → List Blk → Prop} (h : clone_s l = some r) (hQ : Q (.one (.own 0)) [.rows k (r.map f)]) : X (.call g [.one (.p (.sl (l.map f)))] [] Q) := by
  unfold clone_s at h
  obtain ⟨d, h⟩ := chk_some h
  injection h with h; subst h
  exact clone_call hX hm (rowsOk_map hf l) (by rw [List.length_map]; exact of_decide_eq_true d) hQ
theorem natbeq_self (n : Nat) : Nat.beq n n = true := Nat.beq_refl n
theorem and4 {a b c d : Bool} (h1 : a = true) (h2 : b = true) (h3 : c = true) (h4 : d = true) : (a && b && c && d) = true := by rw [h1, h2, h3, h4]; rfl
theorem room_zero {news : List (List PC)} {m b sz k : Nat} (c : roomL 0 m = true) (hn : news.length = m) (hb : Nat.ble b 100000000 = true) (h2 : rowsOk news sz = true) (h3 : (Nat.beq k sz || Nat.beq k 0) = true) : (roomFor [] news b && rowsOk news sz && (Nat.beq k sz || Nat.beq k 0)) = true := by
  rw [room_nil c hn hb h2, h3]; rfl
abbrev irw (n : Int) : List PC := [ip n]
abbrev srw (s : ByteArray) : List PC := [.v (.string s)]
section
variable {κ ν : Type} {f : κ → List PC} {g : ν → List PC}
def mget (f : κ → List PC) (l : List (κ × ν)) (k : κ) : Option ν := (l.find? fun e => keyEq (f e.1) (f k)).map (·.2)
def mset (f : κ → List PC) (l : List (κ × ν)) (k : κ) (v : ν) : List (κ × ν) := if (mget f l k).isSome then l.map fun e => if keyEq (f e.1) (f k) then (e.1, v) else e else l ++ [(k, v)]
theorem get_mp (l : List (κ × ν)) (k : κ) : getM (l.map fun e => (f e.1, g e.2)) (f k) = (mget f l k).map g := by
  unfold getM mget
  rw [List.find?_map]
  cases h : List.find? ((fun e => keyEq e.1 (f k)) ∘ fun e : κ × ν => (f e.1, g e.2)) l with
  | none => rw [show (List.find? (fun e : κ × ν => keyEq (f e.1) (f k)) l) = none from h]; rfl
  | some a => rw [show (List.find? (fun e : κ × ν => keyEq (f e.1) (f k)) l) = some a from h]; rfl
theorem set_mp (l : List (κ × ν)) (k : κ) (v : ν) : setM (l.map fun e => (f e.1, g e.2)) (f k) (g v) = (mset f l k v).map fun e => (f e.1, g e.2) := by
  unfold setM mset
  rw [get_mp]
  cases h : mget f l k with
  | none => simp
  | some a =>
    simp only [Option.map_some, Option.isSome_some, if_true, List.map_map]
    refine List.map_congr_left fun e _ => ?_
    simp only [Function.comp]
    cases h1 : keyEq (f e.1) (f k) <;> simp
theorem map_look {α : Type} {o : Option ν} {F : ν → Option α} {n : Option α} {r : α} {a : Option (List PC)} {K : Option (List PC) → Prop} (h : opt o F n = some r) (hs : ∀ x, o = some x → F x = some r → K (some (g x))) (hn : o = none → n = some r → K none) (e : a = o.map g) : eqv a K := fun w e' => by
  rw [e', e]
  exact opt_some h (fun x hx hr => by rw [hx]; exact hs x hx hr) (fun hx hr => by rw [hx]; exact hn hx hr)
end
theorem next_cut {α : Type} {l pre xs : List α} {x : α} (h : l = pre ++ x :: xs) : l = (pre ++ [x]) ++ xs := by rw [h]; simp
theorem next_len {α : Type} {l pre xs : List α} {x : α} {i : Int} (hs : smallL l = true) (h : l = pre ++ x :: xs) (hi : i = (pre.length : Int)) : wr .i64 (i + 1) = ((pre ++ [x]).length : Int) := by
  rw [wrL hs h hi, hi]; simp
end Go.Proofs.Ytijkfjahgijphaa
