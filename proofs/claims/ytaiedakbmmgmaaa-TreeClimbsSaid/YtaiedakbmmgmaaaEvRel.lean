/- What the evaluator's values and store mean in a world, and that it stays. -/
import Derived.Test.YtaiedakbmmgmaaaEvRun
import Derived.Laws.Rows
import Derived.Laws.CopyRow
import Derived.Laws.AppendOwn
import Derived.Maps.AppendAt
set_option linter.unusedVariables false
set_option linter.unusedSimpArgs false
namespace Go.Proofs.Ytaiedakbmmgmaaa.E
open Go

/-! ### Lists beside each other -/
inductive F2 {α β : Type} (R : α → β → Prop) : List α → List β → Prop
  | nil : F2 R [] []
  | cons {a b l m} : R a b → F2 R l m → F2 R (a :: l) (b :: m)
namespace F2
variable {α β γ : Type} {R R' : α → β → Prop}
theorem len {l : List α} {m : List β} (h : F2 R l m) : l.length = m.length := by induction h <;> simp_all
theorem mono {l : List α} {m : List β} (h : F2 R l m) (hr : ∀ a b, a ∈ l → R a b → R' a b) : F2 R' l m := by
  induction h with
  | nil => exact .nil
  | cons h _ ih => exact .cons (hr _ _ (by simp) h) (ih fun a b ha => hr a b (by simp [ha]))
theorem mono' {l : List α} {m : List β} (h : F2 R l m) (hr : ∀ a b, R a b → R' a b) : F2 R' l m := h.mono fun a b _ => hr a b
theorem get {l : List α} {m : List β} (h : F2 R l m) : ∀ {i : Nat} {a : α}, l[i]? = some a → ∃ b, m[i]? = some b ∧ R a b := by
  induction h with
  | nil => intro i a h; simp at h
  | cons hab _ ih =>
    intro i a' h'
    cases i with
    | zero => simp at h'; subst h'; exact ⟨_, rfl, hab⟩
    | succ i => simp at h' ⊢; exact ih h'
theorem getR {l : List α} {m : List β} (h : F2 R l m) : ∀ {i : Nat} {b : β}, m[i]? = some b → ∃ a, l[i]? = some a ∧ R a b := by
  induction h with
  | nil => intro i a h; simp at h
  | cons hab _ ih =>
    intro i a' h'
    cases i with
    | zero => simp at h'; subst h'; exact ⟨_, rfl, hab⟩
    | succ i => simp at h' ⊢; exact ih h'
theorem of_get : ∀ {l : List α} {m : List β}, l.length = m.length → (∀ (i : Nat) (a : α) (b : β), l[i]? = some a → m[i]? = some b → R a b) → F2 R l m
  | [], [], _, _ => .nil
  | a :: l, b :: m, hl, h => .cons (h 0 a b rfl rfl) (of_get (by simpa using hl) fun i x y hx hy => h (i + 1) x y (by simpa using hx) (by simpa using hy))
  | [], _ :: _, hl, _ => by simp at hl
  | _ :: _, [], hl, _ => by simp at hl
theorem app {l l' : List α} {m m' : List β} (h : F2 R l m) (h' : F2 R l' m') : F2 R (l ++ l') (m ++ m') := by
  induction h with
  | nil => exact h'
  | cons h _ ih => exact .cons h ih
theorem take {l : List α} {m : List β} (h : F2 R l m) : ∀ n, F2 R (l.take n) (m.take n) := by
  induction h with
  | nil => intro n; simp; exact .nil
  | cons h _ ih => intro n; cases n with | zero => exact .nil | succ n => exact .cons h (ih n)
theorem drop {l : List α} {m : List β} (h : F2 R l m) : ∀ n, F2 R (l.drop n) (m.drop n) := by
  induction h with
  | nil => intro n; simp; exact .nil
  | cons h h' ih => intro n; cases n with | zero => exact .cons h h' | succ n => exact ih n
theorem rep {a : α} {b : β} (h : R a b) : ∀ n, F2 R (List.replicate n a) (List.replicate n b)
  | 0 => .nil
  | n + 1 => .cons h (rep h n)
theorem map {f : α → γ} {R'' : γ → β → Prop} {l : List α} {m : List β} (h : F2 R l m) (hf : ∀ a b, a ∈ l → R a b → R'' (f a) b) : F2 R'' (l.map f) m := by
  induction h with
  | nil => exact .nil
  | cons h _ ih => exact .cons (hf _ _ (by simp) h) (ih fun a b ha => hf a b (by simp [ha]))
theorem set {l : List α} {m : List β} (h : F2 R l m) {a : α} {b : β} (hab : R a b) : ∀ n, F2 R (l.set n a) (m.set n b) := by
  induction h with
  | nil => intro n; simp; exact .nil
  | cons h h' ih => intro n; cases n with | zero => exact .cons hab h' | succ n => exact .cons h (ih n)
end F2

/-! ### The recursor's list functions are the library's -/
section
variable {α β : Type}
@[simp] theorem nth_eq (d : α) (l : List α) : ∀ n, nth d l n = l.getD n d := by
  induction l with
  | nil => intro n; rfl
  | cons a l ih => intro n; cases n with | zero => rfl | succ n => exact (ih n).trans (by simp)
@[simp] theorem dropR_eq (l : List α) : ∀ n, dropR l n = l.drop n := by
  induction l with
  | nil => intro n; simp [dropR]
  | cons a l ih => intro n; cases n with | zero => rfl | succ n => exact ih n
@[simp] theorem takeR_eq (l : List α) : ∀ n, takeR l n = l.take n := by
  induction l with
  | nil => intro n; simp [takeR]
  | cons a l ih => intro n; cases n with | zero => rfl | succ n => exact congrArg (a :: ·) (ih n)
@[simp] theorem lenR_eq (l : List α) : lenR l = l.length := by
  induction l with
  | nil => rfl
  | cons a l ih => exact congrArg (· + 1) ih
@[simp] theorem mapR_eq (f : α → β) (l : List α) : mapR f l = l.map f := by
  induction l with
  | nil => rfl
  | cons a l ih => exact congrArg (f a :: ·) ih
@[simp] theorem appR_eq (l m : List α) : appR l m = l ++ m := by
  induction l with
  | nil => rfl
  | cons a l ih => exact congrArg (a :: ·) ih
@[simp] theorem flatR_eq (l : List (List α)) : flatR l = l.flatten := by
  induction l with
  | nil => rfl
  | cons a l ih => show appR a (flatR l) = _; rw [appR_eq, ih]; rfl
@[simp] theorem repR_eq (a : α) : ∀ n, repR a n = List.replicate n a
  | 0 => rfl
  | n + 1 => congrArg (a :: ·) (repR_eq a n)
@[simp] theorem allR_eq (f : α → Bool) (l : List α) : allR f l = l.all f := by
  induction l with
  | nil => rfl
  | cons a l ih => show @Bool.rec (fun _ => Bool) false (allR f l) (f a) = _; rw [ih]; cases h : f a <;> simp [h]
theorem splice_eq (l : List α) : ∀ n (new : List α), n + new.length ≤ l.length → splice l n new = l.take n ++ new ++ l.drop (n + new.length) := by
  induction l with
  | nil => intro n new h; simp at h; obtain ⟨rfl, rfl⟩ := h; rfl
  | cons a l ih =>
    intro n new h
    cases n with
    | zero =>
      cases new with
      | nil =>
        show a :: splice l 0 [] = _
        rw [ih 0 [] (by simp)]; simp
      | cons x xs =>
        show x :: splice l 0 xs = _
        rw [ih 0 xs (by simpa using h)]; simp [Nat.add_comm]
    | succ n =>
      show a :: splice l n new = _
      rw [ih n new (by simp at h; omega)]; simp [Nat.add_right_comm]
theorem splice_nil (n : Nat) (new : List α) : splice ([] : List α) n new = [] := rfl
@[simp] theorem memN_iff (b : Nat) (l : List Nat) : memN b l = true ↔ b ∈ l := by
  induction l with
  | nil => simp [memN]
  | cons a l ih =>
    show @Bool.rec (fun _ => Bool) (memN b l) true (Nat.beq a b) = true ↔ _
    cases h : Nat.beq a b with
    | true => have := Nat.eq_of_beq_eq_true h; simp [this]
    | false => have := Nat.ne_of_beq_eq_false h; show memN b l = true ↔ _; rw [ih]; simp [Ne.symm this]
theorem idxN_some (l : List Nat) (b : Nat) : ∀ n i, idxN l b n = some i → ∃ j, i = n + j ∧ l[j]? = some b := by
  induction l with
  | nil => intro n i h; cases h
  | cons a l ih =>
    intro n i h
    change @Bool.rec (fun _ => Option Nat) (idxN l b (n + 1)) (some n) (Nat.beq a b) = some i at h
    cases hb : Nat.beq a b with
    | true => rw [hb] at h; injection h with h; exact ⟨0, by omega, by simp [Nat.eq_of_beq_eq_true hb]⟩
    | false =>
      rw [hb] at h
      obtain ⟨j, hj, hl⟩ := ih _ _ h
      exact ⟨j + 1, by omega, by simpa using hl⟩
theorem fwd_some {l : List Nat} {b i : Nat} (h : fwd l b = some i) : l[i]? = some b := by
  obtain ⟨j, hj, hl⟩ := idxN_some l b 0 i h
  rw [hj, Nat.zero_add]; exact hl
theorem bwd_some {l : List Nat} {b i : Nat} (h : bwd l i = some b) : l[i]? = some b := by
  unfold bwd at h
  rw [dropR_eq] at h
  cases hd : l.drop i with
  | nil => rw [hd] at h; cases h
  | cons a r =>
    rw [hd] at h; injection h with h; subst h
    have := congrArg (·[0]?) hd
    simpa using this
/-! forcing changes nothing -/
@[simp] theorem natF_eq (n : Nat) (k : Nat → Prop) : natF n k = k n := by
  have key : ∀ (l : List Nat) (m c : Nat), (∀ i a, l[i]? = some a → a = c + i) → n = c + m →
      @List.rec Nat (fun _ => Nat → Prop) (fun _ => k n) (fun a _ ih m => @Nat.rec (fun _ => Prop) (k a) (fun m _ => ih m) m) l m = k n := by
    intro l
    induction l with
    | nil => intros; rfl
    | cons a l ih =>
      intro m c h hn
      cases m with
      | zero => show k a = k n; rw [h 0 a rfl, hn]
      | succ m => exact ih m (c + 1) (fun i x hx => by have := h (i + 1) x (by simpa using hx); omega) (by omega)
  refine key litTab n 0 ?_ (by omega)
  intro i a h
  unfold litTab at h
  match i with
  | 0 | 1 | 2 | 3 | 4 | 5 | 6 | 7 | 8 | 9 | 10 | 11 | 12 | 13 | 14 | 15 | 16 | 17 | 18 | 19 | 20 | 21 | 22 | 23 | 24 | 25 | 26 | 27 | 28 | 29 | 30 | 31 | 32 | 33 | 34 | 35 | 36 | 37 | 38 | 39 | 40 => simp at h; omega
  | n + 41 => simp at h
theorem mapF_eq {f : α → (β → Prop) → Prop} {g : α → β} (h : ∀ a k, f a k = k (g a)) (l : List α) : ∀ k, mapF f l k = k (l.map g) := by
  induction l with
  | nil => intro k; rfl
  | cons a l ih => intro k; show f a (fun b => mapF f l fun l => k (b :: l)) = _; rw [h, ih]; rfl
@[simp] theorem appF_eq (l m : List α) : ∀ k, appF l m k = k (l ++ m) := by
  induction l with
  | nil => intro k; rfl
  | cons a l ih => intro k; show appF l m (fun l => k (a :: l)) = _; rw [ih]; rfl
@[simp] theorem setF_eq (v : α) (l : List α) : ∀ n k, setF v l n k = k (l.set n v) := by
  induction l with
  | nil => intro n k; simp [setF]
  | cons a l ih =>
    intro n k
    cases n with
    | zero => rfl
    | succ n => show setF v l n (fun l => k (a :: l)) = _; rw [ih]; rfl
end
@[simp] theorem pF_eq (c : PC) (k : PC → Prop) : pF c k = k c := by cases c <;> rfl
@[simp] theorem mapF_pF (l : List PC) (k : List PC → Prop) : mapF pF l k = k l := by rw [mapF_eq (g := id) pF_eq, List.map_id]
@[simp] theorem mapF_natF (l : List Nat) (k : List Nat → Prop) : mapF natF l k = k l := by rw [mapF_eq (g := id) natF_eq, List.map_id]
@[simp] theorem cF_eq (c : C) (k : C → Prop) : cF c k = k c := by cases c <;> simp [cF]
@[simp] theorem mapF_cF (l : List C) (k : List C → Prop) : mapF cF l k = k l := by rw [mapF_eq (g := id) cF_eq, List.map_id]
@[simp] theorem aF_eq (a : A) (k : A → Prop) : aF a k = k a := by cases a <;> simp [aF]
@[simp] theorem mapF_aF (l : List A) (k : List A → Prop) : mapF aF l k = k l := by rw [mapF_eq (g := id) aF_eq, List.map_id]
@[simp] theorem bF_eq (b : Blk) (k : Blk → Prop) : bF b k = k b := by cases b <;> simp [bF]
@[simp] theorem mapF_bF (l : List Blk) (k : List Blk → Prop) : mapF bF l k = k l := by rw [mapF_eq (g := id) bF_eq, List.map_id]
@[simp] theorem bcase_iff (b : Bool) (x y : Prop) : bcase b x y ↔ (b = true ∧ x) ∨ (b = false ∧ y) := by cases b <;> simp [bcase]
theorem brec_iff (b : Bool) (x y : Prop) : (@Bool.rec (fun _ => Prop) y x b) ↔ (b = true ∧ x) ∨ (b = false ∧ y) := by cases b <;> simp
theorem look_eq (σ : List Blk) (b : Nat) : look σ b = σ.getD b .dead := nth_eq _ _ _

/-! ### Values -/
inductive Loc where
  | free
  | dead
  | box (g : Nat)
  | row (v : Value) (g : Option Nat)
  | mp (r : Nat)
/-- the memory that stays: what is read there (s), and what others own (fr) -/
structure Zone where
  s : Nat → Prop
  fr : Nat → Prop
instance : CoeFun Zone fun _ => Nat → Prop := ⟨Zone.s⟩
def Zone.all (S : Zone) (g : Nat) : Prop := S.s g ∨ S.fr g
/-- a pure cell, and what it reads as in memory that stays -/
inductive PR (w : World) (S : Zone) : PC → Value → Prop
  | v {x : Value} : flat x = true → PR w S (.v x) x
  | sl {rows : List (List PC)} {base : Option Addr} {cap k : Nat} (vals : Nat → Nat → Value)
      (hcap : rows.length ≤ cap) (hk : 0 < k) (hrow : ∀ r ∈ rows, r.length = k)
      (hb : rows = [] ∨ ∃ g o, base = some ⟨g, o, none⟩ ∧ S g)
      (hc : ∀ g o, base = some ⟨g, o, none⟩ → ∀ i j, i < rows.length → j < k → w.cell? ⟨g, o + i * k + j, none⟩ = some (vals i j))
      (hv : ∀ i j r c, rows[i]? = some r → r[j]? = some c → PR w S c (vals i j)) : PR w S (.sl rows) (.slice base rows.length cap)
/-- the address of cells in memory that stays -/
def RpOk (w : World) (S : Zone) (cs : List PC) (v : Value) : Prop := ∃ g, ∃ vals : Nat → Value, v = .pointer (some ⟨g, 0, none⟩) ∧ S g ∧ (∀ j, j < cs.length → w.cell? ⟨g, 0 + j, none⟩ = some (vals j)) ∧ (∀ j c, cs[j]? = some c → PR w S c (vals j))
inductive VR (w : World) (S : Zone) (inj : Nat → Loc) : C → Value → Prop
  | p {c : PC} {v : Value} : PR w S c v → VR w S inj (.p c) v
  | own {b : Nat} {a : Option Addr} {n c : Nat} : (inj b = .dead ∨ ∃ g, inj b = .row (.slice a n c) g) → VR w S inj (.own b) (.slice a n c)
  | ptr {b o : Nat} {a : Option Addr} : (inj b = .dead ∨ ∃ g, inj b = .box g ∧ a = some ⟨g, o, none⟩) → VR w S inj (.ptr b o) (.pointer a)
  | ep {b k i o : Nat} {a : Option Addr} : (inj b = .dead ∨ ∃ g n c, inj b = .row (.slice (some ⟨g, 0, none⟩) n c) (some g) ∧ a = some ⟨g, i * k + o, none⟩) → VR w S inj (.ep b k i o) (.pointer a)
  | rp {cs : List PC} {g o : Nat} (vals : Nat → Value) : S g → (∀ j, j < cs.length → w.cell? ⟨g, o + j, none⟩ = some (vals j)) → (∀ j c, cs[j]? = some c → PR w S c (vals j)) →
      VR w S inj (.rp cs) (.pointer (some ⟨g, o, none⟩))
  | fn {f : Nat} {caps : List Nat} {vs : List Value} : F2 (fun b v => ∃ a, v = .pointer a ∧ (inj b = .dead ∨ ∃ g, inj b = .box g ∧ a = some ⟨g, 0, none⟩)) caps vs →
      VR w S inj (.fn f caps) (.func (.func f) #[] vs.toArray)
  | pf {f : Nat} {caps : List (List PC)} {vs : List Value} : F2 (RpOk w S) caps vs → VR w S inj (.pf f caps) (.func (.func f) #[] vs.toArray)
  | mp {b : Nat} {r : Option Nat} : (inj b = .dead ∨ ∃ g, inj b = .mp g ∧ r = some g) → VR w S inj (.mp b) (.map r)
  | junk {v : Value} : v.oneCell' = true → VR w S inj .junk v
inductive VA1 (w : World) (S : Zone) (inj : Nat → Loc) : A → Value → Prop
  | one {c v} : VR w S inj c v → VA1 w S inj (.one c) v
  | agg {cs vs} : F2 (VR w S inj) cs vs → VA1 w S inj (.agg cs) (.agg vs.toArray)
  | junk {v} : VA1 w S inj (.one .junk) v
inductive VA (w : World) (S : Zone) (inj : Nat → Loc) : A → Value → Prop
  | one {a v} : VA1 w S inj a v → VA w S inj a v
  | tup {l vs} : F2 (VA1 w S inj) l vs → VA w S inj (.tup l) (.tuple vs.toArray)

theorem flat_one {v : Value} (h : flat v = true) : v.oneCell' = true := by cases v <;> simp_all [flat, Value.oneCell']
theorem PR.one {w S c v} (h : PR w S c v) : v.oneCell' = true := by
  cases h with
  | v h => exact flat_one h
  | sl => rfl
theorem VR.oneCell {w S inj c v} (h : VR w S inj c v) : v.oneCell' = true := by
  cases h with
  | p h => exact h.one
  | junk h => exact h
  | _ => rfl

/-- what was there, and is to stay, stays -/
structure Grow (w : World) (S : Zone) (w' : World) (S' : Zone) : Prop where
  os : w'.os = w.os
  tape : w'.tape = w.tape
  output : w'.output = w.output
  size : w.heap.size ≤ w'.heap.size
  heap : ∀ g, S.all g → w'.heap[g]? = w.heap[g]?
  sub : ∀ g, S g → S' g
  fr : S'.fr = S.fr
theorem Grow.all {w S w' S'} (h : Grow w S w' S') (g : Nat) (hg : S.all g) : S'.all g := hg.imp (h.sub g) fun h' => by rw [h.fr]; exact h'
theorem Grow.refl (w S) : Grow w S w S := ⟨rfl, rfl, rfl, Nat.le_refl _, fun _ _ => rfl, fun _ h => h, rfl⟩
theorem Grow.trans {w S w' S' w'' S''} (h : Grow w S w' S') (h' : Grow w' S' w'' S'') : Grow w S w'' S'' :=
  ⟨h'.os.trans h.os, h'.tape.trans h.tape, h'.output.trans h.output, Nat.le_trans h.size h'.size, fun g hg => (h'.heap g (h.all g hg)).trans (h.heap g hg), fun g hg => h'.sub g (h.sub g hg), h'.fr.trans h.fr⟩
theorem Grow.drew (w S) : Grow w S w.drew S := ⟨rfl, rfl, rfl, Nat.le_refl _, fun _ _ => rfl, fun _ h => h, rfl⟩
theorem Grow.cell {w S w' S'} (h : Grow w S w' S') {g o : Nat} (hg : S g) : w'.cell? ⟨g, o, none⟩ = w.cell? ⟨g, o, none⟩ := World.cell?_of_block (h.heap g (.inl hg))
theorem PR.grow {w S w' S'} (h : Grow w S w' S') {c v} (hp : PR w S c v) : PR w' S' c v := by
  induction hp with
  | v hf => exact .v hf
  | @sl rows base cap k vals hcap hk hrow hb hc hv ih =>
    refine .sl vals hcap hk hrow (hb.imp id fun ⟨g, o, e, hs⟩ => ⟨g, o, e, h.sub g hs⟩) (fun g o e i j hi hj => ?_) ih
    rcases hb with rfl | ⟨g', o', e', hs⟩
    · simp at hi
    · rw [e'] at e; injection e with e; injection e with e1 e2; subst e1; subst e2
      rw [h.cell hs]; exact hc _ _ e' i j hi hj
def Le (inj inj' : Nat → Loc) : Prop := ∀ b, inj b = .free ∨ inj' b = inj b ∨ inj' b = .dead
theorem Le.refl (inj) : Le inj inj := fun b => .inr (.inl rfl)
theorem Le.trans {i j k} (h : Le i j) (h' : Le j k) : Le i k := fun b => by
  rcases h b with h1 | h1 | h1
  · exact .inl h1
  · rcases h' b with h2 | h2 | h2
    · exact .inl (h1 ▸ h2)
    · exact .inr (.inl (h2.trans h1))
    · exact .inr (.inr h2)
  · rcases h' b with h2 | h2 | h2
    · rw [h1] at h2; cases h2
    · exact .inr (.inr (h2.trans h1))
    · exact .inr (.inr h2)
theorem Le.dead {i j} (h : Le i j) {b} (hd : i b = .dead) : j b = .dead := by
  rcases h b with h | h | h
  · rw [hd] at h; cases h
  · exact h.trans hd
  · exact h
theorem Le.some {i j} (h : Le i j) {b} {l : Loc} (hl : i b = l) (hne : l ≠ .free) : j b = .dead ∨ j b = l := by
  rcases h b with h | h | h
  · exact absurd (hl ▸ h) hne
  · exact .inr (h.trans hl)
  · exact .inl h
theorem RpOk.grow {w S w' S'} (h : Grow w S w' S') {cs v} (hr : RpOk w S cs v) : RpOk w' S' cs v := by
  obtain ⟨g, vals, e, hg, hc, hp⟩ := hr
  exact ⟨g, vals, e, h.sub _ hg, fun j hj => by rw [h.cell hg]; exact hc j hj, fun j c hj => (hp j c hj).grow h⟩
theorem VR.grow {w S inj w' S' inj'} (h : Grow w S w' S') (hl : Le inj inj') {c v} (hv : VR w S inj c v) : VR w' S' inj' c v := by
  cases hv with
  | p hp => exact .p (hp.grow h)
  | own hb =>
    refine .own ?_
    rcases hb with hb | ⟨g, hb⟩
    · exact .inl (hl.dead hb)
    · exact (hl.some hb (by simp)).imp id fun e => ⟨g, e⟩
  | ptr hb =>
    refine .ptr ?_
    rcases hb with hb | ⟨g, hb, e⟩
    · exact .inl (hl.dead hb)
    · exact (hl.some hb (by simp)).imp id fun e' => ⟨g, e', e⟩
  | ep hb =>
    refine .ep ?_
    rcases hb with hb | ⟨g, n, c, hb, e⟩
    · exact .inl (hl.dead hb)
    · exact (hl.some hb (by simp)).imp id fun e' => ⟨g, n, c, e', e⟩
  | rp vals hg hc hp => exact .rp vals (h.sub _ hg) (fun j hj => by rw [h.cell hg]; exact hc j hj) (fun j c hj => (hp j c hj).grow h)
  | fn hf =>
    refine .fn (hf.mono' ?_)
    rintro b v ⟨a, rfl, hb⟩
    refine ⟨a, rfl, ?_⟩
    rcases hb with hb | ⟨g, hb, e⟩
    · exact .inl (hl.dead hb)
    · exact (hl.some hb (by simp)).imp id fun e' => ⟨g, e', e⟩
  | mp hb =>
    refine .mp ?_
    rcases hb with hb | ⟨g, hb, e⟩
    · exact .inl (hl.dead hb)
    · exact (hl.some hb (by simp)).imp id fun e' => ⟨g, e', e⟩
  | pf hf => exact .pf (hf.mono' fun _ _ h' => h'.grow h)
  | junk h => exact .junk h
theorem VA1.grow {w S inj w' S' inj'} (h : Grow w S w' S') (hl : Le inj inj') {c v} (hv : VA1 w S inj c v) : VA1 w' S' inj' c v := by
  cases hv with
  | one hv => exact .one (hv.grow h hl)
  | agg hv => exact .agg (hv.mono' fun _ _ hv => hv.grow h hl)
  | junk => exact .junk
theorem VA.grow {w S inj w' S' inj'} (h : Grow w S w' S') (hl : Le inj inj') {c v} (hv : VA w S inj c v) : VA w' S' inj' c v := by
  cases hv with
  | one hv => exact .one (hv.grow h hl)
  | tup hv => exact .tup (hv.mono' fun _ _ hv => hv.grow h hl)

/-! ### The store -/
def Loc.blk : Loc → Option Nat
  | .box g => some g
  | .row _ g => g
  | .mp g => some g
  | _ => none
/-- an owned slice: its value, the block that is its own, if it has one -/
def RowOk (w : World) (S : Zone) (k : Nat) (l : List (List PC)) (v : Value) (g : Option Nat) : Prop :=
  (l = [] ∧ g = none ∧ ∃ a, v = .slice a 0 0) ∨
  ∃ g' cap cur e, 0 < k ∧ g = some g' ∧ v = .slice (some ⟨g', 0, none⟩) l.length cap ∧ ¬ S.all g' ∧ w.heap[g']? = some (.cells cur e (0, 0)) ∧ l.length ≤ cap ∧ cap ≤ maxLen ∧ cur.size = cap * k ∧
    (∀ r ∈ l, r.length = k) ∧ F2 (PR w S) l.flatten (cur.toList.take (l.length * k))
def BR (w : World) (S : Zone) (inj : Nat → Loc) (loc : Loc) : Blk → Prop
  | .dead => True
  | .box cs => ∃ g vs e, loc = .box g ∧ ¬ S.all g ∧ w.heap[g]? = some (.cells (vs : List Value).toArray e (0, 0)) ∧ F2 (VR w S inj) cs vs
  | .rows k l => ∃ v g, loc = .row v g ∧ RowOk w S k l v g
  | .mp es => ∃ g entries clock, loc = .mp g ∧ ¬ S.all g ∧ w.heap[g]? = some (.map entries clock) ∧ F2 (fun (x : Value × A) (m : MapEntry) => m.key = x.1 ∧ VA1 w S inj x.2 m.val) es entries.toList
structure Inv (w : World) (S : Zone) (inj : Nat → Loc) (f : Nat → Blk) : Prop where
  live : ∀ b, BR w S inj (inj b) (f b)
  sep : ∀ b b' g, f b ≠ .dead → f b' ≠ .dead → (inj b).blk = some g → (inj b').blk = some g → b = b'
  lt : ∀ g, S.all g → g < w.heap.size
  dj : ∀ g, S.fr g → ¬ S g

theorem BR.blk {w S inj loc B} (h : BR w S inj loc B) (hd : B ≠ .dead) {g : Nat} (hg : loc.blk = some g) : ¬ S.all g ∧ g < w.heap.size := by
  cases B with
  | dead => exact absurd rfl hd
  | box cs =>
    obtain ⟨g', vs, e, rfl, hs, hh, _⟩ := h
    injection hg with hg; subst hg
    exact ⟨hs, (Array.getElem?_eq_some_iff.1 hh).1⟩
  | rows k l =>
    obtain ⟨v, g', rfl, hr⟩ := h
    rcases hr with ⟨_, rfl, _⟩ | ⟨g'', cap, cur, e, _, rfl, _, hs, hh, _⟩
    · cases hg
    · injection hg with hg; subst hg
      exact ⟨hs, (Array.getElem?_eq_some_iff.1 hh).1⟩
  | mp es =>
    obtain ⟨g', en, cl, rfl, hs, hh, _⟩ := h
    injection hg with hg; subst hg
    exact ⟨hs, (Array.getElem?_eq_some_iff.1 hh).1⟩
/-- a block that nobody touched -/
theorem BR.grow {w S inj w' S' inj' loc B} (h : Grow w S w' S') (hl : Le inj inj') (hb : BR w S inj loc B) (hw : ∀ g, loc.blk = some g → w'.heap[g]? = w.heap[g]?)
    (hs : ∀ g, loc.blk = some g → ¬ S'.all g) : BR w' S' inj' loc B := by
  cases B with
  | dead => trivial
  | box cs =>
    obtain ⟨g', vs, e, rfl, _, hh, hf⟩ := hb
    exact ⟨g', vs, e, rfl, hs _ rfl, (hw _ rfl).trans hh, hf.mono' fun _ _ hv => hv.grow h hl⟩
  | rows k l =>
    obtain ⟨v, g', rfl, hr⟩ := hb
    refine ⟨v, g', rfl, ?_⟩
    rcases hr with hr | ⟨g'', cap, cur, e, hk, rfl, hv, _, hh, h1, h2, h3, h4, h5⟩
    · exact .inl hr
    · exact .inr ⟨g'', cap, cur, e, hk, rfl, hv, hs _ rfl, (hw _ rfl).trans hh, h1, h2, h3, h4, h5.mono' fun _ _ hp => hp.grow h⟩
  | mp es =>
    obtain ⟨g', en, cl, rfl, _, hh, hf⟩ := hb
    exact ⟨g', en, cl, rfl, hs _ rfl, (hw _ rfl).trans hh, hf.mono' fun _ _ ⟨hk, hv⟩ => ⟨hk, hv.grow h hl⟩⟩
end Go.Proofs.Ytaiedakbmmgmaaa.E
