/- Functions as they are told in plain Lean: checks, parting ways, rounds; how a walk follows them. -/
import Derived.Test.YtidkmoohgadjkaaBKit
import Derived.Test.YtidkmoohgadjkaaBClone
set_option linter.unusedVariables false
set_option linter.unusedSimpArgs false
namespace Go.Proofs.Ytidkmoohgadjkaa
open Go E
section
variable {α β : Type}
def chk (c : Bool) (x : Option α) : Option α := match c with
  | true => x
  | false => none
def br (c : Bool) (x y : Option α) : Option α := match c with
  | true => x
  | false => y
def bnd (x : Option α) (f : α → Option β) : Option β := match x with
  | some a => f a
  | none => none
def subL (l : List α) (a b : Int) : List α := (l.take b.toNat).drop a.toNat
def roomL (a b : Nat) : Bool := decide (a + b ≤ 1000000)
theorem chk_some {c : Bool} {x : Option α} {r : α} (h : chk c x = some r) : c = true ∧ x = some r := by cases c; cases h; exact ⟨rfl, h⟩
theorem bnd_some {x : Option α} {f : α → Option β} {r : β} (h : bnd x f = some r) : ∃ a, x = some a ∧ f a = some r := by cases x; cases h; exact ⟨_, rfl, h⟩
theorem br_some {c : Bool} {x y : Option α} {r : α} {T F : Prop} (h : br c x y = some r) (ht : c = true → x = some r → T) (hf : c = false → y = some r → F) : @Bool.rec (fun _ => Prop) F T c := by
  cases c
  · exact hf rfl h
  · exact ht rfl h
theorem ret_some {a b : α} {f : α → A} {g : α → List Blk} {Q : A → List Blk → Prop} (h : some a = some b) (hQ : Q (f b) (g b)) : Q (f a) (g a) := by injection h with h; rw [h]; exact hQ
variable {f : α → List PC}
theorem map_len (l : List α) : lenL (l.map f) = (l.length : Int) := by unfold lenL; simp
theorem cat_map (l m : List α) : catL (l.map f) (m.map f) = (l ++ m).map f := by unfold catL; simp
theorem nil_map (m : List α) : catL [] (m.map f) = m.map f := rfl
theorem in_map (l : List α) (a b : Int) : rowsIn (l.map f) a b = (subL l a b).map f := by unfold rowsIn subL; simp [List.map_take, List.map_drop]
theorem rowsOk_map {sz : Nat} (hf : ∀ x, (f x).length = sz) (m : List α) : rowsOk (m.map f) sz = true := by unfold rowsOk; simp [hf]
theorem room_nil {news : List (List PC)} {m b sz : Nat} (c : roomL 0 m = true) (hn : news.length = m) (hb : Nat.ble b 100000000 = true) (h2 : rowsOk news sz = true) : (roomFor [] news b && rowsOk news sz) = true := by
  have hb := Nat.le_of_ble_eq_true hb
  unfold roomL at c; simp only [decide_eq_true_eq] at c
  rw [h2, Bool.and_true]
  unfold roomFor
  rw [hn, decide_eq_true_eq]
  have := Nat.mul_le_mul c hb
  simp only [List.length_nil]
  omega
theorem andt {a b : Bool} (h : a = true) (h' : b = true) : (a && b) = true := by rw [h, h']; rfl
end
theorem and4 {a b c d : Bool} (h1 : a = true) (h2 : b = true) (h3 : c = true) (h4 : d = true) : (a && b && c && d) = true := by rw [h1, h2, h3, h4]; rfl
theorem room_zero {news : List (List PC)} {m b sz k : Nat} (c : roomL 0 m = true) (hn : news.length = m) (hb : Nat.ble b 100000000 = true) (h2 : rowsOk news sz = true) (h3 : (Nat.beq k sz || Nat.beq k 0) = true) : (roomFor [] news b && rowsOk news sz && (Nat.beq k sz || Nat.beq k 0)) = true := by
  rw [room_nil c hn hb h2, h3]; rfl
abbrev irw (n : Int) : List PC := [ip n]
abbrev srw (s : ByteArray) : List PC := [.v (.string s)]
section
variable {κ ν : Type} {f : κ → List PC} {g : ν → List PC}
end
def errA (t : Nat) (e : Option Int) : A := match e with
  | none => .one (.p (.v .nilIface))
  | some n => .one (.p (.v (.iface t (.int .i64 n))))
def bndE {α β : Type} (x : Option (α × Option Int)) (f : α → Int → Option β) (g : α → Option β) : Option β := match x with
  | some (a, some n) => f a n
  | some (a, none) => g a
  | none => none
theorem bndE_some {α β : Type} {x : Option (α × Option Int)} {f : α → Int → Option β} {g : α → Option β} {r : β} {G : Prop} (h : bndE x f g = some r) (hs : ∀ a n, x = some (a, some n) → f a n = some r → G) (hn : ∀ a, x = some (a, none) → g a = some r → G) : G := by
  match x, h with
  | some (a, some n), h => exact hs a n rfl h
  | some (a, none), h => exact hn a rfl h
theorem bndE_n {α β : Type} {x : Option (α × Option Int)} {f : α → Int → Option β} {g : α → Option β} {a : α} (h : x = some (a, none)) : bndE x f g = g a := by rw [h]; rfl
abbrev brw (n : Nat) : List PC := [.v (.int .u8 (n : Int))]
theorem strOk_brw (l : List Nat) : strOk (l.map brw) = true := by unfold strOk; simp [pcByte]
theorem room_cp {α : Type} {f : α → List PC} {l : List α} {news : List (List PC)} {m b sz : Nat} (c : roomL l.length m = true) (hn : news.length = m) (hb : Nat.ble b 100000000 = true) (h2 : rowsOk news sz = true) (h3 : rowsOk (l.map f) sz = true) : (roomFor (l.map f) news b && rowsOk news sz && rowsOk (l.map f) sz) = true := by
  have hb := Nat.le_of_ble_eq_true hb
  unfold roomL at c; simp only [decide_eq_true_eq] at c
  refine and3 ?_ h2 h3
  unfold roomFor
  rw [List.length_map, hn, decide_eq_true_eq]
  have := Nat.mul_le_mul c hb
  omega
theorem slice_ok {α : Type} {f : α → List PC} {l : List α} {a b : Int} {sz : Nat} (h : (leI 0 a && (leI a b && leI b (l.length : Int))) = true) (hf : ∀ x, (f x).length = sz) : (lenC (l.map f) b && leI 0 a && leI a b && rowsOk (l.map f) sz) = true := by
  rw [Bool.and_eq_true, Bool.and_eq_true, leI_t, leI_t, leI_t] at h
  rw [rowsOk_map hf, Bool.and_true, leI_t.2 h.1, leI_t.2 h.2.1, Bool.and_true, Bool.and_true]
  unfold lenC; simp; omega
abbrev slrw {α : Type} (f : α → List PC) (l : List α) : List PC := [.sl (l.map f)]
end Go.Proofs.Ytidkmoohgadjkaa
