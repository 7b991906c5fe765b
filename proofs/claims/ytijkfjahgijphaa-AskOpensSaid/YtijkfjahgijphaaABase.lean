/- Values by their Go types; what is closed under a step of the evaluator. -/
import Derived.Test.YtijkfjahgijphaaATab
import Derived.Test.YtijkfjahgijphaaAHints
import Derived.Test.YtijkfjahgijphaaAEvA
import Derived.Test.YtijkfjahgijphaaAEvF
set_option linter.unusedVariables false
set_option linter.unusedSimpArgs false
set_option maxRecDepth 100000
set_option maxHeartbeats 4000000
namespace Go.Proofs.Ytijkfjahgijphaa
open Go E
def KO : List Nat := [54, 159, 56]
def prim : Nat → List A → List Blk → A → List Blk → Prop := fun f xs σ r σ' => CallOk Try.prog f xs σ r σ'
abbrev Closed (X : Task → Prop) : Prop := ∀ t, Step T Hh KO X Try.prog prim t → X t
abbrev iv (n : Int) : A := .one (.p (.v (.int .i64 n)))
abbrev ic (n : Int) : C := .p (.v (.int .i64 n))
abbrev ip (n : Int) : PC := .v (.int .i64 n)
abbrev bv (b : Bool) : A := .one (.p (.v (.bool b)))
abbrev sv (s : ByteArray) : A := .one (.p (.v (.string s)))
abbrev fv (x : Nat) : A := .one (.p (.v (.float .f64 x)))
abbrev cv (x y : Nat) : A := .one (.p (.v (.complex .f64 x y)))
abbrev sl (l : List (List PC)) : A := .one (.p (.sl l))
theorem Qb {Q : A → List Blk → Prop} {b b' : Bool} (h : Q (bv b) []) (e : b = b') : Q (bv b') [] := e ▸ h
theorem Qi {Q : A → List Blk → Prop} {b b' : Int} (h : Q (iv b) []) (e : b = b') : Q (iv b') [] := e ▸ h
theorem lenL_map {α : Type} (f : α → List PC) (l : List α) : lenL (l.map f) = (l.length : Int) := by unfold lenL; simp
theorem rowAt_map {α : Type} {f : α → List PC} {l : List α} {j : Nat} (h : j < l.length) : E.rowAt (l.map f) (j : Int) = f l[j] := by
  unfold E.rowAt
  rw [List.getD_eq_getElem?_getD, Int.toNat_natCast, List.getElem?_map, List.getElem?_eq_getElem h]; rfl
theorem lenB_map {α : Type} {f : α → List PC} {l : List α} {j : Nat} (h : j < l.length) : lenB (l.map f) (j : Int) = true := by
  unfold lenB; simp; omega
theorem wrS {j : Nat} (h : j < 9223372036854775807) : wr .i64 ((j : Int) + 1) = ((j + 1 : Nat) : Int) := by rw [wr64 (by omega) (by omega)]; omega
theorem room_le {l news : List (List PC)} {b : Nat} (h : l.length + news.length ≤ 100000) (hb : Nat.ble b 1000000 = true) : roomFor l news b = true := by
  have hb := Nat.le_of_ble_eq_true hb
  unfold roomFor
  have := Nat.mul_le_mul h hb
  rw [decide_eq_true_eq]; omega
theorem room3 {l news : List (List PC)} {b sz k : Nat} (hl : l.length ≤ 50000) (hn : Nat.ble news.length 1000 = true) (hb : Nat.ble b 1000000 = true) (h2 : rowsOk news sz = true) (h3 : (Nat.beq k sz || Nat.beq k 0) = true) : (roomFor l news b && rowsOk news sz && (Nat.beq k sz || Nat.beq k 0)) = true := and3 (room_le (by have := Nat.le_of_ble_eq_true hn; omega) hb) h2 h3
theorem room2 {l news : List (List PC)} {b sz : Nat} (hl : l.length ≤ 50000) (hn : Nat.ble news.length 1000 = true) (hb : Nat.ble b 1000000 = true) (h2 : rowsOk news sz = true) : (roomFor l news b && rowsOk news sz) = true := by rw [room_le (by have := Nat.le_of_ble_eq_true hn; omega) hb, h2]; rfl
structure Rw where
  k : Nat
  l : List (List PC)
theorem range_loop {X : Task → Prop} {f m : Nat} {c : Code} {K : Ex → List A → List Blk → Prop} {ST : Type} (T' : Nat → ST → List A) (S' : Nat → ST → List Blk) (I : Nat → ST → Prop) (n : Nat)
    (hstep : ∀ j st, j < n → I j st → (∀ st', I (j + 1) st' → X (.loop f m c (T' (j + 1) st') (S' (j + 1) st') K)) → X (.loop f m c (T' j st) (S' j st) K))
    (hend : ∀ st, I n st → X (.loop f m c (T' n st) (S' n st) K)) (st0 : ST) (h0 : I 0 st0) : X (.loop f m c (T' 0 st0) (S' 0 st0) K) := by
  have key : ∀ (d j : Nat) (st : ST), j + d = n → I j st → X (.loop f m c (T' j st) (S' j st) K) := by
    intro d
    induction d with
    | zero => intro j st h hi; have : j = n := by omega
              subst this; exact hend st hi
    | succ d ih => intro j st h hi; exact hstep j st (by omega) hi fun st' hi' => ih (j + 1) st' (by omega) hi'
  exact key n 0 st0 (by omega) h0
theorem range_from {X : Task → Prop} {f m : Nat} {c : Code} {K : Ex → List A → List Blk → Prop} {ST : Type} (T' : Nat → ST → List A) (S' : Nat → ST → List Blk) (I : Nat → ST → Prop) (n j0 : Nat) (hj0 : j0 ≤ n)
    (hstep : ∀ j st, j0 ≤ j → j < n → I j st → (∀ st', I (j + 1) st' → X (.loop f m c (T' (j + 1) st') (S' (j + 1) st') K)) → X (.loop f m c (T' j st) (S' j st) K))
    (hend : ∀ st, I n st → X (.loop f m c (T' n st) (S' n st) K)) (st0 : ST) (h0 : I j0 st0) : X (.loop f m c (T' j0 st0) (S' j0 st0) K) := by
  have key : ∀ (d j : Nat) (st : ST), j0 ≤ j → j + d = n → I j st → X (.loop f m c (T' j st) (S' j st) K) := by
    intro d
    induction d with
    | zero => intro j st hj h hi; have : j = n := by omega
              subst this; exact hend st hi
    | succ d ih => intro j st hj h hi; exact hstep j st hj (by omega) hi fun st' hi' => ih (j + 1) st' (by omega) (by omega) hi'
  exact key (n - j0) j0 st0 (Nat.le_refl _) (by omega) h0
end Go.Proofs.Ytijkfjahgijphaa
