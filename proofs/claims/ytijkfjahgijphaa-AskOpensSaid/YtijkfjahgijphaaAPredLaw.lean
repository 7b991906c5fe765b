/- The statements of layer 3, walked. -/
import Derived.Test.YtijkfjahgijphaaAPred2
set_option linter.unusedVariables false
set_option linter.unusedSimpArgs false
set_option maxRecDepth 100000
set_option maxHeartbeats 4000000
namespace Go.Proofs.Ytijkfjahgijphaa
open Go E Pred
abbrev pagg (o : Int) (t : ByteArray) (n : Int) (x y : Nat) (r : List (List PC)) : A := .agg [ic o, .p (.v (.string t)), ic n, .p (.v (.complex .f64 x y)), .p (.sl r)]
section
variable {X : Task → Prop} (hX : Closed X) {o : Int} {t : ByteArray} {n : Int} {x y : Nat} {r : List (List PC)} {Q : A → List Blk → Prop}
include hX
end
theorem mk_size (o : Int) (t : ByteArray) (n : Int) (x y : Nat) (ks : List Pred) : (Pred.mk o t n x y ks).size = sizes ks + 1 := size_eq _
theorem eqFl_self {x y : Nat} (h : eqFl .f64 x y = true) : eqFl .f64 x x = true := by
  have h' : (Ieee.Datum.order (Ieee.double.read x) (Ieee.double.read y) == some .eq) = true := h
  show (Ieee.Datum.order (Ieee.double.read x) (Ieee.double.read x) == some .eq) = true
  cases hx : Ieee.double.read x with
  | nan s f => rw [hx] at h'; cases h'
  | infinity s => cases s <;> rfl
  | number s m i => rw [order_num]; simp
theorem part_self {o : Int} {t : ByteArray} {n : Int} {x y : Nat} {ks : List Pred} (h : partB o t n x y ks = true) : (eqFl .f64 x x && eqFl .f64 y y) = true := by
  have key : (eqFl .f64 x 0 && eqFl .f64 y 0) = true ∨ placeB x y = true := by
    unfold partB nearP at h
    rcases r10 o with rfl | rfl | rfl | rfl | rfl | rfl | rfl | rfl | rfl | rfl | ⟨n1, n2, n3, n4, n5, n6, n7, n8, n9, n10⟩
    rotate_right
    · simp [*] at h
    all_goals
      simp at h
      simp [h]
  rcases key with h | h
  · rw [Bool.and_eq_true] at h ⊢
    exact ⟨eqFl_self h.1, eqFl_self h.2⟩
  · obtain ⟨⟨w1, _⟩, ⟨w2, _⟩⟩ := placeB_ok h
    rw [w1.self, w2.self]; rfl
theorem sameL_refl : ∀ (N : Nat) {l : List Pred}, sizes l ≤ N → fitsL l = true → sameL l l = true
  | _, [], _, _ => by rw [sameL]
  | 0, k :: ks, h, _ => absurd h (by rw [Pred.sizes]; have := size_pos k; omega)
  | N + 1, k :: ks, h, hs => by
    rw [Pred.sizes] at h
    rw [fitsL, Bool.and_eq_true] at hs
    have hk := size_eq k
    have hf := hs.1
    rw [fitsP_eq, Bool.and_eq_true] at hf
    have h1 := sameL_refl N (l := k.kids) (by omega) hf.2
    have h2 := sameL_refl N (l := ks) (by omega) hs.2
    rw [sameL, h2, sameP_eq, h1, part_self hf.1, eqS_refl]
    simp [eqI]
theorem sameP_refl {p : Pred} (h : fitsP p = true) : sameP p p = true := by
  rw [fitsP_eq, Bool.and_eq_true] at h
  rw [sameP_eq, sameL_refl _ (Nat.le_refl _) h.2, part_self h.1, eqS_refl]
  simp [eqI]
theorem mayP_iff {p : Pred} : mayP p = true ↔ p.size ≤ 30 ∧ p.depth ≤ 6 ∧ fitsP p = true := by
  unfold mayP; simp only [Bool.and_eq_true, decide_eq_true_eq]
end Go.Proofs.Ytijkfjahgijphaa
