/- Floating point numbers that are whole, and small: what the model's operations make of them. -/
import Derived.Test.YtaiedakbmmgmaaaEvTac
import Derived.KernelRfl
set_option linter.unusedVariables false
set_option linter.unusedSimpArgs false
set_option maxRecDepth 100000
namespace Go.Proofs.Ytaiedakbmmgmaaa.E
open Go Ieee
/-- what math.Trunc makes of a number -/
def trW (x : Nat) : Nat := Ieee.double.write ((Ieee.double.read x).integral .zero)
/-- x is the whole number v -/
def Wh (x : Nat) (v : Int) : Prop := ∃ s m i, double.read x = .number s m i ∧ i ≤ 0 ∧ signed s m 0 = v * (2 ^ (-i).toNat : Nat)
theorem signed0 (s : Bool) (m k : Nat) : signed s m k = signed s m 0 * (2 ^ k : Nat) := by
  unfold signed
  cases s <;> simp [Nat.shiftLeft_eq, Int.neg_mul]
theorem signed_zero (s : Bool) : signed s 0 0 = 0 := by cases s <;> rfl
theorem signed_abs (s : Bool) (m : Nat) : (signed s m 0).natAbs = m := by cases s <;> simp [signed]
/-- what is written of a small whole number -/
def okAt (s : Bool) (q : Nat) : Bool :=
  match double.read (double.nearest s q 0) with
  | .number s' m i => (s' == s) && decide (i ≤ 0) && decide (m = q * 2 ^ (-i).toNat)
  | _ => false
def okUpto (n : Nat) : Bool := @Nat.rec (fun _ => Bool) true (fun n b => okAt true n && okAt false n && b) n
theorem okUpto_at : ∀ {n : Nat}, okUpto n = true → ∀ q, q < n → ∀ s, okAt s q = true
  | 0, _, q, hq, _ => absurd hq (Nat.not_lt_zero _)
  | n + 1, h, q, hq, s => by
    have h' : (okAt true n && okAt false n && okUpto n) = true := h
    simp only [Bool.and_eq_true] at h'
    by_cases e : q = n
    · subst e; cases s; exact h'.1.2; exact h'.1.1
    · exact okUpto_at h'.2 q (by omega) s
theorem ok2001 : okUpto 2001 = true := by kernel_rfl
theorem read_nearest {s : Bool} {q : Nat} (hq : q ≤ 2000) : ∃ m i, double.read (double.nearest s q 0) = .number s m i ∧ i ≤ 0 ∧ m = q * 2 ^ (-i).toNat := by
  have h := okUpto_at ok2001 q (by omega) s
  unfold okAt at h
  split at h
  · rename_i s' m i hr
    simp only [Bool.and_eq_true, beq_iff_eq, decide_eq_true_eq] at h
    obtain ⟨⟨rfl, h1⟩, h2⟩ := h
    exact ⟨m, i, hr, h1, h2⟩
  · cases h
theorem wh_nearest {s : Bool} {q : Nat} (hq : q ≤ 2000) : Wh (double.nearest s q 0) (signed s q 0) := by
  obtain ⟨m, i, hr, hi, rfl⟩ := read_nearest (s := s) hq
  refine ⟨s, _, i, hr, hi, ?_⟩
  cases s <;> simp [signed, Int.neg_mul]
theorem log2_mul (q k : Nat) (hq : 0 < q) : (q * 2 ^ k).log2 = q.log2 + k := by
  induction k with
  | zero => simp
  | succ k ih =>
    rw [Nat.pow_succ, ← Nat.mul_assoc, Nat.log2_def, if_pos (by have := Nat.mul_le_mul hq (Nat.two_pow_pos k); omega), Nat.mul_div_cancel _ (by decide), ih]
    omega
theorem cut_zero (s : Bool) (n d : Nat) : Toward.zero.cut s n d = n / 2 ^ d := by
  unfold Toward.cut
  simp only [Bool.toNat_false, Nat.add_zero, Nat.shiftLeft_eq, Nat.one_mul]
  by_cases h : d ≤ n.log2 + 2
  · rw [Nat.min_eq_left h]
  · rw [Nat.min_eq_right (by omega), Nat.div_eq_of_lt, Nat.div_eq_of_lt]
    · have := @Nat.lt_log2_self n
      exact Nat.lt_of_lt_of_le this (Nat.pow_le_pow_right (by decide) (by omega))
    · have := @Nat.lt_log2_self n
      exact Nat.lt_of_lt_of_le this (Nat.pow_le_pow_right (by decide) (by omega))
theorem cut_even (s : Bool) (a d : Nat) (ha : 0 < a) : Toward.even.cut s (a * 2 ^ d) d = a := by
  unfold Toward.cut
  have hp : 0 < 2 ^ d := Nat.two_pow_pos _
  simp only [log2_mul a d ha, Nat.min_eq_left (show d ≤ a.log2 + d + 2 by omega), Nat.shiftLeft_eq, Nat.one_mul, Nat.mul_div_cancel _ hp, Nat.mul_mod_left]
  have h1 : decide (2 ^ d < 2 * 0) = false := by simp
  have h2 : (2 ^ d == 2 * 0) = false := by simp
  simp [h1, h2]
theorem nearest_scale (s : Bool) (q k : Nat) (hq : q < 2 ^ 52) : double.nearest s (q * 2 ^ k) (-(k : Int)) = double.nearest s q 0 := by
  unfold Format.nearest
  by_cases h0 : q = 0
  · subst h0; simp
  · have hp : 0 < 2 ^ k := Nat.two_pow_pos _
    have h1 : ¬ q * 2 ^ k = 0 := by
      intro h; rcases Nat.mul_eq_zero.1 h with h | h <;> omega
    have hl : q.log2 < 52 := (Nat.log2_lt h0).2 hq
    rw [if_neg h0, if_neg h1, log2_mul q k (by omega)]
    have e1 : (-(k : Int) + ((q.log2 + k : Nat) : Int) - (double.fractionBits : Nat)) = (0 + (q.log2 : Int) - (double.fractionBits : Nat)) := by omega
    rw [e1]
    have e2 : max (0 + (q.log2 : Int) - (double.fractionBits : Nat)) double.leastPlace = (q.log2 : Int) - 52 := by
      have : double.leastPlace = -1074 := by kernel_rfl
      have h2 : (double.fractionBits : Nat) = 52 := rfl
      rw [this, h2]; omega
    rw [e2]
    have e3 : Toward.even.cut s (q <<< (0 - ((q.log2 : Int) - 52)).toNat) ((q.log2 : Int) - 52 - 0).toNat = q * 2 ^ (52 - q.log2) := by
      have a1 : ((q.log2 : Int) - 52 - 0).toNat = 0 := by omega
      have a2 : (0 - ((q.log2 : Int) - 52)).toNat = 52 - q.log2 := by omega
      rw [a1, a2, Nat.shiftLeft_eq]
      have := cut_even s (q * 2 ^ (52 - q.log2)) 0 (Nat.mul_pos (by omega) (Nat.two_pow_pos _))
      simpa using this
    have e4 : Toward.even.cut s ((q * 2 ^ k) <<< (-(k : Int) - ((q.log2 : Int) - 52)).toNat) ((q.log2 : Int) - 52 - -(k : Int)).toNat = q * 2 ^ (52 - q.log2) := by
      rw [Nat.shiftLeft_eq]
      by_cases hk : k ≤ 52 - q.log2
      · have a1 : ((q.log2 : Int) - 52 - -(k : Int)).toNat = 0 := by omega
        have a2 : (-(k : Int) - ((q.log2 : Int) - 52)).toNat = 52 - q.log2 - k := by omega
        rw [a1, a2, Nat.mul_assoc, ← Nat.pow_add, show k + (52 - q.log2 - k) = 52 - q.log2 by omega]
        have := cut_even s (q * 2 ^ (52 - q.log2)) 0 (Nat.mul_pos (by omega) (Nat.two_pow_pos _))
        simpa using this
      · have a1 : ((q.log2 : Int) - 52 - -(k : Int)).toNat = k - (52 - q.log2) := by omega
        have a2 : (-(k : Int) - ((q.log2 : Int) - 52)).toNat = 0 := by omega
        rw [a1, a2]
        have := cut_even s (q * 2 ^ (52 - q.log2)) (k - (52 - q.log2)) (Nat.mul_pos (by omega) (Nat.two_pow_pos _))
        rw [Nat.mul_assoc, ← Nat.pow_add, show 52 - q.log2 + (k - (52 - q.log2)) = k by omega] at this
        simpa using this
    simp only [e2]
    rw [e3, e4]
theorem Wh.toI {x : Nat} {v : Int} (h : Wh x v) : (double.read x).toInt .zero = some v := by
  obtain ⟨s, m, i, hr, hi, hs⟩ := h
  have hp : 0 < 2 ^ (-i).toNat := Nat.two_pow_pos _
  rw [hr]
  unfold Datum.toInt Datum.integral
  simp only [cut_zero]
  have hm : m = v.natAbs * 2 ^ (-i).toNat := by
    have := congrArg Int.natAbs hs
    rw [signed_abs, Int.natAbs_mul, Int.natAbs_natCast] at this
    exact this
  have h0 : i.toNat = 0 := by omega
  rw [h0, Nat.shiftLeft_zero, hm, Nat.mul_div_cancel _ hp]
  congr 1
  subst hm
  by_cases hv : v = 0
  · subst hv; cases s <;> rfl
  · have hq : (0 : Int) < (2 ^ (-i).toNat : Nat) := by exact_mod_cast hp
    generalize ((2 ^ (-i).toNat : Nat)) = g at *
    unfold signed at *
    simp only [Nat.shiftLeft_zero, Int.natCast_mul] at *
    cases s
    · simp only [Bool.false_eq_true, if_false] at *
      exact Int.eq_of_mul_eq_mul_right (by omega) hs
    · simp only [if_true] at *
      rw [← Int.neg_mul] at hs
      exact Int.eq_of_mul_eq_mul_right (by omega) hs
theorem Wh.toIV {x : Nat} {v : Int} (h : Wh x v) : toIV .f64 x = v := by
  unfold E.toIV FloatKind.decode
  show (((double.read x).toInt .zero).getD 0) = v
  rw [h.toI]; rfl
theorem Wh.toIOk {x : Nat} {v : Int} (h : Wh x v) (h1 : -2000 ≤ v) (h2 : v ≤ 2000) : toIOk .f64 x .i64 = true := by
  unfold E.toIOk FloatKind.decode
  show (match (double.read x).toInt .zero with | some n => decide (IntKind.i64.min ≤ n ∧ n ≤ IntKind.i64.max) | none => false) = true
  rw [h.toI]
  simp [IntKind.min, IntKind.max, IntKind.signed, IntKind.bits]
  omega
theorem Wh.uniq {x : Nat} {v w : Int} (h : Wh x v) (h' : Wh x w) : v = w := by
  have := h.toI; rw [h'.toI] at this; injection this with this; exact this.symm
theorem wh_sum {x y : Datum} {v w : Int} {s t m n i j} (hx : x = .number s m i) (hi : i ≤ 0) (hs : signed s m 0 = v * (2 ^ (-i).toNat : Nat)) (hy : y = .number t n j) (hj : j ≤ 0) (ht : signed t n 0 = w * (2 ^ (-j).toNat : Nat))
    (h1 : (v + w).natAbs ≤ 2000) : ∃ z, (x.sum y).map double.write = some z ∧ Wh z (v + w) := by
  subst hx hy
  have hb : ∃ k : Nat, min i j = -(k : Int) := ⟨(-(min i j)).toNat, by omega⟩
  obtain ⟨k, hk⟩ := hb
  have tot : signed s m (i - min i j).toNat + signed t n (j - min i j).toNat = (v + w) * (2 ^ k : Nat) := by
    rw [signed0 s m, signed0 t n, hs, ht, Int.mul_assoc, Int.mul_assoc, ← Int.natCast_mul, ← Int.natCast_mul, ← Nat.pow_add, ← Nat.pow_add, hk,
      show (-i).toNat + (i - -(k : Int)).toNat = k by omega, show (-j).toNat + (j - -(k : Int)).toNat = k by omega, Int.add_mul]
  unfold Datum.sum
  simp only [tot, Option.map_some]
  rw [hk]
  refine ⟨_, rfl, ?_⟩
  have ha : ((v + w) * (2 ^ k : Nat)).natAbs = (v + w).natAbs * 2 ^ k := by rw [Int.natAbs_mul, Int.natAbs_natCast]
  have hp : (0 : Int) < (2 ^ k : Nat) := by exact_mod_cast Nat.two_pow_pos k
  rw [ha]
  show Wh (double.nearest _ ((v + w).natAbs * 2 ^ k) (-(k : Int))) (v + w)
  rw [nearest_scale _ _ _ (Nat.lt_of_le_of_lt h1 (by decide))]
  have hneg : ((v + w) * (2 ^ k : Nat) < 0) ↔ v + w < 0 := by
    constructor
    · intro h; by_cases h' : v + w < 0
      · exact h'
      · have := Int.mul_nonneg (show 0 ≤ v + w by omega) (Int.le_of_lt hp); omega
    · intro h; exact Int.mul_neg_of_neg_of_pos h hp
  have hz : ((v + w) * (2 ^ k : Nat) = 0) ↔ v + w = 0 := by
    constructor
    · intro h; rcases Int.mul_eq_zero.1 h with h | h <;> omega
    · intro h; rw [h]; simp
  have := fun s => wh_nearest (s := s) h1
  by_cases h0 : v + w = 0
  · have e := this (s && t)
    rw [if_pos (hz.2 h0)]
    rw [h0] at e ⊢
    have e' : signed (s && t) (0 : Int).natAbs 0 = 0 := signed_zero _
    rw [e'] at e
    exact e
  · rw [if_neg (fun h => h0 (hz.1 h))]
    by_cases h2 : v + w < 0
    · have e := this true
      rw [decide_eq_true (hneg.2 h2)]
      have e' : signed true (v + w).natAbs 0 = v + w := by simp [signed]; omega
      rw [e'] at e; exact e
    · have e := this false
      rw [decide_eq_false (fun h => h2 (hneg.1 h))]
      have e' : signed false (v + w).natAbs 0 = v + w := by simp [signed]; omega
      rw [e'] at e; exact e
theorem wh_add {a b : Nat} {v w : Int} (ha : Wh a v) (hb : Wh b w) (h : (v + w).natAbs ≤ 2000) : arOk .add .f64 a b = true ∧ Wh (arV .add .f64 a b) (v + w) := by
  obtain ⟨s, m, i, hr, hi, hs⟩ := ha
  obtain ⟨t, n, j, hr', hj, ht⟩ := hb
  obtain ⟨z, hz, hw⟩ := wh_sum hr hi hs hr' hj ht h
  have e : FloatKind.f64.format.add a b = some z := hz
  unfold arOk arV
  simp only [e]
  exact ⟨rfl, hw⟩
theorem wh_sub {a b : Nat} {v w : Int} (ha : Wh a v) (hb : Wh b w) (h : (v - w).natAbs ≤ 2000) : arOk .sub .f64 a b = true ∧ Wh (arV .sub .f64 a b) (v - w) := by
  obtain ⟨s, m, i, hr, hi, hs⟩ := ha
  obtain ⟨t, n, j, hr', hj, ht⟩ := hb
  have ho : (double.read b).opposite = .number (!t) n j := by rw [hr']; rfl
  have ht' : signed (!t) n 0 = (-w) * (2 ^ (-j).toNat : Nat) := by
    rw [Int.neg_mul, ← ht]; cases t <;> simp [signed]
  obtain ⟨z, hz, hw⟩ := wh_sum hr hi hs ho hj ht' (by rw [← Int.sub_eq_add_neg]; exact h)
  rw [← Int.sub_eq_add_neg] at hw
  have e : FloatKind.f64.format.sub a b = some z := hz
  unfold arOk arV
  simp only [e]
  exact ⟨rfl, hw⟩
theorem eq_wh {x y : Nat} {s : Bool} {m : Nat} {i v : Int} (hx : double.read x = .number s m i) (hi : i ≤ 0) (hy : Wh y v) :
    (eqFl .f64 x y = true ↔ signed s m 0 = v * (2 ^ (-i).toNat : Nat)) ∧ (eqFl .f64 y x = true ↔ signed s m 0 = v * (2 ^ (-i).toNat : Nat)) := by
  obtain ⟨t, n, j, hr, hj, ht⟩ := hy
  have hb : ∃ k : Nat, min i j = -(k : Int) := ⟨(-(min i j)).toNat, by omega⟩
  obtain ⟨k, hk⟩ := hb
  have key : signed s m (i - -(k : Int)).toNat = signed t n (j - -(k : Int)).toNat ↔ signed s m 0 = v * (2 ^ (-i).toNat : Nat) := by
    rw [signed0 s m, signed0 t n, ht, Int.mul_assoc, ← Int.natCast_mul, ← Nat.pow_add, show (-j).toNat + (j - -(k : Int)).toNat = (-i).toNat + (i - -(k : Int)).toNat by omega, Nat.pow_add, Int.natCast_mul, ← Int.mul_assoc]
    constructor
    · intro h
      exact Int.eq_of_mul_eq_mul_right (by have := Nat.two_pow_pos (i - -(k : Int)).toNat; omega) h
    · intro h; rw [h]
  have cmp : ∀ a b : Int, ((some (compare a b) == some Ordering.eq) = true ↔ a = b) := by
    intro a b
    rw [beq_iff_eq]
    constructor
    · intro h; injection h with h; exact Int.compare_eq_eq.1 h
    · rintro rfl; rw [Int.compare_eq_eq.2 rfl]
  unfold eqFl
  show (((double.read x).order (double.read y) == some .eq) = true ↔ _) ∧ (((double.read y).order (double.read x) == some .eq) = true ↔ _)
  rw [hx, hr]
  unfold Datum.order
  simp only
  rw [cmp, cmp, Int.min_comm j i, hk]
  exact ⟨key, eq_comm.trans key⟩
theorem Wh.self {x : Nat} {v : Int} (h : Wh x v) : eqFl .f64 x x = true := by
  obtain ⟨s, m, i, hr, hi, hs⟩ := h
  exact (eq_wh hr hi ⟨s, m, i, hr, hi, hs⟩).1.2 hs
theorem read_place {x : Nat} {s : Bool} {m : Nat} {i : Int} (h : double.read x = .number s m i) : i ≤ 0 ∨ 2 ^ 52 ≤ m := by
  unfold Format.read at h
  simp only at h
  split at h
  · injection h with _ _ h
    left
    rw [← h]
    have : double.leastPlace = -1074 := by kernel_rfl
    omega
  · split at h
    · injection h with _ h _
      right
      rw [← h]
      have : double.binade = 2 ^ 52 := rfl
      omega
    · split at h <;> cases h
/-- from -1000 on to 1000 -/
def cm : Nat := double.nearest true 1000 0
def cp : Nat := double.nearest false 1000 0
theorem read_cm : double.read cm = .number true 8796093022208000 (-43) := by kernel_rfl
theorem read_cp : double.read cp = .number false 8796093022208000 (-43) := by kernel_rfl
theorem order_inf {s : Bool} {x : Nat} (h : double.read x = .infinity s) : (gtFl .f64 x cm || eqFl .f64 x cm) = false ∨ (ltFl .f64 x cp || eqFl .f64 x cp) = false := by
  unfold gtFl eqFl ltFl
  show (((double.read x).order (double.read cm) == some .gt || (double.read x).order (double.read cm) == some .eq) = false) ∨ (((double.read x).order (double.read cp) == some .lt || (double.read x).order (double.read cp) == some .eq) = false)
  rw [h, read_cm, read_cp]
  cases s
  · right; rfl
  · left; rfl
theorem order_nan {s : Bool} {f x : Nat} (h : double.read x = .nan s f) : (gtFl .f64 x cm || eqFl .f64 x cm) = false := by
  unfold gtFl eqFl
  show ((double.read x).order (double.read cm) == some .gt || (double.read x).order (double.read cm) == some .eq) = false
  rw [h]; rfl
theorem order_num (s t : Bool) (m n : Nat) (i j : Int) : Datum.order (.number s m i) (.number t n j) = some (compare (signed s m (i - min i j).toNat) (signed t n (j - min i j).toNat)) := rfl
theorem sgn_le {s : Bool} {m k M : Nat} (h1 : -(M : Int) ≤ signed s m k) (h2 : signed s m k ≤ (M : Int)) : m * 2 ^ k ≤ M := by
  unfold signed at h1 h2
  rw [Nat.shiftLeft_eq] at h1 h2
  generalize m * 2 ^ k = z at *
  cases s
  · simp only [Bool.false_eq_true, if_false] at h2; omega
  · simp only [if_true] at h1; omega
theorem cmp_ge {a b : Int} (h : (some (compare a b) == some Ordering.gt || some (compare a b) == some Ordering.eq) = true) : b ≤ a := by
  simp only [Bool.or_eq_true, beq_iff_eq, Option.some.injEq] at h
  rcases h with h | h
  · rw [Int.compare_eq_gt] at h; exact Int.le_of_lt h
  · rw [Int.compare_eq_eq] at h; exact Int.le_of_eq h.symm
theorem cmp_le {a b : Int} (h : (some (compare a b) == some Ordering.lt || some (compare a b) == some Ordering.eq) = true) : a ≤ b := by
  simp only [Bool.or_eq_true, beq_iff_eq, Option.some.injEq] at h
  rcases h with h | h
  · rw [Int.compare_eq_lt] at h; exact Int.le_of_lt h
  · rw [Int.compare_eq_eq] at h; exact Int.le_of_eq h
theorem in_range {x : Nat} (h1 : (gtFl .f64 x cm || eqFl .f64 x cm) = true) (h2 : (ltFl .f64 x cp || eqFl .f64 x cp) = true) :
    ∃ s m i, double.read x = .number s m i ∧ i ≤ 0 ∧ m ≤ 1000 * 2 ^ (-i).toNat := by
  cases hx : double.read x with
  | nan s f => rw [order_nan hx] at h1; cases h1
  | infinity s => rcases order_inf hx with h | h; rw [h] at h1; cases h1; rw [h] at h2; cases h2
  | number s m i =>
    have h1' : ((double.read x).order (double.read cm) == some .gt || (double.read x).order (double.read cm) == some .eq) = true := h1
    have h2' : ((double.read x).order (double.read cp) == some .lt || (double.read x).order (double.read cp) == some .eq) = true := h2
    rw [hx, read_cm, order_num, signed0 true] at h1'
    rw [hx, read_cp, order_num, signed0 false] at h2'
    have e1 : signed true 8796093022208000 0 = -((8796093022208000 : Nat) : Int) := by kernel_rfl
    have e2 : signed false 8796093022208000 0 = ((8796093022208000 : Nat) : Int) := by kernel_rfl
    rw [e1] at h1'
    rw [e2] at h2'
    have a3 : m * 2 ^ (i - min i (-43)).toNat ≤ 8796093022208000 * 2 ^ (-43 - min i (-43)).toNat := by
      generalize (8796093022208000 : Nat) = M at *
      generalize (-43 - min i (-43)).toNat = k at *
      rw [Int.neg_mul] at h1'
      refine sgn_le (s := s) ?_ ?_
      · rw [Int.natCast_mul]; exact cmp_ge h1'
      · rw [Int.natCast_mul]; exact cmp_le h2'
    clear h1' h2' e1 e2
    obtain ⟨M, hM⟩ : ∃ M : Nat, M = 8796093022208000 := ⟨_, rfl⟩
    have hM' : M = 1000 * 2 ^ 43 := by rw [hM]
    rw [← hM] at a3
    clear hM
    have hi : i ≤ 0 := by
      rcases read_place hx with h | h
      · exact h
      · apply Classical.byContradiction
        intro hi
        have e1 : (-43 - min i (-43)).toNat = 0 := by omega
        have e2 : (i - min i (-43)).toNat = i.toNat + 43 := by omega
        rw [e1, e2, Nat.pow_add] at a3
        have b1 : 1 ≤ 2 ^ i.toNat := Nat.two_pow_pos _
        have b2 : 2 ^ 52 * (1 * 2 ^ 43) ≤ m * (2 ^ i.toNat * 2 ^ 43) := Nat.mul_le_mul h (Nat.mul_le_mul b1 (Nat.le_refl _))
        have b3 := Nat.le_trans b2 a3
        rw [hM'] at b3
        exact absurd b3 (by decide)
    refine ⟨s, m, i, rfl, hi, ?_⟩
    by_cases h43 : i < -43
    · have e1 : (-43 - min i (-43)).toNat = (-i).toNat - 43 := by omega
      have e2 : (i - min i (-43)).toNat = 0 := by omega
      rw [e1, e2] at a3
      have e3 : (-i).toNat = 43 + ((-i).toNat - 43) := by omega
      rw [e3, Nat.pow_add, ← Nat.mul_assoc, ← hM']
      rwa [Nat.pow_zero, Nat.mul_one] at a3
    · have e1 : (-43 - min i (-43)).toNat = 0 := by omega
      have e2 : (i - min i (-43)).toNat = 43 - (-i).toNat := by omega
      rw [e1, e2, Nat.pow_zero, Nat.mul_one, hM'] at a3
      have b := Nat.mul_le_mul_right (2 ^ (-i).toNat) a3
      rw [Nat.mul_assoc, ← Nat.pow_add, show 43 - (-i).toNat + (-i).toNat = 43 by omega, Nat.mul_assoc, Nat.mul_comm (2 ^ 43), ← Nat.mul_assoc] at b
      exact Nat.le_of_mul_le_mul_right b (Nat.two_pow_pos 43)
/-- a number of that range, what it is cut to, and whether it is whole: both ways to ask -/
theorem range_ok {x : Nat} (h1 : (gtFl .f64 x cm || eqFl .f64 x cm) = true) (h2 : (ltFl .f64 x cp || eqFl .f64 x cp) = true) :
    toIOk .f64 x .i64 = true ∧ -1000 ≤ toIV .f64 x ∧ toIV .f64 x ≤ 1000 ∧ eqFl .f64 (ofI .f64 (toIV .f64 x)) x = eqFl .f64 x (trW x) ∧ (eqFl .f64 x (trW x) = true → Wh x (toIV .f64 x)) := by
  obtain ⟨s, m, i, hx, hi, hm⟩ := in_range h1 h2
  have hq : m / 2 ^ (-i).toNat ≤ 1000 := by
    have := Nat.div_le_div_right (c := 2 ^ (-i).toNat) hm
    rwa [Nat.mul_div_cancel _ (Nat.two_pow_pos _)] at this
  have hint : (double.read x).integral .zero = .number s (m / 2 ^ (-i).toNat) 0 := by
    rw [hx]; unfold Datum.integral; simp only [cut_zero]; rw [show i.toNat = 0 by omega, Nat.shiftLeft_zero]
  generalize m / 2 ^ (-i).toNat = q at hq hint
  have ht : (double.read x).toInt .zero = some (signed s q 0) := by unfold Datum.toInt; rw [hint]
  have hv : toIV .f64 x = signed s q 0 := by
    unfold E.toIV FloatKind.decode
    show (((double.read x).toInt .zero).getD 0) = _
    rw [ht]; rfl
  have hb : -1000 ≤ signed s q 0 ∧ signed s q 0 ≤ 1000 := by
    unfold signed; simp only [Nat.shiftLeft_zero]; split <;> omega
  have w1 : Wh (trW x) (signed s q 0) := by unfold trW; rw [hint]; exact wh_nearest (by omega)
  have w2 : Wh (ofI .f64 (signed s q 0)) (signed s q 0) := by
    unfold ofI FloatKind.nearest
    have := wh_nearest (s := decide (signed s q 0 < 0)) (q := (signed s q 0).natAbs) (by omega)
    have e : signed (decide (signed s q 0 < 0)) (signed s q 0).natAbs 0 = signed s q 0 := by
      generalize signed s q 0 = v
      by_cases h : v < 0
      · rw [decide_eq_true h]; simp [signed]; omega
      · rw [decide_eq_false h]; simp [signed]; omega
    rw [e] at this
    exact this
  rw [hv]
  refine ⟨?_, hb.1, hb.2, ?_, ?_⟩
  · unfold E.toIOk FloatKind.decode
    show (match (double.read x).toInt .zero with | some n => decide (IntKind.i64.min ≤ n ∧ n ≤ IntKind.i64.max) | none => false) = true
    rw [ht]
    simp [IntKind.min, IntKind.max, IntKind.signed, IntKind.bits]
    omega
  · rw [Bool.eq_iff_iff, (eq_wh hx hi w2).2, (eq_wh hx hi w1).1]
  · intro h
    exact ⟨s, m, i, hx, hi, (eq_wh hx hi w1).1.1 h⟩
/-- a whole number from -1000 to 1000, as the program asks -/
def isW (x : Nat) : Bool := (gtFl .f64 x cm || eqFl .f64 x cm) && ((ltFl .f64 x cp || eqFl .f64 x cp) && eqFl .f64 x (trW x))
theorem isW_ok {x : Nat} (h : isW x = true) : Wh x (toIV .f64 x) ∧ -1000 ≤ toIV .f64 x ∧ toIV .f64 x ≤ 1000 ∧ toIOk .f64 x .i64 = true := by
  unfold isW at h
  simp only [Bool.and_eq_true] at h
  obtain ⟨h1, h2, h3⟩ := h
  obtain ⟨a, b, c, d, e⟩ := range_ok h1 h2
  exact ⟨e h3, b, c, a⟩
end Go.Proofs.Ytaiedakbmmgmaaa.E
