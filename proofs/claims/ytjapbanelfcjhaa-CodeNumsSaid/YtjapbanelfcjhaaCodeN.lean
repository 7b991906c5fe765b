/- The sum: plain arithmetic. -/
import Derived.Test.YtjapbanelfcjhaaEvTac
set_option linter.unusedVariables false
set_option linter.unusedSimpArgs false
namespace Go.Proofs.Ytjapbanelfcjhaa.N
open Go E
def poly : Nat := 3988292384
def stepN (s : Nat) : Nat := if s % 2 = 1 then (s / 2) ^^^ poly else s / 2
def iter : Nat → Nat → Nat
  | 0, s => s
  | m + 1, s => iter m (stepN s)
def crc : Nat → List Nat → Nat
  | s, [] => s
  | s, x :: xs => crc (iter 8 (s ^^^ x)) xs
def sumN (xs : List Nat) : Nat := 4294967295 ^^^ crc 4294967295 xs
theorem xor_lt {a b : Nat} (ha : a < 2 ^ 32) (hb : b < 2 ^ 32) : a ^^^ b < 2 ^ 32 := Nat.xor_lt_two_pow ha hb
theorem step_lt {s : Nat} (h : s < 2 ^ 32) : stepN s < 2 ^ 32 := by
  unfold stepN
  split
  · exact xor_lt (by omega) (by decide)
  · omega
theorem iter_lt : ∀ (m : Nat) {s : Nat}, s < 2 ^ 32 → iter m s < 2 ^ 32
  | 0, _, h => h
  | m + 1, _, h => iter_lt m (step_lt h)
theorem crc_lt : ∀ (xs : List Nat) {s : Nat}, s < 2 ^ 32 → (∀ x ∈ xs, x < 256) → crc s xs < 2 ^ 32
  | [], _, h, _ => h
  | x :: xs, s, h, hx => crc_lt xs (iter_lt 8 (xor_lt h (by have := hx x (by simp); omega))) fun y hy => hx y (by simp [hy])
theorem sum_lt {xs : List Nat} (hx : ∀ x ∈ xs, x < 256) : sumN xs < 2 ^ 32 := xor_lt (by decide) (crc_lt xs (by decide) hx)
/-! how the walk writes it -/
theorem wrap32 {n : Nat} (h : n < 2 ^ 32) : IntKind.wrap .u32 (n : Int) = (n : Int) := by
  unfold IntKind.wrap
  simp [IntKind.signed, IntKind.bits]
  omega
theorem of32 {n : Nat} (h : n < 2 ^ 32) : (BitVec.ofInt 32 (n : Int)).toNat = n := by
  rw [BitVec.ofInt_natCast, BitVec.toNat_ofNat, Nat.mod_eq_of_lt h]
theorem bxor {a b : Nat} (ha : a < 2 ^ 32) (hb : b < 2 ^ 32) : bitsI .xor .u32 (a : Int) (b : Int) = ((a ^^^ b : Nat) : Int) := by
  show IntKind.wrap .u32 (((BitVec.ofInt 32 (a : Int) ^^^ BitVec.ofInt 32 (b : Int)).toNat : Nat) : Int) = _
  rw [BitVec.toNat_xor, of32 ha, of32 hb, wrap32 (xor_lt ha hb)]
theorem band1 {a : Nat} (ha : a < 2 ^ 32) : bitsI .and .u32 (a : Int) 1 = ((a % 2 : Nat) : Int) := by
  show IntKind.wrap .u32 (((BitVec.ofInt 32 (a : Int) &&& BitVec.ofInt 32 ((1 : Nat) : Int)).toNat : Nat) : Int) = _
  rw [BitVec.toNat_and, of32 ha, of32 (by decide), Nat.and_one_is_mod, wrap32 (by omega)]
theorem shr1 {a : Nat} : shrI .u32 (a : Int) 1 = ((a / 2 : Nat) : Int) := by
  unfold shrI
  simp [IntKind.bits]
  rw [Int.fdiv_eq_ediv_of_nonneg _ (by decide)]
theorem tdiv2 {a : Nat} : tdivI (a : Int) 2 = ((a / 2 : Nat) : Int) := by
  unfold tdivI
  rw [Int.tdiv_eq_ediv_of_nonneg (by omega)]
  omega
theorem tmod2 {a : Nat} : tmodI (a : Int) 2 = ((a % 2 : Nat) : Int) := by
  unfold tmodI
  rw [Int.tmod_eq_emod_of_nonneg (by omega)]
  omega
theorem wr32 {n : Nat} (h : n < 2 ^ 32) : wr .u32 (n : Int) = (n : Int) := wrap32 h
/-! one byte turned -/
theorem xor_cancel {a b c : Nat} (h : a ^^^ c = b ^^^ c) : a = b := by
  have := congrArg (· ^^^ c) h
  simpa [Nat.xor_assoc, Nat.xor_self] using this
theorem top_xor {a : Nat} (ha : a < 2 ^ 31) : (a ^^^ poly).testBit 31 = true := by
  rw [Nat.testBit_xor, Nat.testBit_lt_two_pow ha]
  decide
theorem step_inj {a b : Nat} (ha : a < 2 ^ 32) (hb : b < 2 ^ 32) (h : stepN a = stepN b) : a = b := by
  unfold stepN at h
  have t : ∀ {x : Nat}, x < 2 ^ 32 → (x / 2).testBit 31 = false := fun {x} hx => Nat.testBit_lt_two_pow (by omega)
  split at h <;> split at h
  · have := xor_cancel h; omega
  · have h2 := congrArg (·.testBit 31) h
    simp only [top_xor (show a / 2 < 2 ^ 31 by omega), t hb] at h2
    cases h2
  · have h2 := congrArg (·.testBit 31) h
    simp only [top_xor (show b / 2 < 2 ^ 31 by omega), t ha] at h2
    cases h2
  · omega
theorem iter_inj : ∀ (m : Nat) {a b : Nat}, a < 2 ^ 32 → b < 2 ^ 32 → iter m a = iter m b → a = b
  | 0, _, _, _, _, h => h
  | m + 1, _, _, ha, hb, h => step_inj ha hb (iter_inj m (step_lt ha) (step_lt hb) h)
theorem crc_inj : ∀ (xs : List Nat) {a b : Nat}, a < 2 ^ 32 → b < 2 ^ 32 → (∀ x ∈ xs, x < 256) → crc a xs = crc b xs → a = b
  | [], _, _, _, _, _, h => h
  | x :: xs, a, b, ha, hb, hx, h => by
    have hx' := hx x (by simp)
    exact xor_cancel (iter_inj 8 (xor_lt ha (by omega)) (xor_lt hb (by omega)) (crc_inj xs (iter_lt 8 (xor_lt ha (by omega))) (iter_lt 8 (xor_lt hb (by omega))) (fun y hy => hx y (by simp [hy])) h))
theorem crc_set : ∀ (xs : List Nat) {s : Nat} (i y : Nat), s < 2 ^ 32 → (∀ x ∈ xs, x < 256) → y < 256 → i < xs.length → crc s (xs.set i y) = crc s xs → xs[i]? = some y
  | [], _, _, _, _, _, _, hi, _ => by simp at hi
  | x :: xs, s, 0, y, hs, hx, hy, _, h => by
    have hx' := hx x (by simp)
    have h1 := crc_inj xs (iter_lt 8 (xor_lt hs (by omega))) (iter_lt 8 (xor_lt hs (by omega))) (fun z hz => hx z (by simp [hz])) h
    have h2 := iter_inj 8 (xor_lt hs (by omega)) (xor_lt hs (by omega)) h1
    rw [Nat.xor_comm, Nat.xor_comm s x] at h2
    rw [xor_cancel h2]; rfl
  | x :: xs, s, i + 1, y, hs, hx, hy, hi, h => by
    have hx' := hx x (by simp)
    simpa using crc_set xs i y (iter_lt 8 (xor_lt hs (by omega))) (fun z hz => hx z (by simp [hz])) hy (by simpa using hi) h
theorem sum_set {xs : List Nat} {i y : Nat} (hx : ∀ x ∈ xs, x < 256) (hy : y < 256) (hi : i < xs.length) (h : sumN (xs.set i y) = sumN xs) : xs[i]? = some y := by
  unfold sumN at h
  rw [Nat.xor_comm, Nat.xor_comm 4294967295] at h
  exact crc_set xs i y (by decide) hx hy hi (xor_cancel h)
end Go.Proofs.Ytjapbanelfcjhaa.N
