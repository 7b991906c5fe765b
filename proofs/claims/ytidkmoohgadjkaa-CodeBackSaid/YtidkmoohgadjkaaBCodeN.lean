/- Sums over a row of bytes, as plain numbers. -/
import Derived.Test.YtidkmoohgadjkaaBEvA
set_option linter.unusedVariables false
set_option linter.unusedSimpArgs false
set_option maxRecDepth 100000
set_option maxHeartbeats 4000000
namespace Go.Proofs.Ytidkmoohgadjkaa.N
open Go E
def poly : Nat := 3988292384
def stepN (s : Nat) : Nat := if s % 2 = 1 then (s / 2) ^^^ poly else s / 2
def iter : Nat → Nat → Nat
  | 0, s => s
  | m + 1, s => iter m (stepN s)
def crc : Nat → List Nat → Nat
  | s, [] => s
  | s, x :: xs => crc (iter 8 (s ^^^ x)) xs
def sumN (xs : List Nat) : Nat := 4294967295 ^^^ crc 4294967295 xs
theorem xor_lt {a b : Nat} (ha : a < 2 ^ 32) (hb : b < 2 ^ 32) : a ^^^ b < 2 ^ 32 := Nat.xor_lt_two_pow ha hb
theorem step_lt {s : Nat} (h : s < 2 ^ 32) : stepN s < 2 ^ 32 := by
  unfold stepN
  split
  · exact xor_lt (by omega) (by decide)
  · omega
theorem iter_lt : ∀ (m : Nat) {s : Nat}, s < 2 ^ 32 → iter m s < 2 ^ 32
  | 0, _, h => h
  | m + 1, _, h => iter_lt m (step_lt h)
theorem wrap32 {n : Nat} (h : n < 2 ^ 32) : IntKind.wrap .u32 (n : Int) = (n : Int) := by
  unfold IntKind.wrap
  simp [IntKind.signed, IntKind.bits]
  omega
theorem of32 {n : Nat} (h : n < 2 ^ 32) : (BitVec.ofInt 32 (n : Int)).toNat = n := by
  rw [BitVec.ofInt_natCast, BitVec.toNat_ofNat, Nat.mod_eq_of_lt h]
theorem bxor {a b : Nat} (ha : a < 2 ^ 32) (hb : b < 2 ^ 32) : bitsI .xor .u32 (a : Int) (b : Int) = ((a ^^^ b : Nat) : Int) := by
  show IntKind.wrap .u32 (((BitVec.ofInt 32 (a : Int) ^^^ BitVec.ofInt 32 (b : Int)).toNat : Nat) : Int) = _
  rw [BitVec.toNat_xor, of32 ha, of32 hb, wrap32 (xor_lt ha hb)]
theorem band1 {a : Nat} (ha : a < 2 ^ 32) : bitsI .and .u32 (a : Int) 1 = ((a % 2 : Nat) : Int) := by
  show IntKind.wrap .u32 (((BitVec.ofInt 32 (a : Int) &&& BitVec.ofInt 32 ((1 : Nat) : Int)).toNat : Nat) : Int) = _
  rw [BitVec.toNat_and, of32 ha, of32 (by decide), Nat.and_one_is_mod, wrap32 (by omega)]
theorem shr1 {a : Nat} : shrI .u32 (a : Int) 1 = ((a / 2 : Nat) : Int) := by
  unfold shrI
  simp [IntKind.bits]
  rw [Int.fdiv_eq_ediv_of_nonneg _ (by decide)]
theorem tdiv2 {a : Nat} : tdivI (a : Int) 2 = ((a / 2 : Nat) : Int) := by
  unfold tdivI
  rw [Int.tdiv_eq_ediv_of_nonneg (by omega)]
  omega
theorem tmod2 {a : Nat} : tmodI (a : Int) 2 = ((a % 2 : Nat) : Int) := by
  unfold tmodI
  rw [Int.tmod_eq_emod_of_nonneg (by omega)]
  omega
theorem wr32 {n : Nat} (h : n < 2 ^ 32) : wr .u32 (n : Int) = (n : Int) := wrap32 h
end Go.Proofs.Ytidkmoohgadjkaa.N
