/- Seals, and what is open. -/
import Derived.Test.YtjapbanelfcjhaaCode
set_option linter.unusedVariables false
set_option linter.unusedSimpArgs false
set_option maxRecDepth 100000
namespace Go.Proofs.Ytjapbanelfcjhaa.C
open Go E N
def tail4 (s : Nat) : List Nat := [s % 256, s / 256 % 256, s / 65536 % 256, s / 16777216 % 256]
def sealN (xs : List Nat) : List Nat := xs ++ tail4 (sumN xs)
theorem wr8 (n : Nat) : wr .u8 (n : Int) = ((n % 256 : Nat) : Int) := by
  unfold wr IntKind.wrap
  simp [IntKind.signed, IntKind.bits]
theorem shr8 (a : Nat) : shrI .u32 (a : Int) 8 = ((a / 256 : Nat) : Int) := by
  unfold shrI; simp [IntKind.bits]; rw [Int.fdiv_eq_ediv_of_nonneg _ (by decide)]
theorem shr16 (a : Nat) : shrI .u32 (a : Int) 16 = ((a / 65536 : Nat) : Int) := by
  unfold shrI; simp [IntKind.bits]; rw [Int.fdiv_eq_ediv_of_nonneg _ (by decide)]
theorem shr24 (a : Nat) : shrI .u32 (a : Int) 24 = ((a / 16777216 : Nat) : Int) := by
  unfold shrI; simp [IntKind.bits]; rw [Int.fdiv_eq_ediv_of_nonneg _ (by decide)]
theorem tdiv256 (a : Nat) : tdivI (a : Int) 256 = ((a / 256 : Nat) : Int) := by
  unfold tdivI; rw [Int.tdiv_eq_ediv_of_nonneg (by omega)]; omega
theorem tmod256 (a : Nat) : tmodI (a : Int) 256 = ((a % 256 : Nat) : Int) := by
  unfold tmodI; rw [Int.tmod_eq_emod_of_nonneg (by omega)]; omega
theorem tail_lt {s : Nat} : ∀ x ∈ tail4 s, x < 256 := by
  intro x hx
  simp [tail4] at hx
  omega
theorem seal_lt {xs : List Nat} (h : ∀ x ∈ xs, x < 256) : ∀ x ∈ sealN xs, x < 256 := fun x hx => by
  rcases List.mem_append.1 hx with h' | h'
  · exact h x h'
  · exact tail_lt x h'
theorem seal_len (xs : List Nat) : (sealN xs).length = xs.length + 4 := by simp [sealN, tail4]
theorem lcat {a : List (List PC)} {c : PC} {n : Nat} (h : a.length ≤ n) : (catL a [[c]]).length ≤ n + 1 := by unfold catL; simp; exact h
theorem rm1 {a : List (List PC)} {c : Int} {n : Nat} (h : a.length ≤ n) (hn : n ≤ 50000) : (roomFor a [[.v (.int .u8 c)]] 1 && rowsOk [[.v (.int .u8 c)]] 1 && (Nat.beq 1 1 || Nat.beq 1 0)) = true :=
  and3 (room1 (by simp; omega)) rfl rfl
section
variable {X : Task → Prop} (hX : Closed X) {Q : A → List Blk → Prop} {c : PC} {xs : List Nat}
include hX
theorem seal_ok (hc : BytesP c xs) (hl : xs.length ≤ 20000) (hQ : Q (sl (bs (sealN xs))) []) : X (.call 70 [.one (.p c)] [] Q) := by
  have hc' := hc
  obtain ⟨hc, hb⟩ := hc
  have g1 : (roomFor [] (bs xs) 1 && rowsOk (bs xs) 1 && (Nat.beq 1 1 || Nat.beq 1 0)) = true := room_bs (xs := []) (by simp; omega)
  have g2 : ∀ a b c d : PC, (roomFor (catL [] (bs xs)) [[a], [b], [c], [d]] 1 && rowsOk [[a], [b], [c], [d]] 1 && (Nat.beq 1 1 || Nat.beq 1 0)) = true := fun a b c d => and3 (room1 (by show ([] ++ bs xs).length + 4 ≤ _; simp; omega)) rfl rfl
  refine call_intro hX Try.func70 rfl rfl ?_
  have fin : ∀ l, l = catL (catL [] (bs xs)) [[.v (.int .u8 (wr .u8 (sumN xs : Int)))], [.v (.int .u8 (wr .u8 (shrI .u32 (sumN xs : Int) 8)))], [.v (.int .u8 (wr .u8 (shrI .u32 (sumN xs : Int) 16)))], [.v (.int .u8 (wr .u8 (shrI .u32 (sumN xs : Int) 24)))]] → Q (sl l) [] := fun l hl => by
    refine Qa hQ ?_
    rw [hl, shr8, shr16, shr24, wr8, wr8, wr8, wr8]
    exact congrArg sl (cat_bs xs (tail4 (sumN xs)))
  rcases hc with rfl | ⟨rfl, rfl⟩
  all_goals
    repeat' ((conv => whnf); first | exact fin _ rfl | refine ⟨by kernel_rfl, ?_⟩ | refine sum_ok hX hc' hl ?_ | refine bct (by assumption) ?_ | refine bcf (by assumption) ?_ | refine bct (g2 _ _ _ _) ?_)
theorem rseal_ok (hc : BytesP c xs) (hl : xs.length ≤ 20000) (hQ : Q (sl (bs (sealN xs))) []) : X (.call 71 [.one (.p c)] [] Q) := by
  have hc' := hc
  obtain ⟨hc, hb⟩ := hc
  have g1 : (roomFor [] (bs xs) 1 && rowsOk (bs xs) 1 && (Nat.beq 1 1 || Nat.beq 1 0)) = true := room_bs (xs := []) (by simp; omega)
  have l0 : (catL [] (bs xs)).length ≤ 20000 := by show ([] ++ bs xs).length ≤ _; simp; exact hl
  have hs := sum_lt hb
  refine call_intro hX Try.func71 rfl rfl ?_
  have fin : ∀ l, l = catL (catL (catL (catL (catL [] (bs xs)) [[.v (.int .u8 (wr .u8 (tmodI (sumN xs : Int) 256)))]]) [[.v (.int .u8 (wr .u8 (tmodI (wr .u32 (tdivI (sumN xs : Int) 256)) 256)))]]) [[.v (.int .u8 (wr .u8 (tmodI (wr .u32 (tdivI (wr .u32 (tdivI (sumN xs : Int) 256)) 256)) 256)))]]) [[.v (.int .u8 (wr .u8 (tmodI (wr .u32 (tdivI (wr .u32 (tdivI (wr .u32 (tdivI (sumN xs : Int) 256)) 256)) 256)) 256)))]] → Q (sl l) [] := fun l hl => by
    refine Qa hQ ?_
    rw [hl, tdiv256, wr32 (by omega), tdiv256, wr32 (by omega), tdiv256, wr32 (by omega), tmod256, tmod256, tmod256, tmod256, wr8, wr8, wr8, wr8]
    refine congrArg sl ?_
    unfold sealN tail4 catL
    simp [bRow, Nat.div_div_eq_div_mul]
  rcases hc with rfl | ⟨rfl, rfl⟩
  all_goals
    repeat' ((conv => whnf); first
      | exact fin _ rfl | refine ⟨by kernel_rfl, ?_⟩ | refine rsum_ok hX hc' hl ?_ | refine bct (by assumption) ?_ | refine bcf (by assumption) ?_
      | refine bct (rm1 l0 (by omega)) ?_ | refine bct (rm1 (lcat l0) (by omega)) ?_ | refine bct (rm1 (lcat (lcat l0)) (by omega)) ?_ | refine bct (rm1 (lcat (lcat (lcat l0))) (by omega)) ?_ | refine loop_intro hX ?_)
end
end Go.Proofs.Ytjapbanelfcjhaa.C
