/- The number with which bytes begin. -/
import Derived.Test.YtjapbanelfcjhaaCode7
set_option linter.unusedVariables false
set_option linter.unusedSimpArgs false
set_option maxRecDepth 100000
namespace Go.Proofs.Ytjapbanelfcjhaa.C
open Go E N
theorem rest_gen {X : Task → Prop} {f m : Nat} {c : Code} {K : Ex → List A → List Blk → Prop} {ST : Type} (T' : ST → List A) (S' : ST → List Blk) (I : ST → Prop) (μ : ST → Nat)
    (hstep : ∀ st, I st → (∀ st', I st' → μ st' < μ st → X (.rest f m c (T' st') (S' st') K)) → X (.rest f m c (T' st) (S' st) K)) (st0 : ST) (h0 : I st0) : X (.rest f m c (T' st0) (S' st0) K) := by
  have key : ∀ (n : Nat) (st : ST), μ st < n → I st → X (.rest f m c (T' st) (S' st) K) := by
    intro n
    induction n with
    | zero => intro st h; exact absurd h (Nat.not_lt_zero _)
    | succ n ih => intro st h hi; exact hstep st hi fun st' hi' hlt => ih st' (by omega) hi'
  exact key _ st0 (Nat.lt_succ_self _) h0
def getF (a j x : Nat) : Int × Int := if 4294967295 < a ∨ (x = 0 ∧ 1 < j) then (0, 0) else if a % 2 = 1 then (-((a / 2 : Nat) : Int) - 1, (j : Int)) else (((a / 2 : Nat) : Int), (j : Int))
def getN : Nat → Nat → Nat → List Nat → Int × Int
  | 0, _, _, _ => (0, 0)
  | _ + 1, _, _, [] => (0, 0)
  | f + 1, j, a, x :: xs => if 128 ≤ x then getN f (j + 1) (a + (x % 128) * 128 ^ j) xs else getF (a + (x % 128) * 128 ^ j) (j + 1) x
abbrev gN (xs : List Nat) : Int × Int := getN 5 0 0 xs
def GetI (xs : List Nat) (s : OS) : Prop := ∃ j a : Nat, s.i = (j : Int) ∧ s.s = (a : Int) ∧ j < 5 ∧ j < xs.length ∧ a < 128 ^ j ∧ getN (5 - j) j a (xs.drop j) = gN xs
theorem of64 {n : Nat} (h : n < 2 ^ 64) : (BitVec.ofInt 64 (n : Int)).toNat = n := by
  rw [BitVec.ofInt_natCast, BitVec.toNat_ofNat, Nat.mod_eq_of_lt h]
theorem bor64 {a d i : Nat} (ha : a < 2 ^ i) (h : d * 2 ^ i + a < 2 ^ 64) : bitsI .or .u64 (a : Int) ((d * 2 ^ i : Nat) : Int) = ((d * 2 ^ i + a : Nat) : Int) := by
  show IntKind.wrap .u64 (((BitVec.ofInt 64 (a : Int) ||| BitVec.ofInt 64 ((d * 2 ^ i : Nat) : Int)).toNat : Nat) : Int) = _
  rw [BitVec.toNat_or, of64 (by omega), of64 (by omega), Nat.or_comm, ← Nat.shiftLeft_eq, ← Nat.shiftLeft_add_eq_or_of_lt ha, Nat.shiftLeft_eq]
  exact wr64u (by omega) (by omega)
theorem rawU {a x j : Nat} (hj : j < 5) (ha : a < 128 ^ j) (hx : x < 256) : bitsI .or .u64 (a : Int) (shlI .u64 (wr .u64 (tmodI (x : Int) 128)) (wr .i64 (7 * (j : Int)))) = ((a + (x % 128) * 128 ^ j : Nat) : Int) := by
  have hp : ∀ i : Nat, 128 ^ i = 2 ^ (7 * i) := fun i => by rw [Nat.pow_mul]
  have hd : x % 128 < 128 := Nat.mod_lt _ (by decide)
  have hsh : shlI .u64 (wr .u64 (tmodI (x : Int) 128)) (wr .i64 (7 * (j : Int))) = (((x % 128) * 2 ^ (7 * j) : Nat) : Int) := by
    rw [tmod128, wr64u (by omega) (by omega), wr64 (by omega) (by omega)]
    unfold shlI
    have e : min (7 * (j : Int)).toNat (IntKind.bits .u64) = 7 * j := by simp [IntKind.bits]; omega
    rw [e]
    have e2 : ((x % 128 : Nat) : Int) * 2 ^ (7 * j) = (((x % 128) * 2 ^ (7 * j) : Nat) : Int) := by push_cast; rfl
    rw [e2]
    refine wr64u (by omega) ?_
    have : (x % 128) * 2 ^ (7 * j) < 128 * 2 ^ 28 := by
      have h1 : 2 ^ (7 * j) ≤ 2 ^ 28 := Nat.pow_le_pow_right (by decide) (by omega)
      calc (x % 128) * 2 ^ (7 * j) ≤ 127 * 2 ^ (7 * j) := Nat.mul_le_mul_right _ (by omega)
        _ ≤ 127 * 2 ^ 28 := Nat.mul_le_mul_left _ h1
        _ < 128 * 2 ^ 28 := by decide
    omega
  rw [hsh]
  rw [hp] at ha ⊢
  have hb : (x % 128) * 2 ^ (7 * j) + a < 2 ^ 64 := by
    have h1 : 2 ^ (7 * j) ≤ 2 ^ 28 := Nat.pow_le_pow_right (by decide) (by omega)
    have h2 : (x % 128) * 2 ^ (7 * j) ≤ 127 * 2 ^ 28 := Nat.le_trans (Nat.mul_le_mul_right _ (by omega)) (Nat.mul_le_mul_left _ h1)
    have : (127 : Nat) * 2 ^ 28 + 2 ^ 28 < 2 ^ 64 := by decide
    omega
  rw [bor64 ha hb, Nat.add_comm]
theorem acc_lt {a x j : Nat} (ha : a < 128 ^ j) : a + (x % 128) * 128 ^ j < 128 ^ (j + 1) := by
  have hd : x % 128 ≤ 127 := by omega
  have := Nat.mul_le_mul_right (128 ^ j) hd
  rw [Nat.pow_succ]; omega
section
variable {X : Task → Prop} (hX : Closed X) {Q : A → List Blk → Prop} {c : PC} {xs : List Nat}
include hX
theorem getnum_ok (hc : BytesP c xs) (hl : xs.length ≤ 20000) (hQ : Q (.tup [iv (gN xs).1, iv (gN xs).2]) []) : X (.call 62 [.one (.p c)] [] Q) := by
  have hc' := hc
  obtain ⟨hc, hb⟩ := hc
  refine call_intro hX Try.func62 rfl rfl ?_
  rcases hc with rfl | ⟨rfl, rfl⟩
  · by_cases h0 : xs = []
    · subst h0
      repeat' ((conv => whnf); first | exact hQ | refine bct (by assumption) ?_ | refine bcf (by assumption) ?_)
    · have hpos : 0 < xs.length := List.length_pos_iff.2 h0
      have q0 : eqI 0 (lenL (bs xs)) = false := by rw [len_bs, eqI_f]; omega
      repeat' ((conv => whnf); first | refine bct (by assumption) ?_ | refine bcf (by assumption) ?_)
      refine rest_gen (fun s : OS => pad [(0, sl (bs xs)), (3, u64 s.s), (0, iv s.i)] 48) (fun _ => []) (GetI xs) (fun s => (5 - s.i).toNat) (fun s hI ih => ?_) ⟨0, 0⟩ ⟨0, 0, rfl, rfl, by omega, hpos, by simp, rfl⟩
      obtain ⟨oi, os⟩ := s
      obtain ⟨j, a, rfl, rfl, hj, hjl, ha, hg⟩ := hI
      have hx := hb _ (List.getElem_mem hjl)
      rw [List.drop_eq_getElem_cons hjl] at hg
      obtain ⟨f, hf⟩ : ∃ f, 5 - j = f + 1 := ⟨4 - j, by omega⟩
      rw [hf] at hg
      obtain ⟨x, hxe⟩ : ∃ x, xs[j] = x := ⟨_, rfl⟩
      rw [hxe] at hx hg
      have r1 : E.rowAt (bs xs) (j : Int) = [.v (.int .u8 (x : Int))] := by rw [at_bs hjl, hxe]
      have b1 := lenB_bs hjl
      have e := rawU hj ha hx
      have k1 : wr .i64 ((j : Int) + 1) = ((j + 1 : Nat) : Int) := wrS (by omega)
      have s0 : ltI (wr .i64 (7 * (j : Int))) 0 = false := by rw [wr64 (by omega) (by omega), ltI_f]; omega
      refine rest_intro hX ?_
      by_cases hge : 128 ≤ x
      · have p1 : leI 128 (x : Int) = true := leI_t.2 (by omega)
        rw [getN, if_pos hge] at hg
        by_cases hend : j + 1 = xs.length
        · have q1 : eqI (wr .i64 ((j : Int) + 1)) (lenL (bs xs)) = true := by rw [k1, len_bs, eqI_t]; omega
          rw [List.drop_of_length_le (by omega)] at hg
          have fin : Q (.tup [iv 0, iv 0]) [] := by
            have : gN xs = (0, 0) := by rw [← hg]; cases f <;> rfl
            rw [this] at hQ; exact hQ
          repeat' ((conv => whnf); first | exact fin | refine bct (by assumption) ?_ | refine bcf (by assumption) ?_ | refine jump_intro hX ?_ | rw [r1])
        · have q1 : eqI (wr .i64 ((j : Int) + 1)) (lenL (bs xs)) = false := by rw [k1, len_bs, eqI_f]; omega
          by_cases h5 : j + 1 = 5
          · have q2 : eqI (wr .i64 ((j : Int) + 1)) 5 = true := by rw [k1, eqI_t]; omega
            have fin : Q (.tup [iv 0, iv 0]) [] := by
              have : gN xs = (0, 0) := by rw [← hg, show f = 0 by omega]; rfl
              rw [this] at hQ; exact hQ
            repeat' ((conv => whnf); first | exact fin | refine bct (by assumption) ?_ | refine bcf (by assumption) ?_ | refine jump_intro hX ?_ | rw [r1])
          · have q2 : eqI (wr .i64 ((j : Int) + 1)) 5 = false := by rw [k1, eqI_f]; omega
            have hms : (5 - wr .i64 ((j : Int) + 1)).toNat < (5 - (j : Int)).toNat := by rw [k1]; omega
            have hI' : GetI xs ⟨wr .i64 ((j : Int) + 1), bitsI .or .u64 (a : Int) (shlI .u64 (wr .u64 (tmodI (x : Int) 128)) (wr .i64 (7 * (j : Int))))⟩ :=
              ⟨j + 1, _, k1, e, by omega, by omega, acc_lt ha, by rw [show 5 - (j + 1) = f by omega]; exact hg⟩
            repeat' ((conv => whnf); first | refine bct (by assumption) ?_ | refine bcf (by assumption) ?_ | refine jump_intro hX ?_ | refine ih ⟨_, _⟩ hI' hms | rw [r1])
      · have p1 : leI 128 (x : Int) = false := leI_f.2 (by omega)
        rw [getN, if_neg hge] at hg
        rw [← hg] at hQ
        unfold getF at hQ
        obtain ⟨A, hA⟩ : ∃ A, a + (x % 128) * 128 ^ j = A := ⟨_, rfl⟩
        rw [hA] at hQ e
        by_cases hbig : 4294967295 < A
        · have t1 : ltI 4294967295 (bitsI .or .u64 (a : Int) (shlI .u64 (wr .u64 (tmodI (x : Int) 128)) (wr .i64 (7 * (j : Int))))) = true := by rw [e, ltI_t]; omega
          rw [if_pos (.inl hbig)] at hQ
          repeat' ((conv => whnf); first | exact hQ | refine bct (by assumption) ?_ | refine bcf (by assumption) ?_ | rw [r1])
        · have t1 : ltI 4294967295 (bitsI .or .u64 (a : Int) (shlI .u64 (wr .u64 (tmodI (x : Int) 128)) (wr .i64 (7 * (j : Int))))) = false := by rw [e, ltI_f]; omega
          by_cases hz : x = 0 ∧ 1 < j + 1
          · have t2 : eqI (x : Int) 0 = true := eqI_t.2 (by omega)
            have t3 : ltI 1 (wr .i64 ((j : Int) + 1)) = true := by rw [k1, ltI_t]; omega
            rw [if_pos (.inr hz)] at hQ
            repeat' ((conv => whnf); first | exact hQ | refine bct (by assumption) ?_ | refine bcf (by assumption) ?_ | rw [r1])
          · rw [if_neg (by omega)] at hQ
            have d1 : wr .i64 (wr .u64 (tdivI (bitsI .or .u64 (a : Int) (shlI .u64 (wr .u64 (tmodI (x : Int) 128)) (wr .i64 (7 * (j : Int))))) 2)) = ((A / 2 : Nat) : Int) := by
              rw [e, tdiv2, wr64u (by omega) (by omega), wr64 (by omega) (by omega)]
            have t4 : ∀ b, decide (A % 2 = 1) = b → eqI (tmodI (bitsI .or .u64 (a : Int) (shlI .u64 (wr .u64 (tmodI (x : Int) 128)) (wr .i64 (7 * (j : Int))))) 2) 1 = b := fun b hb => by
              rw [e, tmod2, ← hb, Bool.eq_iff_iff, eqI_t, decide_eq_true_iff]; omega
            have t23 : (eqI (x : Int) 0 = true ∧ ltI 1 (wr .i64 ((j : Int) + 1)) = false) ∨ eqI (x : Int) 0 = false := by
              rw [k1, eqI_t, eqI_f, ltI_f]; omega
            by_cases hodd : A % 2 = 1
            · have t5 := t4 true (decide_eq_true hodd)
              rw [if_pos hodd] at hQ
              have d2 : wr .i64 (wr .i64 (0 - wr .i64 (wr .u64 (tdivI (bitsI .or .u64 (a : Int) (shlI .u64 (wr .u64 (tmodI (x : Int) 128)) (wr .i64 (7 * (j : Int))))) 2))) - 1) = -((A / 2 : Nat) : Int) - 1 := by
                rw [d1, wr64 (n := 0 - _) (by omega) (by omega), wr64 (by omega) (by omega)]; omega
              rcases t23 with ⟨t2, t3⟩ | t2
              all_goals
                repeat' ((conv => whnf); first | exact Qa hQ (by rw [d2, k1]) | refine bct (by assumption) ?_ | refine bcf (by assumption) ?_ | rw [r1])
            · have t5 := t4 false (decide_eq_false hodd)
              rw [if_neg hodd] at hQ
              rcases t23 with ⟨t2, t3⟩ | t2
              all_goals
                repeat' ((conv => whnf); first | exact Qa hQ (by rw [d1, k1]) | refine bct (by assumption) ?_ | refine bcf (by assumption) ?_ | rw [r1])
  · repeat' ((conv => whnf); first | exact hQ | refine bct (by assumption) ?_ | refine bcf (by assumption) ?_)
end
end Go.Proofs.Ytjapbanelfcjhaa.C
