/- The text with which bytes begin; the law on numbers and texts. -/
import Derived.Test.YtjapbanelfcjhaaCode9
set_option linter.unusedVariables false
set_option linter.unusedSimpArgs false
set_option maxRecDepth 100000
namespace Go.Proofs.Ytjapbanelfcjhaa.C
open Go E N
theorem getN_used : ∀ (f j a : Nat) (xs : List Nat), 0 ≤ (getN f j a xs).2 ∧ (getN f j a xs).2 ≤ (j + f : Nat)
  | 0, j, a, xs => by simp [getN] <;> omega
  | f + 1, j, a, [] => by simp [getN] <;> omega
  | f + 1, j, a, x :: xs => by
    rw [getN]
    split
    · have := getN_used f (j + 1) (a + (x % 128) * 128 ^ j) xs
      omega
    · unfold getF
      split
      · simp <;> omega
      · split <;> simp <;> omega
def gT (xs : List Nat) : ByteArray × Int :=
  if (gN xs).2 = 0 ∨ (gN xs).1 < 0 ∨ 8 < (gN xs).1 ∨ (xs.length : Int) < (gN xs).2 + (gN xs).1 then (⟨#[]⟩, 0) else (strOf (rowsIn (bs xs) (gN xs).2 ((gN xs).2 + (gN xs).1)), (gN xs).2 + (gN xs).1)
abbrev st (s : ByteArray) : A := .one (.p (.v (.string s)))
section
variable {X : Task → Prop} (hX : Closed X) {Q : A → List Blk → Prop} {c : PC} {xs : List Nat}
include hX
theorem gettext_both (hc : BytesP c xs) (hl : xs.length ≤ 20000) (hQ : Q (.tup [st (gT xs).1, iv (gT xs).2]) []) : X (.call 64 [.one (.p c)] [] Q) ∧ X (.call 65 [.one (.p c)] [] Q) := by
  have hc' := hc
  have hu := getN_used 5 0 0 xs
  unfold gT at hQ
  have n1 : ∀ {Q' : A → List Blk → Prop}, Q' (.tup [iv (gN xs).1, iv (gN xs).2]) [] → X (.call 62 [.one (.p c)] [] Q') := fun h => getnum_ok hX hc' hl h
  have n2 : ∀ {Q' : A → List Blk → Prop}, Q' (.tup [iv (gN xs).1, iv (gN xs).2]) [] → X (.call 63 [.one (.p c)] [] Q') := fun h => rgetnum_ok hX hc' hl h
  obtain ⟨hc, hb⟩ := hc
  have hnil : xs = [] → (gN xs).2 = 0 := fun h => by subst h; rfl
  generalize hn : (gN xs).1 = n at *
  generalize hU : (gN xs).2 = U at *
  have hU5 : 0 ≤ U ∧ U ≤ 5 := by omega
  rcases hc with rfl | ⟨rfl, rfl⟩
  · by_cases c1 : U = 0
    · have q1 : eqI U 0 = true := eqI_t.2 c1
      rw [if_pos (.inl c1)] at hQ
      constructor
      · refine call_intro hX Try.func64 rfl rfl ?_
        repeat' ((conv => whnf); first | exact hQ | refine n1 ?_ | refine ⟨by kernel_rfl, ?_⟩ | refine bct (by assumption) ?_ | refine bcf (by assumption) ?_)
      · refine call_intro hX Try.func65 rfl rfl ?_
        repeat' ((conv => whnf); first | exact hQ | refine n2 ?_ | refine ⟨by kernel_rfl, ?_⟩ | refine bct (by assumption) ?_ | refine bcf (by assumption) ?_)
    · have q1 : eqI U 0 = false := eqI_f.2 c1
      by_cases c2 : n < 0
      · have q2 : ltI n 0 = true := ltI_t.2 c2
        rw [if_pos (.inr (.inl c2))] at hQ
        constructor
        · refine call_intro hX Try.func64 rfl rfl ?_
          repeat' ((conv => whnf); first | exact hQ | refine n1 ?_ | refine ⟨by kernel_rfl, ?_⟩ | refine bct (by assumption) ?_ | refine bcf (by assumption) ?_)
        · refine call_intro hX Try.func65 rfl rfl ?_
          repeat' ((conv => whnf); first | exact hQ | refine n2 ?_ | refine ⟨by kernel_rfl, ?_⟩ | refine bct (by assumption) ?_ | refine bcf (by assumption) ?_)
      · have q2 : ltI n 0 = false := ltI_f.2 (by omega)
        by_cases c3 : 8 < n
        · have q3 : ltI 8 n = true := ltI_t.2 c3
          rw [if_pos (.inr (.inr (.inl c3)))] at hQ
          constructor
          · refine call_intro hX Try.func64 rfl rfl ?_
            repeat' ((conv => whnf); first | exact hQ | refine n1 ?_ | refine ⟨by kernel_rfl, ?_⟩ | refine bct (by assumption) ?_ | refine bcf (by assumption) ?_)
          · refine call_intro hX Try.func65 rfl rfl ?_
            repeat' ((conv => whnf); first | exact hQ | refine n2 ?_ | refine ⟨by kernel_rfl, ?_⟩ | refine bct (by assumption) ?_ | refine bcf (by assumption) ?_)
        · have q3 : ltI 8 n = false := ltI_f.2 (by omega)
          have k1 : wr .i64 (U + n) = U + n := wr64 (by omega) (by omega)
          have k2 : wr .i64 (lenL (bs xs) - U) = (xs.length : Int) - U := by rw [len_bs, wr64 (by omega) (by omega)]
          by_cases c4 : (xs.length : Int) < U + n
          · have q4 : ltI (wr .i64 (lenL (bs xs) - U)) n = true := by rw [k2, ltI_t]; omega
            have q5 : ltI (lenL (bs xs)) (wr .i64 (U + n)) = true := by rw [k1, len_bs, ltI_t]; omega
            rw [if_pos (.inr (.inr (.inr c4)))] at hQ
            constructor
            · refine call_intro hX Try.func64 rfl rfl ?_
              repeat' ((conv => whnf); first | exact hQ | refine n1 ?_ | refine ⟨by kernel_rfl, ?_⟩ | refine bct (by assumption) ?_ | refine bcf (by assumption) ?_)
            · refine call_intro hX Try.func65 rfl rfl ?_
              repeat' ((conv => whnf); first | exact hQ | refine n2 ?_ | refine ⟨by kernel_rfl, ?_⟩ | refine bct (by assumption) ?_ | refine bcf (by assumption) ?_)
          · have q4 : ltI (wr .i64 (lenL (bs xs) - U)) n = false := by rw [k2, ltI_f]; omega
            have q5 : ltI (lenL (bs xs)) (wr .i64 (U + n)) = false := by rw [k1, len_bs, ltI_f]; omega
            rw [if_neg (by omega)] at hQ
            have q6 : (lenC (bs xs) (wr .i64 (U + n)) && leI 0 U && leI U (wr .i64 (U + n)) && rowsOk (bs xs) 1) = true := by
              rw [k1]; exact and4 (by unfold lenC; simp; omega) (leI_t.2 (by omega)) (leI_t.2 (by omega)) (rowsOk_bs xs)
            have q7 : strOk (rowsIn (bs xs) U (wr .i64 (U + n))) = true := strOk_in (strOk_bs xs)
            have fin : Q (.tup [st (strOf (rowsIn (bs xs) U (wr .i64 (U + n)))), iv (wr .i64 (U + n))]) [] := by rw [k1]; exact hQ
            constructor
            · refine call_intro hX Try.func64 rfl rfl ?_
              repeat' ((conv => whnf); first | exact fin | refine n1 ?_ | refine ⟨by kernel_rfl, ?_⟩ | refine bct (by assumption) ?_ | refine bcf (by assumption) ?_)
            · refine call_intro hX Try.func65 rfl rfl ?_
              repeat' ((conv => whnf); first | exact fin | refine n2 ?_ | refine ⟨by kernel_rfl, ?_⟩ | refine bct (by assumption) ?_ | refine bcf (by assumption) ?_)

  · have c1 := hnil rfl
    subst c1
    have q1 : eqI 0 0 = true := rfl
    rw [if_pos (.inl rfl)] at hQ
    constructor
    · refine call_intro hX Try.func64 rfl rfl ?_
      repeat' ((conv => whnf); first | exact hQ | refine n1 ?_ | refine ⟨by kernel_rfl, ?_⟩ | refine bct (by assumption) ?_ | refine bcf (by assumption) ?_)
    · refine call_intro hX Try.func65 rfl rfl ?_
      repeat' ((conv => whnf); first | exact hQ | refine n2 ?_ | refine ⟨by kernel_rfl, ?_⟩ | refine bct (by assumption) ?_ | refine bcf (by assumption) ?_)
end
end Go.Proofs.Ytjapbanelfcjhaa.C
