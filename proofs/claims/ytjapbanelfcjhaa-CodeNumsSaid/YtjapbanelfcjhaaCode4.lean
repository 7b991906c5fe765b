/- The document's example for code; the law on sums. -/
import Derived.Test.YtjapbanelfcjhaaCode3
set_option linter.unusedVariables false
set_option linter.unusedSimpArgs false
set_option maxRecDepth 100000
namespace Go.Proofs.Ytjapbanelfcjhaa.C
open Go E N
theorem s9 : eqI ((sumN [49, 50, 51, 52, 53, 54, 55, 56, 57] : Nat) : Int) 3421780262 = true := by kernel_rfl
section
variable {X : Task → Prop} (hX : Closed X) {Q : A → List Blk → Prop} {c : PC} {xs : List Nat}
include hX
theorem cup_ok (hQ : Q (bv true) []) : X (.call 57 [] [] Q) := by
  refine call_intro hX Try.func57 rfl rfl ?_
  repeat' ((conv => whnf); first
    | exact hQ | refine ⟨by kernel_rfl, ?_⟩ | refine sum_ok (xs := [49, 50, 51, 52, 53, 54, 55, 56, 57]) hX ⟨.inl rfl, by decide⟩ (by decide) ?_
    | refine call_intro hX Try.func58 rfl rfl ?_ | refine call_intro hX Try.func60 rfl rfl ?_ | refine call_intro hX Try.func62 rfl rfl ?_ | refine call_intro hX Try.func64 rfl rfl ?_ | refine loop_intro hX ?_ | refine jump_intro hX ?_ | refine rest_intro hX ?_ | refine bct s9 ?_)
theorem open_t (hc : BytesP c xs) (hl : xs.length ≤ 20000) (hok : okN xs = true) (h : Q (.tup [sl (bs (xs.take (xs.length - 4))), ne]) []) : X (.call 66 [.one (.p c)] [] Q) := open_ok hX hc hl (fun _ => h) (fun h' => by rw [hok] at h'; cases h')
theorem open_f (hc : BytesP c xs) (hl : xs.length ≤ 20000) (hok : okN xs = false) (h : Q (.tup [sl [], er 7]) []) : X (.call 66 [.one (.p c)] [] Q) := open_ok hX hc hl (fun h' => by rw [hok] at h'; cases h') (fun _ => h)
theorem ropen_t (hc : BytesP c xs) (hl : xs.length ≤ 20000) (hok : okN xs = true) (h : Q (.tup [sl (bs (xs.take (xs.length - 4))), bv true]) []) : X (.call 67 [.one (.p c)] [] Q) := ropen_ok hX hc hl (fun _ => h) (fun h' => by rw [hok] at h'; cases h')
theorem ropen_f (hc : BytesP c xs) (hl : xs.length ≤ 20000) (hok : okN xs = false) (h : Q (.tup [sl [], bv false]) []) : X (.call 67 [.one (.p c)] [] Q) := ropen_ok hX hc hl (fun h' => by rw [hok] at h'; cases h') (fun _ => h)
theorem sums_ok (hc : BytesP c xs) (hQ : Q (bv true) []) : X (.call 12 [.one (.p c)] [] Q) := by
  refine call_intro hX Try.func12 rfl rfl ?_
  by_cases hbig : 10000 < xs.length
  · have q1 : ltI 10000 (lenL (bs xs)) = true := by rw [len_bs, ltI_t]; omega
    obtain ⟨hc, hb⟩ := hc
    rcases hc with rfl | ⟨rfl, rfl⟩
    · repeat' ((conv => whnf); first | exact hQ | refine ⟨by kernel_rfl, ?_⟩ | refine cup_ok hX ?_ | refine bct (by assumption) ?_)
    · simp at hbig
  · have hl : xs.length ≤ 20000 := by omega
    have q1 : ltI 10000 (lenL (bs xs)) = false := by rw [len_bs, ltI_f]; omega
    have q2 := strOk_bs (xs.take (xs.length - 4))
    have q3 := strOk_bs (sealN xs)
    have q4 : eqI ((sumN xs : Nat) : Int) ((sumN xs : Nat) : Int) = true := eqI_t.2 rfl
    have hc' := hc
    obtain ⟨hc, hb⟩ := hc
    cases hok : okN xs with
    | true =>
      rcases hc with rfl | ⟨rfl, rfl⟩
      all_goals
        repeat' ((conv => whnf); first
          | exact hQ | exact Qa hQ (by rw [eqS_refl]) | refine ⟨by kernel_rfl, ?_⟩ | refine cup_ok hX ?_ | refine open_t hX hc' hl hok ?_ | refine ropen_t hX hc' hl hok ?_ | refine sum_ok hX hc' hl ?_ | refine rsum_ok hX hc' hl ?_ | refine seal_ok hX hc' hl ?_ | refine rseal_ok hX hc' hl ?_
          | refine bct (eqS_refl _) ?_ | refine bct (by assumption) ?_ | refine bcf (by assumption) ?_)
    | false =>
      rcases hc with rfl | ⟨rfl, rfl⟩
      all_goals
        repeat' ((conv => whnf); first
          | exact hQ | exact Qa hQ (by rw [eqS_refl]) | refine ⟨by kernel_rfl, ?_⟩ | refine cup_ok hX ?_ | refine open_f hX hc' hl hok ?_ | refine ropen_f hX hc' hl hok ?_ | refine sum_ok hX hc' hl ?_ | refine rsum_ok hX hc' hl ?_ | refine seal_ok hX hc' hl ?_ | refine rseal_ok hX hc' hl ?_
          | refine bct (eqS_refl _) ?_ | refine bct (by assumption) ?_ | refine bcf (by assumption) ?_)
end
end Go.Proofs.Ytjapbanelfcjhaa.C
