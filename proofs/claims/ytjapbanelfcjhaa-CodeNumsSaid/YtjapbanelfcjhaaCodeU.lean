/- The law on numbers and texts. -/
import Derived.Test.YtjapbanelfcjhaaCodeT
set_option linter.unusedVariables false
set_option linter.unusedSimpArgs false
set_option maxRecDepth 100000
namespace Go.Proofs.Ytjapbanelfcjhaa.C
open Go E N
theorem eqI_refl (a : Int) : eqI a a = true := eqI_t.2 rfl
section
variable {X : Task → Prop} (hX : Closed X) {Q : A → List Blk → Prop} {c : PC} {xs : List Nat}
include hX
theorem gettext_ok (hc : BytesP c xs) (hl : xs.length ≤ 20000) (hQ : Q (.tup [st (gT xs).1, iv (gT xs).2]) []) : X (.call 64 [.one (.p c)] [] Q) := (gettext_both hX hc hl hQ).1
theorem rgettext_ok (hc : BytesP c xs) (hl : xs.length ≤ 20000) (hQ : Q (.tup [st (gT xs).1, iv (gT xs).2]) []) : X (.call 65 [.one (.p c)] [] Q) := (gettext_both hX hc hl hQ).2
set_option maxHeartbeats 2000000 in
theorem nums_ok {n : Int} {s : ByteArray} (hc : BytesP c xs) (hQ : Q (bv true) []) : X (.call 11 [iv n, st s, .one (.p c)] [] Q) := by
  refine call_intro hX Try.func11 rfl rfl ?_
  by_cases hbig : 10000 < xs.length
  · have q1 : ltI 10000 (lenL (bs xs)) = true := by rw [len_bs, ltI_t]; omega
    obtain ⟨hc, hb⟩ := hc
    rcases hc with rfl | ⟨rfl, rfl⟩
    · repeat' ((conv => whnf); first | exact hQ | refine ⟨by kernel_rfl, ?_⟩ | refine cup_ok hX ?_ | refine bct (by assumption) ?_)
    · simp at hbig
  · have hl : xs.length ≤ 20000 := by omega
    have q1 : ltI 10000 (lenL (bs xs)) = false := by rw [len_bs, ltI_f]; omega
    have q2 := strOk_bs (encN 4 (numU n))
    have q3 := strOk_bs (textL s)
    have hc' := hc
    obtain ⟨hc, hb⟩ := hc
    by_cases hr : -2147483648 ≤ n ∧ n ≤ 2147483647
    · rcases hc with rfl | ⟨rfl, rfl⟩
      all_goals
        repeat' ((conv => whnf); first
          | exact hQ | exact Qa hQ (by rw [eqI_refl]) | refine ⟨by kernel_rfl, ?_⟩ | refine cup_ok hX ?_ | refine num_ok hX (fun _ _ => ?_) (fun h => absurd h (by omega)) | refine rnum_ok hX (fun _ _ => ?_) (fun h => absurd h (by omega)) | refine text_ok hX ?_ | refine rtext_ok hX ?_
          | refine getnum_ok hX hc' hl ?_ | refine rgetnum_ok hX hc' hl ?_ | refine gettext_ok hX hc' hl ?_ | refine rgettext_ok hX hc' hl ?_
          | refine bcf (nt (eqS_refl _)) ?_ | refine bct (eqS_refl _) ?_ | refine bct (eqI_refl _) ?_ | refine bct (by assumption) ?_ | refine bcf (by assumption) ?_)
    · rcases hc with rfl | ⟨rfl, rfl⟩
      all_goals
        repeat' ((conv => whnf); first
          | exact hQ | exact Qa hQ (by rw [eqI_refl]) | refine ⟨by kernel_rfl, ?_⟩ | refine cup_ok hX ?_ | refine num_ok hX (fun h1 h2 => absurd ⟨h1, h2⟩ hr) (fun _ => ?_) | refine rnum_ok hX (fun h1 h2 => absurd ⟨h1, h2⟩ hr) (fun _ => ?_) | refine text_ok hX ?_ | refine rtext_ok hX ?_
          | refine getnum_ok hX hc' hl ?_ | refine rgetnum_ok hX hc' hl ?_ | refine gettext_ok hX hc' hl ?_ | refine rgettext_ok hX hc' hl ?_
          | refine bcf (nt (eqS_refl _)) ?_ | refine bct (eqS_refl _) ?_ | refine bct (eqI_refl _) ?_ | refine bct (by assumption) ?_ | refine bcf (by assumption) ?_)
end
end Go.Proofs.Ytjapbanelfcjhaa.C
