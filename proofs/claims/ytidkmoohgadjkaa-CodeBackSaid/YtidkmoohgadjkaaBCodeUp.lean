/- The law's example of layer 16. -/
import Derived.Test.YtidkmoohgadjkaaBCode1
set_option linter.unusedVariables false
set_option linter.unusedSimpArgs false
set_option maxRecDepth 100000
set_option maxHeartbeats 4000000
namespace Go.Proofs.Ytidkmoohgadjkaa.C
open Go E N
section
variable {X : Task → Prop} (hX : Closed X) {Q : A → List Blk → Prop} {c : PC} {xs : List Nat}
include hX
theorem cup_ok (hQ : Q (bv true) []) : X (.call 4 [] [] Q) := by
  have e1 : encN 4 (numU (-1)) = [1] := by decide
  have e2 : encN 4 (numU 64) = [128, 1] := by decide
  refine call_intro hX Try.func4 rfl rfl ?_
  (repeat ((conv => whnf); first | refine ⟨by kernel_rfl, ?_⟩ | refine eqv_id ?_ | refine Two.l ?_)); (conv => whnf)
  refine num_ok hX (fun _ _ => ?_) (fun h => by omega)
  rw [e1]
  (repeat ((conv => whnf); first | refine ⟨by kernel_rfl, ?_⟩ | refine eqv_id ?_ | refine Two.l ?_)); (conv => whnf)
  refine Or.inl ?_
  (repeat ((conv => whnf); first | refine ⟨by kernel_rfl, ?_⟩ | refine eqv_id ?_ | refine Two.l ?_)); (conv => whnf)
  refine getnum_ok hX (xs := [1]) ⟨rfl, by decide⟩ (by decide) ?_
  rw [show (gN [1]).1 = -1 by decide, show (gN [1]).2 = 1 by decide]
  (repeat ((conv => whnf); first | refine ⟨by kernel_rfl, ?_⟩ | refine eqv_id ?_ | refine Two.l ?_)); (conv => whnf)
  refine text_ok hX (s := ⟨#[97, 98]⟩) ?_
  rw [show textL ⟨#[97, 98]⟩ = [4, 97, 98] by decide]
  (repeat ((conv => whnf); first | refine ⟨by kernel_rfl, ?_⟩ | refine eqv_id ?_ | refine Two.l ?_)); (conv => whnf)
  refine gettext_ok hX (xs := [4, 97, 98]) ⟨rfl, by decide⟩ (by decide) ?_
  rw [show gT [4, 97, 98] = (⟨#[97, 98]⟩, 3) by rfl]
  (repeat ((conv => whnf); first | refine ⟨by kernel_rfl, ?_⟩ | refine eqv_id ?_ | refine Two.l ?_)); (conv => whnf)
  refine num_ok hX (fun _ _ => ?_) (fun h => by omega)
  rw [e2]
  (repeat ((conv => whnf); first | refine ⟨by kernel_rfl, ?_⟩ | refine eqv_id ?_ | refine Two.l ?_)); (conv => whnf)
  refine sum_ok hX (xs := [49, 50, 51, 52, 53, 54, 55, 56, 57]) ⟨rfl, by decide⟩ (by decide) ?_
  (repeat ((conv => whnf); first | exact hQ | refine ⟨by kernel_rfl, ?_⟩ | refine eqv_id ?_ | refine Two.l ?_ | refine bct s9 ?_))
end
end Go.Proofs.Ytidkmoohgadjkaa.C
