/- What the statements hand in. Written by decomp.py. -/
import Derived.Test.YtijkfjahgijphaaKG1b
import Derived.Test.YtijkfjahgijphaaKLoops
set_option linter.unusedVariables false
set_option linter.unusedSimpArgs false
set_option maxRecDepth 100000
set_option maxHeartbeats 0
namespace Go.Proofs.Ytijkfjahgijphaa
open Go E
noncomputable section
open Pred
def law00_Known_l1 : List Frag → Option (Int)
  | [] =>
    some 1
  | x1e :: xs1 =>
    (br (ltI 60 (x1e.ids.length : Int))
      (some 0)
      (law00_Known_l1 xs1  ))
def law00_Known_s (p0 : Know) : Option (Int) :=
  (br (ltI 30 (p0.l.length : Int))
    (some 0)
    (chk (smallL p0.l)
      ((law00_Known_l1) p0.l )))
theorem law00_Known_c {X : Task → Prop} (hX : Closed X) {p0 : Know} {r : Int} {Q : A → List Blk → Prop} (h : law00_Known_s p0 = some r) (hQ : Q (iv r) []) : X (.call 62 [.agg [ic p0.star.x0, ic p0.star.x1, ic p0.star.x2, ic p0.star.x3, ic p0.star.x4, ic p0.star.x5, ic p0.star.x6, ic p0.star.x7, .p (.sl (p0.l.map Frag.row))]] [] Q) := by
  unfold law00_Known_s at h
  refine call_intro hX Try.func62 rfl rfl ?_
  (repeat ((conv => whnf); first | refine ⟨by kernel_rfl, ?_⟩ | refine eqv_to (map_len _) ?_)); (conv => whnf)
  refine br_some h (fun c1 g => ?_) (fun c1 g => ?_)
  · replace h := g
    clear g
    (repeat ((conv => whnf); first | refine ⟨by kernel_rfl, ?_⟩ | refine bct c1 ?_)); (conv => whnf)
    exact ret_some (f := fun y => iv y) (g := fun y => []) h hQ
  · replace h := g
    clear g
    obtain ⟨hs1, h⟩ := chk_some h
    (repeat ((conv => whnf); first | refine ⟨by kernel_rfl, ?_⟩ | refine bcf c1 ?_)); (conv => whnf)
    refine loop_lisx0 (fun (v2 : Int) => pad [(1, .one (.ptr 0 0)), (1, iv v2)] 19) (fun (v2 : Int) => [.box [ic p0.star.x0, ic p0.star.x1, ic p0.star.x2, ic p0.star.x3, ic p0.star.x4, ic p0.star.x5, ic p0.star.x6, ic p0.star.x7, .p (.sl (p0.l.map Frag.row))]]) _ p0.l (fun pre1 x1e xs1 v2  hl1 hi1 h ih1 => ?_) (fun v2  hi1 h => ?_)  h
    · rw [law00_Known_l1] at h
      have am1 := at_mid hl1 hi1
      refine loop_intro hX ?_
      (repeat ((conv => whnf); first | refine ⟨by kernel_rfl, ?_⟩ | refine eqv_to (map_len _) ?_ | refine bct (lt_mid hl1 hi1) ?_ | refine bct (at_in am1) ?_ | refine bct (andt (at_in am1) rfl) ?_ | refine row_in (at_row am1) ?_ | refine bct (andt (at_in (at_nat am1)) rfl) ?_ | refine row_in (at_row (at_nat am1)) ?_)); (conv => whnf)
      refine br_some h (fun c3 g => ?_) (fun c3 g => ?_)
      · replace h := g
        clear g
        (repeat ((conv => whnf); first | refine ⟨by kernel_rfl, ?_⟩ | refine bct c3 ?_)); (conv => whnf)
        exact ret_some (f := fun y => iv y) (g := fun y => []) h hQ
      · replace h := g
        clear g
        (repeat ((conv => whnf); first | refine ⟨by kernel_rfl, ?_⟩ | refine bcf c3 ?_)); (conv => whnf)
        exact ih1 _  (wrL hs1 hl1 hi1) h
    · rw [law00_Known_l1] at h
      refine loop_intro hX ?_
      (repeat ((conv => whnf); first | refine ⟨by kernel_rfl, ?_⟩ | refine eqv_to (map_len _) ?_ | refine bcf (lt_end hi1) ?_)); (conv => whnf)
      exact ret_some (f := fun y => iv y) (g := fun y => []) h hQ
end
end Go.Proofs.Ytijkfjahgijphaa
