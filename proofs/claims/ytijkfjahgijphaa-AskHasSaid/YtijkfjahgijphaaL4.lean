/- The statements of layer 4, walked. Written by decomp.py. -/
import Derived.Test.YtijkfjahgijphaaCon
import Derived.Test.YtijkfjahgijphaaEvalLaw
import Derived.Test.YtijkfjahgijphaaLoops
set_option linter.unusedVariables false
set_option linter.unusedSimpArgs false
set_option maxRecDepth 100000
set_option maxHeartbeats 0
namespace Go.Proofs.Ytijkfjahgijphaa
open Go E
noncomputable section
open Pred
def law04_EvalPlain_s (p0 : Pred) (p1 : Item) : Option (Bool) :=
  (bnd (up4_s ) fun y1 =>
    (bnd (law00_Small_s p0) fun y3 =>
      (br (eqI y3 0)
        (some y1)
        (bnd (law00_Pred_s p0) fun y6 =>
          (bnd (law00_Item_s p1) fun y8 =>
            (bnd (pred_May_s y6) fun y10 =>
              (br (!y10)
                (some y1)
                (bnd (eval_Plain_s y6) fun y13 =>
                  (bnd (pred_May_s y13) fun y15 =>
                    (br (!y15)
                      (some false)
                      (bnd (pred_Size_s y13) fun y18 =>
                        (bnd (pred_Size_s y6) fun y20 =>
                          (br (ltI y20 y18)
                            (some false)
                            (bnd (pred_Depth_s y13) fun y23 =>
                              (bnd (pred_Depth_s y6) fun y25 =>
                                (br (ltI y25 y23)
                                  (some false)
                                  (bnd (eval_Plain_s y13) fun y28 =>
                                    (bnd (pred_Same_s y28 y13) fun y30 =>
                                      (br (!y30)
                                        (some false)
                                        (br y1
                                          (bnd (eval_Has_s y13 y8) fun y34 =>
                                            (bnd (eval_Has_s y6 y8) fun y36 =>
                                              (br (@Bool.rec (fun _ => Bool) (!y36) y36 y34)
                                                (bnd (eval_Has_s (Pred.mk 10 ⟨#[]⟩ 0 0 0 [y6]) y8) fun y39 =>
                                                  (bnd (eval_Has_s y6 y8) fun y41 =>
                                                    some (@Bool.rec (fun _ => Bool) y41 (!y41) y39)))
                                                (some false))))
                                          (some false)))))))))))))))))))))
theorem law04_EvalPlain_c {X : Task → Prop} (hX : Closed X) {p0 : Pred} {p1 : Item} {r : Bool} {Q : A → List Blk → Prop} (h : law04_EvalPlain_s p0 p1 = some r) (hQ : Q (.one (.p (.v (.bool r)))) []) : X (.call 7 [.agg [ic p0.op, .p (.v (.string p0.text)), ic p0.n, .p (.v (.float .f64 p0.re)), .p (.v (.float .f64 p0.im)), .p (.sl (Pred.lrows p0.kids))], .agg [.p (.v (.string p1.id)), ic p1.vr, ic p1.vc, ic p1.stamp, .p (.v (.string p1.kind)), ic p1.num, .p (.v (.float .f64 p1.re)), .p (.v (.float .f64 p1.im)), .p (.v (.bool p1.dead))]] [] Q) := by
  unfold law04_EvalPlain_s at h
  refine call_intro hX Try.func7 rfl rfl ?_
  replace h := bnd_some h
  obtain ⟨y1, e2, h⟩ := h
  (repeat ((conv => whnf); first | refine ⟨by kernel_rfl, ?_⟩)); (conv => whnf)
  refine up4_c hX e2 ?_
  replace h := bnd_some h
  obtain ⟨y3, e4, h⟩ := h
  (repeat ((conv => whnf); first | refine ⟨by kernel_rfl, ?_⟩)); (conv => whnf)
  refine law00_Small_c hX e4 ?_
  (repeat ((conv => whnf); first | refine ⟨by kernel_rfl, ?_⟩)); (conv => whnf)
  refine br_some h (fun c5 g => ?_) (fun c5 g => ?_)
  · replace h := g
    clear g
    (repeat ((conv => whnf); first | refine ⟨by kernel_rfl, ?_⟩ | refine bct c5 ?_)); (conv => whnf)
    exact ret_some (f := fun y => .one (.p (.v (.bool y)))) (g := fun y => []) h hQ
  · replace h := g
    clear g
    replace h := bnd_some h
    obtain ⟨y6, e7, h⟩ := h
    (repeat ((conv => whnf); first | refine ⟨by kernel_rfl, ?_⟩ | refine bcf c5 ?_)); (conv => whnf)
    refine law00_Pred_c hX e7 ?_
    replace h := bnd_some h
    obtain ⟨y8, e9, h⟩ := h
    (repeat ((conv => whnf); first | refine ⟨by kernel_rfl, ?_⟩)); (conv => whnf)
    refine law00_Item_c hX e9 ?_
    replace h := bnd_some h
    obtain ⟨y10, e11, h⟩ := h
    (repeat ((conv => whnf); first | refine ⟨by kernel_rfl, ?_⟩)); (conv => whnf)
    refine pred_May_c hX e11 ?_
    (repeat ((conv => whnf); first | refine ⟨by kernel_rfl, ?_⟩)); (conv => whnf)
    refine br_some h (fun c12 g => ?_) (fun c12 g => ?_)
    · replace h := g
      clear g
      (repeat ((conv => whnf); first | refine ⟨by kernel_rfl, ?_⟩ | refine bct c12 ?_)); (conv => whnf)
      exact ret_some (f := fun y => .one (.p (.v (.bool y)))) (g := fun y => []) h hQ
    · replace h := g
      clear g
      replace h := bnd_some h
      obtain ⟨y13, e14, h⟩ := h
      (repeat ((conv => whnf); first | refine ⟨by kernel_rfl, ?_⟩ | refine bcf c12 ?_)); (conv => whnf)
      refine eval_Plain_c hX e14 ?_
      replace h := bnd_some h
      obtain ⟨y15, e16, h⟩ := h
      (repeat ((conv => whnf); first | refine ⟨by kernel_rfl, ?_⟩)); (conv => whnf)
      refine pred_May_c hX e16 ?_
      (repeat ((conv => whnf); first | refine ⟨by kernel_rfl, ?_⟩)); (conv => whnf)
      refine br_some h (fun c17 g => ?_) (fun c17 g => ?_)
      · replace h := g
        clear g
        (repeat ((conv => whnf); first | refine ⟨by kernel_rfl, ?_⟩ | refine bct c17 ?_)); (conv => whnf)
        exact ret_some (f := fun y => .one (.p (.v (.bool y)))) (g := fun y => []) h hQ
      · replace h := g
        clear g
        replace h := bnd_some h
        obtain ⟨y18, e19, h⟩ := h
        (repeat ((conv => whnf); first | refine ⟨by kernel_rfl, ?_⟩ | refine bcf c17 ?_)); (conv => whnf)
        refine pred_Size_c hX e19 ?_
        replace h := bnd_some h
        obtain ⟨y20, e21, h⟩ := h
        (repeat ((conv => whnf); first | refine ⟨by kernel_rfl, ?_⟩ | refine bcf c17 ?_)); (conv => whnf)
        refine pred_Size_c hX e21 ?_
        (repeat ((conv => whnf); first | refine ⟨by kernel_rfl, ?_⟩ | refine bcf c17 ?_)); (conv => whnf)
        refine br_some h (fun c22 g => ?_) (fun c22 g => ?_)
        · replace h := g
          clear g
          (repeat ((conv => whnf); first | refine ⟨by kernel_rfl, ?_⟩ | refine bct c22 ?_)); (conv => whnf)
          exact ret_some (f := fun y => .one (.p (.v (.bool y)))) (g := fun y => []) h hQ
        · replace h := g
          clear g
          replace h := bnd_some h
          obtain ⟨y23, e24, h⟩ := h
          (repeat ((conv => whnf); first | refine ⟨by kernel_rfl, ?_⟩ | refine bcf c22 ?_)); (conv => whnf)
          refine pred_Depth_c hX e24 ?_
          replace h := bnd_some h
          obtain ⟨y25, e26, h⟩ := h
          (repeat ((conv => whnf); first | refine ⟨by kernel_rfl, ?_⟩ | refine bcf c22 ?_)); (conv => whnf)
          refine pred_Depth_c hX e26 ?_
          (repeat ((conv => whnf); first | refine ⟨by kernel_rfl, ?_⟩ | refine bcf c22 ?_)); (conv => whnf)
          refine br_some h (fun c27 g => ?_) (fun c27 g => ?_)
          · replace h := g
            clear g
            (repeat ((conv => whnf); first | refine ⟨by kernel_rfl, ?_⟩ | refine bct c27 ?_)); (conv => whnf)
            exact ret_some (f := fun y => .one (.p (.v (.bool y)))) (g := fun y => []) h hQ
          · replace h := g
            clear g
            replace h := bnd_some h
            obtain ⟨y28, e29, h⟩ := h
            (repeat ((conv => whnf); first | refine ⟨by kernel_rfl, ?_⟩ | refine bcf c27 ?_)); (conv => whnf)
            refine eval_Plain_c hX e29 ?_
            replace h := bnd_some h
            obtain ⟨y30, e31, h⟩ := h
            (repeat ((conv => whnf); first | refine ⟨by kernel_rfl, ?_⟩ | refine bcf c27 ?_)); (conv => whnf)
            refine pred_Same_c hX e31 ?_
            (repeat ((conv => whnf); first | refine ⟨by kernel_rfl, ?_⟩ | refine bcf c27 ?_)); (conv => whnf)
            refine br_some h (fun c32 g => ?_) (fun c32 g => ?_)
            · replace h := g
              clear g
              (repeat ((conv => whnf); first | refine ⟨by kernel_rfl, ?_⟩ | refine bct c32 ?_)); (conv => whnf)
              exact ret_some (f := fun y => .one (.p (.v (.bool y)))) (g := fun y => []) h hQ
            · replace h := g
              clear g
              (repeat ((conv => whnf); first | refine ⟨by kernel_rfl, ?_⟩ | refine bcf c32 ?_)); (conv => whnf)
              refine br_some h (fun c33 g => ?_) (fun c33 g => ?_)
              · replace h := g
                clear g
                replace h := bnd_some h
                obtain ⟨y34, e35, h⟩ := h
                (repeat ((conv => whnf); first | refine ⟨by kernel_rfl, ?_⟩ | refine bct c33 ?_)); (conv => whnf)
                refine eval_Has_c hX e35 ?_
                replace h := bnd_some h
                obtain ⟨y36, e37, h⟩ := h
                (repeat ((conv => whnf); first | refine ⟨by kernel_rfl, ?_⟩ | refine bct c33 ?_)); (conv => whnf)
                refine eval_Has_c hX e37 ?_
                (repeat ((conv => whnf); first | refine ⟨by kernel_rfl, ?_⟩ | refine bct c33 ?_)); (conv => whnf)
                refine br_some h (fun c38 g => ?_) (fun c38 g => ?_)
                · replace h := g
                  clear g
                  replace h := bnd_some h
                  obtain ⟨y39, e40, h⟩ := h
                  (repeat ((conv => whnf); first | refine ⟨by kernel_rfl, ?_⟩ | refine bct c38 ?_)); (conv => whnf)
                  refine Or.inl ?_
                  conv => whnf
                  refine call_args (ys := [.agg [ic 10, .p (.v (.string ⟨#[]⟩)), ic 0, .p (.v (.complex .f64 0 0)), .p (.sl (Pred.rows [y6]))], .agg [.p (.v (.string y8.id)), ic y8.vr, ic y8.vc, ic y8.stamp, .p (.v (.string y8.kind)), ic y8.num, .p (.v (.complex .f64 y8.re y8.im)), .p (.v (.bool y8.dead))]]) (by rw [Pred.rows_eq [y6], List.map_cons, Pred.row_eq y6, List.map_nil]; try rfl) ?_
                  refine eval_Has_c hX e40 ?_
                  replace h := bnd_some h
                  obtain ⟨y41, e42, h⟩ := h
                  (repeat ((conv => whnf); first | refine ⟨by kernel_rfl, ?_⟩ | refine bct c38 ?_)); (conv => whnf)
                  refine eval_Has_c hX e42 ?_
                  (repeat ((conv => whnf); first | refine ⟨by kernel_rfl, ?_⟩ | refine bct c38 ?_)); (conv => whnf)
                  exact ret_some (f := fun y => .one (.p (.v (.bool y)))) (g := fun y => []) h hQ
                · replace h := g
                  clear g
                  (repeat ((conv => whnf); first | refine ⟨by kernel_rfl, ?_⟩ | refine bcf c38 ?_)); (conv => whnf)
                  exact ret_some (f := fun y => .one (.p (.v (.bool y)))) (g := fun y => []) h hQ
              · replace h := g
                clear g
                (repeat ((conv => whnf); first | refine ⟨by kernel_rfl, ?_⟩ | refine bcf c33 ?_)); (conv => whnf)
                exact ret_some (f := fun y => .one (.p (.v (.bool y)))) (g := fun y => []) h hQ
end
end Go.Proofs.Ytijkfjahgijphaa
