/- Layers 9 and 11. Written by decomp.py. -/
import Derived.Test.YtijkfjahgijphaaAG1
import Derived.Test.YtijkfjahgijphaaAH0
import Derived.Test.YtijkfjahgijphaaALoops
set_option linter.unusedVariables false
set_option linter.unusedSimpArgs false
set_option maxRecDepth 100000
set_option maxHeartbeats 0
namespace Go.Proofs.Ytijkfjahgijphaa
open Go E
noncomputable section
open Pred
def ref09_stood_l1 (p0 : State) (p2 : Bool) : List Item → Option (Bool)
  | [] =>
    some true
  | x1e :: xs1 =>
    (bnd (ref03_Has_s p0.f x1e) fun y2 =>
      (bnd (ref06_Has_s p0.k x1e.id (Ver.mk x1e.vr x1e.vc)) fun y4 =>
        (br (@Bool.rec (fun _ => Bool) p2 (!p2) y2)
          (some false)
          (br (!y4)
            (some false)
            (br (ltI p0.clock x1e.stamp)
              (some false)
              (ref09_stood_l1 p0 p2 xs1  ))))))
def ref09_stood_s (p0 : State) (p1 : List Item) (p2 : Bool) : Option (Bool) :=
  (chk (smallL p1)
    ((ref09_stood_l1 p0 p2) p1 ))
theorem ref09_stood_c {X : Task → Prop} (hX : Closed X) {p0 : State} {p1 : List Item} {p2 : Bool} {r : Bool} {Q : A → List Blk → Prop} (h : ref09_stood_s p0 p1 p2 = some r) (hQ : Q (.one (.p (.v (.bool r)))) []) : X (.call 78 [.agg [ic p0.r, ic p0.f.op, .p (.v (.string p0.f.text)), ic p0.f.n, .p (.v (.complex .f64 p0.f.re p0.f.im)), .p (.sl (Pred.rows p0.f.kids)), .p (.sl (p0.store.map Item.row)), .p (.sl (p0.out.map Item.row)), ic p0.k.star.x0, ic p0.k.star.x1, ic p0.k.star.x2, ic p0.k.star.x3, ic p0.k.star.x4, ic p0.k.star.x5, ic p0.k.star.x6, ic p0.k.star.x7, .p (.sl (p0.k.l.map Frag.row)), ic p0.count, ic p0.clock, ic p0.epoch], .one (.p (.sl (p1.map Item.row))), .one (.p (.v (.bool p2)))] [] Q) := by
  unfold ref09_stood_s at h
  refine call_intro hX Try.func78 rfl rfl ?_
  obtain ⟨hs1, h⟩ := chk_some h
  (repeat ((conv => whnf); first | refine ⟨by kernel_rfl, ?_⟩)); (conv => whnf)
  refine loop_lisx0 (fun (v1 : Int) => pad [(1, .one (.p (.sl (p1.map Item.row)))), (0, .one (.p (.v (.bool p2)))), (0, .one (.ptr 0 0)), (3, iv v1)] 45) (fun (v1 : Int) => [.box [ic p0.r, ic p0.f.op, .p (.v (.string p0.f.text)), ic p0.f.n, .p (.v (.complex .f64 p0.f.re p0.f.im)), .p (.sl (Pred.rows p0.f.kids)), .p (.sl (p0.store.map Item.row)), .p (.sl (p0.out.map Item.row)), ic p0.k.star.x0, ic p0.k.star.x1, ic p0.k.star.x2, ic p0.k.star.x3, ic p0.k.star.x4, ic p0.k.star.x5, ic p0.k.star.x6, ic p0.k.star.x7, .p (.sl (p0.k.l.map Frag.row)), ic p0.count, ic p0.clock, ic p0.epoch]]) _ p1 (fun pre1 x1e xs1 v1  hl1 hi1 h ih1 => ?_) (fun v1  hi1 h => ?_)  h
  · rw [ref09_stood_l1] at h
    have am1 := at_mid hl1 hi1
    refine loop_intro hX ?_
    replace h := bnd_some h
    obtain ⟨y2, e3, h⟩ := h
    (repeat ((conv => whnf); first | refine ⟨by kernel_rfl, ?_⟩ | refine eqv_to (map_len _) ?_ | refine bct (lt_mid hl1 hi1) ?_ | refine bct (at_in am1) ?_ | refine bct (andt (at_in am1) rfl) ?_ | refine row_in (at_row am1) ?_ | refine bct (andt (at_in (at_nat am1)) rfl) ?_ | refine row_in (at_row (at_nat am1)) ?_)); (conv => whnf)
    refine ref03_Has_c hX e3 ?_
    replace h := bnd_some h
    obtain ⟨y4, e5, h⟩ := h
    (repeat ((conv => whnf); first | refine ⟨by kernel_rfl, ?_⟩ | refine bct (at_in am1) ?_ | refine bct (andt (at_in am1) rfl) ?_ | refine row_in (at_row am1) ?_ | refine bct (andt (at_in (at_nat am1)) rfl) ?_ | refine row_in (at_row (at_nat am1)) ?_)); (conv => whnf)
    refine ref06_Has_c hX e5 ?_
    (repeat ((conv => whnf); first | refine ⟨by kernel_rfl, ?_⟩)); (conv => whnf)
    refine br_some h (fun c6 g => ?_) (fun c6 g => ?_)
    · replace h := g
      clear g
      (repeat ((conv => whnf); first | refine ⟨by kernel_rfl, ?_⟩ | refine bct c6 ?_)); (conv => whnf)
      exact ret_some (f := fun y => .one (.p (.v (.bool y)))) (g := fun y => []) h hQ
    · replace h := g
      clear g
      (repeat ((conv => whnf); first | refine ⟨by kernel_rfl, ?_⟩ | refine bcf c6 ?_)); (conv => whnf)
      refine br_some h (fun c7 g => ?_) (fun c7 g => ?_)
      · replace h := g
        clear g
        (repeat ((conv => whnf); first | refine ⟨by kernel_rfl, ?_⟩ | refine bct c7 ?_)); (conv => whnf)
        exact ret_some (f := fun y => .one (.p (.v (.bool y)))) (g := fun y => []) h hQ
      · replace h := g
        clear g
        (repeat ((conv => whnf); first | refine ⟨by kernel_rfl, ?_⟩ | refine bcf c7 ?_ | refine bct (at_in am1) ?_ | refine bct (andt (at_in am1) rfl) ?_ | refine row_in (at_row am1) ?_ | refine bct (andt (at_in (at_nat am1)) rfl) ?_ | refine row_in (at_row (at_nat am1)) ?_)); (conv => whnf)
        refine br_some h (fun c8 g => ?_) (fun c8 g => ?_)
        · replace h := g
          clear g
          (repeat ((conv => whnf); first | refine ⟨by kernel_rfl, ?_⟩ | refine bct c8 ?_)); (conv => whnf)
          exact ret_some (f := fun y => .one (.p (.v (.bool y)))) (g := fun y => []) h hQ
        · replace h := g
          clear g
          (repeat ((conv => whnf); first | refine ⟨by kernel_rfl, ?_⟩ | refine bcf c8 ?_)); (conv => whnf)
          exact ih1 _  (wrL hs1 hl1 hi1) h
  · rw [ref09_stood_l1] at h
    refine loop_intro hX ?_
    (repeat ((conv => whnf); first | refine ⟨by kernel_rfl, ?_⟩ | refine eqv_to (map_len _) ?_ | refine bcf (lt_end hi1) ?_)); (conv => whnf)
    exact ret_some (f := fun y => .one (.p (.v (.bool y)))) (g := fun y => []) h hQ
def ref09_Beyond_l1 (p1 : Int) (p2 : Int) : List Frag → Option (Bool)
  | [] =>
    some false
  | x1e :: xs1 =>
    (bnd (ref06_Count_s x1e.vec p1) fun y5 =>
      (br (ltI p2 y5)
        (some true)
        (ref09_Beyond_l1 p1 p2 xs1  )))
def ref09_Beyond_s (p0 : Know) (p1 : Int) (p2 : Int) : Option (Bool) :=
  (bnd (ref06_Count_s p0.star p1) fun y1 =>
    (br (ltI p2 y1)
      (some true)
      (chk (smallL p0.l)
        ((ref09_Beyond_l1 p1 p2) p0.l ))))
theorem ref09_Beyond_c {X : Task → Prop} (hX : Closed X) {p0 : Know} {p1 : Int} {p2 : Int} {r : Bool} {Q : A → List Blk → Prop} (h : ref09_Beyond_s p0 p1 p2 = some r) (hQ : Q (.one (.p (.v (.bool r)))) []) : X (.call 79 [.agg [ic p0.star.x0, ic p0.star.x1, ic p0.star.x2, ic p0.star.x3, ic p0.star.x4, ic p0.star.x5, ic p0.star.x6, ic p0.star.x7, .p (.sl (p0.l.map Frag.row))], iv p1, iv p2] [] Q) := by
  unfold ref09_Beyond_s at h
  refine call_intro hX Try.func79 rfl rfl ?_
  replace h := bnd_some h
  obtain ⟨y1, e2, h⟩ := h
  (repeat ((conv => whnf); first | refine ⟨by kernel_rfl, ?_⟩)); (conv => whnf)
  refine ref06_Count_c hX e2 ?_
  (repeat ((conv => whnf); first | refine ⟨by kernel_rfl, ?_⟩)); (conv => whnf)
  refine br_some h (fun c3 g => ?_) (fun c3 g => ?_)
  · replace h := g
    clear g
    (repeat ((conv => whnf); first | refine ⟨by kernel_rfl, ?_⟩ | refine bct c3 ?_)); (conv => whnf)
    exact ret_some (f := fun y => .one (.p (.v (.bool y)))) (g := fun y => []) h hQ
  · replace h := g
    clear g
    obtain ⟨hs1, h⟩ := chk_some h
    (repeat ((conv => whnf); first | refine ⟨by kernel_rfl, ?_⟩ | refine bcf c3 ?_)); (conv => whnf)
    refine loop_lisx0 (fun (v4 : Int) => pad [(1, iv p1), (0, iv p2), (0, .one (.ptr 0 0)), (3, iv v4)] 23) (fun (v4 : Int) => [.box [ic p0.star.x0, ic p0.star.x1, ic p0.star.x2, ic p0.star.x3, ic p0.star.x4, ic p0.star.x5, ic p0.star.x6, ic p0.star.x7, .p (.sl (p0.l.map Frag.row))]]) _ p0.l (fun pre1 x1e xs1 v4  hl1 hi1 h ih1 => ?_) (fun v4  hi1 h => ?_)  h
    · rw [ref09_Beyond_l1] at h
      have am1 := at_mid hl1 hi1
      refine loop_intro hX ?_
      replace h := bnd_some h
      obtain ⟨y5, e6, h⟩ := h
      (repeat ((conv => whnf); first | refine ⟨by kernel_rfl, ?_⟩ | refine eqv_to (map_len _) ?_ | refine bct (lt_mid hl1 hi1) ?_ | refine bct (at_in am1) ?_ | refine bct (andt (at_in am1) rfl) ?_ | refine row_in (at_row am1) ?_ | refine bct (andt (at_in (at_nat am1)) rfl) ?_ | refine row_in (at_row (at_nat am1)) ?_)); (conv => whnf)
      refine ref06_Count_c hX e6 ?_
      (repeat ((conv => whnf); first | refine ⟨by kernel_rfl, ?_⟩)); (conv => whnf)
      refine br_some h (fun c7 g => ?_) (fun c7 g => ?_)
      · replace h := g
        clear g
        (repeat ((conv => whnf); first | refine ⟨by kernel_rfl, ?_⟩ | refine bct c7 ?_)); (conv => whnf)
        exact ret_some (f := fun y => .one (.p (.v (.bool y)))) (g := fun y => []) h hQ
      · replace h := g
        clear g
        (repeat ((conv => whnf); first | refine ⟨by kernel_rfl, ?_⟩ | refine bcf c7 ?_)); (conv => whnf)
        exact ih1 _  (wrL hs1 hl1 hi1) h
    · rw [ref09_Beyond_l1] at h
      refine loop_intro hX ?_
      (repeat ((conv => whnf); first | refine ⟨by kernel_rfl, ?_⟩ | refine eqv_to (map_len _) ?_ | refine bcf (lt_end hi1) ?_)); (conv => whnf)
      exact ret_some (f := fun y => .one (.p (.v (.bool y)))) (g := fun y => []) h hQ
def ref09_May_l1 (p0 : State) : List Item → Option (Bool)
  | [] =>
    (bnd (ref09_stood_s p0 p0.store true) fun y26 =>
      (bnd (ref09_stood_s p0 p0.out false) fun y28 =>
        (bnd (ref09_Beyond_s p0.k p0.r p0.count) fun y30 =>
          (br y26
            (br y28
              (some (!y30))
              (some false))
            (some false)))))
  | x1e :: xs1 =>
    (bnd (ref06_Get_s p0.store x1e.id) fun y23 =>
      (br y23.2
        (some false)
        (ref09_May_l1 p0 xs1  )))
def ref09_May_s (p0 : State) : Option (Bool) :=
  (bnd (ref03_May_s p0.f) fun y1 =>
    (bnd (ref06_MayList_s p0.store) fun y3 =>
      (bnd (ref06_MayList_s p0.out) fun y5 =>
        (bnd (ref06_May_s p0.k) fun y7 =>
          (br (!y1)
            (some false)
            (br (!y3)
              (some false)
              (br (!y5)
                (some false)
                (br (!y7)
                  (some false)
                  (br (ltI p0.r 1)
                    (some false)
                    (br (ltI 8 p0.r)
                      (some false)
                      (br (ltI 40 (wr .i64 ((p0.store.length : Int) + (p0.out.length : Int))))
                        (some false)
                        (br (ltI p0.count 0)
                          (some false)
                          (br (ltI 1000 p0.count)
                            (some false)
                            (br (ltI p0.clock 0)
                              (some false)
                              (br (ltI 1000000 p0.clock)
                                (some false)
                                (br (ltI p0.epoch 0)
                                  (some false)
                                  (br (ltI 1000000 p0.epoch)
                                    (some false)
                                    (chk (smallL p0.out)
                                      ((ref09_May_l1 p0) p0.out )))))))))))))))))))
theorem ref09_May_c {X : Task → Prop} (hX : Closed X) {p0 : State} {r : Bool} {Q : A → List Blk → Prop} (h : ref09_May_s p0 = some r) (hQ : Q (.one (.p (.v (.bool r)))) []) : X (.call 16 [.agg [ic p0.r, ic p0.f.op, .p (.v (.string p0.f.text)), ic p0.f.n, .p (.v (.complex .f64 p0.f.re p0.f.im)), .p (.sl (Pred.rows p0.f.kids)), .p (.sl (p0.store.map Item.row)), .p (.sl (p0.out.map Item.row)), ic p0.k.star.x0, ic p0.k.star.x1, ic p0.k.star.x2, ic p0.k.star.x3, ic p0.k.star.x4, ic p0.k.star.x5, ic p0.k.star.x6, ic p0.k.star.x7, .p (.sl (p0.k.l.map Frag.row)), ic p0.count, ic p0.clock, ic p0.epoch]] [] Q) := by
  unfold ref09_May_s at h
  refine call_intro hX Try.func16 rfl rfl ?_
  replace h := bnd_some h
  obtain ⟨y1, e2, h⟩ := h
  (repeat ((conv => whnf); first | refine ⟨by kernel_rfl, ?_⟩)); (conv => whnf)
  refine ref03_May_c hX e2 ?_
  replace h := bnd_some h
  obtain ⟨y3, e4, h⟩ := h
  (repeat ((conv => whnf); first | refine ⟨by kernel_rfl, ?_⟩)); (conv => whnf)
  refine ref06_MayList_c hX e4 ?_
  replace h := bnd_some h
  obtain ⟨y5, e6, h⟩ := h
  (repeat ((conv => whnf); first | refine ⟨by kernel_rfl, ?_⟩)); (conv => whnf)
  refine ref06_MayList_c hX e6 ?_
  replace h := bnd_some h
  obtain ⟨y7, e8, h⟩ := h
  (repeat ((conv => whnf); first | refine ⟨by kernel_rfl, ?_⟩)); (conv => whnf)
  refine ref06_May_c hX e8 ?_
  (repeat ((conv => whnf); first | refine ⟨by kernel_rfl, ?_⟩)); (conv => whnf)
  refine br_some h (fun c9 g => ?_) (fun c9 g => ?_)
  · replace h := g
    clear g
    (repeat ((conv => whnf); first | refine ⟨by kernel_rfl, ?_⟩ | refine bct c9 ?_)); (conv => whnf)
    exact ret_some (f := fun y => .one (.p (.v (.bool y)))) (g := fun y => []) h hQ
  · replace h := g
    clear g
    (repeat ((conv => whnf); first | refine ⟨by kernel_rfl, ?_⟩ | refine bcf c9 ?_)); (conv => whnf)
    refine br_some h (fun c10 g => ?_) (fun c10 g => ?_)
    · replace h := g
      clear g
      (repeat ((conv => whnf); first | refine ⟨by kernel_rfl, ?_⟩ | refine bct c10 ?_)); (conv => whnf)
      exact ret_some (f := fun y => .one (.p (.v (.bool y)))) (g := fun y => []) h hQ
    · replace h := g
      clear g
      (repeat ((conv => whnf); first | refine ⟨by kernel_rfl, ?_⟩ | refine bcf c10 ?_)); (conv => whnf)
      refine br_some h (fun c11 g => ?_) (fun c11 g => ?_)
      · replace h := g
        clear g
        (repeat ((conv => whnf); first | refine ⟨by kernel_rfl, ?_⟩ | refine bct c11 ?_)); (conv => whnf)
        exact ret_some (f := fun y => .one (.p (.v (.bool y)))) (g := fun y => []) h hQ
      · replace h := g
        clear g
        (repeat ((conv => whnf); first | refine ⟨by kernel_rfl, ?_⟩ | refine bcf c11 ?_)); (conv => whnf)
        refine br_some h (fun c12 g => ?_) (fun c12 g => ?_)
        · replace h := g
          clear g
          (repeat ((conv => whnf); first | refine ⟨by kernel_rfl, ?_⟩ | refine bct c12 ?_)); (conv => whnf)
          exact ret_some (f := fun y => .one (.p (.v (.bool y)))) (g := fun y => []) h hQ
        · replace h := g
          clear g
          (repeat ((conv => whnf); first | refine ⟨by kernel_rfl, ?_⟩ | refine bcf c12 ?_)); (conv => whnf)
          refine br_some h (fun c13 g => ?_) (fun c13 g => ?_)
          · replace h := g
            clear g
            (repeat ((conv => whnf); first | refine ⟨by kernel_rfl, ?_⟩ | refine bct c13 ?_)); (conv => whnf)
            exact ret_some (f := fun y => .one (.p (.v (.bool y)))) (g := fun y => []) h hQ
          · replace h := g
            clear g
            (repeat ((conv => whnf); first | refine ⟨by kernel_rfl, ?_⟩ | refine bcf c13 ?_)); (conv => whnf)
            refine br_some h (fun c14 g => ?_) (fun c14 g => ?_)
            · replace h := g
              clear g
              (repeat ((conv => whnf); first | refine ⟨by kernel_rfl, ?_⟩ | refine bct c14 ?_)); (conv => whnf)
              exact ret_some (f := fun y => .one (.p (.v (.bool y)))) (g := fun y => []) h hQ
            · replace h := g
              clear g
              (repeat ((conv => whnf); first | refine ⟨by kernel_rfl, ?_⟩ | refine bcf c14 ?_ | refine eqv_to (map_len _) ?_)); (conv => whnf)
              refine br_some h (fun c15 g => ?_) (fun c15 g => ?_)
              · replace h := g
                clear g
                (repeat ((conv => whnf); first | refine ⟨by kernel_rfl, ?_⟩ | refine bct c15 ?_)); (conv => whnf)
                exact ret_some (f := fun y => .one (.p (.v (.bool y)))) (g := fun y => []) h hQ
              · replace h := g
                clear g
                (repeat ((conv => whnf); first | refine ⟨by kernel_rfl, ?_⟩ | refine bcf c15 ?_)); (conv => whnf)
                refine br_some h (fun c16 g => ?_) (fun c16 g => ?_)
                · replace h := g
                  clear g
                  (repeat ((conv => whnf); first | refine ⟨by kernel_rfl, ?_⟩ | refine bct c16 ?_)); (conv => whnf)
                  exact ret_some (f := fun y => .one (.p (.v (.bool y)))) (g := fun y => []) h hQ
                · replace h := g
                  clear g
                  (repeat ((conv => whnf); first | refine ⟨by kernel_rfl, ?_⟩ | refine bcf c16 ?_)); (conv => whnf)
                  refine br_some h (fun c17 g => ?_) (fun c17 g => ?_)
                  · replace h := g
                    clear g
                    (repeat ((conv => whnf); first | refine ⟨by kernel_rfl, ?_⟩ | refine bct c17 ?_)); (conv => whnf)
                    exact ret_some (f := fun y => .one (.p (.v (.bool y)))) (g := fun y => []) h hQ
                  · replace h := g
                    clear g
                    (repeat ((conv => whnf); first | refine ⟨by kernel_rfl, ?_⟩ | refine bcf c17 ?_)); (conv => whnf)
                    refine br_some h (fun c18 g => ?_) (fun c18 g => ?_)
                    · replace h := g
                      clear g
                      (repeat ((conv => whnf); first | refine ⟨by kernel_rfl, ?_⟩ | refine bct c18 ?_)); (conv => whnf)
                      exact ret_some (f := fun y => .one (.p (.v (.bool y)))) (g := fun y => []) h hQ
                    · replace h := g
                      clear g
                      (repeat ((conv => whnf); first | refine ⟨by kernel_rfl, ?_⟩ | refine bcf c18 ?_)); (conv => whnf)
                      refine br_some h (fun c19 g => ?_) (fun c19 g => ?_)
                      · replace h := g
                        clear g
                        (repeat ((conv => whnf); first | refine ⟨by kernel_rfl, ?_⟩ | refine bct c19 ?_)); (conv => whnf)
                        exact ret_some (f := fun y => .one (.p (.v (.bool y)))) (g := fun y => []) h hQ
                      · replace h := g
                        clear g
                        (repeat ((conv => whnf); first | refine ⟨by kernel_rfl, ?_⟩ | refine bcf c19 ?_)); (conv => whnf)
                        refine br_some h (fun c20 g => ?_) (fun c20 g => ?_)
                        · replace h := g
                          clear g
                          (repeat ((conv => whnf); first | refine ⟨by kernel_rfl, ?_⟩ | refine bct c20 ?_)); (conv => whnf)
                          exact ret_some (f := fun y => .one (.p (.v (.bool y)))) (g := fun y => []) h hQ
                        · replace h := g
                          clear g
                          (repeat ((conv => whnf); first | refine ⟨by kernel_rfl, ?_⟩ | refine bcf c20 ?_)); (conv => whnf)
                          refine br_some h (fun c21 g => ?_) (fun c21 g => ?_)
                          · replace h := g
                            clear g
                            (repeat ((conv => whnf); first | refine ⟨by kernel_rfl, ?_⟩ | refine bct c21 ?_)); (conv => whnf)
                            exact ret_some (f := fun y => .one (.p (.v (.bool y)))) (g := fun y => []) h hQ
                          · replace h := g
                            clear g
                            obtain ⟨hs1, h⟩ := chk_some h
                            (repeat ((conv => whnf); first | refine ⟨by kernel_rfl, ?_⟩ | refine bcf c21 ?_)); (conv => whnf)
                            refine loop_lisx0 (fun (v22 : Int) => pad [(1, .one (.ptr 0 0)), (5, iv v22)] 122) (fun (v22 : Int) => [.box [ic p0.r, ic p0.f.op, .p (.v (.string p0.f.text)), ic p0.f.n, .p (.v (.complex .f64 p0.f.re p0.f.im)), .p (.sl (Pred.rows p0.f.kids)), .p (.sl (p0.store.map Item.row)), .p (.sl (p0.out.map Item.row)), ic p0.k.star.x0, ic p0.k.star.x1, ic p0.k.star.x2, ic p0.k.star.x3, ic p0.k.star.x4, ic p0.k.star.x5, ic p0.k.star.x6, ic p0.k.star.x7, .p (.sl (p0.k.l.map Frag.row)), ic p0.count, ic p0.clock, ic p0.epoch]]) _ p0.out (fun pre1 x1e xs1 v22  hl1 hi1 h ih1 => ?_) (fun v22  hi1 h => ?_)  h
                            · rw [ref09_May_l1] at h
                              have am1 := at_mid hl1 hi1
                              refine loop_intro hX ?_
                              replace h := bnd_some h
                              obtain ⟨y23, e24, h⟩ := h
                              (repeat ((conv => whnf); first | refine ⟨by kernel_rfl, ?_⟩ | refine eqv_to (map_len _) ?_ | refine bct (lt_mid hl1 hi1) ?_ | refine bct (at_in am1) ?_ | refine bct (andt (at_in am1) rfl) ?_ | refine row_in (at_row am1) ?_ | refine bct (andt (at_in (at_nat am1)) rfl) ?_ | refine row_in (at_row (at_nat am1)) ?_)); (conv => whnf)
                              refine ref06_Get_c hX e24 ?_
                              (repeat ((conv => whnf); first | refine ⟨by kernel_rfl, ?_⟩)); (conv => whnf)
                              refine br_some h (fun c25 g => ?_) (fun c25 g => ?_)
                              · replace h := g
                                clear g
                                (repeat ((conv => whnf); first | refine ⟨by kernel_rfl, ?_⟩ | refine bct c25 ?_)); (conv => whnf)
                                exact ret_some (f := fun y => .one (.p (.v (.bool y)))) (g := fun y => []) h hQ
                              · replace h := g
                                clear g
                                (repeat ((conv => whnf); first | refine ⟨by kernel_rfl, ?_⟩ | refine bcf c25 ?_)); (conv => whnf)
                                exact ih1 _  (wrL hs1 hl1 hi1) h
                            · rw [ref09_May_l1] at h
                              refine loop_intro hX ?_
                              replace h := bnd_some h
                              obtain ⟨y26, e27, h⟩ := h
                              (repeat ((conv => whnf); first | refine ⟨by kernel_rfl, ?_⟩ | refine eqv_to (map_len _) ?_ | refine bcf (lt_end hi1) ?_)); (conv => whnf)
                              refine ref09_stood_c hX e27 ?_
                              replace h := bnd_some h
                              obtain ⟨y28, e29, h⟩ := h
                              (repeat ((conv => whnf); first | refine ⟨by kernel_rfl, ?_⟩)); (conv => whnf)
                              refine ref09_stood_c hX e29 ?_
                              replace h := bnd_some h
                              obtain ⟨y30, e31, h⟩ := h
                              (repeat ((conv => whnf); first | refine ⟨by kernel_rfl, ?_⟩)); (conv => whnf)
                              refine ref09_Beyond_c hX e31 ?_
                              (repeat ((conv => whnf); first | refine ⟨by kernel_rfl, ?_⟩)); (conv => whnf)
                              refine br_some h (fun c32 g => ?_) (fun c32 g => ?_)
                              · replace h := g
                                clear g
                                (repeat ((conv => whnf); first | refine ⟨by kernel_rfl, ?_⟩ | refine bct c32 ?_)); (conv => whnf)
                                refine br_some h (fun c33 g => ?_) (fun c33 g => ?_)
                                · replace h := g
                                  clear g
                                  (repeat ((conv => whnf); first | refine ⟨by kernel_rfl, ?_⟩ | refine bct c33 ?_)); (conv => whnf)
                                  exact ret_some (f := fun y => .one (.p (.v (.bool y)))) (g := fun y => []) h hQ
                                · replace h := g
                                  clear g
                                  (repeat ((conv => whnf); first | refine ⟨by kernel_rfl, ?_⟩ | refine bcf c33 ?_)); (conv => whnf)
                                  exact ret_some (f := fun y => .one (.p (.v (.bool y)))) (g := fun y => []) h hQ
                              · replace h := g
                                clear g
                                (repeat ((conv => whnf); first | refine ⟨by kernel_rfl, ?_⟩ | refine bcf c32 ?_)); (conv => whnf)
                                exact ret_some (f := fun y => .one (.p (.v (.bool y)))) (g := fun y => []) h hQ
def fresh_Pred_l1 (p0 : Pred) (rc : Pred → Option Pred) : List Pred → (List Pred) → Option (Pred)
  | [], v2 =>
    some (Pred.mk p0.op p0.text p0.n p0.re p0.im v2)
  | x1e :: xs1, v2 =>
    (bnd (rc x1e) fun y3 =>
      (chk (roomL v2.length 1)
        (fresh_Pred_l1 p0 rc xs1  (v2 ++ [y3]))))
def fresh_Pred_b (rc : Pred → Option Pred) (p0 : Pred) : Option (Pred) :=
  (chk (smallL p0.kids)
    ((fresh_Pred_l1 p0 rc) p0.kids ([] : List Pred)))
def fresh_Pred_s : Nat → Pred → Option Pred
  | 0 => fun _ => none
  | n + 1 => fresh_Pred_b (fresh_Pred_s n)
theorem fresh_Pred_c {X : Task → Prop} (hX : Closed X) : ∀ (n : Nat) {p0 : Pred} {r : Pred} {Q : A → List Blk → Prop} (h : fresh_Pred_s n p0 = some r) (hQ : Q (.agg [ic r.op, .p (.v (.string r.text)), ic r.n, .p (.v (.complex .f64 r.re r.im)), .p (.sl (Pred.rows r.kids))]) []), X (.call 80 [.agg [ic p0.op, .p (.v (.string p0.text)), ic p0.n, .p (.v (.complex .f64 p0.re p0.im)), .p (.sl (Pred.rows p0.kids))]] [] Q) := by
  intro n
  induction n with
  | zero => intro p0 r Q h; cases h
  | succ n ih =>
    intro p0 r Q h hQ
    replace h : fresh_Pred_b (fresh_Pred_s n) p0 = some r := h
    generalize fresh_Pred_s n = rc at ih h
    unfold fresh_Pred_b at h
    refine call_nz hX ?_
    conv => whnf
    refine call_intro hX Try.func80 rfl rfl ?_
    obtain ⟨hs1, h⟩ := chk_some h
    (repeat ((conv => whnf); first | refine ⟨by kernel_rfl, ?_⟩ | refine eqv_to (Pred.pmap_len _) ?_)); (conv => whnf)
    refine loop_k hX [5, 0] ?_
    conv => whnf
    refine loop_lisx1 (fun (v1 : Int) (v2 : List Pred) => pad [(1, .one (.ptr 0 0)), (0, .one (.ptr 2 0)), (6, .one (.p (.sl (Pred.rows p0.kids)))), (0, iv (p0.kids.length : Int)), (0, iv v1)] 12) (fun (v1 : Int) (v2 : List Pred) => [.box [ic p0.op, .p (.v (.string p0.text)), ic p0.n, .p (.v (.complex .f64 p0.re p0.im)), .own 1], .rows 5 (Pred.rows v2), .box [ic 0, .p (.v (.string ⟨#[]⟩)), ic 0, .p (.v (.complex .f64 0 0)), .own 3], .rows 0 []]) _ p0.kids (fun pre1 x1e xs1 v1 v2 hl1 hi1 h ih1 => ?_) (fun v1 v2 hi1 h => ?_) ([] : List Pred) h
    · rw [fresh_Pred_l1] at h
      have am1 := at_mid hl1 hi1
      refine loop_intro hX ?_
      replace h := bnd_some h
      obtain ⟨y3, e4, h⟩ := h
      (repeat ((conv => whnf); first | refine ⟨by kernel_rfl, ?_⟩ | refine bct (lt_mid hl1 hi1) ?_ | refine bct (Pred.pat_in am1) ?_ | refine bct (andt (Pred.pat_in am1) rfl) ?_ | refine row_in (Pred.pat_row am1) ?_ | refine bct (andt (Pred.pat_in (at_nat am1)) rfl) ?_ | refine row_in (Pred.pat_row (at_nat am1)) ?_)); (conv => whnf)
      refine ih e4 ?_
      replace h := chk_some h
      obtain ⟨c5, h⟩ := h
      (repeat ((conv => whnf); first | refine ⟨by kernel_rfl, ?_⟩ | refine bct (Pred.proom_map c5 rfl rfl rfl rfl) ?_ | refine eqv_to (Pred.pcat_one v2 y3) ?_)); (conv => whnf)
      exact ih1 _ (v2 ++ [y3]) (wrL hs1 hl1 hi1) h
    · rw [fresh_Pred_l1] at h
      refine loop_intro hX ?_
      (repeat ((conv => whnf); first | refine ⟨by kernel_rfl, ?_⟩ | refine bcf (lt_end hi1) ?_)); (conv => whnf)
      exact ret_some (f := fun y => .agg [ic y.op, .p (.v (.string y.text)), ic y.n, .p (.v (.complex .f64 y.re y.im)), .p (.sl (Pred.rows y.kids))]) (g := fun y => []) h hQ
def fresh_Know_l1 (p0 : Know) : List Frag → (List Frag) → Option (Know)
  | [], v2 =>
    some (Know.mk p0.star v2)
  | x1e :: xs1, v2 =>
    (bnd (clone_s x1e.ids) fun y3 =>
      (chk (roomL v2.length 1)
        (fresh_Know_l1 p0 xs1  (v2 ++ [(Frag.mk y3 x1e.vec)]))))
def fresh_Know_s (p0 : Know) : Option (Know) :=
  (chk (smallL p0.l)
    ((fresh_Know_l1 p0) p0.l ([] : List Frag)))
theorem fresh_Know_c {X : Task → Prop} (hX : Closed X) {p0 : Know} {r : Know} {Q : A → List Blk → Prop} (h : fresh_Know_s p0 = some r) (hQ : Q (.agg [ic r.star.x0, ic r.star.x1, ic r.star.x2, ic r.star.x3, ic r.star.x4, ic r.star.x5, ic r.star.x6, ic r.star.x7, .p (.sl (r.l.map Frag.row))]) []) : X (.call 81 [.agg [ic p0.star.x0, ic p0.star.x1, ic p0.star.x2, ic p0.star.x3, ic p0.star.x4, ic p0.star.x5, ic p0.star.x6, ic p0.star.x7, .p (.sl (p0.l.map Frag.row))]] [] Q) := by
  unfold fresh_Know_s at h
  refine call_nz hX ?_
  conv => whnf
  refine call_intro hX Try.func81 rfl rfl ?_
  obtain ⟨hs1, h⟩ := chk_some h
  (repeat ((conv => whnf); first | refine ⟨by kernel_rfl, ?_⟩ | refine eqv_to (map_len _) ?_)); (conv => whnf)
  refine loop_nc hX ?_
  conv => whnf
  refine loop_k hX [0, 9] ?_
  conv => whnf
  refine loop_lisx1 (fun (v1 : Int) (v2 : List Frag) => pad [(2, .one (.ptr 0 0)), (0, .one (.ptr 2 0)), (6, .one (.p (.sl (p0.l.map Frag.row)))), (0, iv (p0.l.length : Int)), (0, iv v1)] 16) (fun (v1 : Int) (v2 : List Frag) => [.box [ic 0, ic 0, ic 0, ic 0, ic 0, ic 0, ic 0, ic 0, .own 1], .rows 0 [], .box [ic p0.star.x0, ic p0.star.x1, ic p0.star.x2, ic p0.star.x3, ic p0.star.x4, ic p0.star.x5, ic p0.star.x6, ic p0.star.x7, .own 3], .rows 9 (v2.map Frag.row)]) _ p0.l (fun pre1 x1e xs1 v1 v2 hl1 hi1 h ih1 => ?_) (fun v1 v2 hi1 h => ?_) ([] : List Frag) h
  · rw [fresh_Know_l1] at h
    have am1 := at_mid hl1 hi1
    refine loop_intro hX ?_
    replace h := bnd_some h
    obtain ⟨y3, e4, h⟩ := h
    (repeat ((conv => whnf); first | refine ⟨by kernel_rfl, ?_⟩ | refine bct (lt_mid hl1 hi1) ?_ | refine bct (at_in am1) ?_ | refine bct (andt (at_in am1) rfl) ?_ | refine row_in (at_row am1) ?_ | refine bct (andt (at_in (at_nat am1)) rfl) ?_ | refine row_in (at_row (at_nat am1)) ?_)); (conv => whnf)
    refine clone_c (f := srw) (k := 1) (fun _ => rfl) (by decide) hX e4 ?_
    replace h := chk_some h
    obtain ⟨c5, h⟩ := h
    (repeat ((conv => whnf); first | refine ⟨by kernel_rfl, ?_⟩ | refine bct (room_map c5 rfl rfl rfl rfl) ?_ | refine eqv_to (cat_one (f := Frag.row) v2 (Frag.mk y3 x1e.vec)) ?_)); (conv => whnf)
    exact ih1 _ (v2 ++ [(Frag.mk y3 x1e.vec)]) (wrL hs1 hl1 hi1) h
  · rw [fresh_Know_l1] at h
    refine loop_intro hX ?_
    (repeat ((conv => whnf); first | refine ⟨by kernel_rfl, ?_⟩ | refine bcf (lt_end hi1) ?_)); (conv => whnf)
    exact ret_some (f := fun y => .agg [ic y.star.x0, ic y.star.x1, ic y.star.x2, ic y.star.x3, ic y.star.x4, ic y.star.x5, ic y.star.x6, ic y.star.x7, .p (.sl (y.l.map Frag.row))]) (g := fun y => []) h hQ
def ask_Open_l1 (p0 : State) (p1 : Int) (p2 : Int) (y1 : Pred) (y3 : Know) : List Item → (List Has) → Option (Sess × Msg)
  | [], v6 =>
    some ((Sess.mk p2 p1 p0.epoch 0 ([] : List Int) false false false 0 (Know.mk (V8.mk 0 0 0 0 0 0 0 0) ([] : List Frag)) ([] : List Entry)), (Msg.mk 1 p0.r p1 p2 0 y1 y3 v6 0 [] false))
  | x1e :: xs1, v6 =>
    (chk (roomL v6.length 1)
      (ask_Open_l1 p0 p1 p2 y1 y3 xs1  (v6 ++ [(Has.mk x1e.id x1e.vr x1e.vc x1e.stamp)])))
def ask_Open_s (p0 : State) (p1 : Int) (p2 : Int) : Option (Sess × Msg) :=
  (bnd (fresh_Pred_s fuelR p0.f) fun y1 =>
    (bnd (fresh_Know_s p0.k) fun y3 =>
      (chk (smallL p0.store)
        ((ask_Open_l1 p0 p1 p2 y1 y3) p0.store ([] : List Has)))))
theorem ask_Open_c {X : Task → Prop} (hX : Closed X) {p0 : State} {p1 : Int} {p2 : Int} {r : Sess × Msg} {Q : A → List Blk → Prop} (h : ask_Open_s p0 p1 p2 = some r) (hQ : Q (.tup [.agg [ic r.1.sid, ic r.1.with_, ic r.1.epoch, ic r.1.turn, .p (.sl (r.1.got.map irw)), .p (.v (.bool r.1.bad)), .p (.v (.bool r.1.told)), .p (.v (.bool r.1.over)), ic r.1.n, ic r.1.k.star.x0, ic r.1.k.star.x1, ic r.1.k.star.x2, ic r.1.k.star.x3, ic r.1.k.star.x4, ic r.1.k.star.x5, ic r.1.k.star.x6, ic r.1.k.star.x7, .p (.sl (r.1.k.l.map Frag.row)), .p (.sl (r.1.l.map Entry.row))], .agg [ic r.2.kind, ic r.2.src, ic r.2.dst, ic r.2.sid, ic r.2.turn, ic r.2.f.op, .p (.v (.string r.2.f.text)), ic r.2.f.n, .p (.v (.complex .f64 r.2.f.re r.2.f.im)), .p (.sl (Pred.rows r.2.f.kids)), ic r.2.k.star.x0, ic r.2.k.star.x1, ic r.2.k.star.x2, ic r.2.k.star.x3, ic r.2.k.star.x4, ic r.2.k.star.x5, ic r.2.k.star.x6, ic r.2.k.star.x7, .p (.sl (r.2.k.l.map Frag.row)), .p (.sl (r.2.have_.map Has.row)), ic r.2.n, .p (.sl (r.2.l.map Entry.row)), .p (.v (.bool r.2.star))]]) []) : X (.call 17 [.agg [ic p0.r, ic p0.f.op, .p (.v (.string p0.f.text)), ic p0.f.n, .p (.v (.complex .f64 p0.f.re p0.f.im)), .p (.sl (Pred.rows p0.f.kids)), .p (.sl (p0.store.map Item.row)), .p (.sl (p0.out.map Item.row)), ic p0.k.star.x0, ic p0.k.star.x1, ic p0.k.star.x2, ic p0.k.star.x3, ic p0.k.star.x4, ic p0.k.star.x5, ic p0.k.star.x6, ic p0.k.star.x7, .p (.sl (p0.k.l.map Frag.row)), ic p0.count, ic p0.clock, ic p0.epoch], iv p1, iv p2] [] Q) := by
  unfold ask_Open_s at h
  refine call_nz hX ?_
  conv => whnf
  refine call_intro hX Try.func17 rfl rfl ?_
  replace h := bnd_some h
  obtain ⟨y1, e2, h⟩ := h
  (repeat ((conv => whnf); first | refine ⟨by kernel_rfl, ?_⟩)); (conv => whnf)
  refine fresh_Pred_c hX fuelR e2 ?_
  replace h := bnd_some h
  obtain ⟨y3, e4, h⟩ := h
  (repeat ((conv => whnf); first | refine ⟨by kernel_rfl, ?_⟩)); (conv => whnf)
  refine fresh_Know_c hX e4 ?_
  obtain ⟨hs1, h⟩ := chk_some h
  (repeat ((conv => whnf); first | refine ⟨by kernel_rfl, ?_⟩ | refine eqv_to (map_len _) ?_)); (conv => whnf)
  refine loop_nc hX ?_
  conv => whnf
  refine loop_k hX [0, 0, 0, 0, 0, 0, 0, 4, 0] ?_
  conv => whnf
  refine loop_lisx1 (fun (v5 : Int) (v6 : List Has) => pad [(1, iv p1), (0, iv p2), (0, .one (.ptr 0 0)), (2, .one (.ptr 1 0)), (0, .one (.ptr 5 0)), (0, .one (.ptr 10 0)), (14, .one (.p (.sl (p0.store.map Item.row)))), (0, iv (p0.store.length : Int)), (0, iv v5)] 22) (fun (v5 : Int) (v6 : List Has) => [.box [ic p0.r, ic p0.f.op, .p (.v (.string p0.f.text)), ic p0.f.n, .p (.v (.complex .f64 p0.f.re p0.f.im)), .p (.sl (Pred.rows p0.f.kids)), .p (.sl (p0.store.map Item.row)), .p (.sl (p0.out.map Item.row)), ic p0.k.star.x0, ic p0.k.star.x1, ic p0.k.star.x2, ic p0.k.star.x3, ic p0.k.star.x4, ic p0.k.star.x5, ic p0.k.star.x6, ic p0.k.star.x7, .p (.sl (p0.k.l.map Frag.row)), ic p0.count, ic p0.clock, ic p0.epoch], .box [ic 0, ic 0, ic 0, ic 0, .own 2, .p (.v (.bool false)), .p (.v (.bool false)), .p (.v (.bool false)), ic 0, ic 0, ic 0, ic 0, ic 0, ic 0, ic 0, ic 0, ic 0, .own 3, .own 4], .rows 0 [], .rows 0 [], .rows 0 [], .box [ic 0, ic 0, ic 0, ic 0, ic 0, ic 0, .p (.v (.string ⟨#[]⟩)), ic 0, .p (.v (.complex .f64 0 0)), .own 6, ic 0, ic 0, ic 0, ic 0, ic 0, ic 0, ic 0, ic 0, .own 7, .own 8, ic 0, .own 9, .p (.v (.bool false))], .rows 0 [], .rows 0 [], .rows 0 [], .rows 0 [], .box [ic 1, ic p0.r, ic p1, ic p2, ic 0, ic y1.op, .p (.v (.string y1.text)), ic y1.n, .p (.v (.complex .f64 y1.re y1.im)), .p (.sl (Pred.rows y1.kids)), ic y3.star.x0, ic y3.star.x1, ic y3.star.x2, ic y3.star.x3, ic y3.star.x4, ic y3.star.x5, ic y3.star.x6, ic y3.star.x7, .p (.sl (y3.l.map Frag.row)), .own 11, ic 0, .own 12, .p (.v (.bool false))], .rows 4 (v6.map Has.row), .rows 0 []]) _ p0.store (fun pre1 x1e xs1 v5 v6 hl1 hi1 h ih1 => ?_) (fun v5 v6 hi1 h => ?_) ([] : List Has) h
  · rw [ask_Open_l1] at h
    have am1 := at_mid hl1 hi1
    refine loop_intro hX ?_
    replace h := chk_some h
    obtain ⟨c7, h⟩ := h
    (repeat ((conv => whnf); first | refine ⟨by kernel_rfl, ?_⟩ | refine bct (lt_mid hl1 hi1) ?_ | refine bct (at_in am1) ?_ | refine bct (andt (at_in am1) rfl) ?_ | refine row_in (at_row am1) ?_ | refine bct (andt (at_in (at_nat am1)) rfl) ?_ | refine row_in (at_row (at_nat am1)) ?_ | refine bct (room_map c7 rfl rfl rfl rfl) ?_ | refine eqv_to (cat_one (f := Has.row) v6 (Has.mk x1e.id x1e.vr x1e.vc x1e.stamp)) ?_)); (conv => whnf)
    exact ih1 _ (v6 ++ [(Has.mk x1e.id x1e.vr x1e.vc x1e.stamp)]) (wrL hs1 hl1 hi1) h
  · rw [ask_Open_l1] at h
    refine loop_intro hX ?_
    (repeat ((conv => whnf); first | refine ⟨by kernel_rfl, ?_⟩ | refine bcf (lt_end hi1) ?_)); (conv => whnf)
    exact ret_some (f := fun y => .tup [.agg [ic y.1.sid, ic y.1.with_, ic y.1.epoch, ic y.1.turn, .p (.sl (y.1.got.map irw)), .p (.v (.bool y.1.bad)), .p (.v (.bool y.1.told)), .p (.v (.bool y.1.over)), ic y.1.n, ic y.1.k.star.x0, ic y.1.k.star.x1, ic y.1.k.star.x2, ic y.1.k.star.x3, ic y.1.k.star.x4, ic y.1.k.star.x5, ic y.1.k.star.x6, ic y.1.k.star.x7, .p (.sl (y.1.k.l.map Frag.row)), .p (.sl (y.1.l.map Entry.row))], .agg [ic y.2.kind, ic y.2.src, ic y.2.dst, ic y.2.sid, ic y.2.turn, ic y.2.f.op, .p (.v (.string y.2.f.text)), ic y.2.f.n, .p (.v (.complex .f64 y.2.f.re y.2.f.im)), .p (.sl (Pred.rows y.2.f.kids)), ic y.2.k.star.x0, ic y.2.k.star.x1, ic y.2.k.star.x2, ic y.2.k.star.x3, ic y.2.k.star.x4, ic y.2.k.star.x5, ic y.2.k.star.x6, ic y.2.k.star.x7, .p (.sl (y.2.k.l.map Frag.row)), .p (.sl (y.2.have_.map Has.row)), ic y.2.n, .p (.sl (y.2.l.map Entry.row)), .p (.v (.bool y.2.star))]]) (g := fun y => []) h hQ
def ref11_Open_l1 (p0 : State) (p1 : Int) (p2 : Int) : List Item → (List Has) → Option (Sess × Msg)
  | [], v2 =>
    some ((Sess.mk p2 p1 p0.epoch 0 ([] : List Int) false false false 0 (Know.mk (V8.mk 0 0 0 0 0 0 0 0) ([] : List Frag)) ([] : List Entry)), (Msg.mk 1 p0.r p1 p2 0 p0.f p0.k v2 0 [] false))
  | x1e :: xs1, v2 =>
    (chk (roomL v2.length 1)
      (ref11_Open_l1 p0 p1 p2 xs1  (v2 ++ [(Has.mk x1e.id x1e.vr x1e.vc x1e.stamp)])))
def ref11_Open_s (p0 : State) (p1 : Int) (p2 : Int) : Option (Sess × Msg) :=
  (chk (smallL p0.store)
    ((ref11_Open_l1 p0 p1 p2) p0.store ([] : List Has)))
theorem ref11_Open_c {X : Task → Prop} (hX : Closed X) {p0 : State} {p1 : Int} {p2 : Int} {r : Sess × Msg} {Q : A → List Blk → Prop} (h : ref11_Open_s p0 p1 p2 = some r) (hQ : Q (.tup [.agg [ic r.1.sid, ic r.1.with_, ic r.1.epoch, ic r.1.turn, .p (.sl (r.1.got.map irw)), .p (.v (.bool r.1.bad)), .p (.v (.bool r.1.told)), .p (.v (.bool r.1.over)), ic r.1.n, ic r.1.k.star.x0, ic r.1.k.star.x1, ic r.1.k.star.x2, ic r.1.k.star.x3, ic r.1.k.star.x4, ic r.1.k.star.x5, ic r.1.k.star.x6, ic r.1.k.star.x7, .p (.sl (r.1.k.l.map Frag.row)), .p (.sl (r.1.l.map Entry.row))], .agg [ic r.2.kind, ic r.2.src, ic r.2.dst, ic r.2.sid, ic r.2.turn, ic r.2.f.op, .p (.v (.string r.2.f.text)), ic r.2.f.n, .p (.v (.complex .f64 r.2.f.re r.2.f.im)), .p (.sl (Pred.rows r.2.f.kids)), ic r.2.k.star.x0, ic r.2.k.star.x1, ic r.2.k.star.x2, ic r.2.k.star.x3, ic r.2.k.star.x4, ic r.2.k.star.x5, ic r.2.k.star.x6, ic r.2.k.star.x7, .p (.sl (r.2.k.l.map Frag.row)), .p (.sl (r.2.have_.map Has.row)), ic r.2.n, .p (.sl (r.2.l.map Entry.row)), .p (.v (.bool r.2.star))]]) []) : X (.call 18 [.agg [ic p0.r, ic p0.f.op, .p (.v (.string p0.f.text)), ic p0.f.n, .p (.v (.complex .f64 p0.f.re p0.f.im)), .p (.sl (Pred.rows p0.f.kids)), .p (.sl (p0.store.map Item.row)), .p (.sl (p0.out.map Item.row)), ic p0.k.star.x0, ic p0.k.star.x1, ic p0.k.star.x2, ic p0.k.star.x3, ic p0.k.star.x4, ic p0.k.star.x5, ic p0.k.star.x6, ic p0.k.star.x7, .p (.sl (p0.k.l.map Frag.row)), ic p0.count, ic p0.clock, ic p0.epoch], iv p1, iv p2] [] Q) := by
  unfold ref11_Open_s at h
  refine call_nz hX ?_
  conv => whnf
  refine call_intro hX Try.func18 rfl rfl ?_
  obtain ⟨hs1, h⟩ := chk_some h
  (repeat ((conv => whnf); first | refine ⟨by kernel_rfl, ?_⟩)); (conv => whnf)
  refine loop_nc hX ?_
  conv => whnf
  refine loop_k hX [0, 0, 0, 0, 0, 0, 0, 4, 0] ?_
  conv => whnf
  refine loop_lisx1 (fun (v1 : Int) (v2 : List Has) => pad [(1, iv p1), (0, iv p2), (0, .one (.ptr 0 0)), (2, .one (.ptr 1 0)), (0, .one (.ptr 5 0)), (0, .one (.ptr 10 0)), (0, iv v1)] 46) (fun (v1 : Int) (v2 : List Has) => [.box [ic p0.r, ic p0.f.op, .p (.v (.string p0.f.text)), ic p0.f.n, .p (.v (.complex .f64 p0.f.re p0.f.im)), .p (.sl (Pred.rows p0.f.kids)), .p (.sl (p0.store.map Item.row)), .p (.sl (p0.out.map Item.row)), ic p0.k.star.x0, ic p0.k.star.x1, ic p0.k.star.x2, ic p0.k.star.x3, ic p0.k.star.x4, ic p0.k.star.x5, ic p0.k.star.x6, ic p0.k.star.x7, .p (.sl (p0.k.l.map Frag.row)), ic p0.count, ic p0.clock, ic p0.epoch], .box [ic 0, ic 0, ic 0, ic 0, .own 2, .p (.v (.bool false)), .p (.v (.bool false)), .p (.v (.bool false)), ic 0, ic 0, ic 0, ic 0, ic 0, ic 0, ic 0, ic 0, ic 0, .own 3, .own 4], .rows 0 [], .rows 0 [], .rows 0 [], .box [ic 0, ic 0, ic 0, ic 0, ic 0, ic 0, .p (.v (.string ⟨#[]⟩)), ic 0, .p (.v (.complex .f64 0 0)), .own 6, ic 0, ic 0, ic 0, ic 0, ic 0, ic 0, ic 0, ic 0, .own 7, .own 8, ic 0, .own 9, .p (.v (.bool false))], .rows 0 [], .rows 0 [], .rows 0 [], .rows 0 [], .box [ic 1, ic p0.r, ic p1, ic p2, ic 0, ic p0.f.op, .p (.v (.string p0.f.text)), ic p0.f.n, .p (.v (.complex .f64 p0.f.re p0.f.im)), .p (.sl (Pred.rows p0.f.kids)), ic p0.k.star.x0, ic p0.k.star.x1, ic p0.k.star.x2, ic p0.k.star.x3, ic p0.k.star.x4, ic p0.k.star.x5, ic p0.k.star.x6, ic p0.k.star.x7, .p (.sl (p0.k.l.map Frag.row)), .own 11, ic 0, .own 12, .p (.v (.bool false))], .rows 4 (v2.map Has.row), .rows 0 []]) _ p0.store (fun pre1 x1e xs1 v1 v2 hl1 hi1 h ih1 => ?_) (fun v1 v2 hi1 h => ?_) ([] : List Has) h
  · rw [ref11_Open_l1] at h
    have am1 := at_mid hl1 hi1
    refine loop_intro hX ?_
    replace h := chk_some h
    obtain ⟨c3, h⟩ := h
    (repeat ((conv => whnf); first | refine ⟨by kernel_rfl, ?_⟩ | refine eqv_to (map_len _) ?_ | refine bct (lt_mid hl1 hi1) ?_ | refine bct (at_in am1) ?_ | refine bct (andt (at_in am1) rfl) ?_ | refine row_in (at_row am1) ?_ | refine bct (andt (at_in (at_nat am1)) rfl) ?_ | refine row_in (at_row (at_nat am1)) ?_ | refine bct (room_map c3 rfl rfl rfl rfl) ?_ | refine eqv_to (cat_one (f := Has.row) v2 (Has.mk x1e.id x1e.vr x1e.vc x1e.stamp)) ?_)); (conv => whnf)
    exact ih1 _ (v2 ++ [(Has.mk x1e.id x1e.vr x1e.vc x1e.stamp)]) (wrL hs1 hl1 hi1) h
  · rw [ref11_Open_l1] at h
    refine loop_intro hX ?_
    (repeat ((conv => whnf); first | refine ⟨by kernel_rfl, ?_⟩ | refine eqv_to (map_len _) ?_ | refine bcf (lt_end hi1) ?_)); (conv => whnf)
    exact ret_some (f := fun y => .tup [.agg [ic y.1.sid, ic y.1.with_, ic y.1.epoch, ic y.1.turn, .p (.sl (y.1.got.map irw)), .p (.v (.bool y.1.bad)), .p (.v (.bool y.1.told)), .p (.v (.bool y.1.over)), ic y.1.n, ic y.1.k.star.x0, ic y.1.k.star.x1, ic y.1.k.star.x2, ic y.1.k.star.x3, ic y.1.k.star.x4, ic y.1.k.star.x5, ic y.1.k.star.x6, ic y.1.k.star.x7, .p (.sl (y.1.k.l.map Frag.row)), .p (.sl (y.1.l.map Entry.row))], .agg [ic y.2.kind, ic y.2.src, ic y.2.dst, ic y.2.sid, ic y.2.turn, ic y.2.f.op, .p (.v (.string y.2.f.text)), ic y.2.f.n, .p (.v (.complex .f64 y.2.f.re y.2.f.im)), .p (.sl (Pred.rows y.2.f.kids)), ic y.2.k.star.x0, ic y.2.k.star.x1, ic y.2.k.star.x2, ic y.2.k.star.x3, ic y.2.k.star.x4, ic y.2.k.star.x5, ic y.2.k.star.x6, ic y.2.k.star.x7, .p (.sl (y.2.k.l.map Frag.row)), .p (.sl (y.2.have_.map Has.row)), ic y.2.n, .p (.sl (y.2.l.map Entry.row)), .p (.v (.bool y.2.star))]]) (g := fun y => []) h hQ
def ref11_SameEntry_s (p0 : Entry) (p1 : Entry) : Option (Bool) :=
  (bnd (ref01_Same_s p0.item p1.item) fun y1 =>
    (br y1
      (br (@Bool.rec (fun _ => Bool) (!p1.goes) p1.goes p0.goes)
        (some (andB (eqI p0.nr p1.nr) (andB (eqI p0.nc p1.nc) true)))
        (some false))
      (some false)))
theorem ref11_SameEntry_c {X : Task → Prop} (hX : Closed X) {p0 : Entry} {p1 : Entry} {r : Bool} {Q : A → List Blk → Prop} (h : ref11_SameEntry_s p0 p1 = some r) (hQ : Q (.one (.p (.v (.bool r)))) []) : X (.call 131 [.agg [.p (.v (.string p0.item.id)), ic p0.item.vr, ic p0.item.vc, ic p0.item.stamp, .p (.v (.string p0.item.kind)), ic p0.item.num, .p (.v (.complex .f64 p0.item.re p0.item.im)), .p (.v (.bool p0.item.dead)), .p (.v (.bool p0.goes)), ic p0.nr, ic p0.nc], .agg [.p (.v (.string p1.item.id)), ic p1.item.vr, ic p1.item.vc, ic p1.item.stamp, .p (.v (.string p1.item.kind)), ic p1.item.num, .p (.v (.complex .f64 p1.item.re p1.item.im)), .p (.v (.bool p1.item.dead)), .p (.v (.bool p1.goes)), ic p1.nr, ic p1.nc]] [] Q) := by
  unfold ref11_SameEntry_s at h
  refine call_intro hX Try.func131 rfl rfl ?_
  replace h := bnd_some h
  obtain ⟨y1, e2, h⟩ := h
  (repeat ((conv => whnf); first | refine ⟨by kernel_rfl, ?_⟩)); (conv => whnf)
  refine ref01_Same_c hX e2 ?_
  (repeat ((conv => whnf); first | refine ⟨by kernel_rfl, ?_⟩)); (conv => whnf)
  refine br_some h (fun c3 g => ?_) (fun c3 g => ?_)
  · replace h := g
    clear g
    (repeat ((conv => whnf); first | refine ⟨by kernel_rfl, ?_⟩ | refine bct c3 ?_)); (conv => whnf)
    refine br_some h (fun c4 g => ?_) (fun c4 g => ?_)
    · replace h := g
      clear g
      (repeat ((conv => whnf); first | refine ⟨by kernel_rfl, ?_⟩ | refine bct c4 ?_)); (conv => whnf)
      exact ret_some (f := fun y => .one (.p (.v (.bool y)))) (g := fun y => []) h hQ
    · replace h := g
      clear g
      (repeat ((conv => whnf); first | refine ⟨by kernel_rfl, ?_⟩ | refine bcf c4 ?_)); (conv => whnf)
      exact ret_some (f := fun y => .one (.p (.v (.bool y)))) (g := fun y => []) h hQ
  · replace h := g
    clear g
    (repeat ((conv => whnf); first | refine ⟨by kernel_rfl, ?_⟩ | refine bcf c3 ?_)); (conv => whnf)
    exact ret_some (f := fun y => .one (.p (.v (.bool y)))) (g := fun y => []) h hQ
def ref11_SameEntries_l1 (p1 : List Entry) : List Entry → Int → Option (Bool)
  | [], v2 =>
    some true
  | x1e :: xs1, v2 =>
    (bnd (atL p1 v2) fun x3 =>
      (bnd (ref11_SameEntry_s x1e x3) fun y5 =>
        (br (!y5)
          (some false)
          (ref11_SameEntries_l1 p1 xs1 (v2 + 1) ))))
def ref11_SameEntries_s (p0 : List Entry) (p1 : List Entry) : Option (Bool) :=
  (br (!eqI (p0.length : Int) (p1.length : Int))
    (some false)
    (chk (smallL p0)
      ((ref11_SameEntries_l1 p1) p0 0 )))
theorem ref11_SameEntries_c {X : Task → Prop} (hX : Closed X) {p0 : List Entry} {p1 : List Entry} {r : Bool} {Q : A → List Blk → Prop} (h : ref11_SameEntries_s p0 p1 = some r) (hQ : Q (.one (.p (.v (.bool r)))) []) : X (.call 82 [.one (.p (.sl (p0.map Entry.row))), .one (.p (.sl (p1.map Entry.row)))] [] Q) := by
  unfold ref11_SameEntries_s at h
  refine call_intro hX Try.func82 rfl rfl ?_
  (repeat ((conv => whnf); first | refine ⟨by kernel_rfl, ?_⟩ | refine eqv_to (map_len _) ?_)); (conv => whnf)
  refine br_some h (fun c1 g => ?_) (fun c1 g => ?_)
  · replace h := g
    clear g
    (repeat ((conv => whnf); first | refine ⟨by kernel_rfl, ?_⟩ | refine bct c1 ?_)); (conv => whnf)
    exact ret_some (f := fun y => .one (.p (.v (.bool y)))) (g := fun y => []) h hQ
  · replace h := g
    clear g
    obtain ⟨hs1, h⟩ := chk_some h
    (repeat ((conv => whnf); first | refine ⟨by kernel_rfl, ?_⟩ | refine bcf c1 ?_)); (conv => whnf)
    refine loop_list0 (fun (v2 : Int) => pad [(0, .one (.p (.sl (p0.map Entry.row)))), (0, .one (.p (.sl (p1.map Entry.row)))), (3, iv v2)] 23) (fun (v2 : Int) => []) _ p0 (fun pre1 x1e xs1 v2  hl1 hi1 h ih1 => ?_) (fun v2  hi1 h => ?_)  h
    · rw [ref11_SameEntries_l1] at h
      have am1 := at_mid hl1 hi1
      refine loop_intro hX ?_
      replace h := bnd_some h
      obtain ⟨x3, a4, h⟩ := h
      replace h := bnd_some h
      obtain ⟨y5, e6, h⟩ := h
      (repeat ((conv => whnf); first | refine ⟨by kernel_rfl, ?_⟩ | refine eqv_to (map_len _) ?_ | refine bct (lt_mid hl1 hi1) ?_ | refine bct (at_in am1) ?_ | refine bct (andt (at_in am1) rfl) ?_ | refine row_in (at_row am1) ?_ | refine bct (andt (at_in (at_nat am1)) rfl) ?_ | refine row_in (at_row (at_nat am1)) ?_ | refine bct (at_in a4) ?_ | refine bct (andt (at_in a4) rfl) ?_ | refine row_in (at_row a4) ?_ | refine bct (andt (at_in (at_nat a4)) rfl) ?_ | refine row_in (at_row (at_nat a4)) ?_)); (conv => whnf)
      refine ref11_SameEntry_c hX e6 ?_
      (repeat ((conv => whnf); first | refine ⟨by kernel_rfl, ?_⟩)); (conv => whnf)
      refine br_some h (fun c7 g => ?_) (fun c7 g => ?_)
      · replace h := g
        clear g
        (repeat ((conv => whnf); first | refine ⟨by kernel_rfl, ?_⟩ | refine bct c7 ?_)); (conv => whnf)
        exact ret_some (f := fun y => .one (.p (.v (.bool y)))) (g := fun y => []) h hQ
      · replace h := g
        clear g
        (repeat ((conv => whnf); first | refine ⟨by kernel_rfl, ?_⟩ | refine bcf c7 ?_)); (conv => whnf)
        exact ih1 _  (wrL hs1 hl1 hi1) h
    · rw [ref11_SameEntries_l1] at h
      refine loop_intro hX ?_
      (repeat ((conv => whnf); first | refine ⟨by kernel_rfl, ?_⟩ | refine eqv_to (map_len _) ?_ | refine bcf (lt_end hi1) ?_)); (conv => whnf)
      exact ret_some (f := fun y => .one (.p (.v (.bool y)))) (g := fun y => []) h hQ
def ref11_Same_l1 (p0 : Sess) (p1 : Sess) : List Int → Int → Option (Bool)
  | [], v10 =>
    (bnd (ref06_Alike_s p0.k p1.k) fun y14 =>
      (bnd (ref11_SameEntries_s p0.l p1.l) fun y16 =>
        (br y14
          (some y16)
          (some false))))
  | x1e :: xs1, v10 =>
    (bnd (atL p1.got v10) fun x11 =>
      (br (!eqI x1e x11)
        (some false)
        (ref11_Same_l1 p0 p1 xs1 (v10 + 1) )))
def ref11_Same_s (p0 : Sess) (p1 : Sess) : Option (Bool) :=
  (br (!eqI p0.sid p1.sid)
    (some false)
    (br (!eqI p0.with_ p1.with_)
      (some false)
      (br (!eqI p0.epoch p1.epoch)
        (some false)
        (br (!eqI p0.turn p1.turn)
          (some false)
          (br (@Bool.rec (fun _ => Bool) p1.bad (!p1.bad) p0.bad)
            (some false)
            (br (@Bool.rec (fun _ => Bool) p1.told (!p1.told) p0.told)
              (some false)
              (br (@Bool.rec (fun _ => Bool) p1.over (!p1.over) p0.over)
                (some false)
                (br (!eqI p0.n p1.n)
                  (some false)
                  (br (!eqI (p0.got.length : Int) (p1.got.length : Int))
                    (some false)
                    (chk (smallL p0.got)
                      ((ref11_Same_l1 p0 p1) p0.got 0 )))))))))))
theorem ref11_Same_c {X : Task → Prop} (hX : Closed X) {p0 : Sess} {p1 : Sess} {r : Bool} {Q : A → List Blk → Prop} (h : ref11_Same_s p0 p1 = some r) (hQ : Q (.one (.p (.v (.bool r)))) []) : X (.call 19 [.agg [ic p0.sid, ic p0.with_, ic p0.epoch, ic p0.turn, .p (.sl (p0.got.map irw)), .p (.v (.bool p0.bad)), .p (.v (.bool p0.told)), .p (.v (.bool p0.over)), ic p0.n, ic p0.k.star.x0, ic p0.k.star.x1, ic p0.k.star.x2, ic p0.k.star.x3, ic p0.k.star.x4, ic p0.k.star.x5, ic p0.k.star.x6, ic p0.k.star.x7, .p (.sl (p0.k.l.map Frag.row)), .p (.sl (p0.l.map Entry.row))], .agg [ic p1.sid, ic p1.with_, ic p1.epoch, ic p1.turn, .p (.sl (p1.got.map irw)), .p (.v (.bool p1.bad)), .p (.v (.bool p1.told)), .p (.v (.bool p1.over)), ic p1.n, ic p1.k.star.x0, ic p1.k.star.x1, ic p1.k.star.x2, ic p1.k.star.x3, ic p1.k.star.x4, ic p1.k.star.x5, ic p1.k.star.x6, ic p1.k.star.x7, .p (.sl (p1.k.l.map Frag.row)), .p (.sl (p1.l.map Entry.row))]] [] Q) := by
  unfold ref11_Same_s at h
  refine call_intro hX Try.func19 rfl rfl ?_
  (repeat ((conv => whnf); first | refine ⟨by kernel_rfl, ?_⟩)); (conv => whnf)
  refine br_some h (fun c1 g => ?_) (fun c1 g => ?_)
  · replace h := g
    clear g
    (repeat ((conv => whnf); first | refine ⟨by kernel_rfl, ?_⟩ | refine bct c1 ?_)); (conv => whnf)
    exact ret_some (f := fun y => .one (.p (.v (.bool y)))) (g := fun y => []) h hQ
  · replace h := g
    clear g
    (repeat ((conv => whnf); first | refine ⟨by kernel_rfl, ?_⟩ | refine bcf c1 ?_)); (conv => whnf)
    refine br_some h (fun c2 g => ?_) (fun c2 g => ?_)
    · replace h := g
      clear g
      (repeat ((conv => whnf); first | refine ⟨by kernel_rfl, ?_⟩ | refine bct c2 ?_)); (conv => whnf)
      exact ret_some (f := fun y => .one (.p (.v (.bool y)))) (g := fun y => []) h hQ
    · replace h := g
      clear g
      (repeat ((conv => whnf); first | refine ⟨by kernel_rfl, ?_⟩ | refine bcf c2 ?_)); (conv => whnf)
      refine br_some h (fun c3 g => ?_) (fun c3 g => ?_)
      · replace h := g
        clear g
        (repeat ((conv => whnf); first | refine ⟨by kernel_rfl, ?_⟩ | refine bct c3 ?_)); (conv => whnf)
        exact ret_some (f := fun y => .one (.p (.v (.bool y)))) (g := fun y => []) h hQ
      · replace h := g
        clear g
        (repeat ((conv => whnf); first | refine ⟨by kernel_rfl, ?_⟩ | refine bcf c3 ?_)); (conv => whnf)
        refine br_some h (fun c4 g => ?_) (fun c4 g => ?_)
        · replace h := g
          clear g
          (repeat ((conv => whnf); first | refine ⟨by kernel_rfl, ?_⟩ | refine bct c4 ?_)); (conv => whnf)
          exact ret_some (f := fun y => .one (.p (.v (.bool y)))) (g := fun y => []) h hQ
        · replace h := g
          clear g
          (repeat ((conv => whnf); first | refine ⟨by kernel_rfl, ?_⟩ | refine bcf c4 ?_)); (conv => whnf)
          refine br_some h (fun c5 g => ?_) (fun c5 g => ?_)
          · replace h := g
            clear g
            (repeat ((conv => whnf); first | refine ⟨by kernel_rfl, ?_⟩ | refine bct c5 ?_)); (conv => whnf)
            exact ret_some (f := fun y => .one (.p (.v (.bool y)))) (g := fun y => []) h hQ
          · replace h := g
            clear g
            (repeat ((conv => whnf); first | refine ⟨by kernel_rfl, ?_⟩ | refine bcf c5 ?_)); (conv => whnf)
            refine br_some h (fun c6 g => ?_) (fun c6 g => ?_)
            · replace h := g
              clear g
              (repeat ((conv => whnf); first | refine ⟨by kernel_rfl, ?_⟩ | refine bct c6 ?_)); (conv => whnf)
              exact ret_some (f := fun y => .one (.p (.v (.bool y)))) (g := fun y => []) h hQ
            · replace h := g
              clear g
              (repeat ((conv => whnf); first | refine ⟨by kernel_rfl, ?_⟩ | refine bcf c6 ?_)); (conv => whnf)
              refine br_some h (fun c7 g => ?_) (fun c7 g => ?_)
              · replace h := g
                clear g
                (repeat ((conv => whnf); first | refine ⟨by kernel_rfl, ?_⟩ | refine bct c7 ?_)); (conv => whnf)
                exact ret_some (f := fun y => .one (.p (.v (.bool y)))) (g := fun y => []) h hQ
              · replace h := g
                clear g
                (repeat ((conv => whnf); first | refine ⟨by kernel_rfl, ?_⟩ | refine bcf c7 ?_)); (conv => whnf)
                refine br_some h (fun c8 g => ?_) (fun c8 g => ?_)
                · replace h := g
                  clear g
                  (repeat ((conv => whnf); first | refine ⟨by kernel_rfl, ?_⟩ | refine bct c8 ?_)); (conv => whnf)
                  exact ret_some (f := fun y => .one (.p (.v (.bool y)))) (g := fun y => []) h hQ
                · replace h := g
                  clear g
                  (repeat ((conv => whnf); first | refine ⟨by kernel_rfl, ?_⟩ | refine bcf c8 ?_ | refine eqv_to (map_len _) ?_)); (conv => whnf)
                  refine br_some h (fun c9 g => ?_) (fun c9 g => ?_)
                  · replace h := g
                    clear g
                    (repeat ((conv => whnf); first | refine ⟨by kernel_rfl, ?_⟩ | refine bct c9 ?_)); (conv => whnf)
                    exact ret_some (f := fun y => .one (.p (.v (.bool y)))) (g := fun y => []) h hQ
                  · replace h := g
                    clear g
                    obtain ⟨hs1, h⟩ := chk_some h
                    (repeat ((conv => whnf); first | refine ⟨by kernel_rfl, ?_⟩ | refine bcf c9 ?_)); (conv => whnf)
                    refine loop_list0 (fun (v10 : Int) => pad [(2, .one (.ptr 0 0)), (0, .one (.ptr 1 0)), (1, iv v10)] 97) (fun (v10 : Int) => [.box [ic p0.sid, ic p0.with_, ic p0.epoch, ic p0.turn, .p (.sl (p0.got.map irw)), .p (.v (.bool p0.bad)), .p (.v (.bool p0.told)), .p (.v (.bool p0.over)), ic p0.n, ic p0.k.star.x0, ic p0.k.star.x1, ic p0.k.star.x2, ic p0.k.star.x3, ic p0.k.star.x4, ic p0.k.star.x5, ic p0.k.star.x6, ic p0.k.star.x7, .p (.sl (p0.k.l.map Frag.row)), .p (.sl (p0.l.map Entry.row))], .box [ic p1.sid, ic p1.with_, ic p1.epoch, ic p1.turn, .p (.sl (p1.got.map irw)), .p (.v (.bool p1.bad)), .p (.v (.bool p1.told)), .p (.v (.bool p1.over)), ic p1.n, ic p1.k.star.x0, ic p1.k.star.x1, ic p1.k.star.x2, ic p1.k.star.x3, ic p1.k.star.x4, ic p1.k.star.x5, ic p1.k.star.x6, ic p1.k.star.x7, .p (.sl (p1.k.l.map Frag.row)), .p (.sl (p1.l.map Entry.row))]]) _ p0.got (fun pre1 x1e xs1 v10  hl1 hi1 h ih1 => ?_) (fun v10  hi1 h => ?_)  h
                    · rw [ref11_Same_l1] at h
                      have am1 := at_mid hl1 hi1
                      refine loop_intro hX ?_
                      replace h := bnd_some h
                      obtain ⟨x11, a12, h⟩ := h
                      (repeat ((conv => whnf); first | refine ⟨by kernel_rfl, ?_⟩ | refine eqv_to (map_len _) ?_ | refine bct (lt_mid hl1 hi1) ?_ | refine bct (at_in am1) ?_ | refine bct (andt (at_in am1) rfl) ?_ | refine row_in (at_row am1) ?_ | refine bct (andt (at_in (at_nat am1)) rfl) ?_ | refine row_in (at_row (at_nat am1)) ?_ | refine bct (at_in a12) ?_ | refine bct (andt (at_in a12) rfl) ?_ | refine row_in (at_row a12) ?_ | refine bct (andt (at_in (at_nat a12)) rfl) ?_ | refine row_in (at_row (at_nat a12)) ?_)); (conv => whnf)
                      refine br_some h (fun c13 g => ?_) (fun c13 g => ?_)
                      · replace h := g
                        clear g
                        (repeat ((conv => whnf); first | refine ⟨by kernel_rfl, ?_⟩ | refine bct c13 ?_)); (conv => whnf)
                        exact ret_some (f := fun y => .one (.p (.v (.bool y)))) (g := fun y => []) h hQ
                      · replace h := g
                        clear g
                        (repeat ((conv => whnf); first | refine ⟨by kernel_rfl, ?_⟩ | refine bcf c13 ?_)); (conv => whnf)
                        exact ih1 _  (wrL hs1 hl1 hi1) h
                    · rw [ref11_Same_l1] at h
                      refine loop_intro hX ?_
                      replace h := bnd_some h
                      obtain ⟨y14, e15, h⟩ := h
                      (repeat ((conv => whnf); first | refine ⟨by kernel_rfl, ?_⟩ | refine eqv_to (map_len _) ?_ | refine bcf (lt_end hi1) ?_)); (conv => whnf)
                      refine ref06_Alike_c hX e15 ?_
                      replace h := bnd_some h
                      obtain ⟨y16, e17, h⟩ := h
                      (repeat ((conv => whnf); first | refine ⟨by kernel_rfl, ?_⟩)); (conv => whnf)
                      refine ref11_SameEntries_c hX e17 ?_
                      (repeat ((conv => whnf); first | refine ⟨by kernel_rfl, ?_⟩)); (conv => whnf)
                      refine br_some h (fun c18 g => ?_) (fun c18 g => ?_)
                      · replace h := g
                        clear g
                        (repeat ((conv => whnf); first | refine ⟨by kernel_rfl, ?_⟩ | refine bct c18 ?_)); (conv => whnf)
                        exact ret_some (f := fun y => .one (.p (.v (.bool y)))) (g := fun y => []) h hQ
                      · replace h := g
                        clear g
                        (repeat ((conv => whnf); first | refine ⟨by kernel_rfl, ?_⟩ | refine bcf c18 ?_)); (conv => whnf)
                        exact ret_some (f := fun y => .one (.p (.v (.bool y)))) (g := fun y => []) h hQ
def law11_Sess_s (p0 : Sess) : Option (Sess) :=
  some p0
theorem law11_Sess_c {X : Task → Prop} (hX : Closed X) {p0 : Sess} {r : Sess} {Q : A → List Blk → Prop} (h : law11_Sess_s p0 = some r) (hQ : Q (.agg [ic r.sid, ic r.with_, ic r.epoch, ic r.turn, .p (.sl (r.got.map irw)), .p (.v (.bool r.bad)), .p (.v (.bool r.told)), .p (.v (.bool r.over)), ic r.n, ic r.k.star.x0, ic r.k.star.x1, ic r.k.star.x2, ic r.k.star.x3, ic r.k.star.x4, ic r.k.star.x5, ic r.k.star.x6, ic r.k.star.x7, .p (.sl (r.k.l.map Frag.row)), .p (.sl (r.l.map Entry.row))]) []) : X (.call 20 [.agg [ic p0.sid, ic p0.with_, ic p0.epoch, ic p0.turn, .p (.sl (p0.got.map irw)), .p (.v (.bool p0.bad)), .p (.v (.bool p0.told)), .p (.v (.bool p0.over)), ic p0.n, ic p0.k.star.x0, ic p0.k.star.x1, ic p0.k.star.x2, ic p0.k.star.x3, ic p0.k.star.x4, ic p0.k.star.x5, ic p0.k.star.x6, ic p0.k.star.x7, .p (.sl (p0.k.l.map Frag.row)), .p (.sl (p0.l.map Entry.row))]] [] Q) := by
  unfold law11_Sess_s at h
  refine call_nz hX ?_
  conv => whnf
  refine call_intro hX Try.func20 rfl rfl ?_
  (repeat ((conv => whnf); first | refine ⟨by kernel_rfl, ?_⟩)); (conv => whnf)
  exact ret_some (f := fun y => .agg [ic y.sid, ic y.with_, ic y.epoch, ic y.turn, .p (.sl (y.got.map irw)), .p (.v (.bool y.bad)), .p (.v (.bool y.told)), .p (.v (.bool y.over)), ic y.n, ic y.k.star.x0, ic y.k.star.x1, ic y.k.star.x2, ic y.k.star.x3, ic y.k.star.x4, ic y.k.star.x5, ic y.k.star.x6, ic y.k.star.x7, .p (.sl (y.k.l.map Frag.row)), .p (.sl (y.l.map Entry.row))]) (g := fun y => []) h hQ
def ref11_SameMsg_l1 (p0 : Msg) (p1 : Msg) : List Has → Int → Option (Bool)
  | [], v9 =>
    (bnd (ref03_Same_s p0.f p1.f) fun y15 =>
      (bnd (ref06_Alike_s p0.k p1.k) fun y17 =>
        (bnd (ref11_SameEntries_s p0.l p1.l) fun y19 =>
          (br y15
            (br y17
              (some y19)
              (some false))
            (some false)))))
  | x1e :: xs1, v9 =>
    (bnd (atL p1.have_ v9) fun x10 =>
      (br (!eqS x1e.id x10.id)
        (some false)
        (br (!(andB (eqI x1e.vr x10.vr) (andB (eqI x1e.vc x10.vc) true)))
          (some false)
          (br (!eqI x1e.stamp x10.stamp)
            (some false)
            (ref11_SameMsg_l1 p0 p1 xs1 (v9 + 1) )))))
def ref11_SameMsg_s (p0 : Msg) (p1 : Msg) : Option (Bool) :=
  (br (!eqI p0.kind p1.kind)
    (some false)
    (br (!eqI p0.src p1.src)
      (some false)
      (br (!eqI p0.dst p1.dst)
        (some false)
        (br (!eqI p0.sid p1.sid)
          (some false)
          (br (!eqI p0.turn p1.turn)
            (some false)
            (br (!eqI p0.n p1.n)
              (some false)
              (br (@Bool.rec (fun _ => Bool) p1.star (!p1.star) p0.star)
                (some false)
                (br (!eqI (p0.have_.length : Int) (p1.have_.length : Int))
                  (some false)
                  (chk (smallL p0.have_)
                    ((ref11_SameMsg_l1 p0 p1) p0.have_ 0 ))))))))))
theorem ref11_SameMsg_c {X : Task → Prop} (hX : Closed X) {p0 : Msg} {p1 : Msg} {r : Bool} {Q : A → List Blk → Prop} (h : ref11_SameMsg_s p0 p1 = some r) (hQ : Q (.one (.p (.v (.bool r)))) []) : X (.call 21 [.agg [ic p0.kind, ic p0.src, ic p0.dst, ic p0.sid, ic p0.turn, ic p0.f.op, .p (.v (.string p0.f.text)), ic p0.f.n, .p (.v (.complex .f64 p0.f.re p0.f.im)), .p (.sl (Pred.rows p0.f.kids)), ic p0.k.star.x0, ic p0.k.star.x1, ic p0.k.star.x2, ic p0.k.star.x3, ic p0.k.star.x4, ic p0.k.star.x5, ic p0.k.star.x6, ic p0.k.star.x7, .p (.sl (p0.k.l.map Frag.row)), .p (.sl (p0.have_.map Has.row)), ic p0.n, .p (.sl (p0.l.map Entry.row)), .p (.v (.bool p0.star))], .agg [ic p1.kind, ic p1.src, ic p1.dst, ic p1.sid, ic p1.turn, ic p1.f.op, .p (.v (.string p1.f.text)), ic p1.f.n, .p (.v (.complex .f64 p1.f.re p1.f.im)), .p (.sl (Pred.rows p1.f.kids)), ic p1.k.star.x0, ic p1.k.star.x1, ic p1.k.star.x2, ic p1.k.star.x3, ic p1.k.star.x4, ic p1.k.star.x5, ic p1.k.star.x6, ic p1.k.star.x7, .p (.sl (p1.k.l.map Frag.row)), .p (.sl (p1.have_.map Has.row)), ic p1.n, .p (.sl (p1.l.map Entry.row)), .p (.v (.bool p1.star))]] [] Q) := by
  unfold ref11_SameMsg_s at h
  refine call_intro hX Try.func21 rfl rfl ?_
  (repeat ((conv => whnf); first | refine ⟨by kernel_rfl, ?_⟩)); (conv => whnf)
  refine br_some h (fun c1 g => ?_) (fun c1 g => ?_)
  · replace h := g
    clear g
    (repeat ((conv => whnf); first | refine ⟨by kernel_rfl, ?_⟩ | refine bct c1 ?_)); (conv => whnf)
    exact ret_some (f := fun y => .one (.p (.v (.bool y)))) (g := fun y => []) h hQ
  · replace h := g
    clear g
    (repeat ((conv => whnf); first | refine ⟨by kernel_rfl, ?_⟩ | refine bcf c1 ?_)); (conv => whnf)
    refine br_some h (fun c2 g => ?_) (fun c2 g => ?_)
    · replace h := g
      clear g
      (repeat ((conv => whnf); first | refine ⟨by kernel_rfl, ?_⟩ | refine bct c2 ?_)); (conv => whnf)
      exact ret_some (f := fun y => .one (.p (.v (.bool y)))) (g := fun y => []) h hQ
    · replace h := g
      clear g
      (repeat ((conv => whnf); first | refine ⟨by kernel_rfl, ?_⟩ | refine bcf c2 ?_)); (conv => whnf)
      refine br_some h (fun c3 g => ?_) (fun c3 g => ?_)
      · replace h := g
        clear g
        (repeat ((conv => whnf); first | refine ⟨by kernel_rfl, ?_⟩ | refine bct c3 ?_)); (conv => whnf)
        exact ret_some (f := fun y => .one (.p (.v (.bool y)))) (g := fun y => []) h hQ
      · replace h := g
        clear g
        (repeat ((conv => whnf); first | refine ⟨by kernel_rfl, ?_⟩ | refine bcf c3 ?_)); (conv => whnf)
        refine br_some h (fun c4 g => ?_) (fun c4 g => ?_)
        · replace h := g
          clear g
          (repeat ((conv => whnf); first | refine ⟨by kernel_rfl, ?_⟩ | refine bct c4 ?_)); (conv => whnf)
          exact ret_some (f := fun y => .one (.p (.v (.bool y)))) (g := fun y => []) h hQ
        · replace h := g
          clear g
          (repeat ((conv => whnf); first | refine ⟨by kernel_rfl, ?_⟩ | refine bcf c4 ?_)); (conv => whnf)
          refine br_some h (fun c5 g => ?_) (fun c5 g => ?_)
          · replace h := g
            clear g
            (repeat ((conv => whnf); first | refine ⟨by kernel_rfl, ?_⟩ | refine bct c5 ?_)); (conv => whnf)
            exact ret_some (f := fun y => .one (.p (.v (.bool y)))) (g := fun y => []) h hQ
          · replace h := g
            clear g
            (repeat ((conv => whnf); first | refine ⟨by kernel_rfl, ?_⟩ | refine bcf c5 ?_)); (conv => whnf)
            refine br_some h (fun c6 g => ?_) (fun c6 g => ?_)
            · replace h := g
              clear g
              (repeat ((conv => whnf); first | refine ⟨by kernel_rfl, ?_⟩ | refine bct c6 ?_)); (conv => whnf)
              exact ret_some (f := fun y => .one (.p (.v (.bool y)))) (g := fun y => []) h hQ
            · replace h := g
              clear g
              (repeat ((conv => whnf); first | refine ⟨by kernel_rfl, ?_⟩ | refine bcf c6 ?_)); (conv => whnf)
              refine br_some h (fun c7 g => ?_) (fun c7 g => ?_)
              · replace h := g
                clear g
                (repeat ((conv => whnf); first | refine ⟨by kernel_rfl, ?_⟩ | refine bct c7 ?_)); (conv => whnf)
                exact ret_some (f := fun y => .one (.p (.v (.bool y)))) (g := fun y => []) h hQ
              · replace h := g
                clear g
                (repeat ((conv => whnf); first | refine ⟨by kernel_rfl, ?_⟩ | refine bcf c7 ?_ | refine eqv_to (map_len _) ?_)); (conv => whnf)
                refine br_some h (fun c8 g => ?_) (fun c8 g => ?_)
                · replace h := g
                  clear g
                  (repeat ((conv => whnf); first | refine ⟨by kernel_rfl, ?_⟩ | refine bct c8 ?_)); (conv => whnf)
                  exact ret_some (f := fun y => .one (.p (.v (.bool y)))) (g := fun y => []) h hQ
                · replace h := g
                  clear g
                  obtain ⟨hs1, h⟩ := chk_some h
                  (repeat ((conv => whnf); first | refine ⟨by kernel_rfl, ?_⟩ | refine bcf c8 ?_)); (conv => whnf)
                  refine loop_list0 (fun (v9 : Int) => pad [(2, .one (.ptr 0 0)), (0, .one (.ptr 1 0)), (1, iv v9)] 131) (fun (v9 : Int) => [.box [ic p0.kind, ic p0.src, ic p0.dst, ic p0.sid, ic p0.turn, ic p0.f.op, .p (.v (.string p0.f.text)), ic p0.f.n, .p (.v (.complex .f64 p0.f.re p0.f.im)), .p (.sl (Pred.rows p0.f.kids)), ic p0.k.star.x0, ic p0.k.star.x1, ic p0.k.star.x2, ic p0.k.star.x3, ic p0.k.star.x4, ic p0.k.star.x5, ic p0.k.star.x6, ic p0.k.star.x7, .p (.sl (p0.k.l.map Frag.row)), .p (.sl (p0.have_.map Has.row)), ic p0.n, .p (.sl (p0.l.map Entry.row)), .p (.v (.bool p0.star))], .box [ic p1.kind, ic p1.src, ic p1.dst, ic p1.sid, ic p1.turn, ic p1.f.op, .p (.v (.string p1.f.text)), ic p1.f.n, .p (.v (.complex .f64 p1.f.re p1.f.im)), .p (.sl (Pred.rows p1.f.kids)), ic p1.k.star.x0, ic p1.k.star.x1, ic p1.k.star.x2, ic p1.k.star.x3, ic p1.k.star.x4, ic p1.k.star.x5, ic p1.k.star.x6, ic p1.k.star.x7, .p (.sl (p1.k.l.map Frag.row)), .p (.sl (p1.have_.map Has.row)), ic p1.n, .p (.sl (p1.l.map Entry.row)), .p (.v (.bool p1.star))]]) _ p0.have_ (fun pre1 x1e xs1 v9  hl1 hi1 h ih1 => ?_) (fun v9  hi1 h => ?_)  h
                  · rw [ref11_SameMsg_l1] at h
                    have am1 := at_mid hl1 hi1
                    refine loop_intro hX ?_
                    replace h := bnd_some h
                    obtain ⟨x10, a11, h⟩ := h
                    (repeat ((conv => whnf); first | refine ⟨by kernel_rfl, ?_⟩ | refine eqv_to (map_len _) ?_ | refine bct (lt_mid hl1 hi1) ?_ | refine bct (at_in am1) ?_ | refine bct (andt (at_in am1) rfl) ?_ | refine row_in (at_row am1) ?_ | refine bct (andt (at_in (at_nat am1)) rfl) ?_ | refine row_in (at_row (at_nat am1)) ?_ | refine bct (at_in a11) ?_ | refine bct (andt (at_in a11) rfl) ?_ | refine row_in (at_row a11) ?_ | refine bct (andt (at_in (at_nat a11)) rfl) ?_ | refine row_in (at_row (at_nat a11)) ?_)); (conv => whnf)
                    refine br_some h (fun c12 g => ?_) (fun c12 g => ?_)
                    · replace h := g
                      clear g
                      (repeat ((conv => whnf); first | refine ⟨by kernel_rfl, ?_⟩ | refine bct c12 ?_)); (conv => whnf)
                      exact ret_some (f := fun y => .one (.p (.v (.bool y)))) (g := fun y => []) h hQ
                    · replace h := g
                      clear g
                      (repeat ((conv => whnf); first | refine ⟨by kernel_rfl, ?_⟩ | refine bcf c12 ?_ | refine bct (at_in am1) ?_ | refine bct (andt (at_in am1) rfl) ?_ | refine row_in (at_row am1) ?_ | refine bct (andt (at_in (at_nat am1)) rfl) ?_ | refine row_in (at_row (at_nat am1)) ?_ | refine bct (at_in a11) ?_ | refine bct (andt (at_in a11) rfl) ?_ | refine row_in (at_row a11) ?_ | refine bct (andt (at_in (at_nat a11)) rfl) ?_ | refine row_in (at_row (at_nat a11)) ?_)); (conv => whnf)
                      refine br_some h (fun c13 g => ?_) (fun c13 g => ?_)
                      · replace h := g
                        clear g
                        (repeat ((conv => whnf); first | refine ⟨by kernel_rfl, ?_⟩ | refine bct c13 ?_)); (conv => whnf)
                        exact ret_some (f := fun y => .one (.p (.v (.bool y)))) (g := fun y => []) h hQ
                      · replace h := g
                        clear g
                        (repeat ((conv => whnf); first | refine ⟨by kernel_rfl, ?_⟩ | refine bcf c13 ?_ | refine bct (at_in am1) ?_ | refine bct (andt (at_in am1) rfl) ?_ | refine row_in (at_row am1) ?_ | refine bct (andt (at_in (at_nat am1)) rfl) ?_ | refine row_in (at_row (at_nat am1)) ?_ | refine bct (at_in a11) ?_ | refine bct (andt (at_in a11) rfl) ?_ | refine row_in (at_row a11) ?_ | refine bct (andt (at_in (at_nat a11)) rfl) ?_ | refine row_in (at_row (at_nat a11)) ?_)); (conv => whnf)
                        refine br_some h (fun c14 g => ?_) (fun c14 g => ?_)
                        · replace h := g
                          clear g
                          (repeat ((conv => whnf); first | refine ⟨by kernel_rfl, ?_⟩ | refine bct c14 ?_)); (conv => whnf)
                          exact ret_some (f := fun y => .one (.p (.v (.bool y)))) (g := fun y => []) h hQ
                        · replace h := g
                          clear g
                          (repeat ((conv => whnf); first | refine ⟨by kernel_rfl, ?_⟩ | refine bcf c14 ?_)); (conv => whnf)
                          exact ih1 _  (wrL hs1 hl1 hi1) h
                  · rw [ref11_SameMsg_l1] at h
                    refine loop_intro hX ?_
                    replace h := bnd_some h
                    obtain ⟨y15, e16, h⟩ := h
                    (repeat ((conv => whnf); first | refine ⟨by kernel_rfl, ?_⟩ | refine eqv_to (map_len _) ?_ | refine bcf (lt_end hi1) ?_)); (conv => whnf)
                    refine ref03_Same_c hX e16 ?_
                    replace h := bnd_some h
                    obtain ⟨y17, e18, h⟩ := h
                    (repeat ((conv => whnf); first | refine ⟨by kernel_rfl, ?_⟩)); (conv => whnf)
                    refine ref06_Alike_c hX e18 ?_
                    replace h := bnd_some h
                    obtain ⟨y19, e20, h⟩ := h
                    (repeat ((conv => whnf); first | refine ⟨by kernel_rfl, ?_⟩)); (conv => whnf)
                    refine ref11_SameEntries_c hX e20 ?_
                    (repeat ((conv => whnf); first | refine ⟨by kernel_rfl, ?_⟩)); (conv => whnf)
                    refine br_some h (fun c21 g => ?_) (fun c21 g => ?_)
                    · replace h := g
                      clear g
                      (repeat ((conv => whnf); first | refine ⟨by kernel_rfl, ?_⟩ | refine bct c21 ?_)); (conv => whnf)
                      refine br_some h (fun c22 g => ?_) (fun c22 g => ?_)
                      · replace h := g
                        clear g
                        (repeat ((conv => whnf); first | refine ⟨by kernel_rfl, ?_⟩ | refine bct c22 ?_)); (conv => whnf)
                        exact ret_some (f := fun y => .one (.p (.v (.bool y)))) (g := fun y => []) h hQ
                      · replace h := g
                        clear g
                        (repeat ((conv => whnf); first | refine ⟨by kernel_rfl, ?_⟩ | refine bcf c22 ?_)); (conv => whnf)
                        exact ret_some (f := fun y => .one (.p (.v (.bool y)))) (g := fun y => []) h hQ
                    · replace h := g
                      clear g
                      (repeat ((conv => whnf); first | refine ⟨by kernel_rfl, ?_⟩ | refine bcf c21 ?_)); (conv => whnf)
                      exact ret_some (f := fun y => .one (.p (.v (.bool y)))) (g := fun y => []) h hQ
def law11_up_s : Option (Bool) :=
  (bnd (ask_Open_s (State.mk 1 (Pred.mk 1 ⟨#[]⟩ 0 0 0 ([] : List Pred)) ([] : List Item) ([] : List Item) (Know.mk (V8.mk 0 0 0 0 0 0 0 0) ([] : List Frag)) 0 0 0) 2 7) fun y1 =>
    (br (eqI y1.1.sid 7)
      (br (eqI y1.1.with_ 2)
        (br (eqI y1.2.kind 1)
          (br (eqI y1.2.src 1)
            (br (eqI y1.2.dst 2)
              (br (eqI y1.2.sid 7)
                (br (eqI y1.2.f.op 1)
                  (some (eqI (y1.2.have_.length : Int) 0))
                  (some false))
                (some false))
              (some false))
            (some false))
          (some false))
        (some false))
      (some false)))
theorem law11_up_c {X : Task → Prop} (hX : Closed X) {r : Bool} {Q : A → List Blk → Prop} (h : law11_up_s  = some r) (hQ : Q (.one (.p (.v (.bool r)))) []) : X (.call 13 [] [] Q) := by
  unfold law11_up_s at h
  refine call_intro hX Try.func13 rfl rfl ?_
  replace h := bnd_some h
  obtain ⟨y1, e2, h⟩ := h
  (repeat ((conv => whnf); first | refine ⟨by kernel_rfl, ?_⟩)); (conv => whnf)
  refine call_nz hX ?_
  conv => whnf
  refine ask_Open_c hX e2 ?_
  (repeat ((conv => whnf); first | refine ⟨by kernel_rfl, ?_⟩)); (conv => whnf)
  refine br_some h (fun c3 g => ?_) (fun c3 g => ?_)
  · replace h := g
    clear g
    (repeat ((conv => whnf); first | refine ⟨by kernel_rfl, ?_⟩ | refine bct c3 ?_)); (conv => whnf)
    refine br_some h (fun c4 g => ?_) (fun c4 g => ?_)
    · replace h := g
      clear g
      (repeat ((conv => whnf); first | refine ⟨by kernel_rfl, ?_⟩ | refine bct c4 ?_)); (conv => whnf)
      refine br_some h (fun c5 g => ?_) (fun c5 g => ?_)
      · replace h := g
        clear g
        (repeat ((conv => whnf); first | refine ⟨by kernel_rfl, ?_⟩ | refine bct c5 ?_)); (conv => whnf)
        refine br_some h (fun c6 g => ?_) (fun c6 g => ?_)
        · replace h := g
          clear g
          (repeat ((conv => whnf); first | refine ⟨by kernel_rfl, ?_⟩ | refine bct c6 ?_)); (conv => whnf)
          refine br_some h (fun c7 g => ?_) (fun c7 g => ?_)
          · replace h := g
            clear g
            (repeat ((conv => whnf); first | refine ⟨by kernel_rfl, ?_⟩ | refine bct c7 ?_)); (conv => whnf)
            refine br_some h (fun c8 g => ?_) (fun c8 g => ?_)
            · replace h := g
              clear g
              (repeat ((conv => whnf); first | refine ⟨by kernel_rfl, ?_⟩ | refine bct c8 ?_)); (conv => whnf)
              refine br_some h (fun c9 g => ?_) (fun c9 g => ?_)
              · replace h := g
                clear g
                (repeat ((conv => whnf); first | refine ⟨by kernel_rfl, ?_⟩ | refine bct c9 ?_ | refine eqv_to (map_len _) ?_)); (conv => whnf)
                exact ret_some (f := fun y => .one (.p (.v (.bool y)))) (g := fun y => []) h hQ
              · replace h := g
                clear g
                (repeat ((conv => whnf); first | refine ⟨by kernel_rfl, ?_⟩ | refine bcf c9 ?_)); (conv => whnf)
                exact ret_some (f := fun y => .one (.p (.v (.bool y)))) (g := fun y => []) h hQ
            · replace h := g
              clear g
              (repeat ((conv => whnf); first | refine ⟨by kernel_rfl, ?_⟩ | refine bcf c8 ?_)); (conv => whnf)
              exact ret_some (f := fun y => .one (.p (.v (.bool y)))) (g := fun y => []) h hQ
          · replace h := g
            clear g
            (repeat ((conv => whnf); first | refine ⟨by kernel_rfl, ?_⟩ | refine bcf c7 ?_)); (conv => whnf)
            exact ret_some (f := fun y => .one (.p (.v (.bool y)))) (g := fun y => []) h hQ
        · replace h := g
          clear g
          (repeat ((conv => whnf); first | refine ⟨by kernel_rfl, ?_⟩ | refine bcf c6 ?_)); (conv => whnf)
          exact ret_some (f := fun y => .one (.p (.v (.bool y)))) (g := fun y => []) h hQ
      · replace h := g
        clear g
        (repeat ((conv => whnf); first | refine ⟨by kernel_rfl, ?_⟩ | refine bcf c5 ?_)); (conv => whnf)
        exact ret_some (f := fun y => .one (.p (.v (.bool y)))) (g := fun y => []) h hQ
    · replace h := g
      clear g
      (repeat ((conv => whnf); first | refine ⟨by kernel_rfl, ?_⟩ | refine bcf c4 ?_)); (conv => whnf)
      exact ret_some (f := fun y => .one (.p (.v (.bool y)))) (g := fun y => []) h hQ
  · replace h := g
    clear g
    (repeat ((conv => whnf); first | refine ⟨by kernel_rfl, ?_⟩ | refine bcf c3 ?_)); (conv => whnf)
    exact ret_some (f := fun y => .one (.p (.v (.bool y)))) (g := fun y => []) h hQ
def law11_AskOpens_s (p0 : Sit) (p1 : Int) (p2 : Int) : Option (Bool) :=
  (bnd (law11_up_s ) fun y1 =>
    (bnd (law00_Fits_s p0) fun y3 =>
      (br (eqI y3 0)
        (some y1)
        (bnd (law00_State_s p0) fun y6 =>
          (bnd (ref09_May_s y6) fun y8 =>
            (br (!y8)
              (some y1)
              (bnd (ask_Open_s y6 p1 p2) fun y11 =>
                (bnd (ref11_Open_s y6 p1 p2) fun y13 =>
                  (bnd (law11_Sess_s y11.1) fun y15 =>
                    (bnd (ref11_Same_s y15 y13.1) fun y17 =>
                      (bnd (ref11_SameMsg_s y11.2 y13.2) fun y19 =>
                        (br y1
                          (br y17
                            (some y19)
                            (some false))
                          (some false)))))))))))))
theorem law11_AskOpens_c {X : Task → Prop} (hX : Closed X) {p0 : Sit} {p1 : Int} {p2 : Int} {r : Bool} {Q : A → List Blk → Prop} (h : law11_AskOpens_s p0 p1 p2 = some r) (hQ : Q (.one (.p (.v (.bool r)))) []) : X (.call 3 [.agg [ic p0.r, ic p0.f.op, .p (.v (.string p0.f.text)), ic p0.f.n, .p (.v (.float .f64 p0.f.re)), .p (.v (.float .f64 p0.f.im)), .p (.sl (Pred.lrows p0.f.kids)), .p (.sl (p0.store.map Item.lrow)), .p (.sl (p0.out.map Item.lrow)), ic p0.k.star.x0, ic p0.k.star.x1, ic p0.k.star.x2, ic p0.k.star.x3, ic p0.k.star.x4, ic p0.k.star.x5, ic p0.k.star.x6, ic p0.k.star.x7, .p (.sl (p0.k.l.map Frag.row)), ic p0.count, ic p0.clock, ic p0.epoch], iv p1, iv p2] [] Q) := by
  unfold law11_AskOpens_s at h
  refine call_intro hX Try.func3 rfl rfl ?_
  replace h := bnd_some h
  obtain ⟨y1, e2, h⟩ := h
  (repeat ((conv => whnf); first | refine ⟨by kernel_rfl, ?_⟩)); (conv => whnf)
  refine law11_up_c hX e2 ?_
  replace h := bnd_some h
  obtain ⟨y3, e4, h⟩ := h
  (repeat ((conv => whnf); first | refine ⟨by kernel_rfl, ?_⟩)); (conv => whnf)
  refine law00_Fits_c hX e4 ?_
  (repeat ((conv => whnf); first | refine ⟨by kernel_rfl, ?_⟩)); (conv => whnf)
  refine br_some h (fun c5 g => ?_) (fun c5 g => ?_)
  · replace h := g
    clear g
    (repeat ((conv => whnf); first | refine ⟨by kernel_rfl, ?_⟩ | refine bct c5 ?_)); (conv => whnf)
    exact ret_some (f := fun y => .one (.p (.v (.bool y)))) (g := fun y => []) h hQ
  · replace h := g
    clear g
    replace h := bnd_some h
    obtain ⟨y6, e7, h⟩ := h
    (repeat ((conv => whnf); first | refine ⟨by kernel_rfl, ?_⟩ | refine bcf c5 ?_)); (conv => whnf)
    refine law00_State_c hX e7 ?_
    replace h := bnd_some h
    obtain ⟨y8, e9, h⟩ := h
    (repeat ((conv => whnf); first | refine ⟨by kernel_rfl, ?_⟩)); (conv => whnf)
    refine ref09_May_c hX e9 ?_
    (repeat ((conv => whnf); first | refine ⟨by kernel_rfl, ?_⟩)); (conv => whnf)
    refine br_some h (fun c10 g => ?_) (fun c10 g => ?_)
    · replace h := g
      clear g
      (repeat ((conv => whnf); first | refine ⟨by kernel_rfl, ?_⟩ | refine bct c10 ?_)); (conv => whnf)
      exact ret_some (f := fun y => .one (.p (.v (.bool y)))) (g := fun y => []) h hQ
    · replace h := g
      clear g
      replace h := bnd_some h
      obtain ⟨y11, e12, h⟩ := h
      (repeat ((conv => whnf); first | refine ⟨by kernel_rfl, ?_⟩ | refine bcf c10 ?_)); (conv => whnf)
      refine ask_Open_c hX e12 ?_
      replace h := bnd_some h
      obtain ⟨y13, e14, h⟩ := h
      (repeat ((conv => whnf); first | refine ⟨by kernel_rfl, ?_⟩)); (conv => whnf)
      refine ref11_Open_c hX e14 ?_
      replace h := bnd_some h
      obtain ⟨y15, e16, h⟩ := h
      (repeat ((conv => whnf); first | refine ⟨by kernel_rfl, ?_⟩)); (conv => whnf)
      refine law11_Sess_c hX e16 ?_
      replace h := bnd_some h
      obtain ⟨y17, e18, h⟩ := h
      (repeat ((conv => whnf); first | refine ⟨by kernel_rfl, ?_⟩)); (conv => whnf)
      refine ref11_Same_c hX e18 ?_
      replace h := bnd_some h
      obtain ⟨y19, e20, h⟩ := h
      (repeat ((conv => whnf); first | refine ⟨by kernel_rfl, ?_⟩)); (conv => whnf)
      refine ref11_SameMsg_c hX e20 ?_
      (repeat ((conv => whnf); first | refine ⟨by kernel_rfl, ?_⟩)); (conv => whnf)
      refine br_some h (fun c21 g => ?_) (fun c21 g => ?_)
      · replace h := g
        clear g
        (repeat ((conv => whnf); first | refine ⟨by kernel_rfl, ?_⟩ | refine bct c21 ?_)); (conv => whnf)
        refine br_some h (fun c22 g => ?_) (fun c22 g => ?_)
        · replace h := g
          clear g
          (repeat ((conv => whnf); first | refine ⟨by kernel_rfl, ?_⟩ | refine bct c22 ?_)); (conv => whnf)
          exact ret_some (f := fun y => .one (.p (.v (.bool y)))) (g := fun y => []) h hQ
        · replace h := g
          clear g
          (repeat ((conv => whnf); first | refine ⟨by kernel_rfl, ?_⟩ | refine bcf c22 ?_)); (conv => whnf)
          exact ret_some (f := fun y => .one (.p (.v (.bool y)))) (g := fun y => []) h hQ
      · replace h := g
        clear g
        (repeat ((conv => whnf); first | refine ⟨by kernel_rfl, ?_⟩ | refine bcf c21 ?_)); (conv => whnf)
        exact ret_some (f := fun y => .one (.p (.v (.bool y)))) (g := fun y => []) h hQ
def law11_AskHas_l1 (y1 : Bool) (y6 : State) (y11 : Sess × Msg) (y17 : Bool) : List Has → Int → Option (Bool)
  | [], v19 =>
    (br y1
      (some y17)
      (some false))
  | x1e :: xs1, v19 =>
    (bnd (atL y6.store v19) fun x20 =>
      (br (!eqS x1e.id x20.id)
        (some false)
        (br (!(andB (eqI x1e.vr x20.vr) (andB (eqI x1e.vc x20.vc) true)))
          (some false)
          (br (!eqI x1e.stamp x20.stamp)
            (some false)
            (br (ltI 0 v19)
              (bnd (atL y11.2.have_ (wr .i64 (v19 - 1))) fun x26 =>
                (br (ltS x1e.id x26.id || eqS x1e.id x26.id)
                  (some false)
                  (law11_AskHas_l1 y1 y6 y11 y17 xs1 (v19 + 1) )))
              (law11_AskHas_l1 y1 y6 y11 y17 xs1 (v19 + 1) ))))))
def law11_AskHas_s (p0 : Sit) (p1 : Int) (p2 : Int) (p3 : Int) : Option (Bool) :=
  (bnd (law11_up_s ) fun y1 =>
    (bnd (law00_Fits_s p0) fun y3 =>
      (br (eqI y3 0)
        (some y1)
        (bnd (law00_State_s p0) fun y6 =>
          (bnd (ref09_May_s y6) fun y8 =>
            (br (!y8)
              (some y1)
              (bnd (ask_Open_s y6 p1 p2) fun y11 =>
                (bnd (ask_Open_s y6 p1 p3) fun y13 =>
                  (br (!eqI (y11.2.have_.length : Int) (y6.store.length : Int))
                    (some false)
                    (br (!eqI y13.2.sid p3)
                      (some false)
                      (bnd (ref11_SameMsg_s y11.2 (Msg.mk y13.2.kind y13.2.src y13.2.dst p2 y13.2.turn y13.2.f y13.2.k y13.2.have_ y13.2.n y13.2.l y13.2.star)) fun y17 =>
                        (chk (smallL y11.2.have_)
                          ((law11_AskHas_l1 y1 y6 y11 y17) y11.2.have_ 0 )))))))))))))
theorem law11_AskHas_c {X : Task → Prop} (hX : Closed X) {p0 : Sit} {p1 : Int} {p2 : Int} {p3 : Int} {r : Bool} {Q : A → List Blk → Prop} (h : law11_AskHas_s p0 p1 p2 p3 = some r) (hQ : Q (.one (.p (.v (.bool r)))) []) : X (.call 4 [.agg [ic p0.r, ic p0.f.op, .p (.v (.string p0.f.text)), ic p0.f.n, .p (.v (.float .f64 p0.f.re)), .p (.v (.float .f64 p0.f.im)), .p (.sl (Pred.lrows p0.f.kids)), .p (.sl (p0.store.map Item.lrow)), .p (.sl (p0.out.map Item.lrow)), ic p0.k.star.x0, ic p0.k.star.x1, ic p0.k.star.x2, ic p0.k.star.x3, ic p0.k.star.x4, ic p0.k.star.x5, ic p0.k.star.x6, ic p0.k.star.x7, .p (.sl (p0.k.l.map Frag.row)), ic p0.count, ic p0.clock, ic p0.epoch], iv p1, iv p2, iv p3] [] Q) := by
  unfold law11_AskHas_s at h
  refine call_intro hX Try.func4 rfl rfl ?_
  replace h := bnd_some h
  obtain ⟨y1, e2, h⟩ := h
  (repeat ((conv => whnf); first | refine ⟨by kernel_rfl, ?_⟩)); (conv => whnf)
  refine law11_up_c hX e2 ?_
  replace h := bnd_some h
  obtain ⟨y3, e4, h⟩ := h
  (repeat ((conv => whnf); first | refine ⟨by kernel_rfl, ?_⟩)); (conv => whnf)
  refine law00_Fits_c hX e4 ?_
  (repeat ((conv => whnf); first | refine ⟨by kernel_rfl, ?_⟩)); (conv => whnf)
  refine br_some h (fun c5 g => ?_) (fun c5 g => ?_)
  · replace h := g
    clear g
    (repeat ((conv => whnf); first | refine ⟨by kernel_rfl, ?_⟩ | refine bct c5 ?_)); (conv => whnf)
    exact ret_some (f := fun y => .one (.p (.v (.bool y)))) (g := fun y => []) h hQ
  · replace h := g
    clear g
    replace h := bnd_some h
    obtain ⟨y6, e7, h⟩ := h
    (repeat ((conv => whnf); first | refine ⟨by kernel_rfl, ?_⟩ | refine bcf c5 ?_)); (conv => whnf)
    refine law00_State_c hX e7 ?_
    replace h := bnd_some h
    obtain ⟨y8, e9, h⟩ := h
    (repeat ((conv => whnf); first | refine ⟨by kernel_rfl, ?_⟩)); (conv => whnf)
    refine ref09_May_c hX e9 ?_
    (repeat ((conv => whnf); first | refine ⟨by kernel_rfl, ?_⟩)); (conv => whnf)
    refine br_some h (fun c10 g => ?_) (fun c10 g => ?_)
    · replace h := g
      clear g
      (repeat ((conv => whnf); first | refine ⟨by kernel_rfl, ?_⟩ | refine bct c10 ?_)); (conv => whnf)
      exact ret_some (f := fun y => .one (.p (.v (.bool y)))) (g := fun y => []) h hQ
    · replace h := g
      clear g
      replace h := bnd_some h
      obtain ⟨y11, e12, h⟩ := h
      (repeat ((conv => whnf); first | refine ⟨by kernel_rfl, ?_⟩ | refine bcf c10 ?_)); (conv => whnf)
      refine ask_Open_c hX e12 ?_
      replace h := bnd_some h
      obtain ⟨y13, e14, h⟩ := h
      (repeat ((conv => whnf); first | refine ⟨by kernel_rfl, ?_⟩)); (conv => whnf)
      refine ask_Open_c hX e14 ?_
      (repeat ((conv => whnf); first | refine ⟨by kernel_rfl, ?_⟩ | refine eqv_to (map_len _) ?_)); (conv => whnf)
      refine br_some h (fun c15 g => ?_) (fun c15 g => ?_)
      · replace h := g
        clear g
        (repeat ((conv => whnf); first | refine ⟨by kernel_rfl, ?_⟩ | refine bct c15 ?_)); (conv => whnf)
        exact ret_some (f := fun y => .one (.p (.v (.bool y)))) (g := fun y => []) h hQ
      · replace h := g
        clear g
        (repeat ((conv => whnf); first | refine ⟨by kernel_rfl, ?_⟩ | refine bcf c15 ?_)); (conv => whnf)
        refine br_some h (fun c16 g => ?_) (fun c16 g => ?_)
        · replace h := g
          clear g
          (repeat ((conv => whnf); first | refine ⟨by kernel_rfl, ?_⟩ | refine bct c16 ?_)); (conv => whnf)
          exact ret_some (f := fun y => .one (.p (.v (.bool y)))) (g := fun y => []) h hQ
        · replace h := g
          clear g
          replace h := bnd_some h
          obtain ⟨y17, e18, h⟩ := h
          (repeat ((conv => whnf); first | refine ⟨by kernel_rfl, ?_⟩ | refine bcf c16 ?_)); (conv => whnf)
          refine ref11_SameMsg_c hX e18 ?_
          obtain ⟨hs1, h⟩ := chk_some h
          (repeat ((conv => whnf); first | refine ⟨by kernel_rfl, ?_⟩)); (conv => whnf)
          refine loop_list0 (fun (v19 : Int) => pad [(9, .one (.p (.v (.bool y1)))), (0, .one (.ptr 0 0)), (2, .one (.ptr 1 0)), (2, .one (.p (.v (.bool y17)))), (0, iv v19)] 116) (fun (v19 : Int) => [.box [ic y6.r, ic y6.f.op, .p (.v (.string y6.f.text)), ic y6.f.n, .p (.v (.complex .f64 y6.f.re y6.f.im)), .p (.sl (Pred.rows y6.f.kids)), .p (.sl (y6.store.map Item.row)), .p (.sl (y6.out.map Item.row)), ic y6.k.star.x0, ic y6.k.star.x1, ic y6.k.star.x2, ic y6.k.star.x3, ic y6.k.star.x4, ic y6.k.star.x5, ic y6.k.star.x6, ic y6.k.star.x7, .p (.sl (y6.k.l.map Frag.row)), ic y6.count, ic y6.clock, ic y6.epoch], .box [ic y11.2.kind, ic y11.2.src, ic y11.2.dst, ic y11.2.sid, ic y11.2.turn, ic y11.2.f.op, .p (.v (.string y11.2.f.text)), ic y11.2.f.n, .p (.v (.complex .f64 y11.2.f.re y11.2.f.im)), .p (.sl (Pred.rows y11.2.f.kids)), ic y11.2.k.star.x0, ic y11.2.k.star.x1, ic y11.2.k.star.x2, ic y11.2.k.star.x3, ic y11.2.k.star.x4, ic y11.2.k.star.x5, ic y11.2.k.star.x6, ic y11.2.k.star.x7, .p (.sl (y11.2.k.l.map Frag.row)), .p (.sl (y11.2.have_.map Has.row)), ic y11.2.n, .p (.sl (y11.2.l.map Entry.row)), .p (.v (.bool y11.2.star))]]) _ y11.2.have_ (fun pre1 x1e xs1 v19  hl1 hi1 h ih1 => ?_) (fun v19  hi1 h => ?_)  h
          · rw [law11_AskHas_l1] at h
            have am1 := at_mid hl1 hi1
            refine loop_intro hX ?_
            replace h := bnd_some h
            obtain ⟨x20, a21, h⟩ := h
            (repeat ((conv => whnf); first | refine ⟨by kernel_rfl, ?_⟩ | refine eqv_to (map_len _) ?_ | refine bct (lt_mid hl1 hi1) ?_ | refine bct (at_in am1) ?_ | refine bct (andt (at_in am1) rfl) ?_ | refine row_in (at_row am1) ?_ | refine bct (andt (at_in (at_nat am1)) rfl) ?_ | refine row_in (at_row (at_nat am1)) ?_ | refine bct (at_in a21) ?_ | refine bct (andt (at_in a21) rfl) ?_ | refine row_in (at_row a21) ?_ | refine bct (andt (at_in (at_nat a21)) rfl) ?_ | refine row_in (at_row (at_nat a21)) ?_)); (conv => whnf)
            refine br_some h (fun c22 g => ?_) (fun c22 g => ?_)
            · replace h := g
              clear g
              (repeat ((conv => whnf); first | refine ⟨by kernel_rfl, ?_⟩ | refine bct c22 ?_)); (conv => whnf)
              exact ret_some (f := fun y => .one (.p (.v (.bool y)))) (g := fun y => []) h hQ
            · replace h := g
              clear g
              (repeat ((conv => whnf); first | refine ⟨by kernel_rfl, ?_⟩ | refine bcf c22 ?_ | refine bct (at_in am1) ?_ | refine bct (andt (at_in am1) rfl) ?_ | refine row_in (at_row am1) ?_ | refine bct (andt (at_in (at_nat am1)) rfl) ?_ | refine row_in (at_row (at_nat am1)) ?_ | refine bct (at_in a21) ?_ | refine bct (andt (at_in a21) rfl) ?_ | refine row_in (at_row a21) ?_ | refine bct (andt (at_in (at_nat a21)) rfl) ?_ | refine row_in (at_row (at_nat a21)) ?_)); (conv => whnf)
              refine br_some h (fun c23 g => ?_) (fun c23 g => ?_)
              · replace h := g
                clear g
                (repeat ((conv => whnf); first | refine ⟨by kernel_rfl, ?_⟩ | refine bct c23 ?_)); (conv => whnf)
                exact ret_some (f := fun y => .one (.p (.v (.bool y)))) (g := fun y => []) h hQ
              · replace h := g
                clear g
                (repeat ((conv => whnf); first | refine ⟨by kernel_rfl, ?_⟩ | refine bcf c23 ?_ | refine bct (at_in am1) ?_ | refine bct (andt (at_in am1) rfl) ?_ | refine row_in (at_row am1) ?_ | refine bct (andt (at_in (at_nat am1)) rfl) ?_ | refine row_in (at_row (at_nat am1)) ?_ | refine bct (at_in a21) ?_ | refine bct (andt (at_in a21) rfl) ?_ | refine row_in (at_row a21) ?_ | refine bct (andt (at_in (at_nat a21)) rfl) ?_ | refine row_in (at_row (at_nat a21)) ?_)); (conv => whnf)
                refine br_some h (fun c24 g => ?_) (fun c24 g => ?_)
                · replace h := g
                  clear g
                  (repeat ((conv => whnf); first | refine ⟨by kernel_rfl, ?_⟩ | refine bct c24 ?_)); (conv => whnf)
                  exact ret_some (f := fun y => .one (.p (.v (.bool y)))) (g := fun y => []) h hQ
                · replace h := g
                  clear g
                  (repeat ((conv => whnf); first | refine ⟨by kernel_rfl, ?_⟩ | refine bcf c24 ?_)); (conv => whnf)
                  refine br_some h (fun c25 g => ?_) (fun c25 g => ?_)
                  · replace h := g
                    clear g
                    replace h := bnd_some h
                    obtain ⟨x26, a27, h⟩ := h
                    (repeat ((conv => whnf); first | refine ⟨by kernel_rfl, ?_⟩ | refine bct c25 ?_ | refine bct (at_in am1) ?_ | refine bct (andt (at_in am1) rfl) ?_ | refine row_in (at_row am1) ?_ | refine bct (andt (at_in (at_nat am1)) rfl) ?_ | refine row_in (at_row (at_nat am1)) ?_ | refine bct (at_in a27) ?_ | refine bct (andt (at_in a27) rfl) ?_ | refine row_in (at_row a27) ?_ | refine bct (andt (at_in (at_nat a27)) rfl) ?_ | refine row_in (at_row (at_nat a27)) ?_)); (conv => whnf)
                    refine br_some h (fun c28 g => ?_) (fun c28 g => ?_)
                    · replace h := g
                      clear g
                      (repeat ((conv => whnf); first | refine ⟨by kernel_rfl, ?_⟩ | refine bct c28 ?_)); (conv => whnf)
                      exact ret_some (f := fun y => .one (.p (.v (.bool y)))) (g := fun y => []) h hQ
                    · replace h := g
                      clear g
                      (repeat ((conv => whnf); first | refine ⟨by kernel_rfl, ?_⟩ | refine bcf c28 ?_)); (conv => whnf)
                      exact ih1 _  (wrL hs1 hl1 hi1) h
                  · replace h := g
                    clear g
                    (repeat ((conv => whnf); first | refine ⟨by kernel_rfl, ?_⟩ | refine bcf c25 ?_)); (conv => whnf)
                    exact ih1 _  (wrL hs1 hl1 hi1) h
          · rw [law11_AskHas_l1] at h
            refine loop_intro hX ?_
            (repeat ((conv => whnf); first | refine ⟨by kernel_rfl, ?_⟩ | refine eqv_to (map_len _) ?_ | refine bcf (lt_end hi1) ?_)); (conv => whnf)
            refine br_some h (fun c29 g => ?_) (fun c29 g => ?_)
            · replace h := g
              clear g
              (repeat ((conv => whnf); first | refine ⟨by kernel_rfl, ?_⟩ | refine bct c29 ?_)); (conv => whnf)
              exact ret_some (f := fun y => .one (.p (.v (.bool y)))) (g := fun y => []) h hQ
            · replace h := g
              clear g
              (repeat ((conv => whnf); first | refine ⟨by kernel_rfl, ?_⟩ | refine bcf c29 ?_)); (conv => whnf)
              exact ret_some (f := fun y => .one (.p (.v (.bool y)))) (g := fun y => []) h hQ
end
end Go.Proofs.Ytijkfjahgijphaa
