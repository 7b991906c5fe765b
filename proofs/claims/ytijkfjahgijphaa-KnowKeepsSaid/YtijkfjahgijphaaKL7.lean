/- The statements of layer 7, walked. Written by decomp.py. -/
import Derived.Test.YtijkfjahgijphaaKG3j
import Derived.Test.YtijkfjahgijphaaKH0
import Derived.Test.YtijkfjahgijphaaKLoops
set_option linter.unusedVariables false
set_option linter.unusedSimpArgs false
set_option maxRecDepth 100000
set_option maxHeartbeats 0
namespace Go.Proofs.Ytijkfjahgijphaa
open Go E
noncomputable section
open Pred
def law07_up_s : Option (Bool) :=
  (bnd (know_With_s (Know.mk (V8.mk 0 0 0 0 0 0 0 0) ([] : List Frag)) ⟨#[97]⟩ (Ver.mk 2 1)) fun y1 =>
    (br (!eqI (y1.l.length : Int) 1)
      (some false)
      (bnd (atL y1.l 0) fun x4 =>
        (br (!eqI (x4.ids.length : Int) 1)
          (some false)
          (bnd (atL x4.ids 0) fun x7 =>
            (br (eqS x7 ⟨#[97]⟩)
              (br (eq8 x4.vec (V8.mk 0 1 0 0 0 0 0 0))
                (bnd (know_May_s y1) fun y11 =>
                  (br y11
                    (bnd (know_Same_s y1 y1) fun y14 =>
                      some y14)
                    (some false)))
                (some false))
              (some false)))))))
theorem law07_up_c {X : Task → Prop} (hX : Closed X) {r : Bool} {Q : A → List Blk → Prop} (h : law07_up_s  = some r) (hQ : Q (.one (.p (.v (.bool r)))) []) : X (.call 61 [] [] Q) := by
  unfold law07_up_s at h
  refine call_intro hX Try.func61 rfl rfl ?_
  replace h := bnd_some h
  obtain ⟨y1, e2, h⟩ := h
  (repeat ((conv => whnf); first | refine ⟨by kernel_rfl, ?_⟩)); (conv => whnf)
  refine call_nz hX ?_
  conv => whnf
  refine know_With_c hX e2 ?_
  (repeat ((conv => whnf); first | refine ⟨by kernel_rfl, ?_⟩ | refine eqv_to (map_len _) ?_)); (conv => whnf)
  refine br_some h (fun c3 g => ?_) (fun c3 g => ?_)
  · replace h := g
    clear g
    (repeat ((conv => whnf); first | refine ⟨by kernel_rfl, ?_⟩ | refine bct c3 ?_)); (conv => whnf)
    exact ret_some (f := fun y => .one (.p (.v (.bool y)))) (g := fun y => []) h hQ
  · replace h := g
    clear g
    replace h := bnd_some h
    obtain ⟨x4, a5, h⟩ := h
    (repeat ((conv => whnf); first | refine ⟨by kernel_rfl, ?_⟩ | refine bcf c3 ?_ | refine bct (at_in a5) ?_ | refine bct (andt (at_in a5) rfl) ?_ | refine row_in (at_row a5) ?_ | refine bct (andt (at_in (at_nat a5)) rfl) ?_ | refine row_in (at_row (at_nat a5)) ?_ | refine eqv_to (map_len _) ?_)); (conv => whnf)
    refine br_some h (fun c6 g => ?_) (fun c6 g => ?_)
    · replace h := g
      clear g
      (repeat ((conv => whnf); first | refine ⟨by kernel_rfl, ?_⟩ | refine bct c6 ?_)); (conv => whnf)
      exact ret_some (f := fun y => .one (.p (.v (.bool y)))) (g := fun y => []) h hQ
    · replace h := g
      clear g
      replace h := bnd_some h
      obtain ⟨x7, a8, h⟩ := h
      (repeat ((conv => whnf); first | refine ⟨by kernel_rfl, ?_⟩ | refine bcf c6 ?_ | refine bct (at_in a5) ?_ | refine bct (andt (at_in a5) rfl) ?_ | refine row_in (at_row a5) ?_ | refine bct (andt (at_in (at_nat a5)) rfl) ?_ | refine row_in (at_row (at_nat a5)) ?_ | refine bct (at_in a8) ?_ | refine bct (andt (at_in a8) rfl) ?_ | refine row_in (at_row a8) ?_ | refine bct (andt (at_in (at_nat a8)) rfl) ?_ | refine row_in (at_row (at_nat a8)) ?_)); (conv => whnf)
      refine br_some h (fun c9 g => ?_) (fun c9 g => ?_)
      · replace h := g
        clear g
        (repeat ((conv => whnf); first | refine ⟨by kernel_rfl, ?_⟩ | refine bct c9 ?_ | refine bct (at_in a5) ?_ | refine bct (andt (at_in a5) rfl) ?_ | refine row_in (at_row a5) ?_ | refine bct (andt (at_in (at_nat a5)) rfl) ?_ | refine row_in (at_row (at_nat a5)) ?_)); (conv => whnf)
        refine br_some h (fun c10 g => ?_) (fun c10 g => ?_)
        · replace h := g
          clear g
          replace h := bnd_some h
          obtain ⟨y11, e12, h⟩ := h
          (repeat ((conv => whnf); first | refine ⟨by kernel_rfl, ?_⟩ | with_reducible refine bct (eq8_b c10) ?_ | refine bct c10 ?_)); (conv => whnf)
          refine know_May_c hX e12 ?_
          (repeat ((conv => whnf); first | refine ⟨by kernel_rfl, ?_⟩ | with_reducible refine bct (eq8_b c10) ?_ | refine bct c10 ?_)); (conv => whnf)
          refine br_some h (fun c13 g => ?_) (fun c13 g => ?_)
          · replace h := g
            clear g
            replace h := bnd_some h
            obtain ⟨y14, e15, h⟩ := h
            (repeat ((conv => whnf); first | refine ⟨by kernel_rfl, ?_⟩ | refine bct c13 ?_)); (conv => whnf)
            refine know_Same_c hX e15 ?_
            (repeat ((conv => whnf); first | refine ⟨by kernel_rfl, ?_⟩ | refine bct c13 ?_)); (conv => whnf)
            exact ret_some (f := fun y => .one (.p (.v (.bool y)))) (g := fun y => []) h hQ
          · replace h := g
            clear g
            (repeat ((conv => whnf); first | refine ⟨by kernel_rfl, ?_⟩ | refine bcf c13 ?_)); (conv => whnf)
            exact ret_some (f := fun y => .one (.p (.v (.bool y)))) (g := fun y => []) h hQ
        · replace h := g
          clear g
          (repeat ((conv => whnf); first | refine ⟨by kernel_rfl, ?_⟩ | with_reducible refine bcf (eq8_b c10) ?_ | refine bcf c10 ?_)); (conv => whnf)
          exact ret_some (f := fun y => .one (.p (.v (.bool y)))) (g := fun y => []) h hQ
      · replace h := g
        clear g
        (repeat ((conv => whnf); first | refine ⟨by kernel_rfl, ?_⟩ | refine bcf c9 ?_)); (conv => whnf)
        exact ret_some (f := fun y => .one (.p (.v (.bool y)))) (g := fun y => []) h hQ
def law07_KnowTells_s (p0 : Know) (p1 : ByteArray) (p2 : Ver) : Option (Bool) :=
  (bnd (law07_up_s ) fun y1 =>
    (bnd (law00_Known_s p0) fun y3 =>
      (br (eqI y3 0)
        (some y1)
        (bnd (know_Plain_s p0) fun y6 =>
          (bnd (ref06_Plain_s p0) fun y8 =>
            (bnd (ref06_Alike_s y6 y8) fun y10 =>
              (bnd (know_With_s p0 p1 p2) fun y12 =>
                (bnd (ref06_With_s p0 p1 p2) fun y14 =>
                  (bnd (ref06_Alike_s y12 y14) fun y16 =>
                    (bnd (know_Own_s p0 p1 p2) fun y18 =>
                      (bnd (ref06_Own_s p0 p1 p2) fun y20 =>
                        (bnd (ref06_Alike_s y18 y20) fun y22 =>
                          (br y1
                            (br y10
                              (br y16
                                (br y22
                                  (bnd (know_Has_s p0 p1 p2) fun y28 =>
                                    (bnd (ref06_Has_s p0 p1 p2) fun y30 =>
                                      (br (@Bool.rec (fun _ => Bool) (!y30) y30 y28)
                                        (bnd (know_May_s p0) fun y33 =>
                                          (bnd (ref06_May_s p0) fun y35 =>
                                            some (@Bool.rec (fun _ => Bool) (!y35) y35 y33)))
                                        (some false))))
                                  (some false))
                                (some false))
                              (some false))
                            (some false))))))))))))))
theorem law07_KnowTells_c {X : Task → Prop} (hX : Closed X) {p0 : Know} {p1 : ByteArray} {p2 : Ver} {r : Bool} {Q : A → List Blk → Prop} (h : law07_KnowTells_s p0 p1 p2 = some r) (hQ : Q (.one (.p (.v (.bool r)))) []) : X (.call 11 [.agg [ic p0.star.x0, ic p0.star.x1, ic p0.star.x2, ic p0.star.x3, ic p0.star.x4, ic p0.star.x5, ic p0.star.x6, ic p0.star.x7, .p (.sl (p0.l.map Frag.row))], .one (.p (.v (.string p1))), .agg [ic p2.r, ic p2.c]] [] Q) := by
  unfold law07_KnowTells_s at h
  refine call_intro hX Try.func11 rfl rfl ?_
  replace h := bnd_some h
  obtain ⟨y1, e2, h⟩ := h
  (repeat ((conv => whnf); first | refine ⟨by kernel_rfl, ?_⟩)); (conv => whnf)
  refine law07_up_c hX e2 ?_
  replace h := bnd_some h
  obtain ⟨y3, e4, h⟩ := h
  (repeat ((conv => whnf); first | refine ⟨by kernel_rfl, ?_⟩)); (conv => whnf)
  refine law00_Known_c hX e4 ?_
  (repeat ((conv => whnf); first | refine ⟨by kernel_rfl, ?_⟩)); (conv => whnf)
  refine br_some h (fun c5 g => ?_) (fun c5 g => ?_)
  · replace h := g
    clear g
    (repeat ((conv => whnf); first | refine ⟨by kernel_rfl, ?_⟩ | refine bct c5 ?_)); (conv => whnf)
    exact ret_some (f := fun y => .one (.p (.v (.bool y)))) (g := fun y => []) h hQ
  · replace h := g
    clear g
    replace h := bnd_some h
    obtain ⟨y6, e7, h⟩ := h
    (repeat ((conv => whnf); first | refine ⟨by kernel_rfl, ?_⟩ | refine bcf c5 ?_)); (conv => whnf)
    refine know_Plain_c hX e7 ?_
    replace h := bnd_some h
    obtain ⟨y8, e9, h⟩ := h
    (repeat ((conv => whnf); first | refine ⟨by kernel_rfl, ?_⟩)); (conv => whnf)
    refine ref06_Plain_c hX e9 ?_
    replace h := bnd_some h
    obtain ⟨y10, e11, h⟩ := h
    (repeat ((conv => whnf); first | refine ⟨by kernel_rfl, ?_⟩)); (conv => whnf)
    refine ref06_Alike_c hX e11 ?_
    replace h := bnd_some h
    obtain ⟨y12, e13, h⟩ := h
    (repeat ((conv => whnf); first | refine ⟨by kernel_rfl, ?_⟩)); (conv => whnf)
    refine know_With_c hX e13 ?_
    replace h := bnd_some h
    obtain ⟨y14, e15, h⟩ := h
    (repeat ((conv => whnf); first | refine ⟨by kernel_rfl, ?_⟩)); (conv => whnf)
    refine ref06_With_c hX e15 ?_
    replace h := bnd_some h
    obtain ⟨y16, e17, h⟩ := h
    (repeat ((conv => whnf); first | refine ⟨by kernel_rfl, ?_⟩)); (conv => whnf)
    refine ref06_Alike_c hX e17 ?_
    replace h := bnd_some h
    obtain ⟨y18, e19, h⟩ := h
    (repeat ((conv => whnf); first | refine ⟨by kernel_rfl, ?_⟩)); (conv => whnf)
    refine know_Own_c hX e19 ?_
    replace h := bnd_some h
    obtain ⟨y20, e21, h⟩ := h
    (repeat ((conv => whnf); first | refine ⟨by kernel_rfl, ?_⟩)); (conv => whnf)
    refine ref06_Own_c hX e21 ?_
    replace h := bnd_some h
    obtain ⟨y22, e23, h⟩ := h
    (repeat ((conv => whnf); first | refine ⟨by kernel_rfl, ?_⟩)); (conv => whnf)
    refine ref06_Alike_c hX e23 ?_
    (repeat ((conv => whnf); first | refine ⟨by kernel_rfl, ?_⟩)); (conv => whnf)
    refine br_some h (fun c24 g => ?_) (fun c24 g => ?_)
    · replace h := g
      clear g
      (repeat ((conv => whnf); first | refine ⟨by kernel_rfl, ?_⟩ | refine bct c24 ?_)); (conv => whnf)
      refine br_some h (fun c25 g => ?_) (fun c25 g => ?_)
      · replace h := g
        clear g
        (repeat ((conv => whnf); first | refine ⟨by kernel_rfl, ?_⟩ | refine bct c25 ?_)); (conv => whnf)
        refine br_some h (fun c26 g => ?_) (fun c26 g => ?_)
        · replace h := g
          clear g
          (repeat ((conv => whnf); first | refine ⟨by kernel_rfl, ?_⟩ | refine bct c26 ?_)); (conv => whnf)
          refine br_some h (fun c27 g => ?_) (fun c27 g => ?_)
          · replace h := g
            clear g
            replace h := bnd_some h
            obtain ⟨y28, e29, h⟩ := h
            (repeat ((conv => whnf); first | refine ⟨by kernel_rfl, ?_⟩ | refine bct c27 ?_)); (conv => whnf)
            refine know_Has_c hX e29 ?_
            replace h := bnd_some h
            obtain ⟨y30, e31, h⟩ := h
            (repeat ((conv => whnf); first | refine ⟨by kernel_rfl, ?_⟩ | refine bct c27 ?_)); (conv => whnf)
            refine ref06_Has_c hX e31 ?_
            (repeat ((conv => whnf); first | refine ⟨by kernel_rfl, ?_⟩ | refine bct c27 ?_)); (conv => whnf)
            refine br_some h (fun c32 g => ?_) (fun c32 g => ?_)
            · replace h := g
              clear g
              replace h := bnd_some h
              obtain ⟨y33, e34, h⟩ := h
              (repeat ((conv => whnf); first | refine ⟨by kernel_rfl, ?_⟩ | refine bct c32 ?_)); (conv => whnf)
              refine know_May_c hX e34 ?_
              replace h := bnd_some h
              obtain ⟨y35, e36, h⟩ := h
              (repeat ((conv => whnf); first | refine ⟨by kernel_rfl, ?_⟩ | refine bct c32 ?_)); (conv => whnf)
              refine ref06_May_c hX e36 ?_
              (repeat ((conv => whnf); first | refine ⟨by kernel_rfl, ?_⟩ | refine bct c32 ?_)); (conv => whnf)
              exact ret_some (f := fun y => .one (.p (.v (.bool y)))) (g := fun y => []) h hQ
            · replace h := g
              clear g
              (repeat ((conv => whnf); first | refine ⟨by kernel_rfl, ?_⟩ | refine bcf c32 ?_)); (conv => whnf)
              exact ret_some (f := fun y => .one (.p (.v (.bool y)))) (g := fun y => []) h hQ
          · replace h := g
            clear g
            (repeat ((conv => whnf); first | refine ⟨by kernel_rfl, ?_⟩ | refine bcf c27 ?_)); (conv => whnf)
            exact ret_some (f := fun y => .one (.p (.v (.bool y)))) (g := fun y => []) h hQ
        · replace h := g
          clear g
          (repeat ((conv => whnf); first | refine ⟨by kernel_rfl, ?_⟩ | refine bcf c26 ?_)); (conv => whnf)
          exact ret_some (f := fun y => .one (.p (.v (.bool y)))) (g := fun y => []) h hQ
      · replace h := g
        clear g
        (repeat ((conv => whnf); first | refine ⟨by kernel_rfl, ?_⟩ | refine bcf c25 ?_)); (conv => whnf)
        exact ret_some (f := fun y => .one (.p (.v (.bool y)))) (g := fun y => []) h hQ
    · replace h := g
      clear g
      (repeat ((conv => whnf); first | refine ⟨by kernel_rfl, ?_⟩ | refine bcf c24 ?_)); (conv => whnf)
      exact ret_some (f := fun y => .one (.p (.v (.bool y)))) (g := fun y => []) h hQ
def law07_KnowJoins_s (p0 : Know) (p1 : Know) : Option (Bool) :=
  (bnd (law07_up_s ) fun y1 =>
    (bnd (law00_Known_s p0) fun y3 =>
      (bnd (law00_Known_s p1) fun y5 =>
        (br (eqI (wr .i64 (y3 * y5)) 0)
          (some y1)
          (bnd (know_Join_s p0 p1) fun y8 =>
            (bnd (ref06_Join_s p0 p1) fun y10 =>
              (bnd (ref06_Alike_s y8 y10) fun y12 =>
                (br y1
                  (br y12
                    (bnd (know_Same_s p0 p1) fun y16 =>
                      (bnd (ref06_Same_s p0 p1) fun y18 =>
                        some (@Bool.rec (fun _ => Bool) (!y18) y18 y16)))
                    (some false))
                  (some false)))))))))
theorem law07_KnowJoins_c {X : Task → Prop} (hX : Closed X) {p0 : Know} {p1 : Know} {r : Bool} {Q : A → List Blk → Prop} (h : law07_KnowJoins_s p0 p1 = some r) (hQ : Q (.one (.p (.v (.bool r)))) []) : X (.call 10 [.agg [ic p0.star.x0, ic p0.star.x1, ic p0.star.x2, ic p0.star.x3, ic p0.star.x4, ic p0.star.x5, ic p0.star.x6, ic p0.star.x7, .p (.sl (p0.l.map Frag.row))], .agg [ic p1.star.x0, ic p1.star.x1, ic p1.star.x2, ic p1.star.x3, ic p1.star.x4, ic p1.star.x5, ic p1.star.x6, ic p1.star.x7, .p (.sl (p1.l.map Frag.row))]] [] Q) := by
  unfold law07_KnowJoins_s at h
  refine call_intro hX Try.func10 rfl rfl ?_
  replace h := bnd_some h
  obtain ⟨y1, e2, h⟩ := h
  (repeat ((conv => whnf); first | refine ⟨by kernel_rfl, ?_⟩)); (conv => whnf)
  refine law07_up_c hX e2 ?_
  replace h := bnd_some h
  obtain ⟨y3, e4, h⟩ := h
  (repeat ((conv => whnf); first | refine ⟨by kernel_rfl, ?_⟩)); (conv => whnf)
  refine law00_Known_c hX e4 ?_
  replace h := bnd_some h
  obtain ⟨y5, e6, h⟩ := h
  (repeat ((conv => whnf); first | refine ⟨by kernel_rfl, ?_⟩)); (conv => whnf)
  refine law00_Known_c hX e6 ?_
  (repeat ((conv => whnf); first | refine ⟨by kernel_rfl, ?_⟩)); (conv => whnf)
  refine br_some h (fun c7 g => ?_) (fun c7 g => ?_)
  · replace h := g
    clear g
    (repeat ((conv => whnf); first | refine ⟨by kernel_rfl, ?_⟩ | refine bct c7 ?_)); (conv => whnf)
    exact ret_some (f := fun y => .one (.p (.v (.bool y)))) (g := fun y => []) h hQ
  · replace h := g
    clear g
    replace h := bnd_some h
    obtain ⟨y8, e9, h⟩ := h
    (repeat ((conv => whnf); first | refine ⟨by kernel_rfl, ?_⟩ | refine bcf c7 ?_)); (conv => whnf)
    refine know_Join_c hX e9 ?_
    replace h := bnd_some h
    obtain ⟨y10, e11, h⟩ := h
    (repeat ((conv => whnf); first | refine ⟨by kernel_rfl, ?_⟩)); (conv => whnf)
    refine ref06_Join_c hX e11 ?_
    replace h := bnd_some h
    obtain ⟨y12, e13, h⟩ := h
    (repeat ((conv => whnf); first | refine ⟨by kernel_rfl, ?_⟩)); (conv => whnf)
    refine ref06_Alike_c hX e13 ?_
    (repeat ((conv => whnf); first | refine ⟨by kernel_rfl, ?_⟩)); (conv => whnf)
    refine br_some h (fun c14 g => ?_) (fun c14 g => ?_)
    · replace h := g
      clear g
      (repeat ((conv => whnf); first | refine ⟨by kernel_rfl, ?_⟩ | refine bct c14 ?_)); (conv => whnf)
      refine br_some h (fun c15 g => ?_) (fun c15 g => ?_)
      · replace h := g
        clear g
        replace h := bnd_some h
        obtain ⟨y16, e17, h⟩ := h
        (repeat ((conv => whnf); first | refine ⟨by kernel_rfl, ?_⟩ | refine bct c15 ?_)); (conv => whnf)
        refine know_Same_c hX e17 ?_
        replace h := bnd_some h
        obtain ⟨y18, e19, h⟩ := h
        (repeat ((conv => whnf); first | refine ⟨by kernel_rfl, ?_⟩ | refine bct c15 ?_)); (conv => whnf)
        refine ref06_Same_c hX e19 ?_
        (repeat ((conv => whnf); first | refine ⟨by kernel_rfl, ?_⟩ | refine bct c15 ?_)); (conv => whnf)
        exact ret_some (f := fun y => .one (.p (.v (.bool y)))) (g := fun y => []) h hQ
      · replace h := g
        clear g
        (repeat ((conv => whnf); first | refine ⟨by kernel_rfl, ?_⟩ | refine bcf c15 ?_)); (conv => whnf)
        exact ret_some (f := fun y => .one (.p (.v (.bool y)))) (g := fun y => []) h hQ
    · replace h := g
      clear g
      (repeat ((conv => whnf); first | refine ⟨by kernel_rfl, ?_⟩ | refine bcf c14 ?_)); (conv => whnf)
      exact ret_some (f := fun y => .one (.p (.v (.bool y)))) (g := fun y => []) h hQ
def law07_KnowKeeps_j1 (p4 : ByteArray) (p5 : Ver) (y1 : Bool) (y39 : Know) (y41 : Know) : Option (Bool) :=
  (br y1
    (bnd (know_Has_s y39 p4 p5) fun y46 =>
      (br (!y46)
        (some true)
        (bnd (know_Has_s y41 p4 p5) fun y49 =>
          some y49)))
    (some false))
def law07_KnowKeeps_j2 (p4 : ByteArray) (p5 : Ver) (y1 : Bool) (y92 : Know) (y94 : Know) : Option (Bool) :=
  (br y1
    (bnd (know_Has_s y92 p4 p5) fun y99 =>
      (br (!y99)
        (some true)
        (bnd (know_Has_s y94 p4 p5) fun y102 =>
          some y102)))
    (some false))
def law07_KnowKeeps_s (p0 : Know) (p1 : Know) (p2 : ByteArray) (p3 : Ver) (p4 : ByteArray) (p5 : Ver) : Option (Bool) :=
  (bnd (law07_up_s ) fun y1 =>
    (bnd (law00_Known_s p0) fun y3 =>
      (bnd (law00_Known_s p1) fun y5 =>
        (br (eqI (wr .i64 (y3 * y5)) 0)
          (some y1)
          (bnd (know_Plain_s p0) fun y8 =>
            (bnd (know_Join_s p0 p1) fun y10 =>
              (bnd (know_Has_s p0 p4 p5) fun y12 =>
                (bnd (know_Has_s y8 p4 p5) fun y14 =>
                  (br (@Bool.rec (fun _ => Bool) y12 (!y12) y14)
                    (some false)
                    (bnd (know_Plain_s y8) fun y17 =>
                      (bnd (ref06_Alike_s y17 y8) fun y19 =>
                        (br (!y19)
                          (some false)
                          (bnd (know_Same_s p0 y8) fun y22 =>
                            (br (!y22)
                              (some false)
                              (bnd (know_Has_s y10 p4 p5) fun y25 =>
                                (br y12
                                  (br (@Bool.rec (fun _ => Bool) true (!true) y25)
                                    (some false)
                                    (bnd (know_Join_s p1 p0) fun y29 =>
                                      (bnd (know_Same_s y10 y29) fun y31 =>
                                        (br (!y31)
                                          (some false)
                                          (bnd (know_Join_s y10 p1) fun y34 =>
                                            (bnd (know_Same_s y34 y10) fun y36 =>
                                              (br (!y36)
                                                (some false)
                                                (bnd (know_With_s p0 p2 p3) fun y39 =>
                                                  (bnd (know_Own_s p0 p2 p3) fun y41 =>
                                                    (br (leI 1 p3.r)
                                                      (br (leI p3.r 8)
                                                        (br (leI 1 p3.c)
                                                          (bnd (know_Has_s y39 p2 p3) fun y52 =>
                                                            (br (!y52)
                                                              (some false)
                                                              (bnd (know_Has_s y39 p4 p5) fun y55 =>
                                                                (br (!y55)
                                                                  (some false)
                                                                  (law07_KnowKeeps_j1 p4 p5 y1 y39 y41 )))))
                                                          (bnd (know_Has_s y39 p4 p5) fun y58 =>
                                                            (br (!y58)
                                                              (some false)
                                                              (law07_KnowKeeps_j1 p4 p5 y1 y39 y41 ))))
                                                        (bnd (know_Has_s y39 p4 p5) fun y61 =>
                                                          (br (!y61)
                                                            (some false)
                                                            (br y1
                                                              (bnd (know_Has_s y39 p4 p5) fun y65 =>
                                                                (br (!y65)
                                                                  (some true)
                                                                  (bnd (know_Has_s y41 p4 p5) fun y68 =>
                                                                    some y68)))
                                                              (some false)))))
                                                      (bnd (know_Has_s y39 p4 p5) fun y70 =>
                                                        (br (!y70)
                                                          (some false)
                                                          (br y1
                                                            (bnd (know_Has_s y39 p4 p5) fun y74 =>
                                                              (br (!y74)
                                                                (some true)
                                                                (bnd (know_Has_s y41 p4 p5) fun y77 =>
                                                                  some y77)))
                                                            (some false))))))))))))))
                                  (bnd (know_Has_s p1 p4 p5) fun y79 =>
                                    (br (@Bool.rec (fun _ => Bool) y79 (!y79) y25)
                                      (some false)
                                      (bnd (know_Join_s p1 p0) fun y82 =>
                                        (bnd (know_Same_s y10 y82) fun y84 =>
                                          (br (!y84)
                                            (some false)
                                            (bnd (know_Join_s y10 p1) fun y87 =>
                                              (bnd (know_Same_s y87 y10) fun y89 =>
                                                (br (!y89)
                                                  (some false)
                                                  (bnd (know_With_s p0 p2 p3) fun y92 =>
                                                    (bnd (know_Own_s p0 p2 p3) fun y94 =>
                                                      (br (leI 1 p3.r)
                                                        (br (leI p3.r 8)
                                                          (br (leI 1 p3.c)
                                                            (bnd (know_Has_s y92 p2 p3) fun y105 =>
                                                              (br (!y105)
                                                                (some false)
                                                                (law07_KnowKeeps_j2 p4 p5 y1 y92 y94 )))
                                                            (law07_KnowKeeps_j2 p4 p5 y1 y92 y94 ))
                                                          (br y1
                                                            (bnd (know_Has_s y92 p4 p5) fun y109 =>
                                                              (br (!y109)
                                                                (some true)
                                                                (bnd (know_Has_s y94 p4 p5) fun y112 =>
                                                                  some y112)))
                                                            (some false)))
                                                        (br y1
                                                          (bnd (know_Has_s y92 p4 p5) fun y115 =>
                                                            (br (!y115)
                                                              (some true)
                                                              (bnd (know_Has_s y94 p4 p5) fun y118 =>
                                                                some y118)))
                                                          (some false)))))))))))))))))))))))))))))
theorem law07_KnowKeeps_c {X : Task → Prop} (hX : Closed X) {p0 : Know} {p1 : Know} {p2 : ByteArray} {p3 : Ver} {p4 : ByteArray} {p5 : Ver} {r : Bool} {Q : A → List Blk → Prop} (h : law07_KnowKeeps_s p0 p1 p2 p3 p4 p5 = some r) (hQ : Q (.one (.p (.v (.bool r)))) []) : X (.call 12 [.agg [ic p0.star.x0, ic p0.star.x1, ic p0.star.x2, ic p0.star.x3, ic p0.star.x4, ic p0.star.x5, ic p0.star.x6, ic p0.star.x7, .p (.sl (p0.l.map Frag.row))], .agg [ic p1.star.x0, ic p1.star.x1, ic p1.star.x2, ic p1.star.x3, ic p1.star.x4, ic p1.star.x5, ic p1.star.x6, ic p1.star.x7, .p (.sl (p1.l.map Frag.row))], .one (.p (.v (.string p2))), .agg [ic p3.r, ic p3.c], .one (.p (.v (.string p4))), .agg [ic p5.r, ic p5.c]] [] Q) := by
  unfold law07_KnowKeeps_s at h
  refine call_intro hX Try.func12 rfl rfl ?_
  replace h := bnd_some h
  obtain ⟨y1, e2, h⟩ := h
  (repeat ((conv => whnf); first | refine ⟨by kernel_rfl, ?_⟩)); (conv => whnf)
  refine law07_up_c hX e2 ?_
  replace h := bnd_some h
  obtain ⟨y3, e4, h⟩ := h
  (repeat ((conv => whnf); first | refine ⟨by kernel_rfl, ?_⟩)); (conv => whnf)
  refine law00_Known_c hX e4 ?_
  replace h := bnd_some h
  obtain ⟨y5, e6, h⟩ := h
  (repeat ((conv => whnf); first | refine ⟨by kernel_rfl, ?_⟩)); (conv => whnf)
  refine law00_Known_c hX e6 ?_
  (repeat ((conv => whnf); first | refine ⟨by kernel_rfl, ?_⟩)); (conv => whnf)
  refine br_some h (fun c7 g => ?_) (fun c7 g => ?_)
  · replace h := g
    clear g
    (repeat ((conv => whnf); first | refine ⟨by kernel_rfl, ?_⟩ | refine bct c7 ?_)); (conv => whnf)
    exact ret_some (f := fun y => .one (.p (.v (.bool y)))) (g := fun y => []) h hQ
  · replace h := g
    clear g
    replace h := bnd_some h
    obtain ⟨y8, e9, h⟩ := h
    (repeat ((conv => whnf); first | refine ⟨by kernel_rfl, ?_⟩ | refine bcf c7 ?_)); (conv => whnf)
    refine know_Plain_c hX e9 ?_
    replace h := bnd_some h
    obtain ⟨y10, e11, h⟩ := h
    (repeat ((conv => whnf); first | refine ⟨by kernel_rfl, ?_⟩)); (conv => whnf)
    refine know_Join_c hX e11 ?_
    replace h := bnd_some h
    obtain ⟨y12, e13, h⟩ := h
    (repeat ((conv => whnf); first | refine ⟨by kernel_rfl, ?_⟩)); (conv => whnf)
    refine know_Has_c hX e13 ?_
    replace h := bnd_some h
    obtain ⟨y14, e15, h⟩ := h
    (repeat ((conv => whnf); first | refine ⟨by kernel_rfl, ?_⟩)); (conv => whnf)
    refine know_Has_c hX e15 ?_
    (repeat ((conv => whnf); first | refine ⟨by kernel_rfl, ?_⟩)); (conv => whnf)
    refine br_some h (fun c16 g => ?_) (fun c16 g => ?_)
    · replace h := g
      clear g
      (repeat ((conv => whnf); first | refine ⟨by kernel_rfl, ?_⟩ | refine bct c16 ?_)); (conv => whnf)
      exact ret_some (f := fun y => .one (.p (.v (.bool y)))) (g := fun y => []) h hQ
    · replace h := g
      clear g
      replace h := bnd_some h
      obtain ⟨y17, e18, h⟩ := h
      (repeat ((conv => whnf); first | refine ⟨by kernel_rfl, ?_⟩ | refine bcf c16 ?_)); (conv => whnf)
      refine know_Plain_c hX e18 ?_
      replace h := bnd_some h
      obtain ⟨y19, e20, h⟩ := h
      (repeat ((conv => whnf); first | refine ⟨by kernel_rfl, ?_⟩ | refine bcf c16 ?_)); (conv => whnf)
      refine ref06_Alike_c hX e20 ?_
      (repeat ((conv => whnf); first | refine ⟨by kernel_rfl, ?_⟩ | refine bcf c16 ?_)); (conv => whnf)
      refine br_some h (fun c21 g => ?_) (fun c21 g => ?_)
      · replace h := g
        clear g
        (repeat ((conv => whnf); first | refine ⟨by kernel_rfl, ?_⟩ | refine bct c21 ?_)); (conv => whnf)
        exact ret_some (f := fun y => .one (.p (.v (.bool y)))) (g := fun y => []) h hQ
      · replace h := g
        clear g
        replace h := bnd_some h
        obtain ⟨y22, e23, h⟩ := h
        (repeat ((conv => whnf); first | refine ⟨by kernel_rfl, ?_⟩ | refine bcf c21 ?_)); (conv => whnf)
        refine know_Same_c hX e23 ?_
        (repeat ((conv => whnf); first | refine ⟨by kernel_rfl, ?_⟩ | refine bcf c21 ?_)); (conv => whnf)
        refine br_some h (fun c24 g => ?_) (fun c24 g => ?_)
        · replace h := g
          clear g
          (repeat ((conv => whnf); first | refine ⟨by kernel_rfl, ?_⟩ | refine bct c24 ?_)); (conv => whnf)
          exact ret_some (f := fun y => .one (.p (.v (.bool y)))) (g := fun y => []) h hQ
        · replace h := g
          clear g
          replace h := bnd_some h
          obtain ⟨y25, e26, h⟩ := h
          (repeat ((conv => whnf); first | refine ⟨by kernel_rfl, ?_⟩ | refine bcf c24 ?_)); (conv => whnf)
          refine know_Has_c hX e26 ?_
          (repeat ((conv => whnf); first | refine ⟨by kernel_rfl, ?_⟩)); (conv => whnf)
          refine br_some h (fun c27 g => ?_) (fun c27 g => ?_)
          · replace h := g
            clear g
            (repeat ((conv => whnf); first | refine ⟨by kernel_rfl, ?_⟩ | refine bct c27 ?_)); (conv => whnf)
            refine br_some h (fun c28 g => ?_) (fun c28 g => ?_)
            · replace h := g
              clear g
              (repeat ((conv => whnf); first | refine ⟨by kernel_rfl, ?_⟩ | refine bct c28 ?_)); (conv => whnf)
              exact ret_some (f := fun y => .one (.p (.v (.bool y)))) (g := fun y => []) h hQ
            · replace h := g
              clear g
              replace h := bnd_some h
              obtain ⟨y29, e30, h⟩ := h
              (repeat ((conv => whnf); first | refine ⟨by kernel_rfl, ?_⟩ | refine bcf c28 ?_)); (conv => whnf)
              refine know_Join_c hX e30 ?_
              replace h := bnd_some h
              obtain ⟨y31, e32, h⟩ := h
              (repeat ((conv => whnf); first | refine ⟨by kernel_rfl, ?_⟩ | refine bcf c28 ?_)); (conv => whnf)
              refine know_Same_c hX e32 ?_
              (repeat ((conv => whnf); first | refine ⟨by kernel_rfl, ?_⟩ | refine bcf c28 ?_)); (conv => whnf)
              refine br_some h (fun c33 g => ?_) (fun c33 g => ?_)
              · replace h := g
                clear g
                (repeat ((conv => whnf); first | refine ⟨by kernel_rfl, ?_⟩ | refine bct c33 ?_)); (conv => whnf)
                exact ret_some (f := fun y => .one (.p (.v (.bool y)))) (g := fun y => []) h hQ
              · replace h := g
                clear g
                replace h := bnd_some h
                obtain ⟨y34, e35, h⟩ := h
                (repeat ((conv => whnf); first | refine ⟨by kernel_rfl, ?_⟩ | refine bcf c33 ?_)); (conv => whnf)
                refine know_Join_c hX e35 ?_
                replace h := bnd_some h
                obtain ⟨y36, e37, h⟩ := h
                (repeat ((conv => whnf); first | refine ⟨by kernel_rfl, ?_⟩ | refine bcf c33 ?_)); (conv => whnf)
                refine know_Same_c hX e37 ?_
                (repeat ((conv => whnf); first | refine ⟨by kernel_rfl, ?_⟩ | refine bcf c33 ?_)); (conv => whnf)
                refine br_some h (fun c38 g => ?_) (fun c38 g => ?_)
                · replace h := g
                  clear g
                  (repeat ((conv => whnf); first | refine ⟨by kernel_rfl, ?_⟩ | refine bct c38 ?_)); (conv => whnf)
                  exact ret_some (f := fun y => .one (.p (.v (.bool y)))) (g := fun y => []) h hQ
                · replace h := g
                  clear g
                  replace h := bnd_some h
                  obtain ⟨y39, e40, h⟩ := h
                  (repeat ((conv => whnf); first | refine ⟨by kernel_rfl, ?_⟩ | refine bcf c38 ?_)); (conv => whnf)
                  refine know_With_c hX e40 ?_
                  replace h := bnd_some h
                  obtain ⟨y41, e42, h⟩ := h
                  (repeat ((conv => whnf); first | refine ⟨by kernel_rfl, ?_⟩)); (conv => whnf)
                  refine know_Own_c hX e42 ?_
                  (repeat ((conv => whnf); first | refine ⟨by kernel_rfl, ?_⟩)); (conv => whnf)
                  refine br_some h (fun c43 g => ?_) (fun c43 g => ?_)
                  · replace h := g
                    clear g
                    (repeat ((conv => whnf); first | refine ⟨by kernel_rfl, ?_⟩ | refine bct c43 ?_)); (conv => whnf)
                    refine br_some h (fun c44 g => ?_) (fun c44 g => ?_)
                    · replace h := g
                      clear g
                      apply join0 (X := X) (r := r) (pad [(4, .one (.p (.v (.string p4)))), (6, .one (.ptr 0 0)), (1, .one (.p (.v (.bool y1)))), (3, .one (.ptr 1 0)), (0, .one (.ptr 2 0))] 118) ([.box [ic p5.r, ic p5.c], .box [ic y39.star.x0, ic y39.star.x1, ic y39.star.x2, ic y39.star.x3, ic y39.star.x4, ic y39.star.x5, ic y39.star.x6, ic y39.star.x7, .p (.sl (y39.l.map Frag.row))], .box [ic y41.star.x0, ic y41.star.x1, ic y41.star.x2, ic y41.star.x3, ic y41.star.x4, ic y41.star.x5, ic y41.star.x6, ic y41.star.x7, .p (.sl (y41.l.map Frag.row))]])
                      · intro tl1
                        (repeat ((conv => whnf); first | refine ⟨by kernel_rfl, ?_⟩ | refine bct c44 ?_)); (conv => whnf)
                        refine br_some h (fun c51 g => ?_) (fun c51 g => ?_)
                        · replace h := g
                          clear g
                          replace h := bnd_some h
                          obtain ⟨y52, e53, h⟩ := h
                          (repeat ((conv => whnf); first | refine ⟨by kernel_rfl, ?_⟩ | refine bct c51 ?_)); (conv => whnf)
                          refine know_Has_c hX e53 ?_
                          (repeat ((conv => whnf); first | refine ⟨by kernel_rfl, ?_⟩ | refine bct c51 ?_)); (conv => whnf)
                          refine br_some h (fun c54 g => ?_) (fun c54 g => ?_)
                          · replace h := g
                            clear g
                            (repeat ((conv => whnf); first | refine ⟨by kernel_rfl, ?_⟩ | refine bct c54 ?_)); (conv => whnf)
                            exact ret_some (f := fun y => .one (.p (.v (.bool y)))) (g := fun y => []) h hQ
                          · replace h := g
                            clear g
                            replace h := bnd_some h
                            obtain ⟨y55, e56, h⟩ := h
                            (repeat ((conv => whnf); first | refine ⟨by kernel_rfl, ?_⟩ | refine bcf c54 ?_ | refine bct c27 ?_)); (conv => whnf)
                            refine know_Has_c hX e56 ?_
                            (repeat ((conv => whnf); first | refine ⟨by kernel_rfl, ?_⟩ | refine bct c27 ?_ | refine bcf c54 ?_)); (conv => whnf)
                            refine br_some h (fun c57 g => ?_) (fun c57 g => ?_)
                            · replace h := g
                              clear g
                              (repeat ((conv => whnf); first | refine ⟨by kernel_rfl, ?_⟩ | refine bct c57 ?_)); (conv => whnf)
                              exact ret_some (f := fun y => .one (.p (.v (.bool y)))) (g := fun y => []) h hQ
                            · replace h := g
                              clear g
                              (repeat ((conv => whnf); first | refine ⟨by kernel_rfl, ?_⟩ | refine bcf c57 ?_)); (conv => whnf)
                              exact tl1.h  h
                        · replace h := g
                          clear g
                          replace h := bnd_some h
                          obtain ⟨y58, e59, h⟩ := h
                          (repeat ((conv => whnf); first | refine ⟨by kernel_rfl, ?_⟩ | refine bcf c51 ?_ | refine bct c27 ?_)); (conv => whnf)
                          refine know_Has_c hX e59 ?_
                          (repeat ((conv => whnf); first | refine ⟨by kernel_rfl, ?_⟩ | refine bct c27 ?_)); (conv => whnf)
                          refine br_some h (fun c60 g => ?_) (fun c60 g => ?_)
                          · replace h := g
                            clear g
                            (repeat ((conv => whnf); first | refine ⟨by kernel_rfl, ?_⟩ | refine bct c60 ?_)); (conv => whnf)
                            exact ret_some (f := fun y => .one (.p (.v (.bool y)))) (g := fun y => []) h hQ
                          · replace h := g
                            clear g
                            (repeat ((conv => whnf); first | refine ⟨by kernel_rfl, ?_⟩ | refine bcf c60 ?_)); (conv => whnf)
                            exact tl1.h  h
                      · intro h
                        unfold law07_KnowKeeps_j1 at h
                        refine rest_intro hX ?_
                        (repeat ((conv => whnf); first | refine ⟨by kernel_rfl, ?_⟩)); (conv => whnf)
                        refine br_some h (fun c45 g => ?_) (fun c45 g => ?_)
                        · replace h := g
                          clear g
                          replace h := bnd_some h
                          obtain ⟨y46, e47, h⟩ := h
                          (repeat ((conv => whnf); first | refine ⟨by kernel_rfl, ?_⟩ | refine bct c45 ?_)); (conv => whnf)
                          refine know_Has_c hX e47 ?_
                          (repeat ((conv => whnf); first | refine ⟨by kernel_rfl, ?_⟩ | refine bct c45 ?_)); (conv => whnf)
                          refine br_some h (fun c48 g => ?_) (fun c48 g => ?_)
                          · replace h := g
                            clear g
                            (repeat ((conv => whnf); first | refine ⟨by kernel_rfl, ?_⟩ | refine bct c48 ?_ | refine bct c45 ?_)); (conv => whnf)
                            exact ret_some (f := fun y => .one (.p (.v (.bool y)))) (g := fun y => []) h hQ
                          · replace h := g
                            clear g
                            replace h := bnd_some h
                            obtain ⟨y49, e50, h⟩ := h
                            (repeat ((conv => whnf); first | refine ⟨by kernel_rfl, ?_⟩ | refine bcf c48 ?_)); (conv => whnf)
                            refine know_Has_c hX e50 ?_
                            (repeat ((conv => whnf); first | refine ⟨by kernel_rfl, ?_⟩ | refine bct c45 ?_ | refine bcf c48 ?_)); (conv => whnf)
                            exact ret_some (f := fun y => .one (.p (.v (.bool y)))) (g := fun y => []) h hQ
                        · replace h := g
                          clear g
                          (repeat ((conv => whnf); first | refine ⟨by kernel_rfl, ?_⟩ | refine bcf c45 ?_)); (conv => whnf)
                          exact ret_some (f := fun y => .one (.p (.v (.bool y)))) (g := fun y => []) h hQ
                    · replace h := g
                      clear g
                      replace h := bnd_some h
                      obtain ⟨y61, e62, h⟩ := h
                      (repeat ((conv => whnf); first | refine ⟨by kernel_rfl, ?_⟩ | refine bcf c44 ?_ | refine bct c27 ?_)); (conv => whnf)
                      refine know_Has_c hX e62 ?_
                      (repeat ((conv => whnf); first | refine ⟨by kernel_rfl, ?_⟩ | refine bct c27 ?_)); (conv => whnf)
                      refine br_some h (fun c63 g => ?_) (fun c63 g => ?_)
                      · replace h := g
                        clear g
                        (repeat ((conv => whnf); first | refine ⟨by kernel_rfl, ?_⟩ | refine bct c63 ?_)); (conv => whnf)
                        exact ret_some (f := fun y => .one (.p (.v (.bool y)))) (g := fun y => []) h hQ
                      · replace h := g
                        clear g
                        (repeat ((conv => whnf); first | refine ⟨by kernel_rfl, ?_⟩ | refine bcf c63 ?_)); (conv => whnf)
                        refine rest_intro hX ?_
                        (repeat ((conv => whnf); first | refine ⟨by kernel_rfl, ?_⟩)); (conv => whnf)
                        refine br_some h (fun c64 g => ?_) (fun c64 g => ?_)
                        · replace h := g
                          clear g
                          replace h := bnd_some h
                          obtain ⟨y65, e66, h⟩ := h
                          (repeat ((conv => whnf); first | refine ⟨by kernel_rfl, ?_⟩ | refine bct c64 ?_)); (conv => whnf)
                          refine know_Has_c hX e66 ?_
                          (repeat ((conv => whnf); first | refine ⟨by kernel_rfl, ?_⟩ | refine bct c64 ?_)); (conv => whnf)
                          refine br_some h (fun c67 g => ?_) (fun c67 g => ?_)
                          · replace h := g
                            clear g
                            (repeat ((conv => whnf); first | refine ⟨by kernel_rfl, ?_⟩ | refine bct c67 ?_ | refine bct c64 ?_)); (conv => whnf)
                            exact ret_some (f := fun y => .one (.p (.v (.bool y)))) (g := fun y => []) h hQ
                          · replace h := g
                            clear g
                            replace h := bnd_some h
                            obtain ⟨y68, e69, h⟩ := h
                            (repeat ((conv => whnf); first | refine ⟨by kernel_rfl, ?_⟩ | refine bcf c67 ?_)); (conv => whnf)
                            refine know_Has_c hX e69 ?_
                            (repeat ((conv => whnf); first | refine ⟨by kernel_rfl, ?_⟩ | refine bct c64 ?_ | refine bcf c67 ?_)); (conv => whnf)
                            exact ret_some (f := fun y => .one (.p (.v (.bool y)))) (g := fun y => []) h hQ
                        · replace h := g
                          clear g
                          (repeat ((conv => whnf); first | refine ⟨by kernel_rfl, ?_⟩ | refine bcf c64 ?_)); (conv => whnf)
                          exact ret_some (f := fun y => .one (.p (.v (.bool y)))) (g := fun y => []) h hQ
                  · replace h := g
                    clear g
                    replace h := bnd_some h
                    obtain ⟨y70, e71, h⟩ := h
                    (repeat ((conv => whnf); first | refine ⟨by kernel_rfl, ?_⟩ | refine bcf c43 ?_ | refine bct c27 ?_)); (conv => whnf)
                    refine know_Has_c hX e71 ?_
                    (repeat ((conv => whnf); first | refine ⟨by kernel_rfl, ?_⟩ | refine bct c27 ?_)); (conv => whnf)
                    refine br_some h (fun c72 g => ?_) (fun c72 g => ?_)
                    · replace h := g
                      clear g
                      (repeat ((conv => whnf); first | refine ⟨by kernel_rfl, ?_⟩ | refine bct c72 ?_)); (conv => whnf)
                      exact ret_some (f := fun y => .one (.p (.v (.bool y)))) (g := fun y => []) h hQ
                    · replace h := g
                      clear g
                      (repeat ((conv => whnf); first | refine ⟨by kernel_rfl, ?_⟩ | refine bcf c72 ?_)); (conv => whnf)
                      refine rest_intro hX ?_
                      (repeat ((conv => whnf); first | refine ⟨by kernel_rfl, ?_⟩)); (conv => whnf)
                      refine br_some h (fun c73 g => ?_) (fun c73 g => ?_)
                      · replace h := g
                        clear g
                        replace h := bnd_some h
                        obtain ⟨y74, e75, h⟩ := h
                        (repeat ((conv => whnf); first | refine ⟨by kernel_rfl, ?_⟩ | refine bct c73 ?_)); (conv => whnf)
                        refine know_Has_c hX e75 ?_
                        (repeat ((conv => whnf); first | refine ⟨by kernel_rfl, ?_⟩ | refine bct c73 ?_)); (conv => whnf)
                        refine br_some h (fun c76 g => ?_) (fun c76 g => ?_)
                        · replace h := g
                          clear g
                          (repeat ((conv => whnf); first | refine ⟨by kernel_rfl, ?_⟩ | refine bct c76 ?_ | refine bct c73 ?_)); (conv => whnf)
                          exact ret_some (f := fun y => .one (.p (.v (.bool y)))) (g := fun y => []) h hQ
                        · replace h := g
                          clear g
                          replace h := bnd_some h
                          obtain ⟨y77, e78, h⟩ := h
                          (repeat ((conv => whnf); first | refine ⟨by kernel_rfl, ?_⟩ | refine bcf c76 ?_)); (conv => whnf)
                          refine know_Has_c hX e78 ?_
                          (repeat ((conv => whnf); first | refine ⟨by kernel_rfl, ?_⟩ | refine bct c73 ?_ | refine bcf c76 ?_)); (conv => whnf)
                          exact ret_some (f := fun y => .one (.p (.v (.bool y)))) (g := fun y => []) h hQ
                      · replace h := g
                        clear g
                        (repeat ((conv => whnf); first | refine ⟨by kernel_rfl, ?_⟩ | refine bcf c73 ?_)); (conv => whnf)
                        exact ret_some (f := fun y => .one (.p (.v (.bool y)))) (g := fun y => []) h hQ
          · replace h := g
            clear g
            replace h := bnd_some h
            obtain ⟨y79, e80, h⟩ := h
            (repeat ((conv => whnf); first | refine ⟨by kernel_rfl, ?_⟩ | refine bcf c27 ?_)); (conv => whnf)
            refine know_Has_c hX e80 ?_
            (repeat ((conv => whnf); first | refine ⟨by kernel_rfl, ?_⟩ | refine bcf c27 ?_)); (conv => whnf)
            refine br_some h (fun c81 g => ?_) (fun c81 g => ?_)
            · replace h := g
              clear g
              (repeat ((conv => whnf); first | refine ⟨by kernel_rfl, ?_⟩ | refine bct c81 ?_)); (conv => whnf)
              exact ret_some (f := fun y => .one (.p (.v (.bool y)))) (g := fun y => []) h hQ
            · replace h := g
              clear g
              replace h := bnd_some h
              obtain ⟨y82, e83, h⟩ := h
              (repeat ((conv => whnf); first | refine ⟨by kernel_rfl, ?_⟩ | refine bcf c81 ?_)); (conv => whnf)
              refine know_Join_c hX e83 ?_
              replace h := bnd_some h
              obtain ⟨y84, e85, h⟩ := h
              (repeat ((conv => whnf); first | refine ⟨by kernel_rfl, ?_⟩ | refine bcf c81 ?_)); (conv => whnf)
              refine know_Same_c hX e85 ?_
              (repeat ((conv => whnf); first | refine ⟨by kernel_rfl, ?_⟩ | refine bcf c81 ?_)); (conv => whnf)
              refine br_some h (fun c86 g => ?_) (fun c86 g => ?_)
              · replace h := g
                clear g
                (repeat ((conv => whnf); first | refine ⟨by kernel_rfl, ?_⟩ | refine bct c86 ?_)); (conv => whnf)
                exact ret_some (f := fun y => .one (.p (.v (.bool y)))) (g := fun y => []) h hQ
              · replace h := g
                clear g
                replace h := bnd_some h
                obtain ⟨y87, e88, h⟩ := h
                (repeat ((conv => whnf); first | refine ⟨by kernel_rfl, ?_⟩ | refine bcf c86 ?_)); (conv => whnf)
                refine know_Join_c hX e88 ?_
                replace h := bnd_some h
                obtain ⟨y89, e90, h⟩ := h
                (repeat ((conv => whnf); first | refine ⟨by kernel_rfl, ?_⟩ | refine bcf c86 ?_)); (conv => whnf)
                refine know_Same_c hX e90 ?_
                (repeat ((conv => whnf); first | refine ⟨by kernel_rfl, ?_⟩ | refine bcf c86 ?_)); (conv => whnf)
                refine br_some h (fun c91 g => ?_) (fun c91 g => ?_)
                · replace h := g
                  clear g
                  (repeat ((conv => whnf); first | refine ⟨by kernel_rfl, ?_⟩ | refine bct c91 ?_)); (conv => whnf)
                  exact ret_some (f := fun y => .one (.p (.v (.bool y)))) (g := fun y => []) h hQ
                · replace h := g
                  clear g
                  replace h := bnd_some h
                  obtain ⟨y92, e93, h⟩ := h
                  (repeat ((conv => whnf); first | refine ⟨by kernel_rfl, ?_⟩ | refine bcf c91 ?_)); (conv => whnf)
                  refine know_With_c hX e93 ?_
                  replace h := bnd_some h
                  obtain ⟨y94, e95, h⟩ := h
                  (repeat ((conv => whnf); first | refine ⟨by kernel_rfl, ?_⟩)); (conv => whnf)
                  refine know_Own_c hX e95 ?_
                  (repeat ((conv => whnf); first | refine ⟨by kernel_rfl, ?_⟩)); (conv => whnf)
                  refine br_some h (fun c96 g => ?_) (fun c96 g => ?_)
                  · replace h := g
                    clear g
                    (repeat ((conv => whnf); first | refine ⟨by kernel_rfl, ?_⟩ | refine bct c96 ?_)); (conv => whnf)
                    refine br_some h (fun c97 g => ?_) (fun c97 g => ?_)
                    · replace h := g
                      clear g
                      apply join0 (X := X) (r := r) (pad [(4, .one (.p (.v (.string p4)))), (6, .one (.ptr 0 0)), (1, .one (.p (.v (.bool y1)))), (3, .one (.ptr 1 0)), (0, .one (.ptr 2 0))] 118) ([.box [ic p5.r, ic p5.c], .box [ic y92.star.x0, ic y92.star.x1, ic y92.star.x2, ic y92.star.x3, ic y92.star.x4, ic y92.star.x5, ic y92.star.x6, ic y92.star.x7, .p (.sl (y92.l.map Frag.row))], .box [ic y94.star.x0, ic y94.star.x1, ic y94.star.x2, ic y94.star.x3, ic y94.star.x4, ic y94.star.x5, ic y94.star.x6, ic y94.star.x7, .p (.sl (y94.l.map Frag.row))]])
                      · intro tl2
                        (repeat ((conv => whnf); first | refine ⟨by kernel_rfl, ?_⟩ | refine bct c97 ?_)); (conv => whnf)
                        refine br_some h (fun c104 g => ?_) (fun c104 g => ?_)
                        · replace h := g
                          clear g
                          replace h := bnd_some h
                          obtain ⟨y105, e106, h⟩ := h
                          (repeat ((conv => whnf); first | refine ⟨by kernel_rfl, ?_⟩ | refine bct c104 ?_)); (conv => whnf)
                          refine know_Has_c hX e106 ?_
                          (repeat ((conv => whnf); first | refine ⟨by kernel_rfl, ?_⟩ | refine bct c104 ?_)); (conv => whnf)
                          refine br_some h (fun c107 g => ?_) (fun c107 g => ?_)
                          · replace h := g
                            clear g
                            (repeat ((conv => whnf); first | refine ⟨by kernel_rfl, ?_⟩ | refine bct c107 ?_)); (conv => whnf)
                            exact ret_some (f := fun y => .one (.p (.v (.bool y)))) (g := fun y => []) h hQ
                          · replace h := g
                            clear g
                            (repeat ((conv => whnf); first | refine ⟨by kernel_rfl, ?_⟩ | refine bcf c107 ?_ | refine bcf c27 ?_)); (conv => whnf)
                            exact tl2.h  h
                        · replace h := g
                          clear g
                          (repeat ((conv => whnf); first | refine ⟨by kernel_rfl, ?_⟩ | refine bcf c104 ?_ | refine bcf c27 ?_)); (conv => whnf)
                          exact tl2.h  h
                      · intro h
                        unfold law07_KnowKeeps_j2 at h
                        refine rest_intro hX ?_
                        (repeat ((conv => whnf); first | refine ⟨by kernel_rfl, ?_⟩)); (conv => whnf)
                        refine br_some h (fun c98 g => ?_) (fun c98 g => ?_)
                        · replace h := g
                          clear g
                          replace h := bnd_some h
                          obtain ⟨y99, e100, h⟩ := h
                          (repeat ((conv => whnf); first | refine ⟨by kernel_rfl, ?_⟩ | refine bct c98 ?_)); (conv => whnf)
                          refine know_Has_c hX e100 ?_
                          (repeat ((conv => whnf); first | refine ⟨by kernel_rfl, ?_⟩ | refine bct c98 ?_)); (conv => whnf)
                          refine br_some h (fun c101 g => ?_) (fun c101 g => ?_)
                          · replace h := g
                            clear g
                            (repeat ((conv => whnf); first | refine ⟨by kernel_rfl, ?_⟩ | refine bct c101 ?_ | refine bct c98 ?_)); (conv => whnf)
                            exact ret_some (f := fun y => .one (.p (.v (.bool y)))) (g := fun y => []) h hQ
                          · replace h := g
                            clear g
                            replace h := bnd_some h
                            obtain ⟨y102, e103, h⟩ := h
                            (repeat ((conv => whnf); first | refine ⟨by kernel_rfl, ?_⟩ | refine bcf c101 ?_)); (conv => whnf)
                            refine know_Has_c hX e103 ?_
                            (repeat ((conv => whnf); first | refine ⟨by kernel_rfl, ?_⟩ | refine bct c98 ?_ | refine bcf c101 ?_)); (conv => whnf)
                            exact ret_some (f := fun y => .one (.p (.v (.bool y)))) (g := fun y => []) h hQ
                        · replace h := g
                          clear g
                          (repeat ((conv => whnf); first | refine ⟨by kernel_rfl, ?_⟩ | refine bcf c98 ?_)); (conv => whnf)
                          exact ret_some (f := fun y => .one (.p (.v (.bool y)))) (g := fun y => []) h hQ
                    · replace h := g
                      clear g
                      (repeat ((conv => whnf); first | refine ⟨by kernel_rfl, ?_⟩ | refine bcf c97 ?_ | refine bcf c27 ?_)); (conv => whnf)
                      refine rest_intro hX ?_
                      (repeat ((conv => whnf); first | refine ⟨by kernel_rfl, ?_⟩)); (conv => whnf)
                      refine br_some h (fun c108 g => ?_) (fun c108 g => ?_)
                      · replace h := g
                        clear g
                        replace h := bnd_some h
                        obtain ⟨y109, e110, h⟩ := h
                        (repeat ((conv => whnf); first | refine ⟨by kernel_rfl, ?_⟩ | refine bct c108 ?_)); (conv => whnf)
                        refine know_Has_c hX e110 ?_
                        (repeat ((conv => whnf); first | refine ⟨by kernel_rfl, ?_⟩ | refine bct c108 ?_)); (conv => whnf)
                        refine br_some h (fun c111 g => ?_) (fun c111 g => ?_)
                        · replace h := g
                          clear g
                          (repeat ((conv => whnf); first | refine ⟨by kernel_rfl, ?_⟩ | refine bct c111 ?_ | refine bct c108 ?_)); (conv => whnf)
                          exact ret_some (f := fun y => .one (.p (.v (.bool y)))) (g := fun y => []) h hQ
                        · replace h := g
                          clear g
                          replace h := bnd_some h
                          obtain ⟨y112, e113, h⟩ := h
                          (repeat ((conv => whnf); first | refine ⟨by kernel_rfl, ?_⟩ | refine bcf c111 ?_)); (conv => whnf)
                          refine know_Has_c hX e113 ?_
                          (repeat ((conv => whnf); first | refine ⟨by kernel_rfl, ?_⟩ | refine bct c108 ?_ | refine bcf c111 ?_)); (conv => whnf)
                          exact ret_some (f := fun y => .one (.p (.v (.bool y)))) (g := fun y => []) h hQ
                      · replace h := g
                        clear g
                        (repeat ((conv => whnf); first | refine ⟨by kernel_rfl, ?_⟩ | refine bcf c108 ?_)); (conv => whnf)
                        exact ret_some (f := fun y => .one (.p (.v (.bool y)))) (g := fun y => []) h hQ
                  · replace h := g
                    clear g
                    (repeat ((conv => whnf); first | refine ⟨by kernel_rfl, ?_⟩ | refine bcf c96 ?_ | refine bcf c27 ?_)); (conv => whnf)
                    refine rest_intro hX ?_
                    (repeat ((conv => whnf); first | refine ⟨by kernel_rfl, ?_⟩)); (conv => whnf)
                    refine br_some h (fun c114 g => ?_) (fun c114 g => ?_)
                    · replace h := g
                      clear g
                      replace h := bnd_some h
                      obtain ⟨y115, e116, h⟩ := h
                      (repeat ((conv => whnf); first | refine ⟨by kernel_rfl, ?_⟩ | refine bct c114 ?_)); (conv => whnf)
                      refine know_Has_c hX e116 ?_
                      (repeat ((conv => whnf); first | refine ⟨by kernel_rfl, ?_⟩ | refine bct c114 ?_)); (conv => whnf)
                      refine br_some h (fun c117 g => ?_) (fun c117 g => ?_)
                      · replace h := g
                        clear g
                        (repeat ((conv => whnf); first | refine ⟨by kernel_rfl, ?_⟩ | refine bct c117 ?_ | refine bct c114 ?_)); (conv => whnf)
                        exact ret_some (f := fun y => .one (.p (.v (.bool y)))) (g := fun y => []) h hQ
                      · replace h := g
                        clear g
                        replace h := bnd_some h
                        obtain ⟨y118, e119, h⟩ := h
                        (repeat ((conv => whnf); first | refine ⟨by kernel_rfl, ?_⟩ | refine bcf c117 ?_)); (conv => whnf)
                        refine know_Has_c hX e119 ?_
                        (repeat ((conv => whnf); first | refine ⟨by kernel_rfl, ?_⟩ | refine bct c114 ?_ | refine bcf c117 ?_)); (conv => whnf)
                        exact ret_some (f := fun y => .one (.p (.v (.bool y)))) (g := fun y => []) h hQ
                    · replace h := g
                      clear g
                      (repeat ((conv => whnf); first | refine ⟨by kernel_rfl, ?_⟩ | refine bcf c114 ?_)); (conv => whnf)
                      exact ret_some (f := fun y => .one (.p (.v (.bool y)))) (g := fun y => []) h hQ
end
end Go.Proofs.Ytijkfjahgijphaa
