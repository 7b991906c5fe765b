/- The statements of layer 8, walked. Written by decomp.py. -/
import Derived.Test.YtijkfjahgijphaaG2
import Derived.Test.YtijkfjahgijphaaH0
import Derived.Test.YtijkfjahgijphaaLoops
set_option linter.unusedVariables false
set_option linter.unusedSimpArgs false
set_option maxRecDepth 100000
set_option maxHeartbeats 0
namespace Go.Proofs.Ytijkfjahgijphaa
open Go E
noncomputable section
open Pred
def law08_up_s : Option (Bool) :=
  (bnd (list_Put_s [(Item.mk ⟨#[97]⟩ 0 0 0 ⟨#[]⟩ 0 0 0 false), (Item.mk ⟨#[99]⟩ 0 0 0 ⟨#[]⟩ 0 0 0 false)] (Item.mk ⟨#[98]⟩ 0 0 0 ⟨#[]⟩ 0 0 0 false)) fun y1 =>
    (br (!eqI (y1.length : Int) 3)
      (some false)
      (bnd (atL y1 0) fun x4 =>
        (br (eqS x4.id ⟨#[97]⟩)
          (bnd (atL y1 1) fun x7 =>
            (br (eqS x7.id ⟨#[98]⟩)
              (bnd (atL y1 2) fun x10 =>
                (br (eqS x10.id ⟨#[99]⟩)
                  (bnd (list_May_s ([] : List Item)) fun y13 =>
                    some y13)
                  (some false)))
              (some false)))
          (some false)))))
theorem law08_up_c {X : Task → Prop} (hX : Closed X) {r : Bool} {Q : A → List Blk → Prop} (h : law08_up_s  = some r) (hQ : Q (.one (.p (.v (.bool r)))) []) : X (.call 43 [] [] Q) := by
  unfold law08_up_s at h
  refine call_intro hX Try.func43 rfl rfl ?_
  replace h := bnd_some h
  obtain ⟨y1, e2, h⟩ := h
  (repeat ((conv => whnf); first | refine ⟨by kernel_rfl, ?_⟩)); (conv => whnf)
  refine Or.inl ?_
  conv => whnf
  refine list_Put_c hX e2 ?_
  (repeat ((conv => whnf); first | refine ⟨by kernel_rfl, ?_⟩ | refine eqv_to (map_len _) ?_)); (conv => whnf)
  refine br_some h (fun c3 g => ?_) (fun c3 g => ?_)
  · replace h := g
    clear g
    (repeat ((conv => whnf); first | refine ⟨by kernel_rfl, ?_⟩ | refine bct c3 ?_)); (conv => whnf)
    exact ret_some (f := fun y => .one (.p (.v (.bool y)))) (g := fun y => []) h hQ
  · replace h := g
    clear g
    replace h := bnd_some h
    obtain ⟨x4, a5, h⟩ := h
    (repeat ((conv => whnf); first | refine ⟨by kernel_rfl, ?_⟩ | refine bcf c3 ?_ | refine bct (at_in a5) ?_ | refine bct (andt (at_in a5) rfl) ?_ | refine row_in (at_row a5) ?_ | refine bct (andt (at_in (at_nat a5)) rfl) ?_ | refine row_in (at_row (at_nat a5)) ?_)); (conv => whnf)
    refine br_some h (fun c6 g => ?_) (fun c6 g => ?_)
    · replace h := g
      clear g
      replace h := bnd_some h
      obtain ⟨x7, a8, h⟩ := h
      (repeat ((conv => whnf); first | refine ⟨by kernel_rfl, ?_⟩ | refine bct c6 ?_ | refine bct (at_in a8) ?_ | refine bct (andt (at_in a8) rfl) ?_ | refine row_in (at_row a8) ?_ | refine bct (andt (at_in (at_nat a8)) rfl) ?_ | refine row_in (at_row (at_nat a8)) ?_)); (conv => whnf)
      refine br_some h (fun c9 g => ?_) (fun c9 g => ?_)
      · replace h := g
        clear g
        replace h := bnd_some h
        obtain ⟨x10, a11, h⟩ := h
        (repeat ((conv => whnf); first | refine ⟨by kernel_rfl, ?_⟩ | refine bct c9 ?_ | refine bct (at_in a11) ?_ | refine bct (andt (at_in a11) rfl) ?_ | refine row_in (at_row a11) ?_ | refine bct (andt (at_in (at_nat a11)) rfl) ?_ | refine row_in (at_row (at_nat a11)) ?_)); (conv => whnf)
        refine br_some h (fun c12 g => ?_) (fun c12 g => ?_)
        · replace h := g
          clear g
          replace h := bnd_some h
          obtain ⟨y13, e14, h⟩ := h
          (repeat ((conv => whnf); first | refine ⟨by kernel_rfl, ?_⟩ | refine bct c12 ?_)); (conv => whnf)
          refine call_nz hX ?_
          conv => whnf
          refine list_May_c hX e14 ?_
          (repeat ((conv => whnf); first | refine ⟨by kernel_rfl, ?_⟩ | refine bct c12 ?_)); (conv => whnf)
          exact ret_some (f := fun y => .one (.p (.v (.bool y)))) (g := fun y => []) h hQ
        · replace h := g
          clear g
          (repeat ((conv => whnf); first | refine ⟨by kernel_rfl, ?_⟩ | refine bcf c12 ?_)); (conv => whnf)
          exact ret_some (f := fun y => .one (.p (.v (.bool y)))) (g := fun y => []) h hQ
      · replace h := g
        clear g
        (repeat ((conv => whnf); first | refine ⟨by kernel_rfl, ?_⟩ | refine bcf c9 ?_)); (conv => whnf)
        exact ret_some (f := fun y => .one (.p (.v (.bool y)))) (g := fun y => []) h hQ
    · replace h := g
      clear g
      (repeat ((conv => whnf); first | refine ⟨by kernel_rfl, ?_⟩ | refine bcf c6 ?_)); (conv => whnf)
      exact ret_some (f := fun y => .one (.p (.v (.bool y)))) (g := fun y => []) h hQ
def law08_ListTells_s (p0 : List Item) (p1 : List Item) (p2 : ByteArray) (p3 : Item) : Option (Bool) :=
  (bnd (law08_up_s ) fun y1 =>
    (br (ltI 60 (p0.length : Int))
      (some y1)
      (br (ltI 60 (p1.length : Int))
        (some y1)
        (bnd (law00_Real_s p0) fun y5 =>
          (bnd (law00_Real_s p1) fun y7 =>
            (bnd (law00_Real_s [p3]) fun y9 =>
              (br (eqI (wr .i64 ((wr .i64 (y5 * y7)) * y9)) 0)
                (some y1)
                (bnd (law00_Items_s p0) fun y12 =>
                  (bnd (law00_Items_s p1) fun y14 =>
                    (bnd (law00_Item_s p3) fun y16 =>
                      (bnd (list_May_s y12) fun y18 =>
                        (bnd (ref06_MayList_s y12) fun y20 =>
                          (br (@Bool.rec (fun _ => Bool) y20 (!y20) y18)
                            (some false)
                            (bnd (ref06_Rises_s y12) fun y23 =>
                              (br y23
                                (bnd (ref06_Rises_s y14) fun y26 =>
                                  (br (!y26)
                                    (some y1)
                                    (bnd (list_Get_s y12 p2) fun y29 =>
                                      (bnd (ref06_Get_s y12 p2) fun y31 =>
                                        (br (@Bool.rec (fun _ => Bool) (!y31.2) y31.2 y29.2)
                                          (bnd (ref01_Same_s y29.1 y31.1) fun y34 =>
                                            (bnd (list_Put_s y12 y16) fun y36 =>
                                              (bnd (ref06_Put_s y12 y16) fun y38 =>
                                                (bnd (law00_Same_s y36 y38) fun y40 =>
                                                  (bnd (list_Drop_s y12 p2) fun y42 =>
                                                    (bnd (ref06_Drop_s y12 p2) fun y44 =>
                                                      (bnd (law00_Same_s y42 y44) fun y46 =>
                                                        (bnd (list_Both_s y12 y14) fun y48 =>
                                                          (bnd (ref06_Both_s y12 y14) fun y50 =>
                                                            (bnd (law00_Same_s y48 y50) fun y52 =>
                                                              (br y1
                                                                (br y34
                                                                  (some (eqI (wr .i64 ((wr .i64 (y40 * y46)) * y52)) 1))
                                                                  (some false))
                                                                (some false))))))))))))
                                          (bnd (list_Put_s y12 y16) fun y56 =>
                                            (bnd (ref06_Put_s y12 y16) fun y58 =>
                                              (bnd (law00_Same_s y56 y58) fun y60 =>
                                                (bnd (list_Drop_s y12 p2) fun y62 =>
                                                  (bnd (ref06_Drop_s y12 p2) fun y64 =>
                                                    (bnd (law00_Same_s y62 y64) fun y66 =>
                                                      (bnd (list_Both_s y12 y14) fun y68 =>
                                                        (bnd (ref06_Both_s y12 y14) fun y70 =>
                                                          (bnd (law00_Same_s y68 y70) fun y72 =>
                                                            (br y1
                                                              (some false)
                                                              (some false))))))))))))))))
                                (some y1))))))))))))))))
theorem law08_ListTells_c {X : Task → Prop} (hX : Closed X) {p0 : List Item} {p1 : List Item} {p2 : ByteArray} {p3 : Item} {r : Bool} {Q : A → List Blk → Prop} (h : law08_ListTells_s p0 p1 p2 p3 = some r) (hQ : Q (.one (.p (.v (.bool r)))) []) : X (.call 8 [.one (.p (.sl (p0.map Item.lrow))), .one (.p (.sl (p1.map Item.lrow))), .one (.p (.v (.string p2))), .agg [.p (.v (.string p3.id)), ic p3.vr, ic p3.vc, ic p3.stamp, .p (.v (.string p3.kind)), ic p3.num, .p (.v (.float .f64 p3.re)), .p (.v (.float .f64 p3.im)), .p (.v (.bool p3.dead))]] [] Q) := by
  unfold law08_ListTells_s at h
  refine call_intro hX Try.func8 rfl rfl ?_
  replace h := bnd_some h
  obtain ⟨y1, e2, h⟩ := h
  (repeat ((conv => whnf); first | refine ⟨by kernel_rfl, ?_⟩)); (conv => whnf)
  refine law08_up_c hX e2 ?_
  (repeat ((conv => whnf); first | refine ⟨by kernel_rfl, ?_⟩ | refine eqv_to (map_len _) ?_)); (conv => whnf)
  refine br_some h (fun c3 g => ?_) (fun c3 g => ?_)
  · replace h := g
    clear g
    (repeat ((conv => whnf); first | refine ⟨by kernel_rfl, ?_⟩ | refine bct c3 ?_)); (conv => whnf)
    exact ret_some (f := fun y => .one (.p (.v (.bool y)))) (g := fun y => []) h hQ
  · replace h := g
    clear g
    (repeat ((conv => whnf); first | refine ⟨by kernel_rfl, ?_⟩ | refine bcf c3 ?_ | refine eqv_to (map_len _) ?_)); (conv => whnf)
    refine br_some h (fun c4 g => ?_) (fun c4 g => ?_)
    · replace h := g
      clear g
      (repeat ((conv => whnf); first | refine ⟨by kernel_rfl, ?_⟩ | refine bct c4 ?_)); (conv => whnf)
      exact ret_some (f := fun y => .one (.p (.v (.bool y)))) (g := fun y => []) h hQ
    · replace h := g
      clear g
      replace h := bnd_some h
      obtain ⟨y5, e6, h⟩ := h
      (repeat ((conv => whnf); first | refine ⟨by kernel_rfl, ?_⟩ | refine bcf c4 ?_)); (conv => whnf)
      refine law00_Real_c hX e6 ?_
      replace h := bnd_some h
      obtain ⟨y7, e8, h⟩ := h
      (repeat ((conv => whnf); first | refine ⟨by kernel_rfl, ?_⟩ | refine bcf c4 ?_)); (conv => whnf)
      refine law00_Real_c hX e8 ?_
      replace h := bnd_some h
      obtain ⟨y9, e10, h⟩ := h
      (repeat ((conv => whnf); first | refine ⟨by kernel_rfl, ?_⟩ | refine bcf c4 ?_)); (conv => whnf)
      refine Or.inl ?_
      conv => whnf
      refine law00_Real_c hX e10 ?_
      (repeat ((conv => whnf); first | refine ⟨by kernel_rfl, ?_⟩ | refine bcf c4 ?_)); (conv => whnf)
      refine br_some h (fun c11 g => ?_) (fun c11 g => ?_)
      · replace h := g
        clear g
        (repeat ((conv => whnf); first | refine ⟨by kernel_rfl, ?_⟩ | refine bct c11 ?_)); (conv => whnf)
        exact ret_some (f := fun y => .one (.p (.v (.bool y)))) (g := fun y => []) h hQ
      · replace h := g
        clear g
        replace h := bnd_some h
        obtain ⟨y12, e13, h⟩ := h
        (repeat ((conv => whnf); first | refine ⟨by kernel_rfl, ?_⟩ | refine bcf c11 ?_)); (conv => whnf)
        refine law00_Items_c hX e13 ?_
        replace h := bnd_some h
        obtain ⟨y14, e15, h⟩ := h
        (repeat ((conv => whnf); first | refine ⟨by kernel_rfl, ?_⟩)); (conv => whnf)
        refine law00_Items_c hX e15 ?_
        replace h := bnd_some h
        obtain ⟨y16, e17, h⟩ := h
        (repeat ((conv => whnf); first | refine ⟨by kernel_rfl, ?_⟩)); (conv => whnf)
        refine law00_Item_c hX e17 ?_
        replace h := bnd_some h
        obtain ⟨y18, e19, h⟩ := h
        (repeat ((conv => whnf); first | refine ⟨by kernel_rfl, ?_⟩)); (conv => whnf)
        refine list_May_c hX e19 ?_
        replace h := bnd_some h
        obtain ⟨y20, e21, h⟩ := h
        (repeat ((conv => whnf); first | refine ⟨by kernel_rfl, ?_⟩)); (conv => whnf)
        refine ref06_MayList_c hX e21 ?_
        (repeat ((conv => whnf); first | refine ⟨by kernel_rfl, ?_⟩)); (conv => whnf)
        refine br_some h (fun c22 g => ?_) (fun c22 g => ?_)
        · replace h := g
          clear g
          (repeat ((conv => whnf); first | refine ⟨by kernel_rfl, ?_⟩ | refine bct c22 ?_)); (conv => whnf)
          exact ret_some (f := fun y => .one (.p (.v (.bool y)))) (g := fun y => []) h hQ
        · replace h := g
          clear g
          replace h := bnd_some h
          obtain ⟨y23, e24, h⟩ := h
          (repeat ((conv => whnf); first | refine ⟨by kernel_rfl, ?_⟩ | refine bcf c22 ?_)); (conv => whnf)
          refine ref06_Rises_c hX e24 ?_
          (repeat ((conv => whnf); first | refine ⟨by kernel_rfl, ?_⟩)); (conv => whnf)
          refine br_some h (fun c25 g => ?_) (fun c25 g => ?_)
          · replace h := g
            clear g
            replace h := bnd_some h
            obtain ⟨y26, e27, h⟩ := h
            (repeat ((conv => whnf); first | refine ⟨by kernel_rfl, ?_⟩ | refine bct c25 ?_)); (conv => whnf)
            refine ref06_Rises_c hX e27 ?_
            (repeat ((conv => whnf); first | refine ⟨by kernel_rfl, ?_⟩ | refine bct c25 ?_)); (conv => whnf)
            refine br_some h (fun c28 g => ?_) (fun c28 g => ?_)
            · replace h := g
              clear g
              (repeat ((conv => whnf); first | refine ⟨by kernel_rfl, ?_⟩ | refine bct c28 ?_)); (conv => whnf)
              exact ret_some (f := fun y => .one (.p (.v (.bool y)))) (g := fun y => []) h hQ
            · replace h := g
              clear g
              replace h := bnd_some h
              obtain ⟨y29, e30, h⟩ := h
              (repeat ((conv => whnf); first | refine ⟨by kernel_rfl, ?_⟩ | refine bcf c28 ?_)); (conv => whnf)
              refine list_Get_c hX e30 ?_
              replace h := bnd_some h
              obtain ⟨y31, e32, h⟩ := h
              (repeat ((conv => whnf); first | refine ⟨by kernel_rfl, ?_⟩)); (conv => whnf)
              refine ref06_Get_c hX e32 ?_
              (repeat ((conv => whnf); first | refine ⟨by kernel_rfl, ?_⟩)); (conv => whnf)
              refine br_some h (fun c33 g => ?_) (fun c33 g => ?_)
              · replace h := g
                clear g
                replace h := bnd_some h
                obtain ⟨y34, e35, h⟩ := h
                (repeat ((conv => whnf); first | refine ⟨by kernel_rfl, ?_⟩ | refine bct c33 ?_)); (conv => whnf)
                refine ref01_Same_c hX e35 ?_
                replace h := bnd_some h
                obtain ⟨y36, e37, h⟩ := h
                (repeat ((conv => whnf); first | refine ⟨by kernel_rfl, ?_⟩ | refine bct c33 ?_)); (conv => whnf)
                refine list_Put_c hX e37 ?_
                replace h := bnd_some h
                obtain ⟨y38, e39, h⟩ := h
                (repeat ((conv => whnf); first | refine ⟨by kernel_rfl, ?_⟩)); (conv => whnf)
                refine ref06_Put_c hX e39 ?_
                replace h := bnd_some h
                obtain ⟨y40, e41, h⟩ := h
                (repeat ((conv => whnf); first | refine ⟨by kernel_rfl, ?_⟩)); (conv => whnf)
                refine Or.inl ?_
                conv => whnf
                refine law00_Same_c hX e41 ?_
                replace h := bnd_some h
                obtain ⟨y42, e43, h⟩ := h
                (repeat ((conv => whnf); first | refine ⟨by kernel_rfl, ?_⟩)); (conv => whnf)
                refine list_Drop_c hX e43 ?_
                replace h := bnd_some h
                obtain ⟨y44, e45, h⟩ := h
                (repeat ((conv => whnf); first | refine ⟨by kernel_rfl, ?_⟩)); (conv => whnf)
                refine ref06_Drop_c hX e45 ?_
                replace h := bnd_some h
                obtain ⟨y46, e47, h⟩ := h
                (repeat ((conv => whnf); first | refine ⟨by kernel_rfl, ?_⟩)); (conv => whnf)
                refine Or.inl ?_
                conv => whnf
                refine law00_Same_c hX e47 ?_
                replace h := bnd_some h
                obtain ⟨y48, e49, h⟩ := h
                (repeat ((conv => whnf); first | refine ⟨by kernel_rfl, ?_⟩)); (conv => whnf)
                refine list_Both_c hX e49 ?_
                replace h := bnd_some h
                obtain ⟨y50, e51, h⟩ := h
                (repeat ((conv => whnf); first | refine ⟨by kernel_rfl, ?_⟩)); (conv => whnf)
                refine ref06_Both_c hX e51 ?_
                replace h := bnd_some h
                obtain ⟨y52, e53, h⟩ := h
                (repeat ((conv => whnf); first | refine ⟨by kernel_rfl, ?_⟩)); (conv => whnf)
                refine law00_Same_c hX e53 ?_
                (repeat ((conv => whnf); first | refine ⟨by kernel_rfl, ?_⟩)); (conv => whnf)
                refine br_some h (fun c54 g => ?_) (fun c54 g => ?_)
                · replace h := g
                  clear g
                  (repeat ((conv => whnf); first | refine ⟨by kernel_rfl, ?_⟩ | refine bct c54 ?_)); (conv => whnf)
                  refine br_some h (fun c55 g => ?_) (fun c55 g => ?_)
                  · replace h := g
                    clear g
                    (repeat ((conv => whnf); first | refine ⟨by kernel_rfl, ?_⟩ | refine bct c55 ?_)); (conv => whnf)
                    exact ret_some (f := fun y => .one (.p (.v (.bool y)))) (g := fun y => []) h hQ
                  · replace h := g
                    clear g
                    (repeat ((conv => whnf); first | refine ⟨by kernel_rfl, ?_⟩ | refine bcf c55 ?_)); (conv => whnf)
                    exact ret_some (f := fun y => .one (.p (.v (.bool y)))) (g := fun y => []) h hQ
                · replace h := g
                  clear g
                  (repeat ((conv => whnf); first | refine ⟨by kernel_rfl, ?_⟩ | refine bcf c54 ?_)); (conv => whnf)
                  exact ret_some (f := fun y => .one (.p (.v (.bool y)))) (g := fun y => []) h hQ
              · replace h := g
                clear g
                replace h := bnd_some h
                obtain ⟨y56, e57, h⟩ := h
                (repeat ((conv => whnf); first | refine ⟨by kernel_rfl, ?_⟩ | refine bcf c33 ?_)); (conv => whnf)
                refine list_Put_c hX e57 ?_
                replace h := bnd_some h
                obtain ⟨y58, e59, h⟩ := h
                (repeat ((conv => whnf); first | refine ⟨by kernel_rfl, ?_⟩)); (conv => whnf)
                refine ref06_Put_c hX e59 ?_
                replace h := bnd_some h
                obtain ⟨y60, e61, h⟩ := h
                (repeat ((conv => whnf); first | refine ⟨by kernel_rfl, ?_⟩)); (conv => whnf)
                refine Or.inl ?_
                conv => whnf
                refine law00_Same_c hX e61 ?_
                replace h := bnd_some h
                obtain ⟨y62, e63, h⟩ := h
                (repeat ((conv => whnf); first | refine ⟨by kernel_rfl, ?_⟩)); (conv => whnf)
                refine list_Drop_c hX e63 ?_
                replace h := bnd_some h
                obtain ⟨y64, e65, h⟩ := h
                (repeat ((conv => whnf); first | refine ⟨by kernel_rfl, ?_⟩)); (conv => whnf)
                refine ref06_Drop_c hX e65 ?_
                replace h := bnd_some h
                obtain ⟨y66, e67, h⟩ := h
                (repeat ((conv => whnf); first | refine ⟨by kernel_rfl, ?_⟩)); (conv => whnf)
                refine Or.inl ?_
                conv => whnf
                refine law00_Same_c hX e67 ?_
                replace h := bnd_some h
                obtain ⟨y68, e69, h⟩ := h
                (repeat ((conv => whnf); first | refine ⟨by kernel_rfl, ?_⟩)); (conv => whnf)
                refine list_Both_c hX e69 ?_
                replace h := bnd_some h
                obtain ⟨y70, e71, h⟩ := h
                (repeat ((conv => whnf); first | refine ⟨by kernel_rfl, ?_⟩)); (conv => whnf)
                refine ref06_Both_c hX e71 ?_
                replace h := bnd_some h
                obtain ⟨y72, e73, h⟩ := h
                (repeat ((conv => whnf); first | refine ⟨by kernel_rfl, ?_⟩)); (conv => whnf)
                refine law00_Same_c hX e73 ?_
                (repeat ((conv => whnf); first | refine ⟨by kernel_rfl, ?_⟩)); (conv => whnf)
                refine br_some h (fun c74 g => ?_) (fun c74 g => ?_)
                · replace h := g
                  clear g
                  (repeat ((conv => whnf); first | refine ⟨by kernel_rfl, ?_⟩ | refine bct c74 ?_)); (conv => whnf)
                  exact ret_some (f := fun y => .one (.p (.v (.bool y)))) (g := fun y => []) h hQ
                · replace h := g
                  clear g
                  (repeat ((conv => whnf); first | refine ⟨by kernel_rfl, ?_⟩ | refine bcf c74 ?_)); (conv => whnf)
                  exact ret_some (f := fun y => .one (.p (.v (.bool y)))) (g := fun y => []) h hQ
          · replace h := g
            clear g
            (repeat ((conv => whnf); first | refine ⟨by kernel_rfl, ?_⟩ | refine bcf c25 ?_)); (conv => whnf)
            exact ret_some (f := fun y => .one (.p (.v (.bool y)))) (g := fun y => []) h hQ
def law08_ListKeeps_j1 (p3 : ByteArray) (y1 : Bool) (y7 : (List Item)) (y24 : (List Item)) (y42 : Item × Bool) : Option (Bool) :=
  (bnd (list_Get_s y24 p3) fun y46 =>
    (bnd (list_Get_s y7 p3) fun y48 =>
      (br y42.2
        (br (@Bool.rec (fun _ => Bool) true (!true) y46.2)
          (some false)
          (bnd (ref01_Behind_s y42.1 y46.1) fun y52 =>
            (br y52
              (some false)
              (br y48.2
                (bnd (ref01_Behind_s y48.1 y46.1) fun y56 =>
                  (br y56
                    (some false)
                    (br y1
                      (br (!y46.2)
                        (some true)
                        (br (andB (eqS y46.1.id y42.1.id) (andB (eqI y46.1.vr y42.1.vr) (andB (eqI y46.1.vc y42.1.vc) (andB (eqI y46.1.stamp y42.1.stamp) (andB (eqS y46.1.kind y42.1.kind) (andB (eqI y46.1.num y42.1.num) (andB (eqFl .f64 y46.1.re y42.1.re && eqFl .f64 y46.1.im y42.1.im) (andB (@Bool.rec (fun _ => Bool) (!y42.1.dead) y42.1.dead y46.1.dead) true))))))))
                          (some true)
                          (some (andB (eqS y46.1.id y48.1.id) (andB (eqI y46.1.vr y48.1.vr) (andB (eqI y46.1.vc y48.1.vc) (andB (eqI y46.1.stamp y48.1.stamp) (andB (eqS y46.1.kind y48.1.kind) (andB (eqI y46.1.num y48.1.num) (andB (eqFl .f64 y46.1.re y48.1.re && eqFl .f64 y46.1.im y48.1.im) (andB (@Bool.rec (fun _ => Bool) (!y48.1.dead) y48.1.dead y46.1.dead) true)))))))))))
                      (some false))))
                (br y1
                  (br (!y46.2)
                    (some true)
                    (br (andB (eqS y46.1.id y42.1.id) (andB (eqI y46.1.vr y42.1.vr) (andB (eqI y46.1.vc y42.1.vc) (andB (eqI y46.1.stamp y42.1.stamp) (andB (eqS y46.1.kind y42.1.kind) (andB (eqI y46.1.num y42.1.num) (andB (eqFl .f64 y46.1.re y42.1.re && eqFl .f64 y46.1.im y42.1.im) (andB (@Bool.rec (fun _ => Bool) (!y42.1.dead) y42.1.dead y46.1.dead) true))))))))
                      (some true)
                      (some false)))
                  (some false))))))
        (br (@Bool.rec (fun _ => Bool) y48.2 (!y48.2) y46.2)
          (some false)
          (br y48.2
            (bnd (ref01_Behind_s y48.1 y46.1) fun y67 =>
              (br y67
                (some false)
                (br y1
                  (br (!y46.2)
                    (some true)
                    (some (andB (eqS y46.1.id y48.1.id) (andB (eqI y46.1.vr y48.1.vr) (andB (eqI y46.1.vc y48.1.vc) (andB (eqI y46.1.stamp y48.1.stamp) (andB (eqS y46.1.kind y48.1.kind) (andB (eqI y46.1.num y48.1.num) (andB (eqFl .f64 y46.1.re y48.1.re && eqFl .f64 y46.1.im y48.1.im) (andB (@Bool.rec (fun _ => Bool) (!y48.1.dead) y48.1.dead y46.1.dead) true))))))))))
                  (some false))))
            (br y1
              (br (!y46.2)
                (some true)
                (some false))
              (some false)))))))
def law08_ListKeeps_s (p0 : List Item) (p1 : List Item) (p2 : Item) (p3 : ByteArray) : Option (Bool) :=
  (bnd (law08_up_s ) fun y1 =>
    (chk (leI 0 0 && (leI 0 (minI (p0.length : Int) 60) && leI (minI (p0.length : Int) 60) (p0.length : Int)))
      (bnd (law00_Items_s (subL p0 0 (minI (p0.length : Int) 60))) fun y4 =>
        (chk (leI 0 0 && (leI 0 (minI (p1.length : Int) 60) && leI (minI (p1.length : Int) 60) (p1.length : Int)))
          (bnd (law00_Items_s (subL p1 0 (minI (p1.length : Int) 60))) fun y7 =>
            (bnd (law00_Item_s p2) fun y9 =>
              (bnd (list_May_s y4) fun y11 =>
                (br (!y11)
                  (some y1)
                  (bnd (list_May_s y7) fun y14 =>
                    (br (!y14)
                      (some y1)
                      (bnd (ref01_May_s y9) fun y17 =>
                        (br (!y17)
                          (some y1)
                          (bnd (list_Put_s y4 y9) fun y20 =>
                            (bnd (list_Drop_s y20 y9.id) fun y22 =>
                              (bnd (list_Both_s y4 y7) fun y24 =>
                                (bnd (list_May_s y20) fun y26 =>
                                  (br (!y26)
                                    (some false)
                                    (bnd (list_May_s y22) fun y29 =>
                                      (br (!y29)
                                        (some false)
                                        (bnd (list_May_s y24) fun y32 =>
                                          (br (!y32)
                                            (some false)
                                            (bnd (list_Get_s y20 y9.id) fun y35 =>
                                              (bnd (list_Get_s y22 y9.id) fun y37 =>
                                                (br (!y35.2)
                                                  (some false)
                                                  (br (!(andB (eqS y35.1.id y9.id) (andB (eqI y35.1.vr y9.vr) (andB (eqI y35.1.vc y9.vc) (andB (eqI y35.1.stamp y9.stamp) (andB (eqS y35.1.kind y9.kind) (andB (eqI y35.1.num y9.num) (andB (eqFl .f64 y35.1.re y9.re && eqFl .f64 y35.1.im y9.im) (andB (@Bool.rec (fun _ => Bool) (!y9.dead) y9.dead y35.1.dead) true)))))))))
                                                    (some false)
                                                    (br y37.2
                                                      (some false)
                                                      (bnd (list_Get_s y4 p3) fun y42 =>
                                                        (bnd (list_Get_s y22 p3) fun y44 =>
                                                          (br (!eqS p3 y9.id)
                                                            (br (@Bool.rec (fun _ => Bool) y44.2 (!y44.2) y42.2)
                                                              (some false)
                                                              (br y42.2
                                                                (br (!(andB (eqS y44.1.id y42.1.id) (andB (eqI y44.1.vr y42.1.vr) (andB (eqI y44.1.vc y42.1.vc) (andB (eqI y44.1.stamp y42.1.stamp) (andB (eqS y44.1.kind y42.1.kind) (andB (eqI y44.1.num y42.1.num) (andB (eqFl .f64 y44.1.re y42.1.re && eqFl .f64 y44.1.im y42.1.im) (andB (@Bool.rec (fun _ => Bool) (!y42.1.dead) y42.1.dead y44.1.dead) true)))))))))
                                                                  (some false)
                                                                  (law08_ListKeeps_j1 p3 y1 y7 y24 y42 ))
                                                                (law08_ListKeeps_j1 p3 y1 y7 y24 y42 )))
                                                            (law08_ListKeeps_j1 p3 y1 y7 y24 y42 ))))))))))))))))))))))))))))))
theorem law08_ListKeeps_c {X : Task → Prop} (hX : Closed X) {p0 : List Item} {p1 : List Item} {p2 : Item} {p3 : ByteArray} {r : Bool} {Q : A → List Blk → Prop} (h : law08_ListKeeps_s p0 p1 p2 p3 = some r) (hQ : Q (.one (.p (.v (.bool r)))) []) : X (.call 9 [.one (.p (.sl (p0.map Item.lrow))), .one (.p (.sl (p1.map Item.lrow))), .agg [.p (.v (.string p2.id)), ic p2.vr, ic p2.vc, ic p2.stamp, .p (.v (.string p2.kind)), ic p2.num, .p (.v (.float .f64 p2.re)), .p (.v (.float .f64 p2.im)), .p (.v (.bool p2.dead))], .one (.p (.v (.string p3)))] [] Q) := by
  unfold law08_ListKeeps_s at h
  refine call_intro hX Try.func9 rfl rfl ?_
  replace h := bnd_some h
  obtain ⟨y1, e2, h⟩ := h
  (repeat ((conv => whnf); first | refine ⟨by kernel_rfl, ?_⟩)); (conv => whnf)
  refine law08_up_c hX e2 ?_
  replace h := chk_some h
  obtain ⟨c3, h⟩ := h
  replace h := bnd_some h
  obtain ⟨y4, e5, h⟩ := h
  (repeat ((conv => whnf); first | refine ⟨by kernel_rfl, ?_⟩ | refine eqv_to (map_len _) ?_ | refine bct (slice_ok (f := Item.lrow) (a := 0) (sz := 9) c3 (fun _ => rfl)) ?_ | refine eqv_to (in_map (f := Item.lrow) p0 0 (minI (p0.length : Int) 60)) ?_)); (conv => whnf)
  refine law00_Items_c hX e5 ?_
  replace h := chk_some h
  obtain ⟨c6, h⟩ := h
  replace h := bnd_some h
  obtain ⟨y7, e8, h⟩ := h
  (repeat ((conv => whnf); first | refine ⟨by kernel_rfl, ?_⟩ | refine eqv_to (map_len _) ?_ | refine bct (slice_ok (f := Item.lrow) (a := 0) (sz := 9) c6 (fun _ => rfl)) ?_ | refine eqv_to (in_map (f := Item.lrow) p1 0 (minI (p1.length : Int) 60)) ?_)); (conv => whnf)
  refine law00_Items_c hX e8 ?_
  replace h := bnd_some h
  obtain ⟨y9, e10, h⟩ := h
  (repeat ((conv => whnf); first | refine ⟨by kernel_rfl, ?_⟩)); (conv => whnf)
  refine law00_Item_c hX e10 ?_
  replace h := bnd_some h
  obtain ⟨y11, e12, h⟩ := h
  (repeat ((conv => whnf); first | refine ⟨by kernel_rfl, ?_⟩)); (conv => whnf)
  refine list_May_c hX e12 ?_
  (repeat ((conv => whnf); first | refine ⟨by kernel_rfl, ?_⟩)); (conv => whnf)
  refine br_some h (fun c13 g => ?_) (fun c13 g => ?_)
  · replace h := g
    clear g
    (repeat ((conv => whnf); first | refine ⟨by kernel_rfl, ?_⟩ | refine bct c13 ?_)); (conv => whnf)
    exact ret_some (f := fun y => .one (.p (.v (.bool y)))) (g := fun y => []) h hQ
  · replace h := g
    clear g
    replace h := bnd_some h
    obtain ⟨y14, e15, h⟩ := h
    (repeat ((conv => whnf); first | refine ⟨by kernel_rfl, ?_⟩ | refine bcf c13 ?_)); (conv => whnf)
    refine list_May_c hX e15 ?_
    (repeat ((conv => whnf); first | refine ⟨by kernel_rfl, ?_⟩ | refine bcf c13 ?_)); (conv => whnf)
    refine br_some h (fun c16 g => ?_) (fun c16 g => ?_)
    · replace h := g
      clear g
      (repeat ((conv => whnf); first | refine ⟨by kernel_rfl, ?_⟩ | refine bct c16 ?_)); (conv => whnf)
      exact ret_some (f := fun y => .one (.p (.v (.bool y)))) (g := fun y => []) h hQ
    · replace h := g
      clear g
      replace h := bnd_some h
      obtain ⟨y17, e18, h⟩ := h
      (repeat ((conv => whnf); first | refine ⟨by kernel_rfl, ?_⟩ | refine bcf c16 ?_)); (conv => whnf)
      refine ref01_May_c hX e18 ?_
      (repeat ((conv => whnf); first | refine ⟨by kernel_rfl, ?_⟩ | refine bcf c16 ?_)); (conv => whnf)
      refine br_some h (fun c19 g => ?_) (fun c19 g => ?_)
      · replace h := g
        clear g
        (repeat ((conv => whnf); first | refine ⟨by kernel_rfl, ?_⟩ | refine bct c19 ?_)); (conv => whnf)
        exact ret_some (f := fun y => .one (.p (.v (.bool y)))) (g := fun y => []) h hQ
      · replace h := g
        clear g
        replace h := bnd_some h
        obtain ⟨y20, e21, h⟩ := h
        (repeat ((conv => whnf); first | refine ⟨by kernel_rfl, ?_⟩ | refine bcf c19 ?_)); (conv => whnf)
        refine list_Put_c hX e21 ?_
        replace h := bnd_some h
        obtain ⟨y22, e23, h⟩ := h
        (repeat ((conv => whnf); first | refine ⟨by kernel_rfl, ?_⟩)); (conv => whnf)
        refine list_Drop_c hX e23 ?_
        replace h := bnd_some h
        obtain ⟨y24, e25, h⟩ := h
        (repeat ((conv => whnf); first | refine ⟨by kernel_rfl, ?_⟩)); (conv => whnf)
        refine list_Both_c hX e25 ?_
        replace h := bnd_some h
        obtain ⟨y26, e27, h⟩ := h
        (repeat ((conv => whnf); first | refine ⟨by kernel_rfl, ?_⟩)); (conv => whnf)
        refine list_May_c hX e27 ?_
        (repeat ((conv => whnf); first | refine ⟨by kernel_rfl, ?_⟩)); (conv => whnf)
        refine br_some h (fun c28 g => ?_) (fun c28 g => ?_)
        · replace h := g
          clear g
          (repeat ((conv => whnf); first | refine ⟨by kernel_rfl, ?_⟩ | refine bct c28 ?_)); (conv => whnf)
          exact ret_some (f := fun y => .one (.p (.v (.bool y)))) (g := fun y => []) h hQ
        · replace h := g
          clear g
          replace h := bnd_some h
          obtain ⟨y29, e30, h⟩ := h
          (repeat ((conv => whnf); first | refine ⟨by kernel_rfl, ?_⟩ | refine bcf c28 ?_)); (conv => whnf)
          refine list_May_c hX e30 ?_
          (repeat ((conv => whnf); first | refine ⟨by kernel_rfl, ?_⟩ | refine bcf c28 ?_)); (conv => whnf)
          refine br_some h (fun c31 g => ?_) (fun c31 g => ?_)
          · replace h := g
            clear g
            (repeat ((conv => whnf); first | refine ⟨by kernel_rfl, ?_⟩ | refine bct c31 ?_)); (conv => whnf)
            exact ret_some (f := fun y => .one (.p (.v (.bool y)))) (g := fun y => []) h hQ
          · replace h := g
            clear g
            replace h := bnd_some h
            obtain ⟨y32, e33, h⟩ := h
            (repeat ((conv => whnf); first | refine ⟨by kernel_rfl, ?_⟩ | refine bcf c31 ?_)); (conv => whnf)
            refine list_May_c hX e33 ?_
            (repeat ((conv => whnf); first | refine ⟨by kernel_rfl, ?_⟩ | refine bcf c31 ?_)); (conv => whnf)
            refine br_some h (fun c34 g => ?_) (fun c34 g => ?_)
            · replace h := g
              clear g
              (repeat ((conv => whnf); first | refine ⟨by kernel_rfl, ?_⟩ | refine bct c34 ?_)); (conv => whnf)
              exact ret_some (f := fun y => .one (.p (.v (.bool y)))) (g := fun y => []) h hQ
            · replace h := g
              clear g
              replace h := bnd_some h
              obtain ⟨y35, e36, h⟩ := h
              (repeat ((conv => whnf); first | refine ⟨by kernel_rfl, ?_⟩ | refine bcf c34 ?_)); (conv => whnf)
              refine list_Get_c hX e36 ?_
              replace h := bnd_some h
              obtain ⟨y37, e38, h⟩ := h
              (repeat ((conv => whnf); first | refine ⟨by kernel_rfl, ?_⟩)); (conv => whnf)
              refine list_Get_c hX e38 ?_
              (repeat ((conv => whnf); first | refine ⟨by kernel_rfl, ?_⟩)); (conv => whnf)
              refine br_some h (fun c39 g => ?_) (fun c39 g => ?_)
              · replace h := g
                clear g
                (repeat ((conv => whnf); first | refine ⟨by kernel_rfl, ?_⟩ | refine bct c39 ?_)); (conv => whnf)
                exact ret_some (f := fun y => .one (.p (.v (.bool y)))) (g := fun y => []) h hQ
              · replace h := g
                clear g
                (repeat ((conv => whnf); first | refine ⟨by kernel_rfl, ?_⟩ | refine bcf c39 ?_)); (conv => whnf)
                refine br_some h (fun c40 g => ?_) (fun c40 g => ?_)
                · replace h := g
                  clear g
                  (repeat ((conv => whnf); first | refine ⟨by kernel_rfl, ?_⟩ | refine bct c40 ?_)); (conv => whnf)
                  exact ret_some (f := fun y => .one (.p (.v (.bool y)))) (g := fun y => []) h hQ
                · replace h := g
                  clear g
                  (repeat ((conv => whnf); first | refine ⟨by kernel_rfl, ?_⟩ | refine bcf c40 ?_)); (conv => whnf)
                  refine br_some h (fun c41 g => ?_) (fun c41 g => ?_)
                  · replace h := g
                    clear g
                    (repeat ((conv => whnf); first | refine ⟨by kernel_rfl, ?_⟩ | refine bct c41 ?_)); (conv => whnf)
                    exact ret_some (f := fun y => .one (.p (.v (.bool y)))) (g := fun y => []) h hQ
                  · replace h := g
                    clear g
                    replace h := bnd_some h
                    obtain ⟨y42, e43, h⟩ := h
                    (repeat ((conv => whnf); first | refine ⟨by kernel_rfl, ?_⟩ | refine bcf c41 ?_)); (conv => whnf)
                    refine list_Get_c hX e43 ?_
                    replace h := bnd_some h
                    obtain ⟨y44, e45, h⟩ := h
                    (repeat ((conv => whnf); first | refine ⟨by kernel_rfl, ?_⟩)); (conv => whnf)
                    refine list_Get_c hX e45 ?_
                    apply join0 (X := X) (r := r) (pad [(3, .one (.p (.v (.string p3)))), (5, .one (.p (.v (.bool y1)))), (1, .one (.p (.sl (y7.map Item.row)))), (3, .one (.p (.sl (y24.map Item.row)))), (4, .one (.ptr 0 0)), (0, .one (.p (.v (.bool y42.2))))] 166) ([.box [.p (.v (.string y42.1.id)), ic y42.1.vr, ic y42.1.vc, ic y42.1.stamp, .p (.v (.string y42.1.kind)), ic y42.1.num, .p (.v (.complex .f64 y42.1.re y42.1.im)), .p (.v (.bool y42.1.dead))]])
                    · intro tl1
                      (repeat ((conv => whnf); first | refine ⟨by kernel_rfl, ?_⟩)); (conv => whnf)
                      refine br_some h (fun c74 g => ?_) (fun c74 g => ?_)
                      · replace h := g
                        clear g
                        (repeat ((conv => whnf); first | refine ⟨by kernel_rfl, ?_⟩ | refine bct c74 ?_)); (conv => whnf)
                        refine br_some h (fun c75 g => ?_) (fun c75 g => ?_)
                        · replace h := g
                          clear g
                          (repeat ((conv => whnf); first | refine ⟨by kernel_rfl, ?_⟩ | refine bct c75 ?_ | refine bct c74 ?_)); (conv => whnf)
                          exact ret_some (f := fun y => .one (.p (.v (.bool y)))) (g := fun y => []) h hQ
                        · replace h := g
                          clear g
                          (repeat ((conv => whnf); first | refine ⟨by kernel_rfl, ?_⟩ | refine bcf c75 ?_)); (conv => whnf)
                          refine br_some h (fun c76 g => ?_) (fun c76 g => ?_)
                          · replace h := g
                            clear g
                            (repeat ((conv => whnf); first | refine ⟨by kernel_rfl, ?_⟩ | refine bct c76 ?_ | refine bcf c75 ?_ | refine bct c74 ?_)); (conv => whnf)
                            refine br_some h (fun c77 g => ?_) (fun c77 g => ?_)
                            · replace h := g
                              clear g
                              (repeat ((conv => whnf); first | refine ⟨by kernel_rfl, ?_⟩ | refine bct c77 ?_)); (conv => whnf)
                              exact ret_some (f := fun y => .one (.p (.v (.bool y)))) (g := fun y => []) h hQ
                            · replace h := g
                              clear g
                              (repeat ((conv => whnf); first | refine ⟨by kernel_rfl, ?_⟩ | refine bcf c77 ?_)); (conv => whnf)
                              exact tl1.h  h
                          · replace h := g
                            clear g
                            (repeat ((conv => whnf); first | refine ⟨by kernel_rfl, ?_⟩ | refine bcf c76 ?_ | refine bcf c75 ?_ | refine bct c74 ?_)); (conv => whnf)
                            exact tl1.h  h
                      · replace h := g
                        clear g
                        (repeat ((conv => whnf); first | refine ⟨by kernel_rfl, ?_⟩ | refine bcf c74 ?_)); (conv => whnf)
                        exact tl1.h  h
                    · intro h
                      unfold law08_ListKeeps_j1 at h
                      refine rest_intro hX ?_
                      replace h := bnd_some h
                      obtain ⟨y46, e47, h⟩ := h
                      (repeat ((conv => whnf); first | refine ⟨by kernel_rfl, ?_⟩)); (conv => whnf)
                      refine list_Get_c hX e47 ?_
                      replace h := bnd_some h
                      obtain ⟨y48, e49, h⟩ := h
                      (repeat ((conv => whnf); first | refine ⟨by kernel_rfl, ?_⟩)); (conv => whnf)
                      refine list_Get_c hX e49 ?_
                      (repeat ((conv => whnf); first | refine ⟨by kernel_rfl, ?_⟩)); (conv => whnf)
                      refine br_some h (fun c50 g => ?_) (fun c50 g => ?_)
                      · replace h := g
                        clear g
                        (repeat ((conv => whnf); first | refine ⟨by kernel_rfl, ?_⟩ | refine bct c50 ?_)); (conv => whnf)
                        refine br_some h (fun c51 g => ?_) (fun c51 g => ?_)
                        · replace h := g
                          clear g
                          (repeat ((conv => whnf); first | refine ⟨by kernel_rfl, ?_⟩ | refine bct c51 ?_)); (conv => whnf)
                          exact ret_some (f := fun y => .one (.p (.v (.bool y)))) (g := fun y => []) h hQ
                        · replace h := g
                          clear g
                          replace h := bnd_some h
                          obtain ⟨y52, e53, h⟩ := h
                          (repeat ((conv => whnf); first | refine ⟨by kernel_rfl, ?_⟩ | refine bcf c51 ?_ | refine bct c50 ?_)); (conv => whnf)
                          refine ref01_Behind_c hX e53 ?_
                          (repeat ((conv => whnf); first | refine ⟨by kernel_rfl, ?_⟩ | refine bcf c51 ?_ | refine bct c50 ?_)); (conv => whnf)
                          refine br_some h (fun c54 g => ?_) (fun c54 g => ?_)
                          · replace h := g
                            clear g
                            (repeat ((conv => whnf); first | refine ⟨by kernel_rfl, ?_⟩ | refine bct c54 ?_)); (conv => whnf)
                            exact ret_some (f := fun y => .one (.p (.v (.bool y)))) (g := fun y => []) h hQ
                          · replace h := g
                            clear g
                            (repeat ((conv => whnf); first | refine ⟨by kernel_rfl, ?_⟩ | refine bcf c54 ?_)); (conv => whnf)
                            refine br_some h (fun c55 g => ?_) (fun c55 g => ?_)
                            · replace h := g
                              clear g
                              replace h := bnd_some h
                              obtain ⟨y56, e57, h⟩ := h
                              (repeat ((conv => whnf); first | refine ⟨by kernel_rfl, ?_⟩ | refine bct c55 ?_)); (conv => whnf)
                              refine ref01_Behind_c hX e57 ?_
                              (repeat ((conv => whnf); first | refine ⟨by kernel_rfl, ?_⟩ | refine bcf c54 ?_ | refine bct c55 ?_)); (conv => whnf)
                              refine br_some h (fun c58 g => ?_) (fun c58 g => ?_)
                              · replace h := g
                                clear g
                                (repeat ((conv => whnf); first | refine ⟨by kernel_rfl, ?_⟩ | refine bct c58 ?_)); (conv => whnf)
                                exact ret_some (f := fun y => .one (.p (.v (.bool y)))) (g := fun y => []) h hQ
                              · replace h := g
                                clear g
                                (repeat ((conv => whnf); first | refine ⟨by kernel_rfl, ?_⟩ | refine bcf c58 ?_)); (conv => whnf)
                                refine br_some h (fun c59 g => ?_) (fun c59 g => ?_)
                                · replace h := g
                                  clear g
                                  (repeat ((conv => whnf); first | refine ⟨by kernel_rfl, ?_⟩ | refine bct c59 ?_)); (conv => whnf)
                                  refine br_some h (fun c60 g => ?_) (fun c60 g => ?_)
                                  · replace h := g
                                    clear g
                                    (repeat ((conv => whnf); first | refine ⟨by kernel_rfl, ?_⟩ | refine bct c60 ?_ | refine bct c59 ?_)); (conv => whnf)
                                    exact ret_some (f := fun y => .one (.p (.v (.bool y)))) (g := fun y => []) h hQ
                                  · replace h := g
                                    clear g
                                    (repeat ((conv => whnf); first | refine ⟨by kernel_rfl, ?_⟩ | refine bcf c60 ?_ | refine bct c50 ?_ | refine bct c59 ?_)); (conv => whnf)
                                    refine br_some h (fun c61 g => ?_) (fun c61 g => ?_)
                                    · replace h := g
                                      clear g
                                      (repeat ((conv => whnf); first | refine ⟨by kernel_rfl, ?_⟩ | refine bct c61 ?_ | refine bct c59 ?_)); (conv => whnf)
                                      exact ret_some (f := fun y => .one (.p (.v (.bool y)))) (g := fun y => []) h hQ
                                    · replace h := g
                                      clear g
                                      (repeat ((conv => whnf); first | refine ⟨by kernel_rfl, ?_⟩ | refine bcf c61 ?_ | refine bct c55 ?_ | refine bct c59 ?_)); (conv => whnf)
                                      exact ret_some (f := fun y => .one (.p (.v (.bool y)))) (g := fun y => []) h hQ
                                · replace h := g
                                  clear g
                                  (repeat ((conv => whnf); first | refine ⟨by kernel_rfl, ?_⟩ | refine bcf c59 ?_)); (conv => whnf)
                                  exact ret_some (f := fun y => .one (.p (.v (.bool y)))) (g := fun y => []) h hQ
                            · replace h := g
                              clear g
                              (repeat ((conv => whnf); first | refine ⟨by kernel_rfl, ?_⟩ | refine bcf c55 ?_ | refine bcf c54 ?_)); (conv => whnf)
                              refine br_some h (fun c62 g => ?_) (fun c62 g => ?_)
                              · replace h := g
                                clear g
                                (repeat ((conv => whnf); first | refine ⟨by kernel_rfl, ?_⟩ | refine bct c62 ?_)); (conv => whnf)
                                refine br_some h (fun c63 g => ?_) (fun c63 g => ?_)
                                · replace h := g
                                  clear g
                                  (repeat ((conv => whnf); first | refine ⟨by kernel_rfl, ?_⟩ | refine bct c63 ?_ | refine bct c62 ?_)); (conv => whnf)
                                  exact ret_some (f := fun y => .one (.p (.v (.bool y)))) (g := fun y => []) h hQ
                                · replace h := g
                                  clear g
                                  (repeat ((conv => whnf); first | refine ⟨by kernel_rfl, ?_⟩ | refine bcf c63 ?_ | refine bct c50 ?_ | refine bct c62 ?_)); (conv => whnf)
                                  refine br_some h (fun c64 g => ?_) (fun c64 g => ?_)
                                  · replace h := g
                                    clear g
                                    (repeat ((conv => whnf); first | refine ⟨by kernel_rfl, ?_⟩ | refine bct c64 ?_ | refine bct c62 ?_)); (conv => whnf)
                                    exact ret_some (f := fun y => .one (.p (.v (.bool y)))) (g := fun y => []) h hQ
                                  · replace h := g
                                    clear g
                                    (repeat ((conv => whnf); first | refine ⟨by kernel_rfl, ?_⟩ | refine bcf c64 ?_ | refine bcf c55 ?_ | refine bct c62 ?_)); (conv => whnf)
                                    exact ret_some (f := fun y => .one (.p (.v (.bool y)))) (g := fun y => []) h hQ
                              · replace h := g
                                clear g
                                (repeat ((conv => whnf); first | refine ⟨by kernel_rfl, ?_⟩ | refine bcf c62 ?_)); (conv => whnf)
                                exact ret_some (f := fun y => .one (.p (.v (.bool y)))) (g := fun y => []) h hQ
                      · replace h := g
                        clear g
                        (repeat ((conv => whnf); first | refine ⟨by kernel_rfl, ?_⟩ | refine bcf c50 ?_)); (conv => whnf)
                        refine br_some h (fun c65 g => ?_) (fun c65 g => ?_)
                        · replace h := g
                          clear g
                          (repeat ((conv => whnf); first | refine ⟨by kernel_rfl, ?_⟩ | refine bct c65 ?_)); (conv => whnf)
                          exact ret_some (f := fun y => .one (.p (.v (.bool y)))) (g := fun y => []) h hQ
                        · replace h := g
                          clear g
                          (repeat ((conv => whnf); first | refine ⟨by kernel_rfl, ?_⟩ | refine bcf c65 ?_ | refine bcf c50 ?_)); (conv => whnf)
                          refine br_some h (fun c66 g => ?_) (fun c66 g => ?_)
                          · replace h := g
                            clear g
                            replace h := bnd_some h
                            obtain ⟨y67, e68, h⟩ := h
                            (repeat ((conv => whnf); first | refine ⟨by kernel_rfl, ?_⟩ | refine bct c66 ?_)); (conv => whnf)
                            refine ref01_Behind_c hX e68 ?_
                            (repeat ((conv => whnf); first | refine ⟨by kernel_rfl, ?_⟩ | refine bct c66 ?_)); (conv => whnf)
                            refine br_some h (fun c69 g => ?_) (fun c69 g => ?_)
                            · replace h := g
                              clear g
                              (repeat ((conv => whnf); first | refine ⟨by kernel_rfl, ?_⟩ | refine bct c69 ?_)); (conv => whnf)
                              exact ret_some (f := fun y => .one (.p (.v (.bool y)))) (g := fun y => []) h hQ
                            · replace h := g
                              clear g
                              (repeat ((conv => whnf); first | refine ⟨by kernel_rfl, ?_⟩ | refine bcf c69 ?_)); (conv => whnf)
                              refine br_some h (fun c70 g => ?_) (fun c70 g => ?_)
                              · replace h := g
                                clear g
                                (repeat ((conv => whnf); first | refine ⟨by kernel_rfl, ?_⟩ | refine bct c70 ?_)); (conv => whnf)
                                refine br_some h (fun c71 g => ?_) (fun c71 g => ?_)
                                · replace h := g
                                  clear g
                                  (repeat ((conv => whnf); first | refine ⟨by kernel_rfl, ?_⟩ | refine bct c71 ?_ | refine bct c70 ?_)); (conv => whnf)
                                  exact ret_some (f := fun y => .one (.p (.v (.bool y)))) (g := fun y => []) h hQ
                                · replace h := g
                                  clear g
                                  (repeat ((conv => whnf); first | refine ⟨by kernel_rfl, ?_⟩ | refine bcf c71 ?_ | refine bcf c50 ?_ | refine bct c70 ?_ | refine bct c66 ?_)); (conv => whnf)
                                  exact ret_some (f := fun y => .one (.p (.v (.bool y)))) (g := fun y => []) h hQ
                              · replace h := g
                                clear g
                                (repeat ((conv => whnf); first | refine ⟨by kernel_rfl, ?_⟩ | refine bcf c70 ?_)); (conv => whnf)
                                exact ret_some (f := fun y => .one (.p (.v (.bool y)))) (g := fun y => []) h hQ
                          · replace h := g
                            clear g
                            (repeat ((conv => whnf); first | refine ⟨by kernel_rfl, ?_⟩ | refine bcf c66 ?_)); (conv => whnf)
                            refine br_some h (fun c72 g => ?_) (fun c72 g => ?_)
                            · replace h := g
                              clear g
                              (repeat ((conv => whnf); first | refine ⟨by kernel_rfl, ?_⟩ | refine bct c72 ?_)); (conv => whnf)
                              refine br_some h (fun c73 g => ?_) (fun c73 g => ?_)
                              · replace h := g
                                clear g
                                (repeat ((conv => whnf); first | refine ⟨by kernel_rfl, ?_⟩ | refine bct c73 ?_ | refine bct c72 ?_)); (conv => whnf)
                                exact ret_some (f := fun y => .one (.p (.v (.bool y)))) (g := fun y => []) h hQ
                              · replace h := g
                                clear g
                                (repeat ((conv => whnf); first | refine ⟨by kernel_rfl, ?_⟩ | refine bcf c73 ?_ | refine bcf c50 ?_ | refine bct c72 ?_ | refine bcf c66 ?_)); (conv => whnf)
                                exact ret_some (f := fun y => .one (.p (.v (.bool y)))) (g := fun y => []) h hQ
                            · replace h := g
                              clear g
                              (repeat ((conv => whnf); first | refine ⟨by kernel_rfl, ?_⟩ | refine bcf c72 ?_)); (conv => whnf)
                              exact ret_some (f := fun y => .one (.p (.v (.bool y)))) (g := fun y => []) h hQ
end
end Go.Proofs.Ytijkfjahgijphaa
