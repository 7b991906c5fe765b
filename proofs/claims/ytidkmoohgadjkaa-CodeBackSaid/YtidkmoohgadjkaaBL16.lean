/- The law CodeBack. Written by decomp.py. -/
import Derived.Test.YtidkmoohgadjkaaBCodeCon
import Derived.Test.YtidkmoohgadjkaaBLoops
set_option linter.unusedVariables false
set_option linter.unusedSimpArgs false
set_option maxRecDepth 100000
set_option maxHeartbeats 0
namespace Go.Proofs.Ytidkmoohgadjkaa
open Go E
noncomputable section
def law16_CodeBack_j3 (p2 : List Nat) (y1 : Bool) : Option (Bool) :=
  (bnd (code_Seal_s p2) fun y25 =>
    (bndE (code_Open_s y25) (fun y27 n29 =>
      (br y1
        (some false)
        (some false)))
      (fun y27 =>
      (br y1
        (some (eqS (strOf (y27.map brw)) (strOf (p2.map brw))))
        (some false)))))
def law16_CodeBack_j2 (p2 : List Nat) (y1 : Bool) : Option (Bool) :=
  (bnd (code_GetNum_s p2) fun y17 =>
    (bnd (code_GetText_s p2) fun y19 =>
      (br (ltI y17.2 0)
        (some false)
        (br (ltI (p2.length : Int) y17.2)
          (some false)
          (br (ltI y19.2 0)
            (some false)
            (br (ltI (p2.length : Int) y19.2)
              (some false)
              (br (ltI 0 y17.2)
                (bnd (code_Num_s y17.1) fun y33 =>
                  (chk (leI 0 0 && (leI 0 y17.2 && leI y17.2 (p2.length : Int)))
                    (br (!eqS (strOf (y33.map brw)) (strOf ((subL p2 0 y17.2).map brw)))
                      (some false)
                      (br (ltI 0 y19.2)
                        (bnd (code_Text_s y19.1) fun y38 =>
                          (chk (leI 0 0 && (leI 0 y19.2 && leI y19.2 (p2.length : Int)))
                            (br (!eqS (strOf (y38.map brw)) (strOf ((subL p2 0 y19.2).map brw)))
                              (some false)
                              (law16_CodeBack_j3 p2 y1 ))))
                        (law16_CodeBack_j3 p2 y1 )))))
                (br (ltI 0 y19.2)
                  (bnd (code_Text_s y19.1) fun y43 =>
                    (chk (leI 0 0 && (leI 0 y19.2 && leI y19.2 (p2.length : Int)))
                      (br (!eqS (strOf (y43.map brw)) (strOf ((subL p2 0 y19.2).map brw)))
                        (some false)
                        (law16_CodeBack_j3 p2 y1 ))))
                  (law16_CodeBack_j3 p2 y1 )))))))))
def law16_CodeBack_j5 (p2 : List Nat) (y1 : Bool) : Option (Bool) :=
  (bnd (code_Seal_s p2) fun y66 =>
    (bndE (code_Open_s y66) (fun y68 n70 =>
      (br y1
        (some false)
        (some false)))
      (fun y68 =>
      (br y1
        (some (eqS (strOf (y68.map brw)) (strOf (p2.map brw))))
        (some false)))))
def law16_CodeBack_j4 (p2 : List Nat) (y1 : Bool) : Option (Bool) :=
  (bnd (code_GetNum_s p2) fun y58 =>
    (bnd (code_GetText_s p2) fun y60 =>
      (br (ltI y58.2 0)
        (some false)
        (br (ltI (p2.length : Int) y58.2)
          (some false)
          (br (ltI y60.2 0)
            (some false)
            (br (ltI (p2.length : Int) y60.2)
              (some false)
              (br (ltI 0 y58.2)
                (bnd (code_Num_s y58.1) fun y74 =>
                  (chk (leI 0 0 && (leI 0 y58.2 && leI y58.2 (p2.length : Int)))
                    (br (!eqS (strOf (y74.map brw)) (strOf ((subL p2 0 y58.2).map brw)))
                      (some false)
                      (br (ltI 0 y60.2)
                        (bnd (code_Text_s y60.1) fun y79 =>
                          (chk (leI 0 0 && (leI 0 y60.2 && leI y60.2 (p2.length : Int)))
                            (br (!eqS (strOf (y79.map brw)) (strOf ((subL p2 0 y60.2).map brw)))
                              (some false)
                              (law16_CodeBack_j5 p2 y1 ))))
                        (law16_CodeBack_j5 p2 y1 )))))
                (br (ltI 0 y60.2)
                  (bnd (code_Text_s y60.1) fun y84 =>
                    (chk (leI 0 0 && (leI 0 y60.2 && leI y60.2 (p2.length : Int)))
                      (br (!eqS (strOf (y84.map brw)) (strOf ((subL p2 0 y60.2).map brw)))
                        (some false)
                        (law16_CodeBack_j5 p2 y1 ))))
                  (law16_CodeBack_j5 p2 y1 )))))))))
def law16_CodeBack_j1 (p1 : ByteArray) (p2 : List Nat) (y1 : Bool) : Option (Bool) :=
  (bnd (code_Text_s p1) fun y11 =>
    (chk (leI 0 0 && (leI 0 (y11.length : Int) && leI (y11.length : Int) (y11.length : Int)))
      (br (eqI 0 (y11.length : Int))
        (bnd (code_GetText_s p2) fun y15 =>
          (br (leI (lenS p1) 8)
            (br (!eqS y15.1 p1)
              (some false)
              (br (!eqI y15.2 (y11.length : Int))
                (some false)
                (br (!eqI y15.2 (wr .i64 ((lenS p1) + 1)))
                  (some false)
                  (br (ltI 8 (lenS p1))
                    (br (ltI 0 (y11.length : Int))
                      (some false)
                      (law16_CodeBack_j2 p2 y1 ))
                    (law16_CodeBack_j2 p2 y1 )))))
            (br (ltI 8 (lenS p1))
              (br (ltI 0 (y11.length : Int))
                (some false)
                (law16_CodeBack_j2 p2 y1 ))
              (law16_CodeBack_j2 p2 y1 ))))
        (chk (roomL (subL y11 0 (y11.length : Int)).length p2.length)
          (bnd (code_GetText_s ((subL y11 0 (y11.length : Int)) ++ p2)) fun y56 =>
            (br (leI (lenS p1) 8)
              (br (!eqS y56.1 p1)
                (some false)
                (br (!eqI y56.2 (y11.length : Int))
                  (some false)
                  (br (!eqI y56.2 (wr .i64 ((lenS p1) + 1)))
                    (some false)
                    (br (ltI 8 (lenS p1))
                      (br (ltI 0 (y11.length : Int))
                        (some false)
                        (law16_CodeBack_j4 p2 y1 ))
                      (law16_CodeBack_j4 p2 y1 )))))
              (br (ltI 8 (lenS p1))
                (br (ltI 0 (y11.length : Int))
                  (some false)
                  (law16_CodeBack_j4 p2 y1 ))
                (law16_CodeBack_j4 p2 y1 ))))))))
def law16_CodeBack_j8 (p2 : List Nat) (y1 : Bool) : Option (Bool) :=
  (bnd (code_Seal_s p2) fun y132 =>
    (bndE (code_Open_s y132) (fun y134 n136 =>
      (br y1
        (some false)
        (some false)))
      (fun y134 =>
      (br y1
        (some (eqS (strOf (y134.map brw)) (strOf (p2.map brw))))
        (some false)))))
def law16_CodeBack_j7 (p2 : List Nat) (y1 : Bool) : Option (Bool) :=
  (bnd (code_GetNum_s p2) fun y124 =>
    (bnd (code_GetText_s p2) fun y126 =>
      (br (ltI y124.2 0)
        (some false)
        (br (ltI (p2.length : Int) y124.2)
          (some false)
          (br (ltI y126.2 0)
            (some false)
            (br (ltI (p2.length : Int) y126.2)
              (some false)
              (br (ltI 0 y124.2)
                (bnd (code_Num_s y124.1) fun y140 =>
                  (chk (leI 0 0 && (leI 0 y124.2 && leI y124.2 (p2.length : Int)))
                    (br (!eqS (strOf (y140.map brw)) (strOf ((subL p2 0 y124.2).map brw)))
                      (some false)
                      (br (ltI 0 y126.2)
                        (bnd (code_Text_s y126.1) fun y145 =>
                          (chk (leI 0 0 && (leI 0 y126.2 && leI y126.2 (p2.length : Int)))
                            (br (!eqS (strOf (y145.map brw)) (strOf ((subL p2 0 y126.2).map brw)))
                              (some false)
                              (law16_CodeBack_j8 p2 y1 ))))
                        (law16_CodeBack_j8 p2 y1 )))))
                (br (ltI 0 y126.2)
                  (bnd (code_Text_s y126.1) fun y150 =>
                    (chk (leI 0 0 && (leI 0 y126.2 && leI y126.2 (p2.length : Int)))
                      (br (!eqS (strOf (y150.map brw)) (strOf ((subL p2 0 y126.2).map brw)))
                        (some false)
                        (law16_CodeBack_j8 p2 y1 ))))
                  (law16_CodeBack_j8 p2 y1 )))))))))
def law16_CodeBack_j10 (p2 : List Nat) (y1 : Bool) : Option (Bool) :=
  (bnd (code_Seal_s p2) fun y173 =>
    (bndE (code_Open_s y173) (fun y175 n177 =>
      (br y1
        (some false)
        (some false)))
      (fun y175 =>
      (br y1
        (some (eqS (strOf (y175.map brw)) (strOf (p2.map brw))))
        (some false)))))
def law16_CodeBack_j9 (p2 : List Nat) (y1 : Bool) : Option (Bool) :=
  (bnd (code_GetNum_s p2) fun y165 =>
    (bnd (code_GetText_s p2) fun y167 =>
      (br (ltI y165.2 0)
        (some false)
        (br (ltI (p2.length : Int) y165.2)
          (some false)
          (br (ltI y167.2 0)
            (some false)
            (br (ltI (p2.length : Int) y167.2)
              (some false)
              (br (ltI 0 y165.2)
                (bnd (code_Num_s y165.1) fun y181 =>
                  (chk (leI 0 0 && (leI 0 y165.2 && leI y165.2 (p2.length : Int)))
                    (br (!eqS (strOf (y181.map brw)) (strOf ((subL p2 0 y165.2).map brw)))
                      (some false)
                      (br (ltI 0 y167.2)
                        (bnd (code_Text_s y167.1) fun y186 =>
                          (chk (leI 0 0 && (leI 0 y167.2 && leI y167.2 (p2.length : Int)))
                            (br (!eqS (strOf (y186.map brw)) (strOf ((subL p2 0 y167.2).map brw)))
                              (some false)
                              (law16_CodeBack_j10 p2 y1 ))))
                        (law16_CodeBack_j10 p2 y1 )))))
                (br (ltI 0 y167.2)
                  (bnd (code_Text_s y167.1) fun y191 =>
                    (chk (leI 0 0 && (leI 0 y167.2 && leI y167.2 (p2.length : Int)))
                      (br (!eqS (strOf (y191.map brw)) (strOf ((subL p2 0 y167.2).map brw)))
                        (some false)
                        (law16_CodeBack_j10 p2 y1 ))))
                  (law16_CodeBack_j10 p2 y1 )))))))))
def law16_CodeBack_j6 (p1 : ByteArray) (p2 : List Nat) (y1 : Bool) : Option (Bool) :=
  (bnd (code_Text_s p1) fun y117 =>
    (chk (leI 0 0 && (leI 0 (y117.length : Int) && leI (y117.length : Int) (y117.length : Int)))
      (br (eqI 0 (y117.length : Int))
        (chk (roomL 0 p2.length)
          (bnd (code_GetText_s p2) fun y122 =>
            (br (leI (lenS p1) 8)
              (br (!eqS y122.1 p1)
                (some false)
                (br (!eqI y122.2 (y117.length : Int))
                  (some false)
                  (br (!eqI y122.2 (wr .i64 ((lenS p1) + 1)))
                    (some false)
                    (br (ltI 8 (lenS p1))
                      (br (ltI 0 (y117.length : Int))
                        (some false)
                        (law16_CodeBack_j7 p2 y1 ))
                      (law16_CodeBack_j7 p2 y1 )))))
              (br (ltI 8 (lenS p1))
                (br (ltI 0 (y117.length : Int))
                  (some false)
                  (law16_CodeBack_j7 p2 y1 ))
                (law16_CodeBack_j7 p2 y1 )))))
        (chk (roomL (subL y117 0 (y117.length : Int)).length p2.length)
          (bnd (code_GetText_s ((subL y117 0 (y117.length : Int)) ++ p2)) fun y163 =>
            (br (leI (lenS p1) 8)
              (br (!eqS y163.1 p1)
                (some false)
                (br (!eqI y163.2 (y117.length : Int))
                  (some false)
                  (br (!eqI y163.2 (wr .i64 ((lenS p1) + 1)))
                    (some false)
                    (br (ltI 8 (lenS p1))
                      (br (ltI 0 (y117.length : Int))
                        (some false)
                        (law16_CodeBack_j9 p2 y1 ))
                      (law16_CodeBack_j9 p2 y1 )))))
              (br (ltI 8 (lenS p1))
                (br (ltI 0 (y117.length : Int))
                  (some false)
                  (law16_CodeBack_j9 p2 y1 ))
                (law16_CodeBack_j9 p2 y1 ))))))))
def law16_CodeBack_s (p0 : Int) (p1 : ByteArray) (p2 : List Nat) : Option (Bool) :=
  (bnd (law16_up_s ) fun y1 =>
    (br (ltI 10000 (p2.length : Int))
      (some y1)
      (bnd (code_Num_s p0) fun y4 =>
        (chk (leI 0 0 && (leI 0 (y4.length : Int) && leI (y4.length : Int) (y4.length : Int)))
          (br (eqI 0 (y4.length : Int))
            (chk (roomL 0 p2.length)
              (bnd (code_GetNum_s p2) fun y9 =>
                (br (leI (-2147483648) p0)
                  (br (ltI p0 2147483648)
                    (br (!eqI y9.1 p0)
                      (some false)
                      (br (!eqI y9.2 (y4.length : Int))
                        (some false)
                        (br (ltI y9.2 1)
                          (some false)
                          (br (ltI 5 y9.2)
                            (some false)
                            (br (ltI p0 (-2147483648))
                              (br (ltI 0 (y4.length : Int))
                                (some false)
                                (law16_CodeBack_j1 p1 p2 y1 ))
                              (br (leI 2147483648 p0)
                                (br (ltI 0 (y4.length : Int))
                                  (some false)
                                  (law16_CodeBack_j1 p1 p2 y1 ))
                                (law16_CodeBack_j1 p1 p2 y1 )))))))
                    (br (ltI p0 (-2147483648))
                      (br (ltI 0 (y4.length : Int))
                        (some false)
                        (law16_CodeBack_j1 p1 p2 y1 ))
                      (br (leI 2147483648 p0)
                        (br (ltI 0 (y4.length : Int))
                          (some false)
                          (law16_CodeBack_j1 p1 p2 y1 ))
                        (law16_CodeBack_j1 p1 p2 y1 ))))
                  (br (ltI p0 (-2147483648))
                    (br (ltI 0 (y4.length : Int))
                      (some false)
                      (law16_CodeBack_j1 p1 p2 y1 ))
                    (br (leI 2147483648 p0)
                      (br (ltI 0 (y4.length : Int))
                        (some false)
                        (law16_CodeBack_j1 p1 p2 y1 ))
                      (law16_CodeBack_j1 p1 p2 y1 ))))))
            (chk (roomL (subL y4 0 (y4.length : Int)).length p2.length)
              (bnd (code_GetNum_s ((subL y4 0 (y4.length : Int)) ++ p2)) fun y115 =>
                (br (leI (-2147483648) p0)
                  (br (ltI p0 2147483648)
                    (br (!eqI y115.1 p0)
                      (some false)
                      (br (!eqI y115.2 (y4.length : Int))
                        (some false)
                        (br (ltI y115.2 1)
                          (some false)
                          (br (ltI 5 y115.2)
                            (some false)
                            (br (ltI p0 (-2147483648))
                              (br (ltI 0 (y4.length : Int))
                                (some false)
                                (law16_CodeBack_j6 p1 p2 y1 ))
                              (br (leI 2147483648 p0)
                                (br (ltI 0 (y4.length : Int))
                                  (some false)
                                  (law16_CodeBack_j6 p1 p2 y1 ))
                                (law16_CodeBack_j6 p1 p2 y1 )))))))
                    (br (ltI p0 (-2147483648))
                      (br (ltI 0 (y4.length : Int))
                        (some false)
                        (law16_CodeBack_j6 p1 p2 y1 ))
                      (br (leI 2147483648 p0)
                        (br (ltI 0 (y4.length : Int))
                          (some false)
                          (law16_CodeBack_j6 p1 p2 y1 ))
                        (law16_CodeBack_j6 p1 p2 y1 ))))
                  (br (ltI p0 (-2147483648))
                    (br (ltI 0 (y4.length : Int))
                      (some false)
                      (law16_CodeBack_j6 p1 p2 y1 ))
                    (br (leI 2147483648 p0)
                      (br (ltI 0 (y4.length : Int))
                        (some false)
                        (law16_CodeBack_j6 p1 p2 y1 ))
                      (law16_CodeBack_j6 p1 p2 y1 )))))))))))
theorem law16_CodeBack_c {X : Task → Prop} (hX : Closed X) {p0 : Int} {p1 : ByteArray} {p2 : List Nat} {r : Bool} {Q : A → List Blk → Prop} (h : law16_CodeBack_s p0 p1 p2 = some r) (hQ : Q (.one (.p (.v (.bool r)))) []) : X (.call 3 [iv p0, .one (.p (.v (.string p1))), .one (.p (.sl (p2.map brw)))] [] Q) := by
  unfold law16_CodeBack_s at h
  refine call_intro hX Try.func3 rfl rfl ?_
  replace h := bnd_some h
  obtain ⟨y1, e2, h⟩ := h
  (repeat ((conv => whnf); first | refine ⟨by kernel_rfl, ?_⟩)); (conv => whnf)
  refine law16_up_c hX e2 ?_
  (repeat ((conv => whnf); first | refine ⟨by kernel_rfl, ?_⟩ | refine eqv_to (map_len _) ?_)); (conv => whnf)
  refine br_some h (fun c3 g => ?_) (fun c3 g => ?_)
  · replace h := g
    clear g
    (repeat ((conv => whnf); first | refine ⟨by kernel_rfl, ?_⟩ | refine bct c3 ?_)); (conv => whnf)
    exact ret_some (f := fun y => .one (.p (.v (.bool y)))) (g := fun y => []) h hQ
  · replace h := g
    clear g
    replace h := bnd_some h
    obtain ⟨y4, e5, h⟩ := h
    (repeat ((conv => whnf); first | refine ⟨by kernel_rfl, ?_⟩ | refine bcf c3 ?_)); (conv => whnf)
    refine code_Num_c hX e5 ?_
    replace h := chk_some h
    obtain ⟨c6, h⟩ := h
    (repeat ((conv => whnf); first | refine ⟨by kernel_rfl, ?_⟩ | refine eqv_to (map_len _) ?_ | refine bct c6 ?_ | refine bct (slice_ok (f := brw) (a := 0) (sz := 1) c6 (fun _ => rfl)) ?_ | refine bct (andt (eqI_t.2 rfl) rfl) ?_)); (conv => whnf)
    refine br_some h (fun c7 g => ?_) (fun c7 g => ?_)
    · replace h := g
      clear g
      replace h := chk_some h
      obtain ⟨c8, h⟩ := h
      replace h := bnd_some h
      obtain ⟨y9, e10, h⟩ := h
      (repeat ((conv => whnf); first | refine ⟨by kernel_rfl, ?_⟩ | refine bct c7 ?_ | refine bct (room_zero c8 (List.length_map ..) rfl (rowsOk_map (f := brw) (sz := 1) (fun _ => rfl) _) rfl) ?_ | refine eqv_to (nil_map (f := brw) _) ?_)); (conv => whnf)
      refine Or.inl ?_
      conv => whnf
      refine code_GetNum_c hX e10 ?_
      apply join0 (X := X) (r := r) (pad [(1, .one (.p (.v (.string p1)))), (0, .one (.p (.sl (p2.map brw)))), (4, .one (.p (.v (.bool y1))))] 186) ([])
      · intro tl1
        (repeat ((conv => whnf); first | refine ⟨by kernel_rfl, ?_⟩)); (conv => whnf)
        refine br_some h (fun c96 g => ?_) (fun c96 g => ?_)
        · replace h := g
          clear g
          (repeat ((conv => whnf); first | refine ⟨by kernel_rfl, ?_⟩ | refine bct c96 ?_)); (conv => whnf)
          refine br_some h (fun c97 g => ?_) (fun c97 g => ?_)
          · replace h := g
            clear g
            (repeat ((conv => whnf); first | refine ⟨by kernel_rfl, ?_⟩ | refine bct c97 ?_)); (conv => whnf)
            refine br_some h (fun c98 g => ?_) (fun c98 g => ?_)
            · replace h := g
              clear g
              (repeat ((conv => whnf); first | refine ⟨by kernel_rfl, ?_⟩ | refine bct c98 ?_ | refine bct c97 ?_)); (conv => whnf)
              exact ret_some (f := fun y => .one (.p (.v (.bool y)))) (g := fun y => []) h hQ
            · replace h := g
              clear g
              (repeat ((conv => whnf); first | refine ⟨by kernel_rfl, ?_⟩ | refine bcf c98 ?_ | refine eqv_to (map_len _) ?_ | refine bct c97 ?_)); (conv => whnf)
              refine br_some h (fun c99 g => ?_) (fun c99 g => ?_)
              · replace h := g
                clear g
                (repeat ((conv => whnf); first | refine ⟨by kernel_rfl, ?_⟩ | refine bct c99 ?_ | refine bct c97 ?_)); (conv => whnf)
                exact ret_some (f := fun y => .one (.p (.v (.bool y)))) (g := fun y => []) h hQ
              · replace h := g
                clear g
                (repeat ((conv => whnf); first | refine ⟨by kernel_rfl, ?_⟩ | refine bcf c99 ?_ | refine bct c97 ?_)); (conv => whnf)
                refine br_some h (fun c100 g => ?_) (fun c100 g => ?_)
                · replace h := g
                  clear g
                  (repeat ((conv => whnf); first | refine ⟨by kernel_rfl, ?_⟩ | refine bct c100 ?_ | refine bct c97 ?_)); (conv => whnf)
                  exact ret_some (f := fun y => .one (.p (.v (.bool y)))) (g := fun y => []) h hQ
                · replace h := g
                  clear g
                  (repeat ((conv => whnf); first | refine ⟨by kernel_rfl, ?_⟩ | refine bcf c100 ?_ | refine bct c97 ?_)); (conv => whnf)
                  refine br_some h (fun c101 g => ?_) (fun c101 g => ?_)
                  · replace h := g
                    clear g
                    (repeat ((conv => whnf); first | refine ⟨by kernel_rfl, ?_⟩ | refine bct c101 ?_)); (conv => whnf)
                    exact ret_some (f := fun y => .one (.p (.v (.bool y)))) (g := fun y => []) h hQ
                  · replace h := g
                    clear g
                    (repeat ((conv => whnf); first | refine ⟨by kernel_rfl, ?_⟩ | refine bcf c101 ?_)); (conv => whnf)
                    refine br_some h (fun c102 g => ?_) (fun c102 g => ?_)
                    · replace h := g
                      clear g
                      (repeat ((conv => whnf); first | refine ⟨by kernel_rfl, ?_⟩ | refine bct c102 ?_ | refine bcf c101 ?_ | refine eqv_to (map_len _) ?_)); (conv => whnf)
                      refine br_some h (fun c103 g => ?_) (fun c103 g => ?_)
                      · replace h := g
                        clear g
                        (repeat ((conv => whnf); first | refine ⟨by kernel_rfl, ?_⟩ | refine bct c103 ?_)); (conv => whnf)
                        exact ret_some (f := fun y => .one (.p (.v (.bool y)))) (g := fun y => []) h hQ
                      · replace h := g
                        clear g
                        (repeat ((conv => whnf); first | refine ⟨by kernel_rfl, ?_⟩ | refine bcf c103 ?_)); (conv => whnf)
                        exact tl1.h  h
                    · replace h := g
                      clear g
                      (repeat ((conv => whnf); first | refine ⟨by kernel_rfl, ?_⟩ | refine bcf c102 ?_ | refine bcf c101 ?_)); (conv => whnf)
                      refine br_some h (fun c104 g => ?_) (fun c104 g => ?_)
                      · replace h := g
                        clear g
                        (repeat ((conv => whnf); first | refine ⟨by kernel_rfl, ?_⟩ | refine bct c104 ?_ | refine eqv_to (map_len _) ?_ | refine bcf c101 ?_)); (conv => whnf)
                        refine br_some h (fun c105 g => ?_) (fun c105 g => ?_)
                        · replace h := g
                          clear g
                          (repeat ((conv => whnf); first | refine ⟨by kernel_rfl, ?_⟩ | refine bct c105 ?_)); (conv => whnf)
                          exact ret_some (f := fun y => .one (.p (.v (.bool y)))) (g := fun y => []) h hQ
                        · replace h := g
                          clear g
                          (repeat ((conv => whnf); first | refine ⟨by kernel_rfl, ?_⟩ | refine bcf c105 ?_)); (conv => whnf)
                          exact tl1.h  h
                      · replace h := g
                        clear g
                        (repeat ((conv => whnf); first | refine ⟨by kernel_rfl, ?_⟩ | refine bcf c104 ?_ | refine bcf c101 ?_)); (conv => whnf)
                        exact tl1.h  h
          · replace h := g
            clear g
            (repeat ((conv => whnf); first | refine ⟨by kernel_rfl, ?_⟩ | refine bcf c97 ?_)); (conv => whnf)
            refine br_some h (fun c106 g => ?_) (fun c106 g => ?_)
            · replace h := g
              clear g
              (repeat ((conv => whnf); first | refine ⟨by kernel_rfl, ?_⟩ | refine bct c106 ?_ | refine eqv_to (map_len _) ?_)); (conv => whnf)
              refine br_some h (fun c107 g => ?_) (fun c107 g => ?_)
              · replace h := g
                clear g
                (repeat ((conv => whnf); first | refine ⟨by kernel_rfl, ?_⟩ | refine bct c107 ?_)); (conv => whnf)
                exact ret_some (f := fun y => .one (.p (.v (.bool y)))) (g := fun y => []) h hQ
              · replace h := g
                clear g
                (repeat ((conv => whnf); first | refine ⟨by kernel_rfl, ?_⟩ | refine bcf c107 ?_)); (conv => whnf)
                exact tl1.h  h
            · replace h := g
              clear g
              (repeat ((conv => whnf); first | refine ⟨by kernel_rfl, ?_⟩ | refine bcf c106 ?_)); (conv => whnf)
              refine br_some h (fun c108 g => ?_) (fun c108 g => ?_)
              · replace h := g
                clear g
                (repeat ((conv => whnf); first | refine ⟨by kernel_rfl, ?_⟩ | refine bct c108 ?_ | refine eqv_to (map_len _) ?_)); (conv => whnf)
                refine br_some h (fun c109 g => ?_) (fun c109 g => ?_)
                · replace h := g
                  clear g
                  (repeat ((conv => whnf); first | refine ⟨by kernel_rfl, ?_⟩ | refine bct c109 ?_)); (conv => whnf)
                  exact ret_some (f := fun y => .one (.p (.v (.bool y)))) (g := fun y => []) h hQ
                · replace h := g
                  clear g
                  (repeat ((conv => whnf); first | refine ⟨by kernel_rfl, ?_⟩ | refine bcf c109 ?_)); (conv => whnf)
                  exact tl1.h  h
              · replace h := g
                clear g
                (repeat ((conv => whnf); first | refine ⟨by kernel_rfl, ?_⟩ | refine bcf c108 ?_)); (conv => whnf)
                exact tl1.h  h
        · replace h := g
          clear g
          (repeat ((conv => whnf); first | refine ⟨by kernel_rfl, ?_⟩ | refine bcf c96 ?_)); (conv => whnf)
          refine br_some h (fun c110 g => ?_) (fun c110 g => ?_)
          · replace h := g
            clear g
            (repeat ((conv => whnf); first | refine ⟨by kernel_rfl, ?_⟩ | refine bct c110 ?_ | refine eqv_to (map_len _) ?_)); (conv => whnf)
            refine br_some h (fun c111 g => ?_) (fun c111 g => ?_)
            · replace h := g
              clear g
              (repeat ((conv => whnf); first | refine ⟨by kernel_rfl, ?_⟩ | refine bct c111 ?_)); (conv => whnf)
              exact ret_some (f := fun y => .one (.p (.v (.bool y)))) (g := fun y => []) h hQ
            · replace h := g
              clear g
              (repeat ((conv => whnf); first | refine ⟨by kernel_rfl, ?_⟩ | refine bcf c111 ?_)); (conv => whnf)
              exact tl1.h  h
          · replace h := g
            clear g
            (repeat ((conv => whnf); first | refine ⟨by kernel_rfl, ?_⟩ | refine bcf c110 ?_)); (conv => whnf)
            refine br_some h (fun c112 g => ?_) (fun c112 g => ?_)
            · replace h := g
              clear g
              (repeat ((conv => whnf); first | refine ⟨by kernel_rfl, ?_⟩ | refine bct c112 ?_ | refine eqv_to (map_len _) ?_)); (conv => whnf)
              refine br_some h (fun c113 g => ?_) (fun c113 g => ?_)
              · replace h := g
                clear g
                (repeat ((conv => whnf); first | refine ⟨by kernel_rfl, ?_⟩ | refine bct c113 ?_)); (conv => whnf)
                exact ret_some (f := fun y => .one (.p (.v (.bool y)))) (g := fun y => []) h hQ
              · replace h := g
                clear g
                (repeat ((conv => whnf); first | refine ⟨by kernel_rfl, ?_⟩ | refine bcf c113 ?_)); (conv => whnf)
                exact tl1.h  h
            · replace h := g
              clear g
              (repeat ((conv => whnf); first | refine ⟨by kernel_rfl, ?_⟩ | refine bcf c112 ?_)); (conv => whnf)
              exact tl1.h  h
      · intro h
        unfold law16_CodeBack_j1 at h
        refine rest_intro hX ?_
        replace h := bnd_some h
        obtain ⟨y11, e12, h⟩ := h
        (repeat ((conv => whnf); first | refine ⟨by kernel_rfl, ?_⟩)); (conv => whnf)
        refine code_Text_c hX e12 ?_
        replace h := chk_some h
        obtain ⟨c13, h⟩ := h
        (repeat ((conv => whnf); first | refine ⟨by kernel_rfl, ?_⟩ | refine eqv_to (map_len _) ?_ | refine bct c13 ?_ | refine bct (slice_ok (f := brw) (a := 0) (sz := 1) c13 (fun _ => rfl)) ?_ | refine bct (andt (eqI_t.2 rfl) rfl) ?_)); (conv => whnf)
        refine br_some h (fun c14 g => ?_) (fun c14 g => ?_)
        · replace h := g
          clear g
          replace h := bnd_some h
          obtain ⟨y15, e16, h⟩ := h
          (repeat ((conv => whnf); first | refine ⟨by kernel_rfl, ?_⟩ | refine bct c14 ?_ | refine bct (room_zero c8 (List.length_map ..) rfl (rowsOk_map (f := brw) (sz := 1) (fun _ => rfl) _) rfl) ?_ | refine eqv_to (nil_map (f := brw) _) ?_)); (conv => whnf)
          refine Or.inl ?_
          conv => whnf
          refine code_GetText_c hX e16 ?_
          apply join0 (X := X) (r := r) (pad [(2, .one (.p (.sl (p2.map brw)))), (4, .one (.p (.v (.bool y1))))] 186) ([])
          · intro tl2
            (repeat ((conv => whnf); first | refine ⟨by kernel_rfl, ?_⟩)); (conv => whnf)
            refine br_some h (fun c47 g => ?_) (fun c47 g => ?_)
            · replace h := g
              clear g
              (repeat ((conv => whnf); first | refine ⟨by kernel_rfl, ?_⟩ | refine bct c47 ?_)); (conv => whnf)
              refine br_some h (fun c48 g => ?_) (fun c48 g => ?_)
              · replace h := g
                clear g
                (repeat ((conv => whnf); first | refine ⟨by kernel_rfl, ?_⟩ | refine bct c48 ?_ | refine bct c47 ?_)); (conv => whnf)
                exact ret_some (f := fun y => .one (.p (.v (.bool y)))) (g := fun y => []) h hQ
              · replace h := g
                clear g
                (repeat ((conv => whnf); first | refine ⟨by kernel_rfl, ?_⟩ | refine bcf c48 ?_ | refine eqv_to (map_len _) ?_ | refine bct c47 ?_)); (conv => whnf)
                refine br_some h (fun c49 g => ?_) (fun c49 g => ?_)
                · replace h := g
                  clear g
                  (repeat ((conv => whnf); first | refine ⟨by kernel_rfl, ?_⟩ | refine bct c49 ?_ | refine bct c47 ?_)); (conv => whnf)
                  exact ret_some (f := fun y => .one (.p (.v (.bool y)))) (g := fun y => []) h hQ
                · replace h := g
                  clear g
                  (repeat ((conv => whnf); first | refine ⟨by kernel_rfl, ?_⟩ | refine bcf c49 ?_ | refine bct c47 ?_)); (conv => whnf)
                  refine br_some h (fun c50 g => ?_) (fun c50 g => ?_)
                  · replace h := g
                    clear g
                    (repeat ((conv => whnf); first | refine ⟨by kernel_rfl, ?_⟩ | refine bct c50 ?_)); (conv => whnf)
                    exact ret_some (f := fun y => .one (.p (.v (.bool y)))) (g := fun y => []) h hQ
                  · replace h := g
                    clear g
                    (repeat ((conv => whnf); first | refine ⟨by kernel_rfl, ?_⟩ | refine bcf c50 ?_)); (conv => whnf)
                    refine br_some h (fun c51 g => ?_) (fun c51 g => ?_)
                    · replace h := g
                      clear g
                      (repeat ((conv => whnf); first | refine ⟨by kernel_rfl, ?_⟩ | refine bct c51 ?_ | refine eqv_to (map_len _) ?_ | refine bcf c50 ?_)); (conv => whnf)
                      refine br_some h (fun c52 g => ?_) (fun c52 g => ?_)
                      · replace h := g
                        clear g
                        (repeat ((conv => whnf); first | refine ⟨by kernel_rfl, ?_⟩ | refine bct c52 ?_)); (conv => whnf)
                        exact ret_some (f := fun y => .one (.p (.v (.bool y)))) (g := fun y => []) h hQ
                      · replace h := g
                        clear g
                        (repeat ((conv => whnf); first | refine ⟨by kernel_rfl, ?_⟩ | refine bcf c52 ?_)); (conv => whnf)
                        exact tl2.h  h
                    · replace h := g
                      clear g
                      (repeat ((conv => whnf); first | refine ⟨by kernel_rfl, ?_⟩ | refine bcf c51 ?_ | refine bcf c50 ?_)); (conv => whnf)
                      exact tl2.h  h
            · replace h := g
              clear g
              (repeat ((conv => whnf); first | refine ⟨by kernel_rfl, ?_⟩ | refine bcf c47 ?_)); (conv => whnf)
              refine br_some h (fun c53 g => ?_) (fun c53 g => ?_)
              · replace h := g
                clear g
                (repeat ((conv => whnf); first | refine ⟨by kernel_rfl, ?_⟩ | refine bct c53 ?_ | refine eqv_to (map_len _) ?_)); (conv => whnf)
                refine br_some h (fun c54 g => ?_) (fun c54 g => ?_)
                · replace h := g
                  clear g
                  (repeat ((conv => whnf); first | refine ⟨by kernel_rfl, ?_⟩ | refine bct c54 ?_)); (conv => whnf)
                  exact ret_some (f := fun y => .one (.p (.v (.bool y)))) (g := fun y => []) h hQ
                · replace h := g
                  clear g
                  (repeat ((conv => whnf); first | refine ⟨by kernel_rfl, ?_⟩ | refine bcf c54 ?_)); (conv => whnf)
                  exact tl2.h  h
              · replace h := g
                clear g
                (repeat ((conv => whnf); first | refine ⟨by kernel_rfl, ?_⟩ | refine bcf c53 ?_)); (conv => whnf)
                exact tl2.h  h
          · intro h
            unfold law16_CodeBack_j2 at h
            refine rest_intro hX ?_
            replace h := bnd_some h
            obtain ⟨y17, e18, h⟩ := h
            (repeat ((conv => whnf); first | refine ⟨by kernel_rfl, ?_⟩)); (conv => whnf)
            refine code_GetNum_c hX e18 ?_
            replace h := bnd_some h
            obtain ⟨y19, e20, h⟩ := h
            (repeat ((conv => whnf); first | refine ⟨by kernel_rfl, ?_⟩)); (conv => whnf)
            refine code_GetText_c hX e20 ?_
            (repeat ((conv => whnf); first | refine ⟨by kernel_rfl, ?_⟩)); (conv => whnf)
            refine br_some h (fun c21 g => ?_) (fun c21 g => ?_)
            · replace h := g
              clear g
              (repeat ((conv => whnf); first | refine ⟨by kernel_rfl, ?_⟩ | refine bct c21 ?_)); (conv => whnf)
              exact ret_some (f := fun y => .one (.p (.v (.bool y)))) (g := fun y => []) h hQ
            · replace h := g
              clear g
              (repeat ((conv => whnf); first | refine ⟨by kernel_rfl, ?_⟩ | refine bcf c21 ?_ | refine eqv_to (map_len _) ?_)); (conv => whnf)
              refine br_some h (fun c22 g => ?_) (fun c22 g => ?_)
              · replace h := g
                clear g
                (repeat ((conv => whnf); first | refine ⟨by kernel_rfl, ?_⟩ | refine bct c22 ?_)); (conv => whnf)
                exact ret_some (f := fun y => .one (.p (.v (.bool y)))) (g := fun y => []) h hQ
              · replace h := g
                clear g
                (repeat ((conv => whnf); first | refine ⟨by kernel_rfl, ?_⟩ | refine bcf c22 ?_)); (conv => whnf)
                refine br_some h (fun c23 g => ?_) (fun c23 g => ?_)
                · replace h := g
                  clear g
                  (repeat ((conv => whnf); first | refine ⟨by kernel_rfl, ?_⟩ | refine bct c23 ?_)); (conv => whnf)
                  exact ret_some (f := fun y => .one (.p (.v (.bool y)))) (g := fun y => []) h hQ
                · replace h := g
                  clear g
                  (repeat ((conv => whnf); first | refine ⟨by kernel_rfl, ?_⟩ | refine bcf c23 ?_ | refine eqv_to (map_len _) ?_)); (conv => whnf)
                  refine br_some h (fun c24 g => ?_) (fun c24 g => ?_)
                  · replace h := g
                    clear g
                    (repeat ((conv => whnf); first | refine ⟨by kernel_rfl, ?_⟩ | refine bct c24 ?_)); (conv => whnf)
                    exact ret_some (f := fun y => .one (.p (.v (.bool y)))) (g := fun y => []) h hQ
                  · replace h := g
                    clear g
                    apply join0 (X := X) (r := r) (pad [(2, .one (.p (.sl (p2.map brw)))), (4, .one (.p (.v (.bool y1))))] 186) ([])
                    · intro tl3
                      (repeat ((conv => whnf); first | refine ⟨by kernel_rfl, ?_⟩ | refine bcf c24 ?_)); (conv => whnf)
                      refine br_some h (fun c32 g => ?_) (fun c32 g => ?_)
                      · replace h := g
                        clear g
                        replace h := bnd_some h
                        obtain ⟨y33, e34, h⟩ := h
                        (repeat ((conv => whnf); first | refine ⟨by kernel_rfl, ?_⟩ | refine bct c32 ?_)); (conv => whnf)
                        refine code_Num_c hX e34 ?_
                        replace h := chk_some h
                        obtain ⟨c35, h⟩ := h
                        (repeat ((conv => whnf); first | refine ⟨by kernel_rfl, ?_⟩ | refine bct c32 ?_ | refine bct (strOk_brw _) ?_ | refine bct (slice_ok (f := brw) (a := 0) (sz := 1) c35 (fun _ => rfl)) ?_ | refine eqv_to (in_map (f := brw) p2 0 y17.2) ?_)); (conv => whnf)
                        refine br_some h (fun c36 g => ?_) (fun c36 g => ?_)
                        · replace h := g
                          clear g
                          (repeat ((conv => whnf); first | refine ⟨by kernel_rfl, ?_⟩ | refine bct c36 ?_)); (conv => whnf)
                          exact ret_some (f := fun y => .one (.p (.v (.bool y)))) (g := fun y => []) h hQ
                        · replace h := g
                          clear g
                          (repeat ((conv => whnf); first | refine ⟨by kernel_rfl, ?_⟩ | refine bcf c36 ?_)); (conv => whnf)
                          refine br_some h (fun c37 g => ?_) (fun c37 g => ?_)
                          · replace h := g
                            clear g
                            replace h := bnd_some h
                            obtain ⟨y38, e39, h⟩ := h
                            (repeat ((conv => whnf); first | refine ⟨by kernel_rfl, ?_⟩ | refine bct c37 ?_)); (conv => whnf)
                            refine code_Text_c hX e39 ?_
                            replace h := chk_some h
                            obtain ⟨c40, h⟩ := h
                            (repeat ((conv => whnf); first | refine ⟨by kernel_rfl, ?_⟩ | refine bct c37 ?_ | refine bct (strOk_brw _) ?_ | refine bct (slice_ok (f := brw) (a := 0) (sz := 1) c40 (fun _ => rfl)) ?_ | refine eqv_to (in_map (f := brw) p2 0 y19.2) ?_ | refine bcf c36 ?_)); (conv => whnf)
                            refine br_some h (fun c41 g => ?_) (fun c41 g => ?_)
                            · replace h := g
                              clear g
                              (repeat ((conv => whnf); first | refine ⟨by kernel_rfl, ?_⟩ | refine bct c41 ?_)); (conv => whnf)
                              exact ret_some (f := fun y => .one (.p (.v (.bool y)))) (g := fun y => []) h hQ
                            · replace h := g
                              clear g
                              (repeat ((conv => whnf); first | refine ⟨by kernel_rfl, ?_⟩ | refine bcf c41 ?_)); (conv => whnf)
                              exact tl3.h  h
                          · replace h := g
                            clear g
                            (repeat ((conv => whnf); first | refine ⟨by kernel_rfl, ?_⟩ | refine bcf c37 ?_ | refine bcf c36 ?_)); (conv => whnf)
                            exact tl3.h  h
                      · replace h := g
                        clear g
                        (repeat ((conv => whnf); first | refine ⟨by kernel_rfl, ?_⟩ | refine bcf c32 ?_)); (conv => whnf)
                        refine br_some h (fun c42 g => ?_) (fun c42 g => ?_)
                        · replace h := g
                          clear g
                          replace h := bnd_some h
                          obtain ⟨y43, e44, h⟩ := h
                          (repeat ((conv => whnf); first | refine ⟨by kernel_rfl, ?_⟩ | refine bct c42 ?_)); (conv => whnf)
                          refine code_Text_c hX e44 ?_
                          replace h := chk_some h
                          obtain ⟨c45, h⟩ := h
                          (repeat ((conv => whnf); first | refine ⟨by kernel_rfl, ?_⟩ | refine bct c42 ?_ | refine bct (strOk_brw _) ?_ | refine bct (slice_ok (f := brw) (a := 0) (sz := 1) c45 (fun _ => rfl)) ?_ | refine eqv_to (in_map (f := brw) p2 0 y19.2) ?_)); (conv => whnf)
                          refine br_some h (fun c46 g => ?_) (fun c46 g => ?_)
                          · replace h := g
                            clear g
                            (repeat ((conv => whnf); first | refine ⟨by kernel_rfl, ?_⟩ | refine bct c46 ?_)); (conv => whnf)
                            exact ret_some (f := fun y => .one (.p (.v (.bool y)))) (g := fun y => []) h hQ
                          · replace h := g
                            clear g
                            (repeat ((conv => whnf); first | refine ⟨by kernel_rfl, ?_⟩ | refine bcf c46 ?_)); (conv => whnf)
                            exact tl3.h  h
                        · replace h := g
                          clear g
                          (repeat ((conv => whnf); first | refine ⟨by kernel_rfl, ?_⟩ | refine bcf c42 ?_)); (conv => whnf)
                          exact tl3.h  h
                    · intro h
                      unfold law16_CodeBack_j3 at h
                      refine rest_intro hX ?_
                      replace h := bnd_some h
                      obtain ⟨y25, e26, h⟩ := h
                      (repeat ((conv => whnf); first | refine ⟨by kernel_rfl, ?_⟩)); (conv => whnf)
                      refine code_Seal_c hX e26 ?_
                      refine bndE_some h (fun y27 n29 e28 g => ?_) (fun y27 e28 g => ?_)
                      · replace h := g
                        clear g
                        (repeat ((conv => whnf); first | refine ⟨by kernel_rfl, ?_⟩)); (conv => whnf)
                        refine code_Open_c hX e28 ?_
                        (repeat ((conv => whnf); first | refine ⟨by kernel_rfl, ?_⟩)); (conv => whnf)
                        refine br_some h (fun c30 g => ?_) (fun c30 g => ?_)
                        · replace h := g
                          clear g
                          (repeat ((conv => whnf); first | refine ⟨by kernel_rfl, ?_⟩ | refine bct c30 ?_)); (conv => whnf)
                          exact ret_some (f := fun y => .one (.p (.v (.bool y)))) (g := fun y => []) h hQ
                        · replace h := g
                          clear g
                          (repeat ((conv => whnf); first | refine ⟨by kernel_rfl, ?_⟩ | refine bcf c30 ?_)); (conv => whnf)
                          exact ret_some (f := fun y => .one (.p (.v (.bool y)))) (g := fun y => []) h hQ
                      · replace h := g
                        clear g
                        (repeat ((conv => whnf); first | refine ⟨by kernel_rfl, ?_⟩)); (conv => whnf)
                        refine code_Open_c hX e28 ?_
                        (repeat ((conv => whnf); first | refine ⟨by kernel_rfl, ?_⟩)); (conv => whnf)
                        refine br_some h (fun c31 g => ?_) (fun c31 g => ?_)
                        · replace h := g
                          clear g
                          (repeat ((conv => whnf); first | refine ⟨by kernel_rfl, ?_⟩ | refine bct c31 ?_ | refine bct (strOk_brw _) ?_)); (conv => whnf)
                          exact ret_some (f := fun y => .one (.p (.v (.bool y)))) (g := fun y => []) h hQ
                        · replace h := g
                          clear g
                          (repeat ((conv => whnf); first | refine ⟨by kernel_rfl, ?_⟩ | refine bcf c31 ?_)); (conv => whnf)
                          exact ret_some (f := fun y => .one (.p (.v (.bool y)))) (g := fun y => []) h hQ
        · replace h := g
          clear g
          replace h := chk_some h
          obtain ⟨c55, h⟩ := h
          replace h := bnd_some h
          obtain ⟨y56, e57, h⟩ := h
          (repeat ((conv => whnf); first | refine ⟨by kernel_rfl, ?_⟩ | refine bcf c14 ?_ | refine eqv_to (in_map (f := brw) y11 0 (y11.length : Int)) ?_ | refine Two.r ?_ | refine bct (room_cp c55 (List.length_map ..) rfl (rowsOk_map (f := brw) (sz := 1) (fun _ => rfl) _) (rowsOk_map (f := brw) (sz := 1) (fun _ => rfl) _)) ?_ | refine eqv_to (cat_map (f := brw) (subL y11 0 (y11.length : Int)) _) ?_)); (conv => whnf)
          refine code_GetText_c hX e57 ?_
          apply join0 (X := X) (r := r) (pad [(2, .one (.p (.sl (p2.map brw)))), (4, .one (.p (.v (.bool y1))))] 186) ([])
          · intro tl4
            (repeat ((conv => whnf); first | refine ⟨by kernel_rfl, ?_⟩)); (conv => whnf)
            refine br_some h (fun c88 g => ?_) (fun c88 g => ?_)
            · replace h := g
              clear g
              (repeat ((conv => whnf); first | refine ⟨by kernel_rfl, ?_⟩ | refine bct c88 ?_)); (conv => whnf)
              refine br_some h (fun c89 g => ?_) (fun c89 g => ?_)
              · replace h := g
                clear g
                (repeat ((conv => whnf); first | refine ⟨by kernel_rfl, ?_⟩ | refine bct c89 ?_ | refine bct c88 ?_)); (conv => whnf)
                exact ret_some (f := fun y => .one (.p (.v (.bool y)))) (g := fun y => []) h hQ
              · replace h := g
                clear g
                (repeat ((conv => whnf); first | refine ⟨by kernel_rfl, ?_⟩ | refine bcf c89 ?_ | refine eqv_to (map_len _) ?_ | refine bct c88 ?_)); (conv => whnf)
                refine br_some h (fun c90 g => ?_) (fun c90 g => ?_)
                · replace h := g
                  clear g
                  (repeat ((conv => whnf); first | refine ⟨by kernel_rfl, ?_⟩ | refine bct c90 ?_ | refine bct c88 ?_)); (conv => whnf)
                  exact ret_some (f := fun y => .one (.p (.v (.bool y)))) (g := fun y => []) h hQ
                · replace h := g
                  clear g
                  (repeat ((conv => whnf); first | refine ⟨by kernel_rfl, ?_⟩ | refine bcf c90 ?_ | refine bct c88 ?_)); (conv => whnf)
                  refine br_some h (fun c91 g => ?_) (fun c91 g => ?_)
                  · replace h := g
                    clear g
                    (repeat ((conv => whnf); first | refine ⟨by kernel_rfl, ?_⟩ | refine bct c91 ?_)); (conv => whnf)
                    exact ret_some (f := fun y => .one (.p (.v (.bool y)))) (g := fun y => []) h hQ
                  · replace h := g
                    clear g
                    (repeat ((conv => whnf); first | refine ⟨by kernel_rfl, ?_⟩ | refine bcf c91 ?_)); (conv => whnf)
                    refine br_some h (fun c92 g => ?_) (fun c92 g => ?_)
                    · replace h := g
                      clear g
                      (repeat ((conv => whnf); first | refine ⟨by kernel_rfl, ?_⟩ | refine bct c92 ?_ | refine eqv_to (map_len _) ?_ | refine bcf c91 ?_)); (conv => whnf)
                      refine br_some h (fun c93 g => ?_) (fun c93 g => ?_)
                      · replace h := g
                        clear g
                        (repeat ((conv => whnf); first | refine ⟨by kernel_rfl, ?_⟩ | refine bct c93 ?_)); (conv => whnf)
                        exact ret_some (f := fun y => .one (.p (.v (.bool y)))) (g := fun y => []) h hQ
                      · replace h := g
                        clear g
                        (repeat ((conv => whnf); first | refine ⟨by kernel_rfl, ?_⟩ | refine bcf c93 ?_)); (conv => whnf)
                        exact tl4.h  h
                    · replace h := g
                      clear g
                      (repeat ((conv => whnf); first | refine ⟨by kernel_rfl, ?_⟩ | refine bcf c92 ?_ | refine bcf c91 ?_)); (conv => whnf)
                      exact tl4.h  h
            · replace h := g
              clear g
              (repeat ((conv => whnf); first | refine ⟨by kernel_rfl, ?_⟩ | refine bcf c88 ?_)); (conv => whnf)
              refine br_some h (fun c94 g => ?_) (fun c94 g => ?_)
              · replace h := g
                clear g
                (repeat ((conv => whnf); first | refine ⟨by kernel_rfl, ?_⟩ | refine bct c94 ?_ | refine eqv_to (map_len _) ?_)); (conv => whnf)
                refine br_some h (fun c95 g => ?_) (fun c95 g => ?_)
                · replace h := g
                  clear g
                  (repeat ((conv => whnf); first | refine ⟨by kernel_rfl, ?_⟩ | refine bct c95 ?_)); (conv => whnf)
                  exact ret_some (f := fun y => .one (.p (.v (.bool y)))) (g := fun y => []) h hQ
                · replace h := g
                  clear g
                  (repeat ((conv => whnf); first | refine ⟨by kernel_rfl, ?_⟩ | refine bcf c95 ?_)); (conv => whnf)
                  exact tl4.h  h
              · replace h := g
                clear g
                (repeat ((conv => whnf); first | refine ⟨by kernel_rfl, ?_⟩ | refine bcf c94 ?_)); (conv => whnf)
                exact tl4.h  h
          · intro h
            unfold law16_CodeBack_j4 at h
            refine rest_intro hX ?_
            replace h := bnd_some h
            obtain ⟨y58, e59, h⟩ := h
            (repeat ((conv => whnf); first | refine ⟨by kernel_rfl, ?_⟩)); (conv => whnf)
            refine code_GetNum_c hX e59 ?_
            replace h := bnd_some h
            obtain ⟨y60, e61, h⟩ := h
            (repeat ((conv => whnf); first | refine ⟨by kernel_rfl, ?_⟩)); (conv => whnf)
            refine code_GetText_c hX e61 ?_
            (repeat ((conv => whnf); first | refine ⟨by kernel_rfl, ?_⟩)); (conv => whnf)
            refine br_some h (fun c62 g => ?_) (fun c62 g => ?_)
            · replace h := g
              clear g
              (repeat ((conv => whnf); first | refine ⟨by kernel_rfl, ?_⟩ | refine bct c62 ?_)); (conv => whnf)
              exact ret_some (f := fun y => .one (.p (.v (.bool y)))) (g := fun y => []) h hQ
            · replace h := g
              clear g
              (repeat ((conv => whnf); first | refine ⟨by kernel_rfl, ?_⟩ | refine bcf c62 ?_ | refine eqv_to (map_len _) ?_)); (conv => whnf)
              refine br_some h (fun c63 g => ?_) (fun c63 g => ?_)
              · replace h := g
                clear g
                (repeat ((conv => whnf); first | refine ⟨by kernel_rfl, ?_⟩ | refine bct c63 ?_)); (conv => whnf)
                exact ret_some (f := fun y => .one (.p (.v (.bool y)))) (g := fun y => []) h hQ
              · replace h := g
                clear g
                (repeat ((conv => whnf); first | refine ⟨by kernel_rfl, ?_⟩ | refine bcf c63 ?_)); (conv => whnf)
                refine br_some h (fun c64 g => ?_) (fun c64 g => ?_)
                · replace h := g
                  clear g
                  (repeat ((conv => whnf); first | refine ⟨by kernel_rfl, ?_⟩ | refine bct c64 ?_)); (conv => whnf)
                  exact ret_some (f := fun y => .one (.p (.v (.bool y)))) (g := fun y => []) h hQ
                · replace h := g
                  clear g
                  (repeat ((conv => whnf); first | refine ⟨by kernel_rfl, ?_⟩ | refine bcf c64 ?_ | refine eqv_to (map_len _) ?_)); (conv => whnf)
                  refine br_some h (fun c65 g => ?_) (fun c65 g => ?_)
                  · replace h := g
                    clear g
                    (repeat ((conv => whnf); first | refine ⟨by kernel_rfl, ?_⟩ | refine bct c65 ?_)); (conv => whnf)
                    exact ret_some (f := fun y => .one (.p (.v (.bool y)))) (g := fun y => []) h hQ
                  · replace h := g
                    clear g
                    apply join0 (X := X) (r := r) (pad [(2, .one (.p (.sl (p2.map brw)))), (4, .one (.p (.v (.bool y1))))] 186) ([])
                    · intro tl5
                      (repeat ((conv => whnf); first | refine ⟨by kernel_rfl, ?_⟩ | refine bcf c65 ?_)); (conv => whnf)
                      refine br_some h (fun c73 g => ?_) (fun c73 g => ?_)
                      · replace h := g
                        clear g
                        replace h := bnd_some h
                        obtain ⟨y74, e75, h⟩ := h
                        (repeat ((conv => whnf); first | refine ⟨by kernel_rfl, ?_⟩ | refine bct c73 ?_)); (conv => whnf)
                        refine code_Num_c hX e75 ?_
                        replace h := chk_some h
                        obtain ⟨c76, h⟩ := h
                        (repeat ((conv => whnf); first | refine ⟨by kernel_rfl, ?_⟩ | refine bct c73 ?_ | refine bct (strOk_brw _) ?_ | refine bct (slice_ok (f := brw) (a := 0) (sz := 1) c76 (fun _ => rfl)) ?_ | refine eqv_to (in_map (f := brw) p2 0 y58.2) ?_)); (conv => whnf)
                        refine br_some h (fun c77 g => ?_) (fun c77 g => ?_)
                        · replace h := g
                          clear g
                          (repeat ((conv => whnf); first | refine ⟨by kernel_rfl, ?_⟩ | refine bct c77 ?_)); (conv => whnf)
                          exact ret_some (f := fun y => .one (.p (.v (.bool y)))) (g := fun y => []) h hQ
                        · replace h := g
                          clear g
                          (repeat ((conv => whnf); first | refine ⟨by kernel_rfl, ?_⟩ | refine bcf c77 ?_)); (conv => whnf)
                          refine br_some h (fun c78 g => ?_) (fun c78 g => ?_)
                          · replace h := g
                            clear g
                            replace h := bnd_some h
                            obtain ⟨y79, e80, h⟩ := h
                            (repeat ((conv => whnf); first | refine ⟨by kernel_rfl, ?_⟩ | refine bct c78 ?_)); (conv => whnf)
                            refine code_Text_c hX e80 ?_
                            replace h := chk_some h
                            obtain ⟨c81, h⟩ := h
                            (repeat ((conv => whnf); first | refine ⟨by kernel_rfl, ?_⟩ | refine bct c78 ?_ | refine bct (strOk_brw _) ?_ | refine bct (slice_ok (f := brw) (a := 0) (sz := 1) c81 (fun _ => rfl)) ?_ | refine eqv_to (in_map (f := brw) p2 0 y60.2) ?_ | refine bcf c77 ?_)); (conv => whnf)
                            refine br_some h (fun c82 g => ?_) (fun c82 g => ?_)
                            · replace h := g
                              clear g
                              (repeat ((conv => whnf); first | refine ⟨by kernel_rfl, ?_⟩ | refine bct c82 ?_)); (conv => whnf)
                              exact ret_some (f := fun y => .one (.p (.v (.bool y)))) (g := fun y => []) h hQ
                            · replace h := g
                              clear g
                              (repeat ((conv => whnf); first | refine ⟨by kernel_rfl, ?_⟩ | refine bcf c82 ?_)); (conv => whnf)
                              exact tl5.h  h
                          · replace h := g
                            clear g
                            (repeat ((conv => whnf); first | refine ⟨by kernel_rfl, ?_⟩ | refine bcf c78 ?_ | refine bcf c77 ?_)); (conv => whnf)
                            exact tl5.h  h
                      · replace h := g
                        clear g
                        (repeat ((conv => whnf); first | refine ⟨by kernel_rfl, ?_⟩ | refine bcf c73 ?_)); (conv => whnf)
                        refine br_some h (fun c83 g => ?_) (fun c83 g => ?_)
                        · replace h := g
                          clear g
                          replace h := bnd_some h
                          obtain ⟨y84, e85, h⟩ := h
                          (repeat ((conv => whnf); first | refine ⟨by kernel_rfl, ?_⟩ | refine bct c83 ?_)); (conv => whnf)
                          refine code_Text_c hX e85 ?_
                          replace h := chk_some h
                          obtain ⟨c86, h⟩ := h
                          (repeat ((conv => whnf); first | refine ⟨by kernel_rfl, ?_⟩ | refine bct c83 ?_ | refine bct (strOk_brw _) ?_ | refine bct (slice_ok (f := brw) (a := 0) (sz := 1) c86 (fun _ => rfl)) ?_ | refine eqv_to (in_map (f := brw) p2 0 y60.2) ?_)); (conv => whnf)
                          refine br_some h (fun c87 g => ?_) (fun c87 g => ?_)
                          · replace h := g
                            clear g
                            (repeat ((conv => whnf); first | refine ⟨by kernel_rfl, ?_⟩ | refine bct c87 ?_)); (conv => whnf)
                            exact ret_some (f := fun y => .one (.p (.v (.bool y)))) (g := fun y => []) h hQ
                          · replace h := g
                            clear g
                            (repeat ((conv => whnf); first | refine ⟨by kernel_rfl, ?_⟩ | refine bcf c87 ?_)); (conv => whnf)
                            exact tl5.h  h
                        · replace h := g
                          clear g
                          (repeat ((conv => whnf); first | refine ⟨by kernel_rfl, ?_⟩ | refine bcf c83 ?_)); (conv => whnf)
                          exact tl5.h  h
                    · intro h
                      unfold law16_CodeBack_j5 at h
                      refine rest_intro hX ?_
                      replace h := bnd_some h
                      obtain ⟨y66, e67, h⟩ := h
                      (repeat ((conv => whnf); first | refine ⟨by kernel_rfl, ?_⟩)); (conv => whnf)
                      refine code_Seal_c hX e67 ?_
                      refine bndE_some h (fun y68 n70 e69 g => ?_) (fun y68 e69 g => ?_)
                      · replace h := g
                        clear g
                        (repeat ((conv => whnf); first | refine ⟨by kernel_rfl, ?_⟩)); (conv => whnf)
                        refine code_Open_c hX e69 ?_
                        (repeat ((conv => whnf); first | refine ⟨by kernel_rfl, ?_⟩)); (conv => whnf)
                        refine br_some h (fun c71 g => ?_) (fun c71 g => ?_)
                        · replace h := g
                          clear g
                          (repeat ((conv => whnf); first | refine ⟨by kernel_rfl, ?_⟩ | refine bct c71 ?_)); (conv => whnf)
                          exact ret_some (f := fun y => .one (.p (.v (.bool y)))) (g := fun y => []) h hQ
                        · replace h := g
                          clear g
                          (repeat ((conv => whnf); first | refine ⟨by kernel_rfl, ?_⟩ | refine bcf c71 ?_)); (conv => whnf)
                          exact ret_some (f := fun y => .one (.p (.v (.bool y)))) (g := fun y => []) h hQ
                      · replace h := g
                        clear g
                        (repeat ((conv => whnf); first | refine ⟨by kernel_rfl, ?_⟩)); (conv => whnf)
                        refine code_Open_c hX e69 ?_
                        (repeat ((conv => whnf); first | refine ⟨by kernel_rfl, ?_⟩)); (conv => whnf)
                        refine br_some h (fun c72 g => ?_) (fun c72 g => ?_)
                        · replace h := g
                          clear g
                          (repeat ((conv => whnf); first | refine ⟨by kernel_rfl, ?_⟩ | refine bct c72 ?_ | refine bct (strOk_brw _) ?_)); (conv => whnf)
                          exact ret_some (f := fun y => .one (.p (.v (.bool y)))) (g := fun y => []) h hQ
                        · replace h := g
                          clear g
                          (repeat ((conv => whnf); first | refine ⟨by kernel_rfl, ?_⟩ | refine bcf c72 ?_)); (conv => whnf)
                          exact ret_some (f := fun y => .one (.p (.v (.bool y)))) (g := fun y => []) h hQ
    · replace h := g
      clear g
      replace h := chk_some h
      obtain ⟨c114, h⟩ := h
      replace h := bnd_some h
      obtain ⟨y115, e116, h⟩ := h
      (repeat ((conv => whnf); first | refine ⟨by kernel_rfl, ?_⟩ | refine bcf c7 ?_ | refine eqv_to (in_map (f := brw) y4 0 (y4.length : Int)) ?_ | refine Two.r ?_ | refine bct (room_cp c114 (List.length_map ..) rfl (rowsOk_map (f := brw) (sz := 1) (fun _ => rfl) _) (rowsOk_map (f := brw) (sz := 1) (fun _ => rfl) _)) ?_ | refine eqv_to (cat_map (f := brw) (subL y4 0 (y4.length : Int)) _) ?_)); (conv => whnf)
      refine code_GetNum_c hX e116 ?_
      apply join0 (X := X) (r := r) (pad [(1, .one (.p (.v (.string p1)))), (0, .one (.p (.sl (p2.map brw)))), (4, .one (.p (.v (.bool y1))))] 186) ([])
      · intro tl6
        (repeat ((conv => whnf); first | refine ⟨by kernel_rfl, ?_⟩)); (conv => whnf)
        refine br_some h (fun c203 g => ?_) (fun c203 g => ?_)
        · replace h := g
          clear g
          (repeat ((conv => whnf); first | refine ⟨by kernel_rfl, ?_⟩ | refine bct c203 ?_)); (conv => whnf)
          refine br_some h (fun c204 g => ?_) (fun c204 g => ?_)
          · replace h := g
            clear g
            (repeat ((conv => whnf); first | refine ⟨by kernel_rfl, ?_⟩ | refine bct c204 ?_)); (conv => whnf)
            refine br_some h (fun c205 g => ?_) (fun c205 g => ?_)
            · replace h := g
              clear g
              (repeat ((conv => whnf); first | refine ⟨by kernel_rfl, ?_⟩ | refine bct c205 ?_ | refine bct c204 ?_)); (conv => whnf)
              exact ret_some (f := fun y => .one (.p (.v (.bool y)))) (g := fun y => []) h hQ
            · replace h := g
              clear g
              (repeat ((conv => whnf); first | refine ⟨by kernel_rfl, ?_⟩ | refine bcf c205 ?_ | refine eqv_to (map_len _) ?_ | refine bct c204 ?_)); (conv => whnf)
              refine br_some h (fun c206 g => ?_) (fun c206 g => ?_)
              · replace h := g
                clear g
                (repeat ((conv => whnf); first | refine ⟨by kernel_rfl, ?_⟩ | refine bct c206 ?_ | refine bct c204 ?_)); (conv => whnf)
                exact ret_some (f := fun y => .one (.p (.v (.bool y)))) (g := fun y => []) h hQ
              · replace h := g
                clear g
                (repeat ((conv => whnf); first | refine ⟨by kernel_rfl, ?_⟩ | refine bcf c206 ?_ | refine bct c204 ?_)); (conv => whnf)
                refine br_some h (fun c207 g => ?_) (fun c207 g => ?_)
                · replace h := g
                  clear g
                  (repeat ((conv => whnf); first | refine ⟨by kernel_rfl, ?_⟩ | refine bct c207 ?_ | refine bct c204 ?_)); (conv => whnf)
                  exact ret_some (f := fun y => .one (.p (.v (.bool y)))) (g := fun y => []) h hQ
                · replace h := g
                  clear g
                  (repeat ((conv => whnf); first | refine ⟨by kernel_rfl, ?_⟩ | refine bcf c207 ?_ | refine bct c204 ?_)); (conv => whnf)
                  refine br_some h (fun c208 g => ?_) (fun c208 g => ?_)
                  · replace h := g
                    clear g
                    (repeat ((conv => whnf); first | refine ⟨by kernel_rfl, ?_⟩ | refine bct c208 ?_)); (conv => whnf)
                    exact ret_some (f := fun y => .one (.p (.v (.bool y)))) (g := fun y => []) h hQ
                  · replace h := g
                    clear g
                    (repeat ((conv => whnf); first | refine ⟨by kernel_rfl, ?_⟩ | refine bcf c208 ?_)); (conv => whnf)
                    refine br_some h (fun c209 g => ?_) (fun c209 g => ?_)
                    · replace h := g
                      clear g
                      (repeat ((conv => whnf); first | refine ⟨by kernel_rfl, ?_⟩ | refine bct c209 ?_ | refine bcf c208 ?_ | refine eqv_to (map_len _) ?_)); (conv => whnf)
                      refine br_some h (fun c210 g => ?_) (fun c210 g => ?_)
                      · replace h := g
                        clear g
                        (repeat ((conv => whnf); first | refine ⟨by kernel_rfl, ?_⟩ | refine bct c210 ?_)); (conv => whnf)
                        exact ret_some (f := fun y => .one (.p (.v (.bool y)))) (g := fun y => []) h hQ
                      · replace h := g
                        clear g
                        (repeat ((conv => whnf); first | refine ⟨by kernel_rfl, ?_⟩ | refine bcf c210 ?_)); (conv => whnf)
                        exact tl6.h  h
                    · replace h := g
                      clear g
                      (repeat ((conv => whnf); first | refine ⟨by kernel_rfl, ?_⟩ | refine bcf c209 ?_ | refine bcf c208 ?_)); (conv => whnf)
                      refine br_some h (fun c211 g => ?_) (fun c211 g => ?_)
                      · replace h := g
                        clear g
                        (repeat ((conv => whnf); first | refine ⟨by kernel_rfl, ?_⟩ | refine bct c211 ?_ | refine eqv_to (map_len _) ?_ | refine bcf c208 ?_)); (conv => whnf)
                        refine br_some h (fun c212 g => ?_) (fun c212 g => ?_)
                        · replace h := g
                          clear g
                          (repeat ((conv => whnf); first | refine ⟨by kernel_rfl, ?_⟩ | refine bct c212 ?_)); (conv => whnf)
                          exact ret_some (f := fun y => .one (.p (.v (.bool y)))) (g := fun y => []) h hQ
                        · replace h := g
                          clear g
                          (repeat ((conv => whnf); first | refine ⟨by kernel_rfl, ?_⟩ | refine bcf c212 ?_)); (conv => whnf)
                          exact tl6.h  h
                      · replace h := g
                        clear g
                        (repeat ((conv => whnf); first | refine ⟨by kernel_rfl, ?_⟩ | refine bcf c211 ?_ | refine bcf c208 ?_)); (conv => whnf)
                        exact tl6.h  h
          · replace h := g
            clear g
            (repeat ((conv => whnf); first | refine ⟨by kernel_rfl, ?_⟩ | refine bcf c204 ?_)); (conv => whnf)
            refine br_some h (fun c213 g => ?_) (fun c213 g => ?_)
            · replace h := g
              clear g
              (repeat ((conv => whnf); first | refine ⟨by kernel_rfl, ?_⟩ | refine bct c213 ?_ | refine eqv_to (map_len _) ?_)); (conv => whnf)
              refine br_some h (fun c214 g => ?_) (fun c214 g => ?_)
              · replace h := g
                clear g
                (repeat ((conv => whnf); first | refine ⟨by kernel_rfl, ?_⟩ | refine bct c214 ?_)); (conv => whnf)
                exact ret_some (f := fun y => .one (.p (.v (.bool y)))) (g := fun y => []) h hQ
              · replace h := g
                clear g
                (repeat ((conv => whnf); first | refine ⟨by kernel_rfl, ?_⟩ | refine bcf c214 ?_)); (conv => whnf)
                exact tl6.h  h
            · replace h := g
              clear g
              (repeat ((conv => whnf); first | refine ⟨by kernel_rfl, ?_⟩ | refine bcf c213 ?_)); (conv => whnf)
              refine br_some h (fun c215 g => ?_) (fun c215 g => ?_)
              · replace h := g
                clear g
                (repeat ((conv => whnf); first | refine ⟨by kernel_rfl, ?_⟩ | refine bct c215 ?_ | refine eqv_to (map_len _) ?_)); (conv => whnf)
                refine br_some h (fun c216 g => ?_) (fun c216 g => ?_)
                · replace h := g
                  clear g
                  (repeat ((conv => whnf); first | refine ⟨by kernel_rfl, ?_⟩ | refine bct c216 ?_)); (conv => whnf)
                  exact ret_some (f := fun y => .one (.p (.v (.bool y)))) (g := fun y => []) h hQ
                · replace h := g
                  clear g
                  (repeat ((conv => whnf); first | refine ⟨by kernel_rfl, ?_⟩ | refine bcf c216 ?_)); (conv => whnf)
                  exact tl6.h  h
              · replace h := g
                clear g
                (repeat ((conv => whnf); first | refine ⟨by kernel_rfl, ?_⟩ | refine bcf c215 ?_)); (conv => whnf)
                exact tl6.h  h
        · replace h := g
          clear g
          (repeat ((conv => whnf); first | refine ⟨by kernel_rfl, ?_⟩ | refine bcf c203 ?_)); (conv => whnf)
          refine br_some h (fun c217 g => ?_) (fun c217 g => ?_)
          · replace h := g
            clear g
            (repeat ((conv => whnf); first | refine ⟨by kernel_rfl, ?_⟩ | refine bct c217 ?_ | refine eqv_to (map_len _) ?_)); (conv => whnf)
            refine br_some h (fun c218 g => ?_) (fun c218 g => ?_)
            · replace h := g
              clear g
              (repeat ((conv => whnf); first | refine ⟨by kernel_rfl, ?_⟩ | refine bct c218 ?_)); (conv => whnf)
              exact ret_some (f := fun y => .one (.p (.v (.bool y)))) (g := fun y => []) h hQ
            · replace h := g
              clear g
              (repeat ((conv => whnf); first | refine ⟨by kernel_rfl, ?_⟩ | refine bcf c218 ?_)); (conv => whnf)
              exact tl6.h  h
          · replace h := g
            clear g
            (repeat ((conv => whnf); first | refine ⟨by kernel_rfl, ?_⟩ | refine bcf c217 ?_)); (conv => whnf)
            refine br_some h (fun c219 g => ?_) (fun c219 g => ?_)
            · replace h := g
              clear g
              (repeat ((conv => whnf); first | refine ⟨by kernel_rfl, ?_⟩ | refine bct c219 ?_ | refine eqv_to (map_len _) ?_)); (conv => whnf)
              refine br_some h (fun c220 g => ?_) (fun c220 g => ?_)
              · replace h := g
                clear g
                (repeat ((conv => whnf); first | refine ⟨by kernel_rfl, ?_⟩ | refine bct c220 ?_)); (conv => whnf)
                exact ret_some (f := fun y => .one (.p (.v (.bool y)))) (g := fun y => []) h hQ
              · replace h := g
                clear g
                (repeat ((conv => whnf); first | refine ⟨by kernel_rfl, ?_⟩ | refine bcf c220 ?_)); (conv => whnf)
                exact tl6.h  h
            · replace h := g
              clear g
              (repeat ((conv => whnf); first | refine ⟨by kernel_rfl, ?_⟩ | refine bcf c219 ?_)); (conv => whnf)
              exact tl6.h  h
      · intro h
        unfold law16_CodeBack_j6 at h
        refine rest_intro hX ?_
        replace h := bnd_some h
        obtain ⟨y117, e118, h⟩ := h
        (repeat ((conv => whnf); first | refine ⟨by kernel_rfl, ?_⟩)); (conv => whnf)
        refine code_Text_c hX e118 ?_
        replace h := chk_some h
        obtain ⟨c119, h⟩ := h
        (repeat ((conv => whnf); first | refine ⟨by kernel_rfl, ?_⟩ | refine eqv_to (map_len _) ?_ | refine bct c119 ?_ | refine bct (slice_ok (f := brw) (a := 0) (sz := 1) c119 (fun _ => rfl)) ?_ | refine bct (andt (eqI_t.2 rfl) rfl) ?_)); (conv => whnf)
        refine br_some h (fun c120 g => ?_) (fun c120 g => ?_)
        · replace h := g
          clear g
          replace h := chk_some h
          obtain ⟨c121, h⟩ := h
          replace h := bnd_some h
          obtain ⟨y122, e123, h⟩ := h
          (repeat ((conv => whnf); first | refine ⟨by kernel_rfl, ?_⟩ | refine bct c120 ?_ | refine bct (room_zero c121 (List.length_map ..) rfl (rowsOk_map (f := brw) (sz := 1) (fun _ => rfl) _) rfl) ?_ | refine eqv_to (nil_map (f := brw) _) ?_)); (conv => whnf)
          refine Or.inl ?_
          conv => whnf
          refine code_GetText_c hX e123 ?_
          apply join0 (X := X) (r := r) (pad [(2, .one (.p (.sl (p2.map brw)))), (4, .one (.p (.v (.bool y1))))] 186) ([])
          · intro tl7
            (repeat ((conv => whnf); first | refine ⟨by kernel_rfl, ?_⟩)); (conv => whnf)
            refine br_some h (fun c154 g => ?_) (fun c154 g => ?_)
            · replace h := g
              clear g
              (repeat ((conv => whnf); first | refine ⟨by kernel_rfl, ?_⟩ | refine bct c154 ?_)); (conv => whnf)
              refine br_some h (fun c155 g => ?_) (fun c155 g => ?_)
              · replace h := g
                clear g
                (repeat ((conv => whnf); first | refine ⟨by kernel_rfl, ?_⟩ | refine bct c155 ?_ | refine bct c154 ?_)); (conv => whnf)
                exact ret_some (f := fun y => .one (.p (.v (.bool y)))) (g := fun y => []) h hQ
              · replace h := g
                clear g
                (repeat ((conv => whnf); first | refine ⟨by kernel_rfl, ?_⟩ | refine bcf c155 ?_ | refine eqv_to (map_len _) ?_ | refine bct c154 ?_)); (conv => whnf)
                refine br_some h (fun c156 g => ?_) (fun c156 g => ?_)
                · replace h := g
                  clear g
                  (repeat ((conv => whnf); first | refine ⟨by kernel_rfl, ?_⟩ | refine bct c156 ?_ | refine bct c154 ?_)); (conv => whnf)
                  exact ret_some (f := fun y => .one (.p (.v (.bool y)))) (g := fun y => []) h hQ
                · replace h := g
                  clear g
                  (repeat ((conv => whnf); first | refine ⟨by kernel_rfl, ?_⟩ | refine bcf c156 ?_ | refine bct c154 ?_)); (conv => whnf)
                  refine br_some h (fun c157 g => ?_) (fun c157 g => ?_)
                  · replace h := g
                    clear g
                    (repeat ((conv => whnf); first | refine ⟨by kernel_rfl, ?_⟩ | refine bct c157 ?_)); (conv => whnf)
                    exact ret_some (f := fun y => .one (.p (.v (.bool y)))) (g := fun y => []) h hQ
                  · replace h := g
                    clear g
                    (repeat ((conv => whnf); first | refine ⟨by kernel_rfl, ?_⟩ | refine bcf c157 ?_)); (conv => whnf)
                    refine br_some h (fun c158 g => ?_) (fun c158 g => ?_)
                    · replace h := g
                      clear g
                      (repeat ((conv => whnf); first | refine ⟨by kernel_rfl, ?_⟩ | refine bct c158 ?_ | refine eqv_to (map_len _) ?_ | refine bcf c157 ?_)); (conv => whnf)
                      refine br_some h (fun c159 g => ?_) (fun c159 g => ?_)
                      · replace h := g
                        clear g
                        (repeat ((conv => whnf); first | refine ⟨by kernel_rfl, ?_⟩ | refine bct c159 ?_)); (conv => whnf)
                        exact ret_some (f := fun y => .one (.p (.v (.bool y)))) (g := fun y => []) h hQ
                      · replace h := g
                        clear g
                        (repeat ((conv => whnf); first | refine ⟨by kernel_rfl, ?_⟩ | refine bcf c159 ?_)); (conv => whnf)
                        exact tl7.h  h
                    · replace h := g
                      clear g
                      (repeat ((conv => whnf); first | refine ⟨by kernel_rfl, ?_⟩ | refine bcf c158 ?_ | refine bcf c157 ?_)); (conv => whnf)
                      exact tl7.h  h
            · replace h := g
              clear g
              (repeat ((conv => whnf); first | refine ⟨by kernel_rfl, ?_⟩ | refine bcf c154 ?_)); (conv => whnf)
              refine br_some h (fun c160 g => ?_) (fun c160 g => ?_)
              · replace h := g
                clear g
                (repeat ((conv => whnf); first | refine ⟨by kernel_rfl, ?_⟩ | refine bct c160 ?_ | refine eqv_to (map_len _) ?_)); (conv => whnf)
                refine br_some h (fun c161 g => ?_) (fun c161 g => ?_)
                · replace h := g
                  clear g
                  (repeat ((conv => whnf); first | refine ⟨by kernel_rfl, ?_⟩ | refine bct c161 ?_)); (conv => whnf)
                  exact ret_some (f := fun y => .one (.p (.v (.bool y)))) (g := fun y => []) h hQ
                · replace h := g
                  clear g
                  (repeat ((conv => whnf); first | refine ⟨by kernel_rfl, ?_⟩ | refine bcf c161 ?_)); (conv => whnf)
                  exact tl7.h  h
              · replace h := g
                clear g
                (repeat ((conv => whnf); first | refine ⟨by kernel_rfl, ?_⟩ | refine bcf c160 ?_)); (conv => whnf)
                exact tl7.h  h
          · intro h
            unfold law16_CodeBack_j7 at h
            refine rest_intro hX ?_
            replace h := bnd_some h
            obtain ⟨y124, e125, h⟩ := h
            (repeat ((conv => whnf); first | refine ⟨by kernel_rfl, ?_⟩)); (conv => whnf)
            refine code_GetNum_c hX e125 ?_
            replace h := bnd_some h
            obtain ⟨y126, e127, h⟩ := h
            (repeat ((conv => whnf); first | refine ⟨by kernel_rfl, ?_⟩)); (conv => whnf)
            refine code_GetText_c hX e127 ?_
            (repeat ((conv => whnf); first | refine ⟨by kernel_rfl, ?_⟩)); (conv => whnf)
            refine br_some h (fun c128 g => ?_) (fun c128 g => ?_)
            · replace h := g
              clear g
              (repeat ((conv => whnf); first | refine ⟨by kernel_rfl, ?_⟩ | refine bct c128 ?_)); (conv => whnf)
              exact ret_some (f := fun y => .one (.p (.v (.bool y)))) (g := fun y => []) h hQ
            · replace h := g
              clear g
              (repeat ((conv => whnf); first | refine ⟨by kernel_rfl, ?_⟩ | refine bcf c128 ?_ | refine eqv_to (map_len _) ?_)); (conv => whnf)
              refine br_some h (fun c129 g => ?_) (fun c129 g => ?_)
              · replace h := g
                clear g
                (repeat ((conv => whnf); first | refine ⟨by kernel_rfl, ?_⟩ | refine bct c129 ?_)); (conv => whnf)
                exact ret_some (f := fun y => .one (.p (.v (.bool y)))) (g := fun y => []) h hQ
              · replace h := g
                clear g
                (repeat ((conv => whnf); first | refine ⟨by kernel_rfl, ?_⟩ | refine bcf c129 ?_)); (conv => whnf)
                refine br_some h (fun c130 g => ?_) (fun c130 g => ?_)
                · replace h := g
                  clear g
                  (repeat ((conv => whnf); first | refine ⟨by kernel_rfl, ?_⟩ | refine bct c130 ?_)); (conv => whnf)
                  exact ret_some (f := fun y => .one (.p (.v (.bool y)))) (g := fun y => []) h hQ
                · replace h := g
                  clear g
                  (repeat ((conv => whnf); first | refine ⟨by kernel_rfl, ?_⟩ | refine bcf c130 ?_ | refine eqv_to (map_len _) ?_)); (conv => whnf)
                  refine br_some h (fun c131 g => ?_) (fun c131 g => ?_)
                  · replace h := g
                    clear g
                    (repeat ((conv => whnf); first | refine ⟨by kernel_rfl, ?_⟩ | refine bct c131 ?_)); (conv => whnf)
                    exact ret_some (f := fun y => .one (.p (.v (.bool y)))) (g := fun y => []) h hQ
                  · replace h := g
                    clear g
                    apply join0 (X := X) (r := r) (pad [(2, .one (.p (.sl (p2.map brw)))), (4, .one (.p (.v (.bool y1))))] 186) ([])
                    · intro tl8
                      (repeat ((conv => whnf); first | refine ⟨by kernel_rfl, ?_⟩ | refine bcf c131 ?_)); (conv => whnf)
                      refine br_some h (fun c139 g => ?_) (fun c139 g => ?_)
                      · replace h := g
                        clear g
                        replace h := bnd_some h
                        obtain ⟨y140, e141, h⟩ := h
                        (repeat ((conv => whnf); first | refine ⟨by kernel_rfl, ?_⟩ | refine bct c139 ?_)); (conv => whnf)
                        refine code_Num_c hX e141 ?_
                        replace h := chk_some h
                        obtain ⟨c142, h⟩ := h
                        (repeat ((conv => whnf); first | refine ⟨by kernel_rfl, ?_⟩ | refine bct c139 ?_ | refine bct (strOk_brw _) ?_ | refine bct (slice_ok (f := brw) (a := 0) (sz := 1) c142 (fun _ => rfl)) ?_ | refine eqv_to (in_map (f := brw) p2 0 y124.2) ?_)); (conv => whnf)
                        refine br_some h (fun c143 g => ?_) (fun c143 g => ?_)
                        · replace h := g
                          clear g
                          (repeat ((conv => whnf); first | refine ⟨by kernel_rfl, ?_⟩ | refine bct c143 ?_)); (conv => whnf)
                          exact ret_some (f := fun y => .one (.p (.v (.bool y)))) (g := fun y => []) h hQ
                        · replace h := g
                          clear g
                          (repeat ((conv => whnf); first | refine ⟨by kernel_rfl, ?_⟩ | refine bcf c143 ?_)); (conv => whnf)
                          refine br_some h (fun c144 g => ?_) (fun c144 g => ?_)
                          · replace h := g
                            clear g
                            replace h := bnd_some h
                            obtain ⟨y145, e146, h⟩ := h
                            (repeat ((conv => whnf); first | refine ⟨by kernel_rfl, ?_⟩ | refine bct c144 ?_)); (conv => whnf)
                            refine code_Text_c hX e146 ?_
                            replace h := chk_some h
                            obtain ⟨c147, h⟩ := h
                            (repeat ((conv => whnf); first | refine ⟨by kernel_rfl, ?_⟩ | refine bct c144 ?_ | refine bct (strOk_brw _) ?_ | refine bct (slice_ok (f := brw) (a := 0) (sz := 1) c147 (fun _ => rfl)) ?_ | refine eqv_to (in_map (f := brw) p2 0 y126.2) ?_ | refine bcf c143 ?_)); (conv => whnf)
                            refine br_some h (fun c148 g => ?_) (fun c148 g => ?_)
                            · replace h := g
                              clear g
                              (repeat ((conv => whnf); first | refine ⟨by kernel_rfl, ?_⟩ | refine bct c148 ?_)); (conv => whnf)
                              exact ret_some (f := fun y => .one (.p (.v (.bool y)))) (g := fun y => []) h hQ
                            · replace h := g
                              clear g
                              (repeat ((conv => whnf); first | refine ⟨by kernel_rfl, ?_⟩ | refine bcf c148 ?_)); (conv => whnf)
                              exact tl8.h  h
                          · replace h := g
                            clear g
                            (repeat ((conv => whnf); first | refine ⟨by kernel_rfl, ?_⟩ | refine bcf c144 ?_ | refine bcf c143 ?_)); (conv => whnf)
                            exact tl8.h  h
                      · replace h := g
                        clear g
                        (repeat ((conv => whnf); first | refine ⟨by kernel_rfl, ?_⟩ | refine bcf c139 ?_)); (conv => whnf)
                        refine br_some h (fun c149 g => ?_) (fun c149 g => ?_)
                        · replace h := g
                          clear g
                          replace h := bnd_some h
                          obtain ⟨y150, e151, h⟩ := h
                          (repeat ((conv => whnf); first | refine ⟨by kernel_rfl, ?_⟩ | refine bct c149 ?_)); (conv => whnf)
                          refine code_Text_c hX e151 ?_
                          replace h := chk_some h
                          obtain ⟨c152, h⟩ := h
                          (repeat ((conv => whnf); first | refine ⟨by kernel_rfl, ?_⟩ | refine bct c149 ?_ | refine bct (strOk_brw _) ?_ | refine bct (slice_ok (f := brw) (a := 0) (sz := 1) c152 (fun _ => rfl)) ?_ | refine eqv_to (in_map (f := brw) p2 0 y126.2) ?_)); (conv => whnf)
                          refine br_some h (fun c153 g => ?_) (fun c153 g => ?_)
                          · replace h := g
                            clear g
                            (repeat ((conv => whnf); first | refine ⟨by kernel_rfl, ?_⟩ | refine bct c153 ?_)); (conv => whnf)
                            exact ret_some (f := fun y => .one (.p (.v (.bool y)))) (g := fun y => []) h hQ
                          · replace h := g
                            clear g
                            (repeat ((conv => whnf); first | refine ⟨by kernel_rfl, ?_⟩ | refine bcf c153 ?_)); (conv => whnf)
                            exact tl8.h  h
                        · replace h := g
                          clear g
                          (repeat ((conv => whnf); first | refine ⟨by kernel_rfl, ?_⟩ | refine bcf c149 ?_)); (conv => whnf)
                          exact tl8.h  h
                    · intro h
                      unfold law16_CodeBack_j8 at h
                      refine rest_intro hX ?_
                      replace h := bnd_some h
                      obtain ⟨y132, e133, h⟩ := h
                      (repeat ((conv => whnf); first | refine ⟨by kernel_rfl, ?_⟩)); (conv => whnf)
                      refine code_Seal_c hX e133 ?_
                      refine bndE_some h (fun y134 n136 e135 g => ?_) (fun y134 e135 g => ?_)
                      · replace h := g
                        clear g
                        (repeat ((conv => whnf); first | refine ⟨by kernel_rfl, ?_⟩)); (conv => whnf)
                        refine code_Open_c hX e135 ?_
                        (repeat ((conv => whnf); first | refine ⟨by kernel_rfl, ?_⟩)); (conv => whnf)
                        refine br_some h (fun c137 g => ?_) (fun c137 g => ?_)
                        · replace h := g
                          clear g
                          (repeat ((conv => whnf); first | refine ⟨by kernel_rfl, ?_⟩ | refine bct c137 ?_)); (conv => whnf)
                          exact ret_some (f := fun y => .one (.p (.v (.bool y)))) (g := fun y => []) h hQ
                        · replace h := g
                          clear g
                          (repeat ((conv => whnf); first | refine ⟨by kernel_rfl, ?_⟩ | refine bcf c137 ?_)); (conv => whnf)
                          exact ret_some (f := fun y => .one (.p (.v (.bool y)))) (g := fun y => []) h hQ
                      · replace h := g
                        clear g
                        (repeat ((conv => whnf); first | refine ⟨by kernel_rfl, ?_⟩)); (conv => whnf)
                        refine code_Open_c hX e135 ?_
                        (repeat ((conv => whnf); first | refine ⟨by kernel_rfl, ?_⟩)); (conv => whnf)
                        refine br_some h (fun c138 g => ?_) (fun c138 g => ?_)
                        · replace h := g
                          clear g
                          (repeat ((conv => whnf); first | refine ⟨by kernel_rfl, ?_⟩ | refine bct c138 ?_ | refine bct (strOk_brw _) ?_)); (conv => whnf)
                          exact ret_some (f := fun y => .one (.p (.v (.bool y)))) (g := fun y => []) h hQ
                        · replace h := g
                          clear g
                          (repeat ((conv => whnf); first | refine ⟨by kernel_rfl, ?_⟩ | refine bcf c138 ?_)); (conv => whnf)
                          exact ret_some (f := fun y => .one (.p (.v (.bool y)))) (g := fun y => []) h hQ
        · replace h := g
          clear g
          replace h := chk_some h
          obtain ⟨c162, h⟩ := h
          replace h := bnd_some h
          obtain ⟨y163, e164, h⟩ := h
          (repeat ((conv => whnf); first | refine ⟨by kernel_rfl, ?_⟩ | refine bcf c120 ?_ | refine eqv_to (in_map (f := brw) y117 0 (y117.length : Int)) ?_ | refine Two.r ?_ | refine bct (room_cp c162 (List.length_map ..) rfl (rowsOk_map (f := brw) (sz := 1) (fun _ => rfl) _) (rowsOk_map (f := brw) (sz := 1) (fun _ => rfl) _)) ?_ | refine eqv_to (cat_map (f := brw) (subL y117 0 (y117.length : Int)) _) ?_)); (conv => whnf)
          refine code_GetText_c hX e164 ?_
          apply join0 (X := X) (r := r) (pad [(2, .one (.p (.sl (p2.map brw)))), (4, .one (.p (.v (.bool y1))))] 186) ([])
          · intro tl9
            (repeat ((conv => whnf); first | refine ⟨by kernel_rfl, ?_⟩)); (conv => whnf)
            refine br_some h (fun c195 g => ?_) (fun c195 g => ?_)
            · replace h := g
              clear g
              (repeat ((conv => whnf); first | refine ⟨by kernel_rfl, ?_⟩ | refine bct c195 ?_)); (conv => whnf)
              refine br_some h (fun c196 g => ?_) (fun c196 g => ?_)
              · replace h := g
                clear g
                (repeat ((conv => whnf); first | refine ⟨by kernel_rfl, ?_⟩ | refine bct c196 ?_ | refine bct c195 ?_)); (conv => whnf)
                exact ret_some (f := fun y => .one (.p (.v (.bool y)))) (g := fun y => []) h hQ
              · replace h := g
                clear g
                (repeat ((conv => whnf); first | refine ⟨by kernel_rfl, ?_⟩ | refine bcf c196 ?_ | refine eqv_to (map_len _) ?_ | refine bct c195 ?_)); (conv => whnf)
                refine br_some h (fun c197 g => ?_) (fun c197 g => ?_)
                · replace h := g
                  clear g
                  (repeat ((conv => whnf); first | refine ⟨by kernel_rfl, ?_⟩ | refine bct c197 ?_ | refine bct c195 ?_)); (conv => whnf)
                  exact ret_some (f := fun y => .one (.p (.v (.bool y)))) (g := fun y => []) h hQ
                · replace h := g
                  clear g
                  (repeat ((conv => whnf); first | refine ⟨by kernel_rfl, ?_⟩ | refine bcf c197 ?_ | refine bct c195 ?_)); (conv => whnf)
                  refine br_some h (fun c198 g => ?_) (fun c198 g => ?_)
                  · replace h := g
                    clear g
                    (repeat ((conv => whnf); first | refine ⟨by kernel_rfl, ?_⟩ | refine bct c198 ?_)); (conv => whnf)
                    exact ret_some (f := fun y => .one (.p (.v (.bool y)))) (g := fun y => []) h hQ
                  · replace h := g
                    clear g
                    (repeat ((conv => whnf); first | refine ⟨by kernel_rfl, ?_⟩ | refine bcf c198 ?_)); (conv => whnf)
                    refine br_some h (fun c199 g => ?_) (fun c199 g => ?_)
                    · replace h := g
                      clear g
                      (repeat ((conv => whnf); first | refine ⟨by kernel_rfl, ?_⟩ | refine bct c199 ?_ | refine eqv_to (map_len _) ?_ | refine bcf c198 ?_)); (conv => whnf)
                      refine br_some h (fun c200 g => ?_) (fun c200 g => ?_)
                      · replace h := g
                        clear g
                        (repeat ((conv => whnf); first | refine ⟨by kernel_rfl, ?_⟩ | refine bct c200 ?_)); (conv => whnf)
                        exact ret_some (f := fun y => .one (.p (.v (.bool y)))) (g := fun y => []) h hQ
                      · replace h := g
                        clear g
                        (repeat ((conv => whnf); first | refine ⟨by kernel_rfl, ?_⟩ | refine bcf c200 ?_)); (conv => whnf)
                        exact tl9.h  h
                    · replace h := g
                      clear g
                      (repeat ((conv => whnf); first | refine ⟨by kernel_rfl, ?_⟩ | refine bcf c199 ?_ | refine bcf c198 ?_)); (conv => whnf)
                      exact tl9.h  h
            · replace h := g
              clear g
              (repeat ((conv => whnf); first | refine ⟨by kernel_rfl, ?_⟩ | refine bcf c195 ?_)); (conv => whnf)
              refine br_some h (fun c201 g => ?_) (fun c201 g => ?_)
              · replace h := g
                clear g
                (repeat ((conv => whnf); first | refine ⟨by kernel_rfl, ?_⟩ | refine bct c201 ?_ | refine eqv_to (map_len _) ?_)); (conv => whnf)
                refine br_some h (fun c202 g => ?_) (fun c202 g => ?_)
                · replace h := g
                  clear g
                  (repeat ((conv => whnf); first | refine ⟨by kernel_rfl, ?_⟩ | refine bct c202 ?_)); (conv => whnf)
                  exact ret_some (f := fun y => .one (.p (.v (.bool y)))) (g := fun y => []) h hQ
                · replace h := g
                  clear g
                  (repeat ((conv => whnf); first | refine ⟨by kernel_rfl, ?_⟩ | refine bcf c202 ?_)); (conv => whnf)
                  exact tl9.h  h
              · replace h := g
                clear g
                (repeat ((conv => whnf); first | refine ⟨by kernel_rfl, ?_⟩ | refine bcf c201 ?_)); (conv => whnf)
                exact tl9.h  h
          · intro h
            unfold law16_CodeBack_j9 at h
            refine rest_intro hX ?_
            replace h := bnd_some h
            obtain ⟨y165, e166, h⟩ := h
            (repeat ((conv => whnf); first | refine ⟨by kernel_rfl, ?_⟩)); (conv => whnf)
            refine code_GetNum_c hX e166 ?_
            replace h := bnd_some h
            obtain ⟨y167, e168, h⟩ := h
            (repeat ((conv => whnf); first | refine ⟨by kernel_rfl, ?_⟩)); (conv => whnf)
            refine code_GetText_c hX e168 ?_
            (repeat ((conv => whnf); first | refine ⟨by kernel_rfl, ?_⟩)); (conv => whnf)
            refine br_some h (fun c169 g => ?_) (fun c169 g => ?_)
            · replace h := g
              clear g
              (repeat ((conv => whnf); first | refine ⟨by kernel_rfl, ?_⟩ | refine bct c169 ?_)); (conv => whnf)
              exact ret_some (f := fun y => .one (.p (.v (.bool y)))) (g := fun y => []) h hQ
            · replace h := g
              clear g
              (repeat ((conv => whnf); first | refine ⟨by kernel_rfl, ?_⟩ | refine bcf c169 ?_ | refine eqv_to (map_len _) ?_)); (conv => whnf)
              refine br_some h (fun c170 g => ?_) (fun c170 g => ?_)
              · replace h := g
                clear g
                (repeat ((conv => whnf); first | refine ⟨by kernel_rfl, ?_⟩ | refine bct c170 ?_)); (conv => whnf)
                exact ret_some (f := fun y => .one (.p (.v (.bool y)))) (g := fun y => []) h hQ
              · replace h := g
                clear g
                (repeat ((conv => whnf); first | refine ⟨by kernel_rfl, ?_⟩ | refine bcf c170 ?_)); (conv => whnf)
                refine br_some h (fun c171 g => ?_) (fun c171 g => ?_)
                · replace h := g
                  clear g
                  (repeat ((conv => whnf); first | refine ⟨by kernel_rfl, ?_⟩ | refine bct c171 ?_)); (conv => whnf)
                  exact ret_some (f := fun y => .one (.p (.v (.bool y)))) (g := fun y => []) h hQ
                · replace h := g
                  clear g
                  (repeat ((conv => whnf); first | refine ⟨by kernel_rfl, ?_⟩ | refine bcf c171 ?_ | refine eqv_to (map_len _) ?_)); (conv => whnf)
                  refine br_some h (fun c172 g => ?_) (fun c172 g => ?_)
                  · replace h := g
                    clear g
                    (repeat ((conv => whnf); first | refine ⟨by kernel_rfl, ?_⟩ | refine bct c172 ?_)); (conv => whnf)
                    exact ret_some (f := fun y => .one (.p (.v (.bool y)))) (g := fun y => []) h hQ
                  · replace h := g
                    clear g
                    apply join0 (X := X) (r := r) (pad [(2, .one (.p (.sl (p2.map brw)))), (4, .one (.p (.v (.bool y1))))] 186) ([])
                    · intro tl10
                      (repeat ((conv => whnf); first | refine ⟨by kernel_rfl, ?_⟩ | refine bcf c172 ?_)); (conv => whnf)
                      refine br_some h (fun c180 g => ?_) (fun c180 g => ?_)
                      · replace h := g
                        clear g
                        replace h := bnd_some h
                        obtain ⟨y181, e182, h⟩ := h
                        (repeat ((conv => whnf); first | refine ⟨by kernel_rfl, ?_⟩ | refine bct c180 ?_)); (conv => whnf)
                        refine code_Num_c hX e182 ?_
                        replace h := chk_some h
                        obtain ⟨c183, h⟩ := h
                        (repeat ((conv => whnf); first | refine ⟨by kernel_rfl, ?_⟩ | refine bct c180 ?_ | refine bct (strOk_brw _) ?_ | refine bct (slice_ok (f := brw) (a := 0) (sz := 1) c183 (fun _ => rfl)) ?_ | refine eqv_to (in_map (f := brw) p2 0 y165.2) ?_)); (conv => whnf)
                        refine br_some h (fun c184 g => ?_) (fun c184 g => ?_)
                        · replace h := g
                          clear g
                          (repeat ((conv => whnf); first | refine ⟨by kernel_rfl, ?_⟩ | refine bct c184 ?_)); (conv => whnf)
                          exact ret_some (f := fun y => .one (.p (.v (.bool y)))) (g := fun y => []) h hQ
                        · replace h := g
                          clear g
                          (repeat ((conv => whnf); first | refine ⟨by kernel_rfl, ?_⟩ | refine bcf c184 ?_)); (conv => whnf)
                          refine br_some h (fun c185 g => ?_) (fun c185 g => ?_)
                          · replace h := g
                            clear g
                            replace h := bnd_some h
                            obtain ⟨y186, e187, h⟩ := h
                            (repeat ((conv => whnf); first | refine ⟨by kernel_rfl, ?_⟩ | refine bct c185 ?_)); (conv => whnf)
                            refine code_Text_c hX e187 ?_
                            replace h := chk_some h
                            obtain ⟨c188, h⟩ := h
                            (repeat ((conv => whnf); first | refine ⟨by kernel_rfl, ?_⟩ | refine bct c185 ?_ | refine bct (strOk_brw _) ?_ | refine bct (slice_ok (f := brw) (a := 0) (sz := 1) c188 (fun _ => rfl)) ?_ | refine eqv_to (in_map (f := brw) p2 0 y167.2) ?_ | refine bcf c184 ?_)); (conv => whnf)
                            refine br_some h (fun c189 g => ?_) (fun c189 g => ?_)
                            · replace h := g
                              clear g
                              (repeat ((conv => whnf); first | refine ⟨by kernel_rfl, ?_⟩ | refine bct c189 ?_)); (conv => whnf)
                              exact ret_some (f := fun y => .one (.p (.v (.bool y)))) (g := fun y => []) h hQ
                            · replace h := g
                              clear g
                              (repeat ((conv => whnf); first | refine ⟨by kernel_rfl, ?_⟩ | refine bcf c189 ?_)); (conv => whnf)
                              exact tl10.h  h
                          · replace h := g
                            clear g
                            (repeat ((conv => whnf); first | refine ⟨by kernel_rfl, ?_⟩ | refine bcf c185 ?_ | refine bcf c184 ?_)); (conv => whnf)
                            exact tl10.h  h
                      · replace h := g
                        clear g
                        (repeat ((conv => whnf); first | refine ⟨by kernel_rfl, ?_⟩ | refine bcf c180 ?_)); (conv => whnf)
                        refine br_some h (fun c190 g => ?_) (fun c190 g => ?_)
                        · replace h := g
                          clear g
                          replace h := bnd_some h
                          obtain ⟨y191, e192, h⟩ := h
                          (repeat ((conv => whnf); first | refine ⟨by kernel_rfl, ?_⟩ | refine bct c190 ?_)); (conv => whnf)
                          refine code_Text_c hX e192 ?_
                          replace h := chk_some h
                          obtain ⟨c193, h⟩ := h
                          (repeat ((conv => whnf); first | refine ⟨by kernel_rfl, ?_⟩ | refine bct c190 ?_ | refine bct (strOk_brw _) ?_ | refine bct (slice_ok (f := brw) (a := 0) (sz := 1) c193 (fun _ => rfl)) ?_ | refine eqv_to (in_map (f := brw) p2 0 y167.2) ?_)); (conv => whnf)
                          refine br_some h (fun c194 g => ?_) (fun c194 g => ?_)
                          · replace h := g
                            clear g
                            (repeat ((conv => whnf); first | refine ⟨by kernel_rfl, ?_⟩ | refine bct c194 ?_)); (conv => whnf)
                            exact ret_some (f := fun y => .one (.p (.v (.bool y)))) (g := fun y => []) h hQ
                          · replace h := g
                            clear g
                            (repeat ((conv => whnf); first | refine ⟨by kernel_rfl, ?_⟩ | refine bcf c194 ?_)); (conv => whnf)
                            exact tl10.h  h
                        · replace h := g
                          clear g
                          (repeat ((conv => whnf); first | refine ⟨by kernel_rfl, ?_⟩ | refine bcf c190 ?_)); (conv => whnf)
                          exact tl10.h  h
                    · intro h
                      unfold law16_CodeBack_j10 at h
                      refine rest_intro hX ?_
                      replace h := bnd_some h
                      obtain ⟨y173, e174, h⟩ := h
                      (repeat ((conv => whnf); first | refine ⟨by kernel_rfl, ?_⟩)); (conv => whnf)
                      refine code_Seal_c hX e174 ?_
                      refine bndE_some h (fun y175 n177 e176 g => ?_) (fun y175 e176 g => ?_)
                      · replace h := g
                        clear g
                        (repeat ((conv => whnf); first | refine ⟨by kernel_rfl, ?_⟩)); (conv => whnf)
                        refine code_Open_c hX e176 ?_
                        (repeat ((conv => whnf); first | refine ⟨by kernel_rfl, ?_⟩)); (conv => whnf)
                        refine br_some h (fun c178 g => ?_) (fun c178 g => ?_)
                        · replace h := g
                          clear g
                          (repeat ((conv => whnf); first | refine ⟨by kernel_rfl, ?_⟩ | refine bct c178 ?_)); (conv => whnf)
                          exact ret_some (f := fun y => .one (.p (.v (.bool y)))) (g := fun y => []) h hQ
                        · replace h := g
                          clear g
                          (repeat ((conv => whnf); first | refine ⟨by kernel_rfl, ?_⟩ | refine bcf c178 ?_)); (conv => whnf)
                          exact ret_some (f := fun y => .one (.p (.v (.bool y)))) (g := fun y => []) h hQ
                      · replace h := g
                        clear g
                        (repeat ((conv => whnf); first | refine ⟨by kernel_rfl, ?_⟩)); (conv => whnf)
                        refine code_Open_c hX e176 ?_
                        (repeat ((conv => whnf); first | refine ⟨by kernel_rfl, ?_⟩)); (conv => whnf)
                        refine br_some h (fun c179 g => ?_) (fun c179 g => ?_)
                        · replace h := g
                          clear g
                          (repeat ((conv => whnf); first | refine ⟨by kernel_rfl, ?_⟩ | refine bct c179 ?_ | refine bct (strOk_brw _) ?_)); (conv => whnf)
                          exact ret_some (f := fun y => .one (.p (.v (.bool y)))) (g := fun y => []) h hQ
                        · replace h := g
                          clear g
                          (repeat ((conv => whnf); first | refine ⟨by kernel_rfl, ?_⟩ | refine bcf c179 ?_)); (conv => whnf)
                          exact ret_some (f := fun y => .one (.p (.v (.bool y)))) (g := fun y => []) h hQ
end
end Go.Proofs.Ytidkmoohgadjkaa
