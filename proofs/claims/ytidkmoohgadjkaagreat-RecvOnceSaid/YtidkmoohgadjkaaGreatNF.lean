/- The laws of layer 9. Written by decomp.py. Another filter; what is read; deeds. The statements LocalStarts, LocalDoes, LocalPlays, out of what their code computes. The laws of layer 10. Written by decomp.py. The statements RecvTells, RecvPlays, out of what their code computes. States that may be stay so: whatever is done, whatever comes or goes. Filters as arguments of laws. States as arguments of laws. What a replica does, and lists of it, as arguments of laws. What comes to a replica, as an argument of laws. The statement RecvOnce, out of what its code computes. The calls of the statements of layer 9. The statement LocalKeeps, out of what its code computes. -/
import Derived.Test.YtidkmoohgadjkaaGreatNE
import Derived.Test.YtidkmoohgadjkaaGreatND
set_option linter.unusedVariables false
set_option linter.unusedSimpArgs false
set_option maxRecDepth 100000
set_option maxHeartbeats 0
namespace Go.Proofs.YtidkmoohgadjkaaGreat
open Go E
noncomputable section
open Pred
def law09_up_s:Option (Bool) :=
 (bndE (local_New_s 1 (Pred.mk 1 ⟨#[]⟩ 0 0 0 ([]:List Pred))) (fun y1 n3 =>
  (bndE (local_Create_s y1 ⟨#[97]⟩ ⟨#[]⟩ 1 0 0) (fun y4 n6 =>
   (bnd (local_Read_s y4) fun y7 =>
    some false))
    (fun y4 =>
   (bnd (local_Read_s y4) fun y9 =>
    some false))))
   (fun y1 =>
  (bndE (local_Create_s y1 ⟨#[97]⟩ ⟨#[]⟩ 1 0 0) (fun y11 n13 =>
   (bnd (local_Read_s y11) fun y14 =>
    some false))
    (fun y11 =>
   (bnd (local_Read_s y11) fun y16 =>
    (br (!eqI (y16.length:Int) 1)
     (some false)
     (bnd (local_May_s y11) fun y19 =>
      (br (!y19)
       (some false)
       (bnd (atL y16 0) fun x22 =>
        (br (eqS x22.id ⟨#[97]⟩)
         (br (andB (eqI x22.vr 1) (andB (eqI x22.vc 1) true))
          (br (eqI x22.stamp 1)
           (some (eqI y11.k.star.x0 1))
           (some false))
          (some false))
         (some false)))))))))))
def law09_Do_s (p0:State) (p1:Deed9):Option (State × Int) :=
 (bnd (law00_Pick_s p1.what 4) fun y1 =>
  (br (eqI y1 0)
   (bndE (local_Create_s p0 p1.id p1.kind p1.num p1.re p1.im) (fun y4 n6 =>
    (bnd (law00_Code_s (some n6)) fun y7 =>
     some (y4,y7)))
     (fun y4 =>
    (bnd (law00_Code_s none) fun y9 =>
     some (y4,y9))))
   (br (eqI y1 1)
    (bndE (local_Update_s p0 p1.id p1.kind p1.num p1.re p1.im) (fun y12 n14 =>
     (bnd (law00_Code_s (some n14)) fun y15 =>
      some (y12,y15)))
      (fun y12 =>
     (bnd (law00_Code_s none) fun y17 =>
      some (y12,y17))))
    (br (eqI y1 2)
     (bndE (local_Delete_s p0 p1.id) (fun y20 n22 =>
      (bnd (law00_Code_s (some n22)) fun y23 =>
       some (y20,y23)))
       (fun y20 =>
      (bnd (law00_Code_s none) fun y25 =>
       some (y20,y25))))
     (bnd (law00_Pred_s p1.f) fun y27 =>
      (bndE (local_Filter_s p0 y27) (fun y29 n31 =>
       (bnd (law00_Code_s (some n31)) fun y32 =>
        some (y29,y32)))
        (fun y29 =>
       (bnd (law00_Code_s none) fun y34 =>
        some (y29,y34)))))))))
def law09_LocalKeeps_l2 (p2:ByteArray) (y1:Bool) (y8:State) (y13:State × Int) (y18:Int) (y22:Item × Bool) (y36:Item × Bool):List Item→Bool→Option (Bool)
  | [],v40 =>
  (br (!y22.2)
   (some false)
   (br (!(andB (eqI y22.1.vr y8.r) (andB (eqI y22.1.vc (wr .i64 (y8.count + 1))) true)))
    (some false)
    (br (!eqI y22.1.stamp (wr .i64 (y8.clock + 1)))
     (some false)
     (br (@Bool.rec (fun _=>Bool) (eqI y18 2) (!(eqI y18 2)) y22.1.dead)
      (some false)
      (bnd (know_Has_s y13.1.k p2 (Ver.mk y22.1.vr y22.1.vc)) fun y47 =>
       (br (!y47)
        (some false)
        (bnd (ref03_Same_s y13.1.f y8.f) fun y50 =>
         (br y1
          (br y50
           (bnd (eval_Has_s y13.1.f y22.1) fun y54 =>
            (br (@Bool.rec (fun _=>Bool) (!y54) y54 y36.2)
             (br y36.2
              (br (@Bool.rec (fun _=>Bool) (!(!y22.1.dead)) (!y22.1.dead) v40)
               (some (eqI y13.1.count (wr .i64 (y8.count + 1))))
               (some false))
              (br (@Bool.rec (fun _=>Bool) (!false) false v40)
               (some (eqI y13.1.count (wr .i64 (y8.count + 1))))
               (some false)))
             (some false)))
           (some false))
          (some false)))))))))
  | x2e::xs2,v40 =>
  (br v40
   (law09_LocalKeeps_l2 p2 y1 y8 y13 y18 y22 y36 xs2  true)
   (law09_LocalKeeps_l2 p2 y1 y8 y13 y18 y22 y36 xs2  (eqS x2e.id p2)))
def law09_LocalKeeps_j1 (p1:Deed9) (p2:ByteArray) (y1:Bool) (y8:State) (y13:State × Int):Option (Bool) :=
 (br (!eqI y13.2 0)
  (some y1)
  (bnd (law00_Pick_s p1.what 4) fun y18 =>
   (bnd (ref09_Stands_s y8 p2) fun y20 =>
    (bnd (ref09_Stands_s y13.1 p2) fun y22 =>
     (br (eqI y18 3)
      (bnd (ref06_SameList_s [y20.1] [y22.1]) fun y25 =>
       (br y1
        (br (@Bool.rec (fun _=>Bool) (!y22.2) y22.2 y20.2)
         (br y25
          (some (@Bool.rec (fun _=>Bool) (!(eqI y13.1.epoch (wr .i64 (y8.epoch + 1)))) (eqI y13.1.epoch (wr .i64 (y8.epoch + 1))) (eqI y18 3)))
          (some false))
         (some false))
        (some false)))
      (br (!eqS p2 p1.id)
       (bnd (ref06_SameList_s [y20.1] [y22.1]) fun y31 =>
        (br y1
         (br (@Bool.rec (fun _=>Bool) (!y22.2) y22.2 y20.2)
          (br y31
           (some (@Bool.rec (fun _=>Bool) (!(eqI y13.1.epoch (wr .i64 (y8.epoch + 1)))) (eqI y13.1.epoch (wr .i64 (y8.epoch + 1))) (eqI y18 3)))
           (some false))
          (some false))
         (some false)))
       (bnd (ref06_Get_s y13.1.store p2) fun y36 =>
        (bnd (local_Read_s y13.1) fun y38 =>
         (chk (smallL y38)
           ((law09_LocalKeeps_l2 p2 y1 y8 y13 y18 y22 y36) y38 false))))))))))
def law09_LocalKeeps_s (p0:Sit) (p1:Deed9) (p2:ByteArray):Option (Bool) :=
 (bnd (law09_up_s ) fun y1 =>
  (bnd (law00_Fits_s p0) fun y3 =>
   (bnd (law00_Small_s p1.f) fun y5 =>
    (br (eqI (wr .i64 (y3 * y5)) 0)
     (some y1)
     (bnd (law00_State_s p0) fun y8 =>
      (bnd (local_May_s y8) fun y10 =>
       (br (!y10)
        (some y1)
        (bnd (law09_Do_s y8 p1) fun y13 =>
         (bnd (ref09_Same_s y13.1 y8) fun y15 =>
          (bnd (local_May_s y13.1) fun y60 =>
           (br (!y60)
            (some false)
            (br (!eqI y13.2 0)
             (br (!y15)
              (some false)
              (br (eqI y13.2 0)
               (br y15
                (some false)
                (law09_LocalKeeps_j1 p1 p2 y1 y8 y13 ))
               (law09_LocalKeeps_j1 p1 p2 y1 y8 y13 )))
             (br (eqI y13.2 0)
              (br y15
               (some false)
               (law09_LocalKeeps_j1 p1 p2 y1 y8 y13 ))
              (law09_LocalKeeps_j1 p1 p2 y1 y8 y13 ))))))))))))))
variable {X:Task→Prop} (hX:Closed X) {Q:A→List Blk→Prop}
include hX
theorem law09_up_c  {r:Bool} (h:law09_up_s  = some r) (hQ:Q (.one (.p (.v (.bool r)))) []):X (.call 52 [] [] Q):=by
  have K:=fun a (e:some a=some r)=>ret_some (f:=fun y=>.one (.p (.v (.bool y)))) (g:=fun y=>[]) e hQ
  unfold law09_up_s at h
  refine call_intro hX Tryz.func52 rfl rfl ?_
  revert h
  refine bndEk (fun y1 n3 e2 h=>?_) (fun y1 e2 h=>?_)
  ·conv=>whnf
   repeat((first|refine dw ?_);conv=>whnf)
   refine call_nz hX ?_
   conv=>whnf
   refine local_New_c hX e2 ?_
   revert h
   refine bndEk (fun y4 n6 e5 h=>?_) (fun y4 e5 h=>?_)
   ·conv=>whnf
    repeat((first|refine dw ?_);conv=>whnf)
    refine local_Create_c hX e5 ?_
    revert h
    refine bndk fun y7 e8 h=>?_
    conv=>whnf
    repeat((first|refine dw ?_);conv=>whnf)
    refine local_Read_c hX e8 ?_
    conv=>whnf
    repeat((first|refine dw ?_);conv=>whnf)
    exact K _ h
   ·conv=>whnf
    repeat((first|refine dw ?_);conv=>whnf)
    refine local_Create_c hX e5 ?_
    revert h
    refine bndk fun y9 e10 h=>?_
    conv=>whnf
    repeat((first|refine dw ?_);conv=>whnf)
    refine local_Read_c hX e10 ?_
    conv=>whnf
    repeat((first|refine dw ?_);conv=>whnf)
    exact K _ h
  ·conv=>whnf
   repeat((first|refine dw ?_);conv=>whnf)
   refine call_nz hX ?_
   conv=>whnf
   refine local_New_c hX e2 ?_
   revert h
   refine bndEk (fun y11 n13 e12 h=>?_) (fun y11 e12 h=>?_)
   ·conv=>whnf
    repeat((first|refine dw ?_);conv=>whnf)
    refine local_Create_c hX e12 ?_
    revert h
    refine bndk fun y14 e15 h=>?_
    conv=>whnf
    repeat((first|refine dw ?_);conv=>whnf)
    refine local_Read_c hX e15 ?_
    conv=>whnf
    repeat((first|refine dw ?_);conv=>whnf)
    exact K _ h
   ·conv=>whnf
    repeat((first|refine dw ?_);conv=>whnf)
    refine local_Create_c hX e12 ?_
    revert h
    refine bndk fun y16 e17 h=>?_
    conv=>whnf
    repeat((first|refine dw ?_);conv=>whnf)
    refine local_Read_c hX e17 ?_
    conv=>whnf
    repeat((first|refine dw ?_|refine eqv_to (map_len _) ?_);conv=>whnf)
    revert h
    refine brk (fun c18 h=>?_) (fun c18 h=>?_)
    ·conv=>whnf
     repeat((first|refine dw ?_|refine bct c18 ?_);conv=>whnf)
     exact K _ h
    ·revert h
     refine bndk fun y19 e20 h=>?_
     conv=>whnf
     repeat((first|refine dw ?_|refine bcf c18 ?_);conv=>whnf)
     refine local_May_c hX e20 ?_
     conv=>whnf
     repeat((first|refine dw ?_|refine bcf c18 ?_);conv=>whnf)
     revert h
     refine brk (fun c21 h=>?_) (fun c21 h=>?_)
     ·conv=>whnf
      repeat((first|refine dw ?_|refine bct c21 ?_);conv=>whnf)
      exact K _ h
     ·revert h
      refine bndk fun x22 a23 h=>?_
      conv=>whnf
      repeat((first|refine dw ?_|refine bcf c21 ?_|refine bct (at_in a23) ?_|refine bct (andt (at_in a23) rfl) ?_|refine row_in (at_row a23) ?_|refine bct (andt (at_in (at_nat a23)) rfl) ?_|refine row_in (at_row (at_nat a23)) ?_);conv=>whnf)
      revert h
      refine brk (fun c24 h=>?_) (fun c24 h=>?_)
      ·conv=>whnf
       repeat((first|refine dw ?_|refine bct c24 ?_|refine bct (at_in a23) ?_|refine bct (andt (at_in a23) rfl) ?_|refine row_in (at_row a23) ?_|refine bct (andt (at_in (at_nat a23)) rfl) ?_|refine row_in (at_row (at_nat a23)) ?_);conv=>whnf)
       revert h
       refine brk (fun c25 h=>?_) (fun c25 h=>?_)
       ·conv=>whnf
        repeat((first|refine dw ?_|refine bct c25 ?_|refine bct (at_in a23) ?_|refine bct (andt (at_in a23) rfl) ?_|refine row_in (at_row a23) ?_|refine bct (andt (at_in (at_nat a23)) rfl) ?_|refine row_in (at_row (at_nat a23)) ?_);conv=>whnf)
        revert h
        refine brk (fun c26 h=>?_) (fun c26 h=>?_)
        ·conv=>whnf
         repeat((first|refine dw ?_|refine bct c26 ?_);conv=>whnf)
         exact K _ h
        ·conv=>whnf
         repeat((first|refine dw ?_|refine bcf c26 ?_);conv=>whnf)
         exact K _ h
       ·conv=>whnf
        repeat((first|refine dw ?_|refine bcf c25 ?_);conv=>whnf)
        exact K _ h
      ·conv=>whnf
       repeat((first|refine dw ?_|refine bcf c24 ?_);conv=>whnf)
       exact K _ h
theorem law09_Do_c  {p0:State} {p1:Deed9} {r:State × Int} (h:law09_Do_s p0 p1=some r) (hQ:Q (.tup [.agg (State.cs r.1),iv r.2]) []):X (.call 50 [.agg (State.cs p0),.agg [ic p1.what,.p (.v (.string p1.id)),.p (.v (.string p1.kind)),ic p1.num,.p (.v (.float .f64 p1.re)),.p (.v (.float .f64 p1.im)),ic p1.f.op,.p (.v (.string p1.f.text)),ic p1.f.n,.p (.v (.float .f64 p1.f.re)),.p (.v (.float .f64 p1.f.im)),.p (.sl (Pred.lrows p1.f.kids))]] [] Q):=by
  have K:=fun a (e:some a=some r)=>ret_some (f:=fun y=>.tup [.agg (State.cs y.1),iv y.2]) (g:=fun y=>[]) e hQ
  unfold law09_Do_s at h
  refine call_nz hX ?_
  conv=>whnf
  refine call_intro hX Tryz.func50 rfl rfl ?_
  revert h
  refine bndk fun y1 e2 h=>?_
  conv=>whnf
  repeat((first|refine dw ?_);conv=>whnf)
  refine law00_Pick_c hX e2 ?_
  conv=>whnf
  repeat((first|refine dw ?_);conv=>whnf)
  revert h
  refine brk (fun c3 h=>?_) (fun c3 h=>?_)
  ·revert h
   refine bndEk (fun y4 n6 e5 h=>?_) (fun y4 e5 h=>?_)
   ·conv=>whnf
    repeat((first|refine dw ?_|refine bct c3 ?_);conv=>whnf)
    refine local_Create_c hX e5 ?_
    revert h
    refine bndk fun y7 e8 h=>?_
    conv=>whnf
    repeat((first|refine dw ?_);conv=>whnf)
    refine law00_Code_c hX e8 ?_
    conv=>whnf
    repeat((first|refine dw ?_);conv=>whnf)
    exact K _ h
   ·conv=>whnf
    repeat((first|refine dw ?_|refine bct c3 ?_);conv=>whnf)
    refine local_Create_c hX e5 ?_
    revert h
    refine bndk fun y9 e10 h=>?_
    conv=>whnf
    repeat((first|refine dw ?_);conv=>whnf)
    refine law00_Code_c hX e10 ?_
    conv=>whnf
    repeat((first|refine dw ?_);conv=>whnf)
    exact K _ h
  ·conv=>whnf
   repeat((first|refine dw ?_|refine bcf c3 ?_);conv=>whnf)
   revert h
   refine brk (fun c11 h=>?_) (fun c11 h=>?_)
   ·revert h
    refine bndEk (fun y12 n14 e13 h=>?_) (fun y12 e13 h=>?_)
    ·conv=>whnf
     repeat((first|refine dw ?_|refine bct c11 ?_);conv=>whnf)
     refine local_Update_c hX e13 ?_
     revert h
     refine bndk fun y15 e16 h=>?_
     conv=>whnf
     repeat((first|refine dw ?_);conv=>whnf)
     refine law00_Code_c hX e16 ?_
     conv=>whnf
     repeat((first|refine dw ?_);conv=>whnf)
     exact K _ h
    ·conv=>whnf
     repeat((first|refine dw ?_|refine bct c11 ?_);conv=>whnf)
     refine local_Update_c hX e13 ?_
     revert h
     refine bndk fun y17 e18 h=>?_
     conv=>whnf
     repeat((first|refine dw ?_);conv=>whnf)
     refine law00_Code_c hX e18 ?_
     conv=>whnf
     repeat((first|refine dw ?_);conv=>whnf)
     exact K _ h
   ·conv=>whnf
    repeat((first|refine dw ?_|refine bcf c11 ?_);conv=>whnf)
    revert h
    refine brk (fun c19 h=>?_) (fun c19 h=>?_)
    ·revert h
     refine bndEk (fun y20 n22 e21 h=>?_) (fun y20 e21 h=>?_)
     ·conv=>whnf
      repeat((first|refine dw ?_|refine bct c19 ?_);conv=>whnf)
      refine local_Delete_c hX e21 ?_
      revert h
      refine bndk fun y23 e24 h=>?_
      conv=>whnf
      repeat((first|refine dw ?_);conv=>whnf)
      refine law00_Code_c hX e24 ?_
      conv=>whnf
      repeat((first|refine dw ?_);conv=>whnf)
      exact K _ h
     ·conv=>whnf
      repeat((first|refine dw ?_|refine bct c19 ?_);conv=>whnf)
      refine local_Delete_c hX e21 ?_
      revert h
      refine bndk fun y25 e26 h=>?_
      conv=>whnf
      repeat((first|refine dw ?_);conv=>whnf)
      refine law00_Code_c hX e26 ?_
      conv=>whnf
      repeat((first|refine dw ?_);conv=>whnf)
      exact K _ h
    ·revert h
     refine bndk fun y27 e28 h=>?_
     conv=>whnf
     repeat((first|refine dw ?_|refine bcf c19 ?_);conv=>whnf)
     refine law00_Pred_c hX e28 ?_
     revert h
     refine bndEk (fun y29 n31 e30 h=>?_) (fun y29 e30 h=>?_)
     ·conv=>whnf
      repeat((first|refine dw ?_);conv=>whnf)
      refine local_Filter_c hX e30 ?_
      revert h
      refine bndk fun y32 e33 h=>?_
      conv=>whnf
      repeat((first|refine dw ?_);conv=>whnf)
      refine law00_Code_c hX e33 ?_
      conv=>whnf
      repeat((first|refine dw ?_);conv=>whnf)
      exact K _ h
     ·conv=>whnf
      repeat((first|refine dw ?_);conv=>whnf)
      refine local_Filter_c hX e30 ?_
      revert h
      refine bndk fun y34 e35 h=>?_
      conv=>whnf
      repeat((first|refine dw ?_);conv=>whnf)
      refine law00_Code_c hX e35 ?_
      conv=>whnf
      repeat((first|refine dw ?_);conv=>whnf)
      exact K _ h
theorem law09_LocalKeeps_c  {p0:Sit} {p1:Deed9} {p2:ByteArray} {r:Bool} (h:law09_LocalKeeps_s p0 p1 p2=some r) (hQ:Q (.one (.p (.v (.bool r)))) []):X (.call 14 [.agg [ic p0.r,ic p0.f.op,.p (.v (.string p0.f.text)),ic p0.f.n,.p (.v (.float .f64 p0.f.re)),.p (.v (.float .f64 p0.f.im)),.p (.sl (Pred.lrows p0.f.kids)),.p (.sl (p0.store.map Item.lrow)),.p (.sl (p0.out.map Item.lrow)),ic p0.k.star.x0,ic p0.k.star.x1,ic p0.k.star.x2,ic p0.k.star.x3,ic p0.k.star.x4,ic p0.k.star.x5,ic p0.k.star.x6,ic p0.k.star.x7,.p (.sl (p0.k.l.map Frag.row)),ic p0.count,ic p0.clock,ic p0.epoch],.agg [ic p1.what,.p (.v (.string p1.id)),.p (.v (.string p1.kind)),ic p1.num,.p (.v (.float .f64 p1.re)),.p (.v (.float .f64 p1.im)),ic p1.f.op,.p (.v (.string p1.f.text)),ic p1.f.n,.p (.v (.float .f64 p1.f.re)),.p (.v (.float .f64 p1.f.im)),.p (.sl (Pred.lrows p1.f.kids))],.one (.p (.v (.string p2)))] [] Q):=by
  have K:=fun a (e:some a=some r)=>ret_some (f:=fun y=>.one (.p (.v (.bool y)))) (g:=fun y=>[]) e hQ
  unfold law09_LocalKeeps_s at h
  refine call_intro hX Tryz.func14 rfl rfl ?_
  replace h:=bnd_some h
  obtain ⟨y1,e2,h⟩:=h
  conv=>whnf
  repeat((first|refine dw ?_);conv=>whnf)
  refine law09_up_c hX e2 ?_
  replace h:=bnd_some h
  obtain ⟨y3,e4,h⟩:=h
  conv=>whnf
  repeat((first|refine dw ?_);conv=>whnf)
  refine law00_Fits_c hX e4 ?_
  replace h:=bnd_some h
  obtain ⟨y5,e6,h⟩:=h
  conv=>whnf
  repeat((first|refine dw ?_);conv=>whnf)
  refine law00_Small_c hX e6 ?_
  conv=>whnf
  repeat((first|refine dw ?_);conv=>whnf)
  refine br_some h (fun c7 g=>?_) (fun c7 g=>?_)
  ·replace h:=g
   clear g
   conv=>whnf
   repeat((first|refine dw ?_|refine bct c7 ?_);conv=>whnf)
   exact K _ h
  ·replace h:=g
   clear g
   replace h:=bnd_some h
   obtain ⟨y8,e9,h⟩:=h
   conv=>whnf
   repeat((first|refine dw ?_|refine bcf c7 ?_);conv=>whnf)
   refine law00_State_c hX e9 ?_
   replace h:=bnd_some h
   obtain ⟨y10,e11,h⟩:=h
   conv=>whnf
   repeat((first|refine dw ?_);conv=>whnf)
   refine local_May_c hX e11 ?_
   conv=>whnf
   repeat((first|refine dw ?_);conv=>whnf)
   refine br_some h (fun c12 g=>?_) (fun c12 g=>?_)
   ·replace h:=g
    clear g
    conv=>whnf
    repeat((first|refine dw ?_|refine bct c12 ?_);conv=>whnf)
    exact K _ h
   ·replace h:=g
    clear g
    replace h:=bnd_some h
    obtain ⟨y13,e14,h⟩:=h
    conv=>whnf
    repeat((first|refine dw ?_|refine bcf c12 ?_);conv=>whnf)
    refine law09_Do_c hX e14 ?_
    replace h:=bnd_some h
    obtain ⟨y15,e16,h⟩:=h
    conv=>whnf
    repeat((first|refine dw ?_);conv=>whnf)
    refine ref09_Same_c hX e16 ?_
    apply join0 (X:=X) (r:=r) (pad [(2,.one (.p (.v (.string p2)))),(1,.one (.ptr 0 0)),(2,.one (.p (.v (.bool y1)))),(0,.one (.ptr 1 0)),(0,.one (.ptr 2 0)),(0,iv y13.2)] 203) ([.box [ic p1.what,.p (.v (.string p1.id)),.p (.v (.string p1.kind)),ic p1.num,.p (.v (.float .f64 p1.re)),.p (.v (.float .f64 p1.im)),ic p1.f.op,.p (.v (.string p1.f.text)),ic p1.f.n,.p (.v (.float .f64 p1.f.re)),.p (.v (.float .f64 p1.f.im)),.p (.sl (Pred.lrows p1.f.kids))],.box (State.cs y8),.box (State.cs y13.1)])
    ·intro tl1
     replace h:=bnd_some h
     obtain ⟨y60,e61,h⟩:=h
     conv=>whnf
     repeat((first|refine dw ?_);conv=>whnf)
     refine local_May_c hX e61 ?_
     conv=>whnf
     repeat((first|refine dw ?_);conv=>whnf)
     refine br_some h (fun c62 g=>?_) (fun c62 g=>?_)
     ·replace h:=g
      clear g
      conv=>whnf
      repeat((first|refine dw ?_|refine bct c62 ?_);conv=>whnf)
      exact K _ h
     ·replace h:=g
      clear g
      conv=>whnf
      repeat((first|refine dw ?_|refine bcf c62 ?_);conv=>whnf)
      refine br_some h (fun c63 g=>?_) (fun c63 g=>?_)
      ·replace h:=g
       clear g
       conv=>whnf
       repeat((first|refine dw ?_|refine bct c63 ?_|refine bcf c62 ?_);conv=>whnf)
       refine br_some h (fun c64 g=>?_) (fun c64 g=>?_)
       ·replace h:=g
        clear g
        conv=>whnf
        repeat((first|refine dw ?_|refine bct c64 ?_);conv=>whnf)
        exact K _ h
       ·replace h:=g
        clear g
        conv=>whnf
        repeat((first|refine dw ?_|refine bcf c64 ?_);conv=>whnf)
        refine br_some h (fun c65 g=>?_) (fun c65 g=>?_)
        ·replace h:=g
         clear g
         conv=>whnf
         repeat((first|refine dw ?_|refine bct c65 ?_|refine bcf c64 ?_);conv=>whnf)
         refine br_some h (fun c66 g=>?_) (fun c66 g=>?_)
         ·replace h:=g
          clear g
          conv=>whnf
          repeat((first|refine dw ?_|refine bct c66 ?_);conv=>whnf)
          exact K _ h
         ·replace h:=g
          clear g
          conv=>whnf
          repeat((first|refine dw ?_|refine bcf c66 ?_);conv=>whnf)
          exact tl1.h  h
        ·replace h:=g
         clear g
         conv=>whnf
         repeat((first|refine dw ?_|refine bcf c65 ?_|refine bcf c64 ?_);conv=>whnf)
         exact tl1.h  h
      ·replace h:=g
       clear g
       conv=>whnf
       repeat((first|refine dw ?_|refine bcf c63 ?_|refine bcf c62 ?_);conv=>whnf)
       refine br_some h (fun c67 g=>?_) (fun c67 g=>?_)
       ·replace h:=g
        clear g
        conv=>whnf
        repeat((first|refine dw ?_|refine bct c67 ?_);conv=>whnf)
        refine br_some h (fun c68 g=>?_) (fun c68 g=>?_)
        ·replace h:=g
         clear g
         conv=>whnf
         repeat((first|refine dw ?_|refine bct c68 ?_);conv=>whnf)
         exact K _ h
        ·replace h:=g
         clear g
         conv=>whnf
         repeat((first|refine dw ?_|refine bcf c68 ?_);conv=>whnf)
         exact tl1.h  h
       ·replace h:=g
        clear g
        conv=>whnf
        repeat((first|refine dw ?_|refine bcf c67 ?_);conv=>whnf)
        exact tl1.h  h
    ·intro h
     unfold law09_LocalKeeps_j1 at h
     refine rest_intro hX ?_
     conv=>whnf
     repeat((first|refine dw ?_);conv=>whnf)
     refine br_some h (fun c17 g=>?_) (fun c17 g=>?_)
     ·replace h:=g
      clear g
      conv=>whnf
      repeat((first|refine dw ?_|refine bct c17 ?_);conv=>whnf)
      exact K _ h
     ·replace h:=g
      clear g
      replace h:=bnd_some h
      obtain ⟨y18,e19,h⟩:=h
      conv=>whnf
      repeat((first|refine dw ?_|refine bcf c17 ?_);conv=>whnf)
      refine law00_Pick_c hX e19 ?_
      replace h:=bnd_some h
      obtain ⟨y20,e21,h⟩:=h
      conv=>whnf
      repeat((first|refine dw ?_);conv=>whnf)
      refine ref09_Stands_c hX e21 ?_
      replace h:=bnd_some h
      obtain ⟨y22,e23,h⟩:=h
      conv=>whnf
      repeat((first|refine dw ?_);conv=>whnf)
      refine ref09_Stands_c hX e23 ?_
      conv=>whnf
      repeat((first|refine dw ?_);conv=>whnf)
      refine br_some h (fun c24 g=>?_) (fun c24 g=>?_)
      ·replace h:=g
       clear g
       replace h:=bnd_some h
       obtain ⟨y25,e26,h⟩:=h
       conv=>whnf
       repeat((first|refine dw ?_|refine bct c24 ?_);conv=>whnf)
       refine Or.inl ?_
       conv=>whnf
       refine ref06_SameList_c hX e26 ?_
       conv=>whnf
       repeat((first|refine dw ?_);conv=>whnf)
       refine br_some h (fun c27 g=>?_) (fun c27 g=>?_)
       ·replace h:=g
        clear g
        conv=>whnf
        repeat((first|refine dw ?_|refine bct c27 ?_);conv=>whnf)
        refine br_some h (fun c28 g=>?_) (fun c28 g=>?_)
        ·replace h:=g
         clear g
         conv=>whnf
         repeat((first|refine dw ?_|refine bct c28 ?_);conv=>whnf)
         refine br_some h (fun c29 g=>?_) (fun c29 g=>?_)
         ·replace h:=g
          clear g
          conv=>whnf
          repeat((first|refine dw ?_|refine bct c29 ?_);conv=>whnf)
          exact K _ h
         ·replace h:=g
          clear g
          conv=>whnf
          repeat((first|refine dw ?_|refine bcf c29 ?_);conv=>whnf)
          exact K _ h
        ·replace h:=g
         clear g
         conv=>whnf
         repeat((first|refine dw ?_|refine bcf c28 ?_);conv=>whnf)
         exact K _ h
       ·replace h:=g
        clear g
        conv=>whnf
        repeat((first|refine dw ?_|refine bcf c27 ?_);conv=>whnf)
        exact K _ h
      ·replace h:=g
       clear g
       conv=>whnf
       repeat((first|refine dw ?_|refine bcf c24 ?_);conv=>whnf)
       refine br_some h (fun c30 g=>?_) (fun c30 g=>?_)
       ·replace h:=g
        clear g
        replace h:=bnd_some h
        obtain ⟨y31,e32,h⟩:=h
        conv=>whnf
        repeat((first|refine dw ?_|refine bct c30 ?_);conv=>whnf)
        refine Or.inl ?_
        conv=>whnf
        refine ref06_SameList_c hX e32 ?_
        conv=>whnf
        repeat((first|refine dw ?_);conv=>whnf)
        refine br_some h (fun c33 g=>?_) (fun c33 g=>?_)
        ·replace h:=g
         clear g
         conv=>whnf
         repeat((first|refine dw ?_|refine bct c33 ?_);conv=>whnf)
         refine br_some h (fun c34 g=>?_) (fun c34 g=>?_)
         ·replace h:=g
          clear g
          conv=>whnf
          repeat((first|refine dw ?_|refine bct c34 ?_);conv=>whnf)
          refine br_some h (fun c35 g=>?_) (fun c35 g=>?_)
          ·replace h:=g
           clear g
           conv=>whnf
           repeat((first|refine dw ?_|refine bct c35 ?_);conv=>whnf)
           exact K _ h
          ·replace h:=g
           clear g
           conv=>whnf
           repeat((first|refine dw ?_|refine bcf c35 ?_);conv=>whnf)
           exact K _ h
         ·replace h:=g
          clear g
          conv=>whnf
          repeat((first|refine dw ?_|refine bcf c34 ?_);conv=>whnf)
          exact K _ h
        ·replace h:=g
         clear g
         conv=>whnf
         repeat((first|refine dw ?_|refine bcf c33 ?_);conv=>whnf)
         exact K _ h
       ·replace h:=g
        clear g
        replace h:=bnd_some h
        obtain ⟨y36,e37,h⟩:=h
        conv=>whnf
        repeat((first|refine dw ?_|refine bcf c30 ?_);conv=>whnf)
        refine ref06_Get_c hX e37 ?_
        replace h:=bnd_some h
        obtain ⟨y38,e39,h⟩:=h
        conv=>whnf
        repeat((first|refine dw ?_);conv=>whnf)
        refine local_Read_c hX e39 ?_
        replace h:=chk_some h
        obtain ⟨hs2,h⟩:=h
        conv=>whnf
        repeat((first|refine dw ?_);conv=>whnf)
        refine loop_lisx1 (fun (v41:Int) (v40:Bool)=>pad [(2,.one (.p (.v (.string p2)))),(4,.one (.p (.v (.bool y1)))),(0,.one (.ptr 0 0)),(0,.one (.ptr 1 0)),(2,iv y18),(2,.one (.ptr 2 0)),(0,.one (.p (.v (.bool y22.2)))),(2,.one (.p (.v (.bool y36.2)))),(0,.one (.p (.v (.bool v40)))),(0,.one (.p (.sl (y38.map Item.row)))),(0,iv v41)] 191) (fun (v41:Int) (v40:Bool)=>[.box (State.cs y8),.box (State.cs y13.1),.box (Item.cs y22.1)]) _ y38 (fun pre2 x2e xs2 v41 v40 hl2 hi2 h ih2=>?_) (fun v41 v40 hi2 h=>?_) false h
        ·rw [law09_LocalKeeps_l2] at h
         have am2:=at_mid hl2 hi2
         refine loop_intro hX ?_
         conv=>whnf
         repeat((first|refine dw ?_|refine eqv_to (map_len _) ?_|refine bct (lt_mid hl2 hi2) ?_);conv=>whnf)
         refine br_some h (fun c42 g=>?_) (fun c42 g=>?_)
         ·replace h:=g
          clear g
          conv=>whnf
          repeat((first|refine dw ?_|refine bct c42 ?_);conv=>whnf)
          exact ih2 _ true (wrL hs2 hl2 hi2) h
         ·replace h:=g
          clear g
          conv=>whnf
          repeat((first|refine dw ?_|refine bcf c42 ?_|refine bct (at_in am2) ?_|refine bct (andt (at_in am2) rfl) ?_|refine row_in (at_row am2) ?_|refine bct (andt (at_in (at_nat am2)) rfl) ?_|refine row_in (at_row (at_nat am2)) ?_);conv=>whnf)
          exact ih2 _ (eqS x2e.id p2) (wrL hs2 hl2 hi2) h
        ·rw [law09_LocalKeeps_l2] at h
         refine loop_intro hX ?_
         conv=>whnf
         repeat((first|refine dw ?_|refine eqv_to (map_len _) ?_|refine bcf (lt_end hi2) ?_);conv=>whnf)
         refine br_some h (fun c43 g=>?_) (fun c43 g=>?_)
         ·replace h:=g
          clear g
          conv=>whnf
          repeat((first|refine dw ?_|refine bct c43 ?_);conv=>whnf)
          exact K _ h
         ·replace h:=g
          clear g
          conv=>whnf
          repeat((first|refine dw ?_|refine bcf c43 ?_);conv=>whnf)
          refine br_some h (fun c44 g=>?_) (fun c44 g=>?_)
          ·replace h:=g
           clear g
           conv=>whnf
           repeat((first|refine dw ?_|refine bct c44 ?_);conv=>whnf)
           exact K _ h
          ·replace h:=g
           clear g
           conv=>whnf
           repeat((first|refine dw ?_|refine bcf c44 ?_);conv=>whnf)
           refine br_some h (fun c45 g=>?_) (fun c45 g=>?_)
           ·replace h:=g
            clear g
            conv=>whnf
            repeat((first|refine dw ?_|refine bct c45 ?_);conv=>whnf)
            exact K _ h
           ·replace h:=g
            clear g
            conv=>whnf
            repeat((first|refine dw ?_|refine bcf c45 ?_);conv=>whnf)
            refine br_some h (fun c46 g=>?_) (fun c46 g=>?_)
            ·replace h:=g
             clear g
             conv=>whnf
             repeat((first|refine dw ?_|refine bct c46 ?_);conv=>whnf)
             exact K _ h
            ·replace h:=g
             clear g
             replace h:=bnd_some h
             obtain ⟨y47,e48,h⟩:=h
             conv=>whnf
             repeat((first|refine dw ?_|refine bcf c46 ?_);conv=>whnf)
             refine know_Has_c hX e48 ?_
             conv=>whnf
             repeat((first|refine dw ?_|refine bcf c46 ?_);conv=>whnf)
             refine br_some h (fun c49 g=>?_) (fun c49 g=>?_)
             ·replace h:=g
              clear g
              conv=>whnf
              repeat((first|refine dw ?_|refine bct c49 ?_);conv=>whnf)
              exact K _ h
             ·replace h:=g
              clear g
              replace h:=bnd_some h
              obtain ⟨y50,e51,h⟩:=h
              conv=>whnf
              repeat((first|refine dw ?_|refine bcf c49 ?_);conv=>whnf)
              refine ref03_Same_c hX e51 ?_
              conv=>whnf
              repeat((first|refine dw ?_);conv=>whnf)
              refine br_some h (fun c52 g=>?_) (fun c52 g=>?_)
              ·replace h:=g
               clear g
               conv=>whnf
               repeat((first|refine dw ?_|refine bct c52 ?_);conv=>whnf)
               refine br_some h (fun c53 g=>?_) (fun c53 g=>?_)
               ·replace h:=g
                clear g
                replace h:=bnd_some h
                obtain ⟨y54,e55,h⟩:=h
                conv=>whnf
                repeat((first|refine dw ?_|refine bct c53 ?_);conv=>whnf)
                refine eval_Has_c hX e55 ?_
                conv=>whnf
                repeat((first|refine dw ?_|refine bct c53 ?_);conv=>whnf)
                refine br_some h (fun c56 g=>?_) (fun c56 g=>?_)
                ·replace h:=g
                 clear g
                 conv=>whnf
                 repeat((first|refine dw ?_|refine bct c56 ?_);conv=>whnf)
                 refine br_some h (fun c57 g=>?_) (fun c57 g=>?_)
                 ·replace h:=g
                  clear g
                  conv=>whnf
                  repeat((first|refine dw ?_|refine bct c57 ?_|refine bct c56 ?_);conv=>whnf)
                  refine br_some h (fun c58 g=>?_) (fun c58 g=>?_)
                  ·replace h:=g
                   clear g
                   conv=>whnf
                   repeat((first|refine dw ?_|refine bct c58 ?_);conv=>whnf)
                   exact K _ h
                  ·replace h:=g
                   clear g
                   conv=>whnf
                   repeat((first|refine dw ?_|refine bcf c58 ?_);conv=>whnf)
                   exact K _ h
                 ·replace h:=g
                  clear g
                  conv=>whnf
                  repeat((first|refine dw ?_|refine bcf c57 ?_|refine bct c56 ?_);conv=>whnf)
                  refine br_some h (fun c59 g=>?_) (fun c59 g=>?_)
                  ·replace h:=g
                   clear g
                   conv=>whnf
                   repeat((first|refine dw ?_|refine bct c59 ?_);conv=>whnf)
                   exact K _ h
                  ·replace h:=g
                   clear g
                   conv=>whnf
                   repeat((first|refine dw ?_|refine bcf c59 ?_);conv=>whnf)
                   exact K _ h
                ·replace h:=g
                 clear g
                 conv=>whnf
                 repeat((first|refine dw ?_|refine bcf c56 ?_);conv=>whnf)
                 exact K _ h
               ·replace h:=g
                clear g
                conv=>whnf
                repeat((first|refine dw ?_|refine bcf c53 ?_);conv=>whnf)
                exact K _ h
              ·replace h:=g
               clear g
               conv=>whnf
               repeat((first|refine dw ?_|refine bcf c52 ?_);conv=>whnf)
               exact K _ h
end
end Go.Proofs.YtidkmoohgadjkaaGreat
namespace Go.Proofs.YtidkmoohgadjkaaGreat
open Go E Pred
noncomputable section
open Classical
def know0:Know:=⟨zero8,[]⟩
def withAll (k:Know) (l:List Item):Know:=l.foldl (fun k i=>withK k i.id i.vr i.vc) k
def filteredV (s:State) (f:Pred):State:=⟨s.r,f,(bothV s.store s.out).filter (hasP f),(bothV s.store s.out).filter (fun x=>!hasP f x),withAll know0 (bothV s.store s.out),s.count,s.clock,s.epoch + 1⟩
def filterV (s:State) (f:Pred):State × Int :=
 if (!mayP f || (eqI s.f.op 1&&!eqI f.op 1))=true then (s,1) else if eqI s.epoch 1000000=true then (s,5) else (filteredV s f,0)
theorem both_ok {s:State} {N:Nat} (h:SOk s N):∀ i∈bothV s.store s.out,i.Ok∧mayI i=true:=fun i hi=>(mem_both hi).elim (h.is i) (h.io i)
theorem kt0:KT know0 0:=⟨Nat.le_refl _,Nat.le_refl _⟩
theorem ids0:IdsOk know0:=fun f hf=>by cases hf
theorem kt_all:∀ (l:List Item) {k:Know} {N:Nat},KT k N→KT (withAll k l) (N + l.length)
 | [],k,N,h=>h
 | i::l,k,N,h=>by have:=kt_all l (kt_with h i.id i.vr i.vc); rw [List.length_cons]; exact this.mono (by omega)
theorem ids_all:∀ (l:List Item) {k:Know},IdsOk k→(∀ i∈l,i.Ok)→IdsOk (withAll k l)
 | [],k,h,_=>h
 | i::l,k,h,hl=>ids_all l (ids_with h (hl i (List.mem_cons_self ..)).id) fun j hj=>hl j (List.mem_cons_of_mem _ hj)
theorem lfilter_l {s:State} {f:Pred} (hf:f.Ok):∀ (l:List Item) (k:Know) (a b:List Item) (N:Nat),KT k N→N + l.length≤90000→IdsOk k→(∀ i∈l,i.Ok)→a.length + l.length≤1000→b.length + l.length≤1000 →
  local_Filter_l2 s f f l k a b=some (⟨s.r,f,a++l.filter (hasP f),b++l.filter (fun x=>!hasP f x),withAll k l,s.count,s.clock,wr .i64 (s.epoch + 1)⟩,none)
 | [],k,a,b,N,_,_,_,_,_,_=>by rw [local_Filter_l2]; simp [withAll]
 | i::l,k,a,b,N,hk,hN,hi,hl,ha,hb=>by
  rw [List.length_cons] at hN ha hb
  have hx:=hl i (List.mem_cons_self ..)
  have ih:=fun a' b' h1 h2=>lfilter_l (s:=s) hf l (withK k i.id i.vr i.vc) a' b' (N + 1) (kt_with hk ..) (by omega) (ids_with hi hx.id) (fun j hj=>hl j (List.mem_cons_of_mem _ hj)) h1 h2
  rw [local_Filter_l2,bnd_of (kwith_s hk (by omega) hi hx.id),bnd_of (has_s hf hx),chk_t (roomL_of (by omega)),chk_t (roomL_of (by omega)),List.filter_cons,List.filter_cons]
  cases hp:hasP f i with
  | true=>rw [br_t rfl,ih _ _ (by rw [List.length_append]; simp; omega) (by omega)]; simp [withAll]
  | false=>rw [br_f rfl,ih _ _ (by omega) (by rw [List.length_append]; simp; omega)]; simp [withAll]
theorem lfilter {s:State} {f:Pred} {N:Nat} (h:SOk s N) (hN:N≤90000) (hf:f.Ok) (hs:f.size≤1000):local_Filter_s s f=some ((filterV s f).1,errO (filterV s f).2):=by
 have hl:=h.le
 have hlen:=both_len h
 have he:=h.ep
 have j1:local_Filter_j1 s f=some (if eqI s.epoch 1000000=true then (s,some 5) else (filteredV s f,none)):=by
  unfold local_Filter_j1
  rw [bnd_of (fresh_state h (by omega)),bnd_of (lboth_s (by omega)),bnd_of (fresh_pred fuelR (by unfold fuelR; omega) hs),chk_t (smallL_of (by omega)),le_eq he.2]
  have:=lfilter_l (s:=s) hf (bothV s.store s.out) know0 [] [] 0 kt0 (by omega) ids0 (fun i hi=>(both_ok h i hi).1) (by simp; omega) (by simp; omega)
  rw [show (⟨⟨0,0,0,0,0,0,0,0⟩,[]⟩:Know)=know0 from rfl,this,wr1 he]
  cases eqI s.epoch 1000000<;>rfl
 unfold local_Filter_s filterV
 rw [bnd_of (pmay_s hf),bnd_of (fresh_state h (by omega)),j1]
 cases mayP f with
 | false=>rfl
 | true=>cases eqI s.f.op 1 with
  | false=>cases eqI s.epoch 1000000<;>rfl
  | true=>cases eqI f.op 1 with
   | false=>rfl
   | true=>cases eqI s.epoch 1000000<;>rfl
def readV (s:State):List Item:=s.store.filter fun x=>!x.dead
theorem lread_l:∀ (l acc:List Item),acc.length + l.length≤999990→local_Read_l1 l acc=some (acc++l.filter fun x=>!x.dead)
 | [],acc,_=>by rw [local_Read_l1]; simp
 | x::l,acc,h=>by
  rw [List.length_cons] at h
  rw [local_Read_l1,chk_t (roomL_of (by omega)),List.filter_cons]
  cases x.dead with
  | true=>rw [br_f (by rfl),lread_l l _ (by omega)]; simp
  | false=>rw [br_t (by rfl),lread_l l _ (by rw [List.length_append]; simp; omega)]; simp
theorem lread {s:State} (h:s.store.length≤1000):local_Read_s s=some (readV s):=by
 unfold local_Read_s; rw [chk_t (smallL_of (by omega)),lread_l _ _ (by simp; omega)]; rfl
theorem sameList_s {l:List Item} (hn:l.length≤1000000000) (h:∀ x∈l,sameI x x=true):ref06_SameList_s l l=some true:=by
 unfold ref06_SameList_s
 rw [eqI_t.2 rfl,br_f (by rfl),chk_t (smallL_of hn)]
 have:=sameList_l l [] l l rfl rfl fun p hp=>by
  obtain ⟨i,hi⟩:=List.getElem?_of_mem hp
  rw [List.getElem?_zip_eq_some] at hi
  have e:p.1=p.2:=by have:=hi.1.symm.trans hi.2; injection this
  rw [←e]
  exact h p.1 (List.mem_of_getElem? hi.1)
 exact this
theorem same9_s {s:State} {N:Nat} (h:SOk s N) (hN:N≤90000) (hf:sameP s.f s.f=true):ref09_Same_s s s=some true:=by
 have hl:=h.le
 unfold ref09_Same_s
 rw [eqI_self,eqI_self,eqI_self,eqI_self,bnd_of (rsame_s h.f),hf,bnd_of (sameList_s (by omega) fun x hx=>sameI_real (real_may (h.is x hx).2)),bnd_of (sameList_s (by omega) fun x hx=>sameI_real (real_may (h.io x hx).2)),bnd_of (alike_s (N:=N) (by omega) h.kt.kb),alike_self]
 rfl
def pick4 (n:Int):Int:=if ltI (tmodI n 4) 0=true then wr .i64 (tmodI n 4 + 4) else tmodI n 4
theorem pick4_s (n:Int):law00_Pick_s n 4=some (pick4 n):=by
 unfold law00_Pick_s pick4
 rw [chk_t (by rfl)]
 cases ltI (tmodI n 4) 0<;>rfl
def doV (s:State) (d:Deed9):State × Int :=
 if eqI (pick4 d.what) 0=true then createV s d.id d.kind d.num d.re d.im else if eqI (pick4 d.what) 1=true then updateV s d.id d.kind d.num d.re d.im else if eqI (pick4 d.what) 2=true then deleteV s d.id else filterV s d.f
theorem code_s {n:Int} (h:0≤n∧n≤10):law00_Code_s (errO n)=some n:=by
 obtain ⟨h1,h2⟩:=h
 have:n=0∨n=1∨n=2∨n=3∨n=4∨n=5∨n=6∨n=7∨n=8∨n=9∨n=10:=by omega
 rcases this with rfl | rfl | rfl | rfl | rfl | rfl | rfl | rfl | rfl | rfl | rfl<;>rfl
theorem bndE_code {x:Option (State × Option Int)} {r:State × Int} (h:x=some (r.1,errO r.2)) (hr:0≤r.2∧r.2≤10):bndE x (fun y n=>bnd (law00_Code_s (some n)) fun c=>some (y,c)) (fun y=>bnd (law00_Code_s none) fun c=>some (y,c))=some r:=by
 have hc:=code_s hr
 rw [h]
 cases he:errO r.2 with
 | none=>rw [he] at hc; rw [bndE_n rfl,bnd_of hc]
 | some n=>rw [he] at hc; rw [bndE_e rfl,bnd_of hc]
theorem make_err (s:State) (x:Item):0≤(makeV s x).2∧(makeV s x).2≤10:=by unfold makeV; split<;>exact ⟨by simp,by simp⟩
theorem create_err (s:State) (id kind:ByteArray) (num:Int) (re im:Nat):0≤(createV s id kind num re im).2∧(createV s id kind num re im).2≤10:=by
 unfold createV
 split
 ·exact ⟨by simp,by simp⟩
 ·split
  ·split
   ·exact ⟨by simp,by simp⟩
   ·exact make_err ..
  ·split
   ·exact make_err ..
   ·exact ⟨by simp,by simp⟩
theorem update_err (s:State) (id kind:ByteArray) (num:Int) (re im:Nat):0≤(updateV s id kind num re im).2∧(updateV s id kind num re im).2≤10:=by
 unfold updateV
 split
 ·exact ⟨by simp,by simp⟩
 ·split
  ·exact ⟨by simp,by simp⟩
  ·split
   ·exact ⟨by simp,by simp⟩
   ·exact make_err ..
theorem delete_err (s:State) (id:ByteArray):0≤(deleteV s id).2∧(deleteV s id).2≤10:=by
 unfold deleteV
 split
 ·exact ⟨by simp,by simp⟩
 ·split
  ·exact ⟨by simp,by simp⟩
  ·split
   ·exact ⟨by simp,by simp⟩
   ·exact make_err ..
theorem filter_err (s:State) (f:Pred):0≤(filterV s f).2∧(filterV s f).2≤10:=by
 unfold filterV
 split
 ·exact ⟨by simp,by simp⟩
 ·split<;>exact ⟨by simp,by simp⟩
structure Deed9.Ok (d:Deed9):Prop where
 id:d.id.size≤9223372036854775807
 kind:d.kind.size≤9223372036854775807
 num : -9223372036854775808≤d.num∧d.num≤9223372036854775807
 f:d.f.Ok
theorem do_s {s:State} {d:Deed9} {N:Nat} (h:SOk s N) (hN:N≤90000) (hr:1≤s.r∧s.r≤8) (hd:d.Ok) (hs:d.f.size≤1000):law09_Do_s s d=some (doV s d):=by
 unfold law09_Do_s doV
 rw [bnd_of (pick4_s _),bndE_code (lcreate h hN hr hd.id hd.kind hd.num) (create_err ..),bndE_code (lupdate h hN hr hd.id hd.kind hd.num) (update_err ..),bndE_code (ldelete h hN hr hd.id) (delete_err ..),bnd_of (lpred_s hd.f hs),bndE_code (lfilter h hN hd.f hs) (filter_err ..)]
 simp only [br_if]
 repeat' split
 all_goals rfl
theorem may_verI {s:State} {x:Item} (hm:mayI x=true) (hr:1≤s.r∧s.r≤8) (hc:0≤s.count∧s.count < 1000) (hk:0≤s.clock∧s.clock < 1000000):mayI (verI s x)=true:=by
 unfold mayI verB at hm ⊢
 simp only [Bool.and_eq_true] at hm ⊢
 refine ⟨hm.1,⟨inN_iff.2 hr,inN_iff.2 ⟨by show 1≤s.count + 1; omega,by show s.count + 1≤1000; omega⟩⟩,⟨inN_iff.2 ⟨by show 1≤s.clock + 1; omega,by show s.clock + 1≤1000000; omega⟩,hm.2.2.1.2⟩,hm.2.2.2⟩
theorem ok_make {s:State} {x:Item} {N:Nat} (h:SOk s N) (hr:1≤s.r∧s.r≤8) (hx:x.Ok) (hm:mayI x=true) (hfull:(lk (bothV s.store s.out) x.id).isNone=true→s.store.length + s.out.length < 40):SOk (makeV s x).1 (N + 1):=by
 unfold makeV
 split
 ·exact h.mono (by omega)
 ·rename_i hn
  simp only [Bool.or_eq_true,not_or,Bool.not_eq_true,eqI_f] at hn
  have hc:=h.cn
  have hk:=h.cl
  exact ok_made h hr hx (may_verI hm hr (by omega) (by omega)) (by omega) (by omega) hfull
theorem len_parts (p:Item→Bool):∀ l:List Item,(l.filter p).length + (l.filter fun x=>!p x).length=l.length
 | []=>rfl
 | x::l=>by
  have:=len_parts p l
  rw [List.filter_cons,List.filter_cons]
  cases p x<;>simp<;>omega
theorem may_dead {y:Item} (h:mayI y=true):mayI (deadI y)=true:=by unfold mayI at *; exact h
theorem ok_filter {s:State} {f:Pred} {N:Nat} (h:SOk s N) (hf:f.Ok) (hs:f.size≤1000):SOk (filterV s f).1 (N + 41):=by
 have hl:=h.le
 have hlen:=both_len h
 have he:=h.ep
 have hb:=both_ok h
 have hr:=ris_both h.rs h.ro
 unfold filterV
 split
 ·exact h.mono (by omega)
 ·split
  ·exact h.mono (by omega)
  ·rename_i hn
   simp only [Bool.not_eq_true,eqI_f] at hn
   refine ⟨hf,hs,hr.filter _,hr.filter _,?_,?_,fun i hi=>hb i (List.mem_filter.1 hi).1,fun i hi=>hb i (List.mem_filter.1 hi).1,(kt_all _ kt0).mono (by omega),ids_all _ ids0 fun i hi=>(hb i hi).1,h.cn,h.cl,by show 0≤s.epoch + 1∧s.epoch + 1≤1000000; omega⟩
   ·show ((bothV s.store s.out).filter (hasP f)).length + ((bothV s.store s.out).filter fun x=>!hasP f x).length≤40
    have:=len_parts (hasP f) (bothV s.store s.out)
    omega
   ·intro id hid
    have hid':(lk ((bothV s.store s.out).filter (hasP f)) id).isSome=true:=hid
    show lk ((bothV s.store s.out).filter fun x=>!hasP f x) id=none
    obtain ⟨x,hx⟩:=Option.isSome_iff_exists.1 hid'
    obtain ⟨m1,m2⟩:=lk_some hx
    rw [List.mem_filter] at m1
    cases h2:lk ((bothV s.store s.out).filter fun x=>!hasP f x) id with
    | none=>rfl
    | some y =>
     obtain ⟨n1,n2⟩:=lk_some h2
     rw [List.mem_filter] at n1
     have e1:=lk_mem hr m1.1
     have e2:=lk_mem hr n1.1
     rw [m2] at e1
     rw [n2,e1] at e2
     injection e2 with e2
     rw [←e2,m1.2] at n1
     cases n1.2
theorem both_get {s:State} {N:Nat} (h:SOk s N) {id:ByteArray} {y:Item} (e:lk (bothV s.store s.out) id=some y):y.Ok∧mayI y=true∧y.id=id:=⟨(both_ok h y (lk_some e).1).1,(both_ok h y (lk_some e).1).2,(lk_some e).2⟩
end
end Go.Proofs.YtidkmoohgadjkaaGreat
namespace Go.Proofs.YtidkmoohgadjkaaGreat
open Go E Pred
noncomputable section
open Classical
def star1:Pred:=.mk 1 ⟨#[]⟩ 0 0 0 []
def itemA:Item:=⟨⟨#[97]⟩,1,1,1,⟨#[]⟩,1,0,0,false⟩
def stateA:State:=⟨1,star1,[itemA],[],⟨⟨1,0,0,0,0,0,0,0⟩,[]⟩,1,1,0⟩
theorem star_ok:star1.Ok:=by
 unfold star1 Pred.Ok
 exact ⟨by decide,by decide,by decide,by decide,by unfold Pred.Oks; trivial⟩
theorem star_size:star1.size≤1000:=by unfold star1; rw [mk_size,sizes_nil]; decide
theorem sok_new {r:Int} {f:Pred} (hf:f.Ok) (hs:f.size≤1000):SOk (newS r f) 0 :=
 ⟨hf,hs,.nil,.nil,by show 0 + 0≤40; decide,fun id h=>rfl,fun i hi=>(by cases hi),fun i hi=>(by cases hi),kt0,ids0,by show (0:Int)≤0∧(0:Int)≤1000; decide,by show (0:Int)≤0∧(0:Int)≤1000000; decide,by show (0:Int)≤0∧(0:Int)≤1000000; decide⟩
theorem createA:createV (newS 1 star1) ⟨#[97]⟩ ⟨#[]⟩ 1 0 0=(stateA,0):=by kernel_rfl
theorem mayA:mayS stateA=true:=by kernel_rfl
theorem itemA_ok:itemA.Ok:=⟨by decide,by decide,by decide,by decide,by decide,by decide⟩
theorem stb_A:StB stateA:=⟨star_ok,star_size,fun i hi=>by rw [List.mem_singleton.1 hi]; exact itemA_ok,fun i hi=>(by cases hi),by decide,by decide,⟨by decide,by decide⟩,fun f hf=>by cases hf⟩
theorem up9:law09_up_s=some true:=by
 have n1:newV 1 star1=(newS 1 star1,0):=by kernel_rfl
 have e1:=lnew_s (r:=1) star_ok star_size
 rw [n1] at e1
 have e2:=lcreate (s:=newS 1 star1) (id:=⟨#[97]⟩) (kind:=⟨#[]⟩) (num:=1) (re:=0) (im:=0) (N:=0) (sok_new star_ok star_size) (by decide) (by decide) (by decide) (by decide) (by decide)
 rw [createA] at e2
 have e3:local_Read_s stateA=some [itemA]:=by rw [lread (by decide)]; rfl
 unfold law09_up_s
 rw [show (Pred.mk 1 ⟨#[]⟩ 0 0 0 [])=star1 from rfl,bndE_n e1,bndE_n e2,bnd_of e3,br_f (by rfl),bnd_of (lmay9_s stb_A),mayA,br_f (by rfl),bnd_of (show atL [itemA] 0=some itemA from rfl)]
 rfl
theorem mul01 {a b:Int} (ha:a=0∨a=1) (hb:b=0∨b=1):eqI (wr .i64 (a * b)) 0=true∨(a=1∧b=1):=by
 rcases ha with rfl | rfl
 ·left; rw [Int.zero_mul]; rfl
 ·rcases hb with rfl | rfl
  ·left; rfl
  ·exact .inr ⟨rfl,rfl⟩
theorem small_s {f:Pred} (h:f.Ok):∃ b,law00_Small_s f=some b∧(b=0∨(b=1∧f.size≤60)):=by
 by_cases hs:f.size≤60
 ·exact ⟨1,lsmall_t h hs,.inr ⟨rfl,hs⟩⟩
 ·exact ⟨0,lsmall_f h hs,.inl rfl⟩
theorem may_pf {f:Pred} (h:mayP f=true):sameP f f=true:=sameP_refl (mayP_iff.1 h).2.2
end
end Go.Proofs.YtidkmoohgadjkaaGreat
set_option maxHeartbeats 0
namespace Go.Proofs.YtidkmoohgadjkaaGreat
open Go E
noncomputable section
open Pred
def law10_up_s:Option (Bool) :=
 (bndE (local_New_s 1 (Pred.mk 2 ⟨#[]⟩ 0 0 0 ([]:List Pred))) (fun y1 n3 =>
  (bndE (recv_Item_s y1 (Item.mk ⟨#[97]⟩ 2 1 5 ⟨#[]⟩ 0 0 0 false)) (fun y4 n6 =>
   some false)
    (fun y4 =>
   some false)))
   (fun y1 =>
  (bndE (recv_Item_s y1 (Item.mk ⟨#[97]⟩ 2 1 5 ⟨#[]⟩ 0 0 0 false)) (fun y7 n9 =>
   some false)
    (fun y7 =>
   (br (eqI (wr .i64 ((y7.store.length:Int) + (y7.out.length:Int))) 0)
    (bnd (know_Has_s y7.k ⟨#[97]⟩ (Ver.mk 2 1)) fun y11 =>
     (br y11
      (some (eqI y7.clock 5))
      (some false)))
    (some false))))))
def law10_RecvOnce_j1 (p3:ByteArray) (y1:Bool) (y6:State) (y8:Item) (y13:State):Option (Bool) :=
 (bnd (ref09_Stands_s y6 p3) fun y63 =>
  (bnd (ref09_Stands_s y13 p3) fun y65 =>
   (bnd (ref06_SameList_s [y63.1] [y65.1]) fun y67 =>
    (br y1
     (br (eqS p3 y8.id)
      (some true)
      (br (@Bool.rec (fun _=>Bool) (!y65.2) y65.2 y63.2)
       (some y67)
       (some false)))
     (some false)))))
def law10_RecvOnce_s (p0:Sit) (p1:Item) (p2:Ver) (p3:ByteArray):Option (Bool) :=
 (bnd (law10_up_s ) fun y1 =>
  (bnd (law00_Fits_s p0) fun y3 =>
   (br (eqI y3 0)
    (some y1)
    (bnd (law00_State_s p0) fun y6 =>
     (bnd (law00_Item_s p1) fun y8 =>
      (bnd (local_May_s y6) fun y10 =>
       (br (!y10)
        (some y1)
        (bndE (recv_Item_s y6 y8) (fun y13 n15 =>
         (bnd (ref09_Same_s y13 y6) fun y16 =>
          (br y1
           (some y16)
           (some false))))
          (fun y13 =>
         (bnd (local_May_s y13) fun y19 =>
          (br (!y19)
           (some false)
           (bnd (know_Has_s y13.k y8.id (Ver.mk y8.vr y8.vc)) fun y22 =>
            (br (!y22)
             (some false)
             (bndE (recv_Item_s y13 y8) (fun y25 n27 =>
              (bnd (recv_Goes_s y13 y8.id (Ver.mk y8.vr y8.vc) p2) fun y28 =>
               (bndE (recv_Item_s y28 y8) (fun y30 n32 =>
                (bnd (ref09_Same_s y25 y13) fun y33 =>
                 (bnd (ref09_Same_s y30 y28) fun y35 =>
                  some false)))
                 (fun y30 =>
                (bnd (ref09_Same_s y25 y13) fun y37 =>
                 (bnd (ref09_Same_s y30 y28) fun y39 =>
                  some false))))))
               (fun y25 =>
              (bnd (recv_Goes_s y13 y8.id (Ver.mk y8.vr y8.vc) p2) fun y41 =>
               (bndE (recv_Item_s y41 y8) (fun y43 n45 =>
                (bnd (ref09_Same_s y25 y13) fun y46 =>
                 (bnd (ref09_Same_s y43 y41) fun y48 =>
                  some false)))
                 (fun y43 =>
                (bnd (ref09_Same_s y25 y13) fun y50 =>
                 (bnd (ref09_Same_s y43 y41) fun y52 =>
                  (br (!y50)
                   (some false)
                   (br (!y52)
                    (some false)
                    (bnd (local_May_s y41) fun y56 =>
                     (br (!y56)
                      (some false)
                      (bnd (ref09_Stands_s y13 y8.id) fun y59 =>
                       (bnd (know_Has_s y6.k y8.id (Ver.mk y8.vr y8.vc)) fun y61 =>
                        (br (!y61)
                         (br y59.2
                          (bnd (ref01_Behind_s y8 y59.1) fun y74 =>
                           (br y74
                            (some false)
                            (law10_RecvOnce_j1 p3 y1 y6 y8 y13 )))
                          (law10_RecvOnce_j1 p3 y1 y6 y8 y13 ))
                         (law10_RecvOnce_j1 p3 y1 y6 y8 y13 ))))))))))))))))))))))))))))
variable {X:Task→Prop} (hX:Closed X) {Q:A→List Blk→Prop}
include hX
theorem law10_up_c  {r:Bool} (h:law10_up_s  = some r) (hQ:Q (.one (.p (.v (.bool r)))) []):X (.call 31 [] [] Q):=by
  have K:=fun a (e:some a=some r)=>ret_some (f:=fun y=>.one (.p (.v (.bool y)))) (g:=fun y=>[]) e hQ
  unfold law10_up_s at h
  refine call_intro hX Tryz.func31 rfl rfl ?_
  revert h
  refine bndEk (fun y1 n3 e2 h=>?_) (fun y1 e2 h=>?_)
  ·conv=>whnf
   repeat((first|refine dw ?_);conv=>whnf)
   refine call_nz hX ?_
   conv=>whnf
   refine local_New_c hX e2 ?_
   revert h
   refine bndEk (fun y4 n6 e5 h=>?_) (fun y4 e5 h=>?_)
   ·conv=>whnf
    repeat((first|refine dw ?_);conv=>whnf)
    refine recv_Item_c hX e5 ?_
    conv=>whnf
    repeat((first|refine dw ?_);conv=>whnf)
    exact K _ h
   ·conv=>whnf
    repeat((first|refine dw ?_);conv=>whnf)
    refine recv_Item_c hX e5 ?_
    conv=>whnf
    repeat((first|refine dw ?_);conv=>whnf)
    exact K _ h
  ·conv=>whnf
   repeat((first|refine dw ?_);conv=>whnf)
   refine call_nz hX ?_
   conv=>whnf
   refine local_New_c hX e2 ?_
   revert h
   refine bndEk (fun y7 n9 e8 h=>?_) (fun y7 e8 h=>?_)
   ·conv=>whnf
    repeat((first|refine dw ?_);conv=>whnf)
    refine recv_Item_c hX e8 ?_
    conv=>whnf
    repeat((first|refine dw ?_);conv=>whnf)
    exact K _ h
   ·conv=>whnf
    repeat((first|refine dw ?_);conv=>whnf)
    refine recv_Item_c hX e8 ?_
    conv=>whnf
    repeat((first|refine dw ?_|refine eqv_to (map_len _) ?_);conv=>whnf)
    revert h
    refine brk (fun c10 h=>?_) (fun c10 h=>?_)
    ·revert h
     refine bndk fun y11 e12 h=>?_
     conv=>whnf
     repeat((first|refine dw ?_|refine bct c10 ?_);conv=>whnf)
     refine know_Has_c hX e12 ?_
     conv=>whnf
     repeat((first|refine dw ?_|refine bct c10 ?_);conv=>whnf)
     revert h
     refine brk (fun c13 h=>?_) (fun c13 h=>?_)
     ·conv=>whnf
      repeat((first|refine dw ?_|refine bct c13 ?_);conv=>whnf)
      exact K _ h
     ·conv=>whnf
      repeat((first|refine dw ?_|refine bcf c13 ?_);conv=>whnf)
      exact K _ h
    ·conv=>whnf
     repeat((first|refine dw ?_|refine bcf c10 ?_);conv=>whnf)
     exact K _ h
theorem law10_RecvOnce_c  {p0:Sit} {p1:Item} {p2:Ver} {p3:ByteArray} {r:Bool} (h:law10_RecvOnce_s p0 p1 p2 p3=some r) (hQ:Q (.one (.p (.v (.bool r)))) []):X (.call 7 [.agg [ic p0.r,ic p0.f.op,.p (.v (.string p0.f.text)),ic p0.f.n,.p (.v (.float .f64 p0.f.re)),.p (.v (.float .f64 p0.f.im)),.p (.sl (Pred.lrows p0.f.kids)),.p (.sl (p0.store.map Item.lrow)),.p (.sl (p0.out.map Item.lrow)),ic p0.k.star.x0,ic p0.k.star.x1,ic p0.k.star.x2,ic p0.k.star.x3,ic p0.k.star.x4,ic p0.k.star.x5,ic p0.k.star.x6,ic p0.k.star.x7,.p (.sl (p0.k.l.map Frag.row)),ic p0.count,ic p0.clock,ic p0.epoch],.agg [.p (.v (.string p1.id)),ic p1.vr,ic p1.vc,ic p1.stamp,.p (.v (.string p1.kind)),ic p1.num,.p (.v (.float .f64 p1.re)),.p (.v (.float .f64 p1.im)),.p (.v (.bool p1.dead))],.agg (Ver.cs p2),.one (.p (.v (.string p3)))] [] Q):=by
  have K:=fun a (e:some a=some r)=>ret_some (f:=fun y=>.one (.p (.v (.bool y)))) (g:=fun y=>[]) e hQ
  unfold law10_RecvOnce_s at h
  refine call_intro hX Tryz.func7 rfl rfl ?_
  replace h:=bnd_some h
  obtain ⟨y1,e2,h⟩:=h
  conv=>whnf
  repeat((first|refine dw ?_);conv=>whnf)
  refine law10_up_c hX e2 ?_
  replace h:=bnd_some h
  obtain ⟨y3,e4,h⟩:=h
  conv=>whnf
  repeat((first|refine dw ?_);conv=>whnf)
  refine law00_Fits_c hX e4 ?_
  conv=>whnf
  repeat((first|refine dw ?_);conv=>whnf)
  refine br_some h (fun c5 g=>?_) (fun c5 g=>?_)
  ·replace h:=g
   clear g
   conv=>whnf
   repeat((first|refine dw ?_|refine bct c5 ?_);conv=>whnf)
   exact K _ h
  ·replace h:=g
   clear g
   replace h:=bnd_some h
   obtain ⟨y6,e7,h⟩:=h
   conv=>whnf
   repeat((first|refine dw ?_|refine bcf c5 ?_);conv=>whnf)
   refine law00_State_c hX e7 ?_
   replace h:=bnd_some h
   obtain ⟨y8,e9,h⟩:=h
   conv=>whnf
   repeat((first|refine dw ?_);conv=>whnf)
   refine law00_Item_c hX e9 ?_
   replace h:=bnd_some h
   obtain ⟨y10,e11,h⟩:=h
   conv=>whnf
   repeat((first|refine dw ?_);conv=>whnf)
   refine local_May_c hX e11 ?_
   conv=>whnf
   repeat((first|refine dw ?_);conv=>whnf)
   refine br_some h (fun c12 g=>?_) (fun c12 g=>?_)
   ·replace h:=g
    clear g
    conv=>whnf
    repeat((first|refine dw ?_|refine bct c12 ?_);conv=>whnf)
    exact K _ h
   ·replace h:=g
    clear g
    refine bndE_some h (fun y13 n15 e14 g=>?_) (fun y13 e14 g=>?_)
    ·replace h:=g
     clear g
     conv=>whnf
     repeat((first|refine dw ?_|refine bcf c12 ?_);conv=>whnf)
     refine recv_Item_c hX e14 ?_
     replace h:=bnd_some h
     obtain ⟨y16,e17,h⟩:=h
     conv=>whnf
     repeat((first|refine dw ?_);conv=>whnf)
     refine ref09_Same_c hX e17 ?_
     conv=>whnf
     repeat((first|refine dw ?_);conv=>whnf)
     refine br_some h (fun c18 g=>?_) (fun c18 g=>?_)
     ·replace h:=g
      clear g
      conv=>whnf
      repeat((first|refine dw ?_|refine bct c18 ?_);conv=>whnf)
      exact K _ h
     ·replace h:=g
      clear g
      conv=>whnf
      repeat((first|refine dw ?_|refine bcf c18 ?_);conv=>whnf)
      exact K _ h
    ·replace h:=g
     clear g
     conv=>whnf
     repeat((first|refine dw ?_|refine bcf c12 ?_);conv=>whnf)
     refine recv_Item_c hX e14 ?_
     replace h:=bnd_some h
     obtain ⟨y19,e20,h⟩:=h
     conv=>whnf
     repeat((first|refine dw ?_);conv=>whnf)
     refine local_May_c hX e20 ?_
     conv=>whnf
     repeat((first|refine dw ?_);conv=>whnf)
     refine br_some h (fun c21 g=>?_) (fun c21 g=>?_)
     ·replace h:=g
      clear g
      conv=>whnf
      repeat((first|refine dw ?_|refine bct c21 ?_);conv=>whnf)
      exact K _ h
     ·replace h:=g
      clear g
      replace h:=bnd_some h
      obtain ⟨y22,e23,h⟩:=h
      conv=>whnf
      repeat((first|refine dw ?_|refine bcf c21 ?_);conv=>whnf)
      refine know_Has_c hX e23 ?_
      conv=>whnf
      repeat((first|refine dw ?_|refine bcf c21 ?_);conv=>whnf)
      refine br_some h (fun c24 g=>?_) (fun c24 g=>?_)
      ·replace h:=g
       clear g
       conv=>whnf
       repeat((first|refine dw ?_|refine bct c24 ?_);conv=>whnf)
       exact K _ h
      ·replace h:=g
       clear g
       refine bndE_some h (fun y25 n27 e26 g=>?_) (fun y25 e26 g=>?_)
       ·replace h:=g
        clear g
        conv=>whnf
        repeat((first|refine dw ?_|refine bcf c24 ?_);conv=>whnf)
        refine recv_Item_c hX e26 ?_
        replace h:=bnd_some h
        obtain ⟨y28,e29,h⟩:=h
        conv=>whnf
        repeat((first|refine dw ?_);conv=>whnf)
        refine recv_Goes_c hX e29 ?_
        refine bndE_some h (fun y30 n32 e31 g=>?_) (fun y30 e31 g=>?_)
        ·replace h:=g
         clear g
         conv=>whnf
         repeat((first|refine dw ?_);conv=>whnf)
         refine recv_Item_c hX e31 ?_
         replace h:=bnd_some h
         obtain ⟨y33,e34,h⟩:=h
         conv=>whnf
         repeat((first|refine dw ?_);conv=>whnf)
         refine ref09_Same_c hX e34 ?_
         replace h:=bnd_some h
         obtain ⟨y35,e36,h⟩:=h
         conv=>whnf
         repeat((first|refine dw ?_);conv=>whnf)
         refine ref09_Same_c hX e36 ?_
         conv=>whnf
         repeat((first|refine dw ?_);conv=>whnf)
         exact K _ h
        ·replace h:=g
         clear g
         conv=>whnf
         repeat((first|refine dw ?_);conv=>whnf)
         refine recv_Item_c hX e31 ?_
         replace h:=bnd_some h
         obtain ⟨y37,e38,h⟩:=h
         conv=>whnf
         repeat((first|refine dw ?_);conv=>whnf)
         refine ref09_Same_c hX e38 ?_
         replace h:=bnd_some h
         obtain ⟨y39,e40,h⟩:=h
         conv=>whnf
         repeat((first|refine dw ?_);conv=>whnf)
         refine ref09_Same_c hX e40 ?_
         conv=>whnf
         repeat((first|refine dw ?_);conv=>whnf)
         exact K _ h
       ·replace h:=g
        clear g
        conv=>whnf
        repeat((first|refine dw ?_|refine bcf c24 ?_);conv=>whnf)
        refine recv_Item_c hX e26 ?_
        replace h:=bnd_some h
        obtain ⟨y41,e42,h⟩:=h
        conv=>whnf
        repeat((first|refine dw ?_);conv=>whnf)
        refine recv_Goes_c hX e42 ?_
        refine bndE_some h (fun y43 n45 e44 g=>?_) (fun y43 e44 g=>?_)
        ·replace h:=g
         clear g
         conv=>whnf
         repeat((first|refine dw ?_);conv=>whnf)
         refine recv_Item_c hX e44 ?_
         replace h:=bnd_some h
         obtain ⟨y46,e47,h⟩:=h
         conv=>whnf
         repeat((first|refine dw ?_);conv=>whnf)
         refine ref09_Same_c hX e47 ?_
         replace h:=bnd_some h
         obtain ⟨y48,e49,h⟩:=h
         conv=>whnf
         repeat((first|refine dw ?_);conv=>whnf)
         refine ref09_Same_c hX e49 ?_
         conv=>whnf
         repeat((first|refine dw ?_);conv=>whnf)
         exact K _ h
        ·replace h:=g
         clear g
         conv=>whnf
         repeat((first|refine dw ?_);conv=>whnf)
         refine recv_Item_c hX e44 ?_
         replace h:=bnd_some h
         obtain ⟨y50,e51,h⟩:=h
         conv=>whnf
         repeat((first|refine dw ?_);conv=>whnf)
         refine ref09_Same_c hX e51 ?_
         replace h:=bnd_some h
         obtain ⟨y52,e53,h⟩:=h
         conv=>whnf
         repeat((first|refine dw ?_);conv=>whnf)
         refine ref09_Same_c hX e53 ?_
         conv=>whnf
         repeat((first|refine dw ?_);conv=>whnf)
         refine br_some h (fun c54 g=>?_) (fun c54 g=>?_)
         ·replace h:=g
          clear g
          conv=>whnf
          repeat((first|refine dw ?_|refine bct c54 ?_);conv=>whnf)
          exact K _ h
         ·replace h:=g
          clear g
          conv=>whnf
          repeat((first|refine dw ?_|refine bcf c54 ?_);conv=>whnf)
          refine br_some h (fun c55 g=>?_) (fun c55 g=>?_)
          ·replace h:=g
           clear g
           conv=>whnf
           repeat((first|refine dw ?_|refine bct c55 ?_);conv=>whnf)
           exact K _ h
          ·replace h:=g
           clear g
           replace h:=bnd_some h
           obtain ⟨y56,e57,h⟩:=h
           conv=>whnf
           repeat((first|refine dw ?_|refine bcf c55 ?_);conv=>whnf)
           refine local_May_c hX e57 ?_
           conv=>whnf
           repeat((first|refine dw ?_|refine bcf c55 ?_);conv=>whnf)
           refine br_some h (fun c58 g=>?_) (fun c58 g=>?_)
           ·replace h:=g
            clear g
            conv=>whnf
            repeat((first|refine dw ?_|refine bct c58 ?_);conv=>whnf)
            exact K _ h
           ·replace h:=g
            clear g
            replace h:=bnd_some h
            obtain ⟨y59,e60,h⟩:=h
            conv=>whnf
            repeat((first|refine dw ?_|refine bcf c58 ?_);conv=>whnf)
            refine ref09_Stands_c hX e60 ?_
            replace h:=bnd_some h
            obtain ⟨y61,e62,h⟩:=h
            conv=>whnf
            repeat((first|refine dw ?_);conv=>whnf)
            refine know_Has_c hX e62 ?_
            apply join0 (X:=X) (r:=r) (pad [(3,.one (.p (.v (.string p3)))),(5,.one (.p (.v (.bool y1)))),(0,.one (.ptr 0 0)),(0,.one (.ptr 1 0)),(0,.one (.ptr 2 0))] 158) ([.box (State.cs y6),.box (Item.cs y8),.box (State.cs y13)])
            ·intro tl1
             conv=>whnf
             repeat((first|refine dw ?_);conv=>whnf)
             refine br_some h (fun c72 g=>?_) (fun c72 g=>?_)
             ·replace h:=g
              clear g
              conv=>whnf
              repeat((first|refine dw ?_|refine bct c72 ?_);conv=>whnf)
              refine br_some h (fun c73 g=>?_) (fun c73 g=>?_)
              ·replace h:=g
               clear g
               replace h:=bnd_some h
               obtain ⟨y74,e75,h⟩:=h
               conv=>whnf
               repeat((first|refine dw ?_|refine bct c73 ?_);conv=>whnf)
               refine ref01_Behind_c hX e75 ?_
               conv=>whnf
               repeat((first|refine dw ?_|refine bct c73 ?_);conv=>whnf)
               refine br_some h (fun c76 g=>?_) (fun c76 g=>?_)
               ·replace h:=g
                clear g
                conv=>whnf
                repeat((first|refine dw ?_|refine bct c76 ?_);conv=>whnf)
                exact K _ h
               ·replace h:=g
                clear g
                conv=>whnf
                repeat((first|refine dw ?_|refine bcf c76 ?_);conv=>whnf)
                exact tl1.h  h
              ·replace h:=g
               clear g
               conv=>whnf
               repeat((first|refine dw ?_|refine bcf c73 ?_);conv=>whnf)
               exact tl1.h  h
             ·replace h:=g
              clear g
              conv=>whnf
              repeat((first|refine dw ?_|refine bcf c72 ?_);conv=>whnf)
              exact tl1.h  h
            ·intro h
             unfold law10_RecvOnce_j1 at h
             refine rest_intro hX ?_
             replace h:=bnd_some h
             obtain ⟨y63,e64,h⟩:=h
             conv=>whnf
             repeat((first|refine dw ?_);conv=>whnf)
             refine ref09_Stands_c hX e64 ?_
             replace h:=bnd_some h
             obtain ⟨y65,e66,h⟩:=h
             conv=>whnf
             repeat((first|refine dw ?_);conv=>whnf)
             refine ref09_Stands_c hX e66 ?_
             replace h:=bnd_some h
             obtain ⟨y67,e68,h⟩:=h
             conv=>whnf
             repeat((first|refine dw ?_);conv=>whnf)
             refine Or.inl ?_
             conv=>whnf
             refine ref06_SameList_c hX e68 ?_
             conv=>whnf
             repeat((first|refine dw ?_);conv=>whnf)
             refine br_some h (fun c69 g=>?_) (fun c69 g=>?_)
             ·replace h:=g
              clear g
              conv=>whnf
              repeat((first|refine dw ?_|refine bct c69 ?_);conv=>whnf)
              refine br_some h (fun c70 g=>?_) (fun c70 g=>?_)
              ·replace h:=g
               clear g
               conv=>whnf
               repeat((first|refine dw ?_|refine bct c70 ?_|refine bct c69 ?_);conv=>whnf)
               exact K _ h
              ·replace h:=g
               clear g
               conv=>whnf
               repeat((first|refine dw ?_|refine bcf c70 ?_);conv=>whnf)
               refine br_some h (fun c71 g=>?_) (fun c71 g=>?_)
               ·replace h:=g
                clear g
                conv=>whnf
                repeat((first|refine dw ?_|refine bct c71 ?_|refine bcf c70 ?_|refine bct c69 ?_);conv=>whnf)
                exact K _ h
               ·replace h:=g
                clear g
                conv=>whnf
                repeat((first|refine dw ?_|refine bcf c71 ?_|refine bcf c70 ?_|refine bct c69 ?_);conv=>whnf)
                exact K _ h
             ·replace h:=g
              clear g
              conv=>whnf
              repeat((first|refine dw ?_|refine bcf c69 ?_);conv=>whnf)
              exact K _ h
end
end Go.Proofs.YtidkmoohgadjkaaGreat
namespace Go.Proofs.YtidkmoohgadjkaaGreat
open Go E Pred
noncomputable section
open Classical
def none2:Pred:=.mk 2 ⟨#[]⟩ 0 0 0 []
def itemB:Item:=⟨⟨#[97]⟩,2,1,5,⟨#[]⟩,0,0,0,false⟩
def stateB:State:=⟨1,none2,[],[],⟨zero8,[⟨[⟨#[97]⟩],⟨0,1,0,0,0,0,0,0⟩⟩]⟩,0,5,0⟩
theorem none_ok:none2.Ok:=by
 unfold none2 Pred.Ok
 exact ⟨by decide,by decide,by decide,by decide,by unfold Pred.Oks; trivial⟩
theorem none_size:none2.size≤1000:=by unfold none2; rw [mk_size,sizes_nil]; decide
theorem itemB_ok:itemB.Ok:=⟨by decide,by decide,by decide,by decide,by decide,by decide⟩
theorem recvB:itemV (newS 1 none2) itemB=(stateB,0):=by kernel_rfl
theorem up10:law10_up_s=some true:=by
 have n1:newV 1 none2=(newS 1 none2,0):=by kernel_rfl
 have e1:=lnew_s (r:=1) none_ok none_size
 rw [n1] at e1
 have e2:=recv_item (s:=newS 1 none2) (x:=itemB) (N:=0) (sok_new none_ok none_size) (by decide) itemB_ok
 rw [recvB] at e2
 have e3:know_Has_s stateB.k ⟨#[97]⟩ ⟨2,1⟩=some true:=by
  rw [khas_s (N:=1) (by decide) ⟨by decide,fun f hf=>by rw [List.mem_singleton.1 hf]; decide⟩]
  have:hasK stateB.k ⟨#[97]⟩ 2 1=true:=by kernel_rfl
  rw [this]
 unfold law10_up_s
 rw [show (Pred.mk 2 ⟨#[]⟩ 0 0 0 [])=none2 from rfl,show (⟨⟨#[97]⟩,2,1,5,⟨#[]⟩,0,0,0,false⟩:Item)=itemB from rfl,bndE_n e1,bndE_n e2,br_t (by rfl),bnd_of e3]
 rfl
theorem item_f (s:State) (x:Item):(itemV s x).1.f=s.f:=by
 unfold itemV
 repeat' split
 all_goals rfl
theorem item_r (s:State) (x:Item):(itemV s x).1.r=s.r:=by
 unfold itemV
 repeat' split
 all_goals rfl
theorem goes_f (s:State) (id:ByteArray) (a b c d:Int):(goesV s id a b c d).f=s.f:=by unfold goesV; split<;>rfl
theorem goes_r (s:State) (id:ByteArray) (a b c d:Int):(goesV s id a b c d).r=s.r:=by unfold goesV; split<;>rfl
structure Deed10.Ok (d:Deed10):Prop where
 x:d.x.Ok
 d:d.d.Ok
end
end Go.Proofs.YtidkmoohgadjkaaGreat
namespace Go.Proofs.YtidkmoohgadjkaaGreat
open Go E Pred
noncomputable section
open Classical
structure VBd (v:V8) (b:Int→Int):Prop where
 lo:∀ q,0≤v.at q
 hi:∀ q,v.at q≤b q
structure KBd (k:Know) (b:Int→Int):Prop where
 s:VBd k.star b
 v:∀ f∈k.l,VBd f.vec b
 i:∀ f∈k.l, ∀ x∈f.ids,lettersB x 1=true
theorem at_maxq (a c:V8) (q:Int):(maxV a c).at q=maxI (a.at q) (c.at q):=by
 rcases r8 q with h' | rfl | rfl | rfl | rfl | rfl | rfl | rfl | rfl
 ·have e:∀ v:V8,v.at q=0:=fun v=>by unfold V8.at; repeat (rw [if_neg (by omega)])
  rw [e,e,e]; rfl
 all_goals rfl
theorem vbd_max {a c:V8} {b:Int→Int} (ha:VBd a b) (hc:VBd c b):VBd (maxV a c) b:=by
 constructor
 ·intro q
  have h1:=ha.lo q
  have h2:=hc.lo q
  rw [at_maxq]; unfold maxI; split<;>omega
 ·intro q
  have h1:=ha.hi q
  have h2:=hc.hi q
  rw [at_maxq]; unfold maxI; split<;>omega
theorem vbd_zero {b:Int→Int} (h:∀ q,0≤b q):VBd zero8 b:=⟨fun q=>by rw [at_zero]; omega,fun q=>by rw [at_zero]; exact h q⟩
theorem vbd_cut {a:V8} {b:Int→Int} (ha:VBd a b) (s:V8):VBd (cutV a s) b:=by
 constructor
 ·intro q
  have h1:=ha.lo q
  rw [at_cut]; unfold cutI; split<;>omega
 ·intro q
  have h0:=ha.lo q
  have h1:=ha.hi q
  rw [at_cut]; unfold cutI; split<;>omega
theorem vbd_sum {id:ByteArray} {b:Int→Int}:∀ (l:List Frag) (v:V8),VBd v b→(∀ f∈l,VBd f.vec b)→VBd (sumV id l v) b
 | [],v,h,_=>h
 | f::l,v,h,hl=>by
  unfold sumV
  rw [List.foldl_cons]
  refine vbd_sum l _ ?_ fun g hg=>hl g (List.mem_cons_of_mem _ hg)
  split
  ·exact vbd_max h (hl f (List.mem_cons_self ..))
  ·exact h
theorem KBd.nn {k:Know} {b:Int→Int} (h:KBd k b) (q:Int):0≤b q:=by have:=h.s.lo q; have:=h.s.hi q; omega
theorem vbd_beyond {k:Know} {b:Int→Int} (h:KBd k b) (id:ByteArray):VBd (beyondV k id) b:=vbd_cut (vbd_sum _ _ (vbd_zero h.nn) h.v) _
theorem addF_vec {P:V8→Prop} {id:ByteArray} {v:V8} (hv:P v):∀ {l:List Frag},(∀ f∈l,P f.vec)→∀ f∈addF id v l,P f.vec
 | [],_,f,hf=>by rw [addF,List.mem_singleton] at hf; rw [hf]; exact hv
 | g::l,h,f,hf=>by
  rw [addF] at hf
  have hg:=h g (List.mem_cons_self ..)
  split at hf
  ·rcases List.mem_cons.1 hf with rfl | hf
   ·exact hg
   ·exact h f (List.mem_cons_of_mem _ hf)
  ·rcases List.mem_cons.1 hf with rfl | hf
   ·exact hg
   ·exact addF_vec hv (l:=l) (fun x hx=>h x (List.mem_cons_of_mem _ hx)) f hf
theorem fold_vec {P:V8→Prop} {k:Know} (hv:∀ id,P (beyondV k id)):∀ (names:List ByteArray) (out:List Frag),(∀ f∈out,P f.vec)→∀ f∈names.foldl (stepP k) out,P f.vec
 | [],out,h=>h
 | id::names,out,h=>by
  rw [List.foldl_cons]
  refine fold_vec hv names _ ?_
  unfold stepP
  split
  ·exact h
  ·exact addF_vec (hv id) h
theorem kbd_plain {k:Know} {b:Int→Int} (h:KBd k b):KBd (plainK k) b:=by
 refine ⟨h.s,fold_vec (P:=fun v=>VBd v b) (k:=k) (fun id=>vbd_beyond h id) (namesK k) [] (fun f hf=>by cases hf),fun f hf x hx=>?_⟩
 have hp:=(pieces_plain k).of_ f hf x hx
 have:x∈namesK k:=Classical.byContradiction fun hn=>hp.2 (by rw [←hp.1,beyond_none hn])
 obtain ⟨g,hg,hz⟩:=namesK_mem.1 this
 exact h.i g hg x hz
theorem vbd_with {v:V8} {b:Int→Int} {r c:Int} (h:VBd v b) (hr:1≤r∧r≤8) (hc:c≤b r):VBd (withV v r c) b:=by
 constructor
 ·intro q
  have h1:=h.lo q
  have h2:=h.lo r
  rw [at_with _ _ _ _ hr]; unfold maxI; split
  ·split<;>omega
  ·exact h1
 ·intro q
  have h1:=h.hi q
  have h2:=h.hi r
  rw [at_with _ _ _ _ hr]; unfold maxI; split
  ·rename_i e; subst e; split<;>omega
  ·exact h1
theorem kbd_with {k:Know} {b:Int→Int} {id:ByteArray} {r c:Int} (h:KBd k b) (hr:1≤r∧r≤8) (hc:c≤b r) (hid:lettersB id 1=true):KBd (withK k id r c) b:=by
 refine kbd_plain ⟨h.s,fun f hf=>?_,fun f hf x hx=>?_⟩
 ·rcases List.mem_append.1 hf with hf | hf
  ·exact h.v f hf
  ·rw [List.mem_singleton.1 hf]; exact vbd_with (vbd_zero h.nn) hr hc
 ·rcases List.mem_append.1 hf with hf | hf
  ·exact h.i f hf x hx
  ·rw [List.mem_singleton.1 hf] at hx
   rw [List.mem_singleton.1 hx]; exact hid
theorem kbd_own {k:Know} {b:Int→Int} {id:ByteArray} {r c:Int} (h:KBd k b) (hr:1≤r∧r≤8) (hc:c≤b r) (hid:lettersB id 1=true):KBd (ownK k id r c) b:=by
 unfold ownK
 split
 ·exact kbd_plain ⟨vbd_with h.s hr hc,h.v,h.i⟩
 ·exact kbd_with h hr hc hid
theorem plain_with (k:Know) (id:ByteArray) (r c:Int):plainK (withK k id r c)=withK k id r c:=plain_plain _
theorem plain_own (k:Know) (id:ByteArray) (r c:Int):plainK (ownK k id r c)=ownK k id r c:=by
 unfold ownK
 split<;>exact plain_plain _
theorem KBd.mono {k:Know} {b d:Int→Int} (h:KBd k b) (hb:∀ q,b q≤d q):KBd k d :=
 ⟨⟨h.s.lo,fun q=>Int.le_trans (h.s.hi q) (hb q)⟩,fun f hf=>⟨(h.v f hf).lo,fun q=>Int.le_trans ((h.v f hf).hi q) (hb q)⟩,h.i⟩
def bq (r n:Int) (q:Int):Int:=if q=r then n else 1000
theorem mayV_at {v:V8}:mayV v=true↔∀ q,0≤v.at q∧v.at q≤1000:=by
 unfold mayV
 rw [decide_eq_true_eq]
 constructor
 ·intro h q
  rcases r8 q with h' | rfl | rfl | rfl | rfl | rfl | rfl | rfl | rfl
  ·have e:v.at q=0:=by unfold V8.at; repeat (rw [if_neg (by omega)])
   rw [e]; exact ⟨by omega,by omega⟩
  ·exact h.1
  ·exact h.2.1
  ·exact h.2.2.1
  ·exact h.2.2.2.1
  ·exact h.2.2.2.2.1
  ·exact h.2.2.2.2.2.1
  ·exact h.2.2.2.2.2.2.1
  ·exact h.2.2.2.2.2.2.2
 ·intro h
  exact ⟨h 1,h 2,h 3,h 4,h 5,h 6,h 7,h 8⟩
theorem kbd_of {k:Know} {r n:Int} (h:mayK k=true) (hb:beyondB k r n=false):KBd k (bq r n):=by
 obtain ⟨-, h2,h3⟩:=mayK_iff.1 h
 unfold beyondB at hb
 rw [Bool.or_eq_false_iff,ltI_f,List.any_eq_false] at hb
 have key:∀ v:V8,mayV v=true→v.at r≤n→VBd v (bq r n):=fun v hv hn=>by
  have:=mayV_at.1 hv
  refine ⟨fun q=>(this q).1,fun q=>?_⟩
  unfold bq
  split
  ·rename_i e; rw [e]; exact hn
  ·exact (this q).2
 have f0:∀ f∈k.l,mayV f.vec=true∧(f.ids.all fun x=>lettersB x 1)=true:=fun f hf=>by
  have:=h3 f hf
  unfold mayF at this
  rwa [Bool.and_eq_true] at this
 exact ⟨key _ h2 (by omega),fun f hf=>key _ (f0 f hf).1 (by have:=hb.2 f hf; rw [ltI_t] at this; omega),fun f hf x hx=>List.all_eq_true.1 (f0 f hf).2 x hx⟩
theorem of_kbd {k:Know} {r n:Int} (hn:n≤1000) (hp:plainK k=k) (h:KBd k (bq r n)):mayK k=true∧beyondB k r n=false:=by
 have key:∀ v:V8,VBd v (bq r n)→mayV v=true∧v.at r≤n:=fun v hv=>by
  constructor
  ·refine mayV_at.2 fun q=>⟨hv.lo q,?_⟩
   have:=hv.hi q
   unfold bq at this
   split at this<;>omega
  ·have:=hv.hi r
   unfold bq at this
   rwa [if_pos rfl] at this
 constructor
 ·refine mayK_iff.2 ⟨hp,(key _ h.s).1,fun f hf=>?_⟩
  unfold mayF
  rw [(key _ (h.v f hf)).1,Bool.true_and]
  exact List.all_eq_true.2 fun x hx=>h.i f hf x hx
 ·unfold beyondB
  rw [Bool.or_eq_false_iff,ltI_f,List.any_eq_false]
  refine ⟨by have:=(key _ h.s).2; omega,fun f hf=>?_⟩
  rw [ltI_t]
  have:=(key _ (h.v f hf)).2
  omega
theorem has_bd {k:Know} {b:Int→Int} (h:KBd k b) {id:ByteArray} {r c:Int} (hk:hasK k id r c=true):c≤b r:=by
 have key:∀ v:V8,VBd v b→hasV v r c=true→c≤b r:=fun v hv hh=>by
  unfold hasV at hh
  rw [decide_eq_true_eq] at hh
  have:=hv.hi r
  omega
 unfold hasK at hk
 rw [Bool.or_eq_true,List.any_eq_true] at hk
 rcases hk with hk | ⟨f,hf,hk⟩
 ·exact key _ h.s hk
 ·unfold hasF at hk
  rw [Bool.and_eq_true] at hk
  exact key _ (h.v f hf) hk.2
theorem has_with_self {k:Know} {id:ByteArray} {r c:Int} (hr:1≤r∧r≤8) (hc:1≤c):hasK (withK k id r c) id r c=true:=by
 rw [hasK_with,eqS_self,has_with,decide_eq_true (show 1≤r∧r≤8∧1≤c from ⟨hr.1,hr.2,hc⟩)]
 simp
theorem has_with_old {k:Know} {id id':ByteArray} {r c r' c':Int} (h:hasK k id' r' c'=true):hasK (withK k id r c) id' r' c'=true:=by rw [hasK_with,h]; rfl
theorem mayI_parts {x:Item} (h:mayI x=true):lettersB x.id 1=true∧(1≤x.vr∧x.vr≤8)∧(1≤x.vc∧x.vc≤1000)∧(1≤x.stamp∧x.stamp≤1000000):=by
 unfold mayI verB at h
 simp only [Bool.and_eq_true,inN_iff] at h
 exact ⟨h.1.1,h.2.1.1,h.2.1.2,h.2.2.1.1⟩
def StI (x:State) (b:Bool) (i:Item):Prop:=hasP x.f i=b∧hasK x.k i.id i.vr i.vc=true∧i.stamp≤x.clock
theorem stood_iff {x:State} {l:List Item} {b:Bool}:stoodB x l b=true↔∀ i∈l,StI x b i:=by
 unfold stoodB
 rw [List.all_eq_true]
 constructor
 ·intro h i hi
  have:=h i hi
  rw [Bool.and_eq_true,Bool.and_eq_true,leI_t,beq_iff_eq] at this
  exact this
 ·intro h i hi
  obtain ⟨h1,h2,h3⟩:=h i hi
  rw [Bool.and_eq_true,Bool.and_eq_true,leI_t,beq_iff_eq]
  exact ⟨h1,h2,h3⟩
structure MOk (x:State) (N:Nat):Prop where
 ok:SOk x N
 p:mayP x.f=true
 r:1≤x.r∧x.r≤8
 pl:plainK x.k=x.k
 kb:KBd x.k (bq x.r x.count)
 i:∀ y∈x.store,StI x true y
 o:∀ y∈x.out,StI x false y
theorem MOk.may {x:State} {N:Nat} (h:MOk x N):mayS x=true:=by
 have hk:=of_kbd h.ok.cn.2 h.pl h.kb
 exact mayS_iff.2 ⟨h.p,may_of h.ok.rs fun y hy=>(h.ok.is y hy).2,may_of h.ok.ro fun y hy=>(h.ok.io y hy).2,hk.1,h.r,h.ok.le,h.ok.cn,h.ok.cl,h.ok.ep,h.ok.dj,stood_iff.2 h.i,stood_iff.2 h.o,hk.2⟩
theorem mok_of {x:State} {N:Nat} (h:SOk x N) (hm:mayS x=true):MOk x N:=by
 obtain ⟨a,b,c,d,e,f,g,i,j,k,l,m,n⟩:=mayS_iff.1 hm
 exact ⟨h,a,e,mayK_plain d,kbd_of d n,stood_iff.1 l,stood_iff.1 m⟩
theorem mok_item {s:State} {x:Item} {N:Nat} (h:MOk s N) (hx:x.Ok):MOk (itemV s x).1 (N + 1):=by
 have ho:=ok_item h.ok hx
 have hp:mayP (itemV s x).1.f=true:=by rw [item_f]; exact h.p
 have hr:1≤(itemV s x).1.r∧(itemV s x).1.r≤8:=by rw [item_r]; exact h.r
 unfold itemV at ho hp hr ⊢
 by_cases hb:badB s x=true
 ·rw [if_pos hb] at ho hp hr ⊢; exact ⟨ho,hp,hr,h.pl,h.kb,h.i,h.o⟩
 ·rw [if_neg hb] at ho hp hr ⊢
  have hb':badB s x=false:=by simpa using hb
  unfold badB at hb'
  rw [Bool.or_eq_false_iff] at hb'
  have hm:mayI x=true:=by simpa using hb'.1
  obtain ⟨m1,m2,m3,m4⟩:=mayI_parts hm
  have hc:x.vc≤bq s.r s.count x.vr:=by
   unfold bq
   split
   ·rename_i e
    have:=hb'.2
    rw [eqI_t.2 e,Bool.true_and,ltI_f] at this
    omega
   ·exact m3.2
  by_cases hk:hasK s.k x.id x.vr x.vc=true
  ·rw [if_pos hk] at ho hp hr ⊢; exact ⟨ho,hp,hr,h.pl,h.kb,h.i,h.o⟩
  ·rw [if_neg hk] at ho hp hr ⊢
   by_cases hf:fullB s x=true
   ·rw [if_pos hf] at ho hp hr ⊢; exact ⟨ho,hp,hr,h.pl,h.kb,h.i,h.o⟩
   ·rw [if_neg hf] at ho hp hr ⊢
    have old:∀ (t:State) (b:Bool) (y:Item),t.f=s.f→t.k=withK s.k x.id x.vr x.vc→t.clock=maxI s.clock x.stamp→StI s b y→StI t b y:=fun t b y e1 e2 e3 hy=>by
     obtain ⟨y1,y2,y3⟩:=hy
     refine ⟨by rw [e1]; exact y1,by rw [e2]; exact has_with_old y2,?_⟩
     rw [e3]; unfold maxI; split<;>omega
    by_cases hn:newB s x=true
    ·rw [if_pos hn] at ho hp hr ⊢
     refine ⟨ho,hp,hr,plain_with .., kbd_with h.kb m2 hc m1,fun y hy=>?_,fun y hy=>old _ _ _ rfl rfl rfl (h.o y (mem_drop hy))⟩
     have hy':y∈(if hasP s.f x=true then putV (dropV s.store x.id) x else dropV s.store x.id):=hy
     split at hy'
     ·rename_i hh
      rcases mem_put hy' with rfl | hy'
      ·refine ⟨hh,has_with_self m2 m3.1,?_⟩
       show y.stamp≤maxI s.clock y.stamp
       unfold maxI; split<;>omega
      ·exact old _ _ _ rfl rfl rfl (h.i y (mem_drop hy'))
     ·exact old _ _ _ rfl rfl rfl (h.i y (mem_drop hy'))
    ·rw [if_neg hn] at ho hp hr ⊢
     exact ⟨ho,hp,hr,plain_with .., kbd_with h.kb m2 hc m1,fun y hy=>old _ _ _ rfl rfl rfl (h.i y hy),fun y hy=>old _ _ _ rfl rfl rfl (h.o y hy)⟩
theorem mok_goes {s:State} {id:ByteArray} {or oc nr nc:Int} {N:Nat} (h:MOk s N) (hid:id.size≤9223372036854775807):MOk (goesV s id or oc nr nc) (N + 1):=by
 have ho:=ok_goes (or:=or) (oc:=oc) (nr:=nr) (nc:=nc) h.ok hid
 by_cases hg:goneB s id or oc=true
 ·unfold goesV at ho ⊢
  rw [if_pos hg] at ho ⊢
  have hid1:lettersB id 1=true:=by
   unfold goneB at hg
   cases hl:lk s.store id with
   | none=>rw [hl] at hg; cases hg
   | some y=>obtain ⟨hy,rfl⟩:=lk_some hl; exact (mayI_parts (h.ok.is y hy).2).1
  have old:∀ (t:State) (b:Bool) (y:Item),t.f=s.f→(∀ i r c,hasK s.k i r c=true→hasK t.k i r c=true)→t.clock=s.clock→StI s b y→StI t b y:=fun t b y e1 e2 e3 hy=>by
   obtain ⟨y1,y2,y3⟩:=hy
   exact ⟨by rw [e1]; exact y1,e2 _ _ _ y2,by rw [e3]; exact y3⟩
  by_cases hv:verB nr nc=true∧(!eqI nr s.r || leI nc s.count)=true
  ·rw [if_pos hv] at ho ⊢
   have hv1:=hv.1
   unfold verB at hv1
   rw [Bool.and_eq_true,inN_iff,inN_iff] at hv1
   have hc:nc≤bq s.r s.count nr:=by
    unfold bq
    split
    ·rename_i e
     have:=hv.2
     rw [eqI_t.2 e,Bool.not_true,Bool.false_or,leI_t] at this
     exact this
    ·exact hv1.2.2
   exact ⟨ho,h.p,h.r,plain_with .., kbd_with h.kb hv1.1 hc hid1,fun y hy=>old _ _ _ rfl (fun _ _ _=>has_with_old) rfl (h.i y (mem_drop hy)),fun y hy=>old _ _ _ rfl (fun _ _ _=>has_with_old) rfl (h.o y hy)⟩
  ·rw [if_neg hv] at ho ⊢
   exact ⟨ho,h.p,h.r,h.pl,h.kb,fun y hy=>old _ _ _ rfl (fun _ _ _ h=>h) rfl (h.i y (mem_drop hy)),fun y hy=>old _ _ _ rfl (fun _ _ _ h=>h) rfl (h.o y hy)⟩
 ·unfold goesV at ho ⊢
  rw [if_neg hg] at ho ⊢
  exact ⟨ho,h.p,h.r,h.pl,h.kb,h.i,h.o⟩
theorem mok_make {s:State} {x:Item} {N:Nat} (h:MOk s N) (ho:SOk (makeV s x).1 (N + 1)) (hx:x.Ok) (hid:lettersB x.id 1=true):MOk (makeV s x).1 (N + 1):=by
 unfold makeV at ho ⊢
 by_cases hc:(eqI s.count 1000 || eqI s.clock 1000000)=true
 ·rw [if_pos hc] at ho ⊢
  exact ⟨ho,h.p,h.r,h.pl,h.kb,h.i,h.o⟩
 ·rw [if_neg hc] at ho ⊢
  have cn:=ho.cn
  have hb:KBd s.k (bq s.r (s.count + 1)):=h.kb.mono fun q=>by unfold bq; split<;>omega
  have hself:hasK (ownK s.k x.id s.r (s.count + 1)) x.id s.r (s.count + 1)=true:=hasK_own (by have:=h.ok.cn; omega) (has_with_self h.r (by have:=h.ok.cn; omega))
  have old:∀ (b:Bool) (y:Item),StI s b y→StI (madeV s x) b y:=fun b y hy=>by
   obtain ⟨y1,y2,y3⟩:=hy
   refine ⟨y1,hasK_own (by have:=h.ok.cn; omega) (has_with_old y2),?_⟩
   show y.stamp≤s.clock + 1
   omega
  refine ⟨ho,h.p,h.r,plain_own .., kbd_own hb h.r (by show s.count + 1≤bq s.r (s.count + 1) s.r; unfold bq; rw [if_pos rfl]; omega) hid,fun y hy=>?_,fun y hy=>?_⟩
  ·have hy':y∈(if hasP s.f (verI s x)=true then putV (dropV s.store x.id) (verI s x) else dropV s.store x.id):=hy
   split at hy'
   ·rename_i hh
    rcases mem_put hy' with rfl | hy'
    ·exact ⟨hh,hself,Int.le_refl _⟩
    ·exact old _ _ (h.i y (mem_drop hy'))
   ·exact old _ _ (h.i y (mem_drop hy'))
  ·have hy':y∈(if hasP s.f (verI s x)=true then dropV s.out x.id else putV (dropV s.out x.id) (verI s x)):=hy
   split at hy'
   ·exact old _ _ (h.o y (mem_drop hy'))
   ·rename_i hh
    rcases mem_put hy' with rfl | hy'
    ·exact ⟨by show hasP s.f (verI s x)=false; simpa using hh,hself,Int.le_refl _⟩
    ·exact old _ _ (h.o y (mem_drop hy'))
theorem all_kbd {b:Int→Int}:∀ (l:List Item) {k:Know},KBd k b→plainK k=k→(∀ i∈l,mayI i=true∧i.vc≤b i.vr)→KBd (withAll k l) b∧plainK (withAll k l)=withAll k l
 | [],k,h,hp,_=>⟨h,hp⟩
 | i::l,k,h,hp,hl=>by
  have hi:=hl i (List.mem_cons_self ..)
  have m:=mayI_parts hi.1
  exact all_kbd l (kbd_with h m.2.1 hi.2 m.1) (plain_with ..) fun j hj=>hl j (List.mem_cons_of_mem _ hj)
theorem all_old:∀ (l:List Item) {k:Know} {id:ByteArray} {r c:Int},hasK k id r c=true→hasK (withAll k l) id r c=true
 | [],_,_,_,_,h=>h
 | i::l,_,_,_,_,h=>all_old l (has_with_old h)
theorem all_has:∀ (l:List Item) (k:Know),(∀ i∈l,mayI i=true)→∀ i∈l,hasK (withAll k l) i.id i.vr i.vc=true
 | [],k,_,j,hj=>by cases hj
 | i::l,k,hl,j,hj=>by
  show hasK (withAll (withK k i.id i.vr i.vc) l) j.id j.vr j.vc=true
  rcases List.mem_cons.1 hj with e | hj
  ·have m:=mayI_parts (hl i (List.mem_cons_self ..))
   rw [e]
   exact all_old l (has_with_self m.2.1 m.2.2.1.1)
  ·exact all_has l _ (fun x hx=>hl x (List.mem_cons_of_mem _ hx)) j hj
theorem plain0:plainK know0=know0:=by kernel_rfl
theorem mok_filter {s:State} {f:Pred} {N:Nat} (h:MOk s N) (hf:f.Ok) (hs:f.size≤1000):MOk (filterV s f).1 (N + 41):=by
 have ho:=ok_filter h.ok hf hs
 unfold filterV at ho ⊢
 by_cases h1:(!mayP f || (eqI s.f.op 1&&!eqI f.op 1))=true
 ·rw [if_pos h1] at ho ⊢; exact ⟨ho,h.p,h.r,h.pl,h.kb,h.i,h.o⟩
 ·rw [if_neg h1] at ho ⊢
  by_cases h2:eqI s.epoch 1000000=true
  ·rw [if_pos h2] at ho ⊢; exact ⟨ho,h.p,h.r,h.pl,h.kb,h.i,h.o⟩
  ·rw [if_neg h2] at ho ⊢
   simp only [Bool.or_eq_true,not_or,Bool.not_eq_true',Bool.not_eq_false] at h1
   have hb:∀ i∈bothV s.store s.out,mayI i=true∧i.vc≤bq s.r s.count i.vr∧i.stamp≤s.clock:=fun i hi=>by
    refine ⟨(both_ok h.ok i hi).2,?_⟩
    rcases mem_both hi with hi | hi
    ·exact ⟨has_bd h.kb (h.i i hi).2.1,(h.i i hi).2.2⟩
    ·exact ⟨has_bd h.kb (h.o i hi).2.1,(h.o i hi).2.2⟩
   have k0:KBd know0 (bq s.r s.count):=⟨vbd_zero h.kb.nn,fun f hf=>(by cases hf),fun f hf=>by cases hf⟩
   obtain ⟨k1,k2⟩:=all_kbd (bothV s.store s.out) k0 plain0 fun i hi=>⟨(hb i hi).1,(hb i hi).2.1⟩
   have k3:=all_has (bothV s.store s.out) know0 fun i hi=>(hb i hi).1
   refine ⟨ho,h1.1,h.r,k2,k1,fun y hy=>?_,fun y hy=>?_⟩
   ·have hy:=List.mem_filter.1 hy
    exact ⟨hy.2,k3 y hy.1,(hb y hy.1).2.2⟩
   ·have hy:=List.mem_filter.1 hy
    exact ⟨by have:=hy.2; show hasP f y=false; simpa using this,k3 y hy.1,(hb y hy.1).2.2⟩
theorem mayI_id {x:Item} (h:mayI x=true):lettersB x.id 1=true:=(mayI_parts h).1
theorem MOk.mono {x:State} {N M:Nat} (h:MOk x N) (hm:N≤M):MOk x M:=⟨h.ok.mono hm,h.p,h.r,h.pl,h.kb,h.i,h.o⟩
theorem mok_do {s:State} {d:Deed9} {N:Nat} (h:MOk s N) (hd:d.Ok) (hs:d.f.size≤1000):MOk (doV s d).1 (N + 41):=by
 have hl:=h.ok.le
 have o1:(shapeI d.id d.kind d.num d.re d.im).Ok:=shape_ok hd.id hd.kind hd.num (1,1,1) (by decide)
 unfold doV
 split
 ·unfold createV
  split
  ·exact h.mono (by omega)
  ·rename_i hm
   simp only [Bool.not_eq_true',Bool.not_eq_false] at hm
   split
   ·rename_i hg
    split
    ·exact h.mono (by omega)
    ·exact (mok_make h (ok_make h.ok h.r o1 hm fun _=>by omega) o1 (mayI_id hm)).mono (by omega)
   ·rename_i y hg
    split
    ·exact (mok_make h (ok_make h.ok h.r o1 hm fun hn=>by rw [show (shapeI d.id d.kind d.num d.re d.im).id=d.id from rfl,hg] at hn; cases hn) o1 (mayI_id hm)).mono (by omega)
    ·exact h.mono (by omega)
 ·split
  ·unfold updateV
   split
   ·exact h.mono (by omega)
   ·rename_i hm
    simp only [Bool.not_eq_true',Bool.not_eq_false] at hm
    split
    ·exact h.mono (by omega)
    ·rename_i y hg
     split
     ·exact h.mono (by omega)
     ·exact (mok_make h (ok_make h.ok h.r o1 hm fun hn=>by rw [show (shapeI d.id d.kind d.num d.re d.im).id=d.id from rfl,hg] at hn; cases hn) o1 (mayI_id hm)).mono (by omega)
  ·split
   ·unfold deleteV
    split
    ·exact h.mono (by omega)
    ·split
     ·exact h.mono (by omega)
     ·rename_i y hg
      split
      ·exact h.mono (by omega)
      ·obtain ⟨hy,hm,he⟩:=both_get h.ok hg
       exact (mok_make h (ok_make (x:=deadI y) h.ok h.r ⟨hy.id,hy.kind,hy.vr,hy.vc,hy.stamp,hy.num⟩ (may_dead hm) fun hn=>by rw [show (deadI y).id=d.id from he,hg] at hn; cases hn) ⟨hy.id,hy.kind,hy.vr,hy.vc,hy.stamp,hy.num⟩ (mayI_id (may_dead hm))).mono (by omega)
   ·exact mok_filter h hd.f hs
end
end Go.Proofs.YtidkmoohgadjkaaGreat
set_option maxHeartbeats 4000000
namespace Go.Proofs.YtidkmoohgadjkaaGreat
open Go E Go.ChangeShapes Go.WideShapes Go.ChangeAt Go.RowKit
theorem cellsTree:Tryz.prog.cellsOf 25=6:=by kernel_rfl
theorem cellsTrees:Tryz.prog.cellsOf 23=1:=by kernel_rfl
abbrev nodeSh (s:Sh):Sh:=.cat (.int .i64) (.cat .str (.cat (.int .i64) (.cat (.flt .f64) (.cat (.flt .f64) (.cat (.sl s) .nil)))))
def treeSh:Nat→Sh
 | 0=>.no 6
 | 1=>nodeSh (.no 6)
 | n + 2=>nodeSh (treeSh n)
theorem tree_size:∀ n,(treeSh n).size=6
 | 0=>rfl
 | 1=>rfl
 | n + 2=>rfl
theorem node_ok {n:Nat} {s:Sh} (hs:s.size=6) (hk:ShOk Tryz.prog n 23 (.sl s)):ShOk Tryz.prog (n + 1) 25 (nodeSh s) :=
 .struct Tryz.underlying25 cellsTree (.cons rfl cellsInt (shInt n) (.cons rfl cellsStr (shStr n) (.cons rfl cellsInt (shInt n) (.cons rfl cellsFlt (shFlt n) (.cons rfl cellsFlt (shFlt n) (.cons rfl cellsTrees hk .nil))))))
theorem shTree:∀ n,ShOk Tryz.prog n 25 (treeSh n)
 | 0=>.zero
 | 1=>node_ok rfl .zero
 | n + 2=>node_ok (tree_size n) (.sl Tryz.underlying23 (by rw [tree_size]; exact cellsTree) (by rw [tree_size]; decide) (shTree n))
theorem rows_of {P:List PC→Prop} {Ok:Pred→Prop} (h:∀ r,P r→∃ p:Pred,Ok p∧r=p.lrow):∀ (l:List (List PC)),(∀ r∈l,P r)→∃ ps:List Pred,(∀ p∈ps,Ok p)∧l=ps.map Pred.lrow
 | [],_=>⟨[],by simp,rfl⟩
 | r::l,hl=>by
  obtain ⟨p,hp,rfl⟩:=h r (hl r (by simp))
  obtain ⟨ps,hps,rfl⟩:=rows_of h l fun r hr=>hl r (by simp [hr])
  exact ⟨p::ps,by simpa using ⟨hp,hps⟩,rfl⟩
theorem node_fits {s:Sh} {l:List PC} (hk:∀ r,Fits s r→∃ p:Pred,p.Ok∧r=p.lrow) (h:Fits (nodeSh s) l):∃ p:Pred,p.Ok∧l=p.lrow:=by
 obtain ⟨_,_,rfl,⟨x0,rfl,w0⟩,_,_,rfl,⟨x1,rfl,w1⟩,_,_,rfl,⟨x2,rfl,w2⟩,_,_,rfl,⟨x3,rfl,w3⟩,_,_,rfl,⟨x4,rfl,w4⟩,_,_,rfl,⟨rs,rfl,w5,w6⟩,rfl⟩:=h
 obtain ⟨ps,h1,rfl⟩:=rows_of (P:=Fits s) (Ok:=Pred.Ok) hk rs w6
 refine ⟨.mk x0 x1 x2 x3 x4 ps,?_,?_⟩
 ·unfold Pred.Ok
  exact ⟨i64_of w0,Nat.le_trans w1 (by decide),i64_of w2,by rw [List.length_map] at w5; exact Nat.le_trans w5 (by decide),Pred.Oks_of h1⟩
 ·rw [Pred.lrow_eq]; simp only [Pred.lrows_eq]; rfl
theorem tree_fits:∀ n {l:List PC},Fits (treeSh n) l→∃ p:Pred,p.Ok∧l=p.lrow
 | 0,l,h=>False.elim h
 | 1,l,h=>node_fits (s:=.no 6) (fun r h=>False.elim h) h
 | n + 2,l,h=>node_fits (fun r h=>tree_fits n h) h
section
variable {H:Type} {enc:TypeId × Value→H} {W:World} {v:Value} {d:DataW H} {ps:List MemPlace} {b0:Nat}
end
end Go.Proofs.YtidkmoohgadjkaaGreat
set_option maxHeartbeats 4000000
namespace Go.Proofs.YtidkmoohgadjkaaGreat
open Go E Go.ChangeShapes Go.WideShapes Go.ChangeAt Go.RowKit
theorem cellsSit:Tryz.prog.cellsOf 33=21:=by kernel_rfl
def sitSh (n:Nat):Sh:=.cat (.int .i64) (.cat (treeSh (n - 1)) (.cat (.sl rowSh) (.cat (.sl rowSh) (.cat knowSh (.cat (.int .i64) (.cat (.int .i64) (.cat (.int .i64) .nil)))))))
theorem sit_size (n:Nat):(sitSh n).size=21:=by unfold sitSh; simp only [Sh.size,tree_size]; rfl
theorem shSit:∀ n,ShOk Tryz.prog n 33 (sitSh n)
 | 0=>.zero
 | n + 1=>.struct Tryz.underlying33 (by rw [sit_size]; exact cellsSit) (.cons rfl cellsInt (shInt n) (.cons rfl (by rw [show n + 1 - 1=n from rfl,tree_size]; exact cellsTree) (shTree n)
   (.cons (by rw [show n + 1 - 1=n from rfl,tree_size]; rfl) cellsRows (shRows n) (.cons (by rw [show n + 1 - 1=n from rfl,tree_size]; rfl) cellsRows (shRows n) (.cons (by rw [show n + 1 - 1=n from rfl,tree_size]; rfl) cellsKnow (shKnow n)
   (.cons (by rw [show n + 1 - 1=n from rfl,tree_size]; rfl) cellsInt (shInt n) (.cons (by rw [show n + 1 - 1=n from rfl,tree_size]; rfl) cellsInt (shInt n) (.cons (by rw [show n + 1 - 1=n from rfl,tree_size]; rfl) cellsInt (shInt n) .nil))))))))
abbrev Sit.la (s:Sit):A:=.agg [ic s.r,ic s.f.op,.p (.v (.string s.f.text)),ic s.f.n,.p (.v (.float .f64 s.f.re)),.p (.v (.float .f64 s.f.im)),.p (.sl (Pred.lrows s.f.kids)),.p (.sl (s.store.map Item.lrow)),.p (.sl (s.out.map Item.lrow)),
 ic s.k.star.x0,ic s.k.star.x1,ic s.k.star.x2,ic s.k.star.x3,ic s.k.star.x4,ic s.k.star.x5,ic s.k.star.x6,ic s.k.star.x7,.p (.sl (s.k.l.map Frag.row)),ic s.count,ic s.clock,ic s.epoch]
section
variable {H:Type} {enc:TypeId × Value→H} {W:World} {v:Value} {d:DataW H} {ps:List MemPlace} {b0:Nat}
theorem arg_sit (hv:Value.okWide Tryz.prog W .any b0 33 v) (h:DataW.Trod enc Tryz.prog W 0 (fun _=>true) true 33 v d ps):∃ s:Sit,s.Ok∧VA W (zoneOf W) noLoc s.la v:=by
 obtain ⟨n,l,h1,h2⟩:=arg_agg shSit (.inl ⟨_,Tryz.underlying33⟩) hv h
 obtain ⟨_,_,rfl,⟨x0,rfl,w0⟩,_,_,rfl,hf,_,_,rfl,hs,_,_,rfl,ho,_,_,rfl,hk,_,_,rfl,⟨x1,rfl,w1⟩,_,_,rfl,⟨x2,rfl,w2⟩,_,_,rfl,⟨x3,rfl,w3⟩,rfl⟩:=h1
 obtain ⟨p,op,rfl⟩:=tree_fits _ hf
 obtain ⟨xs,hx,rfl⟩:=fits_rows hs
 obtain ⟨ys,hy,rfl⟩:=fits_rows ho
 obtain ⟨k,hi,rfl⟩:=fits_know hk
 rw [Pred.lrow_eq] at h2
 exact ⟨⟨x0,p,xs,ys,k,x1,x2,x3⟩,⟨op,hx,hy,hi⟩,h2⟩
end
end Go.Proofs.YtidkmoohgadjkaaGreat
set_option maxHeartbeats 4000000
namespace Go.Proofs.YtidkmoohgadjkaaGreat
open Go E Go.ChangeShapes Go.WideShapes Go.ChangeAt Go.RowKit
theorem cellsDeed9:Tryz.prog.cellsOf 101=12:=by kernel_rfl
def deed9Sh (n:Nat):Sh:=.cat (.int .i64) (.cat .str (.cat .str (.cat (.int .i64) (.cat (.flt .f64) (.cat (.flt .f64) (.cat (treeSh (n - 1)) .nil))))))
theorem deed9_size (n:Nat):(deed9Sh n).size=12:=by unfold deed9Sh; simp only [Sh.size,tree_size]
theorem shDeed9:∀ n,ShOk Tryz.prog n 101 (deed9Sh n)
 | 0=>.zero
 | n + 1=>.struct Tryz.underlying101 (by rw [deed9_size]; exact cellsDeed9) (.cons rfl cellsInt (shInt n) (.cons rfl cellsStr (shStr n) (.cons rfl cellsStr (shStr n) (.cons rfl cellsInt (shInt n) (.cons rfl cellsFlt (shFlt n) (.cons rfl cellsFlt (shFlt n)
   (.cons rfl (by rw [show n + 1 - 1=n from rfl,tree_size]; exact cellsTree) (shTree n) .nil)))))))
theorem fits_deed9 (n:Nat) {l:List PC} (h:Fits (deed9Sh n) l):∃ d:Deed9,d.Ok∧l=d.row:=by
 obtain ⟨_,_,rfl,⟨x0,rfl,w0⟩,_,_,rfl,⟨x1,rfl,w1⟩,_,_,rfl,⟨x2,rfl,w2⟩,_,_,rfl,⟨x3,rfl,w3⟩,_,_,rfl,⟨x4,rfl,w4⟩,_,_,rfl,⟨x5,rfl,w5⟩,_,_,rfl,hf,rfl⟩:=h
 obtain ⟨p,op,rfl⟩:=tree_fits _ hf
 rw [Pred.lrow_eq]
 exact ⟨⟨x0,x1,x2,x3,x4,x5,p⟩,⟨Nat.le_trans w1 (by decide),Nat.le_trans w2 (by decide),i64_of w3,op⟩,rfl⟩
abbrev Deed9.la (x:Deed9):A:=.agg [ic x.what,.p (.v (.string x.id)),.p (.v (.string x.kind)),ic x.num,.p (.v (.float .f64 x.re)),.p (.v (.float .f64 x.im)),ic x.f.op,.p (.v (.string x.f.text)),ic x.f.n,.p (.v (.float .f64 x.f.re)),.p (.v (.float .f64 x.f.im)),.p (.sl (Pred.lrows x.f.kids))]
section
variable {H:Type} {enc:TypeId × Value→H} {W:World} {v:Value} {d:DataW H} {ps:List MemPlace} {b0:Nat}
theorem arg_deed9 (hv:Value.okWide Tryz.prog W .any b0 101 v) (h:DataW.Trod enc Tryz.prog W 0 (fun _=>true) true 101 v d ps):∃ x:Deed9,x.Ok∧VA W (zoneOf W) noLoc x.la v:=by
 obtain ⟨n,l,h1,h2⟩:=arg_agg shDeed9 (.inl ⟨_,Tryz.underlying101⟩) hv h
 obtain ⟨x,ok,rfl⟩:=fits_deed9 n h1
 exact ⟨x,ok,h2⟩
end
end Go.Proofs.YtidkmoohgadjkaaGreat
set_option maxHeartbeats 4000000
namespace Go.Proofs.YtidkmoohgadjkaaGreat
open Go E Go.ChangeShapes Go.WideShapes Go.ChangeAt Go.RowKit
section
variable {H:Type} {enc:TypeId × Value→H} {W:World} {v:Value} {d:DataW H} {ps:List MemPlace} {b0:Nat}
end
end Go.Proofs.YtidkmoohgadjkaaGreat
namespace Go.Proofs.YtidkmoohgadjkaaGreat
open Go E Pred
noncomputable section
open Classical
theorem sameList1 (a b:Item):ref06_SameList_s [a] [b]=some (sameI a b):=by
 unfold ref06_SameList_s
 rw [show eqI (([a]:List Item).length:Int) (([b]:List Item).length:Int)=true from rfl,br_f (by rfl),chk_t (smallL_of (by show 1≤_; decide)),ref06_SameList_l1,bnd_of (show atL [b] 0=some b from rfl),bnd_of (show ref01_Same_s a b=some (sameI a b) from rfl),ref06_SameList_l1]
 cases sameI a b<;>rfl
theorem same_item0:sameI item0' item0'=true:=sameI_real ⟨by kernel_rfl,by kernel_rfl⟩
structure Took (s:State) (a:Item) (t:State):Prop where
 m:mayI a=true
 b:badB s a=false
 k:hasK t.k a.id a.vr a.vc=true
 r:t.r=s.r
 n:t.count=s.count
 f:t.f=s.f
 own:hasK s.k a.id a.vr a.vc=false→∀ y,lk (bothV t.store t.out) a.id=some y→behindB a y=false
 oth:∀ id,eqS id a.id=false→lk (bothV t.store t.out) id=lk (bothV s.store s.out) id
theorem took_of {s:State} {a:Item} {N:Nat} (h:SOk s N):(itemV s a).2=0→Took s a (itemV s a).1:=by
 unfold itemV
 by_cases hb:badB s a=true
 ·rw [if_pos hb]; intro h; cases h
 ·rw [if_neg hb]
  have hb':badB s a=false:=by simpa using hb
  have hm:mayI a=true:=by
   unfold badB at hb'
   rw [Bool.or_eq_false_iff] at hb'
   simpa using hb'.1
  obtain ⟨m1,m2,m3,m4⟩:=mayI_parts hm
  by_cases hk:hasK s.k a.id a.vr a.vc=true
  ·rw [if_pos hk]; exact fun _=>⟨hm,hb',hk,rfl,rfl,rfl,fun h=>(by rw [hk] at h; cases h),fun _ _=>rfl⟩
  ·rw [if_neg hk]
   by_cases hf:fullB s a=true
   ·rw [if_pos hf]; intro h; cases h
   ·rw [if_neg hf]
    have self:=has_with_self (k:=s.k) (id:=a.id) m2 m3.1
    by_cases hn:newB s a=true
    ·rw [if_pos hn]
     refine fun _=>⟨hm,hb',self,rfl,rfl,rfl,fun _ y hy=>?_,fun id hid=>?_⟩
     ·have hy':lk (bothV (if hasP s.f a=true then putV (dropV s.store a.id) a else dropV s.store a.id) (dropV s.out a.id)) a.id=some y:=hy
      by_cases hp:hasP s.f a=true
      ·rw [if_pos hp,lk_both (ris_put (ris_drop h.rs _) _) (ris_drop h.ro _),lk_put,if_pos (eqS_self _),lk_drop,if_pos (eqS_self _),newer_none] at hy'
       injection hy' with hy'
       rw [←hy']; exact behind_self a
      ·rw [if_neg hp,lk_both (ris_drop h.rs _) (ris_drop h.ro _),lk_drop,if_pos (eqS_self _),lk_drop,if_pos (eqS_self _),newer_none] at hy'
       cases hy'
     ·have hid':¬ eqS a.id id=true:=by rw [eqS_comm',hid]; simp
      show lk (bothV (if hasP s.f a=true then putV (dropV s.store a.id) a else dropV s.store a.id) (dropV s.out a.id)) id=_
      by_cases hp:hasP s.f a=true
      ·rw [if_pos hp,lk_both (ris_put (ris_drop h.rs _) _) (ris_drop h.ro _),lk_put,if_neg hid',lk_drop,if_neg hid',lk_drop,if_neg hid',lk_both h.rs h.ro]
      ·rw [if_neg hp,lk_both (ris_drop h.rs _) (ris_drop h.ro _),lk_drop,if_neg hid',lk_drop,if_neg hid',lk_both h.rs h.ro]
    ·rw [if_neg hn]
     refine fun _=>⟨hm,hb',self,rfl,rfl,rfl,fun _ y hy=>?_,fun _ _=>rfl⟩
     have hy':lk (bothV s.store s.out) a.id=some y:=hy
     rw [newB_s hy'] at hn
     simpa using hn
theorem err_same {s:State} {a:Item}:(itemV s a).2≠0→(itemV s a).1=s:=by
 unfold itemV
 repeat' split
 all_goals first | exact fun _=>rfl | exact fun h=>absurd rfl h
theorem item_again {s t:State} {a:Item} (hb:badB s a=false) (hr:t.r=s.r) (hn:t.count=s.count) (hk:hasK t.k a.id a.vr a.vc=true):itemV t a=(t,0):=by
 have:badB t a=false:=by unfold badB at hb ⊢; rw [hr,hn]; exact hb
 unfold itemV
 rw [this,if_neg (by simp),if_pos hk]
theorem goes_n (s:State) (id:ByteArray) (a b c d:Int):(goesV s id a b c d).count=s.count:=by unfold goesV; split<;>rfl
theorem goes_k {s:State} {id id':ByteArray} {a b c d r n:Int} (h:hasK s.k id' r n=true):hasK (goesV s id a b c d).k id' r n=true:=by
 unfold goesV
 split
 ·show hasK (if _ then _ else _) id' r n=true
  split
  ·exact has_with_old h
  ·exact h
 ·exact h
theorem errO_none {n:Int} (h:errO n=none):n=0:=by
 unfold errO at h
 split at h
 ·assumption
 ·cases h
theorem errO_some {n m:Int} (h:errO n=some m):n≠0:=by
 unfold errO at h
 split at h
 ·cases h
 ·assumption
theorem once_j1 {s t:State} {a:Item} {id:ByteArray} {N:Nat} (h:SOk s N) (ht:SOk t (N + 1)) (tk:Took s a t):law10_RecvOnce_j1 id true s a t=some true:=by
 have real:∀ {x:State} {M:Nat},SOk x M→sameI (getI id (bothV x.store x.out)).1 (getI id (bothV x.store x.out)).1=true:=fun {x M} hx=>by
  cases hg:lk (bothV x.store x.out) id with
  | none=>rw [getI_f hg]; exact same_item0
  | some y=>rw [getI_t hg]; exact sameI_real (real_may (both_ok hx y (lk_some hg).1).2)
 unfold law10_RecvOnce_j1
 rw [bnd_of (rstands h),bnd_of (rstands ht),bnd_of (sameList1 _ _),br_t rfl]
 cases he:eqS id a.id with
 | true=>rfl
 | false =>
  have e:getI id (bothV t.store t.out)=getI id (bothV s.store s.out):=by rw [getI_lk,getI_lk,tk.oth id he]
  rw [br_f rfl,e,real h]
  cases (getI id (bothV s.store s.out)).2<;>rfl
theorem recvOnce_s {s:Sit} {z:Item} {behind:Ver} {id:ByteArray} (ok:s.Ok) (hz:z.Ok):law10_RecvOnce_s s z behind id=some true:=by
 obtain ⟨a,ha,h1⟩:=fits_sit ok
 unfold law10_RecvOnce_s
 rw [bnd_of up10,bnd_of ha]
 rcases h1 with rfl | ⟨rfl,hst, -, -, -, hk⟩
 ·rfl
 ·have sb:=hst.b hk
  rw [br_f (by rfl),bnd_of (state_s ok hst),bnd_of (show law00_Item_s z=some z from rfl),bnd_of (lmay9_s sb)]
  cases hm:mayS s.st with
  | false=>rfl
  | true =>
   have so:=may_sok hm hst.f hst.store hst.out hk.kt hst.ids
   have mo:=mok_of so hm
   have mi:=mayS_iff.1 hm
   have hf:=may_pf mi.1
   have e1:=recv_item (x:=z) so (by decide) hz
   have tok:=ok_item (x:=z) so hz
   rw [br_f (by rfl)]
   cases he:errO (itemV s.st z).2 with
   | some n =>
    rw [he] at e1
    rw [bndE_e e1,err_same (errO_some he),bnd_of (same9_s so (by decide) hf)]; rfl
   | none =>
    rw [he] at e1
    have tk:=took_of so (errO_none he)
    have tm:=mok_item mo hz
    have tf:sameP (itemV s.st z).1.f (itemV s.st z).1.f=true:=by rw [item_f]; exact hf
    rw [bndE_n e1]
    generalize (itemV s.st z).1=t at *
    have g1:itemV t z=(t,0):=item_again tk.b tk.r tk.n tk.k
    have e2:=recv_item (x:=z) tok (by decide) hz
    rw [g1] at e2
    have e3:=recv_goes (id:=z.id) (o:=⟨z.vr,z.vc⟩) (n:=behind) tok (by decide) hz.id
    have wm:=mok_goes (or:=z.vr) (oc:=z.vc) (nr:=behind.r) (nc:=behind.c) tm hz.id
    have wr_:=goes_r t z.id z.vr z.vc behind.r behind.c
    have wn:=goes_n t z.id z.vr z.vc behind.r behind.c
    have wf:=goes_f t z.id z.vr z.vc behind.r behind.c
    have wk:=goes_k (id:=z.id) (a:=z.vr) (b:=z.vc) (c:=behind.r) (d:=behind.c) tk.k
    rw [bnd_of (lmay9_s (tok.stb (by decide))),tm.may,br_f (by rfl),bnd_of (khas_s (N:=3660 + 1) (by decide) tok.kt.kb),show (⟨z.vr,z.vc⟩:Ver).r=z.vr from rfl,show (⟨z.vr,z.vc⟩:Ver).c=z.vc from rfl,tk.k,br_f (by rfl),bndE_n e2,bnd_of e3]
    rw [show (⟨z.vr,z.vc⟩:Ver).r=z.vr from rfl,show (⟨z.vr,z.vc⟩:Ver).c=z.vc from rfl]
    generalize goesV t z.id z.vr z.vc behind.r behind.c=w at *
    have g2:itemV w z=(w,0):=item_again tk.b (wr_.trans tk.r) (wn.trans tk.n) wk
    have e4:=recv_item (x:=z) wm.ok (by decide) hz
    rw [g2] at e4
    rw [bndE_n e4,bnd_of (same9_s tok (by decide) tf),bnd_of (same9_s wm.ok (by decide) (by rw [wf]; exact tf)),br_f (by rfl),br_f (by rfl),bnd_of (lmay9_s (wm.ok.stb (by decide))),wm.may,br_f (by rfl),bnd_of (rstands tok),bnd_of (khas_s (N:=3660) (by decide) so.kt.kb),once_j1 so tok tk]
    cases hh:hasK s.st.k z.id z.vr z.vc with
    | true=>rfl
    | false =>
     rw [br_t (by rfl)]
     cases hg:lk (bothV t.store t.out) z.id with
     | none=>rw [getI_f hg]; rfl
     | some y =>
      rw [getI_t hg,br_t rfl,bnd_of (show ref01_Behind_s z y=some (behindB z y) from rfl),tk.own hh y hg]; rfl
theorem law_recvOnce {X:Task→Prop} (hX:Closed X) {s:Sit} {z:Item} {behind:Ver} {id:ByteArray} (ok:s.Ok) (hz:z.Ok) (h1:behind.Ok) (hid:id.size≤9223372036854775807) {Q:A→List Blk→Prop} (hQ:Q (bv true) []):X (.call 7 [s.la,z.la,behind.la,sv id] [] Q):=law10_RecvOnce_c hX (recvOnce_s ok hz) hQ
end
end Go.Proofs.YtidkmoohgadjkaaGreat
namespace Go.Proofs.YtidkmoohgadjkaaGreat
open Go E
end Go.Proofs.YtidkmoohgadjkaaGreat
namespace Go.Proofs.YtidkmoohgadjkaaGreat
open Go E Pred
noncomputable section
open Classical
theorem pick_0_3 (n:Int):pick4 n=0∨pick4 n=1∨pick4 n=2∨pick4 n=3:=by
 unfold pick4 tmodI
 have h1:=Int.tmod_lt_of_pos n (b:=4) (by decide)
 have h2:=Int.lt_tmod_of_pos n (b:=4) (by decide)
 by_cases h:ltI (n.tmod 4) 0=true
 ·rw [if_pos h]
  rw [ltI_t] at h
  rw [wr64 (by omega) (by omega)]
  omega
 ·rw [if_neg h]
  rw [ltI_t] at h
  omega
structure Made (s:State) (d:Deed9) (x:Item):Prop where
 e:(doV s d).1=madeV s x
 n:pick4 d.what≠3
 ok:x.Ok
 id:x.id=d.id
 dead:x.dead=eqI (pick4 d.what) 2
theorem make_parts {s:State} {x:Item}:((makeV s x).2≠0∧(makeV s x).1=s)∨((makeV s x).2=0∧(makeV s x).1=madeV s x):=by
 unfold makeV
 split
 ·exact .inl ⟨by simp,rfl⟩
 ·exact .inr ⟨rfl,rfl⟩
theorem do_parts {s:State} {d:Deed9} {N:Nat} (h:SOk s N) (hd:d.Ok):((doV s d).2≠0∧(doV s d).1=s)∨((doV s d).2=0∧((pick4 d.what=3∧(doV s d).1=filteredV s d.f)∨∃ x,Made s d x)):=by
 have o1:(shapeI d.id d.kind d.num d.re d.im).Ok:=shape_ok hd.id hd.kind hd.num (1,1,1) (by decide)
 by_cases p0:pick4 d.what=0
 ·have e:doV s d=createV s d.id d.kind d.num d.re d.im:=by unfold doV; rw [if_pos (eqI_t.2 p0)]
  have mk:doV s d=makeV s (shapeI d.id d.kind d.num d.re d.im)→((doV s d).2≠0∧(doV s d).1=s)∨((doV s d).2=0∧((pick4 d.what=3∧(doV s d).1=filteredV s d.f)∨∃ x,Made s d x)):=fun e2=>by
   rw [e2]
   rcases make_parts (s:=s) (x:=shapeI d.id d.kind d.num d.re d.im) with hm | hm
   ·exact .inl hm
   ·exact .inr ⟨hm.1,.inr ⟨_,by rw [e2]; exact hm.2,by omega,o1,rfl,by rw [p0]; rfl⟩⟩
  have e':=e
  unfold createV at e'
  split at e'
  ·rw [e']; exact .inl ⟨by simp,rfl⟩
  ·split at e'
   ·split at e'
    ·rw [e']; exact .inl ⟨by simp,rfl⟩
    ·exact mk e'
   ·split at e'
    ·exact mk e'
    ·rw [e']; exact .inl ⟨by simp,rfl⟩
 ·by_cases p1:pick4 d.what=1
  ·have e:doV s d=updateV s d.id d.kind d.num d.re d.im:=by unfold doV; rw [if_neg (by rw [eqI_t]; exact p0),if_pos (eqI_t.2 p1)]
   have mk:doV s d=makeV s (shapeI d.id d.kind d.num d.re d.im)→((doV s d).2≠0∧(doV s d).1=s)∨((doV s d).2=0∧((pick4 d.what=3∧(doV s d).1=filteredV s d.f)∨∃ x,Made s d x)):=fun e2=>by
    rw [e2]
    rcases make_parts (s:=s) (x:=shapeI d.id d.kind d.num d.re d.im) with hm | hm
    ·exact .inl hm
    ·exact .inr ⟨hm.1,.inr ⟨_,by rw [e2]; exact hm.2,by omega,o1,rfl,by rw [p1]; rfl⟩⟩
   have e':=e
   unfold updateV at e'
   split at e'
   ·rw [e']; exact .inl ⟨by simp,rfl⟩
   ·split at e'
    ·rw [e']; exact .inl ⟨by simp,rfl⟩
    ·split at e'
     ·rw [e']; exact .inl ⟨by simp,rfl⟩
     ·exact mk e'
  ·by_cases p2:pick4 d.what=2
   ·have e:doV s d=deleteV s d.id:=by unfold doV; rw [if_neg (by rw [eqI_t]; exact p0),if_neg (by rw [eqI_t]; exact p1),if_pos (eqI_t.2 p2)]
    have e':=e
    unfold deleteV at e'
    split at e'
    ·rw [e']; exact .inl ⟨by simp,rfl⟩
    ·split at e'
     ·rw [e']; exact .inl ⟨by simp,rfl⟩
     ·rename_i y hg
      split at e'
      ·rw [e']; exact .inl ⟨by simp,rfl⟩
      ·obtain ⟨hy,hm,he⟩:=both_get h hg
       rw [e']
       rcases make_parts (s:=s) (x:=deadI y) with hm | hm
       ·exact .inl hm
       ·exact .inr ⟨hm.1,.inr ⟨deadI y,by rw [e']; exact hm.2,by omega,⟨hy.id,hy.kind,hy.vr,hy.vc,hy.stamp,hy.num⟩,he,by rw [p2]; rfl⟩⟩
   ·have p3:pick4 d.what=3:=by have:=pick_0_3 d.what; omega
    have e:doV s d=filterV s d.f:=by unfold doV; rw [if_neg (by rw [eqI_t]; exact p0),if_neg (by rw [eqI_t]; exact p1),if_neg (by rw [eqI_t]; exact p2)]
    have e':=e
    unfold filterV at e'
    split at e'
    ·rw [e']; exact .inl ⟨by simp,rfl⟩
    ·split at e'
     ·rw [e']; exact .inl ⟨by simp,rfl⟩
     ·rw [e']; exact .inr ⟨rfl,.inl ⟨p3,rfl⟩⟩
theorem diff_s {t s:State} (h:t.count≠s.count∨t.epoch≠s.epoch):ref09_Same_s t s=some false:=by
 unfold ref09_Same_s
 by_cases h1:t.r=s.r
 ·rw [eqI_t.2 h1,br_f (by rfl)]
  by_cases h2:t.count=s.count
  ·rw [eqI_t.2 h2,br_f (by rfl)]
   by_cases h3:t.clock=s.clock
   ·rw [eqI_t.2 h3,br_f (by rfl),eqI_f.2 (by omega),br_t (by rfl)]
   ·rw [eqI_f.2 h3,br_t (by rfl)]
  ·rw [eqI_f.2 h2,br_t (by rfl)]
 ·rw [eqI_f.2 h1,br_t (by rfl)]
theorem filtered_lk {s:State} {f:Pred} {N M:Nat} (h:SOk s N) (ht:SOk (filteredV s f) M) (id:ByteArray):lk (bothV (filteredV s f).store (filteredV s f).out) id=lk (bothV s.store s.out) id:=by
 have hr:=ris_both h.rs h.ro
 rw [lk_both_dj ht]
 show (lk ((bothV s.store s.out).filter (hasP f)) id).or (lk ((bothV s.store s.out).filter fun x=>!hasP f x) id)=lk (bothV s.store s.out) id
 cases hg:lk (bothV s.store s.out) id with
 | none =>
  have hn:=lk_none.1 hg
  rw [lk_none.2 fun x hx=>hn x (List.mem_filter.1 hx).1,lk_none.2 fun x hx=>hn x (List.mem_filter.1 hx).1]; rfl
 | some y =>
  obtain ⟨hy,rfl⟩:=lk_some hg
  have uniq:∀ z,z∈bothV s.store s.out→z.id=y.id→z=y:=fun z hz e=>by
   have:=lk_mem hr hz
   rw [e,hg] at this
   injection this with this
   exact this.symm
  by_cases hp:hasP f y=true
  ·rw [lk_mem (hr.filter _) (List.mem_filter.2 ⟨hy,hp⟩)]; rfl
  ·have:lk ((bothV s.store s.out).filter (hasP f)) y.id=none:=by
    cases h2:lk ((bothV s.store s.out).filter (hasP f)) y.id with
    | none=>rfl
    | some z =>
     obtain ⟨hz,e⟩:=lk_some h2
     have hz:=List.mem_filter.1 hz
     rw [uniq z hz.1 e] at hz
     exact absurd hz.2 hp
   rw [this,lk_mem (hr.filter _) (List.mem_filter.2 ⟨hy,by simpa using hp⟩)]; rfl
theorem made_lk {s:State} {x:Item} {N:Nat} (h:SOk s N) (id:ByteArray):lk (bothV (madeV s x).store (madeV s x).out) id=if eqS x.id id=true then some (verI s x) else lk (bothV s.store s.out) id:=by
 have e1:=ris_drop h.rs x.id
 have e2:=ris_drop h.ro x.id
 show lk (bothV (if hasP s.f (verI s x)=true then putV (dropV s.store x.id) (verI s x) else dropV s.store x.id) (if hasP s.f (verI s x)=true then dropV s.out x.id else putV (dropV s.out x.id) (verI s x))) id=_
 by_cases hp:hasP s.f (verI s x)=true
 ·rw [if_pos hp,if_pos hp,lk_both (ris_put e1 _) e2,lk_put,lk_drop,lk_drop]
  rw [show (verI s x).id=x.id from rfl]
  by_cases he:eqS x.id id=true
  ·simp only [if_pos he]; exact newer_none _
  ·simp only [if_neg he]; rw [lk_both h.rs h.ro]
 ·rw [if_neg hp,if_neg hp,lk_both e1 (ris_put e2 _),lk_put,lk_drop,lk_drop]
  rw [show (verI s x).id=x.id from rfl]
  by_cases he:eqS x.id id=true
  ·simp only [if_pos he]; rfl
  ·simp only [if_neg he]; rw [lk_both h.rs h.ro]
theorem made_get {s:State} {x:Item}:lk (madeV s x).store x.id=if hasP s.f (verI s x)=true then some (verI s x) else none:=by
 show lk (if hasP s.f (verI s x)=true then putV (dropV s.store x.id) (verI s x) else dropV s.store x.id) x.id=_
 split
 ·rw [lk_put,show (verI s x).id=x.id from rfl,if_pos (eqS_self _)]
 ·rw [lk_drop,if_pos (eqS_self _)]
theorem keeps_l2 {id:ByteArray} {b:Bool} {s:State} {t:State × Int} {n:Int} {p q:Item × Bool}:∀ (l:List Item) (v:Bool),law09_LocalKeeps_l2 id b s t n p q l v=law09_LocalKeeps_l2 id b s t n p q [] (v || l.any fun x=>eqS x.id id)
 | [],v=>by simp
 | x::l,v=>by
  have e:law09_LocalKeeps_l2 id b s t n p q (x::l) v=br v (law09_LocalKeeps_l2 id b s t n p q l true) (law09_LocalKeeps_l2 id b s t n p q l (eqS x.id id)):=by rw [law09_LocalKeeps_l2]
  rw [e,keeps_l2 l,keeps_l2 l,List.any_cons]
  cases v with
  | true=>rw [br_t rfl,Bool.true_or,Bool.true_or]
  | false=>rw [br_f rfl,Bool.false_or]
theorem made_seen {s:State} {x:Item} {M:Nat} (ht:SOk (madeV s x) M):((readV (madeV s x)).any fun y=>eqS y.id x.id)=(hasP s.f (verI s x)&&!x.dead):=by
 have hg:=made_get (s:=s) (x:=x)
 unfold readV
 cases hh:(hasP s.f (verI s x)&&!x.dead) with
 | true =>
  rw [Bool.and_eq_true] at hh
  rw [if_pos hh.1] at hg
  obtain ⟨hy, -⟩:=lk_some hg
  exact List.any_eq_true.2 ⟨verI s x,List.mem_filter.2 ⟨hy,hh.2⟩,eqS_self _⟩
 | false =>
  rw [List.any_eq_false]
  intro y hy he
  have hy:=List.mem_filter.1 hy
  have e:=lk_mem ht.rs hy.1
  rw [eqS_t.1 he,hg] at e
  split at e
  ·rename_i hp
   injection e with e
   have h2:=hy.2
   rw [←e] at h2
   rw [hp,show x.dead=(verI s x).dead from rfl,h2] at hh
   cases hh
  ·cases e
theorem real_get {x:State} {M:Nat} (hx:SOk x M) (id:ByteArray):sameI (getI id (bothV x.store x.out)).1 (getI id (bothV x.store x.out)).1=true:=by
 cases hg:lk (bothV x.store x.out) id with
 | none=>rw [getI_f hg]; exact same_item0
 | some y=>rw [getI_t hg]; exact sameI_real (real_may (both_ok hx y (lk_some hg).1).2)
theorem keeps_alike {s t:State} {N M:Nat} {id:ByteArray} {d:Deed9} {n:Int} (hs:SOk s N) (ht:SOk t M) (he:eqI n 0=true) (hl:lk (bothV t.store t.out) id=lk (bothV s.store s.out) id) (hc:(eqI (pick4 d.what) 3=true∧t.epoch=s.epoch + 1)∨(eqI (pick4 d.what) 3=false∧eqS id d.id=false∧t.epoch=s.epoch)):law09_LocalKeeps_j1 d id true s (t,n)=some true:=by
 have e:getI id (bothV t.store t.out)=getI id (bothV s.store s.out):=by rw [getI_lk,getI_lk,hl]
 have hep:=hs.ep
 unfold law09_LocalKeeps_j1
 rw [show (t,n).2=n from rfl,he,br_f (by rfl),bnd_of (pick4_s _),bnd_of (rstands hs),bnd_of (rstands (s:=(t,n).1) ht),show (t,n).1=t from rfl,e,wr1 hep]
 rcases hc with ⟨h1,h2⟩ | ⟨h1,h2,h3⟩
 ·rw [h1,br_t rfl,bnd_of (sameList1 _ _),real_get hs,br_t rfl,eqI_t.2 h2]
  cases (getI id (bothV s.store s.out)).2<;>rfl
 ·rw [h1,h2,br_f rfl,br_t (by rfl),bnd_of (sameList1 _ _),real_get hs,br_t rfl,eqI_f.2 (by omega)]
  cases (getI id (bothV s.store s.out)).2<;>rfl
theorem keeps_made {s:State} {N M:Nat} {x:Item} {d:Deed9} {n:Int} (hs:MOk s N) (ht:SOk (madeV s x) M) (hM:M≤90000) (hx:(verI s x).Ok) (he:eqI n 0=true) (hp:pick4 d.what≠3) (hid:x.id=d.id) (hd:x.dead=eqI (pick4 d.what) 2):law09_LocalKeeps_j1 d d.id true s (madeV s x,n)=some true:=by
 have hg:lk (bothV (madeV s x).store (madeV s x).out) d.id=some (verI s x):=by rw [made_lk hs.ok,if_pos (by rw [hid]; exact eqS_self _)]
 have hl:=ht.le
 have hrl:(readV (madeV s x)).length≤(madeV s x).store.length:=List.length_filter_le ..
 have hcn:=hs.ok.cn
 have hcl:=hs.ok.cl
 have hself:hasK (madeV s x).k d.id s.r (s.count + 1)=true:=by
  show hasK (ownK s.k x.id s.r (s.count + 1)) d.id s.r (s.count + 1)=true
  rw [hid]
  exact hasK_own (by omega) (has_with_self hs.r (by omega))
 unfold law09_LocalKeeps_j1
 rw [show (madeV s x,n).2=n from rfl,he,br_f (by rfl),bnd_of (pick4_s _),bnd_of (rstands hs.ok),bnd_of (rstands (s:=(madeV s x,n).1) ht),show (madeV s x,n).1=madeV s x from rfl,eqI_f.2 hp,br_f rfl,eqS_self,br_f (by rfl),bnd_of (get_s (by omega)),bnd_of (lread (by omega)),chk_t (smallL_of (by omega)),keeps_l2,getI_t hg]
 rw [←hid,made_seen ht,hid]
 have hs2:(getI d.id (madeV s x).store).2=hasP s.f (verI s x):=by
  rw [getI_snd,←hid,made_get]
  split
  ·rename_i h; rw [h]; rfl
  ·rename_i h; simp only [Bool.not_eq_true] at h; rw [h]; rfl
 rw [law09_LocalKeeps_l2]
 simp only [hs2,show (madeV s x).f=s.f from rfl,show (madeV s x).count=s.count + 1 from rfl,show (verI s x).vr=s.r from rfl,show (verI s x).vc=s.count + 1 from rfl,show (verI s x).stamp=s.clock + 1 from rfl,show (verI s x).dead=x.dead from rfl]
 rw [wr1 (by omega),wr1 hcl,br_f (by rfl),eqI_self,eqI_self,br_f (by rfl),eqI_self,br_f (by rfl),bnd_of (khas_s (N:=M) (by omega) ht.kt.kb),bnd_of (rsame_s hs.ok.f),bnd_of (has_s hs.ok.f hx)]
 rw [show (⟨s.r,s.count + 1⟩:Ver).r=s.r from rfl,show (⟨s.r,s.count + 1⟩:Ver).c=s.count + 1 from rfl,hself,may_pf hs.p,←hd]
 cases hasP s.f (verI s x)<;>cases x.dead<;>rfl
theorem localKeeps_s {s:Sit} {d:Deed9} {id:ByteArray} (ok:s.Ok) (hd:d.Ok):law09_LocalKeeps_s s d id=some true:=by
 obtain ⟨a,ha,h1⟩:=fits_sit ok
 obtain ⟨b,hb,h2⟩:=small_s hd.f
 unfold law09_LocalKeeps_s
 rw [bnd_of up9,bnd_of ha,bnd_of hb]
 rcases mul01 (h1.imp (fun h=>h) And.left) (h2.imp (fun h=>h) And.left) with h | ⟨rfl,rfl⟩
 ·rw [br_t h]
 ·obtain ⟨-, hst, -, -, -, hk⟩:=h1.resolve_left (by decide)
  have hs:=(h2.resolve_left (by decide)).2
  have sb:=hst.b hk
  rw [br_f (by rfl),bnd_of (state_s ok hst),bnd_of (lmay9_s sb)]
  cases hm:mayS s.st with
  | false=>rfl
  | true =>
   have so:=may_sok hm hst.f hst.store hst.out hk.kt hst.ids
   have mo:=mok_of so hm
   have md:=mok_do (d:=d) mo hd (by omega)
   rw [br_f (by rfl),bnd_of (do_s so (by decide) mo.r hd (by omega))]
   rcases do_parts (d:=d) so hd with ⟨h1,h2⟩ | ⟨h1,h2⟩
   ·have e3:law09_LocalKeeps_j1 d id true s.st (doV s.st d)=some true:=by
     unfold law09_LocalKeeps_j1
     rw [eqI_f.2 h1,br_t (by rfl)]
    rw [e3,eqI_f.2 h1,h2,bnd_of (same9_s so (by decide) (may_pf mo.p)),bnd_of (lmay9_s (so.stb (by decide))),hm]; rfl
   ·have e1:eqI (doV s.st d).2 0=true:=eqI_t.2 h1
    have fin:ref09_Same_s (doV s.st d).1 s.st=some false→law09_LocalKeeps_j1 d id true s.st (doV s.st d)=some true→(bnd (ref09_Same_s (doV s.st d).1 s.st) fun y15=>bnd (local_May_s (doV s.st d).1) fun y60=>br (!y60) (some false) (br (!eqI (doV s.st d).2 0) (br (!y15) (some false) (br (eqI (doV s.st d).2 0) (br y15 (some false) (law09_LocalKeeps_j1 d id true s.st (doV s.st d))) (law09_LocalKeeps_j1 d id true s.st (doV s.st d)))) (br (eqI (doV s.st d).2 0) (br y15 (some false) (law09_LocalKeeps_j1 d id true s.st (doV s.st d))) (law09_LocalKeeps_j1 d id true s.st (doV s.st d)))))=some true:=fun f1 f2=>by
     rw [bnd_of f1,bnd_of (lmay9_s (md.ok.stb (by decide))),md.may,e1,f2]; rfl
    have ep:doV s.st d=((doV s.st d).1,(doV s.st d).2):=rfl
    rcases h2 with ⟨p3,e⟩ | ⟨x,mx⟩
    ·refine fin (diff_s ?_) ?_
     ·rw [e]; exact .inr (by show s.st.epoch + 1≠s.st.epoch; omega)
     ·have ok2:=md.ok
      rw [ep,e]
      rw [e] at ok2
      exact keeps_alike so ok2 e1 (filtered_lk so ok2 id) (.inl ⟨eqI_t.2 p3,rfl⟩)
    ·have e:=mx.e
     refine fin (diff_s ?_) ?_
     ·rw [e]; exact .inl (by show s.st.count + 1≠s.st.count; omega)
     ·have ok2:=md.ok
      rw [ep,e]
      rw [e] at ok2
      by_cases hid:eqS id d.id=true
      ·rw [eqS_t.1 hid]
       exact keeps_made mo ok2 (by decide) (ok_ver so mo.r mx.ok) e1 mx.n mx.id mx.dead
      ·refine keeps_alike so ok2 e1 ?_ (.inr ⟨eqI_f.2 mx.n,by simpa using hid,rfl⟩)
       rw [made_lk so,if_neg (by rw [mx.id,eqS_comm']; exact hid)]
theorem law_localKeeps {X:Task→Prop} (hX:Closed X) {s:Sit} {d:Deed9} {id:ByteArray} (ok:s.Ok) (hd:d.Ok) (hid:id.size≤9223372036854775807) {Q:A→List Blk→Prop} (hQ:Q (bv true) []):X (.call 14 [s.la,d.la,sv id] [] Q):=law09_LocalKeeps_c hX (localKeeps_s ok hd) hQ
end
end Go.Proofs.YtidkmoohgadjkaaGreat
