/- The program: local. Written by decomp.py. The document: layers 9 and 10. Written by decomp.py. States: which may be, by both; what is kept. States: which may be, by both functions; what that gives. The program: recv. Written by decomp.py. What comes to a replica, and what goes there: by both functions. What a replica does by itself: by both functions. What the laws hand in: lines, notes; errors. Written by decomp.py. The laws of layer 9. Written by decomp.py. Another filter; what is read; deeds. What a replica does, and lists of it, as arguments of laws. The statements LocalStarts, LocalDoes, LocalPlays, out of what their code computes. The laws of layer 10. Written by decomp.py. The statements RecvTells, RecvPlays, out of what their code computes. What comes to a replica, as an argument of laws. -/
import Derived.Test.YtidkmoohgadjkaaGreatME
import Derived.Test.YtidkmoohgadjkaaGreatMD
set_option linter.unusedVariables false
set_option linter.unusedSimpArgs false
set_option maxRecDepth 100000
set_option maxHeartbeats 0
namespace Go.Proofs.YtidkmoohgadjkaaGreat
open Go E
noncomputable section
open Pred
def local_New_s (p0:Int) (p1:Pred):Option (State × Option Int) :=
 (br (ltI p0 1)
  (some ((State.mk 0 (Pred.mk 0 ⟨#[]⟩ 0 0 0 ([]:List Pred)) ([]:List Item) ([]:List Item) (Know.mk (V8.mk 0 0 0 0 0 0 0 0) ([]:List Frag)) 0 0 0),(some 1)))
  (br (ltI 8 p0)
   (some ((State.mk 0 (Pred.mk 0 ⟨#[]⟩ 0 0 0 ([]:List Pred)) ([]:List Item) ([]:List Item) (Know.mk (V8.mk 0 0 0 0 0 0 0 0) ([]:List Frag)) 0 0 0),(some 1)))
   (bnd (pred_May_s p1) fun y3 =>
    (br (!y3)
     (some ((State.mk 0 (Pred.mk 0 ⟨#[]⟩ 0 0 0 ([]:List Pred)) ([]:List Item) ([]:List Item) (Know.mk (V8.mk 0 0 0 0 0 0 0 0) ([]:List Frag)) 0 0 0),(some 1)))
     (bnd (fresh_Pred_s fuelR p1) fun y6 =>
      some ((State.mk p0 y6 ([]:List Item) ([]:List Item) (Know.mk (V8.mk 0 0 0 0 0 0 0 0) ([]:List Frag)) 0 0 0),none))))))
def local_stands_s (p0:State) (p1:ByteArray):Option (Item × Bool) :=
 (bnd (list_Get_s p0.store p1) fun y1 =>
  (br y1.2
   (some (y1.1,true))
   (bnd (list_Get_s p0.out p1) fun y4 =>
    some (y4.1,y4.2))))
def local_might_s (p0:Item):Option (Bool) :=
 (bnd (item_May_s (Item.mk p0.id 1 1 1 p0.kind p0.num p0.re p0.im p0.dead)) fun y1 =>
  some y1)
def local_version_s (p0:State) (p1:Item):Option (State × Option Int) :=
 (br (leI 1000 p0.count)
  (bnd (fresh_State_s p0) fun y2 =>
   some (y2,(some 5)))
  (br (leI 1000000 p0.clock)
   (bnd (fresh_State_s p0) fun y5 =>
    some (y5,(some 5)))
   (bnd (fresh_State_s p0) fun y7 =>
    (bnd (know_Own_s y7.k p1.id (Ver.mk y7.r (wr .i64 (y7.count + 1)))) fun y9 =>
     (bnd (list_Drop_s y7.store p1.id) fun y11 =>
      (bnd (list_Drop_s y7.out p1.id) fun y13 =>
       (bnd (eval_Has_s y7.f (Item.mk p1.id y7.r (wr .i64 (y7.count + 1)) (wr .i64 (y7.clock + 1)) p1.kind p1.num p1.re p1.im p1.dead)) fun y15 =>
        (br y15
         (bnd (list_Put_s y11 (Item.mk p1.id y7.r (wr .i64 (y7.count + 1)) (wr .i64 (y7.clock + 1)) p1.kind p1.num p1.re p1.im p1.dead)) fun y18 =>
          some ((State.mk y7.r y7.f y18 y13 y9 (wr .i64 (y7.count + 1)) (wr .i64 (y7.clock + 1)) y7.epoch),none))
         (bnd (list_Put_s y13 (Item.mk p1.id y7.r (wr .i64 (y7.count + 1)) (wr .i64 (y7.clock + 1)) p1.kind p1.num p1.re p1.im p1.dead)) fun y20 =>
          some ((State.mk y7.r y7.f y11 y20 y9 (wr .i64 (y7.count + 1)) (wr .i64 (y7.clock + 1)) y7.epoch),none))))))))))
def local_Create_j1 (p0:State) (p1:ByteArray) (p2:ByteArray) (p3:Int) (p4r:Nat) (p4i:Nat):Option (State × Option Int) :=
 (bndE (local_version_s p0 (Item.mk p1 0 0 0 p2 p3 p4r p4i false)) (fun y3 n5 =>
  some (y3,(some n5)))
   (fun y3 =>
  some (y3,none)))
def local_Create_s (p0:State) (p1:ByteArray) (p2:ByteArray) (p3:Int) (p4r:Nat) (p4i:Nat):Option (State × Option Int) :=
 (bnd (local_stands_s p0 p1) fun y1 =>
  (bnd (local_might_s (Item.mk p1 0 0 0 p2 p3 p4r p4i false)) fun y6 =>
   (br (!y6)
    (bnd (fresh_State_s p0) fun y9 =>
     some (y9,(some 1)))
    (br y1.2
     (br (!y1.1.dead)
      (bnd (fresh_State_s p0) fun y13 =>
       some (y13,(some 3)))
      (br (!y1.2)
       (br (leI 40 (wr .i64 ((p0.store.length:Int) + (p0.out.length:Int))))
        (bnd (fresh_State_s p0) fun y17 =>
         some (y17,(some 4)))
        (local_Create_j1 p0 p1 p2 p3 p4r p4i ))
       (local_Create_j1 p0 p1 p2 p3 p4r p4i )))
     (br (!y1.2)
      (br (leI 40 (wr .i64 ((p0.store.length:Int) + (p0.out.length:Int))))
       (bnd (fresh_State_s p0) fun y21 =>
        some (y21,(some 4)))
       (local_Create_j1 p0 p1 p2 p3 p4r p4i ))
      (local_Create_j1 p0 p1 p2 p3 p4r p4i ))))))
def local_Update_s (p0:State) (p1:ByteArray) (p2:ByteArray) (p3:Int) (p4r:Nat) (p4i:Nat):Option (State × Option Int) :=
 (bnd (local_might_s (Item.mk p1 0 0 0 p2 p3 p4r p4i false)) fun y1 =>
  (br (!y1)
   (bnd (fresh_State_s p0) fun y4 =>
    some (y4,(some 1)))
   (bnd (local_stands_s p0 p1) fun y6 =>
    (br (!y6.2)
     (bnd (fresh_State_s p0) fun y9 =>
      some (y9,(some 2)))
     (br y6.1.dead
      (bnd (fresh_State_s p0) fun y12 =>
       some (y12,(some 2)))
      (bndE (local_version_s p0 (Item.mk p1 0 0 0 p2 p3 p4r p4i false)) (fun y14 n16 =>
       some (y14,(some n16)))
        (fun y14 =>
       some (y14,none))))))))
def local_Delete_s (p0:State) (p1:ByteArray):Option (State × Option Int) :=
 (bnd (item_Name_s p1) fun y1 =>
  (br (!y1)
   (bnd (fresh_State_s p0) fun y4 =>
    some (y4,(some 1)))
   (bnd (local_stands_s p0 p1) fun y6 =>
    (br (!y6.2)
     (bnd (fresh_State_s p0) fun y9 =>
      some (y9,(some 2)))
     (br y6.1.dead
      (bnd (fresh_State_s p0) fun y12 =>
       some (y12,(some 2)))
      (bndE (local_version_s p0 (Item.mk y6.1.id y6.1.vr y6.1.vc y6.1.stamp y6.1.kind y6.1.num y6.1.re y6.1.im true)) (fun y14 n16 =>
       some (y14,(some n16)))
        (fun y14 =>
       some (y14,none))))))))
def local_Filter_l2 (p0:State) (p1:Pred) (y6:Pred):List Item→Know→(List Item)→(List Item)→Option (State × Option Int)
  | [],v20,v18,v19 =>
  some ((State.mk p0.r y6 v18 v19 v20 p0.count p0.clock (wr .i64 (p0.epoch + 1))),none)
  | x2e::xs2,v20,v18,v19 =>
  (bnd (know_With_s v20 x2e.id (Ver.mk x2e.vr x2e.vc)) fun y21 =>
   (bnd (eval_Has_s p1 x2e) fun y23 =>
    (br y23
     (chk (roomL v18.length 1)
      (local_Filter_l2 p0 p1 y6 xs2  y21 (v18++[x2e]) v19))
     (chk (roomL v19.length 1)
      (local_Filter_l2 p0 p1 y6 xs2  y21 v18 (v19++[x2e]))))))
def local_Filter_j1 (p0:State) (p1:Pred):Option (State × Option Int) :=
 (br (leI 1000000 p0.epoch)
  (bnd (fresh_State_s p0) fun y2 =>
   some (y2,(some 5)))
  (bnd (list_Both_s p0.store p0.out) fun y4 =>
   (bnd (fresh_Pred_s fuelR p1) fun y6 =>
    (chk (smallL y4)
      ((local_Filter_l2 p0 p1 y6) y4 (Know.mk (V8.mk 0 0 0 0 0 0 0 0) ([]:List Frag)) ([]:List Item) ([]:List Item))))))
def local_Filter_s (p0:State) (p1:Pred):Option (State × Option Int) :=
 (bnd (pred_May_s p1) fun y28 =>
  (br (!y28)
   (bnd (fresh_State_s p0) fun y31 =>
    some (y31,(some 1)))
   (br (eqI p0.f.op 1)
    (br (!eqI p1.op 1)
     (bnd (fresh_State_s p0) fun y35 =>
      some (y35,(some 1)))
     (local_Filter_j1 p0 p1 ))
    (local_Filter_j1 p0 p1 ))))
variable {X:Task→Prop} (hX:Closed X) {Q:A→List Blk→Prop}
include hX
theorem local_New_c  {p0:Int} {p1:Pred} {r:State × Option Int} (h:local_New_s p0 p1=some r) (hQ:Q (.tup [.agg (State.cs r.1),errA 159 r.2]) []):X (.call 45 [iv p0,.agg (Pred.cs p1)] [] Q):=by
  have K:=fun a (e:some a=some r)=>ret_some (f:=fun y=>.tup [.agg (State.cs y.1),errA 159 y.2]) (g:=fun y=>[]) e hQ
  unfold local_New_s at h
  refine call_nz hX ?_
  conv=>whnf
  refine call_intro hX Tryz.func45 rfl rfl ?_
  conv=>whnf
  repeat((first|refine dw ?_);conv=>whnf)
  revert h
  refine brk (fun c1 h=>?_) (fun c1 h=>?_)
  ·conv=>whnf
   repeat((first|refine dw ?_|refine bct c1 ?_);conv=>whnf)
   exact K _ h
  ·conv=>whnf
   repeat((first|refine dw ?_|refine bcf c1 ?_);conv=>whnf)
   revert h
   refine brk (fun c2 h=>?_) (fun c2 h=>?_)
   ·conv=>whnf
    repeat((first|refine dw ?_|refine bct c2 ?_);conv=>whnf)
    exact K _ h
   ·revert h
    refine bndk fun y3 e4 h=>?_
    conv=>whnf
    repeat((first|refine dw ?_|refine bcf c2 ?_);conv=>whnf)
    refine pred_May_c hX e4 ?_
    conv=>whnf
    repeat((first|refine dw ?_|refine bcf c2 ?_);conv=>whnf)
    revert h
    refine brk (fun c5 h=>?_) (fun c5 h=>?_)
    ·conv=>whnf
     repeat((first|refine dw ?_|refine bct c5 ?_);conv=>whnf)
     exact K _ h
    ·revert h
     refine bndk fun y6 e7 h=>?_
     conv=>whnf
     repeat((first|refine dw ?_|refine bcf c5 ?_);conv=>whnf)
     refine fresh_Pred_c hX fuelR e7 ?_
     conv=>whnf
     repeat((first|refine dw ?_);conv=>whnf)
     exact K _ h
theorem local_stands_c  {p0:State} {p1:ByteArray} {r:Item × Bool} (h:local_stands_s p0 p1=some r) (hQ:Q (.tup [.agg (Item.cs r.1),.one (.p (.v (.bool r.2)))]) []):X (.call 177 [.agg (State.cs p0),.one (.p (.v (.string p1)))] [] Q):=by
  have K:=fun a (e:some a=some r)=>ret_some (f:=fun y=>.tup [.agg (Item.cs y.1),.one (.p (.v (.bool y.2)))]) (g:=fun y=>[]) e hQ
  unfold local_stands_s at h
  refine call_intro hX Tryz.func177 rfl rfl ?_
  revert h
  refine bndk fun y1 e2 h=>?_
  conv=>whnf
  repeat((first|refine dw ?_);conv=>whnf)
  refine list_Get_c hX e2 ?_
  conv=>whnf
  repeat((first|refine dw ?_);conv=>whnf)
  revert h
  refine brk (fun c3 h=>?_) (fun c3 h=>?_)
  ·conv=>whnf
   repeat((first|refine dw ?_|refine bct c3 ?_);conv=>whnf)
   exact K _ h
  ·revert h
   refine bndk fun y4 e5 h=>?_
   conv=>whnf
   repeat((first|refine dw ?_|refine bcf c3 ?_);conv=>whnf)
   refine list_Get_c hX e5 ?_
   conv=>whnf
   repeat((first|refine dw ?_);conv=>whnf)
   exact K _ h
theorem local_might_c  {p0:Item} {r:Bool} (h:local_might_s p0=some r) (hQ:Q (.one (.p (.v (.bool r)))) []):X (.call 178 [.agg (Item.cs p0)] [] Q):=by
 unfold local_might_s at h
 refine call_intro hX Tryz.func178 rfl rfl ?_
 revert h
 refine bndk fun y1 e2 h=>?_
 conv=>whnf
 repeat((first|refine dw ?_);conv=>whnf)
 refine item_May_c hX e2 ?_
 conv=>whnf
 repeat((first|refine dw ?_);conv=>whnf)
 exact ret_some (f:=fun y=>.one (.p (.v (.bool y)))) (g:=fun y=>[]) h hQ
theorem local_version_c  {p0:State} {p1:Item} {r:State × Option Int} (h:local_version_s p0 p1=some r) (hQ:Q (.tup [.agg (State.cs r.1),errA 159 r.2]) []):X (.call 179 [.agg (State.cs p0),.agg (Item.cs p1)] [] Q):=by
  have K:=fun a (e:some a=some r)=>ret_some (f:=fun y=>.tup [.agg (State.cs y.1),errA 159 y.2]) (g:=fun y=>[]) e hQ
  unfold local_version_s at h
  refine call_nz hX ?_
  conv=>whnf
  refine call_intro hX Tryz.func179 rfl rfl ?_
  conv=>whnf
  repeat((first|refine dw ?_);conv=>whnf)
  revert h
  refine brk (fun c1 h=>?_) (fun c1 h=>?_)
  ·revert h
   refine bndk fun y2 e3 h=>?_
   conv=>whnf
   repeat((first|refine dw ?_|refine bct c1 ?_);conv=>whnf)
   refine fresh_State_c hX e3 ?_
   conv=>whnf
   repeat((first|refine dw ?_);conv=>whnf)
   exact K _ h
  ·conv=>whnf
   repeat((first|refine dw ?_|refine bcf c1 ?_);conv=>whnf)
   revert h
   refine brk (fun c4 h=>?_) (fun c4 h=>?_)
   ·revert h
    refine bndk fun y5 e6 h=>?_
    conv=>whnf
    repeat((first|refine dw ?_|refine bct c4 ?_);conv=>whnf)
    refine fresh_State_c hX e6 ?_
    conv=>whnf
    repeat((first|refine dw ?_);conv=>whnf)
    exact K _ h
   ·revert h
    refine bndk fun y7 e8 h=>?_
    conv=>whnf
    repeat((first|refine dw ?_|refine bcf c4 ?_);conv=>whnf)
    refine fresh_State_c hX e8 ?_
    revert h
    refine bndk fun y9 e10 h=>?_
    conv=>whnf
    repeat((first|refine dw ?_);conv=>whnf)
    refine know_Own_c hX e10 ?_
    revert h
    refine bndk fun y11 e12 h=>?_
    conv=>whnf
    repeat((first|refine dw ?_);conv=>whnf)
    refine list_Drop_c hX e12 ?_
    revert h
    refine bndk fun y13 e14 h=>?_
    conv=>whnf
    repeat((first|refine dw ?_);conv=>whnf)
    refine list_Drop_c hX e14 ?_
    revert h
    refine bndk fun y15 e16 h=>?_
    conv=>whnf
    repeat((first|refine dw ?_);conv=>whnf)
    refine eval_Has_c hX e16 ?_
    conv=>whnf
    repeat((first|refine dw ?_);conv=>whnf)
    revert h
    refine brk (fun c17 h=>?_) (fun c17 h=>?_)
    ·revert h
     refine bndk fun y18 e19 h=>?_
     conv=>whnf
     repeat((first|refine dw ?_|refine bct c17 ?_);conv=>whnf)
     refine list_Put_c hX e19 ?_
     conv=>whnf
     repeat((first|refine dw ?_);conv=>whnf)
     exact K _ h
    ·revert h
     refine bndk fun y20 e21 h=>?_
     conv=>whnf
     repeat((first|refine dw ?_|refine bcf c17 ?_);conv=>whnf)
     refine list_Put_c hX e21 ?_
     conv=>whnf
     repeat((first|refine dw ?_);conv=>whnf)
     exact K _ h
theorem local_Create_c  {p0:State} {p1:ByteArray} {p2:ByteArray} {p3:Int} {p4r:Nat} {p4i:Nat} {r:State × Option Int} (h:local_Create_s p0 p1 p2 p3 p4r p4i=some r) (hQ:Q (.tup [.agg (State.cs r.1),errA 159 r.2]) []):X (.call 114 [.agg (State.cs p0),.one (.p (.v (.string p1))),.one (.p (.v (.string p2))),iv p3,.one (.p (.v (.complex .f64 p4r p4i)))] [] Q):=by
  have K:=fun a (e:some a=some r)=>ret_some (f:=fun y=>.tup [.agg (State.cs y.1),errA 159 y.2]) (g:=fun y=>[]) e hQ
  unfold local_Create_s at h
  refine call_nz hX ?_
  conv=>whnf
  refine call_intro hX Tryz.func114 rfl rfl ?_
  replace h:=bnd_some h
  obtain ⟨y1,e2,h⟩:=h
  conv=>whnf
  repeat((first|refine dw ?_);conv=>whnf)
  refine local_stands_c hX e2 ?_
  apply join0 (X:=X) (r:=r) (pad [(5,.one (.ptr 0 0)),(4,.one (.ptr 1 0)),(1,.one (.ptr 6 0))] 51) ([.box (State.cs p0),.box [ic 0,ic 0,.p (.v (.string ⟨#[]⟩)),ic 0,.p (.v (.complex .f64 0 0)),.own 2,.own 3,.own 4,ic 0,ic 0,ic 0,ic 0,ic 0,ic 0,ic 0,ic 0,.own 5,ic 0,ic 0,ic 0],.rows 0 [],.rows 0 [],.rows 0 [],.rows 0 [],.box [.p (.v (.string p1)),ic 0,ic 0,ic 0,.p (.v (.string p2)),ic p3,.p (.v (.complex .f64 p4r p4i)),.p (.v (.bool false))]])
  ·intro tl1
   replace h:=bnd_some h
   obtain ⟨y6,e7,h⟩:=h
   conv=>whnf
   repeat((first|refine dw ?_);conv=>whnf)
   refine local_might_c hX e7 ?_
   conv=>whnf
   repeat((first|refine dw ?_);conv=>whnf)
   refine br_some h (fun c8 g=>?_) (fun c8 g=>?_)
   ·replace h:=g
    clear g
    replace h:=bnd_some h
    obtain ⟨y9,e10,h⟩:=h
    conv=>whnf
    repeat((first|refine dw ?_|refine bct c8 ?_);conv=>whnf)
    refine fresh_State_c hX e10 ?_
    conv=>whnf
    repeat((first|refine dw ?_);conv=>whnf)
    exact K _ h
   ·replace h:=g
    clear g
    conv=>whnf
    repeat((first|refine dw ?_|refine bcf c8 ?_);conv=>whnf)
    refine br_some h (fun c11 g=>?_) (fun c11 g=>?_)
    ·replace h:=g
     clear g
     conv=>whnf
     repeat((first|refine dw ?_|refine bct c11 ?_);conv=>whnf)
     refine br_some h (fun c12 g=>?_) (fun c12 g=>?_)
     ·replace h:=g
      clear g
      replace h:=bnd_some h
      obtain ⟨y13,e14,h⟩:=h
      conv=>whnf
      repeat((first|refine dw ?_|refine bct c12 ?_);conv=>whnf)
      refine fresh_State_c hX e14 ?_
      conv=>whnf
      repeat((first|refine dw ?_);conv=>whnf)
      exact K _ h
     ·replace h:=g
      clear g
      conv=>whnf
      repeat((first|refine dw ?_|refine bcf c12 ?_);conv=>whnf)
      refine br_some h (fun c15 g=>?_) (fun c15 g=>?_)
      ·replace h:=g
       clear g
       conv=>whnf
       repeat((first|refine dw ?_|refine bct c15 ?_|refine eqv_to (map_len _) ?_);conv=>whnf)
       refine br_some h (fun c16 g=>?_) (fun c16 g=>?_)
       ·replace h:=g
        clear g
        replace h:=bnd_some h
        obtain ⟨y17,e18,h⟩:=h
        conv=>whnf
        repeat((first|refine dw ?_|refine bct c16 ?_);conv=>whnf)
        refine fresh_State_c hX e18 ?_
        conv=>whnf
        repeat((first|refine dw ?_);conv=>whnf)
        exact K _ h
       ·replace h:=g
        clear g
        conv=>whnf
        repeat((first|refine dw ?_|refine bcf c16 ?_);conv=>whnf)
        exact tl1.h  h
      ·replace h:=g
       clear g
       conv=>whnf
       repeat((first|refine dw ?_|refine bcf c15 ?_);conv=>whnf)
       exact tl1.h  h
    ·replace h:=g
     clear g
     conv=>whnf
     repeat((first|refine dw ?_|refine bcf c11 ?_);conv=>whnf)
     refine br_some h (fun c19 g=>?_) (fun c19 g=>?_)
     ·replace h:=g
      clear g
      conv=>whnf
      repeat((first|refine dw ?_|refine bct c19 ?_|refine eqv_to (map_len _) ?_);conv=>whnf)
      refine br_some h (fun c20 g=>?_) (fun c20 g=>?_)
      ·replace h:=g
       clear g
       replace h:=bnd_some h
       obtain ⟨y21,e22,h⟩:=h
       conv=>whnf
       repeat((first|refine dw ?_|refine bct c20 ?_);conv=>whnf)
       refine fresh_State_c hX e22 ?_
       conv=>whnf
       repeat((first|refine dw ?_);conv=>whnf)
       exact K _ h
      ·replace h:=g
       clear g
       conv=>whnf
       repeat((first|refine dw ?_|refine bcf c20 ?_);conv=>whnf)
       exact tl1.h  h
     ·replace h:=g
      clear g
      conv=>whnf
      repeat((first|refine dw ?_|refine bcf c19 ?_);conv=>whnf)
      exact tl1.h  h
  ·intro h
   unfold local_Create_j1 at h
   refine rest_intro hX ?_
   refine bndE_some h (fun y3 n5 e4 g=>?_) (fun y3 e4 g=>?_)
   ·replace h:=g
    clear g
    conv=>whnf
    repeat((first|refine dw ?_);conv=>whnf)
    refine local_version_c hX e4 ?_
    conv=>whnf
    repeat((first|refine dw ?_);conv=>whnf)
    exact K _ h
   ·replace h:=g
    clear g
    conv=>whnf
    repeat((first|refine dw ?_);conv=>whnf)
    refine local_version_c hX e4 ?_
    conv=>whnf
    repeat((first|refine dw ?_);conv=>whnf)
    exact K _ h
theorem local_Update_c  {p0:State} {p1:ByteArray} {p2:ByteArray} {p3:Int} {p4r:Nat} {p4i:Nat} {r:State × Option Int} (h:local_Update_s p0 p1 p2 p3 p4r p4i=some r) (hQ:Q (.tup [.agg (State.cs r.1),errA 159 r.2]) []):X (.call 115 [.agg (State.cs p0),.one (.p (.v (.string p1))),.one (.p (.v (.string p2))),iv p3,.one (.p (.v (.complex .f64 p4r p4i)))] [] Q):=by
  have K:=fun a (e:some a=some r)=>ret_some (f:=fun y=>.tup [.agg (State.cs y.1),errA 159 y.2]) (g:=fun y=>[]) e hQ
  unfold local_Update_s at h
  refine call_nz hX ?_
  conv=>whnf
  refine call_intro hX Tryz.func115 rfl rfl ?_
  revert h
  refine bndk fun y1 e2 h=>?_
  conv=>whnf
  repeat((first|refine dw ?_);conv=>whnf)
  refine local_might_c hX e2 ?_
  conv=>whnf
  repeat((first|refine dw ?_);conv=>whnf)
  revert h
  refine brk (fun c3 h=>?_) (fun c3 h=>?_)
  ·revert h
   refine bndk fun y4 e5 h=>?_
   conv=>whnf
   repeat((first|refine dw ?_|refine bct c3 ?_);conv=>whnf)
   refine fresh_State_c hX e5 ?_
   conv=>whnf
   repeat((first|refine dw ?_);conv=>whnf)
   exact K _ h
  ·revert h
   refine bndk fun y6 e7 h=>?_
   conv=>whnf
   repeat((first|refine dw ?_|refine bcf c3 ?_);conv=>whnf)
   refine local_stands_c hX e7 ?_
   conv=>whnf
   repeat((first|refine dw ?_);conv=>whnf)
   revert h
   refine brk (fun c8 h=>?_) (fun c8 h=>?_)
   ·revert h
    refine bndk fun y9 e10 h=>?_
    conv=>whnf
    repeat((first|refine dw ?_|refine bct c8 ?_);conv=>whnf)
    refine fresh_State_c hX e10 ?_
    conv=>whnf
    repeat((first|refine dw ?_);conv=>whnf)
    exact K _ h
   ·conv=>whnf
    repeat((first|refine dw ?_|refine bcf c8 ?_);conv=>whnf)
    revert h
    refine brk (fun c11 h=>?_) (fun c11 h=>?_)
    ·revert h
     refine bndk fun y12 e13 h=>?_
     conv=>whnf
     repeat((first|refine dw ?_|refine bct c11 ?_);conv=>whnf)
     refine fresh_State_c hX e13 ?_
     conv=>whnf
     repeat((first|refine dw ?_);conv=>whnf)
     exact K _ h
    ·revert h
     refine bndEk (fun y14 n16 e15 h=>?_) (fun y14 e15 h=>?_)
     ·conv=>whnf
      repeat((first|refine dw ?_|refine bcf c11 ?_);conv=>whnf)
      refine local_version_c hX e15 ?_
      conv=>whnf
      repeat((first|refine dw ?_);conv=>whnf)
      exact K _ h
     ·conv=>whnf
      repeat((first|refine dw ?_|refine bcf c11 ?_);conv=>whnf)
      refine local_version_c hX e15 ?_
      conv=>whnf
      repeat((first|refine dw ?_);conv=>whnf)
      exact K _ h
theorem local_Delete_c  {p0:State} {p1:ByteArray} {r:State × Option Int} (h:local_Delete_s p0 p1=some r) (hQ:Q (.tup [.agg (State.cs r.1),errA 159 r.2]) []):X (.call 116 [.agg (State.cs p0),.one (.p (.v (.string p1)))] [] Q):=by
  have K:=fun a (e:some a=some r)=>ret_some (f:=fun y=>.tup [.agg (State.cs y.1),errA 159 y.2]) (g:=fun y=>[]) e hQ
  unfold local_Delete_s at h
  refine call_nz hX ?_
  conv=>whnf
  refine call_intro hX Tryz.func116 rfl rfl ?_
  revert h
  refine bndk fun y1 e2 h=>?_
  conv=>whnf
  repeat((first|refine dw ?_);conv=>whnf)
  refine item_Name_c hX e2 ?_
  conv=>whnf
  repeat((first|refine dw ?_);conv=>whnf)
  revert h
  refine brk (fun c3 h=>?_) (fun c3 h=>?_)
  ·revert h
   refine bndk fun y4 e5 h=>?_
   conv=>whnf
   repeat((first|refine dw ?_|refine bct c3 ?_);conv=>whnf)
   refine fresh_State_c hX e5 ?_
   conv=>whnf
   repeat((first|refine dw ?_);conv=>whnf)
   exact K _ h
  ·revert h
   refine bndk fun y6 e7 h=>?_
   conv=>whnf
   repeat((first|refine dw ?_|refine bcf c3 ?_);conv=>whnf)
   refine local_stands_c hX e7 ?_
   conv=>whnf
   repeat((first|refine dw ?_);conv=>whnf)
   revert h
   refine brk (fun c8 h=>?_) (fun c8 h=>?_)
   ·revert h
    refine bndk fun y9 e10 h=>?_
    conv=>whnf
    repeat((first|refine dw ?_|refine bct c8 ?_);conv=>whnf)
    refine fresh_State_c hX e10 ?_
    conv=>whnf
    repeat((first|refine dw ?_);conv=>whnf)
    exact K _ h
   ·conv=>whnf
    repeat((first|refine dw ?_|refine bcf c8 ?_);conv=>whnf)
    revert h
    refine brk (fun c11 h=>?_) (fun c11 h=>?_)
    ·revert h
     refine bndk fun y12 e13 h=>?_
     conv=>whnf
     repeat((first|refine dw ?_|refine bct c11 ?_);conv=>whnf)
     refine fresh_State_c hX e13 ?_
     conv=>whnf
     repeat((first|refine dw ?_);conv=>whnf)
     exact K _ h
    ·revert h
     refine bndEk (fun y14 n16 e15 h=>?_) (fun y14 e15 h=>?_)
     ·conv=>whnf
      repeat((first|refine dw ?_|refine bcf c11 ?_);conv=>whnf)
      refine local_version_c hX e15 ?_
      conv=>whnf
      repeat((first|refine dw ?_);conv=>whnf)
      exact K _ h
     ·conv=>whnf
      repeat((first|refine dw ?_|refine bcf c11 ?_);conv=>whnf)
      refine local_version_c hX e15 ?_
      conv=>whnf
      repeat((first|refine dw ?_);conv=>whnf)
      exact K _ h
theorem local_Filter_c  {p0:State} {p1:Pred} {r:State × Option Int} (h:local_Filter_s p0 p1=some r) (hQ:Q (.tup [.agg (State.cs r.1),errA 159 r.2]) []):X (.call 117 [.agg (State.cs p0),.agg (Pred.cs p1)] [] Q):=by
  have K:=fun a (e:some a=some r)=>ret_some (f:=fun y=>.tup [.agg (State.cs y.1),errA 159 y.2]) (g:=fun y=>[]) e hQ
  unfold local_Filter_s at h
  refine call_nz hX ?_
  conv=>whnf
  refine call_intro hX Tryz.func117 rfl rfl ?_
  apply join0 (X:=X) (r:=r) (pad [(2,.one (.ptr 0 0)),(0,.one (.ptr 1 0)),(0,.one (.ptr 2 0))] 74) ([.box (State.cs p0),.box (Pred.cs p1),.box [ic 0,ic 0,.p (.v (.string ⟨#[]⟩)),ic 0,.p (.v (.complex .f64 0 0)),.own 3,.own 4,.own 5,ic 0,ic 0,ic 0,ic 0,ic 0,ic 0,ic 0,ic 0,.own 6,ic 0,ic 0,ic 0],.rows 0 [],.rows 0 [],.rows 0 [],.rows 0 []])
  ·intro tl1
   replace h:=bnd_some h
   obtain ⟨y28,e29,h⟩:=h
   conv=>whnf
   repeat((first|refine dw ?_);conv=>whnf)
   refine pred_May_c hX e29 ?_
   conv=>whnf
   repeat((first|refine dw ?_);conv=>whnf)
   refine br_some h (fun c30 g=>?_) (fun c30 g=>?_)
   ·replace h:=g
    clear g
    replace h:=bnd_some h
    obtain ⟨y31,e32,h⟩:=h
    conv=>whnf
    repeat((first|refine dw ?_|refine bct c30 ?_);conv=>whnf)
    refine fresh_State_c hX e32 ?_
    conv=>whnf
    repeat((first|refine dw ?_);conv=>whnf)
    exact K _ h
   ·replace h:=g
    clear g
    conv=>whnf
    repeat((first|refine dw ?_|refine bcf c30 ?_);conv=>whnf)
    refine br_some h (fun c33 g=>?_) (fun c33 g=>?_)
    ·replace h:=g
     clear g
     conv=>whnf
     repeat((first|refine dw ?_|refine bct c33 ?_|refine bcf c30 ?_);conv=>whnf)
     refine br_some h (fun c34 g=>?_) (fun c34 g=>?_)
     ·replace h:=g
      clear g
      replace h:=bnd_some h
      obtain ⟨y35,e36,h⟩:=h
      conv=>whnf
      repeat((first|refine dw ?_|refine bct c34 ?_);conv=>whnf)
      refine fresh_State_c hX e36 ?_
      conv=>whnf
      repeat((first|refine dw ?_);conv=>whnf)
      exact K _ h
     ·replace h:=g
      clear g
      conv=>whnf
      repeat((first|refine dw ?_|refine bcf c34 ?_);conv=>whnf)
      exact tl1.h  h
    ·replace h:=g
     clear g
     conv=>whnf
     repeat((first|refine dw ?_|refine bcf c33 ?_|refine bcf c30 ?_);conv=>whnf)
     exact tl1.h  h
  ·intro h
   unfold local_Filter_j1 at h
   refine rest_intro hX ?_
   conv=>whnf
   repeat((first|refine dw ?_);conv=>whnf)
   refine br_some h (fun c1 g=>?_) (fun c1 g=>?_)
   ·replace h:=g
    clear g
    replace h:=bnd_some h
    obtain ⟨y2,e3,h⟩:=h
    conv=>whnf
    repeat((first|refine dw ?_|refine bct c1 ?_);conv=>whnf)
    refine fresh_State_c hX e3 ?_
    conv=>whnf
    repeat((first|refine dw ?_);conv=>whnf)
    exact K _ h
   ·replace h:=g
    clear g
    replace h:=bnd_some h
    obtain ⟨y4,e5,h⟩:=h
    conv=>whnf
    repeat((first|refine dw ?_|refine bcf c1 ?_);conv=>whnf)
    refine list_Both_c hX e5 ?_
    replace h:=bnd_some h
    obtain ⟨y6,e7,h⟩:=h
    conv=>whnf
    repeat((first|refine dw ?_);conv=>whnf)
    refine fresh_Pred_c hX fuelR e7 ?_
    replace h:=chk_some h
    obtain ⟨hs2,h⟩:=h
    conv=>whnf
    repeat((first|refine dw ?_|refine eqv_to (map_len _) ?_);conv=>whnf)
    refine loop_nk hX ?_
    conv=>whnf
    refine Two.r (Two.r ?_)
    conv=>whnf
    refine loop_k hX [8,8,0,0,0,0] ?_
    conv=>whnf
    refine loop_lisx3 (fun (v8:Int) (v20:Know) (v18:List Item) (v19:List Item)=>pad [(2,.one (.ptr 0 0)),(0,.one (.ptr 3 0)),(0,.one (.ptr 4 0)),(43,.one (.p (.sl (y4.map Item.row)))),(0,iv (y4.length:Int)),(0,iv v8)] 28) (fun (v8:Int) (v20:Know) (v18:List Item) (v19:List Item)=>[.box [ic p0.r,ic y6.op,.p (.v (.string y6.text)),ic y6.n,.p (.v (.complex .f64 y6.re y6.im)),.p (.sl (Pred.rows y6.kids)),.own 1,.own 2,ic v20.star.x0,ic v20.star.x1,ic v20.star.x2,ic v20.star.x3,ic v20.star.x4,ic v20.star.x5,ic v20.star.x6,ic v20.star.x7,.p (.sl (v20.l.map Frag.row)),ic p0.count,ic p0.clock,ic (wr .i64 (p0.epoch + 1))],.rows 8 (v18.map Item.row),.rows 8 (v19.map Item.row),.box (Pred.cs p1),.box [ic 0,ic 0,.p (.v (.string ⟨#[]⟩)),ic 0,.p (.v (.complex .f64 0 0)),.own 5,.own 6,.own 7,ic 0,ic 0,ic 0,ic 0,ic 0,ic 0,ic 0,ic 0,.own 8,ic 0,ic 0,ic 0],.rows 0 [],.rows 0 [],.rows 0 [],.rows 0 []]) _ y4 (fun pre2 x2e xs2 v8 v20 v18 v19 hl2 hi2 h ih2=>?_) (fun v8 v20 v18 v19 hi2 h=>?_) (Know.mk (V8.mk 0 0 0 0 0 0 0 0) ([]:List Frag)) ([]:List Item) ([]:List Item) h
    ·rw [local_Filter_l2] at h
     have am2:=at_mid hl2 hi2
     refine loop_intro hX ?_
     replace h:=bnd_some h
     obtain ⟨y21,e22,h⟩:=h
     conv=>whnf
     repeat((first|refine dw ?_|refine bct (lt_mid hl2 hi2) ?_|refine bct (at_in am2) ?_|refine bct (andt (at_in am2) rfl) ?_|refine row_in (at_row am2) ?_|refine bct (andt (at_in (at_nat am2)) rfl) ?_|refine row_in (at_row (at_nat am2)) ?_);conv=>whnf)
     refine know_With_c hX e22 ?_
     replace h:=bnd_some h
     obtain ⟨y23,e24,h⟩:=h
     conv=>whnf
     repeat((first|refine dw ?_);conv=>whnf)
     refine eval_Has_c hX e24 ?_
     conv=>whnf
     repeat((first|refine dw ?_);conv=>whnf)
     refine br_some h (fun c25 g=>?_) (fun c25 g=>?_)
     ·replace h:=g
      clear g
      replace h:=chk_some h
      obtain ⟨c26,h⟩:=h
      conv=>whnf
      repeat((first|refine dw ?_|refine bct c25 ?_|refine bct (room_map c26 rfl rfl rfl rfl) ?_|refine eqv_to (cat_one (f:=Item.row) v18 x2e) ?_);conv=>whnf)
      exact ih2 _ y21 (v18++[x2e]) v19 (wrL hs2 hl2 hi2) h
     ·replace h:=g
      clear g
      replace h:=chk_some h
      obtain ⟨c27,h⟩:=h
      conv=>whnf
      repeat((first|refine dw ?_|refine bcf c25 ?_|refine bct (room_map c27 rfl rfl rfl rfl) ?_|refine eqv_to (cat_one (f:=Item.row) v19 x2e) ?_);conv=>whnf)
      exact ih2 _ y21 v18 (v19++[x2e]) (wrL hs2 hl2 hi2) h
    ·rw [local_Filter_l2] at h
     refine loop_intro hX ?_
     conv=>whnf
     repeat((first|refine dw ?_|refine bcf (lt_end hi2) ?_);conv=>whnf)
     exact K _ h
end
end Go.Proofs.YtidkmoohgadjkaaGreat
set_option maxHeartbeats 0
namespace Go.Proofs.YtidkmoohgadjkaaGreat
open Go E
noncomputable section
open Pred
def ref09_Same_s (p0:State) (p1:State):Option (Bool) :=
 (br (!eqI p0.r p1.r)
  (some false)
  (br (!eqI p0.count p1.count)
   (some false)
   (br (!eqI p0.clock p1.clock)
    (some false)
    (br (!eqI p0.epoch p1.epoch)
     (some false)
     (bnd (ref03_Same_s p0.f p1.f) fun y5 =>
      (bnd (ref06_SameList_s p0.store p1.store) fun y7 =>
       (bnd (ref06_SameList_s p0.out p1.out) fun y9 =>
        (bnd (ref06_Alike_s p0.k p1.k) fun y11 =>
         (br y5
          (br y7
           (br y9
            (some y11)
            (some false))
           (some false))
          (some false))))))))))
def ref09_New_s (p0:Int) (p1:Pred):Option (State × Int) :=
 (bnd (ref03_May_s p1) fun y1 =>
  (br (!y1)
   (some ((State.mk 0 (Pred.mk 0 ⟨#[]⟩ 0 0 0 ([]:List Pred)) ([]:List Item) ([]:List Item) (Know.mk (V8.mk 0 0 0 0 0 0 0 0) ([]:List Frag)) 0 0 0),1))
   (br (ltI p0 1)
    (some ((State.mk 0 (Pred.mk 0 ⟨#[]⟩ 0 0 0 ([]:List Pred)) ([]:List Item) ([]:List Item) (Know.mk (V8.mk 0 0 0 0 0 0 0 0) ([]:List Frag)) 0 0 0),1))
    (br (ltI 8 p0)
     (some ((State.mk 0 (Pred.mk 0 ⟨#[]⟩ 0 0 0 ([]:List Pred)) ([]:List Item) ([]:List Item) (Know.mk (V8.mk 0 0 0 0 0 0 0 0) ([]:List Frag)) 0 0 0),1))
     (some ((State.mk p0 p1 ([]:List Item) ([]:List Item) (Know.mk (V8.mk 0 0 0 0 0 0 0 0) ([]:List Frag)) 0 0 0),0))))))
def ref09_Stands_s (p0:State) (p1:ByteArray):Option (Item × Bool) :=
 (bnd (ref06_Both_s p0.store p0.out) fun y1 =>
  (bnd (ref06_Get_s y1 p1) fun y3 =>
   some (y3.1,y3.2)))
def ref09_laid_s (p0:State) (p1:Item) (p2:Bool):Option (State) :=
 (bnd (ref06_Drop_s p0.store p1.id) fun y1 =>
  (bnd (ref06_Drop_s p0.out p1.id) fun y3 =>
   (bnd (ref03_Has_s p0.f p1) fun y5 =>
    (br y5
     (bnd (ref06_Put_s y1 p1) fun y8 =>
      some (State.mk p0.r p0.f y8 y3 p0.k p0.count p0.clock p0.epoch))
     (br p2
      (bnd (ref06_Put_s y3 p1) fun y11 =>
       some (State.mk p0.r p0.f y1 y11 p0.k p0.count p0.clock p0.epoch))
      (some (State.mk p0.r p0.f y1 y3 p0.k p0.count p0.clock p0.epoch)))))))
def ref09_made_s (p0:State) (p1:Item):Option (State × Int) :=
 (br (eqI p0.count 1000)
  (some (p0,5))
  (br (eqI p0.clock 1000000)
   (some (p0,5))
   (bnd (ref06_Own_s p0.k p1.id (Ver.mk p0.r (wr .i64 (p0.count + 1)))) fun y3 =>
    (bnd (ref09_laid_s (State.mk p0.r p0.f p0.store p0.out y3 (wr .i64 (p0.count + 1)) (wr .i64 (p0.clock + 1)) p0.epoch) (Item.mk p1.id p0.r (wr .i64 (p0.count + 1)) (wr .i64 (p0.clock + 1)) p1.kind p1.num p1.re p1.im p1.dead) true) fun y5 =>
     some (y5,0)))))
def ref09_shape_s (p0:ByteArray) (p1:ByteArray) (p2:Int) (p3r:Nat) (p3i:Nat):Option (Item × Bool) :=
 (bnd (ref01_May_s (Item.mk p0 1 1 1 p1 p2 p3r p3i false)) fun y1 =>
  some ((Item.mk p0 1 1 1 p1 p2 p3r p3i false),y1))
def ref09_Create_j2 (p0:State) (y1:Item × Bool):Option (State × Int) :=
 (bnd (ref09_made_s p0 y1.1) fun y6 =>
  some (y6.1,y6.2))
def ref09_Create_j1 (p0:State) (y1:Item × Bool) (y4:Item × Bool):Option (State × Int) :=
 (br (!y4.2)
  (br (eqI (wr .i64 ((p0.store.length:Int) + (p0.out.length:Int))) 40)
   (some (p0,4))
   (ref09_Create_j2 p0 y1 ))
  (ref09_Create_j2 p0 y1 ))
def ref09_Create_s (p0:State) (p1:ByteArray) (p2:ByteArray) (p3:Int) (p4r:Nat) (p4i:Nat):Option (State × Int) :=
 (bnd (ref09_shape_s p1 p2 p3 p4r p4i) fun y1 =>
  (br (!y1.2)
   (some (p0,1))
   (bnd (ref09_Stands_s p0 p1) fun y4 =>
    (br y4.2
     (br (!y4.1.dead)
      (some (p0,3))
      (ref09_Create_j1 p0 y1 y4 ))
     (ref09_Create_j1 p0 y1 y4 )))))
def ref09_Update_s (p0:State) (p1:ByteArray) (p2:ByteArray) (p3:Int) (p4r:Nat) (p4i:Nat):Option (State × Int) :=
 (bnd (ref09_shape_s p1 p2 p3 p4r p4i) fun y1 =>
  (br (!y1.2)
   (some (p0,1))
   (bnd (ref09_Stands_s p0 p1) fun y4 =>
    (br (!y4.2)
     (some (p0,2))
     (br y4.1.dead
      (some (p0,2))
      (bnd (ref09_made_s p0 y1.1) fun y8 =>
       some (y8.1,y8.2)))))))
def ref09_Delete_s (p0:State) (p1:ByteArray):Option (State × Int) :=
 (bnd (ref01_Name_s p1) fun y1 =>
  (br (!y1)
   (some (p0,1))
   (bnd (ref09_Stands_s p0 p1) fun y4 =>
    (br (!y4.2)
     (some (p0,2))
     (br y4.1.dead
      (some (p0,2))
      (bnd (ref09_made_s p0 (Item.mk y4.1.id y4.1.vr y4.1.vc y4.1.stamp y4.1.kind y4.1.num y4.1.re y4.1.im true)) fun y8 =>
       some (y8.1,y8.2)))))))
def ref09_Filter_l2:List Item→State→Option (State × Int)
  | [],v28 =>
  some (v28,0)
  | x2e::xs2,v28 =>
  (bnd (ref06_With_s v28.k x2e.id (Ver.mk x2e.vr x2e.vc)) fun y29 =>
   (bnd (ref09_laid_s (State.mk v28.r v28.f v28.store v28.out y29 v28.count v28.clock v28.epoch) x2e true) fun y31 =>
    (ref09_Filter_l2 xs2  y31)))
def ref09_Filter_j1 (p0:State) (p1:Pred):Option (State × Int) :=
 (br (eqI p0.epoch 1000000)
  (some (p0,5))
  (bnd (ref06_Both_s p0.store p0.out) fun y4 =>
   (chk (smallL y4)
     ((ref09_Filter_l2) y4 (State.mk p0.r p1 ([]:List Item) ([]:List Item) (Know.mk (V8.mk 0 0 0 0 0 0 0 0) ([]:List Frag)) p0.count p0.clock (wr .i64 (p0.epoch + 1)))))))
def ref09_Filter_s (p0:State) (p1:Pred):Option (State × Int) :=
 (bnd (ref03_May_s p1) fun y1 =>
  (br (!y1)
   (some (p0,1))
   (br (eqI p0.f.op 1)
    (br (!eqI p1.op 1)
     (some (p0,1))
     (ref09_Filter_j1 p0 p1 ))
    (ref09_Filter_j1 p0 p1 ))))
def ref09_Item_j4 (p0:State) (p1:Item) (v8:Bool) (y11:Know) (v13:Int):Option (State × Int) :=
 (br v8
  (some ((State.mk p0.r p0.f p0.store p0.out y11 p0.count v13 p0.epoch),0))
  (bnd (ref09_laid_s (State.mk p0.r p0.f p0.store p0.out y11 p0.count v13 p0.epoch) p1 false) fun y15 =>
   some (y15,0)))
def ref09_Item_j3 (p0:State) (p1:Item) (v8:Bool):Option (State × Int) :=
 (bnd (ref06_With_s p0.k p1.id (Ver.mk p1.vr p1.vc)) fun y11 =>
  (br (ltI p0.clock p1.stamp)
   (ref09_Item_j4 p0 p1 v8 y11 p1.stamp)
   (ref09_Item_j4 p0 p1 v8 y11 p0.clock)))
def ref09_Item_j2 (p0:State) (p1:Item) (y6:Item × Bool) (v8:Bool):Option (State × Int) :=
 (bnd (ref03_Has_s p0.f p1) fun y9 =>
  (br (!v8)
   (br y9
    (br (!y6.2)
     (br (eqI (wr .i64 ((p0.store.length:Int) + (p0.out.length:Int))) 40)
      (some (p0,4))
      (ref09_Item_j3 p0 p1 v8 ))
     (ref09_Item_j3 p0 p1 v8 ))
    (ref09_Item_j3 p0 p1 v8 ))
   (ref09_Item_j3 p0 p1 v8 )))
def ref09_Item_j1 (p0:State) (p1:Item):Option (State × Int) :=
 (bnd (ref06_Has_s p0.k p1.id (Ver.mk p1.vr p1.vc)) fun y3 =>
  (br y3
   (some (p0,0))
   (bnd (ref09_Stands_s p0 p1.id) fun y6 =>
    (br y6.2
     (bnd (ref01_Behind_s p1 y6.1) fun y23 =>
      (br y23
       (ref09_Item_j2 p0 p1 y6 false)
       (ref09_Item_j2 p0 p1 y6 y6.2)))
     (ref09_Item_j2 p0 p1 y6 y6.2)))))
def ref09_Item_s (p0:State) (p1:Item):Option (State × Int) :=
 (bnd (ref01_May_s p1) fun y1 =>
  (br (!y1)
   (some (p0,1))
   (br (eqI p1.vr p0.r)
    (br (ltI p0.count p1.vc)
     (some (p0,1))
     (ref09_Item_j1 p0 p1 ))
    (ref09_Item_j1 p0 p1 ))))
def ref09_Goes_s (p0:State) (p1:ByteArray) (p2:Ver) (p3:Ver):Option (State) :=
 (bnd (ref06_Get_s p0.store p1) fun y1 =>
  (br (!y1.2)
   (some p0)
   (br (!(andB (eqI y1.1.vr p2.r) (andB (eqI y1.1.vc p2.c) true)))
    (some p0)
    (bnd (ref06_Drop_s p0.store p1) fun y5 =>
     (bnd (ref01_Ver_s p3) fun y7 =>
      (br y7
       (br (!eqI p3.r p0.r)
        (bnd (ref06_With_s p0.k p1 p3) fun y11 =>
         some (State.mk p0.r p0.f y5 p0.out y11 p0.count p0.clock p0.epoch))
        (br (leI p3.c p0.count)
         (bnd (ref06_With_s p0.k p1 p3) fun y14 =>
          some (State.mk p0.r p0.f y5 p0.out y14 p0.count p0.clock p0.epoch))
         (some (State.mk p0.r p0.f y5 p0.out p0.k p0.count p0.clock p0.epoch))))
       (some (State.mk p0.r p0.f y5 p0.out p0.k p0.count p0.clock p0.epoch))))))))
variable {X:Task→Prop} (hX:Closed X) {Q:A→List Blk→Prop}
include hX
theorem ref09_Same_c  {p0:State} {p1:State} {r:Bool} (h:ref09_Same_s p0 p1=some r) (hQ:Q (.one (.p (.v (.bool r)))) []):X (.call 35 [.agg (State.cs p0),.agg (State.cs p1)] [] Q):=by
  have K:=fun a (e:some a=some r)=>ret_some (f:=fun y=>.one (.p (.v (.bool y)))) (g:=fun y=>[]) e hQ
  unfold ref09_Same_s at h
  refine call_intro hX Tryz.func35 rfl rfl ?_
  conv=>whnf
  repeat((first|refine dw ?_);conv=>whnf)
  revert h
  refine brk (fun c1 h=>?_) (fun c1 h=>?_)
  ·conv=>whnf
   repeat((first|refine dw ?_|refine bct c1 ?_);conv=>whnf)
   exact K _ h
  ·conv=>whnf
   repeat((first|refine dw ?_|refine bcf c1 ?_);conv=>whnf)
   revert h
   refine brk (fun c2 h=>?_) (fun c2 h=>?_)
   ·conv=>whnf
    repeat((first|refine dw ?_|refine bct c2 ?_);conv=>whnf)
    exact K _ h
   ·conv=>whnf
    repeat((first|refine dw ?_|refine bcf c2 ?_);conv=>whnf)
    revert h
    refine brk (fun c3 h=>?_) (fun c3 h=>?_)
    ·conv=>whnf
     repeat((first|refine dw ?_|refine bct c3 ?_);conv=>whnf)
     exact K _ h
    ·conv=>whnf
     repeat((first|refine dw ?_|refine bcf c3 ?_);conv=>whnf)
     revert h
     refine brk (fun c4 h=>?_) (fun c4 h=>?_)
     ·conv=>whnf
      repeat((first|refine dw ?_|refine bct c4 ?_);conv=>whnf)
      exact K _ h
     ·revert h
      refine bndk fun y5 e6 h=>?_
      conv=>whnf
      repeat((first|refine dw ?_|refine bcf c4 ?_);conv=>whnf)
      refine ref03_Same_c hX e6 ?_
      revert h
      refine bndk fun y7 e8 h=>?_
      conv=>whnf
      repeat((first|refine dw ?_);conv=>whnf)
      refine ref06_SameList_c hX e8 ?_
      revert h
      refine bndk fun y9 e10 h=>?_
      conv=>whnf
      repeat((first|refine dw ?_);conv=>whnf)
      refine ref06_SameList_c hX e10 ?_
      revert h
      refine bndk fun y11 e12 h=>?_
      conv=>whnf
      repeat((first|refine dw ?_);conv=>whnf)
      refine ref06_Alike_c hX e12 ?_
      conv=>whnf
      repeat((first|refine dw ?_);conv=>whnf)
      revert h
      refine brk (fun c13 h=>?_) (fun c13 h=>?_)
      ·conv=>whnf
       repeat((first|refine dw ?_|refine bct c13 ?_);conv=>whnf)
       revert h
       refine brk (fun c14 h=>?_) (fun c14 h=>?_)
       ·conv=>whnf
        repeat((first|refine dw ?_|refine bct c14 ?_);conv=>whnf)
        revert h
        refine brk (fun c15 h=>?_) (fun c15 h=>?_)
        ·conv=>whnf
         repeat((first|refine dw ?_|refine bct c15 ?_);conv=>whnf)
         exact K _ h
        ·conv=>whnf
         repeat((first|refine dw ?_|refine bcf c15 ?_);conv=>whnf)
         exact K _ h
       ·conv=>whnf
        repeat((first|refine dw ?_|refine bcf c14 ?_);conv=>whnf)
        exact K _ h
      ·conv=>whnf
       repeat((first|refine dw ?_|refine bcf c13 ?_);conv=>whnf)
       exact K _ h
theorem ref09_New_c  {p0:Int} {p1:Pred} {r:State × Int} (h:ref09_New_s p0 p1=some r) (hQ:Q (.tup [.agg (State.cs r.1),iv r.2]) []):X (.call 47 [iv p0,.agg (Pred.cs p1)] [] Q):=by
  have K:=fun a (e:some a=some r)=>ret_some (f:=fun y=>.tup [.agg (State.cs y.1),iv y.2]) (g:=fun y=>[]) e hQ
  unfold ref09_New_s at h
  refine call_nz hX ?_
  conv=>whnf
  refine call_intro hX Tryz.func47 rfl rfl ?_
  revert h
  refine bndk fun y1 e2 h=>?_
  conv=>whnf
  repeat((first|refine dw ?_);conv=>whnf)
  refine ref03_May_c hX e2 ?_
  conv=>whnf
  repeat((first|refine dw ?_);conv=>whnf)
  revert h
  refine brk (fun c3 h=>?_) (fun c3 h=>?_)
  ·conv=>whnf
   repeat((first|refine dw ?_|refine bct c3 ?_);conv=>whnf)
   exact K _ h
  ·conv=>whnf
   repeat((first|refine dw ?_|refine bcf c3 ?_);conv=>whnf)
   revert h
   refine brk (fun c4 h=>?_) (fun c4 h=>?_)
   ·conv=>whnf
    repeat((first|refine dw ?_|refine bct c4 ?_);conv=>whnf)
    exact K _ h
   ·conv=>whnf
    repeat((first|refine dw ?_|refine bcf c4 ?_);conv=>whnf)
    revert h
    refine brk (fun c5 h=>?_) (fun c5 h=>?_)
    ·conv=>whnf
     repeat((first|refine dw ?_|refine bct c5 ?_);conv=>whnf)
     exact K _ h
    ·conv=>whnf
     repeat((first|refine dw ?_|refine bcf c5 ?_);conv=>whnf)
     exact K _ h
theorem ref09_Stands_c  {p0:State} {p1:ByteArray} {r:Item × Bool} (h:ref09_Stands_s p0 p1=some r) (hQ:Q (.tup [.agg (Item.cs r.1),.one (.p (.v (.bool r.2)))]) []):X (.call 41 [.agg (State.cs p0),.one (.p (.v (.string p1)))] [] Q):=by
 unfold ref09_Stands_s at h
 refine call_intro hX Tryz.func41 rfl rfl ?_
 revert h
 refine bndk fun y1 e2 h=>?_
 conv=>whnf
 repeat((first|refine dw ?_);conv=>whnf)
 refine ref06_Both_c hX e2 ?_
 revert h
 refine bndk fun y3 e4 h=>?_
 conv=>whnf
 repeat((first|refine dw ?_);conv=>whnf)
 refine ref06_Get_c hX e4 ?_
 conv=>whnf
 repeat((first|refine dw ?_);conv=>whnf)
 exact ret_some (f:=fun y=>.tup [.agg (Item.cs y.1),.one (.p (.v (.bool y.2)))]) (g:=fun y=>[]) h hQ
theorem ref09_laid_c  {p0:State} {p1:Item} {p2:Bool} {r:State} (h:ref09_laid_s p0 p1 p2=some r) (hQ:Q (.agg (State.cs r)) []):X (.call 102 [.agg (State.cs p0),.agg (Item.cs p1),.one (.p (.v (.bool p2)))] [] Q):=by
  have K:=fun a (e:some a=some r)=>ret_some (f:=fun y=>.agg (State.cs y)) (g:=fun y=>[]) e hQ
  unfold ref09_laid_s at h
  refine call_nz hX ?_
  conv=>whnf
  refine call_intro hX Tryz.func102 rfl rfl ?_
  revert h
  refine bndk fun y1 e2 h=>?_
  conv=>whnf
  repeat((first|refine dw ?_);conv=>whnf)
  refine ref06_Drop_c hX e2 ?_
  revert h
  refine bndk fun y3 e4 h=>?_
  conv=>whnf
  repeat((first|refine dw ?_);conv=>whnf)
  refine ref06_Drop_c hX e4 ?_
  revert h
  refine bndk fun y5 e6 h=>?_
  conv=>whnf
  repeat((first|refine dw ?_);conv=>whnf)
  refine ref03_Has_c hX e6 ?_
  conv=>whnf
  repeat((first|refine dw ?_);conv=>whnf)
  revert h
  refine brk (fun c7 h=>?_) (fun c7 h=>?_)
  ·revert h
   refine bndk fun y8 e9 h=>?_
   conv=>whnf
   repeat((first|refine dw ?_|refine bct c7 ?_);conv=>whnf)
   refine Or.inl ?_
   conv=>whnf
   refine ref06_Put_c hX e9 ?_
   conv=>whnf
   repeat((first|refine dw ?_);conv=>whnf)
   exact K _ h
  ·conv=>whnf
   repeat((first|refine dw ?_|refine bcf c7 ?_);conv=>whnf)
   revert h
   refine brk (fun c10 h=>?_) (fun c10 h=>?_)
   ·revert h
    refine bndk fun y11 e12 h=>?_
    conv=>whnf
    repeat((first|refine dw ?_|refine bct c10 ?_);conv=>whnf)
    refine Or.inl ?_
    conv=>whnf
    refine ref06_Put_c hX e12 ?_
    conv=>whnf
    repeat((first|refine dw ?_);conv=>whnf)
    exact K _ h
   ·conv=>whnf
    repeat((first|refine dw ?_|refine bcf c10 ?_);conv=>whnf)
    exact K _ h
theorem ref09_made_c  {p0:State} {p1:Item} {r:State × Int} (h:ref09_made_s p0 p1=some r) (hQ:Q (.tup [.agg (State.cs r.1),iv r.2]) []):X (.call 181 [.agg (State.cs p0),.agg (Item.cs p1)] [] Q):=by
  have K:=fun a (e:some a=some r)=>ret_some (f:=fun y=>.tup [.agg (State.cs y.1),iv y.2]) (g:=fun y=>[]) e hQ
  unfold ref09_made_s at h
  refine call_nz hX ?_
  conv=>whnf
  refine call_intro hX Tryz.func181 rfl rfl ?_
  conv=>whnf
  repeat((first|refine dw ?_);conv=>whnf)
  revert h
  refine brk (fun c1 h=>?_) (fun c1 h=>?_)
  ·conv=>whnf
   repeat((first|refine dw ?_|refine bct c1 ?_);conv=>whnf)
   exact K _ h
  ·conv=>whnf
   repeat((first|refine dw ?_|refine bcf c1 ?_);conv=>whnf)
   revert h
   refine brk (fun c2 h=>?_) (fun c2 h=>?_)
   ·conv=>whnf
    repeat((first|refine dw ?_|refine bct c2 ?_);conv=>whnf)
    exact K _ h
   ·revert h
    refine bndk fun y3 e4 h=>?_
    conv=>whnf
    repeat((first|refine dw ?_|refine bcf c2 ?_);conv=>whnf)
    refine ref06_Own_c hX e4 ?_
    revert h
    refine bndk fun y5 e6 h=>?_
    conv=>whnf
    repeat((first|refine dw ?_);conv=>whnf)
    refine ref09_laid_c hX e6 ?_
    conv=>whnf
    repeat((first|refine dw ?_);conv=>whnf)
    exact K _ h
theorem ref09_shape_c  {p0:ByteArray} {p1:ByteArray} {p2:Int} {p3r:Nat} {p3i:Nat} {r:Item × Bool} (h:ref09_shape_s p0 p1 p2 p3r p3i=some r) (hQ:Q (.tup [.agg (Item.cs r.1),.one (.p (.v (.bool r.2)))]) []):X (.call 180 [.one (.p (.v (.string p0))),.one (.p (.v (.string p1))),iv p2,.one (.p (.v (.complex .f64 p3r p3i)))] [] Q):=by
 unfold ref09_shape_s at h
 refine call_intro hX Tryz.func180 rfl rfl ?_
 revert h
 refine bndk fun y1 e2 h=>?_
 conv=>whnf
 repeat((first|refine dw ?_);conv=>whnf)
 refine ref01_May_c hX e2 ?_
 conv=>whnf
 repeat((first|refine dw ?_);conv=>whnf)
 exact ret_some (f:=fun y=>.tup [.agg (Item.cs y.1),.one (.p (.v (.bool y.2)))]) (g:=fun y=>[]) h hQ
theorem ref09_Create_c  {p0:State} {p1:ByteArray} {p2:ByteArray} {p3:Int} {p4r:Nat} {p4i:Nat} {r:State × Int} (h:ref09_Create_s p0 p1 p2 p3 p4r p4i=some r) (hQ:Q (.tup [.agg (State.cs r.1),iv r.2]) []):X (.call 118 [.agg (State.cs p0),.one (.p (.v (.string p1))),.one (.p (.v (.string p2))),iv p3,.one (.p (.v (.complex .f64 p4r p4i)))] [] Q):=by
  have K:=fun a (e:some a=some r)=>ret_some (f:=fun y=>.tup [.agg (State.cs y.1),iv y.2]) (g:=fun y=>[]) e hQ
  unfold ref09_Create_s at h
  refine call_nz hX ?_
  conv=>whnf
  refine call_intro hX Tryz.func118 rfl rfl ?_
  replace h:=bnd_some h
  obtain ⟨y1,e2,h⟩:=h
  conv=>whnf
  repeat((first|refine dw ?_);conv=>whnf)
  refine ref09_shape_c hX e2 ?_
  conv=>whnf
  repeat((first|refine dw ?_);conv=>whnf)
  refine br_some h (fun c3 g=>?_) (fun c3 g=>?_)
  ·replace h:=g
   clear g
   conv=>whnf
   repeat((first|refine dw ?_|refine bct c3 ?_);conv=>whnf)
   exact K _ h
  ·replace h:=g
   clear g
   replace h:=bnd_some h
   obtain ⟨y4,e5,h⟩:=h
   conv=>whnf
   repeat((first|refine dw ?_|refine bcf c3 ?_);conv=>whnf)
   refine ref09_Stands_c hX e5 ?_
   apply join0 (X:=X) (r:=r) (pad [(5,.one (.ptr 0 0)),(4,.one (.ptr 1 0)),(1,.one (.ptr 6 0)),(2,.one (.p (.v (.bool y4.2))))] 42) ([.box (State.cs p0),.box [ic 0,ic 0,.p (.v (.string ⟨#[]⟩)),ic 0,.p (.v (.complex .f64 0 0)),.own 2,.own 3,.own 4,ic 0,ic 0,ic 0,ic 0,ic 0,ic 0,ic 0,ic 0,.own 5,ic 0,ic 0,ic 0],.rows 0 [],.rows 0 [],.rows 0 [],.rows 0 [],.box (Item.cs y1.1)])
   ·intro tl1
    conv=>whnf
    repeat((first|refine dw ?_);conv=>whnf)
    refine br_some h (fun c10 g=>?_) (fun c10 g=>?_)
    ·replace h:=g
     clear g
     conv=>whnf
     repeat((first|refine dw ?_|refine bct c10 ?_);conv=>whnf)
     refine br_some h (fun c11 g=>?_) (fun c11 g=>?_)
     ·replace h:=g
      clear g
      conv=>whnf
      repeat((first|refine dw ?_|refine bct c11 ?_);conv=>whnf)
      exact K _ h
     ·replace h:=g
      clear g
      conv=>whnf
      repeat((first|refine dw ?_|refine bcf c11 ?_);conv=>whnf)
      exact tl1.h  h
    ·replace h:=g
     clear g
     conv=>whnf
     repeat((first|refine dw ?_|refine bcf c10 ?_);conv=>whnf)
     exact tl1.h  h
   ·intro h
    unfold ref09_Create_j1 at h
    refine rest_intro hX ?_
    apply join0 (X:=X) (r:=r) (pad [(5,.one (.ptr 0 0)),(4,.one (.ptr 1 0)),(1,.one (.ptr 6 0))] 45) ([.box (State.cs p0),.box [ic 0,ic 0,.p (.v (.string ⟨#[]⟩)),ic 0,.p (.v (.complex .f64 0 0)),.own 2,.own 3,.own 4,ic 0,ic 0,ic 0,ic 0,ic 0,ic 0,ic 0,ic 0,.own 5,ic 0,ic 0,ic 0],.rows 0 [],.rows 0 [],.rows 0 [],.rows 0 [],.box (Item.cs y1.1)])
    ·intro tl2
     conv=>whnf
     repeat((first|refine dw ?_);conv=>whnf)
     refine br_some h (fun c8 g=>?_) (fun c8 g=>?_)
     ·replace h:=g
      clear g
      conv=>whnf
      repeat((first|refine dw ?_|refine bct c8 ?_|refine eqv_to (map_len _) ?_);conv=>whnf)
      refine br_some h (fun c9 g=>?_) (fun c9 g=>?_)
      ·replace h:=g
       clear g
       conv=>whnf
       repeat((first|refine dw ?_|refine bct c9 ?_);conv=>whnf)
       exact K _ h
      ·replace h:=g
       clear g
       conv=>whnf
       repeat((first|refine dw ?_|refine bcf c9 ?_);conv=>whnf)
       exact tl2.h  h
     ·replace h:=g
      clear g
      conv=>whnf
      repeat((first|refine dw ?_|refine bcf c8 ?_);conv=>whnf)
      exact tl2.h  h
    ·intro h
     unfold ref09_Create_j2 at h
     refine rest_intro hX ?_
     replace h:=bnd_some h
     obtain ⟨y6,e7,h⟩:=h
     conv=>whnf
     repeat((first|refine dw ?_);conv=>whnf)
     refine ref09_made_c hX e7 ?_
     conv=>whnf
     repeat((first|refine dw ?_);conv=>whnf)
     exact K _ h
theorem ref09_Update_c  {p0:State} {p1:ByteArray} {p2:ByteArray} {p3:Int} {p4r:Nat} {p4i:Nat} {r:State × Int} (h:ref09_Update_s p0 p1 p2 p3 p4r p4i=some r) (hQ:Q (.tup [.agg (State.cs r.1),iv r.2]) []):X (.call 119 [.agg (State.cs p0),.one (.p (.v (.string p1))),.one (.p (.v (.string p2))),iv p3,.one (.p (.v (.complex .f64 p4r p4i)))] [] Q):=by
  have K:=fun a (e:some a=some r)=>ret_some (f:=fun y=>.tup [.agg (State.cs y.1),iv y.2]) (g:=fun y=>[]) e hQ
  unfold ref09_Update_s at h
  refine call_nz hX ?_
  conv=>whnf
  refine call_intro hX Tryz.func119 rfl rfl ?_
  revert h
  refine bndk fun y1 e2 h=>?_
  conv=>whnf
  repeat((first|refine dw ?_);conv=>whnf)
  refine ref09_shape_c hX e2 ?_
  conv=>whnf
  repeat((first|refine dw ?_);conv=>whnf)
  revert h
  refine brk (fun c3 h=>?_) (fun c3 h=>?_)
  ·conv=>whnf
   repeat((first|refine dw ?_|refine bct c3 ?_);conv=>whnf)
   exact K _ h
  ·revert h
   refine bndk fun y4 e5 h=>?_
   conv=>whnf
   repeat((first|refine dw ?_|refine bcf c3 ?_);conv=>whnf)
   refine ref09_Stands_c hX e5 ?_
   conv=>whnf
   repeat((first|refine dw ?_);conv=>whnf)
   revert h
   refine brk (fun c6 h=>?_) (fun c6 h=>?_)
   ·conv=>whnf
    repeat((first|refine dw ?_|refine bct c6 ?_);conv=>whnf)
    exact K _ h
   ·conv=>whnf
    repeat((first|refine dw ?_|refine bcf c6 ?_);conv=>whnf)
    revert h
    refine brk (fun c7 h=>?_) (fun c7 h=>?_)
    ·conv=>whnf
     repeat((first|refine dw ?_|refine bct c7 ?_);conv=>whnf)
     exact K _ h
    ·revert h
     refine bndk fun y8 e9 h=>?_
     conv=>whnf
     repeat((first|refine dw ?_|refine bcf c7 ?_);conv=>whnf)
     refine ref09_made_c hX e9 ?_
     conv=>whnf
     repeat((first|refine dw ?_);conv=>whnf)
     exact K _ h
theorem ref09_Delete_c  {p0:State} {p1:ByteArray} {r:State × Int} (h:ref09_Delete_s p0 p1=some r) (hQ:Q (.tup [.agg (State.cs r.1),iv r.2]) []):X (.call 120 [.agg (State.cs p0),.one (.p (.v (.string p1)))] [] Q):=by
  have K:=fun a (e:some a=some r)=>ret_some (f:=fun y=>.tup [.agg (State.cs y.1),iv y.2]) (g:=fun y=>[]) e hQ
  unfold ref09_Delete_s at h
  refine call_nz hX ?_
  conv=>whnf
  refine call_intro hX Tryz.func120 rfl rfl ?_
  revert h
  refine bndk fun y1 e2 h=>?_
  conv=>whnf
  repeat((first|refine dw ?_);conv=>whnf)
  refine ref01_Name_c hX e2 ?_
  conv=>whnf
  repeat((first|refine dw ?_);conv=>whnf)
  revert h
  refine brk (fun c3 h=>?_) (fun c3 h=>?_)
  ·conv=>whnf
   repeat((first|refine dw ?_|refine bct c3 ?_);conv=>whnf)
   exact K _ h
  ·revert h
   refine bndk fun y4 e5 h=>?_
   conv=>whnf
   repeat((first|refine dw ?_|refine bcf c3 ?_);conv=>whnf)
   refine ref09_Stands_c hX e5 ?_
   conv=>whnf
   repeat((first|refine dw ?_);conv=>whnf)
   revert h
   refine brk (fun c6 h=>?_) (fun c6 h=>?_)
   ·conv=>whnf
    repeat((first|refine dw ?_|refine bct c6 ?_);conv=>whnf)
    exact K _ h
   ·conv=>whnf
    repeat((first|refine dw ?_|refine bcf c6 ?_);conv=>whnf)
    revert h
    refine brk (fun c7 h=>?_) (fun c7 h=>?_)
    ·conv=>whnf
     repeat((first|refine dw ?_|refine bct c7 ?_);conv=>whnf)
     exact K _ h
    ·revert h
     refine bndk fun y8 e9 h=>?_
     conv=>whnf
     repeat((first|refine dw ?_|refine bcf c7 ?_);conv=>whnf)
     refine ref09_made_c hX e9 ?_
     conv=>whnf
     repeat((first|refine dw ?_);conv=>whnf)
     exact K _ h
theorem ref09_Filter_c  {p0:State} {p1:Pred} {r:State × Int} (h:ref09_Filter_s p0 p1=some r) (hQ:Q (.tup [.agg (State.cs r.1),iv r.2]) []):X (.call 121 [.agg (State.cs p0),.agg (Pred.cs p1)] [] Q):=by
  have K:=fun a (e:some a=some r)=>ret_some (f:=fun y=>.tup [.agg (State.cs y.1),iv y.2]) (g:=fun y=>[]) e hQ
  unfold ref09_Filter_s at h
  refine call_nz hX ?_
  conv=>whnf
  refine call_intro hX Tryz.func121 rfl rfl ?_
  replace h:=bnd_some h
  obtain ⟨y1,e2,h⟩:=h
  conv=>whnf
  repeat((first|refine dw ?_);conv=>whnf)
  refine ref03_May_c hX e2 ?_
  apply join0 (X:=X) (r:=r) (pad [(2,.one (.ptr 0 0)),(0,.one (.ptr 1 0)),(0,.one (.ptr 2 0))] 68) ([.box (State.cs p0),.box (Pred.cs p1),.box [ic 0,ic 0,.p (.v (.string ⟨#[]⟩)),ic 0,.p (.v (.complex .f64 0 0)),.own 3,.own 4,.own 5,ic 0,ic 0,ic 0,ic 0,ic 0,ic 0,ic 0,ic 0,.own 6,ic 0,ic 0,ic 0],.rows 0 [],.rows 0 [],.rows 0 [],.rows 0 []])
  ·intro tl1
   conv=>whnf
   repeat((first|refine dw ?_);conv=>whnf)
   refine br_some h (fun c33 g=>?_) (fun c33 g=>?_)
   ·replace h:=g
    clear g
    conv=>whnf
    repeat((first|refine dw ?_|refine bct c33 ?_);conv=>whnf)
    exact K _ h
   ·replace h:=g
    clear g
    conv=>whnf
    repeat((first|refine dw ?_|refine bcf c33 ?_);conv=>whnf)
    refine br_some h (fun c34 g=>?_) (fun c34 g=>?_)
    ·replace h:=g
     clear g
     conv=>whnf
     repeat((first|refine dw ?_|refine bct c34 ?_|refine bcf c33 ?_);conv=>whnf)
     refine br_some h (fun c35 g=>?_) (fun c35 g=>?_)
     ·replace h:=g
      clear g
      conv=>whnf
      repeat((first|refine dw ?_|refine bct c35 ?_);conv=>whnf)
      exact K _ h
     ·replace h:=g
      clear g
      conv=>whnf
      repeat((first|refine dw ?_|refine bcf c35 ?_);conv=>whnf)
      exact tl1.h  h
    ·replace h:=g
     clear g
     conv=>whnf
     repeat((first|refine dw ?_|refine bcf c34 ?_|refine bcf c33 ?_);conv=>whnf)
     exact tl1.h  h
  ·intro h
   unfold ref09_Filter_j1 at h
   refine rest_intro hX ?_
   conv=>whnf
   repeat((first|refine dw ?_);conv=>whnf)
   refine br_some h (fun c3 g=>?_) (fun c3 g=>?_)
   ·replace h:=g
    clear g
    conv=>whnf
    repeat((first|refine dw ?_|refine bct c3 ?_);conv=>whnf)
    exact K _ h
   ·replace h:=g
    clear g
    replace h:=bnd_some h
    obtain ⟨y4,e5,h⟩:=h
    conv=>whnf
    repeat((first|refine dw ?_|refine bcf c3 ?_);conv=>whnf)
    refine ref06_Both_c hX e5 ?_
    replace h:=chk_some h
    obtain ⟨hs2,h⟩:=h
    conv=>whnf
    repeat((first|refine dw ?_);conv=>whnf)
    refine loop_nk hX ?_
    conv=>whnf
    refine Two.r (Two.r ?_)
    conv=>whnf
    refine Two.r (Two.r ?_)
    conv=>whnf
    refine Two.r (Two.r ?_)
    conv=>whnf
    refine loop_lisx1 (fun (v6:Int) (v28:State)=>pad [(4,.one (.ptr 0 0)),(2,.one (.p (.sl (y4.map Item.row)))),(0,.one (.ptr 5 0)),(0,iv v6)] 63) (fun (v6:Int) (v28:State)=>[.box [ic 0,ic 0,.p (.v (.string ⟨#[]⟩)),ic 0,.p (.v (.complex .f64 0 0)),.own 1,.own 2,.own 3,ic 0,ic 0,ic 0,ic 0,ic 0,ic 0,ic 0,ic 0,.own 4,ic 0,ic 0,ic 0],.rows 0 [],.rows 0 [],.rows 0 [],.rows 0 [],.box (State.cs v28)]) _ y4 (fun pre2 x2e xs2 v6 v28 hl2 hi2 h ih2=>?_) (fun v6 v28 hi2 h=>?_) (State.mk p0.r p1 ([]:List Item) ([]:List Item) (Know.mk (V8.mk 0 0 0 0 0 0 0 0) ([]:List Frag)) p0.count p0.clock (wr .i64 (p0.epoch + 1))) h
    ·rw [ref09_Filter_l2] at h
     have am2:=at_mid hl2 hi2
     refine loop_intro hX ?_
     replace h:=bnd_some h
     obtain ⟨y29,e30,h⟩:=h
     conv=>whnf
     repeat((first|refine dw ?_|refine eqv_to (map_len _) ?_|refine bct (lt_mid hl2 hi2) ?_|refine bct (at_in am2) ?_|refine bct (andt (at_in am2) rfl) ?_|refine row_in (at_row am2) ?_|refine bct (andt (at_in (at_nat am2)) rfl) ?_|refine row_in (at_row (at_nat am2)) ?_);conv=>whnf)
     refine ref06_With_c hX e30 ?_
     replace h:=bnd_some h
     obtain ⟨y31,e32,h⟩:=h
     conv=>whnf
     repeat((first|refine dw ?_|refine bct (at_in am2) ?_|refine bct (andt (at_in am2) rfl) ?_|refine row_in (at_row am2) ?_|refine bct (andt (at_in (at_nat am2)) rfl) ?_|refine row_in (at_row (at_nat am2)) ?_);conv=>whnf)
     refine ref09_laid_c hX e32 ?_
     conv=>whnf
     repeat((first|refine dw ?_);conv=>whnf)
     exact ih2 _ y31 (wrL hs2 hl2 hi2) h
    ·rw [ref09_Filter_l2] at h
     refine loop_intro hX ?_
     conv=>whnf
     repeat((first|refine dw ?_|refine eqv_to (map_len _) ?_|refine bcf (lt_end hi2) ?_);conv=>whnf)
     exact K _ h
theorem ref09_Item_c  {p0:State} {p1:Item} {r:State × Int} (h:ref09_Item_s p0 p1=some r) (hQ:Q (.tup [.agg (State.cs r.1),iv r.2]) []):X (.call 34 [.agg (State.cs p0),.agg (Item.cs p1)] [] Q):=by
  have K:=fun a (e:some a=some r)=>ret_some (f:=fun y=>.tup [.agg (State.cs y.1),iv y.2]) (g:=fun y=>[]) e hQ
  unfold ref09_Item_s at h
  refine call_nz hX ?_
  conv=>whnf
  refine call_intro hX Tryz.func34 rfl rfl ?_
  replace h:=bnd_some h
  obtain ⟨y1,e2,h⟩:=h
  conv=>whnf
  repeat((first|refine dw ?_);conv=>whnf)
  refine ref01_May_c hX e2 ?_
  apply join0 (X:=X) (r:=r) (pad [(2,.one (.ptr 0 0)),(0,.one (.ptr 1 0)),(0,.one (.ptr 2 0))] 94) ([.box (State.cs p0),.box (Item.cs p1),.box [ic 0,ic 0,.p (.v (.string ⟨#[]⟩)),ic 0,.p (.v (.complex .f64 0 0)),.own 3,.own 4,.own 5,ic 0,ic 0,ic 0,ic 0,ic 0,ic 0,ic 0,ic 0,.own 6,ic 0,ic 0,ic 0],.rows 0 [],.rows 0 [],.rows 0 [],.rows 0 []])
  ·intro tl1
   conv=>whnf
   repeat((first|refine dw ?_);conv=>whnf)
   refine br_some h (fun c26 g=>?_) (fun c26 g=>?_)
   ·replace h:=g
    clear g
    conv=>whnf
    repeat((first|refine dw ?_|refine bct c26 ?_);conv=>whnf)
    exact K _ h
   ·replace h:=g
    clear g
    conv=>whnf
    repeat((first|refine dw ?_|refine bcf c26 ?_);conv=>whnf)
    refine br_some h (fun c27 g=>?_) (fun c27 g=>?_)
    ·replace h:=g
     clear g
     conv=>whnf
     repeat((first|refine dw ?_|refine bct c27 ?_|refine bcf c26 ?_);conv=>whnf)
     refine br_some h (fun c28 g=>?_) (fun c28 g=>?_)
     ·replace h:=g
      clear g
      conv=>whnf
      repeat((first|refine dw ?_|refine bct c28 ?_);conv=>whnf)
      exact K _ h
     ·replace h:=g
      clear g
      conv=>whnf
      repeat((first|refine dw ?_|refine bcf c28 ?_);conv=>whnf)
      exact tl1.h  h
    ·replace h:=g
     clear g
     conv=>whnf
     repeat((first|refine dw ?_|refine bcf c27 ?_|refine bcf c26 ?_);conv=>whnf)
     exact tl1.h  h
  ·intro h
   unfold ref09_Item_j1 at h
   refine rest_intro hX ?_
   replace h:=bnd_some h
   obtain ⟨y3,e4,h⟩:=h
   conv=>whnf
   repeat((first|refine dw ?_);conv=>whnf)
   refine ref06_Has_c hX e4 ?_
   conv=>whnf
   repeat((first|refine dw ?_);conv=>whnf)
   refine br_some h (fun c5 g=>?_) (fun c5 g=>?_)
   ·replace h:=g
    clear g
    conv=>whnf
    repeat((first|refine dw ?_|refine bct c5 ?_);conv=>whnf)
    exact K _ h
   ·replace h:=g
    clear g
    replace h:=bnd_some h
    obtain ⟨y6,e7,h⟩:=h
    conv=>whnf
    repeat((first|refine dw ?_|refine bcf c5 ?_);conv=>whnf)
    refine ref09_Stands_c hX e7 ?_
    apply join1 (X:=X) (r:=r) (fun (v8:Bool)=>pad [(2,.one (.ptr 0 0)),(0,.one (.ptr 1 0)),(0,.one (.ptr 2 0)),(3,.one (.p (.v (.bool y6.2)))),(0,.one (.p (.v (.bool v8))))] 89) (fun (v8:Bool)=>[.box (State.cs p0),.box (Item.cs p1),.box [ic 0,ic 0,.p (.v (.string ⟨#[]⟩)),ic 0,.p (.v (.complex .f64 0 0)),.own 3,.own 4,.own 5,ic 0,ic 0,ic 0,ic 0,ic 0,ic 0,ic 0,ic 0,.own 6,ic 0,ic 0,ic 0],.rows 0 [],.rows 0 [],.rows 0 [],.rows 0 []])
    ·intro tl2
     conv=>whnf
     repeat((first|refine dw ?_);conv=>whnf)
     refine br_some h (fun c22 g=>?_) (fun c22 g=>?_)
     ·replace h:=g
      clear g
      replace h:=bnd_some h
      obtain ⟨y23,e24,h⟩:=h
      conv=>whnf
      repeat((first|refine dw ?_|refine bct c22 ?_);conv=>whnf)
      refine ref01_Behind_c hX e24 ?_
      conv=>whnf
      repeat((first|refine dw ?_|refine bct c22 ?_);conv=>whnf)
      refine br_some h (fun c25 g=>?_) (fun c25 g=>?_)
      ·replace h:=g
       clear g
       conv=>whnf
       repeat((first|refine dw ?_|refine bct c25 ?_);conv=>whnf)
       exact tl2.h false h
      ·replace h:=g
       clear g
       conv=>whnf
       repeat((first|refine dw ?_|refine bcf c25 ?_);conv=>whnf)
       exact tl2.h y6.2 h
     ·replace h:=g
      clear g
      conv=>whnf
      repeat((first|refine dw ?_|refine bcf c22 ?_);conv=>whnf)
      exact tl2.h y6.2 h
    ·intro v8 h
     unfold ref09_Item_j2 at h
     refine rest_intro hX ?_
     replace h:=bnd_some h
     obtain ⟨y9,e10,h⟩:=h
     conv=>whnf
     repeat((first|refine dw ?_);conv=>whnf)
     refine ref03_Has_c hX e10 ?_
     apply join0 (X:=X) (r:=r) (pad [(2,.one (.ptr 0 0)),(0,.one (.ptr 1 0)),(0,.one (.ptr 2 0)),(4,.one (.p (.v (.bool v8))))] 89) ([.box (State.cs p0),.box (Item.cs p1),.box [ic 0,ic 0,.p (.v (.string ⟨#[]⟩)),ic 0,.p (.v (.complex .f64 0 0)),.own 3,.own 4,.own 5,ic 0,ic 0,ic 0,ic 0,ic 0,ic 0,ic 0,ic 0,.own 6,ic 0,ic 0,ic 0],.rows 0 [],.rows 0 [],.rows 0 [],.rows 0 []])
     ·intro tl3
      conv=>whnf
      repeat((first|refine dw ?_);conv=>whnf)
      refine br_some h (fun c18 g=>?_) (fun c18 g=>?_)
      ·replace h:=g
       clear g
       conv=>whnf
       repeat((first|refine dw ?_|refine bct c18 ?_);conv=>whnf)
       refine br_some h (fun c19 g=>?_) (fun c19 g=>?_)
       ·replace h:=g
        clear g
        conv=>whnf
        repeat((first|refine dw ?_|refine bct c19 ?_);conv=>whnf)
        refine br_some h (fun c20 g=>?_) (fun c20 g=>?_)
        ·replace h:=g
         clear g
         conv=>whnf
         repeat((first|refine dw ?_|refine bct c20 ?_|refine eqv_to (map_len _) ?_);conv=>whnf)
         refine br_some h (fun c21 g=>?_) (fun c21 g=>?_)
         ·replace h:=g
          clear g
          conv=>whnf
          repeat((first|refine dw ?_|refine bct c21 ?_);conv=>whnf)
          exact K _ h
         ·replace h:=g
          clear g
          conv=>whnf
          repeat((first|refine dw ?_|refine bcf c21 ?_);conv=>whnf)
          exact tl3.h  h
        ·replace h:=g
         clear g
         conv=>whnf
         repeat((first|refine dw ?_|refine bcf c20 ?_);conv=>whnf)
         exact tl3.h  h
       ·replace h:=g
        clear g
        conv=>whnf
        repeat((first|refine dw ?_|refine bcf c19 ?_);conv=>whnf)
        exact tl3.h  h
      ·replace h:=g
       clear g
       conv=>whnf
       repeat((first|refine dw ?_|refine bcf c18 ?_);conv=>whnf)
       exact tl3.h  h
     ·intro h
      unfold ref09_Item_j3 at h
      refine rest_intro hX ?_
      replace h:=bnd_some h
      obtain ⟨y11,e12,h⟩:=h
      conv=>whnf
      repeat((first|refine dw ?_);conv=>whnf)
      refine ref06_With_c hX e12 ?_
      apply join1 (X:=X) (r:=r) (fun (v13:Int)=>pad [(2,.one (.ptr 0 0)),(0,.one (.ptr 1 0)),(0,.one (.ptr 2 0)),(4,.one (.p (.v (.bool v8))))] 89) (fun (v13:Int)=>[.box [ic p0.r,ic p0.f.op,.p (.v (.string p0.f.text)),ic p0.f.n,.p (.v (.complex .f64 p0.f.re p0.f.im)),.p (.sl (Pred.rows p0.f.kids)),.p (.sl (p0.store.map Item.row)),.p (.sl (p0.out.map Item.row)),ic y11.star.x0,ic y11.star.x1,ic y11.star.x2,ic y11.star.x3,ic y11.star.x4,ic y11.star.x5,ic y11.star.x6,ic y11.star.x7,.p (.sl (y11.l.map Frag.row)),ic p0.count,ic v13,ic p0.epoch],.box (Item.cs p1),.box [ic 0,ic 0,.p (.v (.string ⟨#[]⟩)),ic 0,.p (.v (.complex .f64 0 0)),.own 3,.own 4,.own 5,ic 0,ic 0,ic 0,ic 0,ic 0,ic 0,ic 0,ic 0,.own 6,ic 0,ic 0,ic 0],.rows 0 [],.rows 0 [],.rows 0 [],.rows 0 []])
      ·intro tl4
       conv=>whnf
       repeat((first|refine dw ?_);conv=>whnf)
       refine br_some h (fun c17 g=>?_) (fun c17 g=>?_)
       ·replace h:=g
        clear g
        conv=>whnf
        repeat((first|refine dw ?_|refine bct c17 ?_);conv=>whnf)
        exact tl4.h p1.stamp h
       ·replace h:=g
        clear g
        conv=>whnf
        repeat((first|refine dw ?_|refine bcf c17 ?_);conv=>whnf)
        exact tl4.h p0.clock h
      ·intro v13 h
       unfold ref09_Item_j4 at h
       refine rest_intro hX ?_
       conv=>whnf
       repeat((first|refine dw ?_);conv=>whnf)
       refine br_some h (fun c14 g=>?_) (fun c14 g=>?_)
       ·replace h:=g
        clear g
        conv=>whnf
        repeat((first|refine dw ?_|refine bct c14 ?_);conv=>whnf)
        exact K _ h
       ·replace h:=g
        clear g
        replace h:=bnd_some h
        obtain ⟨y15,e16,h⟩:=h
        conv=>whnf
        repeat((first|refine dw ?_|refine bcf c14 ?_);conv=>whnf)
        refine ref09_laid_c hX e16 ?_
        conv=>whnf
        repeat((first|refine dw ?_);conv=>whnf)
        exact K _ h
theorem ref09_Goes_c  {p0:State} {p1:ByteArray} {p2:Ver} {p3:Ver} {r:State} (h:ref09_Goes_s p0 p1 p2 p3=some r) (hQ:Q (.agg (State.cs r)) []):X (.call 38 [.agg (State.cs p0),.one (.p (.v (.string p1))),.agg (Ver.cs p2),.agg (Ver.cs p3)] [] Q):=by
  have K:=fun a (e:some a=some r)=>ret_some (f:=fun y=>.agg (State.cs y)) (g:=fun y=>[]) e hQ
  unfold ref09_Goes_s at h
  refine call_nz hX ?_
  conv=>whnf
  refine call_intro hX Tryz.func38 rfl rfl ?_
  revert h
  refine bndk fun y1 e2 h=>?_
  conv=>whnf
  repeat((first|refine dw ?_);conv=>whnf)
  refine ref06_Get_c hX e2 ?_
  conv=>whnf
  repeat((first|refine dw ?_);conv=>whnf)
  revert h
  refine brk (fun c3 h=>?_) (fun c3 h=>?_)
  ·conv=>whnf
   repeat((first|refine dw ?_|refine bct c3 ?_);conv=>whnf)
   exact K _ h
  ·conv=>whnf
   repeat((first|refine dw ?_|refine bcf c3 ?_);conv=>whnf)
   revert h
   refine brk (fun c4 h=>?_) (fun c4 h=>?_)
   ·conv=>whnf
    repeat((first|refine dw ?_|refine bct c4 ?_);conv=>whnf)
    exact K _ h
   ·revert h
    refine bndk fun y5 e6 h=>?_
    conv=>whnf
    repeat((first|refine dw ?_|refine bcf c4 ?_);conv=>whnf)
    refine ref06_Drop_c hX e6 ?_
    revert h
    refine bndk fun y7 e8 h=>?_
    conv=>whnf
    repeat((first|refine dw ?_);conv=>whnf)
    refine ref01_Ver_c hX e8 ?_
    conv=>whnf
    repeat((first|refine dw ?_);conv=>whnf)
    revert h
    refine brk (fun c9 h=>?_) (fun c9 h=>?_)
    ·conv=>whnf
     repeat((first|refine dw ?_|refine bct c9 ?_);conv=>whnf)
     revert h
     refine brk (fun c10 h=>?_) (fun c10 h=>?_)
     ·revert h
      refine bndk fun y11 e12 h=>?_
      conv=>whnf
      repeat((first|refine dw ?_|refine bct c10 ?_|refine bct c9 ?_);conv=>whnf)
      refine ref06_With_c hX e12 ?_
      conv=>whnf
      repeat((first|refine dw ?_);conv=>whnf)
      exact K _ h
     ·conv=>whnf
      repeat((first|refine dw ?_|refine bcf c10 ?_|refine bct c9 ?_);conv=>whnf)
      revert h
      refine brk (fun c13 h=>?_) (fun c13 h=>?_)
      ·revert h
       refine bndk fun y14 e15 h=>?_
       conv=>whnf
       repeat((first|refine dw ?_|refine bct c13 ?_);conv=>whnf)
       refine ref06_With_c hX e15 ?_
       conv=>whnf
       repeat((first|refine dw ?_);conv=>whnf)
       exact K _ h
      ·conv=>whnf
       repeat((first|refine dw ?_|refine bcf c13 ?_);conv=>whnf)
       exact K _ h
    ·conv=>whnf
     repeat((first|refine dw ?_|refine bcf c9 ?_);conv=>whnf)
     exact K _ h
end
end Go.Proofs.YtidkmoohgadjkaaGreat
namespace Go.Proofs.YtidkmoohgadjkaaGreat
open Go E Pred
noncomputable section
open Classical
def Dj (a b:List Item):Prop:=∀ id,(lk a id).isSome=true→lk b id=none
theorem lk_head (x:Item) (l:List Item):lk (x::l) x.id=some x:=by rw [lk_cons,if_pos (eqS_self _)]
theorem lk_tail {x:Item} {l:List Item} {id:ByteArray} (h:(lk l id).isSome=true):(lk (x::l) id).isSome=true:=by
 rw [lk_cons]; split
 ·rfl
 ·exact h
theorem lk_tail_none {x:Item} {l:List Item} {id:ByteArray} (h:lk (x::l) id=none):lk l id=none:=by
 rw [lk_cons] at h
 split at h
 ·cases h
 ·exact h
theorem len_merge_dj:∀ (n:Nat) {a b:List Item},a.length + b.length < n→Dj a b→(mergeF n a b).length=a.length + b.length
 | 0,_,_,h,_=>by omega
 | n + 1,[],b,_,_=>by rw [mergeF]; simp
 | n + 1,x::a,[],_,_=>by rw [mergeF]; simp
 | n + 1,x::a,y::b,h,hd=>by
  rw [mergeF]
  simp only [List.length_cons] at h ⊢
  have hxy:x.id≠y.id:=fun e=>by
   have:=hd x.id (by rw [lk_head]; rfl)
   rw [e,lk_head] at this; cases this
  split
  ·rw [List.length_cons,len_merge_dj n (by simp only [List.length_cons]; omega) fun id hi=>hd id (lk_tail hi)]; simp only [List.length_cons]; omega
  ·split
   ·rw [List.length_cons,len_merge_dj n (by simp only [List.length_cons]; omega) fun id hi=>lk_tail_none (hd id hi)]; simp only [List.length_cons]; omega
   ·rename_i h1 h2
    simp only [Bool.not_eq_true] at h1 h2
    exact absurd (ltS_tri h1 h2) hxy
theorem len_both_dj {a b:List Item} (h:Dj a b):(bothV a b).length=a.length + b.length:=len_merge_dj _ (by omega) h
def disjB (a b:List Item):Bool:=b.all fun y=>(lk a y.id).isNone
theorem disjB_iff {a b:List Item}:disjB a b=true↔Dj a b:=by
 unfold disjB
 rw [List.all_eq_true]
 constructor
 ·intro h id hi
  cases hb:lk b id with
  | none=>rfl
  | some y =>
   obtain ⟨hy,rfl⟩:=lk_some hb
   have:=h y hy
   rw [Option.isNone_iff_eq_none] at this
   rw [this] at hi; cases hi
 ·intro h y hy
  rw [Option.isNone_iff_eq_none]
  cases ha:lk a y.id with
  | none=>rfl
  | some x =>
   have:=h y.id (by rw [ha]; rfl)
   exact absurd (lk_none.1 this y hy) (by rw [eqS_self]; simp)
def stoodB (s:State) (l:List Item) (b:Bool):Bool:=l.all fun i=>(hasP s.f i == b)&&(hasK s.k i.id i.vr i.vc&&leI i.stamp s.clock)
def beyondB (k:Know) (r n:Int):Bool:=ltI n (k.star.at r) || k.l.any fun f=>ltI n (f.vec.at r)
def numsB (x:State):Bool:=inN x.r 1 8&&(decide (x.store.length + x.out.length≤40)&&(inN x.count 0 1000&&(inN x.clock 0 1000000&&inN x.epoch 0 1000000)))
def mayS (x:State):Bool:=mayP x.f&&(mayListB x.store&&(mayListB x.out&&(mayK x.k&&(numsB x&&(disjB x.store x.out&&(stoodB x x.store true&&(stoodB x x.out false&&!beyondB x.k x.r x.count)))))))
structure StB (x:State):Prop where
 f:x.f.Ok
 fs:x.f.size≤1000
 store:∀ i∈x.store,i.Ok
 out:∀ i∈x.out,i.Ok
 sl:x.store.length≤1000
 ol:x.out.length≤1000
 k:KT x.k 90000
 ids:IdsOk x.k
theorem StOk.b {x:State} (h:StOk x) (hk:KB x.k 60):StB x:=⟨h.f,h.fs,h.store,h.out,by have:=h.sl; omega,by have:=h.ol; omega,hk.kt.mono (by decide),h.ids⟩
theorem brec_neq (a b:Bool):(@Bool.rec (fun _=>Bool) b (!b) a)=!(a == b):=by cases a<;>cases b<;>rfl
theorem rstood_l {x:State} (h:StB x) (b:Bool):∀ l:List Item,(∀ i∈l,i.Ok)→ref09_stood_l1 x b l=some (stoodB x l b)
 | [],_=>by rw [ref09_stood_l1]; rfl
 | i::l,hl=>by
  have ih:=rstood_l h b l fun j hj=>hl j (List.mem_cons_of_mem _ hj)
  rw [ref09_stood_l1,bnd_of (has3_s h.f (hl i (List.mem_cons_self ..))),bnd_of (hasK_s (by decide) h.k.kb),ih,brec_neq]
  unfold stoodB
  rw [List.all_cons]
  have e:ltI x.clock i.stamp=!leI i.stamp x.clock:=by
   cases h1:leI i.stamp x.clock with
   | true=>rw [leI_t] at h1; exact ltI_f.2 h1
   | false=>rw [leI_f] at h1; exact ltI_t.2 h1
  rw [e]
  generalize (hasP x.f i == b)=p
  generalize hasK x.k i.id _ _=q
  generalize leI i.stamp x.clock=r
  cases p<;>cases q<;>cases r<;>rfl
theorem rstood_s {x:State} (h:StB x) (b:Bool) {l:List Item} (hl:∀ i∈l,i.Ok) (hn:l.length≤1000):ref09_stood_s x l b=some (stoodB x l b):=by
 unfold ref09_stood_s; rw [chk_t (smallL_of (by omega)),rstood_l h b l hl]
theorem rbeyond_l (r n:Int):∀ l:List Frag,ref09_Beyond_l1 r n l=some (l.any fun f=>ltI n (f.vec.at r))
 | []=>by rw [ref09_Beyond_l1]; rfl
 | f::l=>by
  rw [ref09_Beyond_l1,bnd_of (show ref06_Count_s f.vec r=some (f.vec.at r) from rfl),rbeyond_l r n l,List.any_cons]
  cases ltI n (f.vec.at r)<;>rfl
theorem rbeyond_s {k:Know} {N:Nat} (h:KT k N) (hN:N≤1000000000) (r n:Int):ref09_Beyond_s k r n=some (beyondB k r n):=by
 unfold ref09_Beyond_s beyondB
 rw [bnd_of (show ref06_Count_s k.star r=some (k.star.at r) from rfl),chk_t (smallL_of (by have:=h.l; omega)),rbeyond_l]
 cases ltI n (k.star.at r)<;>rfl
theorem ltle (a b:Int):leI a b=!ltI b a:=by
 cases h:ltI b a with
 | true=>rw [ltI_t] at h; exact leI_f.2 h
 | false=>rw [ltI_f] at h; exact leI_t.2 h
end
end Go.Proofs.YtidkmoohgadjkaaGreat
namespace Go.Proofs.YtidkmoohgadjkaaGreat
open Go E Pred
noncomputable section
open Classical
theorem getI_snd (id:ByteArray) (l:List Item):(getI id l).2=(lk l id).isSome:=by
 rw [getI_lk]; cases lk l id<;>rfl
theorem rmay_l {x:State} (h:StB x):∀ l:List Item,ref09_May_l1 x l=some (l.all (fun y=>(lk x.store y.id).isNone)&&(stoodB x x.store true&&(stoodB x x.out false&&!beyondB x.k x.r x.count)))
 | []=>by
  rw [ref09_May_l1,bnd_of (rstood_s h true h.store h.sl),bnd_of (rstood_s h false h.out h.ol),bnd_of (rbeyond_s h.k (by decide) x.r x.count)]
  cases stoodB x x.store true<;>cases stoodB x x.out false<;>rfl
 | y::l=>by
  rw [ref09_May_l1,bnd_of (get_s (by have:=h.sl; omega)),getI_snd,rmay_l h l,List.all_cons]
  cases lk x.store y.id<;>rfl
theorem ltn (a b:Int):ltI a b=!leI b a:=by
 rw [ltle b a,Bool.not_not]
theorem rmay_s {x:State} (h:StB x):ref09_May_s x=some (mayS x):=by
 have hs:=h.sl
 have ho:=h.ol
 unfold ref09_May_s
 rw [bnd_of (may3_s h.f h.fs),bnd_of (mayList_s (by omega) h.store),bnd_of (mayList_s (by omega) h.out),bnd_of (rmayK_t h.k (by decide) h.ids),chk_t (smallL_of (by omega)),rmay_l h]
 have e:ltI 40 (wr .i64 ((x.store.length:Int) + (x.out.length:Int)))=!decide (x.store.length + x.out.length≤40):=by
  rw [wr64 (by omega) (by omega)]
  by_cases hl:x.store.length + x.out.length≤40
  ·rw [decide_eq_true hl]; exact ltI_f.2 (by omega)
  ·rw [decide_eq_false hl]; exact ltI_t.2 (by omega)
 rw [e]
 unfold mayS numsB inN disjB
 simp only [ltn]
 generalize mayP x.f=b1
 generalize mayListB x.store=b2
 generalize mayListB x.out=b3
 generalize mayK x.k=b4
 generalize leI 1 x.r=c1
 generalize leI x.r 8=c2
 generalize decide (x.store.length + x.out.length≤40)=c3
 generalize leI 0 x.count=c4
 generalize leI x.count 1000=c5
 generalize leI 0 x.clock=c6
 generalize leI x.clock 1000000=c7
 generalize leI 0 x.epoch=c8
 generalize leI x.epoch 1000000=c9
 cases b1 with
 | false=>rfl
 | true=>cases b2 with
  | false=>rfl
  | true=>cases b3 with
   | false=>rfl
   | true=>cases b4 with
    | false=>rfl
    | true=>cases c1 with
     | false=>rfl
     | true=>cases c2 with
      | false=>rfl
      | true=>cases c3 with
       | false=>rfl
       | true=>cases c4 with
        | false=>rfl
        | true=>cases c5 with
         | false=>rfl
         | true=>cases c6 with
          | false=>rfl
          | true=>cases c7 with
           | false=>rfl
           | true=>cases c8 with
            | false=>rfl
            | true=>cases c9 with
             | false=>rfl
             | true=>rfl
theorem pmay_s {p:Pred} (h:p.Ok):pred_May_s p=some (mayP p):=by unfold pred_May_s; rw [chk_t (decide_eq_true h)]
structure SOk (x:State) (N:Nat):Prop where
 f:x.f.Ok
 fs:x.f.size≤1000
 rs:Ris x.store
 ro:Ris x.out
 le:x.store.length + x.out.length≤40
 dj:Dj x.store x.out
 is:∀ i∈x.store,i.Ok∧mayI i=true
 io:∀ i∈x.out,i.Ok∧mayI i=true
 kt:KT x.k N
 ids:IdsOk x.k
 cn:0≤x.count∧x.count≤1000
 cl:0≤x.clock∧x.clock≤1000000
 ep:0≤x.epoch∧x.epoch≤1000000
theorem inN_iff {n a b:Int}:inN n a b=true↔a≤n∧n≤b:=by unfold inN; rw [Bool.and_eq_true,leI_t,leI_t]
theorem mayS_iff {x:State}:mayS x=true↔mayP x.f=true∧mayListB x.store=true∧mayListB x.out=true∧mayK x.k=true∧(1≤x.r∧x.r≤8)∧x.store.length + x.out.length≤40∧(0≤x.count∧x.count≤1000)∧(0≤x.clock∧x.clock≤1000000)∧(0≤x.epoch∧x.epoch≤1000000)∧Dj x.store x.out∧stoodB x x.store true=true∧stoodB x x.out false=true∧beyondB x.k x.r x.count=false:=by
 unfold mayS numsB
 simp only [Bool.and_eq_true,inN_iff,decide_eq_true_eq,disjB_iff,Bool.not_eq_true']
 constructor
 ·rintro ⟨a,b,c,d,⟨e,f,g,h,i⟩,j,k,l,m⟩; exact ⟨a,b,c,d,e,f,g,h,i,j,k,l,m⟩
 ·rintro ⟨a,b,c,d,e,f,g,h,i,j,k,l,m⟩; exact ⟨a,b,c,d,⟨e,f,g,h,i⟩,j,k,l,m⟩
theorem may_sok {x:State} {N:Nat} (h:mayS x=true) (hf:x.f.Ok) (hs:∀ i∈x.store,i.Ok) (ho:∀ i∈x.out,i.Ok) (hk:KT x.k N) (hi:IdsOk x.k):SOk x N:=by
 obtain ⟨a,b,c,d,e,f,g,h,i,j,k,l,m⟩:=mayS_iff.1 h
 have hsz:=(mayP_iff.1 a).1
 exact ⟨hf,by omega,may_ris b,may_ris c,f,j,fun y hy=>⟨hs y hy,may_all b y hy⟩,fun y hy=>⟨ho y hy,may_all c y hy⟩,hk,hi,g,h,i⟩
theorem clone_s_of {α:Type} {l:List α} (h:l.length≤1000000):clone_s l=some l:=by unfold clone_s; rw [chk_t (decide_eq_true h)]
theorem fresh_state {x:State} {N:Nat} (h:SOk x N) (hN:N≤900000):fresh_State_s x=some x:=by
 have:=h.le
 unfold fresh_State_s
 rw [bnd_of (fresh_pred fuelR (by have:=h.fs; unfold fuelR; omega) h.fs),bnd_of (fresh_know_t h.kt hN),bnd_of (clone_s_of (by omega)),bnd_of (clone_s_of (by omega))]
theorem SOk.mono {x:State} {N M:Nat} (h:SOk x N) (hm:N≤M):SOk x M:={ h with kt:=h.kt.mono hm }
end
end Go.Proofs.YtidkmoohgadjkaaGreat
set_option maxHeartbeats 0
namespace Go.Proofs.YtidkmoohgadjkaaGreat
open Go E
noncomputable section
open Pred
def recv_Item_j2 (p1:Item) (y1:State) (y10:Bool):Option (State × Option Int) :=
 (bnd (know_With_s y1.k p1.id (Ver.mk p1.vr p1.vc)) fun y13 =>
  (bnd (list_Drop_s y1.store p1.id) fun y15 =>
   (bnd (list_Drop_s y1.out p1.id) fun y17 =>
    (br y10
     (bnd (list_Put_s y15 p1) fun y20 =>
      some ((State.mk y1.r y1.f y20 y17 y13 y1.count (maxI y1.clock p1.stamp) y1.epoch),none))
     (some ((State.mk y1.r y1.f y15 y17 y13 y1.count (maxI y1.clock p1.stamp) y1.epoch),none))))))
def recv_Item_j3 (p1:Item) (y1:State) (y10:Bool) (y24:Int):Option (State × Option Int) :=
 (bnd (know_With_s y1.k p1.id (Ver.mk p1.vr p1.vc)) fun y26 =>
  (br (!(ltI 0 y24))
   (some ((State.mk y1.r y1.f y1.store y1.out y26 y1.count (maxI y1.clock p1.stamp) y1.epoch),none))
   (bnd (list_Drop_s y1.store p1.id) fun y29 =>
    (bnd (list_Drop_s y1.out p1.id) fun y31 =>
     (br y10
      (bnd (list_Put_s y29 p1) fun y34 =>
       some ((State.mk y1.r y1.f y34 y31 y26 y1.count (maxI y1.clock p1.stamp) y1.epoch),none))
      (some ((State.mk y1.r y1.f y29 y31 y26 y1.count (maxI y1.clock p1.stamp) y1.epoch),none)))))))
def recv_Item_j1 (p1:Item) (y1:State):Option (State × Option Int) :=
 (bnd (know_Has_s y1.k p1.id (Ver.mk p1.vr p1.vc)) fun y3 =>
  (br y3
   (some (y1,none))
   (bnd (list_Both_s y1.store y1.out) fun y6 =>
    (bnd (list_Get_s y6 p1.id) fun y8 =>
     (bnd (eval_Has_s y1.f p1) fun y10 =>
      (br (!y8.2)
       (br y10
        (br (leI 40 (y6.length:Int))
         (some (y1,(some 4)))
         (recv_Item_j2 p1 y1 y10 ))
        (recv_Item_j2 p1 y1 y10 ))
       (bnd (item_Compare_s p1 y8.1) fun y24 =>
        (br y10
         (recv_Item_j3 p1 y1 y10 y24 )
         (recv_Item_j3 p1 y1 y10 y24 )))))))))
def recv_Item_s (p0:State) (p1:Item):Option (State × Option Int) :=
 (bnd (fresh_State_s p0) fun y1 =>
  (bnd (item_May_s p1) fun y37 =>
   (br (!y37)
    (some (y1,(some 1)))
    (br (eqI p1.vr y1.r)
     (br (ltI y1.count p1.vc)
      (some (y1,(some 1)))
      (recv_Item_j1 p1 y1 ))
     (recv_Item_j1 p1 y1 )))))
def recv_Goes_s (p0:State) (p1:ByteArray) (p2:Ver) (p3:Ver):Option (State) :=
 (bnd (fresh_State_s p0) fun y1 =>
  (bnd (list_Get_s y1.store p1) fun y3 =>
   (br (!y3.2)
    (some y1)
    (br (!(andB (eqI y3.1.vr p2.r) (andB (eqI y3.1.vc p2.c) true)))
     (some y1)
     (bnd (list_Drop_s y1.store p1) fun y7 =>
      (br (leI 1 p3.r)
       (br (leI p3.r 8)
        (br (leI 1 p3.c)
         (br (leI p3.c 1000)
          (br (!eqI p3.r y1.r)
           (bnd (know_With_s y1.k p1 p3) fun y14 =>
            some (State.mk y1.r y1.f y7 y1.out y14 y1.count y1.clock y1.epoch))
           (br (leI p3.c y1.count)
            (bnd (know_With_s y1.k p1 p3) fun y17 =>
             some (State.mk y1.r y1.f y7 y1.out y17 y1.count y1.clock y1.epoch))
            (some (State.mk y1.r y1.f y7 y1.out y1.k y1.count y1.clock y1.epoch))))
          (some (State.mk y1.r y1.f y7 y1.out y1.k y1.count y1.clock y1.epoch)))
         (some (State.mk y1.r y1.f y7 y1.out y1.k y1.count y1.clock y1.epoch)))
        (some (State.mk y1.r y1.f y7 y1.out y1.k y1.count y1.clock y1.epoch)))
       (some (State.mk y1.r y1.f y7 y1.out y1.k y1.count y1.clock y1.epoch))))))))
variable {X:Task→Prop} (hX:Closed X) {Q:A→List Blk→Prop}
include hX
theorem recv_Item_c  {p0:State} {p1:Item} {r:State × Option Int} (h:recv_Item_s p0 p1=some r) (hQ:Q (.tup [.agg (State.cs r.1),errA 159 r.2]) []):X (.call 33 [.agg (State.cs p0),.agg (Item.cs p1)] [] Q):=by
  have K:=fun a (e:some a=some r)=>ret_some (f:=fun y=>.tup [.agg (State.cs y.1),errA 159 y.2]) (g:=fun y=>[]) e hQ
  unfold recv_Item_s at h
  refine call_nz hX ?_
  conv=>whnf
  refine call_intro hX Tryz.func33 rfl rfl ?_
  replace h:=bnd_some h
  obtain ⟨y1,e2,h⟩:=h
  conv=>whnf
  repeat((first|refine dw ?_);conv=>whnf)
  refine fresh_State_c hX e2 ?_
  apply join0 (X:=X) (r:=r) (pad [(2,.one (.ptr 0 0)),(0,.one (.ptr 1 0)),(0,.one (.ptr 2 0))] 109) ([.box (State.cs y1),.box (Item.cs p1),.box [ic 0,ic 0,.p (.v (.string ⟨#[]⟩)),ic 0,.p (.v (.complex .f64 0 0)),.own 3,.own 4,.own 5,ic 0,ic 0,ic 0,ic 0,ic 0,ic 0,ic 0,ic 0,.own 6,ic 0,ic 0,ic 0],.rows 0 [],.rows 0 [],.rows 0 [],.rows 0 []])
  ·intro tl1
   replace h:=bnd_some h
   obtain ⟨y37,e38,h⟩:=h
   conv=>whnf
   repeat((first|refine dw ?_);conv=>whnf)
   refine item_May_c hX e38 ?_
   conv=>whnf
   repeat((first|refine dw ?_);conv=>whnf)
   refine br_some h (fun c39 g=>?_) (fun c39 g=>?_)
   ·replace h:=g
    clear g
    conv=>whnf
    repeat((first|refine dw ?_|refine bct c39 ?_);conv=>whnf)
    exact K _ h
   ·replace h:=g
    clear g
    conv=>whnf
    repeat((first|refine dw ?_|refine bcf c39 ?_);conv=>whnf)
    refine br_some h (fun c40 g=>?_) (fun c40 g=>?_)
    ·replace h:=g
     clear g
     conv=>whnf
     repeat((first|refine dw ?_|refine bct c40 ?_|refine bcf c39 ?_);conv=>whnf)
     refine br_some h (fun c41 g=>?_) (fun c41 g=>?_)
     ·replace h:=g
      clear g
      conv=>whnf
      repeat((first|refine dw ?_|refine bct c41 ?_);conv=>whnf)
      exact K _ h
     ·replace h:=g
      clear g
      conv=>whnf
      repeat((first|refine dw ?_|refine bcf c41 ?_);conv=>whnf)
      exact tl1.h  h
    ·replace h:=g
     clear g
     conv=>whnf
     repeat((first|refine dw ?_|refine bcf c40 ?_|refine bcf c39 ?_);conv=>whnf)
     exact tl1.h  h
  ·intro h
   unfold recv_Item_j1 at h
   refine rest_intro hX ?_
   replace h:=bnd_some h
   obtain ⟨y3,e4,h⟩:=h
   conv=>whnf
   repeat((first|refine dw ?_);conv=>whnf)
   refine know_Has_c hX e4 ?_
   conv=>whnf
   repeat((first|refine dw ?_);conv=>whnf)
   refine br_some h (fun c5 g=>?_) (fun c5 g=>?_)
   ·replace h:=g
    clear g
    conv=>whnf
    repeat((first|refine dw ?_|refine bct c5 ?_);conv=>whnf)
    exact K _ h
   ·replace h:=g
    clear g
    replace h:=bnd_some h
    obtain ⟨y6,e7,h⟩:=h
    conv=>whnf
    repeat((first|refine dw ?_|refine bcf c5 ?_);conv=>whnf)
    refine list_Both_c hX e7 ?_
    replace h:=bnd_some h
    obtain ⟨y8,e9,h⟩:=h
    conv=>whnf
    repeat((first|refine dw ?_);conv=>whnf)
    refine list_Get_c hX e9 ?_
    replace h:=bnd_some h
    obtain ⟨y10,e11,h⟩:=h
    conv=>whnf
    repeat((first|refine dw ?_);conv=>whnf)
    refine eval_Has_c hX e11 ?_
    conv=>whnf
    repeat((first|refine dw ?_);conv=>whnf)
    refine br_some h (fun c12 g=>?_) (fun c12 g=>?_)
    ·replace h:=g
     clear g
     apply join0 (X:=X) (r:=r) (pad [(2,.one (.ptr 0 0)),(0,.one (.ptr 1 0)),(0,.one (.ptr 2 0)),(4,.one (.p (.v (.bool y10)))),(0,.one (.p (.v (.bool true))))] 103) ([.box (State.cs y1),.box (Item.cs p1),.box [ic 0,ic 0,.p (.v (.string ⟨#[]⟩)),ic 0,.p (.v (.complex .f64 0 0)),.own 3,.own 4,.own 5,ic 0,ic 0,ic 0,ic 0,ic 0,ic 0,ic 0,ic 0,.own 6,ic 0,ic 0,ic 0],.rows 0 [],.rows 0 [],.rows 0 [],.rows 0 []])
     ·intro tl2
      conv=>whnf
      repeat((first|refine dw ?_|refine bct c12 ?_);conv=>whnf)
      refine br_some h (fun c22 g=>?_) (fun c22 g=>?_)
      ·replace h:=g
       clear g
       conv=>whnf
       repeat((first|refine dw ?_|refine bct c22 ?_|refine bct c12 ?_|refine eqv_to (map_len _) ?_);conv=>whnf)
       refine br_some h (fun c23 g=>?_) (fun c23 g=>?_)
       ·replace h:=g
        clear g
        conv=>whnf
        repeat((first|refine dw ?_|refine bct c23 ?_);conv=>whnf)
        exact K _ h
       ·replace h:=g
        clear g
        conv=>whnf
        repeat((first|refine dw ?_|refine bcf c23 ?_);conv=>whnf)
        exact tl2.h  h
      ·replace h:=g
       clear g
       conv=>whnf
       repeat((first|refine dw ?_|refine bcf c22 ?_);conv=>whnf)
       exact tl2.h  h
     ·intro h
      unfold recv_Item_j2 at h
      refine rest_intro hX ?_
      replace h:=bnd_some h
      obtain ⟨y13,e14,h⟩:=h
      conv=>whnf
      repeat((first|refine dw ?_);conv=>whnf)
      refine know_With_c hX e14 ?_
      replace h:=bnd_some h
      obtain ⟨y15,e16,h⟩:=h
      conv=>whnf
      repeat((first|refine dw ?_);conv=>whnf)
      refine list_Drop_c hX e16 ?_
      replace h:=bnd_some h
      obtain ⟨y17,e18,h⟩:=h
      conv=>whnf
      repeat((first|refine dw ?_);conv=>whnf)
      refine list_Drop_c hX e18 ?_
      conv=>whnf
      repeat((first|refine dw ?_);conv=>whnf)
      refine br_some h (fun c19 g=>?_) (fun c19 g=>?_)
      ·replace h:=g
       clear g
       replace h:=bnd_some h
       obtain ⟨y20,e21,h⟩:=h
       conv=>whnf
       repeat((first|refine dw ?_|refine bct c19 ?_);conv=>whnf)
       refine list_Put_c hX e21 ?_
       conv=>whnf
       repeat((first|refine dw ?_);conv=>whnf)
       exact K _ h
      ·replace h:=g
       clear g
       conv=>whnf
       repeat((first|refine dw ?_|refine bcf c19 ?_);conv=>whnf)
       exact K _ h
    ·replace h:=g
     clear g
     replace h:=bnd_some h
     obtain ⟨y24,e25,h⟩:=h
     conv=>whnf
     repeat((first|refine dw ?_|refine bcf c12 ?_);conv=>whnf)
     refine item_Compare_c hX e25 ?_
     apply join0 (X:=X) (r:=r) (pad [(2,.one (.ptr 0 0)),(0,.one (.ptr 1 0)),(0,.one (.ptr 2 0)),(4,.one (.p (.v (.bool y10)))),(0,.one (.p (.v (.bool (ltI 0 y24)))))] 103) ([.box (State.cs y1),.box (Item.cs p1),.box [ic 0,ic 0,.p (.v (.string ⟨#[]⟩)),ic 0,.p (.v (.complex .f64 0 0)),.own 3,.own 4,.own 5,ic 0,ic 0,ic 0,ic 0,ic 0,ic 0,ic 0,ic 0,.own 6,ic 0,ic 0,ic 0],.rows 0 [],.rows 0 [],.rows 0 [],.rows 0 []])
     ·intro tl3
      conv=>whnf
      repeat((first|refine dw ?_|refine bcf c12 ?_);conv=>whnf)
      refine br_some h (fun c36 g=>?_) (fun c36 g=>?_)
      ·replace h:=g
       clear g
       conv=>whnf
       repeat((first|refine dw ?_|refine bct c36 ?_|refine bcf c12 ?_);conv=>whnf)
       exact tl3.h  h
      ·replace h:=g
       clear g
       conv=>whnf
       repeat((first|refine dw ?_|refine bcf c36 ?_);conv=>whnf)
       exact tl3.h  h
     ·intro h
      unfold recv_Item_j3 at h
      refine rest_intro hX ?_
      replace h:=bnd_some h
      obtain ⟨y26,e27,h⟩:=h
      conv=>whnf
      repeat((first|refine dw ?_);conv=>whnf)
      refine know_With_c hX e27 ?_
      conv=>whnf
      repeat((first|refine dw ?_);conv=>whnf)
      refine br_some h (fun c28 g=>?_) (fun c28 g=>?_)
      ·replace h:=g
       clear g
       conv=>whnf
       repeat((first|refine dw ?_|refine bct c28 ?_);conv=>whnf)
       exact K _ h
      ·replace h:=g
       clear g
       replace h:=bnd_some h
       obtain ⟨y29,e30,h⟩:=h
       conv=>whnf
       repeat((first|refine dw ?_|refine bcf c28 ?_);conv=>whnf)
       refine list_Drop_c hX e30 ?_
       replace h:=bnd_some h
       obtain ⟨y31,e32,h⟩:=h
       conv=>whnf
       repeat((first|refine dw ?_);conv=>whnf)
       refine list_Drop_c hX e32 ?_
       conv=>whnf
       repeat((first|refine dw ?_);conv=>whnf)
       refine br_some h (fun c33 g=>?_) (fun c33 g=>?_)
       ·replace h:=g
        clear g
        replace h:=bnd_some h
        obtain ⟨y34,e35,h⟩:=h
        conv=>whnf
        repeat((first|refine dw ?_|refine bct c33 ?_);conv=>whnf)
        refine list_Put_c hX e35 ?_
        conv=>whnf
        repeat((first|refine dw ?_);conv=>whnf)
        exact K _ h
       ·replace h:=g
        clear g
        conv=>whnf
        repeat((first|refine dw ?_|refine bcf c33 ?_);conv=>whnf)
        exact K _ h
theorem recv_Goes_c  {p0:State} {p1:ByteArray} {p2:Ver} {p3:Ver} {r:State} (h:recv_Goes_s p0 p1 p2 p3=some r) (hQ:Q (.agg (State.cs r)) []):X (.call 37 [.agg (State.cs p0),.one (.p (.v (.string p1))),.agg (Ver.cs p2),.agg (Ver.cs p3)] [] Q):=by
  have K:=fun a (e:some a=some r)=>ret_some (f:=fun y=>.agg (State.cs y)) (g:=fun y=>[]) e hQ
  unfold recv_Goes_s at h
  refine call_nz hX ?_
  conv=>whnf
  refine call_intro hX Tryz.func37 rfl rfl ?_
  revert h
  refine bndk fun y1 e2 h=>?_
  conv=>whnf
  repeat((first|refine dw ?_);conv=>whnf)
  refine fresh_State_c hX e2 ?_
  revert h
  refine bndk fun y3 e4 h=>?_
  conv=>whnf
  repeat((first|refine dw ?_);conv=>whnf)
  refine list_Get_c hX e4 ?_
  conv=>whnf
  repeat((first|refine dw ?_);conv=>whnf)
  revert h
  refine brk (fun c5 h=>?_) (fun c5 h=>?_)
  ·conv=>whnf
   repeat((first|refine dw ?_|refine bct c5 ?_);conv=>whnf)
   exact K _ h
  ·conv=>whnf
   repeat((first|refine dw ?_|refine bcf c5 ?_);conv=>whnf)
   revert h
   refine brk (fun c6 h=>?_) (fun c6 h=>?_)
   ·conv=>whnf
    repeat((first|refine dw ?_|refine bct c6 ?_);conv=>whnf)
    exact K _ h
   ·revert h
    refine bndk fun y7 e8 h=>?_
    conv=>whnf
    repeat((first|refine dw ?_|refine bcf c6 ?_);conv=>whnf)
    refine list_Drop_c hX e8 ?_
    conv=>whnf
    repeat((first|refine dw ?_);conv=>whnf)
    revert h
    refine brk (fun c9 h=>?_) (fun c9 h=>?_)
    ·conv=>whnf
     repeat((first|refine dw ?_|refine bct c9 ?_);conv=>whnf)
     revert h
     refine brk (fun c10 h=>?_) (fun c10 h=>?_)
     ·conv=>whnf
      repeat((first|refine dw ?_|refine bct c10 ?_);conv=>whnf)
      revert h
      refine brk (fun c11 h=>?_) (fun c11 h=>?_)
      ·conv=>whnf
       repeat((first|refine dw ?_|refine bct c11 ?_);conv=>whnf)
       revert h
       refine brk (fun c12 h=>?_) (fun c12 h=>?_)
       ·conv=>whnf
        repeat((first|refine dw ?_|refine bct c12 ?_);conv=>whnf)
        revert h
        refine brk (fun c13 h=>?_) (fun c13 h=>?_)
        ·revert h
         refine bndk fun y14 e15 h=>?_
         conv=>whnf
         repeat((first|refine dw ?_|refine bct c13 ?_|refine bct c12 ?_);conv=>whnf)
         refine know_With_c hX e15 ?_
         conv=>whnf
         repeat((first|refine dw ?_);conv=>whnf)
         exact K _ h
        ·conv=>whnf
         repeat((first|refine dw ?_|refine bcf c13 ?_|refine bct c12 ?_);conv=>whnf)
         revert h
         refine brk (fun c16 h=>?_) (fun c16 h=>?_)
         ·revert h
          refine bndk fun y17 e18 h=>?_
          conv=>whnf
          repeat((first|refine dw ?_|refine bct c16 ?_);conv=>whnf)
          refine know_With_c hX e18 ?_
          conv=>whnf
          repeat((first|refine dw ?_);conv=>whnf)
          exact K _ h
         ·conv=>whnf
          repeat((first|refine dw ?_|refine bcf c16 ?_);conv=>whnf)
          exact K _ h
       ·conv=>whnf
        repeat((first|refine dw ?_|refine bcf c12 ?_);conv=>whnf)
        exact K _ h
      ·conv=>whnf
       repeat((first|refine dw ?_|refine bcf c11 ?_);conv=>whnf)
       exact K _ h
     ·conv=>whnf
      repeat((first|refine dw ?_|refine bcf c10 ?_);conv=>whnf)
      exact K _ h
    ·conv=>whnf
     repeat((first|refine dw ?_|refine bcf c9 ?_);conv=>whnf)
     exact K _ h
end
end Go.Proofs.YtidkmoohgadjkaaGreat
namespace Go.Proofs.YtidkmoohgadjkaaGreat
open Go E Pred
noncomputable section
open Classical
def errO (n:Int):Option Int:=if n=0 then none else some n
def newB (s:State) (x:Item):Bool:=match lk (bothV s.store s.out) x.id with
 | none=>true
 | some y=>behindB x y
def fullB (s:State) (x:Item):Bool:=newB s x&&(hasP s.f x&&((lk (bothV s.store s.out) x.id).isNone&&decide (s.store.length + s.out.length=40)))
def knownV (s:State) (x:Item):State:=⟨s.r,s.f,s.store,s.out,withK s.k x.id x.vr x.vc,s.count,maxI s.clock x.stamp,s.epoch⟩
def tookV (s:State) (x:Item):State:=⟨s.r,s.f,if hasP s.f x=true then putV (dropV s.store x.id) x else dropV s.store x.id,dropV s.out x.id,withK s.k x.id x.vr x.vc,s.count,maxI s.clock x.stamp,s.epoch⟩
def badB (s:State) (x:Item):Bool:=!mayI x || (eqI x.vr s.r&&ltI s.count x.vc)
def itemV (s:State) (x:Item):State × Int :=
 if badB s x=true then (s,1) else if hasK s.k x.id x.vr x.vc=true then (s,0) else if fullB s x=true then (s,4) else if newB s x=true then (tookV s x,0) else (knownV s x,0)
def goneB (s:State) (id:ByteArray) (or oc:Int):Bool:=match lk s.store id with
 | none=>false
 | some y=>eqI y.vr or&&eqI y.vc oc
def goesV (s:State) (id:ByteArray) (or oc nr nc:Int):State :=
 if goneB s id or oc=true then ⟨s.r,s.f,dropV s.store id,s.out,if verB nr nc=true∧(!eqI nr s.r || leI nc s.count)=true then withK s.k id nr nc else s.k,s.count,s.clock,s.epoch⟩ else s
theorem newB_n {s:State} {x:Item} (h:lk (bothV s.store s.out) x.id=none):newB s x=true:=by unfold newB; rw [h]
theorem newB_s {s:State} {x y:Item} (h:lk (bothV s.store s.out) x.id=some y):newB s x=behindB x y:=by unfold newB; rw [h]
theorem fullB_n {s:State} {x:Item} (h:lk (bothV s.store s.out) x.id=none):fullB s x=(hasP s.f x&&decide (s.store.length + s.out.length=40)):=by unfold fullB; rw [newB_n h,h]; rfl
theorem fullB_s {s:State} {x y:Item} (h:lk (bothV s.store s.out) x.id=some y):fullB s x=false:=by unfold fullB; rw [h]; simp
theorem goneB_n {s:State} {id:ByteArray} {or oc:Int} (h:lk s.store id=none):goneB s id or oc=false:=by unfold goneB; rw [h]
theorem goneB_s {s:State} {id:ByteArray} {or oc:Int} {y:Item} (h:lk s.store id=some y):goneB s id or oc=(eqI y.vr or&&eqI y.vc oc):=by unfold goneB; rw [h]
theorem imay_s {x:Item} (h:x.Ok):item_May_s x=some (mayI x):=by unfold item_May_s; rw [chk_t (decide_eq_true h)]
theorem rimay_s {x:Item} (h:x.Ok):ref01_May_s x=some (mayI x):=by unfold ref01_May_s; rw [chk_t (decide_eq_true h)]
theorem both_len {x:State} {N:Nat} (h:SOk x N):(bothV x.store x.out).length=x.store.length + x.out.length:=len_both_dj h.dj
theorem len_drop (l:List Item) (id:ByteArray):(dropV l id).length≤l.length:=List.length_filter_le ..
theorem len_drop_lt:∀ {l:List Item} {id:ByteArray},(lk l id).isSome=true→(dropV l id).length < l.length
 | [],_,h=>by cases h
 | x::l,id,h=>by
  rw [lk_cons] at h
  unfold dropV
  rw [List.filter_cons]
  by_cases hx:eqS x.id id=true
  ·rw [if_neg (by rw [hx]; simp)]
   have:=len_drop l id
   unfold dropV at this
   rw [List.length_cons]; omega
  ·rw [if_neg hx] at h
   have:=len_drop_lt h
   unfold dropV at this
   split<;>simp only [List.length_cons]<;>omega
theorem recv_j2 {s:State} {x:Item} {N:Nat} (h:SOk s N) (hN:N≤90000) (hx:x.Ok):recv_Item_j2 x s (hasP s.f x)=some (tookV s x,none):=by
 have hl:=h.le
 have:=len_drop s.store x.id
 unfold recv_Item_j2 tookV
 rw [bnd_of (kwith_s h.kt (by omega) h.ids hx.id),bnd_of (ldrop_s h.rs (by omega)),bnd_of (ldrop_s h.ro (by omega)),bnd_of (lput_s (ris_drop h.rs _) (by omega))]
 cases hasP s.f x<;>rfl
theorem recv_j3 {s:State} {x:Item} {N:Nat} {n:Int} (h:SOk s N) (hN:N≤90000) (hx:x.Ok):recv_Item_j3 x s (hasP s.f x) n=some (if ltI 0 n=true then tookV s x else knownV s x,none):=by
 have hl:=h.le
 have:=len_drop s.store x.id
 unfold recv_Item_j3
 rw [bnd_of (kwith_s h.kt (by omega) h.ids hx.id),bnd_of (ldrop_s h.rs (by omega)),bnd_of (ldrop_s h.ro (by omega)),bnd_of (lput_s (ris_drop h.rs _) (by omega))]
 cases ltI 0 n with
 | false=>rfl
 | true=>unfold tookV; cases hasP s.f x<;>rfl
theorem recv_j1 {s:State} {x:Item} {N:Nat} (h:SOk s N) (hN:N≤90000) (hx:x.Ok) (hb:badB s x=false):recv_Item_j1 x s=some ((itemV s x).1,errO (itemV s x).2):=by
 have hl:=h.le
 have hlen:=both_len h
 unfold recv_Item_j1 itemV
 rw [hb,if_neg (by simp),bnd_of (khas_s (N:=N) (by omega) h.kt.kb)]
 cases hk:hasK s.k x.id x.vr x.vc with
 | true=>rfl
 | false =>
  rw [if_neg (by simp),br_f rfl,bnd_of (lboth_s (by omega)),bnd_of (lget_s (ris_both h.rs h.ro) (by omega)),bnd_of (has_s h.f hx)]
  cases hg:lk (bothV s.store s.out) x.id with
  | none =>
   rw [getI_f hg,hlen,fullB_n hg,newB_n hg]
   have e:leI 40 ((s.store.length + s.out.length:Nat):Int)=decide (s.store.length + s.out.length=40):=by
    by_cases h40:s.store.length + s.out.length=40
    ·rw [decide_eq_true h40]; exact leI_t.2 (by omega)
    ·rw [decide_eq_false h40]; exact leI_f.2 (by omega)
   rw [e,br_t (by rfl),recv_j2 h hN hx]
   cases hasP s.f x with
   | false=>rfl
   | true=>cases decide (s.store.length + s.out.length=40)<;>rfl
  | some y =>
   rw [getI_t hg,br_f (by rfl),fullB_s hg,newB_s hg]
   rw [bnd_of (show item_Compare_s x y=some (compareV x y) from rfl),recv_j3 h hN hx,cmp_pos,br_same]
   cases behindB x y<;>rfl
theorem recv_item {s:State} {x:Item} {N:Nat} (h:SOk s N) (hN:N≤90000) (hx:x.Ok):recv_Item_s s x=some ((itemV s x).1,errO (itemV s x).2):=by
 have key:badB s x=true→(itemV s x).1=s∧errO (itemV s x).2=some 1:=fun hb=>by unfold itemV; rw [if_pos hb]; exact ⟨rfl,rfl⟩
 unfold recv_Item_s
 rw [bnd_of (fresh_state h (by omega)),bnd_of (imay_s hx)]
 cases hm:mayI x with
 | false =>
  have:=key (by unfold badB; rw [hm]; rfl)
  rw [this.1,this.2]; rfl
 | true =>
  cases h1:eqI x.vr s.r with
  | false=>exact recv_j1 h hN hx (by unfold badB; rw [hm,h1]; rfl)
  | true =>
   cases h2:ltI s.count x.vc with
   | true =>
    have:=key (by unfold badB; rw [hm,h1,h2]; rfl)
    rw [this.1,this.2]; rfl
   | false=>exact recv_j1 h hN hx (by unfold badB; rw [hm,h1,h2]; rfl)
theorem rlaid {s:State} {x:Item} {b:Bool} (h1:Ris s.store) (h2:Ris s.out) (h3:s.store.length + s.out.length≤100) (hf:s.f.Ok) (hx:x.Ok):ref09_laid_s s x b=some ⟨s.r,s.f,if hasP s.f x=true then putV (dropV s.store x.id) x else dropV s.store x.id,if hasP s.f x=false∧b=true then putV (dropV s.out x.id) x else dropV s.out x.id,s.k,s.count,s.clock,s.epoch⟩:=by
 have e1:=len_drop s.store x.id
 have e2:=len_drop s.out x.id
 unfold ref09_laid_s
 rw [bnd_of (rdrop_s (by omega)),bnd_of (rdrop_s (by omega)),bnd_of (has3_s hf hx),bnd_of (rput_s (by omega)),bnd_of (rput_s (by omega))]
 cases hasP s.f x<;>cases b<;>rfl
theorem ritem_j4 {s:State} {x:Item} {N:Nat} {v:Bool} {c:Int} (h:SOk s N) (hx:x.Ok):ref09_Item_j4 s x v (withK s.k x.id x.vr x.vc) c=some (if v=true then ⟨s.r,s.f,s.store,s.out,withK s.k x.id x.vr x.vc,s.count,c,s.epoch⟩ else ⟨s.r,s.f,if hasP s.f x=true then putV (dropV s.store x.id) x else dropV s.store x.id,dropV s.out x.id,withK s.k x.id x.vr x.vc,s.count,c,s.epoch⟩,0):=by
 have hl:=h.le
 unfold ref09_Item_j4
 rw [bnd_of (rlaid (s:=⟨s.r,s.f,s.store,s.out,withK s.k x.id x.vr x.vc,s.count,c,s.epoch⟩) (b:=false) h.rs h.ro (by simp only []; omega) h.f hx)]
 cases v with
 | true=>rfl
 | false=>simp only [Bool.false_eq_true,and_false,if_false]; rfl
theorem ritem_j3 {s:State} {x:Item} {N:Nat} {v:Bool} (h:SOk s N) (hN:N≤90000) (hx:x.Ok):ref09_Item_j3 s x v=some (if v=true then knownV s x else tookV s x,0):=by
 unfold ref09_Item_j3
 rw [bnd_of (rwith_t h.kt (by omega)),ritem_j4 h hx,ritem_j4 h hx]
 unfold knownV tookV maxI
 by_cases hc:x.stamp > s.clock
 ·rw [br_t (ltI_t.2 hc)]; simp only [if_pos hc]
 ·rw [br_f (ltI_f.2 (by omega))]; simp only [if_neg hc]
theorem rstands {s:State} {id:ByteArray} {N:Nat} (h:SOk s N):ref09_Stands_s s id=some (getI id (bothV s.store s.out)):=by
 have hl:=h.le
 have hlen:=both_len h
 unfold ref09_Stands_s
 rw [bnd_of (rboth_s h.rs h.ro (by omega)),bnd_of (get_s (by omega))]
theorem ritem_j1 {s:State} {x:Item} {N:Nat} (h:SOk s N) (hN:N≤90000) (hx:x.Ok) (hb:badB s x=false):ref09_Item_j1 s x=some (itemV s x):=by
 have hl:=h.le
 have hw:eqI (wr .i64 ((s.store.length:Int) + (s.out.length:Int))) 40=decide (s.store.length + s.out.length=40):=by
  rw [wr64 (by omega) (by omega)]
  by_cases h40:s.store.length + s.out.length=40
  ·rw [decide_eq_true h40]; exact eqI_t.2 (by omega)
  ·rw [decide_eq_false h40]; exact eqI_f.2 (by omega)
 have j2:∀ (p:Item × Bool) (v:Bool),ref09_Item_j2 s x p v=some (if (!v&&(hasP s.f x&&(!p.2&&decide (s.store.length + s.out.length=40))))=true then (s,4) else (if v=true then knownV s x else tookV s x,0)):=fun p v=>by
  unfold ref09_Item_j2
  rw [bnd_of (has3_s h.f hx),hw,ritem_j3 h hN hx]
  cases v<;>cases hasP s.f x<;>cases p.2<;>cases decide (s.store.length + s.out.length=40)<;>rfl
 unfold ref09_Item_j1 itemV
 rw [hb,if_neg (by simp),bnd_of (hasK_s (N:=N) (by omega) h.kt.kb)]
 cases hk:hasK s.k x.id x.vr x.vc with
 | true=>rfl
 | false =>
  rw [if_neg (by simp),br_f rfl,bnd_of (rstands h),j2,j2]
  cases hg:lk (bothV s.store s.out) x.id with
  | none =>
   rw [getI_f hg,fullB_n hg,newB_n hg]
   cases hasP s.f x<;>cases decide (s.store.length + s.out.length=40)<;>rfl
  | some y =>
   rw [getI_t hg,fullB_s hg,newB_s hg]
   rw [bnd_of (show ref01_Behind_s x y=some (behindB x y) from rfl)]
   cases behindB x y<;>cases hasP s.f x<;>cases decide (s.store.length + s.out.length=40)<;>rfl
theorem ref_item {s:State} {x:Item} {N:Nat} (h:SOk s N) (hN:N≤90000) (hx:x.Ok):ref09_Item_s s x=some (itemV s x):=by
 have key:badB s x=true→itemV s x=(s,1):=fun hb=>by unfold itemV; rw [if_pos hb]
 unfold ref09_Item_s
 rw [bnd_of (rimay_s hx)]
 cases hm:mayI x with
 | false=>rw [key (by unfold badB; rw [hm]; rfl)]; rfl
 | true =>
  cases h1:eqI x.vr s.r with
  | false=>exact ritem_j1 h hN hx (by unfold badB; rw [hm,h1]; rfl)
  | true =>
   cases h2:ltI s.count x.vc with
   | true=>rw [key (by unfold badB; rw [hm,h1,h2]; rfl)]; rfl
   | false=>exact ritem_j1 h hN hx (by unfold badB; rw [hm,h1,h2]; rfl)
theorem recv_goes {s:State} {id:ByteArray} {o n:Ver} {N:Nat} (h:SOk s N) (hN:N≤90000) (hid:id.size≤9223372036854775807):recv_Goes_s s id o n=some (goesV s id o.r o.c n.r n.c):=by
 have hl:=h.le
 unfold recv_Goes_s goesV
 rw [bnd_of (fresh_state h (by omega)),bnd_of (lget_s h.rs (by omega))]
 cases hg:lk s.store id with
 | none=>rw [getI_f hg,goneB_n hg]; rfl
 | some y =>
  rw [getI_t hg,goneB_s hg]
  have e:andB (eqI y.vr o.r) (andB (eqI y.vc o.c) true)=(eqI y.vr o.r&&eqI y.vc o.c):=by unfold andB; rw [Bool.and_true]
  rw [br_f (by rfl),e]
  cases hv:(eqI y.vr o.r&&eqI y.vc o.c) with
  | false=>rfl
  | true =>
   rw [br_f (by rfl),bnd_of (ldrop_s h.rs (by omega)),bnd_of (kwith_s h.kt (by omega) h.ids hid),if_pos rfl]
   unfold verB inN
   cases leI 1 n.r with
   | false=>simp [br]
   | true=>cases leI n.r 8 with
    | false=>simp [br]
    | true=>cases leI 1 n.c with
     | false=>simp [br]
     | true=>cases leI n.c 1000 with
      | false=>simp [br]
      | true=>cases eqI n.r s.r<;>cases leI n.c s.count<;>simp [br]
theorem ref_goes {s:State} {id:ByteArray} {o n:Ver} {N:Nat} (h:SOk s N) (hN:N≤90000):ref09_Goes_s s id o n=some (goesV s id o.r o.c n.r n.c):=by
 have hl:=h.le
 unfold ref09_Goes_s goesV
 rw [bnd_of (get_s (by omega))]
 cases hg:lk s.store id with
 | none=>rw [getI_f hg,goneB_n hg]; rfl
 | some y =>
  rw [getI_t hg,goneB_s hg]
  have e:andB (eqI y.vr o.r) (andB (eqI y.vc o.c) true)=(eqI y.vr o.r&&eqI y.vc o.c):=by unfold andB; rw [Bool.and_true]
  rw [br_f (by rfl),e]
  cases hv:(eqI y.vr o.r&&eqI y.vc o.c) with
  | false=>rfl
  | true =>
   rw [br_f (by rfl),bnd_of (rdrop_s (by omega)),bnd_of (show ref01_Ver_s n=some (verB n.r n.c) from rfl),bnd_of (rwith_t h.kt (by omega)),if_pos rfl]
   cases verB n.r n.c<;>cases eqI n.r s.r<;>cases leI n.c s.count<;>simp [br]
theorem ok_took {s:State} {x:Item} {N:Nat} (h:SOk s N) (hx:x.Ok) (hm:mayI x=true) (hfull:hasP s.f x=true→(lk (bothV s.store s.out) x.id).isNone=true→s.store.length + s.out.length≠40):SOk (tookV s x) (N + 1):=by
 have hl:=h.le
 have e1:=len_drop s.store x.id
 have e2:=len_drop s.out x.id
 have hst:inN x.stamp 1 1000000=true:=by unfold mayI at hm; simp only [Bool.and_eq_true] at hm; exact hm.2.2.1.1
 rw [inN_iff] at hst
 have hcl:0≤maxI s.clock x.stamp∧maxI s.clock x.stamp≤1000000:=by have:=h.cl; unfold maxI; split<;>omega
 have kt:=kt_with h.kt x.id x.vr x.vc
 have ids:=ids_with (r:=x.vr) (c:=x.vc) h.ids hx.id
 have md:∀ i∈dropV s.store x.id,i.Ok∧mayI i=true:=fun i hi=>h.is i (mem_drop hi)
 have mo:∀ i∈dropV s.out x.id,i.Ok∧mayI i=true:=fun i hi=>h.io i (mem_drop hi)
 unfold tookV
 by_cases hp:hasP s.f x=true
 ·rw [if_pos hp]
  have e3:=len_put1 (ris_drop h.rs x.id) x
  refine ⟨h.f,h.fs,ris_put (ris_drop h.rs _) x,ris_drop h.ro _,?_,fun id hid=>?_,fun i hi=>?_,mo,kt,ids,h.cn,hcl,h.ep⟩
  ·show (putV (dropV s.store x.id) x).length + (dropV s.out x.id).length≤40
   cases hg:lk (bothV s.store s.out) x.id with
   | none=>have:=hfull hp (by rw [hg]; rfl); omega
   | some y =>
    rw [lk_both h.rs h.ro] at hg
    cases h1:lk s.store x.id with
    | some z=>have:=len_drop_lt (l:=s.store) (id:=x.id) (by rw [h1]; rfl); omega
    | none =>
     rw [h1] at hg
     have:=len_drop_lt (l:=s.out) (id:=x.id) (by rw [show lk s.out x.id=some y from hg]; rfl)
     omega
  ·show lk (dropV s.out x.id) id=none
   rw [lk_drop]
   split
   ·rfl
   ·rename_i hne
    have hid':(lk (putV (dropV s.store x.id) x) id).isSome=true:=hid
    rw [lk_put,if_neg hne,lk_drop,if_neg hne] at hid'
    exact h.dj id hid'
  ·rcases mem_put hi with rfl | hi
   ·exact ⟨hx,hm⟩
   ·exact md i hi
 ·rw [if_neg hp]
  refine ⟨h.f,h.fs,ris_drop h.rs _,ris_drop h.ro _,by simp only []; omega,fun id hid=>?_,md,mo,kt,ids,h.cn,hcl,h.ep⟩
  show lk (dropV s.out x.id) id=none
  rw [lk_drop]
  split
  ·rfl
  ·rename_i hne
   have hid':(lk (dropV s.store x.id) id).isSome=true:=hid
   rw [lk_drop,if_neg hne] at hid'
   exact h.dj id hid'
theorem ok_known {s:State} {x:Item} {N:Nat} (h:SOk s N) (hx:x.Ok) (hm:mayI x=true):SOk (knownV s x) (N + 1):=by
 have hst:inN x.stamp 1 1000000=true:=by unfold mayI at hm; simp only [Bool.and_eq_true] at hm; exact hm.2.2.1.1
 rw [inN_iff] at hst
 exact ⟨h.f,h.fs,h.rs,h.ro,h.le,h.dj,h.is,h.io,kt_with h.kt x.id x.vr x.vc,ids_with h.ids hx.id,h.cn,by have:=h.cl; show 0≤maxI s.clock x.stamp∧maxI s.clock x.stamp≤1000000; unfold maxI; split<;>omega,h.ep⟩
theorem ok_item {s:State} {x:Item} {N:Nat} (h:SOk s N) (hx:x.Ok):SOk (itemV s x).1 (N + 1):=by
 unfold itemV
 by_cases hb:badB s x=true
 ·rw [if_pos hb]; exact h.mono (by omega)
 ·rw [if_neg hb]
  have hm:mayI x=true:=by
   unfold badB at hb
   cases hm:mayI x with
   | true=>rfl
   | false=>rw [hm] at hb; exact absurd rfl hb
  by_cases hk:hasK s.k x.id x.vr x.vc=true
  ·rw [if_pos hk]; exact h.mono (by omega)
  ·rw [if_neg hk]
   by_cases hf:fullB s x=true
   ·rw [if_pos hf]; exact h.mono (by omega)
   ·rw [if_neg hf]
    by_cases hn:newB s x=true
    ·rw [if_pos hn]
     refine ok_took h hx hm fun h1 h2 h3=>hf ?_
     unfold fullB; rw [hn,h1,h2,decide_eq_true h3]; rfl
    ·rw [if_neg hn]; exact ok_known h hx hm
theorem ok_goes {s:State} {id:ByteArray} {or oc nr nc:Int} {N:Nat} (h:SOk s N) (hid:id.size≤9223372036854775807):SOk (goesV s id or oc nr nc) (N + 1):=by
 have hl:=h.le
 have e1:=len_drop s.store id
 unfold goesV
 split
 ·refine ⟨h.f,h.fs,ris_drop h.rs _,h.ro,by simp only []; omega,fun i hi=>?_,fun i hi=>h.is i (mem_drop hi),h.io,?_,?_,h.cn,h.cl,h.ep⟩
  ·have hi':(lk (dropV s.store id) i).isSome=true:=hi
   rw [lk_drop] at hi'
   split at hi'
   ·cases hi'
   ·exact h.dj i hi'
  ·show KT (if _ then _ else _) _
   split
   ·exact kt_with h.kt ..
   ·exact h.kt.mono (by omega)
  ·show IdsOk (if _ then _ else _)
   split
   ·exact ids_with h.ids hid
   ·exact h.ids
 ·exact h.mono (by omega)
end
end Go.Proofs.YtidkmoohgadjkaaGreat
namespace Go.Proofs.YtidkmoohgadjkaaGreat
open Go E Pred
noncomputable section
open Classical
def state0:State:=⟨0,.mk 0 ⟨#[]⟩ 0 0 0 [],[],[],⟨zero8,[]⟩,0,0,0⟩
def newS (r:Int) (f:Pred):State:=⟨r,f,[],[],⟨zero8,[]⟩,0,0,0⟩
def newV (r:Int) (f:Pred):State × Int:=if inN r 1 8&&mayP f then (newS r f,0) else (state0,1)
theorem lnew_s {r:Int} {f:Pred} (h:f.Ok) (hs:f.size≤1000):local_New_s r f=some ((newV r f).1,errO (newV r f).2):=by
 unfold local_New_s newV
 rw [bnd_of (pmay_s h),bnd_of (fresh_pred fuelR (by unfold fuelR; omega) hs),ltn,ltn]
 unfold inN
 cases leI 1 r<;>cases leI r 8<;>cases mayP f<;>rfl
theorem rnew_s {r:Int} {f:Pred} (h:f.Ok) (hs:f.size≤1000):ref09_New_s r f=some (newV r f):=by
 unfold ref09_New_s newV
 rw [bnd_of (may3_s h hs),ltn,ltn]
 unfold inN
 cases leI 1 r<;>cases leI r 8<;>cases mayP f<;>rfl
theorem lk_both_dj {s:State} {N:Nat} (h:SOk s N) (id:ByteArray):lk (bothV s.store s.out) id=(lk s.store id).or (lk s.out id):=by
 rw [lk_both h.rs h.ro]
 cases h1:lk s.store id with
 | none=>exact newer_none' _
 | some x=>rw [h.dj id (by rw [h1]; rfl)]; rfl
where newer_none' (o:Option Item):newer none o=(none:Option Item).or o:=by cases o<;>rfl
theorem lstands {s:State} {id:ByteArray} {N:Nat} (h:SOk s N):local_stands_s s id=some (getI id (bothV s.store s.out)):=by
 have hl:=h.le
 unfold local_stands_s
 rw [bnd_of (lget_s h.rs (by omega)),bnd_of (lget_s h.ro (by omega))]
 have e:=lk_both_dj h id
 cases h1:lk s.store id with
 | none =>
  rw [getI_f h1,br_f (by rfl)]
  rw [h1] at e
  cases h2:lk s.out id with
  | none=>rw [h2] at e; rw [getI_f h2,getI_f e]
  | some y=>rw [h2] at e; rw [getI_t h2,getI_t e]
 | some x =>
  rw [h1] at e
  rw [getI_t h1,getI_t e]; rfl
def verI (s:State) (x:Item):Item:=⟨x.id,s.r,s.count + 1,s.clock + 1,x.kind,x.num,x.re,x.im,x.dead⟩
def madeV (s:State) (x:Item):State :=
 ⟨s.r,s.f,if hasP s.f (verI s x)=true then putV (dropV s.store x.id) (verI s x) else dropV s.store x.id,if hasP s.f (verI s x)=true then dropV s.out x.id else putV (dropV s.out x.id) (verI s x),ownK s.k x.id s.r (s.count + 1),s.count + 1,s.clock + 1,s.epoch⟩
def makeV (s:State) (x:Item):State × Int:=if eqI s.count 1000 || eqI s.clock 1000000 then (s,5) else (madeV s x,0)
theorem wr1 {n:Int} (h:0≤n∧n≤1000000):wr .i64 (n + 1)=n + 1:=wr64 (by omega) (by omega)
theorem le_eq {n m:Int} (h:n≤m):leI m n=eqI n m:=by
 by_cases e:n=m
 ·subst e; rw [eqI_t.2 rfl]; exact leI_t.2 (Int.le_refl _)
 ·rw [eqI_f.2 e]; exact leI_f.2 (by omega)
theorem ok_ver {s:State} {x:Item} {N:Nat} (h:SOk s N) (hr:1≤s.r∧s.r≤8) (hx:x.Ok):(verI s x).Ok:=by
 have h1:=h.cn
 have h2:=h.cl
 exact ⟨hx.id,hx.kind,⟨by show _≤s.r; omega,by show s.r≤_; omega⟩,⟨by show _≤s.count + 1; omega,by show s.count + 1≤_; omega⟩,⟨by show _≤s.clock + 1; omega,by show s.clock + 1≤_; omega⟩,hx.num⟩
theorem lversion {s:State} {x:Item} {N:Nat} (h:SOk s N) (hN:N≤90000) (hr:1≤s.r∧s.r≤8) (hx:x.Ok):local_version_s s x=some ((makeV s x).1,errO (makeV s x).2):=by
 have hl:=h.le
 have e1:=len_drop s.store x.id
 have e2:=len_drop s.out x.id
 have hc:=h.cn
 have hk:=h.cl
 unfold local_version_s makeV
 rw [bnd_of (fresh_state h (by omega)),bnd_of (fresh_state h (by omega)),le_eq hc.2,le_eq hk.2]
 cases eqI s.count 1000 with
 | true=>rfl
 | false =>
  cases eqI s.clock 1000000 with
  | true=>rfl
  | false =>
   rw [br_f rfl,br_f rfl,wr1 (by omega),wr1 hk]
   have hv:=ok_ver h hr hx
   rw [bnd_of (kown_s h.kt (by omega) h.ids hx.id),bnd_of (ldrop_s h.rs (by omega)),bnd_of (ldrop_s h.ro (by omega)),bnd_of (show eval_Has_s s.f ⟨x.id,s.r,s.count + 1,s.clock + 1,x.kind,x.num,x.re,x.im,x.dead⟩=some (hasP s.f (verI s x)) from has_s h.f hv),
    bnd_of (lput_s (ris_drop h.rs _) (by omega)),bnd_of (lput_s (ris_drop h.ro _) (by omega))]
   unfold madeV
   cases hasP s.f (verI s x)<;>rfl
theorem rmade {s:State} {x:Item} {N:Nat} (h:SOk s N) (hN:N≤90000) (hr:1≤s.r∧s.r≤8) (hx:x.Ok):ref09_made_s s x=some (makeV s x):=by
 have hl:=h.le
 have hc:=h.cn
 have hk:=h.cl
 unfold ref09_made_s makeV
 cases eqI s.count 1000 with
 | true=>rfl
 | false =>
  cases eqI s.clock 1000000 with
  | true=>rfl
  | false =>
   rw [br_f rfl,br_f rfl,wr1 (by omega),wr1 hk]
   have hv:=ok_ver h hr hx
   rw [bnd_of (rown_t h.kt (by omega))]
   refine (bnd_of (rlaid (s:=⟨s.r,s.f,s.store,s.out,ownK s.k x.id s.r (s.count + 1),s.count + 1,s.clock + 1,s.epoch⟩) (x:=verI s x) (b:=true) h.rs h.ro (by simp only []; omega) h.f hv)).trans ?_
   unfold madeV
   cases hasP s.f (verI s x)<;>rfl
theorem dj_made {s:State} {y:Item} {id:ByteArray} {b:Bool} (h:Dj s.store s.out) (e:y.id=id):Dj (if b=true then putV (dropV s.store id) y else dropV s.store id) (if b=true then dropV s.out id else putV (dropV s.out id) y):=by
 intro i hi
 subst e
 cases b with
 | true =>
  simp only [if_true] at hi ⊢
  rw [lk_drop]
  split
  ·rfl
  ·rename_i hne
   rw [lk_put,if_neg hne,lk_drop,if_neg hne] at hi
   exact h i hi
 | false =>
  simp only [Bool.false_eq_true,if_false] at hi ⊢
  rw [lk_drop] at hi
  split at hi
  ·cases hi
  ·rename_i hne
   rw [lk_put,if_neg hne,lk_drop,if_neg hne]
   exact h i hi
theorem ok_made {s:State} {x:Item} {N:Nat} (h:SOk s N) (hr:1≤s.r∧s.r≤8) (hx:x.Ok) (hm:mayI (verI s x)=true) (hc:s.count < 1000) (hk:s.clock < 1000000) (hfull:(lk (bothV s.store s.out) x.id).isNone=true→s.store.length + s.out.length < 40):SOk (madeV s x) (N + 1):=by
 have hl:=h.le
 have e1:=len_drop s.store x.id
 have e2:=len_drop s.out x.id
 have hcn:=h.cn
 have hcl:=h.cl
 have hv:=ok_ver h hr hx
 have kt:=kt_own h.kt x.id s.r (s.count + 1)
 have ids:=ids_own (r:=s.r) (c:=s.count + 1) h.ids hx.id
 have md:∀ i∈dropV s.store x.id,i.Ok∧mayI i=true:=fun i hi=>h.is i (mem_drop hi)
 have mo:∀ i∈dropV s.out x.id,i.Ok∧mayI i=true:=fun i hi=>h.io i (mem_drop hi)
 have hdj:=dj_made (y:=verI s x) (id:=x.id) (b:=hasP s.f (verI s x)) h.dj rfl
 have hsum:(dropV s.store x.id).length + (dropV s.out x.id).length < 40:=by
  cases hg:lk (bothV s.store s.out) x.id with
  | none=>have:=hfull (by rw [hg]; rfl); omega
  | some y =>
   rw [lk_both h.rs h.ro] at hg
   cases h1:lk s.store x.id with
   | some z=>have:=len_drop_lt (l:=s.store) (id:=x.id) (by rw [h1]; rfl); omega
   | none =>
    rw [h1] at hg
    have:=len_drop_lt (l:=s.out) (id:=x.id) (by rw [show lk s.out x.id=some y from hg]; rfl)
    omega
 have p1:=len_put1 (ris_drop h.rs x.id) (verI s x)
 have p2:=len_put1 (ris_drop h.ro x.id) (verI s x)
 refine ⟨h.f,h.fs,?_,?_,?_,hdj,?_,?_,kt,ids,by show 0≤s.count + 1∧s.count + 1≤1000; omega,by show 0≤s.clock + 1∧s.clock + 1≤1000000; omega,h.ep⟩
 ·show Ris (if _ then _ else _)
  split
  ·exact ris_put (ris_drop h.rs _) _
  ·exact ris_drop h.rs _
 ·show Ris (if _ then _ else _)
  split
  ·exact ris_drop h.ro _
  ·exact ris_put (ris_drop h.ro _) _
 ·unfold madeV
  simp only []
  split<;>omega
 ·intro i hi
  unfold madeV at hi
  simp only [] at hi
  split at hi
  ·rcases mem_put hi with rfl | hi
   ·exact ⟨hv,hm⟩
   ·exact md i hi
  ·exact md i hi
 ·intro i hi
  unfold madeV at hi
  simp only [] at hi
  split at hi
  ·exact mo i hi
  ·rcases mem_put hi with rfl | hi
   ·exact ⟨hv,hm⟩
   ·exact mo i hi
def shapeI (id kind:ByteArray) (num:Int) (re im:Nat):Item:=⟨id,1,1,1,kind,num,re,im,false⟩
def createV (s:State) (id kind:ByteArray) (num:Int) (re im:Nat):State × Int :=
 if (!mayI (shapeI id kind num re im))=true then (s,1) else match lk (bothV s.store s.out) id with
 | none=>if s.store.length + s.out.length=40 then (s,4) else makeV s (shapeI id kind num re im)
 | some y=>if y.dead=true then makeV s (shapeI id kind num re im) else (s,3)
def updateV (s:State) (id kind:ByteArray) (num:Int) (re im:Nat):State × Int :=
 if (!mayI (shapeI id kind num re im))=true then (s,1) else match lk (bothV s.store s.out) id with
 | none=>(s,2)
 | some y=>if y.dead=true then (s,2) else makeV s (shapeI id kind num re im)
def deadI (y:Item):Item:=⟨y.id,y.vr,y.vc,y.stamp,y.kind,y.num,y.re,y.im,true⟩
def deleteV (s:State) (id:ByteArray):State × Int :=
 if (!lettersB id 1)=true then (s,1) else match lk (bothV s.store s.out) id with
 | none=>(s,2)
 | some y=>if y.dead=true then (s,2) else makeV s (deadI y)
theorem verI_cng {s:State} {x y:Item} (h1:x.id=y.id) (h2:x.kind=y.kind) (h3:x.num=y.num) (h4:x.re=y.re) (h5:x.im=y.im) (h6:x.dead=y.dead):makeV s x=makeV s y:=by
 unfold makeV madeV verI; rw [h1,h2,h3,h4,h5,h6]
theorem bndE_err {x:Option (State × Option Int)} {r:State × Int} (h:x=some (r.1,errO r.2)):bndE x (fun y n=>some (y,some n)) (fun y=>some (y,none))=some (r.1,errO r.2):=by
 rw [h]; cases errO r.2<;>rfl
theorem shape_ok {id kind:ByteArray} {num:Int} {re im:Nat} (h1:id.size≤9223372036854775807) (h2:kind.size≤9223372036854775807) (h3 : -9223372036854775808≤num∧num≤9223372036854775807) (v:Int × Int × Int) (hv:(0≤v.1∧v.1≤1)∧(0≤v.2.1∧v.2.1≤1)∧(0≤v.2.2∧v.2.2≤1)):(⟨id,v.1,v.2.1,v.2.2,kind,num,re,im,false⟩:Item).Ok :=
 ⟨h1,h2,⟨by show _≤v.1; omega,by show v.1≤_; omega⟩,⟨by show _≤v.2.1; omega,by show v.2.1≤_; omega⟩,⟨by show _≤v.2.2; omega,by show v.2.2≤_; omega⟩,h3⟩
theorem might_s {x:Item} (h:(⟨x.id,1,1,1,x.kind,x.num,x.re,x.im,x.dead⟩:Item).Ok):local_might_s x=some (mayI ⟨x.id,1,1,1,x.kind,x.num,x.re,x.im,x.dead⟩):=by
 unfold local_might_s; rw [bnd_of (imay_s h)]
theorem lsum {s:State} {N:Nat} (h:SOk s N):wr .i64 ((s.store.length:Int) + (s.out.length:Int))=((s.store.length + s.out.length:Nat):Int):=by have:=h.le; rw [wr64 (by omega) (by omega)]; omega
section
variable {s:State} {id kind:ByteArray} {num:Int} {re im:Nat} {N:Nat} (h:SOk s N) (hN:N≤90000) (hr:1≤s.r∧s.r≤8) (h1:id.size≤9223372036854775807)
include h hN hr h1
theorem lcreate (h2:kind.size≤9223372036854775807) (h3 : -9223372036854775808≤num∧num≤9223372036854775807):local_Create_s s id kind num re im=some ((createV s id kind num re im).1,errO (createV s id kind num re im).2):=by
 have hl:=h.le
 have o1:(shapeI id kind num re im).Ok:=shape_ok h1 h2 h3 (1,1,1) (by decide)
 have o0:(⟨id,0,0,0,kind,num,re,im,false⟩:Item).Ok:=shape_ok h1 h2 h3 (0,0,0) (by decide)
 have hj:local_Create_j1 s id kind num re im=some ((makeV s (shapeI id kind num re im)).1,errO (makeV s (shapeI id kind num re im)).2):=by
  unfold local_Create_j1
  exact bndE_err (by rw [lversion h hN hr o0,verI_cng (x:=⟨id,0,0,0,kind,num,re,im,false⟩) (y:=shapeI id kind num re im) rfl rfl rfl rfl rfl rfl])
 unfold local_Create_s createV
 rw [bnd_of (lstands h),bnd_of (might_s (x:=⟨id,0,0,0,kind,num,re,im,false⟩) o1),hj,lsum h,bnd_of (fresh_state h (by omega)),bnd_of (fresh_state h (by omega)),bnd_of (fresh_state h (by omega))]
 show br (!mayI (shapeI id kind num re im)) _ _=_
 cases mayI (shapeI id kind num re im) with
 | false=>rfl
 | true =>
  rw [br_f (by rfl),if_neg (by simp)]
  cases hg:lk (bothV s.store s.out) id with
  | none =>
   rw [getI_f hg,br_f (by rfl),br_t (by rfl)]
   by_cases h40:s.store.length + s.out.length=40
   ·rw [br_t (leI_t.2 (by omega))]; simp only [if_pos h40]; rfl
   ·rw [br_f (leI_f.2 (by omega))]; simp only [if_neg h40]
  | some y =>
   rw [getI_t hg]
   dsimp only
   cases y.dead<;>rfl
theorem lupdate (h2:kind.size≤9223372036854775807) (h3 : -9223372036854775808≤num∧num≤9223372036854775807):local_Update_s s id kind num re im=some ((updateV s id kind num re im).1,errO (updateV s id kind num re im).2):=by
 have hl:=h.le
 have o1:(shapeI id kind num re im).Ok:=shape_ok h1 h2 h3 (1,1,1) (by decide)
 have o0:(⟨id,0,0,0,kind,num,re,im,false⟩:Item).Ok:=shape_ok h1 h2 h3 (0,0,0) (by decide)
 have hj:bndE (local_version_s s ⟨id,0,0,0,kind,num,re,im,false⟩) (fun y n=>some (y,some n)) (fun y=>some (y,none))=some ((makeV s (shapeI id kind num re im)).1,errO (makeV s (shapeI id kind num re im)).2) :=
  bndE_err (by rw [lversion h hN hr o0,verI_cng (x:=⟨id,0,0,0,kind,num,re,im,false⟩) (y:=shapeI id kind num re im) rfl rfl rfl rfl rfl rfl])
 unfold local_Update_s updateV
 rw [bnd_of (might_s (x:=⟨id,0,0,0,kind,num,re,im,false⟩) o1),bnd_of (lstands h),bnd_of (fresh_state h (by omega)),bnd_of (fresh_state h (by omega))]
 show br (!mayI (shapeI id kind num re im)) _ _=_
 cases mayI (shapeI id kind num re im) with
 | false=>rfl
 | true =>
  rw [br_f (by rfl),if_neg (by simp)]
  cases hg:lk (bothV s.store s.out) id with
  | none=>rw [getI_f hg]; rfl
  | some y =>
   rw [getI_t hg]
   dsimp only
   cases y.dead with
   | true=>rfl
   | false=>exact hj
theorem ldelete:local_Delete_s s id=some ((deleteV s id).1,errO (deleteV s id).2):=by
 have hl:=h.le
 unfold local_Delete_s deleteV
 rw [bnd_of (show item_Name_s id=some (lettersB id 1) by unfold item_Name_s; rw [chk_t (decide_eq_true h1)]),bnd_of (lstands h),bnd_of (fresh_state h (by omega)),bnd_of (fresh_state h (by omega))]
 cases lettersB id 1 with
 | false=>rfl
 | true =>
  rw [br_f (by rfl),if_neg (by simp)]
  cases hg:lk (bothV s.store s.out) id with
  | none=>rw [getI_f hg]; rfl
  | some y =>
   rw [getI_t hg]
   have hy:y.Ok:=by
    rw [lk_both h.rs h.ro] at hg
    cases e1:lk s.store id with
    | some z =>
     rw [e1] at hg
     have hz:=h.is z (lk_some e1).1
     rw [h.dj id (by rw [e1]; rfl)] at hg
     injection hg with hg; rw [←hg]; exact hz.1
    | none =>
     rw [e1] at hg
     exact (h.io y (lk_some (show lk s.out id=some y from hg)).1).1
   dsimp only
   cases hd:y.dead with
   | true=>rfl
   | false =>
    have hd':(deadI y).Ok:=⟨hy.id,hy.kind,hy.vr,hy.vc,hy.stamp,hy.num⟩
    refine (br_f (by rfl)).trans ((br_f rfl).trans ?_)
    exact bndE_err (x:=local_version_s s (deadI y)) (lversion h hN hr hd')
theorem rcreate (h2:kind.size≤9223372036854775807) (h3 : -9223372036854775808≤num∧num≤9223372036854775807):ref09_Create_s s id kind num re im=some (createV s id kind num re im):=by
 have hl:=h.le
 have o1:(shapeI id kind num re im).Ok:=shape_ok h1 h2 h3 (1,1,1) (by decide)
 have hs:ref09_shape_s id kind num re im=some (shapeI id kind num re im,mayI (shapeI id kind num re im)):=by
  unfold ref09_shape_s; exact bnd_of (rimay_s o1)
 have j2:∀ b,ref09_Create_j2 s (shapeI id kind num re im,b)=some (makeV s (shapeI id kind num re im)):=fun b=>by
  unfold ref09_Create_j2; exact bnd_of (rmade h hN hr o1)
 unfold ref09_Create_s createV
 rw [bnd_of hs,bnd_of (rstands h)]
 dsimp only
 cases mayI (shapeI id kind num re im) with
 | false=>rfl
 | true =>
  rw [br_f (by rfl),if_neg (by simp)]
  unfold ref09_Create_j1
  rw [j2,lsum h]
  cases hg:lk (bothV s.store s.out) id with
  | none =>
   rw [getI_f hg,br_f (by rfl),br_t (by rfl)]
   by_cases h40:s.store.length + s.out.length=40
   ·rw [br_t (eqI_t.2 (by omega))]; simp only [if_pos h40]
   ·rw [br_f (eqI_f.2 (by omega))]; simp only [if_neg h40]
  | some y =>
   rw [getI_t hg]
   dsimp only
   cases y.dead<;>rfl
theorem rupdate (h2:kind.size≤9223372036854775807) (h3 : -9223372036854775808≤num∧num≤9223372036854775807):ref09_Update_s s id kind num re im=some (updateV s id kind num re im):=by
 have hl:=h.le
 have o1:(shapeI id kind num re im).Ok:=shape_ok h1 h2 h3 (1,1,1) (by decide)
 have hs:ref09_shape_s id kind num re im=some (shapeI id kind num re im,mayI (shapeI id kind num re im)):=by
  unfold ref09_shape_s; exact bnd_of (rimay_s o1)
 unfold ref09_Update_s updateV
 rw [bnd_of hs,bnd_of (rstands h)]
 dsimp only
 rw [bnd_of (rmade h hN hr o1)]
 cases mayI (shapeI id kind num re im) with
 | false=>rfl
 | true =>
  rw [br_f (by rfl),if_neg (by simp)]
  cases hg:lk (bothV s.store s.out) id with
  | none=>rw [getI_f hg]; rfl
  | some y =>
   rw [getI_t hg]
   dsimp only
   cases y.dead<;>rfl
theorem rdelete:ref09_Delete_s s id=some (deleteV s id):=by
 have hl:=h.le
 unfold ref09_Delete_s deleteV
 rw [bnd_of (show ref01_Name_s id=some (lettersB id 1) by unfold ref01_Name_s; rw [chk_t (decide_eq_true h1)]),bnd_of (rstands h)]
 cases lettersB id 1 with
 | false=>rfl
 | true =>
  rw [br_f (by rfl),if_neg (by simp)]
  cases hg:lk (bothV s.store s.out) id with
  | none=>rw [getI_f hg]; rfl
  | some y =>
   rw [getI_t hg]
   have hy:y.Ok:=by
    rw [lk_both h.rs h.ro] at hg
    cases e1:lk s.store id with
    | some z =>
     rw [e1] at hg
     have hz:=h.is z (lk_some e1).1
     rw [h.dj id (by rw [e1]; rfl)] at hg
     injection hg with hg; rw [←hg]; exact hz.1
    | none =>
     rw [e1] at hg
     exact (h.io y (lk_some (show lk s.out id=some y from hg)).1).1
   dsimp only
   cases hd:y.dead with
   | true=>rfl
   | false =>
    have hd':(deadI y).Ok:=⟨hy.id,hy.kind,hy.vr,hy.vc,hy.stamp,hy.num⟩
    refine (br_f (by rfl)).trans ((br_f rfl).trans ?_)
    exact bnd_of (x:=ref09_made_s s (deadI y)) (rmade h hN hr hd')
end
end
end Go.Proofs.YtidkmoohgadjkaaGreat
set_option maxHeartbeats 0
namespace Go.Proofs.YtidkmoohgadjkaaGreat
open Go E
noncomputable section
open Pred
def law00_Code_s (p0:Option Int):Option (Int) :=
  (opt p0 (fun en =>
  (br (eqI en 1)
   (some 1)
   (br (eqI en 2)
    (some 2)
    (br (eqI en 3)
     (some 3)
     (br (eqI en 4)
      (some 4)
      (br (eqI en 5)
       (some 5)
       (br (eqI en 6)
        (some 6)
        (br (eqI en 7)
         (some 7)
         (br (eqI en 8)
          (some 8)
          (br (eqI en 9)
           (some 9)
           (br (eqI en 10)
            (some 10)
            (some (-1)))))))))))))
  (some 0))
def law00_Pick_s (p0:Int) (p1:Int):Option (Int) :=
 (chk (!eqI p1 0)
  (br (ltI (tmodI p0 p1) 0)
   (some (wr .i64 ((tmodI p0 p1) + p1)))
   (some (tmodI p0 p1))))
variable {X:Task→Prop} (hX:Closed X) {Q:A→List Blk→Prop}
include hX
theorem law00_Code_c  {p0:Option Int} {r:Int} (h:law00_Code_s p0=some r) (hQ:Q (iv r) []):X (.call 36 [errA 159 p0] [] Q):=by
  have K:=fun a (e:some a=some r)=>ret_some (f:=fun y=>iv y) (g:=fun y=>[]) e hQ
  unfold law00_Code_s at h
  cases p0 with
  | none =>
    replace h:=opt_no h
    refine call_intro hX Tryz.func36 rfl rfl ?_
    conv=>whnf
    repeat((first|refine dw ?_);conv=>whnf)
    exact K _ h
  | some en =>
    replace h:=opt_so h
    refine call_intro hX Tryz.func36 rfl rfl ?_
    conv=>whnf
    repeat((first|refine dw ?_);conv=>whnf)
    refine loop_intro hX ?_
    conv=>whnf
    repeat((first|refine dw ?_);conv=>whnf)
    revert h
    refine brk (fun c1 h=>?_) (fun c1 h=>?_)
    ·conv=>whnf
     repeat((first|refine dw ?_|refine bct c1 ?_);conv=>whnf)
     exact K _ h
    ·conv=>whnf
     repeat((first|refine dw ?_|refine bcf c1 ?_);conv=>whnf)
     refine loop_intro hX ?_
     conv=>whnf
     repeat((first|refine dw ?_);conv=>whnf)
     revert h
     refine brk (fun c2 h=>?_) (fun c2 h=>?_)
     ·conv=>whnf
      repeat((first|refine dw ?_|refine bct c2 ?_);conv=>whnf)
      exact K _ h
     ·conv=>whnf
      repeat((first|refine dw ?_|refine bcf c2 ?_);conv=>whnf)
      refine loop_intro hX ?_
      conv=>whnf
      repeat((first|refine dw ?_);conv=>whnf)
      revert h
      refine brk (fun c3 h=>?_) (fun c3 h=>?_)
      ·conv=>whnf
       repeat((first|refine dw ?_|refine bct c3 ?_);conv=>whnf)
       exact K _ h
      ·conv=>whnf
       repeat((first|refine dw ?_|refine bcf c3 ?_);conv=>whnf)
       refine loop_intro hX ?_
       conv=>whnf
       repeat((first|refine dw ?_);conv=>whnf)
       revert h
       refine brk (fun c4 h=>?_) (fun c4 h=>?_)
       ·conv=>whnf
        repeat((first|refine dw ?_|refine bct c4 ?_);conv=>whnf)
        exact K _ h
       ·conv=>whnf
        repeat((first|refine dw ?_|refine bcf c4 ?_);conv=>whnf)
        refine loop_intro hX ?_
        conv=>whnf
        repeat((first|refine dw ?_);conv=>whnf)
        revert h
        refine brk (fun c5 h=>?_) (fun c5 h=>?_)
        ·conv=>whnf
         repeat((first|refine dw ?_|refine bct c5 ?_);conv=>whnf)
         exact K _ h
        ·conv=>whnf
         repeat((first|refine dw ?_|refine bcf c5 ?_);conv=>whnf)
         refine loop_intro hX ?_
         conv=>whnf
         repeat((first|refine dw ?_);conv=>whnf)
         revert h
         refine brk (fun c6 h=>?_) (fun c6 h=>?_)
         ·conv=>whnf
          repeat((first|refine dw ?_|refine bct c6 ?_);conv=>whnf)
          exact K _ h
         ·conv=>whnf
          repeat((first|refine dw ?_|refine bcf c6 ?_);conv=>whnf)
          refine loop_intro hX ?_
          conv=>whnf
          repeat((first|refine dw ?_);conv=>whnf)
          revert h
          refine brk (fun c7 h=>?_) (fun c7 h=>?_)
          ·conv=>whnf
           repeat((first|refine dw ?_|refine bct c7 ?_);conv=>whnf)
           exact K _ h
          ·conv=>whnf
           repeat((first|refine dw ?_|refine bcf c7 ?_);conv=>whnf)
           refine loop_intro hX ?_
           conv=>whnf
           repeat((first|refine dw ?_);conv=>whnf)
           revert h
           refine brk (fun c8 h=>?_) (fun c8 h=>?_)
           ·conv=>whnf
            repeat((first|refine dw ?_|refine bct c8 ?_);conv=>whnf)
            exact K _ h
           ·conv=>whnf
            repeat((first|refine dw ?_|refine bcf c8 ?_);conv=>whnf)
            refine loop_intro hX ?_
            conv=>whnf
            repeat((first|refine dw ?_);conv=>whnf)
            revert h
            refine brk (fun c9 h=>?_) (fun c9 h=>?_)
            ·conv=>whnf
             repeat((first|refine dw ?_|refine bct c9 ?_);conv=>whnf)
             exact K _ h
            ·conv=>whnf
             repeat((first|refine dw ?_|refine bcf c9 ?_);conv=>whnf)
             refine loop_intro hX ?_
             conv=>whnf
             repeat((first|refine dw ?_);conv=>whnf)
             revert h
             refine brk (fun c10 h=>?_) (fun c10 h=>?_)
             ·conv=>whnf
              repeat((first|refine dw ?_|refine bct c10 ?_);conv=>whnf)
              exact K _ h
             ·conv=>whnf
              repeat((first|refine dw ?_|refine bcf c10 ?_);conv=>whnf)
              refine loop_intro hX ?_
              conv=>whnf
              repeat((first|refine dw ?_);conv=>whnf)
              exact K _ h
theorem law00_Pick_c  {p0:Int} {p1:Int} {r:Int} (h:law00_Pick_s p0 p1=some r) (hQ:Q (iv r) []):X (.call 48 [iv p0,iv p1] [] Q):=by
  have K:=fun a (e:some a=some r)=>ret_some (f:=fun y=>iv y) (g:=fun y=>[]) e hQ
  unfold law00_Pick_s at h
  refine call_intro hX Tryz.func48 rfl rfl ?_
  revert h
  refine chkk fun c1 h=>?_
  conv=>whnf
  repeat((first|refine dw ?_|refine bcf (nb c1) ?_);conv=>whnf)
  revert h
  refine brk (fun c2 h=>?_) (fun c2 h=>?_)
  ·conv=>whnf
   repeat((first|refine dw ?_|refine bct c2 ?_);conv=>whnf)
   exact K _ h
  ·conv=>whnf
   repeat((first|refine dw ?_|refine bcf c2 ?_);conv=>whnf)
   exact K _ h
end
end Go.Proofs.YtidkmoohgadjkaaGreat
set_option maxHeartbeats 0
namespace Go.Proofs.YtidkmoohgadjkaaGreat
open Go E
noncomputable section
open Pred
def law09_Do_s (p0:State) (p1:Deed9):Option (State × Int) :=
 (bnd (law00_Pick_s p1.what 4) fun y1 =>
  (br (eqI y1 0)
   (bndE (local_Create_s p0 p1.id p1.kind p1.num p1.re p1.im) (fun y4 n6 =>
    (bnd (law00_Code_s (some n6)) fun y7 =>
     some (y4,y7)))
     (fun y4 =>
    (bnd (law00_Code_s none) fun y9 =>
     some (y4,y9))))
   (br (eqI y1 1)
    (bndE (local_Update_s p0 p1.id p1.kind p1.num p1.re p1.im) (fun y12 n14 =>
     (bnd (law00_Code_s (some n14)) fun y15 =>
      some (y12,y15)))
      (fun y12 =>
     (bnd (law00_Code_s none) fun y17 =>
      some (y12,y17))))
    (br (eqI y1 2)
     (bndE (local_Delete_s p0 p1.id) (fun y20 n22 =>
      (bnd (law00_Code_s (some n22)) fun y23 =>
       some (y20,y23)))
       (fun y20 =>
      (bnd (law00_Code_s none) fun y25 =>
       some (y20,y25))))
     (bnd (law00_Pred_s p1.f) fun y27 =>
      (bndE (local_Filter_s p0 y27) (fun y29 n31 =>
       (bnd (law00_Code_s (some n31)) fun y32 =>
        some (y29,y32)))
        (fun y29 =>
       (bnd (law00_Code_s none) fun y34 =>
        some (y29,y34)))))))))
def law09_Want_s (p0:State) (p1:Deed9):Option (State × Int) :=
 (bnd (law00_Pick_s p1.what 4) fun y1 =>
  (br (eqI y1 0)
   (bnd (ref09_Create_s p0 p1.id p1.kind p1.num p1.re p1.im) fun y4 =>
    some (y4.1,y4.2))
   (br (eqI y1 1)
    (bnd (ref09_Update_s p0 p1.id p1.kind p1.num p1.re p1.im) fun y7 =>
     some (y7.1,y7.2))
    (br (eqI y1 2)
     (bnd (ref09_Delete_s p0 p1.id) fun y10 =>
      some (y10.1,y10.2))
     (bnd (law00_Pred_s p1.f) fun y12 =>
      (bnd (ref09_Filter_s p0 y12) fun y14 =>
       some (y14.1,y14.2)))))))
variable {X:Task→Prop} (hX:Closed X) {Q:A→List Blk→Prop}
include hX
theorem law09_Do_c  {p0:State} {p1:Deed9} {r:State × Int} (h:law09_Do_s p0 p1=some r) (hQ:Q (.tup [.agg (State.cs r.1),iv r.2]) []):X (.call 50 [.agg (State.cs p0),.agg [ic p1.what,.p (.v (.string p1.id)),.p (.v (.string p1.kind)),ic p1.num,.p (.v (.float .f64 p1.re)),.p (.v (.float .f64 p1.im)),ic p1.f.op,.p (.v (.string p1.f.text)),ic p1.f.n,.p (.v (.float .f64 p1.f.re)),.p (.v (.float .f64 p1.f.im)),.p (.sl (Pred.lrows p1.f.kids))]] [] Q):=by
  have K:=fun a (e:some a=some r)=>ret_some (f:=fun y=>.tup [.agg (State.cs y.1),iv y.2]) (g:=fun y=>[]) e hQ
  unfold law09_Do_s at h
  refine call_nz hX ?_
  conv=>whnf
  refine call_intro hX Tryz.func50 rfl rfl ?_
  revert h
  refine bndk fun y1 e2 h=>?_
  conv=>whnf
  repeat((first|refine dw ?_);conv=>whnf)
  refine law00_Pick_c hX e2 ?_
  conv=>whnf
  repeat((first|refine dw ?_);conv=>whnf)
  revert h
  refine brk (fun c3 h=>?_) (fun c3 h=>?_)
  ·revert h
   refine bndEk (fun y4 n6 e5 h=>?_) (fun y4 e5 h=>?_)
   ·conv=>whnf
    repeat((first|refine dw ?_|refine bct c3 ?_);conv=>whnf)
    refine local_Create_c hX e5 ?_
    revert h
    refine bndk fun y7 e8 h=>?_
    conv=>whnf
    repeat((first|refine dw ?_);conv=>whnf)
    refine law00_Code_c hX e8 ?_
    conv=>whnf
    repeat((first|refine dw ?_);conv=>whnf)
    exact K _ h
   ·conv=>whnf
    repeat((first|refine dw ?_|refine bct c3 ?_);conv=>whnf)
    refine local_Create_c hX e5 ?_
    revert h
    refine bndk fun y9 e10 h=>?_
    conv=>whnf
    repeat((first|refine dw ?_);conv=>whnf)
    refine law00_Code_c hX e10 ?_
    conv=>whnf
    repeat((first|refine dw ?_);conv=>whnf)
    exact K _ h
  ·conv=>whnf
   repeat((first|refine dw ?_|refine bcf c3 ?_);conv=>whnf)
   revert h
   refine brk (fun c11 h=>?_) (fun c11 h=>?_)
   ·revert h
    refine bndEk (fun y12 n14 e13 h=>?_) (fun y12 e13 h=>?_)
    ·conv=>whnf
     repeat((first|refine dw ?_|refine bct c11 ?_);conv=>whnf)
     refine local_Update_c hX e13 ?_
     revert h
     refine bndk fun y15 e16 h=>?_
     conv=>whnf
     repeat((first|refine dw ?_);conv=>whnf)
     refine law00_Code_c hX e16 ?_
     conv=>whnf
     repeat((first|refine dw ?_);conv=>whnf)
     exact K _ h
    ·conv=>whnf
     repeat((first|refine dw ?_|refine bct c11 ?_);conv=>whnf)
     refine local_Update_c hX e13 ?_
     revert h
     refine bndk fun y17 e18 h=>?_
     conv=>whnf
     repeat((first|refine dw ?_);conv=>whnf)
     refine law00_Code_c hX e18 ?_
     conv=>whnf
     repeat((first|refine dw ?_);conv=>whnf)
     exact K _ h
   ·conv=>whnf
    repeat((first|refine dw ?_|refine bcf c11 ?_);conv=>whnf)
    revert h
    refine brk (fun c19 h=>?_) (fun c19 h=>?_)
    ·revert h
     refine bndEk (fun y20 n22 e21 h=>?_) (fun y20 e21 h=>?_)
     ·conv=>whnf
      repeat((first|refine dw ?_|refine bct c19 ?_);conv=>whnf)
      refine local_Delete_c hX e21 ?_
      revert h
      refine bndk fun y23 e24 h=>?_
      conv=>whnf
      repeat((first|refine dw ?_);conv=>whnf)
      refine law00_Code_c hX e24 ?_
      conv=>whnf
      repeat((first|refine dw ?_);conv=>whnf)
      exact K _ h
     ·conv=>whnf
      repeat((first|refine dw ?_|refine bct c19 ?_);conv=>whnf)
      refine local_Delete_c hX e21 ?_
      revert h
      refine bndk fun y25 e26 h=>?_
      conv=>whnf
      repeat((first|refine dw ?_);conv=>whnf)
      refine law00_Code_c hX e26 ?_
      conv=>whnf
      repeat((first|refine dw ?_);conv=>whnf)
      exact K _ h
    ·revert h
     refine bndk fun y27 e28 h=>?_
     conv=>whnf
     repeat((first|refine dw ?_|refine bcf c19 ?_);conv=>whnf)
     refine law00_Pred_c hX e28 ?_
     revert h
     refine bndEk (fun y29 n31 e30 h=>?_) (fun y29 e30 h=>?_)
     ·conv=>whnf
      repeat((first|refine dw ?_);conv=>whnf)
      refine local_Filter_c hX e30 ?_
      revert h
      refine bndk fun y32 e33 h=>?_
      conv=>whnf
      repeat((first|refine dw ?_);conv=>whnf)
      refine law00_Code_c hX e33 ?_
      conv=>whnf
      repeat((first|refine dw ?_);conv=>whnf)
      exact K _ h
     ·conv=>whnf
      repeat((first|refine dw ?_);conv=>whnf)
      refine local_Filter_c hX e30 ?_
      revert h
      refine bndk fun y34 e35 h=>?_
      conv=>whnf
      repeat((first|refine dw ?_);conv=>whnf)
      refine law00_Code_c hX e35 ?_
      conv=>whnf
      repeat((first|refine dw ?_);conv=>whnf)
      exact K _ h
theorem law09_Want_c  {p0:State} {p1:Deed9} {r:State × Int} (h:law09_Want_s p0 p1=some r) (hQ:Q (.tup [.agg (State.cs r.1),iv r.2]) []):X (.call 51 [.agg (State.cs p0),.agg [ic p1.what,.p (.v (.string p1.id)),.p (.v (.string p1.kind)),ic p1.num,.p (.v (.float .f64 p1.re)),.p (.v (.float .f64 p1.im)),ic p1.f.op,.p (.v (.string p1.f.text)),ic p1.f.n,.p (.v (.float .f64 p1.f.re)),.p (.v (.float .f64 p1.f.im)),.p (.sl (Pred.lrows p1.f.kids))]] [] Q):=by
  have K:=fun a (e:some a=some r)=>ret_some (f:=fun y=>.tup [.agg (State.cs y.1),iv y.2]) (g:=fun y=>[]) e hQ
  unfold law09_Want_s at h
  refine call_nz hX ?_
  conv=>whnf
  refine call_intro hX Tryz.func51 rfl rfl ?_
  revert h
  refine bndk fun y1 e2 h=>?_
  conv=>whnf
  repeat((first|refine dw ?_);conv=>whnf)
  refine law00_Pick_c hX e2 ?_
  conv=>whnf
  repeat((first|refine dw ?_);conv=>whnf)
  revert h
  refine brk (fun c3 h=>?_) (fun c3 h=>?_)
  ·revert h
   refine bndk fun y4 e5 h=>?_
   conv=>whnf
   repeat((first|refine dw ?_|refine bct c3 ?_);conv=>whnf)
   refine ref09_Create_c hX e5 ?_
   conv=>whnf
   repeat((first|refine dw ?_);conv=>whnf)
   exact K _ h
  ·conv=>whnf
   repeat((first|refine dw ?_|refine bcf c3 ?_);conv=>whnf)
   revert h
   refine brk (fun c6 h=>?_) (fun c6 h=>?_)
   ·revert h
    refine bndk fun y7 e8 h=>?_
    conv=>whnf
    repeat((first|refine dw ?_|refine bct c6 ?_);conv=>whnf)
    refine ref09_Update_c hX e8 ?_
    conv=>whnf
    repeat((first|refine dw ?_);conv=>whnf)
    exact K _ h
   ·conv=>whnf
    repeat((first|refine dw ?_|refine bcf c6 ?_);conv=>whnf)
    revert h
    refine brk (fun c9 h=>?_) (fun c9 h=>?_)
    ·revert h
     refine bndk fun y10 e11 h=>?_
     conv=>whnf
     repeat((first|refine dw ?_|refine bct c9 ?_);conv=>whnf)
     refine ref09_Delete_c hX e11 ?_
     conv=>whnf
     repeat((first|refine dw ?_);conv=>whnf)
     exact K _ h
    ·revert h
     refine bndk fun y12 e13 h=>?_
     conv=>whnf
     repeat((first|refine dw ?_|refine bcf c9 ?_);conv=>whnf)
     refine law00_Pred_c hX e13 ?_
     revert h
     refine bndk fun y14 e15 h=>?_
     conv=>whnf
     repeat((first|refine dw ?_);conv=>whnf)
     refine ref09_Filter_c hX e15 ?_
     conv=>whnf
     repeat((first|refine dw ?_);conv=>whnf)
     exact K _ h
end
end Go.Proofs.YtidkmoohgadjkaaGreat
namespace Go.Proofs.YtidkmoohgadjkaaGreat
open Go E Pred
noncomputable section
open Classical
def know0:Know:=⟨zero8,[]⟩
def withAll (k:Know) (l:List Item):Know:=l.foldl (fun k i=>withK k i.id i.vr i.vc) k
def filteredV (s:State) (f:Pred):State:=⟨s.r,f,(bothV s.store s.out).filter (hasP f),(bothV s.store s.out).filter (fun x=>!hasP f x),withAll know0 (bothV s.store s.out),s.count,s.clock,s.epoch + 1⟩
def filterV (s:State) (f:Pred):State × Int :=
 if (!mayP f || (eqI s.f.op 1&&!eqI f.op 1))=true then (s,1) else if eqI s.epoch 1000000=true then (s,5) else (filteredV s f,0)
theorem both_ok {s:State} {N:Nat} (h:SOk s N):∀ i∈bothV s.store s.out,i.Ok∧mayI i=true:=fun i hi=>(mem_both hi).elim (h.is i) (h.io i)
theorem kt0:KT know0 0:=⟨Nat.le_refl _,Nat.le_refl _⟩
theorem ids0:IdsOk know0:=fun f hf=>by cases hf
theorem kt_all:∀ (l:List Item) {k:Know} {N:Nat},KT k N→KT (withAll k l) (N + l.length)
 | [],k,N,h=>h
 | i::l,k,N,h=>by have:=kt_all l (kt_with h i.id i.vr i.vc); rw [List.length_cons]; exact this.mono (by omega)
theorem ids_all:∀ (l:List Item) {k:Know},IdsOk k→(∀ i∈l,i.Ok)→IdsOk (withAll k l)
 | [],k,h,_=>h
 | i::l,k,h,hl=>ids_all l (ids_with h (hl i (List.mem_cons_self ..)).id) fun j hj=>hl j (List.mem_cons_of_mem _ hj)
theorem lfilter_l {s:State} {f:Pred} (hf:f.Ok):∀ (l:List Item) (k:Know) (a b:List Item) (N:Nat),KT k N→N + l.length≤90000→IdsOk k→(∀ i∈l,i.Ok)→a.length + l.length≤1000→b.length + l.length≤1000 →
  local_Filter_l2 s f f l k a b=some (⟨s.r,f,a++l.filter (hasP f),b++l.filter (fun x=>!hasP f x),withAll k l,s.count,s.clock,wr .i64 (s.epoch + 1)⟩,none)
 | [],k,a,b,N,_,_,_,_,_,_=>by rw [local_Filter_l2]; simp [withAll]
 | i::l,k,a,b,N,hk,hN,hi,hl,ha,hb=>by
  rw [List.length_cons] at hN ha hb
  have hx:=hl i (List.mem_cons_self ..)
  have ih:=fun a' b' h1 h2=>lfilter_l (s:=s) hf l (withK k i.id i.vr i.vc) a' b' (N + 1) (kt_with hk ..) (by omega) (ids_with hi hx.id) (fun j hj=>hl j (List.mem_cons_of_mem _ hj)) h1 h2
  rw [local_Filter_l2,bnd_of (kwith_s hk (by omega) hi hx.id),bnd_of (has_s hf hx),chk_t (roomL_of (by omega)),chk_t (roomL_of (by omega)),List.filter_cons,List.filter_cons]
  cases hp:hasP f i with
  | true=>rw [br_t rfl,ih _ _ (by rw [List.length_append]; simp; omega) (by omega)]; simp [withAll]
  | false=>rw [br_f rfl,ih _ _ (by omega) (by rw [List.length_append]; simp; omega)]; simp [withAll]
theorem drop_none {l:List Item} {id:ByteArray} (h:∀ y∈l,ltS y.id id=true):dropV l id=l:=by
 unfold dropV
 rw [List.filter_eq_self]
 intro y hy
 rw [ltS_ne (h y hy)]; rfl
theorem put_last {l:List Item} {x:Item} (h:∀ y∈l,ltS y.id x.id=true):putV l x=l++[x]:=by
 unfold putV
 rw [List.filter_eq_self.2 h]
 congr 1
 rw [show (l.filter fun y=>ltS x.id y.id)=[] from List.filter_eq_nil_iff.2 fun y hy=>by rw [ltS_asym (h y hy)]; simp]
theorem rfilter_l {f:Pred} (hf:f.Ok):∀ (l:List Item) (v:State) (N:Nat),v.f=f→KT v.k N→N + l.length≤90000→IdsOk v.k→(∀ i∈l,i.Ok)→Ris l→Ris v.store→Ris v.out→(∀ y∈v.store, ∀ x∈l,ltS y.id x.id=true)→(∀ y∈v.out, ∀ x∈l,ltS y.id x.id=true)→v.store.length + v.out.length + l.length≤100 →
  ref09_Filter_l2 l v=some (⟨v.r,f,v.store++l.filter (hasP f),v.out++l.filter (fun x=>!hasP f x),withAll v.k l,v.count,v.clock,v.epoch⟩,0)
 | [],v,N,hv,_,_,_,_,_,_,_,_,_,_=>by rw [ref09_Filter_l2,←hv]; simp [withAll]
 | i::l,v,N,hv,hk,hN,hi,hl,hr,r1,r2,h1,h2,hle=>by
  rw [List.length_cons] at hN hle
  have hx:=hl i (List.mem_cons_self ..)
  rw [ris_cons] at hr
  have s1:∀ y∈v.store,ltS y.id i.id=true:=fun y hy=>h1 y hy i (List.mem_cons_self ..)
  have s2:∀ y∈v.out,ltS y.id i.id=true:=fun y hy=>h2 y hy i (List.mem_cons_self ..)
  have e:=rlaid (s:=⟨v.r,v.f,v.store,v.out,withK v.k i.id i.vr i.vc,v.count,v.clock,v.epoch⟩) (x:=i) (b:=true) r1 r2 (by simp only []; omega) (by simp only []; rw [hv]; exact hf) hx
  simp only [drop_none s1,drop_none s2,put_last s1,put_last s2] at e
  rw [ref09_Filter_l2,bnd_of (rwith_t hk (by omega)),bnd_of e,hv]
  have app:∀ {a:List Item},(∀ y∈a, ∀ x∈i::l,ltS y.id x.id=true)→∀ y∈a++[i], ∀ x∈l,ltS y.id x.id=true:=fun ha y hy x hx=>by
   rcases List.mem_append.1 hy with hy | hy
   ·exact ha y hy x (List.mem_cons_of_mem _ hx)
   ·rw [List.mem_singleton.1 hy]; exact hr.1 x hx
  have tl:∀ {a:List Item},(∀ y∈a, ∀ x∈i::l,ltS y.id x.id=true)→∀ y∈a, ∀ x∈l,ltS y.id x.id=true:=fun ha y hy x hx=>ha y hy x (List.mem_cons_of_mem _ hx)
  have ra:∀ {a:List Item},Ris a→(∀ y∈a,ltS y.id i.id=true)→Ris (a++[i]):=fun ha hs=>by
   have:=ris_put ha i; rwa [put_last hs] at this
  rw [List.filter_cons,List.filter_cons]
  cases hp:hasP f i with
  | true =>
   simp only [if_true,Bool.not_true,Bool.false_eq_true,if_false,Bool.true_eq_false,false_and]
   rw [rfilter_l hf l ⟨v.r,f,v.store++[i],v.out,withK v.k i.id i.vr i.vc,v.count,v.clock,v.epoch⟩ (N + 1) rfl (kt_with hk ..) (by omega) (ids_with hi hx.id) (fun j hj=>hl j (List.mem_cons_of_mem _ hj)) hr.2 (ra r1 s1) r2 (app h1) (tl h2) (by simp; omega)]
   simp [withAll]
  | false =>
   simp only [Bool.not_false,Bool.false_eq_true,if_false,if_true,true_and]
   rw [rfilter_l hf l ⟨v.r,f,v.store,v.out++[i],withK v.k i.id i.vr i.vc,v.count,v.clock,v.epoch⟩ (N + 1) rfl (kt_with hk ..) (by omega) (ids_with hi hx.id) (fun j hj=>hl j (List.mem_cons_of_mem _ hj)) hr.2 r1 (ra r2 s2) (tl h1) (app h2) (by simp; omega)]
   simp [withAll]
theorem lfilter {s:State} {f:Pred} {N:Nat} (h:SOk s N) (hN:N≤90000) (hf:f.Ok) (hs:f.size≤1000):local_Filter_s s f=some ((filterV s f).1,errO (filterV s f).2):=by
 have hl:=h.le
 have hlen:=both_len h
 have he:=h.ep
 have j1:local_Filter_j1 s f=some (if eqI s.epoch 1000000=true then (s,some 5) else (filteredV s f,none)):=by
  unfold local_Filter_j1
  rw [bnd_of (fresh_state h (by omega)),bnd_of (lboth_s (by omega)),bnd_of (fresh_pred fuelR (by unfold fuelR; omega) hs),chk_t (smallL_of (by omega)),le_eq he.2]
  have:=lfilter_l (s:=s) hf (bothV s.store s.out) know0 [] [] 0 kt0 (by omega) ids0 (fun i hi=>(both_ok h i hi).1) (by simp; omega) (by simp; omega)
  rw [show (⟨⟨0,0,0,0,0,0,0,0⟩,[]⟩:Know)=know0 from rfl,this,wr1 he]
  cases eqI s.epoch 1000000<;>rfl
 unfold local_Filter_s filterV
 rw [bnd_of (pmay_s hf),bnd_of (fresh_state h (by omega)),j1]
 cases mayP f with
 | false=>rfl
 | true=>cases eqI s.f.op 1 with
  | false=>cases eqI s.epoch 1000000<;>rfl
  | true=>cases eqI f.op 1 with
   | false=>rfl
   | true=>cases eqI s.epoch 1000000<;>rfl
theorem rfilter {s:State} {f:Pred} {N:Nat} (h:SOk s N) (hN:N≤90000) (hf:f.Ok) (hs:f.size≤1000):ref09_Filter_s s f=some (filterV s f):=by
 have hl:=h.le
 have hlen:=both_len h
 have he:=h.ep
 have j1:ref09_Filter_j1 s f=some (if eqI s.epoch 1000000=true then (s,5) else (filteredV s f,0)):=by
  unfold ref09_Filter_j1
  rw [bnd_of (rboth_s h.rs h.ro (by omega)),chk_t (smallL_of (by omega)),wr1 he]
  have:=rfilter_l hf (bothV s.store s.out) ⟨s.r,f,[],[],know0,s.count,s.clock,s.epoch + 1⟩ 0 rfl kt0 (by omega) ids0 (fun i hi=>(both_ok h i hi).1) (ris_both h.rs h.ro) .nil .nil (fun y hy=>by cases hy) (fun y hy=>by cases hy) (by simp; omega)
  rw [show (⟨⟨0,0,0,0,0,0,0,0⟩,[]⟩:Know)=know0 from rfl,this]
  cases eqI s.epoch 1000000<;>rfl
 unfold ref09_Filter_s filterV
 rw [bnd_of (may3_s hf hs),j1]
 cases mayP f with
 | false=>rfl
 | true=>cases eqI s.f.op 1 with
  | false=>cases eqI s.epoch 1000000<;>rfl
  | true=>cases eqI f.op 1 with
   | false=>rfl
   | true=>cases eqI s.epoch 1000000<;>rfl
theorem sameList_s {l:List Item} (hn:l.length≤1000000000) (h:∀ x∈l,sameI x x=true):ref06_SameList_s l l=some true:=by
 unfold ref06_SameList_s
 rw [eqI_t.2 rfl,br_f (by rfl),chk_t (smallL_of hn)]
 have:=sameList_l l [] l l rfl rfl fun p hp=>by
  obtain ⟨i,hi⟩:=List.getElem?_of_mem hp
  rw [List.getElem?_zip_eq_some] at hi
  have e:p.1=p.2:=by have:=hi.1.symm.trans hi.2; injection this
  rw [←e]
  exact h p.1 (List.mem_of_getElem? hi.1)
 exact this
theorem same9_s {s:State} {N:Nat} (h:SOk s N) (hN:N≤90000) (hf:sameP s.f s.f=true):ref09_Same_s s s=some true:=by
 have hl:=h.le
 unfold ref09_Same_s
 rw [eqI_self,eqI_self,eqI_self,eqI_self,bnd_of (rsame_s h.f),hf,bnd_of (sameList_s (by omega) fun x hx=>sameI_real (real_may (h.is x hx).2)),bnd_of (sameList_s (by omega) fun x hx=>sameI_real (real_may (h.io x hx).2)),bnd_of (alike_s (N:=N) (by omega) h.kt.kb),alike_self]
 rfl
def pick4 (n:Int):Int:=if ltI (tmodI n 4) 0=true then wr .i64 (tmodI n 4 + 4) else tmodI n 4
theorem pick4_s (n:Int):law00_Pick_s n 4=some (pick4 n):=by
 unfold law00_Pick_s pick4
 rw [chk_t (by rfl)]
 cases ltI (tmodI n 4) 0<;>rfl
def doV (s:State) (d:Deed9):State × Int :=
 if eqI (pick4 d.what) 0=true then createV s d.id d.kind d.num d.re d.im else if eqI (pick4 d.what) 1=true then updateV s d.id d.kind d.num d.re d.im else if eqI (pick4 d.what) 2=true then deleteV s d.id else filterV s d.f
theorem code_s {n:Int} (h:0≤n∧n≤10):law00_Code_s (errO n)=some n:=by
 obtain ⟨h1,h2⟩:=h
 have:n=0∨n=1∨n=2∨n=3∨n=4∨n=5∨n=6∨n=7∨n=8∨n=9∨n=10:=by omega
 rcases this with rfl | rfl | rfl | rfl | rfl | rfl | rfl | rfl | rfl | rfl | rfl<;>rfl
theorem bndE_code {x:Option (State × Option Int)} {r:State × Int} (h:x=some (r.1,errO r.2)) (hr:0≤r.2∧r.2≤10):bndE x (fun y n=>bnd (law00_Code_s (some n)) fun c=>some (y,c)) (fun y=>bnd (law00_Code_s none) fun c=>some (y,c))=some r:=by
 have hc:=code_s hr
 rw [h]
 cases he:errO r.2 with
 | none=>rw [he] at hc; rw [bndE_n rfl,bnd_of hc]
 | some n=>rw [he] at hc; rw [bndE_e rfl,bnd_of hc]
theorem make_err (s:State) (x:Item):0≤(makeV s x).2∧(makeV s x).2≤10:=by unfold makeV; split<;>exact ⟨by simp,by simp⟩
theorem create_err (s:State) (id kind:ByteArray) (num:Int) (re im:Nat):0≤(createV s id kind num re im).2∧(createV s id kind num re im).2≤10:=by
 unfold createV
 split
 ·exact ⟨by simp,by simp⟩
 ·split
  ·split
   ·exact ⟨by simp,by simp⟩
   ·exact make_err ..
  ·split
   ·exact make_err ..
   ·exact ⟨by simp,by simp⟩
theorem update_err (s:State) (id kind:ByteArray) (num:Int) (re im:Nat):0≤(updateV s id kind num re im).2∧(updateV s id kind num re im).2≤10:=by
 unfold updateV
 split
 ·exact ⟨by simp,by simp⟩
 ·split
  ·exact ⟨by simp,by simp⟩
  ·split
   ·exact ⟨by simp,by simp⟩
   ·exact make_err ..
theorem delete_err (s:State) (id:ByteArray):0≤(deleteV s id).2∧(deleteV s id).2≤10:=by
 unfold deleteV
 split
 ·exact ⟨by simp,by simp⟩
 ·split
  ·exact ⟨by simp,by simp⟩
  ·split
   ·exact ⟨by simp,by simp⟩
   ·exact make_err ..
theorem filter_err (s:State) (f:Pred):0≤(filterV s f).2∧(filterV s f).2≤10:=by
 unfold filterV
 split
 ·exact ⟨by simp,by simp⟩
 ·split<;>exact ⟨by simp,by simp⟩
structure Deed9.Ok (d:Deed9):Prop where
 id:d.id.size≤9223372036854775807
 kind:d.kind.size≤9223372036854775807
 num : -9223372036854775808≤d.num∧d.num≤9223372036854775807
 f:d.f.Ok
theorem do_s {s:State} {d:Deed9} {N:Nat} (h:SOk s N) (hN:N≤90000) (hr:1≤s.r∧s.r≤8) (hd:d.Ok) (hs:d.f.size≤1000):law09_Do_s s d=some (doV s d):=by
 unfold law09_Do_s doV
 rw [bnd_of (pick4_s _),bndE_code (lcreate h hN hr hd.id hd.kind hd.num) (create_err ..),bndE_code (lupdate h hN hr hd.id hd.kind hd.num) (update_err ..),bndE_code (ldelete h hN hr hd.id) (delete_err ..),bnd_of (lpred_s hd.f hs),bndE_code (lfilter h hN hd.f hs) (filter_err ..)]
 simp only [br_if]
 repeat' split
 all_goals rfl
theorem want_s {s:State} {d:Deed9} {N:Nat} (h:SOk s N) (hN:N≤90000) (hr:1≤s.r∧s.r≤8) (hd:d.Ok) (hs:d.f.size≤1000):law09_Want_s s d=some (doV s d):=by
 unfold law09_Want_s doV
 rw [bnd_of (pick4_s _),bnd_of (rcreate h hN hr hd.id hd.kind hd.num),bnd_of (rupdate h hN hr hd.id hd.kind hd.num),bnd_of (rdelete h hN hr hd.id),bnd_of (lpred_s hd.f hs),bnd_of (rfilter h hN hd.f hs)]
 simp only [br_if]
 repeat' split
 all_goals rfl
theorem may_verI {s:State} {x:Item} (hm:mayI x=true) (hr:1≤s.r∧s.r≤8) (hc:0≤s.count∧s.count < 1000) (hk:0≤s.clock∧s.clock < 1000000):mayI (verI s x)=true:=by
 unfold mayI verB at hm ⊢
 simp only [Bool.and_eq_true] at hm ⊢
 refine ⟨hm.1,⟨inN_iff.2 hr,inN_iff.2 ⟨by show 1≤s.count + 1; omega,by show s.count + 1≤1000; omega⟩⟩,⟨inN_iff.2 ⟨by show 1≤s.clock + 1; omega,by show s.clock + 1≤1000000; omega⟩,hm.2.2.1.2⟩,hm.2.2.2⟩
theorem ok_make {s:State} {x:Item} {N:Nat} (h:SOk s N) (hr:1≤s.r∧s.r≤8) (hx:x.Ok) (hm:mayI x=true) (hfull:(lk (bothV s.store s.out) x.id).isNone=true→s.store.length + s.out.length < 40):SOk (makeV s x).1 (N + 1):=by
 unfold makeV
 split
 ·exact h.mono (by omega)
 ·rename_i hn
  simp only [Bool.or_eq_true,not_or,Bool.not_eq_true,eqI_f] at hn
  have hc:=h.cn
  have hk:=h.cl
  exact ok_made h hr hx (may_verI hm hr (by omega) (by omega)) (by omega) (by omega) hfull
theorem len_parts (p:Item→Bool):∀ l:List Item,(l.filter p).length + (l.filter fun x=>!p x).length=l.length
 | []=>rfl
 | x::l=>by
  have:=len_parts p l
  rw [List.filter_cons,List.filter_cons]
  cases p x<;>simp<;>omega
theorem may_dead {y:Item} (h:mayI y=true):mayI (deadI y)=true:=by unfold mayI at *; exact h
theorem ok_filter {s:State} {f:Pred} {N:Nat} (h:SOk s N) (hf:f.Ok) (hs:f.size≤1000):SOk (filterV s f).1 (N + 41):=by
 have hl:=h.le
 have hlen:=both_len h
 have he:=h.ep
 have hb:=both_ok h
 have hr:=ris_both h.rs h.ro
 unfold filterV
 split
 ·exact h.mono (by omega)
 ·split
  ·exact h.mono (by omega)
  ·rename_i hn
   simp only [Bool.not_eq_true,eqI_f] at hn
   refine ⟨hf,hs,hr.filter _,hr.filter _,?_,?_,fun i hi=>hb i (List.mem_filter.1 hi).1,fun i hi=>hb i (List.mem_filter.1 hi).1,(kt_all _ kt0).mono (by omega),ids_all _ ids0 fun i hi=>(hb i hi).1,h.cn,h.cl,by show 0≤s.epoch + 1∧s.epoch + 1≤1000000; omega⟩
   ·show ((bothV s.store s.out).filter (hasP f)).length + ((bothV s.store s.out).filter fun x=>!hasP f x).length≤40
    have:=len_parts (hasP f) (bothV s.store s.out)
    omega
   ·intro id hid
    have hid':(lk ((bothV s.store s.out).filter (hasP f)) id).isSome=true:=hid
    show lk ((bothV s.store s.out).filter fun x=>!hasP f x) id=none
    obtain ⟨x,hx⟩:=Option.isSome_iff_exists.1 hid'
    obtain ⟨m1,m2⟩:=lk_some hx
    rw [List.mem_filter] at m1
    cases h2:lk ((bothV s.store s.out).filter fun x=>!hasP f x) id with
    | none=>rfl
    | some y =>
     obtain ⟨n1,n2⟩:=lk_some h2
     rw [List.mem_filter] at n1
     have e1:=lk_mem hr m1.1
     have e2:=lk_mem hr n1.1
     rw [m2] at e1
     rw [n2,e1] at e2
     injection e2 with e2
     rw [←e2,m1.2] at n1
     cases n1.2
theorem both_get {s:State} {N:Nat} (h:SOk s N) {id:ByteArray} {y:Item} (e:lk (bothV s.store s.out) id=some y):y.Ok∧mayI y=true∧y.id=id:=⟨(both_ok h y (lk_some e).1).1,(both_ok h y (lk_some e).1).2,(lk_some e).2⟩
theorem ok_do {s:State} {d:Deed9} {N:Nat} (h:SOk s N) (hr:1≤s.r∧s.r≤8) (hd:d.Ok) (hs:d.f.size≤1000):SOk (doV s d).1 (N + 41):=by
 have hl:=h.le
 have o1:(shapeI d.id d.kind d.num d.re d.im).Ok:=shape_ok hd.id hd.kind hd.num (1,1,1) (by decide)
 unfold doV
 split
 ·unfold createV
  split
  ·exact h.mono (by omega)
  ·rename_i hm
   simp only [Bool.not_eq_true',Bool.not_eq_false] at hm
   split
   ·rename_i hg
    split
    ·exact h.mono (by omega)
    ·exact (ok_make h hr o1 hm fun _=>by omega).mono (by omega)
   ·rename_i y hg
    split
    ·exact (ok_make h hr o1 hm fun hn=>by rw [show (shapeI d.id d.kind d.num d.re d.im).id=d.id from rfl,hg] at hn; cases hn).mono (by omega)
    ·exact h.mono (by omega)
 ·split
  ·unfold updateV
   split
   ·exact h.mono (by omega)
   ·rename_i hm
    simp only [Bool.not_eq_true',Bool.not_eq_false] at hm
    split
    ·exact h.mono (by omega)
    ·rename_i y hg
     split
     ·exact h.mono (by omega)
     ·exact (ok_make h hr o1 hm fun hn=>by rw [show (shapeI d.id d.kind d.num d.re d.im).id=d.id from rfl,hg] at hn; cases hn).mono (by omega)
  ·split
   ·unfold deleteV
    split
    ·exact h.mono (by omega)
    ·split
     ·exact h.mono (by omega)
     ·rename_i y hg
      split
      ·exact h.mono (by omega)
      ·obtain ⟨hy,hm,he⟩:=both_get h hg
       exact (ok_make (x:=deadI y) h hr ⟨hy.id,hy.kind,hy.vr,hy.vc,hy.stamp,hy.num⟩ (may_dead hm) fun hn=>by rw [show (deadI y).id=d.id from he,hg] at hn; cases hn).mono (by omega)
   ·exact ok_filter h hd.f hs
theorem do_r (s:State) (d:Deed9):(doV s d).1.r=s.r:=by
 have mk:∀ x,(makeV s x).1.r=s.r:=fun x=>by unfold makeV; split<;>rfl
 unfold doV createV updateV deleteV filterV
 repeat' split
 all_goals first | rfl | exact mk _
theorem do_f {s:State} {d:Deed9} (h:mayP s.f=true):mayP (doV s d).1.f=true:=by
 have mk:∀ x,(makeV s x).1.f=s.f:=fun x=>by unfold makeV; split<;>rfl
 unfold doV createV updateV deleteV filterV
 repeat' split
 all_goals first | exact h | (rw [mk]; exact h) | skip
 rename_i hm _
 simp only [Bool.or_eq_true,not_or,Bool.not_eq_true',Bool.not_eq_false] at hm
 exact hm.1
end
end Go.Proofs.YtidkmoohgadjkaaGreat
set_option maxHeartbeats 4000000
namespace Go.Proofs.YtidkmoohgadjkaaGreat
open Go E Go.ChangeShapes Go.WideShapes Go.ChangeAt Go.RowKit
theorem cellsDeed9:Tryz.prog.cellsOf 101=12:=by kernel_rfl
def deed9Sh (n:Nat):Sh:=.cat (.int .i64) (.cat .str (.cat .str (.cat (.int .i64) (.cat (.flt .f64) (.cat (.flt .f64) (.cat (treeSh (n - 1)) .nil))))))
theorem deed9_size (n:Nat):(deed9Sh n).size=12:=by unfold deed9Sh; simp only [Sh.size,tree_size]
theorem shDeed9:∀ n,ShOk Tryz.prog n 101 (deed9Sh n)
 | 0=>.zero
 | n + 1=>.struct Tryz.underlying101 (by rw [deed9_size]; exact cellsDeed9) (.cons rfl cellsInt (shInt n) (.cons rfl cellsStr (shStr n) (.cons rfl cellsStr (shStr n) (.cons rfl cellsInt (shInt n) (.cons rfl cellsFlt (shFlt n) (.cons rfl cellsFlt (shFlt n)
   (.cons rfl (by rw [show n + 1 - 1=n from rfl,tree_size]; exact cellsTree) (shTree n) .nil)))))))
theorem fits_deed9 (n:Nat) {l:List PC} (h:Fits (deed9Sh n) l):∃ d:Deed9,d.Ok∧l=d.row:=by
 obtain ⟨_,_,rfl,⟨x0,rfl,w0⟩,_,_,rfl,⟨x1,rfl,w1⟩,_,_,rfl,⟨x2,rfl,w2⟩,_,_,rfl,⟨x3,rfl,w3⟩,_,_,rfl,⟨x4,rfl,w4⟩,_,_,rfl,⟨x5,rfl,w5⟩,_,_,rfl,hf,rfl⟩:=h
 obtain ⟨p,op,rfl⟩:=tree_fits _ hf
 rw [Pred.lrow_eq]
 exact ⟨⟨x0,x1,x2,x3,x4,x5,p⟩,⟨Nat.le_trans w1 (by decide),Nat.le_trans w2 (by decide),i64_of w3,op⟩,rfl⟩
abbrev Deed9.la (x:Deed9):A:=.agg [ic x.what,.p (.v (.string x.id)),.p (.v (.string x.kind)),ic x.num,.p (.v (.float .f64 x.re)),.p (.v (.float .f64 x.im)),ic x.f.op,.p (.v (.string x.f.text)),ic x.f.n,.p (.v (.float .f64 x.f.re)),.p (.v (.float .f64 x.f.im)),.p (.sl (Pred.lrows x.f.kids))]
section
variable {H:Type} {enc:TypeId × Value→H} {W:World} {v:Value} {d:DataW H} {ps:List MemPlace} {b0:Nat}
end
end Go.Proofs.YtidkmoohgadjkaaGreat
namespace Go.Proofs.YtidkmoohgadjkaaGreat
open Go E Pred
noncomputable section
open Classical
theorem sok_new {r:Int} {f:Pred} (hf:f.Ok) (hs:f.size≤1000):SOk (newS r f) 0 :=
 ⟨hf,hs,.nil,.nil,by show 0 + 0≤40; decide,fun id h=>rfl,fun i hi=>(by cases hi),fun i hi=>(by cases hi),kt0,ids0,by show (0:Int)≤0∧(0:Int)≤1000; decide,by show (0:Int)≤0∧(0:Int)≤1000000; decide,by show (0:Int)≤0∧(0:Int)≤1000000; decide⟩
theorem small_s {f:Pred} (h:f.Ok):∃ b,law00_Small_s f=some b∧(b=0∨(b=1∧f.size≤60)):=by
 by_cases hs:f.size≤60
 ·exact ⟨1,lsmall_t h hs,.inr ⟨rfl,hs⟩⟩
 ·exact ⟨0,lsmall_f h hs,.inl rfl⟩
theorem may_pf {f:Pred} (h:mayP f=true):sameP f f=true:=sameP_refl (mayP_iff.1 h).2.2
theorem new_parts {r:Int} {f:Pred}:(newV r f=(state0,1))∨(newV r f=(newS r f,0)∧(1≤r∧r≤8)∧mayP f=true):=by
 unfold newV
 split
 ·rename_i h
  rw [Bool.and_eq_true,inN_iff] at h
  exact .inr ⟨rfl,h.1,h.2⟩
 ·exact .inl rfl
end
end Go.Proofs.YtidkmoohgadjkaaGreat
set_option maxHeartbeats 0
namespace Go.Proofs.YtidkmoohgadjkaaGreat
open Go E
noncomputable section
open Pred
def law10_up_s:Option (Bool) :=
 (bndE (local_New_s 1 (Pred.mk 2 ⟨#[]⟩ 0 0 0 ([]:List Pred))) (fun y1 n3 =>
  (bndE (recv_Item_s y1 (Item.mk ⟨#[97]⟩ 2 1 5 ⟨#[]⟩ 0 0 0 false)) (fun y4 n6 =>
   some false)
    (fun y4 =>
   some false)))
   (fun y1 =>
  (bndE (recv_Item_s y1 (Item.mk ⟨#[97]⟩ 2 1 5 ⟨#[]⟩ 0 0 0 false)) (fun y7 n9 =>
   some false)
    (fun y7 =>
   (br (eqI (wr .i64 ((y7.store.length:Int) + (y7.out.length:Int))) 0)
    (bnd (know_Has_s y7.k ⟨#[97]⟩ (Ver.mk 2 1)) fun y11 =>
     (br y11
      (some (eqI y7.clock 5))
      (some false)))
    (some false))))))
def law10_RecvTells_s (p0:Sit) (p1:Item) (p2:ByteArray) (p3:Ver) (p4:Ver):Option (Bool) :=
 (bnd (law10_up_s ) fun y1 =>
  (bnd (law00_Fits_s p0) fun y3 =>
   (br (eqI y3 0)
    (some y1)
    (bnd (law00_State_s p0) fun y6 =>
     (bnd (law00_Item_s p1) fun y8 =>
      (bnd (ref09_May_s y6) fun y10 =>
       (br (!y10)
        (some y1)
        (bndE (recv_Item_s y6 y8) (fun y13 n15 =>
         (bnd (ref09_Item_s y6 y8) fun y16 =>
          (bnd (ref09_Same_s y13 y16.1) fun y18 =>
           (br (!y18)
            (some false)
            (bnd (law00_Code_s (some n15)) fun y21 =>
             (br (!eqI y21 y16.2)
              (some false)
              (bnd (recv_Goes_s y6 p2 p3 p4) fun y24 =>
               (bnd (ref09_Goes_s y6 p2 p3 p4) fun y26 =>
                (bnd (ref09_Same_s y24 y26) fun y28 =>
                 (br y1
                  (some y28)
                  (some false)))))))))))
          (fun y13 =>
         (bnd (ref09_Item_s y6 y8) fun y31 =>
          (bnd (ref09_Same_s y13 y31.1) fun y33 =>
           (br (!y33)
            (some false)
            (bnd (law00_Code_s none) fun y36 =>
             (br (!eqI y36 y31.2)
              (some false)
              (bnd (recv_Goes_s y6 p2 p3 p4) fun y39 =>
               (bnd (ref09_Goes_s y6 p2 p3 p4) fun y41 =>
                (bnd (ref09_Same_s y39 y41) fun y43 =>
                 (br y1
                  (some y43)
                  (some false)))))))))))))))))))
def law10_RecvPlays_j2 (k1:State→State→Option (Bool)) (v77:Int) (v78:Int) (v121:State) (v122:State):Option (Bool) :=
 (bnd (ref09_Same_s v121 v122) fun y123 =>
  (br (!y123)
   (some false)
   (br (!eqI v78 v77)
    (some false)
    (k1 v121 v122))))
def law10_RecvPlays_j4 (v70:State) (v71:State) (x1e:Deed10) (k1:State→State→Option (Bool)) (v147:Ver):Option (Bool) :=
 (bnd (recv_Goes_s v70 x1e.x.id v147 x1e.new) fun y148 =>
  (bnd (ref09_Goes_s v71 x1e.x.id v147 x1e.new) fun y150 =>
   (law10_RecvPlays_j2 k1 0 0 y148 y150)))
def law10_RecvPlays_j3 (v70:State) (v71:State) (x1e:Deed10) (y75:Item) (y127:Int) (k1:State→State→Option (Bool)) (v129:Bool):Option (Bool) :=
 (br v129
  (bndE (recv_Item_s v70 y75) (fun y131 n133 =>
   (bnd (law00_Code_s (some n133)) fun y134 =>
    (bnd (ref09_Item_s v71 y75) fun y136 =>
     (law10_RecvPlays_j2 k1 y136.2 y134 y131 y136.1))))
    (fun y131 =>
   (bnd (law00_Code_s none) fun y138 =>
    (bnd (ref09_Item_s v71 y75) fun y140 =>
     (law10_RecvPlays_j2 k1 y140.2 y138 y131 y140.1)))))
  (br (eqI y127 2)
   (bnd (ref06_Get_s v71.store x1e.x.id) fun y143 =>
    (br y143.2
     (br (eqI (tmodI x1e.n 2) 0)
      (law10_RecvPlays_j4 v70 v71 x1e k1 (Ver.mk y143.1.vr y143.1.vc))
      (law10_RecvPlays_j4 v70 v71 x1e k1 x1e.old))
     (law10_RecvPlays_j4 v70 v71 x1e k1 x1e.old)))
   (bnd (law09_Do_s v70 x1e.d) fun y154 =>
    (bnd (law09_Want_s v71 x1e.d) fun y156 =>
     (law10_RecvPlays_j2 k1 y156.2 y154.2 y154.1 y156.1)))))
def law10_RecvPlays_l1 (y1:Bool):List Deed10→State→State→Option (Bool)
  | [],v70,v71 =>
  some y1
  | x1e::xs1,v70,v71 =>
  (bnd (law00_Small_s x1e.d.f) fun y72 =>
   (br (eqI y72 0)
    (some y1)
    (bnd (law00_Item_s x1e.x) fun y75 =>
     (bnd (law00_Pick_s x1e.what 4) fun y127 =>
      (br (eqI y127 0)
       (law10_RecvPlays_j3 v70 v71 x1e y75 y127 (fun w0 w1=>law10_RecvPlays_l1 y1 xs1  w0 w1) (eqI y127 0))
       (law10_RecvPlays_j3 v70 v71 x1e y75 y127 (fun w0 w1=>law10_RecvPlays_l1 y1 xs1  w0 w1) (eqI y127 1)))))))
def law10_RecvPlays_s (p0:Int) (p1:Pred) (p2:List Deed10):Option (Bool) :=
 (bnd (law10_up_s ) fun y1 =>
  (bnd (law00_Small_s p1) fun y3 =>
   (br (eqI y3 0)
    (some y1)
    (br (ltI 100 (p2.length:Int))
     (some y1)
     (bnd (law00_Pred_s p1) fun y7 =>
      (bndE (local_New_s p0 y7) (fun y9 n11 =>
       (bnd (law00_Pred_s p1) fun y12 =>
        (bnd (ref09_New_s p0 y12) fun y14 =>
         (br y1
          (bnd (law00_Code_s (some n11)) fun y17 =>
           some (eqI y17 y14.2))
          (some false)))))
        (fun y9 =>
       (bnd (law00_Pred_s p1) fun y19 =>
        (bnd (ref09_New_s p0 y19) fun y21 =>
         (br (!eqI y21.2 0)
          (br y1
           (bnd (law00_Code_s none) fun y25 =>
            some (eqI y25 y21.2))
           (some false))
          (chk (smallL p2)
            ((law10_RecvPlays_l1 y1) p2 y9 y21.1))))))))))))
variable {X:Task→Prop} (hX:Closed X) {Q:A→List Blk→Prop}
include hX
theorem law10_up_c  {r:Bool} (h:law10_up_s  = some r) (hQ:Q (.one (.p (.v (.bool r)))) []):X (.call 31 [] [] Q):=by
  have K:=fun a (e:some a=some r)=>ret_some (f:=fun y=>.one (.p (.v (.bool y)))) (g:=fun y=>[]) e hQ
  unfold law10_up_s at h
  refine call_intro hX Tryz.func31 rfl rfl ?_
  revert h
  refine bndEk (fun y1 n3 e2 h=>?_) (fun y1 e2 h=>?_)
  ·conv=>whnf
   repeat((first|refine dw ?_);conv=>whnf)
   refine call_nz hX ?_
   conv=>whnf
   refine local_New_c hX e2 ?_
   revert h
   refine bndEk (fun y4 n6 e5 h=>?_) (fun y4 e5 h=>?_)
   ·conv=>whnf
    repeat((first|refine dw ?_);conv=>whnf)
    refine recv_Item_c hX e5 ?_
    conv=>whnf
    repeat((first|refine dw ?_);conv=>whnf)
    exact K _ h
   ·conv=>whnf
    repeat((first|refine dw ?_);conv=>whnf)
    refine recv_Item_c hX e5 ?_
    conv=>whnf
    repeat((first|refine dw ?_);conv=>whnf)
    exact K _ h
  ·conv=>whnf
   repeat((first|refine dw ?_);conv=>whnf)
   refine call_nz hX ?_
   conv=>whnf
   refine local_New_c hX e2 ?_
   revert h
   refine bndEk (fun y7 n9 e8 h=>?_) (fun y7 e8 h=>?_)
   ·conv=>whnf
    repeat((first|refine dw ?_);conv=>whnf)
    refine recv_Item_c hX e8 ?_
    conv=>whnf
    repeat((first|refine dw ?_);conv=>whnf)
    exact K _ h
   ·conv=>whnf
    repeat((first|refine dw ?_);conv=>whnf)
    refine recv_Item_c hX e8 ?_
    conv=>whnf
    repeat((first|refine dw ?_|refine eqv_to (map_len _) ?_);conv=>whnf)
    revert h
    refine brk (fun c10 h=>?_) (fun c10 h=>?_)
    ·revert h
     refine bndk fun y11 e12 h=>?_
     conv=>whnf
     repeat((first|refine dw ?_|refine bct c10 ?_);conv=>whnf)
     refine know_Has_c hX e12 ?_
     conv=>whnf
     repeat((first|refine dw ?_|refine bct c10 ?_);conv=>whnf)
     revert h
     refine brk (fun c13 h=>?_) (fun c13 h=>?_)
     ·conv=>whnf
      repeat((first|refine dw ?_|refine bct c13 ?_);conv=>whnf)
      exact K _ h
     ·conv=>whnf
      repeat((first|refine dw ?_|refine bcf c13 ?_);conv=>whnf)
      exact K _ h
    ·conv=>whnf
     repeat((first|refine dw ?_|refine bcf c10 ?_);conv=>whnf)
     exact K _ h
theorem law10_RecvTells_c  {p0:Sit} {p1:Item} {p2:ByteArray} {p3:Ver} {p4:Ver} {r:Bool} (h:law10_RecvTells_s p0 p1 p2 p3 p4=some r) (hQ:Q (.one (.p (.v (.bool r)))) []):X (.call 6 [.agg [ic p0.r,ic p0.f.op,.p (.v (.string p0.f.text)),ic p0.f.n,.p (.v (.float .f64 p0.f.re)),.p (.v (.float .f64 p0.f.im)),.p (.sl (Pred.lrows p0.f.kids)),.p (.sl (p0.store.map Item.lrow)),.p (.sl (p0.out.map Item.lrow)),ic p0.k.star.x0,ic p0.k.star.x1,ic p0.k.star.x2,ic p0.k.star.x3,ic p0.k.star.x4,ic p0.k.star.x5,ic p0.k.star.x6,ic p0.k.star.x7,.p (.sl (p0.k.l.map Frag.row)),ic p0.count,ic p0.clock,ic p0.epoch],.agg [.p (.v (.string p1.id)),ic p1.vr,ic p1.vc,ic p1.stamp,.p (.v (.string p1.kind)),ic p1.num,.p (.v (.float .f64 p1.re)),.p (.v (.float .f64 p1.im)),.p (.v (.bool p1.dead))],.one (.p (.v (.string p2))),.agg (Ver.cs p3),.agg (Ver.cs p4)] [] Q):=by
  have K:=fun a (e:some a=some r)=>ret_some (f:=fun y=>.one (.p (.v (.bool y)))) (g:=fun y=>[]) e hQ
  unfold law10_RecvTells_s at h
  refine call_intro hX Tryz.func6 rfl rfl ?_
  revert h
  refine bndk fun y1 e2 h=>?_
  conv=>whnf
  repeat((first|refine dw ?_);conv=>whnf)
  refine law10_up_c hX e2 ?_
  revert h
  refine bndk fun y3 e4 h=>?_
  conv=>whnf
  repeat((first|refine dw ?_);conv=>whnf)
  refine law00_Fits_c hX e4 ?_
  conv=>whnf
  repeat((first|refine dw ?_);conv=>whnf)
  revert h
  refine brk (fun c5 h=>?_) (fun c5 h=>?_)
  ·conv=>whnf
   repeat((first|refine dw ?_|refine bct c5 ?_);conv=>whnf)
   exact K _ h
  ·revert h
   refine bndk fun y6 e7 h=>?_
   conv=>whnf
   repeat((first|refine dw ?_|refine bcf c5 ?_);conv=>whnf)
   refine law00_State_c hX e7 ?_
   revert h
   refine bndk fun y8 e9 h=>?_
   conv=>whnf
   repeat((first|refine dw ?_);conv=>whnf)
   refine law00_Item_c hX e9 ?_
   revert h
   refine bndk fun y10 e11 h=>?_
   conv=>whnf
   repeat((first|refine dw ?_);conv=>whnf)
   refine ref09_May_c hX e11 ?_
   conv=>whnf
   repeat((first|refine dw ?_);conv=>whnf)
   revert h
   refine brk (fun c12 h=>?_) (fun c12 h=>?_)
   ·conv=>whnf
    repeat((first|refine dw ?_|refine bct c12 ?_);conv=>whnf)
    exact K _ h
   ·revert h
    refine bndEk (fun y13 n15 e14 h=>?_) (fun y13 e14 h=>?_)
    ·conv=>whnf
     repeat((first|refine dw ?_|refine bcf c12 ?_);conv=>whnf)
     refine recv_Item_c hX e14 ?_
     revert h
     refine bndk fun y16 e17 h=>?_
     conv=>whnf
     repeat((first|refine dw ?_);conv=>whnf)
     refine ref09_Item_c hX e17 ?_
     revert h
     refine bndk fun y18 e19 h=>?_
     conv=>whnf
     repeat((first|refine dw ?_);conv=>whnf)
     refine ref09_Same_c hX e19 ?_
     conv=>whnf
     repeat((first|refine dw ?_);conv=>whnf)
     revert h
     refine brk (fun c20 h=>?_) (fun c20 h=>?_)
     ·conv=>whnf
      repeat((first|refine dw ?_|refine bct c20 ?_);conv=>whnf)
      exact K _ h
     ·revert h
      refine bndk fun y21 e22 h=>?_
      conv=>whnf
      repeat((first|refine dw ?_|refine bcf c20 ?_);conv=>whnf)
      refine law00_Code_c hX e22 ?_
      conv=>whnf
      repeat((first|refine dw ?_|refine bcf c20 ?_);conv=>whnf)
      revert h
      refine brk (fun c23 h=>?_) (fun c23 h=>?_)
      ·conv=>whnf
       repeat((first|refine dw ?_|refine bct c23 ?_);conv=>whnf)
       exact K _ h
      ·revert h
       refine bndk fun y24 e25 h=>?_
       conv=>whnf
       repeat((first|refine dw ?_|refine bcf c23 ?_);conv=>whnf)
       refine recv_Goes_c hX e25 ?_
       revert h
       refine bndk fun y26 e27 h=>?_
       conv=>whnf
       repeat((first|refine dw ?_);conv=>whnf)
       refine ref09_Goes_c hX e27 ?_
       revert h
       refine bndk fun y28 e29 h=>?_
       conv=>whnf
       repeat((first|refine dw ?_);conv=>whnf)
       refine ref09_Same_c hX e29 ?_
       conv=>whnf
       repeat((first|refine dw ?_);conv=>whnf)
       revert h
       refine brk (fun c30 h=>?_) (fun c30 h=>?_)
       ·conv=>whnf
        repeat((first|refine dw ?_|refine bct c30 ?_);conv=>whnf)
        exact K _ h
       ·conv=>whnf
        repeat((first|refine dw ?_|refine bcf c30 ?_);conv=>whnf)
        exact K _ h
    ·conv=>whnf
     repeat((first|refine dw ?_|refine bcf c12 ?_);conv=>whnf)
     refine recv_Item_c hX e14 ?_
     revert h
     refine bndk fun y31 e32 h=>?_
     conv=>whnf
     repeat((first|refine dw ?_);conv=>whnf)
     refine ref09_Item_c hX e32 ?_
     revert h
     refine bndk fun y33 e34 h=>?_
     conv=>whnf
     repeat((first|refine dw ?_);conv=>whnf)
     refine ref09_Same_c hX e34 ?_
     conv=>whnf
     repeat((first|refine dw ?_);conv=>whnf)
     revert h
     refine brk (fun c35 h=>?_) (fun c35 h=>?_)
     ·conv=>whnf
      repeat((first|refine dw ?_|refine bct c35 ?_);conv=>whnf)
      exact K _ h
     ·revert h
      refine bndk fun y36 e37 h=>?_
      conv=>whnf
      repeat((first|refine dw ?_|refine bcf c35 ?_);conv=>whnf)
      refine law00_Code_c hX e37 ?_
      conv=>whnf
      repeat((first|refine dw ?_|refine bcf c35 ?_);conv=>whnf)
      revert h
      refine brk (fun c38 h=>?_) (fun c38 h=>?_)
      ·conv=>whnf
       repeat((first|refine dw ?_|refine bct c38 ?_);conv=>whnf)
       exact K _ h
      ·revert h
       refine bndk fun y39 e40 h=>?_
       conv=>whnf
       repeat((first|refine dw ?_|refine bcf c38 ?_);conv=>whnf)
       refine recv_Goes_c hX e40 ?_
       revert h
       refine bndk fun y41 e42 h=>?_
       conv=>whnf
       repeat((first|refine dw ?_);conv=>whnf)
       refine ref09_Goes_c hX e42 ?_
       revert h
       refine bndk fun y43 e44 h=>?_
       conv=>whnf
       repeat((first|refine dw ?_);conv=>whnf)
       refine ref09_Same_c hX e44 ?_
       conv=>whnf
       repeat((first|refine dw ?_);conv=>whnf)
       revert h
       refine brk (fun c45 h=>?_) (fun c45 h=>?_)
       ·conv=>whnf
        repeat((first|refine dw ?_|refine bct c45 ?_);conv=>whnf)
        exact K _ h
       ·conv=>whnf
        repeat((first|refine dw ?_|refine bcf c45 ?_);conv=>whnf)
        exact K _ h
theorem law10_RecvPlays_c  {p0:Int} {p1:Pred} {p2:List Deed10} {r:Bool} (h:law10_RecvPlays_s p0 p1 p2=some r) (hQ:Q (.one (.p (.v (.bool r)))) []):X (.call 8 [iv p0,.agg [ic p1.op,.p (.v (.string p1.text)),ic p1.n,.p (.v (.float .f64 p1.re)),.p (.v (.float .f64 p1.im)),.p (.sl (Pred.lrows p1.kids))],.one (.p (.sl (p2.map Deed10.row)))] [] Q):=by
  have K:=fun a (e:some a=some r)=>ret_some (f:=fun y=>.one (.p (.v (.bool y)))) (g:=fun y=>[]) e hQ
  unfold law10_RecvPlays_s at h
  refine call_intro hX Tryz.func8 rfl rfl ?_
  replace h:=bnd_some h
  obtain ⟨y1,e2,h⟩:=h
  conv=>whnf
  repeat((first|refine dw ?_);conv=>whnf)
  refine law10_up_c hX e2 ?_
  replace h:=bnd_some h
  obtain ⟨y3,e4,h⟩:=h
  conv=>whnf
  repeat((first|refine dw ?_);conv=>whnf)
  refine law00_Small_c hX e4 ?_
  conv=>whnf
  repeat((first|refine dw ?_);conv=>whnf)
  refine br_some h (fun c5 g=>?_) (fun c5 g=>?_)
  ·replace h:=g
   clear g
   conv=>whnf
   repeat((first|refine dw ?_|refine bct c5 ?_);conv=>whnf)
   exact K _ h
  ·replace h:=g
   clear g
   conv=>whnf
   repeat((first|refine dw ?_|refine bcf c5 ?_|refine eqv_to (map_len _) ?_);conv=>whnf)
   refine br_some h (fun c6 g=>?_) (fun c6 g=>?_)
   ·replace h:=g
    clear g
    conv=>whnf
    repeat((first|refine dw ?_|refine bct c6 ?_);conv=>whnf)
    exact K _ h
   ·replace h:=g
    clear g
    replace h:=bnd_some h
    obtain ⟨y7,e8,h⟩:=h
    conv=>whnf
    repeat((first|refine dw ?_|refine bcf c6 ?_);conv=>whnf)
    refine law00_Pred_c hX e8 ?_
    refine bndE_some h (fun y9 n11 e10 g=>?_) (fun y9 e10 g=>?_)
    ·replace h:=g
     clear g
     conv=>whnf
     repeat((first|refine dw ?_);conv=>whnf)
     refine local_New_c hX e10 ?_
     replace h:=bnd_some h
     obtain ⟨y12,e13,h⟩:=h
     conv=>whnf
     repeat((first|refine dw ?_);conv=>whnf)
     refine law00_Pred_c hX e13 ?_
     replace h:=bnd_some h
     obtain ⟨y14,e15,h⟩:=h
     conv=>whnf
     repeat((first|refine dw ?_);conv=>whnf)
     refine ref09_New_c hX e15 ?_
     conv=>whnf
     repeat((first|refine dw ?_);conv=>whnf)
     refine br_some h (fun c16 g=>?_) (fun c16 g=>?_)
     ·replace h:=g
      clear g
      replace h:=bnd_some h
      obtain ⟨y17,e18,h⟩:=h
      conv=>whnf
      repeat((first|refine dw ?_|refine bct c16 ?_);conv=>whnf)
      refine law00_Code_c hX e18 ?_
      conv=>whnf
      repeat((first|refine dw ?_|refine bct c16 ?_);conv=>whnf)
      exact K _ h
     ·replace h:=g
      clear g
      conv=>whnf
      repeat((first|refine dw ?_|refine bcf c16 ?_);conv=>whnf)
      exact K _ h
    ·replace h:=g
     clear g
     conv=>whnf
     repeat((first|refine dw ?_);conv=>whnf)
     refine local_New_c hX e10 ?_
     replace h:=bnd_some h
     obtain ⟨y19,e20,h⟩:=h
     conv=>whnf
     repeat((first|refine dw ?_);conv=>whnf)
     refine law00_Pred_c hX e20 ?_
     replace h:=bnd_some h
     obtain ⟨y21,e22,h⟩:=h
     conv=>whnf
     repeat((first|refine dw ?_);conv=>whnf)
     refine ref09_New_c hX e22 ?_
     conv=>whnf
     repeat((first|refine dw ?_);conv=>whnf)
     refine br_some h (fun c23 g=>?_) (fun c23 g=>?_)
     ·replace h:=g
      clear g
      conv=>whnf
      repeat((first|refine dw ?_|refine bct c23 ?_);conv=>whnf)
      refine br_some h (fun c24 g=>?_) (fun c24 g=>?_)
      ·replace h:=g
       clear g
       replace h:=bnd_some h
       obtain ⟨y25,e26,h⟩:=h
       conv=>whnf
       repeat((first|refine dw ?_|refine bct c24 ?_);conv=>whnf)
       refine law00_Code_c hX e26 ?_
       conv=>whnf
       repeat((first|refine dw ?_|refine bct c24 ?_);conv=>whnf)
       exact K _ h
      ·replace h:=g
       clear g
       conv=>whnf
       repeat((first|refine dw ?_|refine bcf c24 ?_);conv=>whnf)
       exact K _ h
     ·replace h:=g
      clear g
      replace h:=chk_some h
      obtain ⟨hs1,h⟩:=h
      conv=>whnf
      repeat((first|refine dw ?_|refine bcf c23 ?_);conv=>whnf)
      refine loop_lisx2 (fun (v27:Int) (v70:State) (v71:State)=>pad [(2,.one (.p (.sl (p2.map Deed10.row)))),(4,.one (.p (.v (.bool y1)))),(0,.one (.ptr 0 0)),(1,.one (.ptr 1 0)),(1,iv v27)] 149) (fun (v27:Int) (v70:State) (v71:State)=>[.box (State.cs v70),.box (State.cs v71)]) _ p2 (fun pre1 x1e xs1 v27 v70 v71 hl1 hi1 h ih1=>?_) (fun v27 v70 v71 hi1 h=>?_) y9 y21.1 h
      ·rw [law10_RecvPlays_l1] at h
       have am1:=at_mid hl1 hi1
       refine loop_intro hX ?_
       replace h:=bnd_some h
       obtain ⟨y72,e73,h⟩:=h
       conv=>whnf
       repeat((first|refine dw ?_|refine eqv_to (map_len _) ?_|refine bct (lt_mid hl1 hi1) ?_|refine bct (at_in am1) ?_|refine bct (andt (at_in am1) rfl) ?_|refine row_in (at_row am1) ?_|refine bct (andt (at_in (at_nat am1)) rfl) ?_|refine row_in (at_row (at_nat am1)) ?_);conv=>whnf)
       refine law00_Small_c hX e73 ?_
       conv=>whnf
       repeat((first|refine dw ?_);conv=>whnf)
       refine br_some h (fun c74 g=>?_) (fun c74 g=>?_)
       ·replace h:=g
        clear g
        conv=>whnf
        repeat((first|refine dw ?_|refine bct c74 ?_);conv=>whnf)
        exact K _ h
       ·replace h:=g
        clear g
        replace h:=bnd_some h
        obtain ⟨y75,e76,h⟩:=h
        conv=>whnf
        repeat((first|refine dw ?_|refine bcf c74 ?_);conv=>whnf)
        refine law00_Item_c hX e76 ?_
        apply join4 (X:=X) (r:=r) (fun (v77:Int) (v78:Int) (v121:State) (v122:State)=>pad [(2,.one (.p (.sl (p2.map Deed10.row)))),(4,.one (.p (.v (.bool y1)))),(0,.one (.ptr 0 0)),(1,.one (.ptr 1 0)),(0,iv v77),(0,iv v27),(2,iv v78)] 146) (fun (v77:Int) (v78:Int) (v121:State) (v122:State)=>[.box (State.cs v121),.box (State.cs v122)])
        ·intro tl2
         replace h:=bnd_some h
         obtain ⟨y127,e128,h⟩:=h
         conv=>whnf
         repeat((first|refine dw ?_);conv=>whnf)
         refine law00_Pick_c hX e128 ?_
         apply join1 (X:=X) (r:=r) (fun (v129:Bool)=>pad [(2,.one (.p (.sl (p2.map Deed10.row)))),(4,.one (.p (.v (.bool y1)))),(0,.one (.ptr 0 0)),(1,.one (.ptr 1 0)),(1,iv v27),(0,.one (.ptr 2 0)),(0,.one (.ptr 3 0)),(0,iv 0),(64,iv y127),(14,.one (.p (.v (.bool v129))))] 66) (fun (v129:Bool)=>[.box (State.cs v70),.box (State.cs v71),.box [ic x1e.what,ic x1e.n,.p (.v (.string x1e.x.id)),ic x1e.x.vr,ic x1e.x.vc,ic x1e.x.stamp,.p (.v (.string x1e.x.kind)),ic x1e.x.num,.p (.v (.float .f64 x1e.x.re)),.p (.v (.float .f64 x1e.x.im)),.p (.v (.bool x1e.x.dead)),ic x1e.old.r,ic x1e.old.c,ic x1e.new.r,ic x1e.new.c,ic x1e.d.what,.p (.v (.string x1e.d.id)),.p (.v (.string x1e.d.kind)),ic x1e.d.num,.p (.v (.float .f64 x1e.d.re)),.p (.v (.float .f64 x1e.d.im)),ic x1e.d.f.op,.p (.v (.string x1e.d.f.text)),ic x1e.d.f.n,.p (.v (.float .f64 x1e.d.f.re)),.p (.v (.float .f64 x1e.d.f.im)),.p (.sl (Pred.lrows x1e.d.f.kids))],.box (Item.cs y75)])
         ·intro tl3
          conv=>whnf
          repeat((first|refine dw ?_);conv=>whnf)
          refine br_some h (fun c158 g=>?_) (fun c158 g=>?_)
          ·replace h:=g
           clear g
           conv=>whnf
           repeat((first|refine dw ?_|refine bct c158 ?_);conv=>whnf)
           exact tl3.h (eqI y127 0) h
          ·replace h:=g
           clear g
           conv=>whnf
           repeat((first|refine dw ?_|refine bcf c158 ?_);conv=>whnf)
           exact tl3.h (eqI y127 1) h
         ·intro v129 h
          unfold law10_RecvPlays_j3 at h
          refine rest_intro hX ?_
          conv=>whnf
          repeat((first|refine dw ?_);conv=>whnf)
          refine br_some h (fun c130 g=>?_) (fun c130 g=>?_)
          ·replace h:=g
           clear g
           refine bndE_some h (fun y131 n133 e132 g=>?_) (fun y131 e132 g=>?_)
           ·replace h:=g
            clear g
            conv=>whnf
            repeat((first|refine dw ?_|refine bct c130 ?_);conv=>whnf)
            refine recv_Item_c hX e132 ?_
            replace h:=bnd_some h
            obtain ⟨y134,e135,h⟩:=h
            conv=>whnf
            repeat((first|refine dw ?_);conv=>whnf)
            refine law00_Code_c hX e135 ?_
            replace h:=bnd_some h
            obtain ⟨y136,e137,h⟩:=h
            conv=>whnf
            repeat((first|refine dw ?_);conv=>whnf)
            refine ref09_Item_c hX e137 ?_
            conv=>whnf
            repeat((first|refine dw ?_);conv=>whnf)
            exact tl2.h y136.2 y134 y131 y136.1 h
           ·replace h:=g
            clear g
            conv=>whnf
            repeat((first|refine dw ?_|refine bct c130 ?_);conv=>whnf)
            refine recv_Item_c hX e132 ?_
            replace h:=bnd_some h
            obtain ⟨y138,e139,h⟩:=h
            conv=>whnf
            repeat((first|refine dw ?_);conv=>whnf)
            refine law00_Code_c hX e139 ?_
            replace h:=bnd_some h
            obtain ⟨y140,e141,h⟩:=h
            conv=>whnf
            repeat((first|refine dw ?_);conv=>whnf)
            refine ref09_Item_c hX e141 ?_
            conv=>whnf
            repeat((first|refine dw ?_);conv=>whnf)
            exact tl2.h y140.2 y138 y131 y140.1 h
          ·replace h:=g
           clear g
           conv=>whnf
           repeat((first|refine dw ?_|refine bcf c130 ?_);conv=>whnf)
           refine br_some h (fun c142 g=>?_) (fun c142 g=>?_)
           ·replace h:=g
            clear g
            replace h:=bnd_some h
            obtain ⟨y143,e144,h⟩:=h
            conv=>whnf
            repeat((first|refine dw ?_|refine bct c142 ?_);conv=>whnf)
            refine ref06_Get_c hX e144 ?_
            apply join1 (X:=X) (r:=r) (fun (v147:Ver)=>pad [(2,.one (.p (.sl (p2.map Deed10.row)))),(4,.one (.p (.v (.bool y1)))),(0,.one (.ptr 0 0)),(1,.one (.ptr 1 0)),(1,iv v27),(0,.one (.ptr 2 0)),(1,iv 0),(2,.one (.ptr 3 0))] 143) (fun (v147:Ver)=>[.box (State.cs v70),.box (State.cs v71),.box [ic x1e.what,ic x1e.n,.p (.v (.string x1e.x.id)),ic x1e.x.vr,ic x1e.x.vc,ic x1e.x.stamp,.p (.v (.string x1e.x.kind)),ic x1e.x.num,.p (.v (.float .f64 x1e.x.re)),.p (.v (.float .f64 x1e.x.im)),.p (.v (.bool x1e.x.dead)),ic x1e.old.r,ic x1e.old.c,ic x1e.new.r,ic x1e.new.c,ic x1e.d.what,.p (.v (.string x1e.d.id)),.p (.v (.string x1e.d.kind)),ic x1e.d.num,.p (.v (.float .f64 x1e.d.re)),.p (.v (.float .f64 x1e.d.im)),ic x1e.d.f.op,.p (.v (.string x1e.d.f.text)),ic x1e.d.f.n,.p (.v (.float .f64 x1e.d.f.re)),.p (.v (.float .f64 x1e.d.f.im)),.p (.sl (Pred.lrows x1e.d.f.kids))],.box (Ver.cs v147)])
            ·intro tl4
             conv=>whnf
             repeat((first|refine dw ?_);conv=>whnf)
             refine br_some h (fun c152 g=>?_) (fun c152 g=>?_)
             ·replace h:=g
              clear g
              conv=>whnf
              repeat((first|refine dw ?_|refine bct c152 ?_);conv=>whnf)
              refine br_some h (fun c153 g=>?_) (fun c153 g=>?_)
              ·replace h:=g
               clear g
               conv=>whnf
               repeat((first|refine dw ?_|refine bct c153 ?_);conv=>whnf)
               exact tl4.h (Ver.mk y143.1.vr y143.1.vc) h
              ·replace h:=g
               clear g
               conv=>whnf
               repeat((first|refine dw ?_|refine bcf c153 ?_);conv=>whnf)
               exact tl4.h x1e.old h
             ·replace h:=g
              clear g
              conv=>whnf
              repeat((first|refine dw ?_|refine bcf c152 ?_);conv=>whnf)
              exact tl4.h x1e.old h
            ·intro v147 h
             unfold law10_RecvPlays_j4 at h
             refine rest_intro hX ?_
             replace h:=bnd_some h
             obtain ⟨y148,e149,h⟩:=h
             conv=>whnf
             repeat((first|refine dw ?_);conv=>whnf)
             refine recv_Goes_c hX e149 ?_
             replace h:=bnd_some h
             obtain ⟨y150,e151,h⟩:=h
             conv=>whnf
             repeat((first|refine dw ?_);conv=>whnf)
             refine ref09_Goes_c hX e151 ?_
             conv=>whnf
             repeat((first|refine dw ?_);conv=>whnf)
             exact tl2.h 0 0 y148 y150 h
           ·replace h:=g
            clear g
            replace h:=bnd_some h
            obtain ⟨y154,e155,h⟩:=h
            conv=>whnf
            repeat((first|refine dw ?_|refine bcf c142 ?_);conv=>whnf)
            refine law09_Do_c hX e155 ?_
            replace h:=bnd_some h
            obtain ⟨y156,e157,h⟩:=h
            conv=>whnf
            repeat((first|refine dw ?_);conv=>whnf)
            refine law09_Want_c hX e157 ?_
            conv=>whnf
            repeat((first|refine dw ?_);conv=>whnf)
            exact tl2.h y156.2 y154.2 y154.1 y156.1 h
        ·intro v77 v78 v121 v122 h
         unfold law10_RecvPlays_j2 at h
         refine rest_intro hX ?_
         replace h:=bnd_some h
         obtain ⟨y123,e124,h⟩:=h
         conv=>whnf
         repeat((first|refine dw ?_);conv=>whnf)
         refine ref09_Same_c hX e124 ?_
         conv=>whnf
         repeat((first|refine dw ?_);conv=>whnf)
         refine br_some h (fun c125 g=>?_) (fun c125 g=>?_)
         ·replace h:=g
          clear g
          conv=>whnf
          repeat((first|refine dw ?_|refine bct c125 ?_);conv=>whnf)
          exact K _ h
         ·replace h:=g
          clear g
          conv=>whnf
          repeat((first|refine dw ?_|refine bcf c125 ?_);conv=>whnf)
          refine br_some h (fun c126 g=>?_) (fun c126 g=>?_)
          ·replace h:=g
           clear g
           conv=>whnf
           repeat((first|refine dw ?_|refine bct c126 ?_);conv=>whnf)
           exact K _ h
          ·replace h:=g
           clear g
           conv=>whnf
           repeat((first|refine dw ?_|refine bcf c126 ?_);conv=>whnf)
           exact ih1 _ v121 v122 (wrL hs1 hl1 hi1) h
      ·rw [law10_RecvPlays_l1] at h
       refine loop_intro hX ?_
       conv=>whnf
       repeat((first|refine dw ?_|refine eqv_to (map_len _) ?_|refine bcf (lt_end hi1) ?_);conv=>whnf)
       exact K _ h
end
end Go.Proofs.YtidkmoohgadjkaaGreat
namespace Go.Proofs.YtidkmoohgadjkaaGreat
open Go E Pred
noncomputable section
open Classical
def none2:Pred:=.mk 2 ⟨#[]⟩ 0 0 0 []
def itemB:Item:=⟨⟨#[97]⟩,2,1,5,⟨#[]⟩,0,0,0,false⟩
def stateB:State:=⟨1,none2,[],[],⟨zero8,[⟨[⟨#[97]⟩],⟨0,1,0,0,0,0,0,0⟩⟩]⟩,0,5,0⟩
theorem none_ok:none2.Ok:=by
 unfold none2 Pred.Ok
 exact ⟨by decide,by decide,by decide,by decide,by unfold Pred.Oks; trivial⟩
theorem none_size:none2.size≤1000:=by unfold none2; rw [mk_size,sizes_nil]; decide
theorem itemB_ok:itemB.Ok:=⟨by decide,by decide,by decide,by decide,by decide,by decide⟩
theorem recvB:itemV (newS 1 none2) itemB=(stateB,0):=by kernel_rfl
theorem up10:law10_up_s=some true:=by
 have n1:newV 1 none2=(newS 1 none2,0):=by kernel_rfl
 have e1:=lnew_s (r:=1) none_ok none_size
 rw [n1] at e1
 have e2:=recv_item (s:=newS 1 none2) (x:=itemB) (N:=0) (sok_new none_ok none_size) (by decide) itemB_ok
 rw [recvB] at e2
 have e3:know_Has_s stateB.k ⟨#[97]⟩ ⟨2,1⟩=some true:=by
  rw [khas_s (N:=1) (by decide) ⟨by decide,fun f hf=>by rw [List.mem_singleton.1 hf]; decide⟩]
  have:hasK stateB.k ⟨#[97]⟩ 2 1=true:=by kernel_rfl
  rw [this]
 unfold law10_up_s
 rw [show (Pred.mk 2 ⟨#[]⟩ 0 0 0 [])=none2 from rfl,show (⟨⟨#[97]⟩,2,1,5,⟨#[]⟩,0,0,0,false⟩:Item)=itemB from rfl,bndE_n e1,bndE_n e2,br_t (by rfl),bnd_of e3]
 rfl
theorem item_err (s:State) (x:Item):0≤(itemV s x).2∧(itemV s x).2≤10:=by
 unfold itemV
 repeat' split
 all_goals exact ⟨by simp,by simp⟩
theorem item_f (s:State) (x:Item):(itemV s x).1.f=s.f:=by
 unfold itemV
 repeat' split
 all_goals rfl
theorem item_r (s:State) (x:Item):(itemV s x).1.r=s.r:=by
 unfold itemV
 repeat' split
 all_goals rfl
theorem goes_f (s:State) (id:ByteArray) (a b c d:Int):(goesV s id a b c d).f=s.f:=by unfold goesV; split<;>rfl
theorem goes_r (s:State) (id:ByteArray) (a b c d:Int):(goesV s id a b c d).r=s.r:=by unfold goesV; split<;>rfl
theorem recvTells_s {s:Sit} {z:Item} {id:ByteArray} {old new:Ver} (ok:s.Ok) (hz:z.Ok) (hid:id.size≤9223372036854775807):law10_RecvTells_s s z id old new=some true:=by
 obtain ⟨a,ha,h1⟩:=fits_sit ok
 unfold law10_RecvTells_s
 rw [bnd_of up10,bnd_of ha]
 rcases h1 with rfl | ⟨rfl,hst, -, -, -, hk⟩
 ·rfl
 ·have sb:=hst.b hk
  rw [br_f (by rfl),bnd_of (state_s ok hst),bnd_of (show law00_Item_s z=some z from rfl),bnd_of (rmay_s sb)]
  cases hm:mayS s.st with
  | false=>rfl
  | true =>
   have so:=may_sok hm hst.f hst.store hst.out hk.kt hst.ids
   have mi:=mayS_iff.1 hm
   have hf:=may_pf mi.1
   have e1:=recv_item (x:=z) so (by decide) hz
   have e2:=ref_item (x:=z) so (by decide) hz
   have e3:=same9_s (ok_item so hz) (by decide) (by rw [item_f]; exact hf)
   have e4:=code_s (item_err s.st z)
   have e5:=recv_goes (o:=old) (n:=new) so (by decide) hid
   have e6:=ref_goes (id:=id) (o:=old) (n:=new) so (by decide)
   have e7:=same9_s (ok_goes (or:=old.r) (oc:=old.c) (nr:=new.r) (nc:=new.c) so hid) (by decide) (by rw [goes_f]; exact hf)
   rw [br_f (by rfl)]
   cases he:errO (itemV s.st z).2 with
   | none=>rw [he] at e1 e4; rw [bndE_n e1,bnd_of e2,bnd_of e3,br_f (by rfl),bnd_of e4,eqI_self,br_f (by rfl),bnd_of e5,bnd_of e6,bnd_of e7]; rfl
   | some n=>rw [he] at e1 e4; rw [bndE_e e1,bnd_of e2,bnd_of e3,br_f (by rfl),bnd_of e4,eqI_self,br_f (by rfl),bnd_of e5,bnd_of e6,bnd_of e7]; rfl
structure Deed10.Ok (d:Deed10):Prop where
 x:d.x.Ok
 d:d.d.Ok
theorem rplays_l:∀ (l:List Deed10) (s:State) (N:Nat),SOk s N→N + 41 * l.length≤80000→1≤s.r∧s.r≤8→mayP s.f=true→(∀ d∈l,d.Ok)→law10_RecvPlays_l1 true l s s=some true
 | [],s,N,_,_,_,_,_=>by rw [law10_RecvPlays_l1]
 | d::l,s,N,h,hN,hr,hm,hl=>by
  rw [List.length_cons] at hN
  have hd:=hl d (List.mem_cons_self ..)
  have hl':∀ x∈l,x.Ok:=fun x hx=>hl x (List.mem_cons_of_mem _ hx)
  obtain ⟨c,hc,h2⟩:=small_s hd.d.f
  rw [law10_RecvPlays_l1,bnd_of hc]
  rcases h2 with rfl | ⟨rfl,h2⟩
  ·rfl
  ·rw [br_f (by rfl),bnd_of (show law00_Item_s d.x=some d.x from rfl),bnd_of (pick4_s _)]
   have hle:=h.le
   have j2:∀ (t:State) (n:Int),SOk t (N + 41)→t.r=s.r→mayP t.f=true→law10_RecvPlays_j2 (fun w0 w1=>law10_RecvPlays_l1 true l w0 w1) n n t t=some true:=fun t n ht er hf=>by
    unfold law10_RecvPlays_j2
    rw [bnd_of (same9_s ht (by omega) (may_pf hf)),eqI_self]
    exact rplays_l l t (N + 41) ht (by omega) (by rw [er]; exact hr) hf hl'
   have j4:∀ v:Ver,law10_RecvPlays_j4 s s d (fun w0 w1=>law10_RecvPlays_l1 true l w0 w1) v=some true:=fun v=>by
    unfold law10_RecvPlays_j4
    rw [bnd_of (recv_goes h (by omega) hd.x.id),bnd_of (ref_goes h (by omega))]
    exact j2 _ 0 ((ok_goes h hd.x.id).mono (by omega)) (goes_r ..) (by rw [goes_f]; exact hm)
   have j3:∀ (n:Int) (b:Bool),law10_RecvPlays_j3 s s d d.x n (fun w0 w1=>law10_RecvPlays_l1 true l w0 w1) b=some true:=fun n b=>by
    unfold law10_RecvPlays_j3
    cases b with
    | true =>
     rw [br_t rfl]
     have e1:=recv_item (x:=d.x) h (by omega) hd.x
     have e2:=ref_item (x:=d.x) h (by omega) hd.x
     have e4:=code_s (item_err s d.x)
     have e5:=j2 (itemV s d.x).1 (itemV s d.x).2 ((ok_item h hd.x).mono (by omega)) (item_r ..) (by rw [item_f]; exact hm)
     cases he:errO (itemV s d.x).2 with
     | none=>rw [he] at e1 e4; rw [bndE_n e1,bnd_of e4,bnd_of e2]; exact e5
     | some n=>rw [he] at e1 e4; rw [bndE_e e1,bnd_of e4,bnd_of e2]; exact e5
    | false =>
     rw [br_f rfl,bnd_of (get_s (by omega)),j4,j4,br_same,br_same,bnd_of (do_s h (by omega) hr hd.d (by omega)),bnd_of (want_s h (by omega) hr hd.d (by omega)),j2 (doV s d.d).1 _ (ok_do h hr hd.d (by omega)) (do_r ..) (do_f hm)]
     cases eqI n 2<;>rfl
   rw [j3,j3,br_same]
theorem recvPlays_s {r:Int} {f:Pred} {l:List Deed10} (hf:f.Ok) (hl:∀ d∈l,d.Ok):law10_RecvPlays_s r f l=some true:=by
 obtain ⟨a,ha,h1⟩:=small_s hf
 unfold law10_RecvPlays_s
 rw [bnd_of up10,bnd_of ha]
 rcases h1 with rfl | ⟨rfl,hs⟩
 ·rfl
 ·rw [br_f (by rfl)]
  by_cases hn:l.length≤100
  ·rw [br_f (ltI_f.2 (by omega)),bnd_of (lpred_s hf (by omega))]
   have e1:=lnew_s (r:=r) hf (by omega)
   have e2:=rnew_s (r:=r) hf (by omega)
   rcases new_parts (r:=r) (f:=f) with e | ⟨e,hr,hm⟩
   ·rw [e] at e1 e2
    rw [bndE_e e1,bnd_of (lpred_s hf (by omega)),bnd_of e2]; rfl
   ·rw [e] at e1 e2
    rw [bndE_n e1,bnd_of (lpred_s hf (by omega)),bnd_of e2,br_f (by rfl),chk_t (smallL_of (by omega))]
    exact rplays_l l (newS r f) 0 (sok_new hf (by omega)) (by omega) hr hm hl
  ·rw [br_t (ltI_t.2 (by omega))]
end
end Go.Proofs.YtidkmoohgadjkaaGreat
set_option maxHeartbeats 4000000
namespace Go.Proofs.YtidkmoohgadjkaaGreat
open Go E Go.ChangeShapes Go.WideShapes Go.ChangeAt Go.RowKit
theorem cellsDeed10:Tryz.prog.cellsOf 103=27:=by kernel_rfl
def deed10Sh (n:Nat):Sh:=.cat (.int .i64) (.cat (.int .i64) (.cat rowSh (.cat verSh (.cat verSh (.cat (deed9Sh (n - 1)) .nil)))))
theorem deed10_size (n:Nat):(deed10Sh n).size=27:=by unfold deed10Sh; simp only [Sh.size,deed9_size]
theorem shDeed10:∀ n,ShOk Tryz.prog n 103 (deed10Sh n)
 | 0=>.zero
 | n + 1=>.struct Tryz.underlying103 (by rw [deed10_size]; exact cellsDeed10) (.cons rfl cellsInt (shInt n) (.cons rfl cellsInt (shInt n) (.cons rfl cellsRow (shRow n) (.cons rfl cellsVer (shVer n) (.cons rfl cellsVer (shVer n)
   (.cons rfl (by rw [show n + 1 - 1=n from rfl,deed9_size]; exact cellsDeed9) (shDeed9 n) .nil))))))
theorem fits_deed10 (n:Nat) {l:List PC} (h:Fits (deed10Sh n) l):∃ d:Deed10,d.Ok∧l=d.row:=by
 obtain ⟨_,_,rfl,⟨x0,rfl,w0⟩,_,_,rfl,⟨x1,rfl,w1⟩,_,_,rfl,hx,_,_,rfl,ho,_,_,rfl,hn,_,_,rfl,hd,rfl⟩:=h
 obtain ⟨x,ox,rfl⟩:=fits_row hx
 obtain ⟨_,_,rfl,⟨y0,rfl,v0⟩,_,_,rfl,⟨y1,rfl,v1⟩,rfl⟩:=ho
 obtain ⟨_,_,rfl,⟨z0,rfl,u0⟩,_,_,rfl,⟨z1,rfl,u1⟩,rfl⟩:=hn
 obtain ⟨d,od,rfl⟩:=fits_deed9 _ hd
 exact ⟨⟨x0,x1,x,⟨y0,y1⟩,⟨z0,z1⟩,d⟩,⟨ox,od⟩,rfl⟩
def Deeds10Ok (l:List Deed10):Prop:=∀ d∈l,d.Ok
section
variable {H:Type} {enc:TypeId × Value→H} {W:World} {v:Value} {d:DataW H} {ps:List MemPlace} {b0:Nat}
def deeds10Sh (n:Nat):Sh:=.sl (deed10Sh (n - 1))
theorem shDeeds10:∀ n,ShOk Tryz.prog n 95 (deeds10Sh n)
 | 0=>.zero
 | n + 1=>.sl Tryz.underlying95 (by show _=(deed10Sh n).size; rw [deed10_size]; exact cellsDeed10) (by show 0 < (deed10Sh n).size; rw [deed10_size]; decide) (shDeed10 n)
theorem arg_deeds10 (hv:Value.okWide Tryz.prog W .any b0 95 v) (h:DataW.Trod enc Tryz.prog W 0 (fun _=>true) true 95 v d ps):∃ l:List Deed10,Deeds10Ok l∧VA W (zoneOf W) noLoc (sl (l.map Deed10.row)) v:=by
 obtain ⟨n,rows,h0,h1,h2⟩:=arg_sl (sl:=deeds10Sh) (sf:=fun n=>deed10Sh (n - 1)) shDeeds10 (fun _=>rfl) Tryz.underlying95 hv h
 obtain ⟨xs,hx,rfl⟩:=list_of (P:=Fits (deed10Sh (n - 1))) (Ok:=Deed10.Ok) (f:=Deed10.row) (fun r h=>fits_deed10 _ h) rows h1
 exact ⟨xs,hx,h2⟩
end
theorem law_recvTells {X:Task→Prop} (hX:Closed X) {s:Sit} {z:Item} {id:ByteArray} {old new:Ver} (ok:s.Ok) (hz:z.Ok) (hid:id.size≤9223372036854775807) (h1:old.Ok) (h2:new.Ok) {Q:A→List Blk→Prop} (hQ:Q (bv true) []):X (.call 6 [s.la,z.la,sv id,old.la,new.la] [] Q):=law10_RecvTells_c hX (recvTells_s ok hz hid) hQ
theorem law_recvPlays {X:Task→Prop} (hX:Closed X) {r:Int} {f:Pred} {l:List Deed10} (hf:f.Ok) (hl:Deeds10Ok l) {Q:A→List Blk→Prop} (hQ:Q (bv true) []):X (.call 8 [iv r,f.la,sl (l.map Deed10.row)] [] Q):=law10_RecvPlays_c hX (recvPlays_s hf hl) hQ
end Go.Proofs.YtidkmoohgadjkaaGreat
