/- The document: layers 11 to 15. Written by decomp.py. The document's filters made plain. Written by decomp.py. Filters made plain (layer 4): the document's answer, out of what its code computes. What is known (layers 6, 7), the document's functions: their answers, out of what their code computes. What is known (layers 6, 7), the document's functions: made plain, alike, may be, with a version, joined. Texts in their order; rising items. What is known (layer 7), the program's functions: their answers, out of what their code computes. What is known (layer 7): what it means to be made plain, joined, known with a version. The evaluator is sound; facts of the program; arguments by their types. Items as arguments of laws. Lists of items as arguments of laws. What is known, and versions, as arguments of laws. What is known: the answers of the program's and the document's functions. Lists of items (layer 8), the document's functions: their answers, out of what their code computes. The statements of layer 4, walked. The statements of layer 4, walked. Written by decomp.py. The statements of layer 5, walked. Filters made plain (layer 4): they have the same items, and stay when made plain again. The statement EvalPlain, out of what its code computes. Layers 8, 9, 11: items, states, sessions: what the code computes, as answers. What is known: the document's functions under a bound on all texts together; copies. The statements of layer 2, walked. Lists of items that rise (layer 8): what the  -/
import Derived.Test.YtidkmoohgadjkaaGreatUE
import Derived.Test.YtidkmoohgadjkaaGreatUD
import Derived.Sort.Walk0
import Derived.Test.YtidkmoohgadjkaaGreatUC
set_option linter.unusedVariables false
set_option linter.unusedSimpArgs false
set_option maxRecDepth 100000
set_option maxHeartbeats 0
namespace Go.Proofs.YtidkmoohgadjkaaGreat
open Go E
noncomputable section
open Pred
def ref11_refused_l4 (p0:State) (p2:Msg):List Entry→Option (Int)
  | [] =>
  (bnd (ref06_May_s p2.k) fun y6 =>
   (br (!y6)
    (some 1)
    (bnd (ref09_Beyond_s p2.k p0.r p0.count) fun y9 =>
     (br y9
      (some 1)
      (some 0)))))
  | x4e::xs4 =>
  (br (!x4e.goes)
   (some 1)
   (ref11_refused_l4 p0 p2 xs4  ))
def ref11_refused_j3 (p0:State) (p2:Msg):Option (Int) :=
 (br (eqI p2.kind 2)
  (some 0)
  (chk (smallL p2.l)
    ((ref11_refused_l4 p0 p2) p2.l )))
def ref11_refused_j2 (p0:State) (p1:Sess) (p2:Msg):Option (Int) :=
 (br p1.over
  (some 9)
  (br (!eqI p1.epoch p0.epoch)
   (some 9)
   (br (ltI p2.n 0)
    (some 1)
    (br (ltI 40 p2.n)
     (some 1)
     (br (eqI p2.kind 2)
      (br (ltI 4 (p2.l.length:Int))
       (some 1)
       (br (ltI 40 (p2.l.length:Int))
        (some 1)
        (ref11_refused_j3 p0 p2 )))
      (br (ltI 40 (p2.l.length:Int))
       (some 1)
       (ref11_refused_j3 p0 p2 )))))))
def ref11_refused_j1 (p0:State) (p1:Sess) (p2:Msg):Option (Int) :=
 (br (ltI p2.turn 1)
  (some 1)
  (br (!eqI p1.turn 0)
   (br (!eqI p1.turn p2.turn)
    (some 1)
    (ref11_refused_j2 p0 p1 p2 ))
   (ref11_refused_j2 p0 p1 p2 )))
def ref11_refused_s (p0:State) (p1:Sess) (p2:Msg):Option (Int) :=
 (br (!eqI p2.kind 2)
  (br (!eqI p2.kind 3)
   (some 1)
   (br (!eqI p2.src p1.with_)
    (some 1)
    (br (!eqI p2.dst p0.r)
     (some 1)
     (br (!eqI p2.sid p1.sid)
      (some 1)
      (ref11_refused_j1 p0 p1 p2 )))))
  (br (!eqI p2.src p1.with_)
   (some 1)
   (br (!eqI p2.dst p0.r)
    (some 1)
    (br (!eqI p2.sid p1.sid)
     (some 1)
     (ref11_refused_j1 p0 p1 p2 )))))
def ref11_came_l2 (v1:Int) (k1:Int→Option (Bool)):List Int→Bool→Option (Bool)
  | [],v3 =>
  (br (!v3)
   (some false)
   (k1 (wr .i64 (v1 + 1))))
  | x2e::xs2,v3 =>
  (br v3
   (ref11_came_l2 v1 k1 xs2  true)
   (ref11_came_l2 v1 k1 xs2  (eqI x2e v1)))
def ref11_came_l1 (p0:List Int) (p1:Int):Nat→Int→Option (Bool)
  | 0,_=>none
  | fl1 + 1,v1 =>
  (br (ltI v1 p1)
   (chk (smallL p0)
     ((ref11_came_l2 v1 (fun w0=>ref11_came_l1 p0 p1 fl1 w0)) p0 false))
   (some true))
def ref11_came_s (p0:List Int) (p1:Int):Option (Bool) :=
 ((ref11_came_l1 p0 p1) fuelN 0)
def ref11_with_j2 (p1:Int) (x1e:Int) (k1:Bool→(List Int)→Option ((List Int))) (v4:Bool) (v5:List Int):Option ((List Int)) :=
 (br (!eqI x1e p1)
  (chk (roomL v5.length 1)
   (k1 v4 (v5++[x1e])))
  (k1 v4 v5))
def ref11_with_l1 (p1:Int):List Int→Bool→(List Int)→Option ((List Int))
  | [],v1,v3 =>
  (br (!v1)
   (chk (roomL v3.length 1)
    (some (v3++[p1])))
   (some v3))
  | x1e::xs1,v1,v3 =>
  (br (!v1)
   (br (leI p1 x1e)
    (chk (roomL v3.length 1)
     (ref11_with_j2 p1 x1e (fun w0 w1=>ref11_with_l1 p1 xs1  w0 w1) true (v3++[p1])))
    (ref11_with_j2 p1 x1e (fun w0 w1=>ref11_with_l1 p1 xs1  w0 w1) v1 v3))
   (ref11_with_j2 p1 x1e (fun w0 w1=>ref11_with_l1 p1 xs1  w0 w1) v1 v3))
def ref11_with_s (p0:List Int) (p1:Int):Option ((List Int)) :=
 (chk (smallL p0)
   ((ref11_with_l1 p1) p0 false ([]:List Int)))
def ref11_Take_l2 (p1:Sess) (p2:Msg) (v25:List Int) (v26:Bool) (v27:Bool) (v28:Int) (v40:Know) (v38:List Entry):List Entry→State→Option (State × Sess × Int)
  | [],v68 =>
  (bnd (ref06_Join_s v68.k v40) fun y71 =>
   some ((State.mk v68.r v68.f v68.store v68.out y71 v68.count v68.clock v68.epoch),(Sess.mk p1.sid p1.with_ p1.epoch p2.turn v25 v26 v27 true v28 v40 v38),0))
  | x2e::xs2,v68 =>
  (bnd (ref09_Goes_s v68 x2e.item.id (Ver.mk x2e.item.vr x2e.item.vc) (Ver.mk x2e.nr x2e.nc)) fun y69 =>
   (ref11_Take_l2 p1 p2 v25 v26 v27 v28 v40 v38 xs2  y69))
def ref11_Take_j1 (p1:Sess) (p2:Msg) (v39:State) (v25:List Int) (v26:Bool) (v27:Bool) (v28:Int) (v40:Know) (v38:List Entry):Option (State × Sess × Int) :=
 (bnd (ref11_came_s v25 v28) fun y41 =>
  (br v27
   (br (!v26)
    (br y41
     (chk (smallL v38)
       ((ref11_Take_l2 p1 p2 v25 v26 v27 v28 v40 v38) v38 v39))
     (some (v39,(Sess.mk p1.sid p1.with_ p1.epoch p2.turn v25 v26 v27 p1.over v28 v40 v38),0)))
    (some (v39,(Sess.mk p1.sid p1.with_ p1.epoch p2.turn v25 v26 v27 p1.over v28 v40 v38),0)))
   (some (v39,(Sess.mk p1.sid p1.with_ p1.epoch p2.turn v25 v26 v27 p1.over v28 v40 v38),0))))
def ref11_Take_l3 (p1:Sess) (p2:Msg):List Entry→State→Bool→Option (State × Sess × Int)
  | [],v97,v96 =>
  (bnd (ref11_with_s p1.got p2.n) fun y104 =>
   (ref11_Take_j1 p1 p2 v97 y104 v96 p1.told p1.n p1.k p1.l))
  | x3e::xs3,v97,v96 =>
  (br x3e.goes
   (bnd (ref09_Goes_s v97 x3e.item.id (Ver.mk x3e.item.vr x3e.item.vc) (Ver.mk x3e.nr x3e.nc)) fun y99 =>
    (ref11_Take_l3 p1 p2 xs3  y99 v96))
   (bnd (ref09_Item_s v97 x3e.item) fun y101 =>
    (br (!eqI y101.2 0)
     (ref11_Take_l3 p1 p2 xs3  v97 true)
     (ref11_Take_l3 p1 p2 xs3  y101.1 v96))))
def ref11_Take_s (p0:State) (p1:Sess) (p2:Msg):Option (State × Sess × Int) :=
 (bnd (ref11_refused_s p0 p1 p2) fun y1 =>
  (br (!eqI y1 0)
   (some (p0,p1,y1))
   (br (eqI p2.kind 2)
    (chk (smallL p2.l)
      ((ref11_Take_l3 p1 p2) p2.l p0 p1.bad))
    (br (!p1.told)
     (ref11_Take_j1 p1 p2 p0 p1.got p1.bad true p2.n p2.k p2.l)
     (ref11_Take_j1 p1 p2 p0 p1.got p1.bad p1.told p1.n p1.k p1.l)))))
variable {X:Task→Prop} (hX:Closed X) {Q:A→List Blk→Prop}
include hX
theorem ref11_refused_c  {p0:State} {p1:Sess} {p2:Msg} {r:Int} (h:ref11_refused_s p0 p1 p2=some r) (hQ:Q (iv r) []):X (.call 132 [.agg (State.cs p0),.agg (Sess.cs p1),.agg (Msg.cs p2)] [] Q):=by
  have K:=fun a (e:some a=some r)=>ret_some (f:=fun y=>iv y) (g:=fun y=>[]) e hQ
  unfold ref11_refused_s at h
  refine call_intro hX Tryz.func132 rfl rfl ?_
  apply join0 (X:=X) (r:=r) (pad [(3,.one (.ptr 0 0)),(0,.one (.ptr 1 0)),(0,.one (.ptr 2 0))] 112) ([.box (State.cs p0),.box (Sess.cs p1),.box (Msg.cs p2)])
  ·intro tl1
   conv=>whnf
   repeat((first|refine dw ?_);conv=>whnf)
   refine br_some h (fun c21 g=>?_) (fun c21 g=>?_)
   ·replace h:=g
    clear g
    conv=>whnf
    repeat((first|refine dw ?_|refine bct c21 ?_);conv=>whnf)
    refine br_some h (fun c22 g=>?_) (fun c22 g=>?_)
    ·replace h:=g
     clear g
     conv=>whnf
     repeat((first|refine dw ?_|refine bct c22 ?_);conv=>whnf)
     exact K _ h
    ·replace h:=g
     clear g
     conv=>whnf
     repeat((first|refine dw ?_|refine bcf c22 ?_);conv=>whnf)
     refine br_some h (fun c23 g=>?_) (fun c23 g=>?_)
     ·replace h:=g
      clear g
      conv=>whnf
      repeat((first|refine dw ?_|refine bct c23 ?_);conv=>whnf)
      exact K _ h
     ·replace h:=g
      clear g
      conv=>whnf
      repeat((first|refine dw ?_|refine bcf c23 ?_);conv=>whnf)
      refine br_some h (fun c24 g=>?_) (fun c24 g=>?_)
      ·replace h:=g
       clear g
       conv=>whnf
       repeat((first|refine dw ?_|refine bct c24 ?_);conv=>whnf)
       exact K _ h
      ·replace h:=g
       clear g
       conv=>whnf
       repeat((first|refine dw ?_|refine bcf c24 ?_);conv=>whnf)
       refine br_some h (fun c25 g=>?_) (fun c25 g=>?_)
       ·replace h:=g
        clear g
        conv=>whnf
        repeat((first|refine dw ?_|refine bct c25 ?_);conv=>whnf)
        exact K _ h
       ·replace h:=g
        clear g
        conv=>whnf
        repeat((first|refine dw ?_|refine bcf c25 ?_);conv=>whnf)
        exact tl1.h  h
   ·replace h:=g
    clear g
    conv=>whnf
    repeat((first|refine dw ?_|refine bcf c21 ?_);conv=>whnf)
    refine br_some h (fun c26 g=>?_) (fun c26 g=>?_)
    ·replace h:=g
     clear g
     conv=>whnf
     repeat((first|refine dw ?_|refine bct c26 ?_);conv=>whnf)
     exact K _ h
    ·replace h:=g
     clear g
     conv=>whnf
     repeat((first|refine dw ?_|refine bcf c26 ?_);conv=>whnf)
     refine br_some h (fun c27 g=>?_) (fun c27 g=>?_)
     ·replace h:=g
      clear g
      conv=>whnf
      repeat((first|refine dw ?_|refine bct c27 ?_);conv=>whnf)
      exact K _ h
     ·replace h:=g
      clear g
      conv=>whnf
      repeat((first|refine dw ?_|refine bcf c27 ?_);conv=>whnf)
      refine br_some h (fun c28 g=>?_) (fun c28 g=>?_)
      ·replace h:=g
       clear g
       conv=>whnf
       repeat((first|refine dw ?_|refine bct c28 ?_);conv=>whnf)
       exact K _ h
      ·replace h:=g
       clear g
       conv=>whnf
       repeat((first|refine dw ?_|refine bcf c28 ?_);conv=>whnf)
       exact tl1.h  h
  ·intro h
   unfold ref11_refused_j1 at h
   refine rest_intro hX ?_
   apply join0 (X:=X) (r:=r) (pad [(3,.one (.ptr 0 0)),(0,.one (.ptr 1 0)),(0,.one (.ptr 2 0))] 112) ([.box (State.cs p0),.box (Sess.cs p1),.box (Msg.cs p2)])
   ·intro tl2
    conv=>whnf
    repeat((first|refine dw ?_);conv=>whnf)
    refine br_some h (fun c18 g=>?_) (fun c18 g=>?_)
    ·replace h:=g
     clear g
     conv=>whnf
     repeat((first|refine dw ?_|refine bct c18 ?_);conv=>whnf)
     exact K _ h
    ·replace h:=g
     clear g
     conv=>whnf
     repeat((first|refine dw ?_|refine bcf c18 ?_);conv=>whnf)
     refine br_some h (fun c19 g=>?_) (fun c19 g=>?_)
     ·replace h:=g
      clear g
      conv=>whnf
      repeat((first|refine dw ?_|refine bct c19 ?_|refine bcf c18 ?_);conv=>whnf)
      refine br_some h (fun c20 g=>?_) (fun c20 g=>?_)
      ·replace h:=g
       clear g
       conv=>whnf
       repeat((first|refine dw ?_|refine bct c20 ?_);conv=>whnf)
       exact K _ h
      ·replace h:=g
       clear g
       conv=>whnf
       repeat((first|refine dw ?_|refine bcf c20 ?_);conv=>whnf)
       exact tl2.h  h
     ·replace h:=g
      clear g
      conv=>whnf
      repeat((first|refine dw ?_|refine bcf c19 ?_|refine bcf c18 ?_);conv=>whnf)
      exact tl2.h  h
   ·intro h
    unfold ref11_refused_j2 at h
    refine rest_intro hX ?_
    conv=>whnf
    repeat((first|refine dw ?_);conv=>whnf)
    refine br_some h (fun c1 g=>?_) (fun c1 g=>?_)
    ·replace h:=g
     clear g
     conv=>whnf
     repeat((first|refine dw ?_|refine bct c1 ?_);conv=>whnf)
     exact K _ h
    ·replace h:=g
     clear g
     conv=>whnf
     repeat((first|refine dw ?_|refine bcf c1 ?_);conv=>whnf)
     refine br_some h (fun c2 g=>?_) (fun c2 g=>?_)
     ·replace h:=g
      clear g
      conv=>whnf
      repeat((first|refine dw ?_|refine bct c2 ?_);conv=>whnf)
      exact K _ h
     ·replace h:=g
      clear g
      apply join0 (X:=X) (r:=r) (pad [(3,.one (.ptr 0 0)),(1,.one (.ptr 1 0))] 112) ([.box (State.cs p0),.box (Msg.cs p2)])
      ·intro tl3
       conv=>whnf
       repeat((first|refine dw ?_|refine bcf c2 ?_);conv=>whnf)
       refine br_some h (fun c12 g=>?_) (fun c12 g=>?_)
       ·replace h:=g
        clear g
        conv=>whnf
        repeat((first|refine dw ?_|refine bct c12 ?_);conv=>whnf)
        exact K _ h
       ·replace h:=g
        clear g
        conv=>whnf
        repeat((first|refine dw ?_|refine bcf c12 ?_);conv=>whnf)
        refine br_some h (fun c13 g=>?_) (fun c13 g=>?_)
        ·replace h:=g
         clear g
         conv=>whnf
         repeat((first|refine dw ?_|refine bct c13 ?_);conv=>whnf)
         exact K _ h
        ·replace h:=g
         clear g
         conv=>whnf
         repeat((first|refine dw ?_|refine bcf c13 ?_);conv=>whnf)
         refine br_some h (fun c14 g=>?_) (fun c14 g=>?_)
         ·replace h:=g
          clear g
          conv=>whnf
          repeat((first|refine dw ?_|refine bct c14 ?_|refine eqv_to (map_len _) ?_|refine bcf c13 ?_);conv=>whnf)
          refine br_some h (fun c15 g=>?_) (fun c15 g=>?_)
          ·replace h:=g
           clear g
           conv=>whnf
           repeat((first|refine dw ?_|refine bct c15 ?_);conv=>whnf)
           exact K _ h
          ·replace h:=g
           clear g
           conv=>whnf
           repeat((first|refine dw ?_|refine bcf c15 ?_|refine eqv_to (map_len _) ?_);conv=>whnf)
           refine br_some h (fun c16 g=>?_) (fun c16 g=>?_)
           ·replace h:=g
            clear g
            conv=>whnf
            repeat((first|refine dw ?_|refine bct c16 ?_);conv=>whnf)
            exact K _ h
           ·replace h:=g
            clear g
            conv=>whnf
            repeat((first|refine dw ?_|refine bcf c16 ?_);conv=>whnf)
            exact tl3.h  h
         ·replace h:=g
          clear g
          conv=>whnf
          repeat((first|refine dw ?_|refine bcf c14 ?_|refine bcf c13 ?_|refine eqv_to (map_len _) ?_);conv=>whnf)
          refine br_some h (fun c17 g=>?_) (fun c17 g=>?_)
          ·replace h:=g
           clear g
           conv=>whnf
           repeat((first|refine dw ?_|refine bct c17 ?_);conv=>whnf)
           exact K _ h
          ·replace h:=g
           clear g
           conv=>whnf
           repeat((first|refine dw ?_|refine bcf c17 ?_);conv=>whnf)
           exact tl3.h  h
      ·intro h
       unfold ref11_refused_j3 at h
       refine rest_intro hX ?_
       conv=>whnf
       repeat((first|refine dw ?_);conv=>whnf)
       refine br_some h (fun c3 g=>?_) (fun c3 g=>?_)
       ·replace h:=g
        clear g
        conv=>whnf
        repeat((first|refine dw ?_|refine bct c3 ?_);conv=>whnf)
        exact K _ h
       ·replace h:=g
        clear g
        replace h:=chk_some h
        obtain ⟨hs4,h⟩:=h
        conv=>whnf
        repeat((first|refine dw ?_|refine bcf c3 ?_);conv=>whnf)
        refine loop_lisx0 (fun (v4:Int)=>pad [(3,.one (.ptr 0 0)),(1,.one (.ptr 1 0)),(1,iv v4)] 110) (fun (v4:Int)=>[.box (State.cs p0),.box (Msg.cs p2)]) _ p2.l (fun pre4 x4e xs4 v4  hl4 hi4 h ih4=>?_) (fun v4  hi4 h=>?_)  h
        ·rw [ref11_refused_l4] at h
         have am4:=at_mid hl4 hi4
         refine loop_intro hX ?_
         conv=>whnf
         repeat((first|refine dw ?_|refine eqv_to (map_len _) ?_|refine bct (lt_mid hl4 hi4) ?_|refine bct (at_in am4) ?_|refine bct (andt (at_in am4) rfl) ?_|refine row_in (at_row am4) ?_|refine bct (andt (at_in (at_nat am4)) rfl) ?_|refine row_in (at_row (at_nat am4)) ?_);conv=>whnf)
         refine br_some h (fun c5 g=>?_) (fun c5 g=>?_)
         ·replace h:=g
          clear g
          conv=>whnf
          repeat((first|refine dw ?_|refine bct c5 ?_);conv=>whnf)
          exact K _ h
         ·replace h:=g
          clear g
          conv=>whnf
          repeat((first|refine dw ?_|refine bcf c5 ?_);conv=>whnf)
          exact ih4 _  (wrL hs4 hl4 hi4) h
        ·rw [ref11_refused_l4] at h
         refine loop_intro hX ?_
         replace h:=bnd_some h
         obtain ⟨y6,e7,h⟩:=h
         conv=>whnf
         repeat((first|refine dw ?_|refine eqv_to (map_len _) ?_|refine bcf (lt_end hi4) ?_);conv=>whnf)
         refine ref06_May_c hX e7 ?_
         conv=>whnf
         repeat((first|refine dw ?_);conv=>whnf)
         refine br_some h (fun c8 g=>?_) (fun c8 g=>?_)
         ·replace h:=g
          clear g
          conv=>whnf
          repeat((first|refine dw ?_|refine bct c8 ?_);conv=>whnf)
          exact K _ h
         ·replace h:=g
          clear g
          replace h:=bnd_some h
          obtain ⟨y9,e10,h⟩:=h
          conv=>whnf
          repeat((first|refine dw ?_|refine bcf c8 ?_);conv=>whnf)
          refine ref09_Beyond_c hX e10 ?_
          conv=>whnf
          repeat((first|refine dw ?_|refine bcf c8 ?_);conv=>whnf)
          refine br_some h (fun c11 g=>?_) (fun c11 g=>?_)
          ·replace h:=g
           clear g
           conv=>whnf
           repeat((first|refine dw ?_|refine bct c11 ?_);conv=>whnf)
           exact K _ h
          ·replace h:=g
           clear g
           conv=>whnf
           repeat((first|refine dw ?_|refine bcf c11 ?_);conv=>whnf)
           exact K _ h
theorem ref11_came_c  {p0:List Int} {p1:Int} {r:Bool} (h:ref11_came_s p0 p1=some r) (hQ:Q (.one (.p (.v (.bool r)))) []):X (.call 134 [.one (.p (.sl (p0.map irw))),iv p1] [] Q):=by
  have K:=fun a (e:some a=some r)=>ret_some (f:=fun y=>.one (.p (.v (.bool y)))) (g:=fun y=>[]) e hQ
  unfold ref11_came_s at h
  refine call_intro hX Tryz.func134 rfl rfl ?_
  conv=>whnf
  repeat((first|refine dw ?_);conv=>whnf)
  refine loop_fuel1 (fun (v1:Int)=>pad [(0,.one (.p (.sl (p0.map irw)))),(0,iv p1),(3,iv v1)] 24) (fun (v1:Int)=>[]) _ (fun _ h=>?_) (fun fl1 v1 h ih1=>?_) fuelN 0 h
  ·rw [ref11_came_l1] at h
   cases h
  ·rw [ref11_came_l1] at h
   refine loop_intro hX ?_
   conv=>whnf
   repeat((first|refine dw ?_);conv=>whnf)
   revert h
   refine brk (fun c2 h=>?_) (fun c2 h=>?_)
   ·revert h
    refine chkk fun hs2 h=>?_
    conv=>whnf
    repeat((first|refine dw ?_|refine bct c2 ?_);conv=>whnf)
    refine loop_lisx1 (fun (v4:Int) (v3:Bool)=>pad [(0,.one (.p (.sl (p0.map irw)))),(0,iv p1),(3,iv v1),(0,.one (.p (.v (.bool v3)))),(0,iv v4)] 22) (fun (v4:Int) (v3:Bool)=>[]) _ p0 (fun pre2 x2e xs2 v4 v3 hl2 hi2 h ih2=>?_) (fun v4 v3 hi2 h=>?_) false h
    ·rw [ref11_came_l2] at h
     have am2:=at_mid hl2 hi2
     refine loop_intro hX ?_
     conv=>whnf
     repeat((first|refine dw ?_|refine eqv_to (map_len _) ?_|refine bct (lt_mid hl2 hi2) ?_);conv=>whnf)
     revert h
     refine brk (fun c5 h=>?_) (fun c5 h=>?_)
     ·conv=>whnf
      repeat((first|refine dw ?_|refine bct c5 ?_);conv=>whnf)
      exact ih2 _ true (wrL hs2 hl2 hi2) h
     ·conv=>whnf
      repeat((first|refine dw ?_|refine bcf c5 ?_|refine bct (at_in am2) ?_|refine bct (andt (at_in am2) rfl) ?_|refine row_in (at_row am2) ?_|refine bct (andt (at_in (at_nat am2)) rfl) ?_|refine row_in (at_row (at_nat am2)) ?_);conv=>whnf)
      exact ih2 _ (eqI x2e v1) (wrL hs2 hl2 hi2) h
    ·rw [ref11_came_l2] at h
     refine loop_intro hX ?_
     conv=>whnf
     repeat((first|refine dw ?_|refine eqv_to (map_len _) ?_|refine bcf (lt_end hi2) ?_);conv=>whnf)
     revert h
     refine brk (fun c6 h=>?_) (fun c6 h=>?_)
     ·conv=>whnf
      repeat((first|refine dw ?_|refine bct c6 ?_);conv=>whnf)
      exact K _ h
     ·conv=>whnf
      repeat((first|refine dw ?_|refine bcf c6 ?_);conv=>whnf)
      exact ih1 (wr .i64 (v1 + 1)) h
   ·conv=>whnf
    repeat((first|refine dw ?_|refine bcf c2 ?_);conv=>whnf)
    exact K _ h
theorem ref11_with_c  {p0:List Int} {p1:Int} {r:(List Int)} (h:ref11_with_s p0 p1=some r) (hQ:Q (.one (.p (.sl (r.map irw)))) []):X (.call 133 [.one (.p (.sl (p0.map irw))),iv p1] [] Q):=by
  have K:=fun a (e:some a=some r)=>ret_some (f:=fun y=>.one (.p (.sl (y.map irw)))) (g:=fun y=>[]) e hQ
  unfold ref11_with_s at h
  refine call_nz hX ?_
  conv=>whnf
  refine call_intro hX Tryz.func133 rfl rfl ?_
  replace h:=chk_some h
  obtain ⟨hs1,h⟩:=h
  conv=>whnf
  repeat((first|refine dw ?_);conv=>whnf)
  refine loop_k hX [1] ?_
  conv=>whnf
  refine loop_lisx2 (fun (v2:Int) (v1:Bool) (v3:List Int)=>pad [(0,.one (.p (.sl (p0.map irw)))),(0,iv p1),(3,.one (.own 0)),(0,.one (.p (.v (.bool v1)))),(0,iv v2)] 40) (fun (v2:Int) (v1:Bool) (v3:List Int)=>[.rows 1 (v3.map irw)]) _ p0 (fun pre1 x1e xs1 v2 v1 v3 hl1 hi1 h ih1=>?_) (fun v2 v1 v3 hi1 h=>?_) false ([]:List Int) h
  ·rw [ref11_with_l1] at h
   have am1:=at_mid hl1 hi1
   refine loop_intro hX ?_
   apply join2 (X:=X) (r:=r) (fun (v4:Bool) (v5:List Int)=>pad [(0,.one (.p (.sl (p0.map irw)))),(0,iv p1),(3,.one (.own 0)),(0,.one (.p (.v (.bool v4)))),(0,iv v2)] 40) (fun (v4:Bool) (v5:List Int)=>[.rows 1 (v5.map irw)])
   ·intro tl2
    conv=>whnf
    repeat((first|refine dw ?_|refine eqv_to (map_len _) ?_|refine bct (lt_mid hl1 hi1) ?_);conv=>whnf)
    refine br_some h (fun c8 g=>?_) (fun c8 g=>?_)
    ·replace h:=g
     clear g
     conv=>whnf
     repeat((first|refine dw ?_|refine bct c8 ?_|refine bct (at_in am1) ?_|refine bct (andt (at_in am1) rfl) ?_|refine row_in (at_row am1) ?_|refine bct (andt (at_in (at_nat am1)) rfl) ?_|refine row_in (at_row (at_nat am1)) ?_);conv=>whnf)
     refine br_some h (fun c9 g=>?_) (fun c9 g=>?_)
     ·replace h:=g
      clear g
      replace h:=chk_some h
      obtain ⟨c10,h⟩:=h
      conv=>whnf
      repeat((first|refine dw ?_|refine bct c9 ?_|refine bct (room_map c10 rfl rfl rfl rfl) ?_|refine eqv_to (cat_one (f:=irw) v3 p1) ?_);conv=>whnf)
      exact tl2.h true (v3++[p1]) h
     ·replace h:=g
      clear g
      conv=>whnf
      repeat((first|refine dw ?_|refine bcf c9 ?_);conv=>whnf)
      exact tl2.h v1 v3 h
    ·replace h:=g
     clear g
     conv=>whnf
     repeat((first|refine dw ?_|refine bcf c8 ?_);conv=>whnf)
     exact tl2.h v1 v3 h
   ·intro v4 v5 h
    unfold ref11_with_j2 at h
    refine rest_intro hX ?_
    conv=>whnf
    repeat((first|refine dw ?_|refine bct (at_in am1) ?_|refine bct (andt (at_in am1) rfl) ?_|refine row_in (at_row am1) ?_|refine bct (andt (at_in (at_nat am1)) rfl) ?_|refine row_in (at_row (at_nat am1)) ?_);conv=>whnf)
    refine br_some h (fun c6 g=>?_) (fun c6 g=>?_)
    ·replace h:=g
     clear g
     replace h:=chk_some h
     obtain ⟨c7,h⟩:=h
     conv=>whnf
     repeat((first|refine dw ?_|refine bct c6 ?_|refine bct (at_in am1) ?_|refine bct (andt (at_in am1) rfl) ?_|refine row_in (at_row am1) ?_|refine bct (andt (at_in (at_nat am1)) rfl) ?_|refine row_in (at_row (at_nat am1)) ?_|refine bct (room_map c7 rfl rfl rfl rfl) ?_|refine eqv_to (cat_one (f:=irw) v5 x1e) ?_);conv=>whnf)
     exact ih1 _ v4 (v5++[x1e]) (wrL hs1 hl1 hi1) h
    ·replace h:=g
     clear g
     conv=>whnf
     repeat((first|refine dw ?_|refine bcf c6 ?_);conv=>whnf)
     exact ih1 _ v4 v5 (wrL hs1 hl1 hi1) h
  ·rw [ref11_with_l1] at h
   refine loop_intro hX ?_
   conv=>whnf
   repeat((first|refine dw ?_|refine eqv_to (map_len _) ?_|refine bcf (lt_end hi1) ?_);conv=>whnf)
   refine br_some h (fun c11 g=>?_) (fun c11 g=>?_)
   ·replace h:=g
    clear g
    replace h:=chk_some h
    obtain ⟨c12,h⟩:=h
    conv=>whnf
    repeat((first|refine dw ?_|refine bct c11 ?_|refine bct (room_map c12 rfl rfl rfl rfl) ?_|refine eqv_to (cat_one (f:=irw) v3 p1) ?_);conv=>whnf)
    exact K _ h
   ·replace h:=g
    clear g
    conv=>whnf
    repeat((first|refine dw ?_|refine bcf c11 ?_);conv=>whnf)
    exact K _ h
theorem ref11_Take_c  {p0:State} {p1:Sess} {p2:Msg} {r:State × Sess × Int} (h:ref11_Take_s p0 p1 p2=some r) (hQ:Q (.tup [.agg (State.cs r.1),.agg (Sess.cs r.2.1),iv r.2.2]) []):X (.call 59 [.agg (State.cs p0),.agg (Sess.cs p1),.agg (Msg.cs p2)] [] Q):=by
  have K:=fun a (e:some a=some r)=>ret_some (f:=fun y=>.tup [.agg (State.cs y.1),.agg (Sess.cs y.2.1),iv y.2.2]) (g:=fun y=>[]) e hQ
  unfold ref11_Take_s at h
  refine call_nz hX ?_
  conv=>whnf
  refine call_intro hX Tryz.func59 rfl rfl ?_
  replace h:=bnd_some h
  obtain ⟨y1,e2,h⟩:=h
  conv=>whnf
  repeat((first|refine dw ?_);conv=>whnf)
  refine ref11_refused_c hX e2 ?_
  conv=>whnf
  repeat((first|refine dw ?_);conv=>whnf)
  refine br_some h (fun c3 g=>?_) (fun c3 g=>?_)
  ·replace h:=g
   clear g
   conv=>whnf
   repeat((first|refine dw ?_|refine bct c3 ?_);conv=>whnf)
   exact K _ h
  ·replace h:=g
   clear g
   apply join7 (X:=X) (r:=r) (fun (v39:State) (v25:List Int) (v26:Bool) (v27:Bool) (v28:Int) (v40:Know) (v38:List Entry)=>pad [(3,.one (.ptr 0 0)),(0,.one (.ptr 1 0)),(1,.one (.ptr 2 0)),(0,.one (.ptr 7 0))] 124) (fun (v39:State) (v25:List Int) (v26:Bool) (v27:Bool) (v28:Int) (v40:Know) (v38:List Entry)=>[.box (State.cs v39),.box [ic p1.sid,ic p1.with_,ic p1.epoch,ic p2.turn,.p (.sl (v25.map irw)),.p (.v (.bool v26)),.p (.v (.bool v27)),.p (.v (.bool p1.over)),ic v28,ic v40.star.x0,ic v40.star.x1,ic v40.star.x2,ic v40.star.x3,ic v40.star.x4,ic v40.star.x5,ic v40.star.x6,ic v40.star.x7,.p (.sl (v40.l.map Frag.row)),.p (.sl (v38.map Entry.row))],.box [ic 0,ic 0,.p (.v (.string ⟨#[]⟩)),ic 0,.p (.v (.complex .f64 0 0)),.own 3,.own 4,.own 5,ic 0,ic 0,ic 0,ic 0,ic 0,ic 0,ic 0,ic 0,.own 6,ic 0,ic 0,ic 0],.rows 0 [],.rows 0 [],.rows 0 [],.rows 0 [],.box [ic 0,ic 0,ic 0,ic 0,.own 8,.p (.v (.bool false)),.p (.v (.bool false)),.p (.v (.bool false)),ic 0,ic 0,ic 0,ic 0,ic 0,ic 0,ic 0,ic 0,ic 0,.own 9,.own 10],.rows 0 [],.rows 0 [],.rows 0 []])
   ·intro tl1
    conv=>whnf
    repeat((first|refine dw ?_|refine bcf c3 ?_);conv=>whnf)
    refine br_some h (fun c73 g=>?_) (fun c73 g=>?_)
    ·replace h:=g
     clear g
     replace h:=chk_some h
     obtain ⟨hs3,h⟩:=h
     conv=>whnf
     repeat((first|refine dw ?_|refine bct c73 ?_);conv=>whnf)
     refine loop_lisx2 (fun (v74:Int) (v97:State) (v96:Bool)=>pad [(3,.one (.ptr 0 0)),(0,.one (.ptr 1 0)),(0,.one (.ptr 2 0)),(0,.one (.ptr 3 0)),(0,.one (.ptr 8 0)),(2,iv v74)] 121) (fun (v74:Int) (v97:State) (v96:Bool)=>[.box (State.cs v97),.box [ic p1.sid,ic p1.with_,ic p1.epoch,ic p2.turn,.p (.sl (p1.got.map irw)),.p (.v (.bool v96)),.p (.v (.bool p1.told)),.p (.v (.bool p1.over)),ic p1.n,ic p1.k.star.x0,ic p1.k.star.x1,ic p1.k.star.x2,ic p1.k.star.x3,ic p1.k.star.x4,ic p1.k.star.x5,ic p1.k.star.x6,ic p1.k.star.x7,.p (.sl (p1.k.l.map Frag.row)),.p (.sl (p1.l.map Entry.row))],.box (Msg.cs p2),.box [ic 0,ic 0,.p (.v (.string ⟨#[]⟩)),ic 0,.p (.v (.complex .f64 0 0)),.own 4,.own 5,.own 6,ic 0,ic 0,ic 0,ic 0,ic 0,ic 0,ic 0,ic 0,.own 7,ic 0,ic 0,ic 0],.rows 0 [],.rows 0 [],.rows 0 [],.rows 0 [],.box [ic 0,ic 0,ic 0,ic 0,.own 9,.p (.v (.bool false)),.p (.v (.bool false)),.p (.v (.bool false)),ic 0,ic 0,ic 0,ic 0,ic 0,ic 0,ic 0,ic 0,ic 0,.own 10,.own 11],.rows 0 [],.rows 0 [],.rows 0 []]) _ p2.l (fun pre3 x3e xs3 v74 v97 v96 hl3 hi3 h ih3=>?_) (fun v74 v97 v96 hi3 h=>?_) p0 p1.bad h
     ·rw [ref11_Take_l3] at h
      have am3:=at_mid hl3 hi3
      refine loop_intro hX ?_
      conv=>whnf
      repeat((first|refine dw ?_|refine eqv_to (map_len _) ?_|refine bct (lt_mid hl3 hi3) ?_|refine bct (at_in am3) ?_|refine bct (andt (at_in am3) rfl) ?_|refine row_in (at_row am3) ?_|refine bct (andt (at_in (at_nat am3)) rfl) ?_|refine row_in (at_row (at_nat am3)) ?_);conv=>whnf)
      refine br_some h (fun c98 g=>?_) (fun c98 g=>?_)
      ·replace h:=g
       clear g
       replace h:=bnd_some h
       obtain ⟨y99,e100,h⟩:=h
       conv=>whnf
       repeat((first|refine dw ?_|refine bct c98 ?_);conv=>whnf)
       refine ref09_Goes_c hX e100 ?_
       conv=>whnf
       repeat((first|refine dw ?_);conv=>whnf)
       exact ih3 _ y99 v96 (wrL hs3 hl3 hi3) h
      ·replace h:=g
       clear g
       replace h:=bnd_some h
       obtain ⟨y101,e102,h⟩:=h
       conv=>whnf
       repeat((first|refine dw ?_|refine bcf c98 ?_);conv=>whnf)
       refine ref09_Item_c hX e102 ?_
       conv=>whnf
       repeat((first|refine dw ?_);conv=>whnf)
       refine br_some h (fun c103 g=>?_) (fun c103 g=>?_)
       ·replace h:=g
        clear g
        conv=>whnf
        repeat((first|refine dw ?_|refine bct c103 ?_);conv=>whnf)
        exact ih3 _ v97 true (wrL hs3 hl3 hi3) h
       ·replace h:=g
        clear g
        conv=>whnf
        repeat((first|refine dw ?_|refine bcf c103 ?_);conv=>whnf)
        exact ih3 _ y101.1 v96 (wrL hs3 hl3 hi3) h
     ·rw [ref11_Take_l3] at h
      refine loop_intro hX ?_
      replace h:=bnd_some h
      obtain ⟨y104,e105,h⟩:=h
      conv=>whnf
      repeat((first|refine dw ?_|refine eqv_to (map_len _) ?_|refine bcf (lt_end hi3) ?_);conv=>whnf)
      refine ref11_with_c hX e105 ?_
      conv=>whnf
      repeat((first|refine dw ?_);conv=>whnf)
      exact tl1.h v97 y104 v96 p1.told p1.n p1.k p1.l h
    ·replace h:=g
     clear g
     conv=>whnf
     repeat((first|refine dw ?_|refine bcf c73 ?_);conv=>whnf)
     refine br_some h (fun c106 g=>?_) (fun c106 g=>?_)
     ·replace h:=g
      clear g
      conv=>whnf
      repeat((first|refine dw ?_|refine bct c106 ?_);conv=>whnf)
      exact tl1.h p0 p1.got p1.bad true p2.n p2.k p2.l h
     ·replace h:=g
      clear g
      conv=>whnf
      repeat((first|refine dw ?_|refine bcf c106 ?_);conv=>whnf)
      exact tl1.h p0 p1.got p1.bad p1.told p1.n p1.k p1.l h
   ·intro v39 v25 v26 v27 v28 v40 v38 h
    unfold ref11_Take_j1 at h
    refine rest_intro hX ?_
    replace h:=bnd_some h
    obtain ⟨y41,e42,h⟩:=h
    conv=>whnf
    repeat((first|refine dw ?_);conv=>whnf)
    refine ref11_came_c hX e42 ?_
    conv=>whnf
    repeat((first|refine dw ?_);conv=>whnf)
    refine br_some h (fun c43 g=>?_) (fun c43 g=>?_)
    ·replace h:=g
     clear g
     conv=>whnf
     repeat((first|refine dw ?_|refine bct c43 ?_);conv=>whnf)
     refine br_some h (fun c44 g=>?_) (fun c44 g=>?_)
     ·replace h:=g
      clear g
      conv=>whnf
      repeat((first|refine dw ?_|refine bct c44 ?_);conv=>whnf)
      refine br_some h (fun c45 g=>?_) (fun c45 g=>?_)
      ·replace h:=g
       clear g
       replace h:=chk_some h
       obtain ⟨hs2,h⟩:=h
       conv=>whnf
       repeat((first|refine dw ?_|refine bct c45 ?_);conv=>whnf)
       refine loop_lisx1 (fun (v46:Int) (v68:State)=>pad [(3,.one (.ptr 0 0)),(0,.one (.ptr 1 0)),(1,.one (.ptr 2 0)),(0,.one (.ptr 7 0)),(7,iv v46)] 116) (fun (v46:Int) (v68:State)=>[.box (State.cs v68),.box [ic p1.sid,ic p1.with_,ic p1.epoch,ic p2.turn,.p (.sl (v25.map irw)),.p (.v (.bool v26)),.p (.v (.bool v27)),.p (.v (.bool p1.over)),ic v28,ic v40.star.x0,ic v40.star.x1,ic v40.star.x2,ic v40.star.x3,ic v40.star.x4,ic v40.star.x5,ic v40.star.x6,ic v40.star.x7,.p (.sl (v40.l.map Frag.row)),.p (.sl (v38.map Entry.row))],.box [ic 0,ic 0,.p (.v (.string ⟨#[]⟩)),ic 0,.p (.v (.complex .f64 0 0)),.own 3,.own 4,.own 5,ic 0,ic 0,ic 0,ic 0,ic 0,ic 0,ic 0,ic 0,.own 6,ic 0,ic 0,ic 0],.rows 0 [],.rows 0 [],.rows 0 [],.rows 0 [],.box [ic 0,ic 0,ic 0,ic 0,.own 8,.p (.v (.bool false)),.p (.v (.bool false)),.p (.v (.bool false)),ic 0,ic 0,ic 0,ic 0,ic 0,ic 0,ic 0,ic 0,ic 0,.own 9,.own 10],.rows 0 [],.rows 0 [],.rows 0 []]) _ v38 (fun pre2 x2e xs2 v46 v68 hl2 hi2 h ih2=>?_) (fun v46 v68 hi2 h=>?_) v39 h
       ·rw [ref11_Take_l2] at h
        have am2:=at_mid hl2 hi2
        refine loop_intro hX ?_
        replace h:=bnd_some h
        obtain ⟨y69,e70,h⟩:=h
        conv=>whnf
        repeat((first|refine dw ?_|refine eqv_to (map_len _) ?_|refine bct (lt_mid hl2 hi2) ?_|refine bct (at_in am2) ?_|refine bct (andt (at_in am2) rfl) ?_|refine row_in (at_row am2) ?_|refine bct (andt (at_in (at_nat am2)) rfl) ?_|refine row_in (at_row (at_nat am2)) ?_);conv=>whnf)
        refine ref09_Goes_c hX e70 ?_
        conv=>whnf
        repeat((first|refine dw ?_);conv=>whnf)
        exact ih2 _ y69 (wrL hs2 hl2 hi2) h
       ·rw [ref11_Take_l2] at h
        refine loop_intro hX ?_
        replace h:=bnd_some h
        obtain ⟨y71,e72,h⟩:=h
        conv=>whnf
        repeat((first|refine dw ?_|refine eqv_to (map_len _) ?_|refine bcf (lt_end hi2) ?_);conv=>whnf)
        refine ref06_Join_c hX e72 ?_
        conv=>whnf
        repeat((first|refine dw ?_);conv=>whnf)
        exact K _ h
      ·replace h:=g
       clear g
       conv=>whnf
       repeat((first|refine dw ?_|refine bcf c45 ?_);conv=>whnf)
       exact K _ h
     ·replace h:=g
      clear g
      conv=>whnf
      repeat((first|refine dw ?_|refine bcf c44 ?_);conv=>whnf)
      exact K _ h
    ·replace h:=g
     clear g
     conv=>whnf
     repeat((first|refine dw ?_|refine bcf c43 ?_);conv=>whnf)
     exact K _ h
end
end Go.Proofs.YtidkmoohgadjkaaGreat
set_option maxHeartbeats 0
namespace Go.Proofs.YtidkmoohgadjkaaGreat
open Go E
noncomputable section
end
end Go.Proofs.YtidkmoohgadjkaaGreat
namespace Go.Proofs.YtidkmoohgadjkaaGreat
open Go E Pred
section
variable {α β:Type}
theorem br_if (c:Bool) (x y:Option α):br c x y=if c=true then x else y:=by cases c<;>rfl
theorem br_t {c:Bool} {x y:Option α} (h:c=true):br c x y=x:=by rw [h]; rfl
theorem br_f {c:Bool} {x y:Option α} (h:c=false):br c x y=y:=by rw [h]; rfl
theorem chk_t {c:Bool} {x:Option α} (h:c=true):chk c x=x:=by rw [h]; rfl
theorem bnd_of {x:Option α} {a:α} {f:α→Option β} (h:x=some a):bnd x f=f a:=by rw [h]; rfl
theorem roomL_of {a b:Nat} (h:a + b≤1000000):roomL a b=true:=decide_eq_true h
theorem smallL_of {l:List α} (h:l.length≤1000000000):smallL l=true:=decide_eq_true (by omega)
theorem smallM_of {l:List α} (h:l.length≤9223372036854775807):smallL l=true:=decide_eq_true h
theorem atL_of {l:List α} {j:Nat} (h:j < l.length):atL l (j:Int)=some l[j]:=by
 unfold atL; rw [if_pos (by omega),Int.toNat_natCast,List.getElem?_eq_getElem h]
end
noncomputable section
open Classical
theorem rsame_s {p q:Pred} (h:p.Ok):ref03_Same_s p q=some (sameP p q):=by
 unfold ref03_Same_s; rw [chk_t (decide_eq_true h)]
end
end Go.Proofs.YtidkmoohgadjkaaGreat
namespace Go.Proofs.YtidkmoohgadjkaaGreat
open Go E Pred
noncomputable section
open Classical
def memB (l:List ByteArray) (x:ByteArray):Bool:=l.any fun y=>eqS y x
theorem among_l (x:ByteArray):∀ l:List ByteArray,ref06_Among_l1 x l=some (memB l x)
 | []=>by rw [ref06_Among_l1]; rfl
 | y::l=>by
  rw [ref06_Among_l1,among_l x l]
  unfold memB
  rw [List.any_cons]
  cases eqS y x<;>rfl
theorem among_s {l:List ByteArray} {x:ByteArray} (h:l.length≤1000000000):ref06_Among_s l x=some (memB l x):=by
 unfold ref06_Among_s; rw [chk_t (smallL_of h),among_l]
def hasF (f:Frag) (id:ByteArray) (r c:Int):Bool:=memB f.ids id&&hasV f.vec r c
def hasK (k:Know) (id:ByteArray) (r c:Int):Bool:=hasV k.star r c || k.l.any fun f=>hasF f id r c
structure KB (k:Know) (N:Nat):Prop where
 l:k.l.length≤N
 ids:∀ f∈k.l,f.ids.length≤N
theorem hasK_l {id:ByteArray} {v:Ver}:∀ l:List Frag,(∀ f∈l,f.ids.length≤1000000000)→ref06_Has_l1 id v l=some (l.any fun f=>hasF f id v.r v.c)
 | [],_=>by rw [ref06_Has_l1]; rfl
 | f::l,h=>by
  rw [ref06_Has_l1,bnd_of (among_s (h f (List.mem_cons_self ..))),bnd_of (show ref06_HasVec_s f.vec v=some (hasV f.vec v.r v.c) from rfl),hasK_l l fun g hg=>h g (List.mem_cons_of_mem _ hg),List.any_cons]
  unfold hasF
  cases memB f.ids id<;>cases hasV f.vec v.r v.c<;>rfl
theorem hasK_s {k:Know} {id:ByteArray} {v:Ver} {N:Nat} (hN:N≤1000000000) (h:KB k N):ref06_Has_s k id v=some (hasK k id v.r v.c):=by
 unfold ref06_Has_s hasK
 rw [bnd_of (show ref06_HasVec_s k.star v=some (hasV k.star v.r v.c) from rfl),chk_t (smallL_of (Nat.le_trans h.l hN)),hasK_l _ fun f hf=>Nat.le_trans (h.ids f hf) hN]
 cases hasV k.star v.r v.c<;>rfl
def insG (x:ByteArray):Bool→List ByteArray→List ByteArray
 | v,[]=>if v then [] else [x]
 | v,y::ys=>(if !v&&(ltS x y || eqS x y) then [x] else [])++((if eqS y x then [] else [y])++insG x (v || (ltS x y || eqS x y)) ys)
def insV (l:List ByteArray) (x:ByteArray):List ByteArray:=insG x false l
theorem insG_len (x:ByteArray):∀ (l:List ByteArray) (v:Bool),(insG x v l).length≤l.length + (if v then 0 else 1)
 | [],v=>by cases v<;>simp [insG]
 | y::ys,v=>by
  rw [insG,List.length_append,List.length_append,List.length_cons]
  generalize (ltS x y || eqS x y)=w
  have h1:=insG_len x ys true
  have h2:=insG_len x ys false
  have h3:(if eqS y x=true then ([]:List ByteArray) else [y]).length≤1:=by split<;>simp
  cases v<;>cases w<;>simp at h1 h2 ⊢ <;> omega
theorem insert_j {x y:ByteArray} {k:Bool→List ByteArray→Option (List ByteArray)} {v:Bool} {acc:List ByteArray} (h:acc.length≤999999):ref06_insert_j2 x y k v acc=k v (acc++(if eqS y x then [] else [y])):=by
 unfold ref06_insert_j2
 cases eqS y x with
 | true=>rw [br_f (by rfl)]; simp
 | false=>rw [br_t (by rfl),chk_t (roomL_of (by omega))]; rfl
theorem insert_l {x:ByteArray}:∀ (l:List ByteArray) (v:Bool) (acc:List ByteArray),acc.length + l.length + (if v then 0 else 1)≤999990→ref06_insert_l1 x l v acc=some (acc++insG x v l)
 | [],v,acc,h=>by
  rw [ref06_insert_l1,insG]
  cases v with
  | true=>simp [br]
  | false=>rw [br_t (by rfl),chk_t (roomL_of (by simp at h; omega))]; rfl
 | y::l,v,acc,h=>by
  rw [List.length_cons] at h
  have e2:∀ (v':Bool) (a:List ByteArray),a.length + l.length + (if v' then 0 else 1)≤999989→ref06_insert_l1 x l v' (a++if eqS y x=true then [] else [y])=some ((a++if eqS y x=true then [] else [y])++insG x v' l):=fun v' a ha =>
   insert_l l v' _ (by
    have h3:(if eqS y x=true then ([]:List ByteArray) else [y]).length≤1:=by split<;>simp
    rw [List.length_append]; omega)
  rw [ref06_insert_l1,insG]
  cases v with
  | true =>
   simp only [if_true] at h
   rw [br_f (by rfl),insert_j (by omega),e2 true acc (by simp; omega)]
   simp
  | false =>
   simp only [Bool.false_eq_true,if_false] at h
   rw [br_t (by rfl)]
   cases hlt:(ltS x y || eqS x y) with
   | true =>
    rw [br_t (by rfl),chk_t (roomL_of (by omega)),insert_j (by rw [List.length_append]; simp; omega),e2 true (acc++[x]) (by rw [List.length_append]; simp; omega)]
    simp
   | false =>
    rw [br_f (by rfl),insert_j (by omega),e2 false acc (by simp; omega)]
    simp
theorem insert_s {l:List ByteArray} {x:ByteArray} (h:l.length≤999980):ref06_insert_s l x=some (insV l x):=by
 unfold ref06_insert_s; rw [chk_t (smallL_of (by omega)),insert_l l false [] (by simp; omega)]; rfl
def namesG (acc:List ByteArray) (l:List Frag):List ByteArray:=l.foldl (fun a f=>f.ids.foldl insV a) acc
theorem ins_fold_len:∀ (l acc:List ByteArray),(l.foldl insV acc).length≤acc.length + l.length
 | [],acc=>Nat.le_refl _
 | x::l,acc=>by
  have h1:=ins_fold_len l (insV acc x)
  have h2:(insV acc x).length≤acc.length + 1:=insG_len x acc false
  rw [List.foldl_cons,List.length_cons]; omega
theorem names_l2 {k:List ByteArray→Option (List ByteArray)}:∀ (l acc:List ByteArray),acc.length + l.length≤999980→ref06_Names_l2 k l acc=k (l.foldl insV acc)
 | [],acc,_=>by rw [ref06_Names_l2]; rfl
 | x::l,acc,h=>by
  rw [List.length_cons] at h
  have h2:(insV acc x).length≤acc.length + 1:=insG_len x acc false
  rw [ref06_Names_l2,bnd_of (insert_s (by omega)),names_l2 l _ (by omega)]; rfl
def namesK (k:Know):List ByteArray:=namesG [] k.l
def cutI (a s:Int):Int:=if leI a s then 0 else a
def cutV (v s:V8):V8:=⟨cutI v.x0 s.x0,cutI v.x1 s.x1,cutI v.x2 s.x2,cutI v.x3 s.x3,cutI v.x4 s.x4,cutI v.x5 s.x5,cutI v.x6 s.x6,cutI v.x7 s.x7⟩
def zero8:V8:=⟨0,0,0,0,0,0,0,0⟩
def sumV (id:ByteArray) (l:List Frag) (acc:V8):V8:=l.foldl (fun a f=>if memB f.ids id then maxV a f.vec else a) acc
def beyondV (k:Know) (id:ByteArray):V8:=cutV (sumV id k.l zero8) k.star
theorem cut_br {α:Type} {a s:Int} {f:Int→Option α}:br (leI a s) (f 0) (f a)=f (cutI a s):=by
 unfold cutI; cases leI a s<;>rfl
theorem beyond_l {k:Know} {id:ByteArray}:∀ (l:List Frag) (a0 a1 a2 a3 a4 a5 a6 a7:Int),(∀ f∈l,f.ids.length≤1000000000)→ref06_beyond_l1 k id l a0 a1 a2 a3 a4 a5 a6 a7=some (cutV (sumV id l ⟨a0,a1,a2,a3,a4,a5,a6,a7⟩) k.star)
 | [],a0,a1,a2,a3,a4,a5,a6,a7,_=>by
  rw [ref06_beyond_l1,cut_br (f:=fun x=>ref06_beyond_j2 k a1 a2 a3 a4 a5 a6 a7 x)]
  unfold ref06_beyond_j2
  rw [cut_br (f:=fun x=>ref06_beyond_j3 k a2 a3 a4 a5 a6 a7 _ x)]
  unfold ref06_beyond_j3
  rw [cut_br (f:=fun x=>ref06_beyond_j4 k a3 a4 a5 a6 a7 _ _ x)]
  unfold ref06_beyond_j4
  rw [cut_br (f:=fun x=>ref06_beyond_j5 k a4 a5 a6 a7 _ _ _ x)]
  unfold ref06_beyond_j5
  rw [cut_br (f:=fun x=>ref06_beyond_j6 k a5 a6 a7 _ _ _ _ x)]
  unfold ref06_beyond_j6
  rw [cut_br (f:=fun x=>ref06_beyond_j7 k a6 a7 _ _ _ _ _ x)]
  unfold ref06_beyond_j7
  rw [cut_br (f:=fun x=>ref06_beyond_j8 k a7 _ _ _ _ _ _ x)]
  unfold ref06_beyond_j8
  rw [cut_br (f:=fun x=>ref06_beyond_j9 _ _ _ _ _ _ _ x)]
  rfl
 | f::l,a0,a1,a2,a3,a4,a5,a6,a7,h=>by
  have ih:=fun b0 b1 b2 b3 b4 b5 b6 b7=>beyond_l (k:=k) (id:=id) l b0 b1 b2 b3 b4 b5 b6 b7 fun g hg=>h g (List.mem_cons_of_mem _ hg)
  rw [ref06_beyond_l1,bnd_of (among_s (h f (List.mem_cons_self ..)))]
  unfold sumV
  rw [List.foldl_cons]
  cases memB f.ids id with
  | true=>rw [br_t (by rfl),bnd_of (show ref06_Max_s ⟨a0,a1,a2,a3,a4,a5,a6,a7⟩ f.vec=some (maxV ⟨a0,a1,a2,a3,a4,a5,a6,a7⟩ f.vec) from rfl),ih]; rfl
  | false=>rw [br_f (by rfl),ih]; rfl
theorem beyond_s {k:Know} {id:ByteArray} {N:Nat} (hN:N≤1000000000) (h:KB k N):ref06_beyond_s k id=some (beyondV k id):=by
 unfold ref06_beyond_s
 rw [chk_t (smallL_of (Nat.le_trans h.l hN)),beyond_l _ _ _ _ _ _ _ _ _ fun f hf=>Nat.le_trans (h.ids f hf) hN]; rfl
end
end Go.Proofs.YtidkmoohgadjkaaGreat
namespace Go.Proofs.YtidkmoohgadjkaaGreat
open Go E Pred
noncomputable section
open Classical
def addF (id:ByteArray) (v:V8):List Frag→List Frag
 | []=>[⟨[id],v⟩]
 | f::fs=>if eq8 f.vec v then ⟨f.ids++[id],f.vec⟩::fs else f::addF id v fs
theorem at_app {α:Type} (l:List α) (x:α) (m:List α):atL (l++x::m) (l.length:Int)=some x:=at_mid (l:=l++x::m) rfl rfl
theorem set_app {α:Type} (l:List α) (x y:α) (m:List α):(l++x::m).set l.length y=l++y::m:=by simp
theorem plain_j3 {id:ByteArray} {v:V8} {k:List Frag→Option Know} {pre xs:List Frag} (h1:(pre++xs).length≤999990) (h2:∀ f∈pre++xs,f.ids.length≤999990) (hx:∀ f fs,xs=f::fs→eq8 f.vec v=true) :
  ref06_Plain_j3 (pre++xs) id v k (pre.length:Int)=k (pre++addF id v xs):=by
 unfold ref06_Plain_j3
 match xs,h1,h2,hx with
 | [],h1,h2,_ =>
  rw [List.append_nil] at h1 ⊢
  rw [br_t (by rw [eqI_t]),chk_t (roomL_of (by omega)),bnd_of (at_app pre _ []),chk_t (roomL_of (by simp))]
  rw [Int.toNat_natCast,set_app]; rfl
 | f::fs,h1,h2,hx =>
  have hf:=h2 f (by simp)
  rw [br_f (by rw [eqI_f]; simp; omega),bnd_of (at_app pre f fs),chk_t (roomL_of (by omega)),Int.toNat_natCast,set_app,addF,if_pos (hx f fs rfl)]
theorem plain_l4 {id:ByteArray} {v:V8} {k:List Frag→Option Know}:∀ (xs pre:List Frag),(pre++xs).length≤999990→(∀ f∈pre++xs,f.ids.length≤999990)→ref06_Plain_l4 (pre++xs) id v k xs (pre.length:Int)=k (pre++addF id v xs)
 | [],pre,h1,h2=>by rw [ref06_Plain_l4]; exact plain_j3 h1 h2 (fun _ _ e=>by cases e)
 | f::xs,pre,h1,h2=>by
  rw [ref06_Plain_l4]
  cases he:eq8 f.vec v with
  | true=>rw [br_f (by rfl)]; exact plain_j3 h1 h2 (fun g gs e=>by injection e with e1 e2; rw [←e1]; exact he)
  | false =>
   rw [br_t (by rfl),addF,if_neg (by rw [he]; simp)]
   have ih:=plain_l4 (id:=id) (v:=v) (k:=k) xs (pre++[f]) (by simpa using h1) (by simpa using h2)
   rw [List.append_assoc,List.append_assoc,List.length_append] at ih
   exact ih
def stepP (k:Know) (out:List Frag) (id:ByteArray):List Frag:=if eq8 (beyondV k id) zero8 then out else addF id (beyondV k id) out
theorem addF_len (id:ByteArray) (v:V8):∀ l:List Frag,(addF id v l).length≤l.length + 1
 | []=>by simp [addF]
 | f::l=>by rw [addF]; have:=addF_len id v l; split<;>simp<;>omega
theorem addF_ids {id:ByteArray} {v:V8} {n:Nat}:∀ {l:List Frag},(∀ f∈l,f.ids.length≤n)→∀ f∈addF id v l,f.ids.length≤n + 1
 | [],_,f,hf=>by rw [addF,List.mem_singleton] at hf; rw [hf]; simp
 | g::l,h,f,hf=>by
  rw [addF] at hf
  have hg:=h g (List.mem_cons_self ..)
  split at hf
  ·rcases List.mem_cons.1 hf with rfl | hf
   ·simp; exact hg
   ·have:=h f (List.mem_cons_of_mem _ hf); omega
  ·rcases List.mem_cons.1 hf with rfl | hf
   ·omega
   ·exact addF_ids (l:=l) (fun x hx=>h x (List.mem_cons_of_mem _ hx)) f hf
theorem stepP_len {k:Know} {out:List Frag} {id:ByteArray} {n:Nat} (h1:out.length≤n) (h2:∀ f∈out,f.ids.length≤n):(stepP k out id).length≤n + 1∧∀ f∈stepP k out id,f.ids.length≤n + 1:=by
 unfold stepP
 split
 ·exact ⟨by omega,fun f hf=>by have:=h2 f hf; omega⟩
 ·exact ⟨by have:=addF_len id (beyondV k id) out; omega,addF_ids h2⟩
theorem stepP_t {k:Know} {out:List Frag} {id:ByteArray} (h:eq8 (beyondV k id) zero8=true):stepP k out id=out:=by unfold stepP; rw [if_pos h]
theorem stepP_f {k:Know} {out:List Frag} {id:ByteArray} (h:eq8 (beyondV k id) zero8=false):stepP k out id=addF id (beyondV k id) out:=by unfold stepP; rw [if_neg (by rw [h]; simp)]
def plainK (k:Know):Know:=⟨k.star,(namesK k).foldl (stepP k) []⟩
def eqL:List ByteArray→List ByteArray→Bool
 | [],[]=>true
 | x::xs,y::ys=>eqS x y&&eqL xs ys
 | _,_=>false
def alikeF (f g:Frag):Bool:=eq8 f.vec g.vec&&eqL f.ids g.ids
def alikeL:List Frag→List Frag→Bool
 | [],[]=>true
 | x::xs,y::ys=>alikeF x y&&alikeL xs ys
 | _,_=>false
def alikeK (a b:Know):Bool:=eq8 a.star b.star&&alikeL a.l b.l
theorem eqL_len:∀ {a b:List ByteArray},a.length≠b.length→eqL a b=false
 | [],[],h=>absurd rfl h
 | x::xs,y::ys,h=>by rw [eqL,eqL_len (a:=xs) (b:=ys) (by simpa using h),Bool.and_false]
 | [],_::_,_=>rfl
 | _::_,[],_=>rfl
theorem alikeL_len:∀ {a b:List Frag},a.length≠b.length→alikeL a b=false
 | [],[],h=>absurd rfl h
 | x::xs,y::ys,h=>by rw [alikeL,alikeL_len (a:=xs) (b:=ys) (by simpa using h),Bool.and_false]
 | [],_::_,_=>rfl
 | _::_,[],_=>rfl
theorem alike_l2 {k:Option Bool}:∀ (xs pre ys:List ByteArray) (g:Frag),g.ids=pre++ys→xs.length=ys.length→ref06_Alike_l2 g k xs (pre.length:Int)=if eqL xs ys then k else some false
 | [],pre,[],g,_,_=>by rw [ref06_Alike_l2]; rfl
 | x::xs,pre,y::ys,g,hg,hl=>by
  have ih:=alike_l2 (k:=k) xs (pre++[y]) ys g (by simpa using hg) (by simpa using hl)
  rw [List.length_append] at ih
  rw [ref06_Alike_l2,bnd_of (by rw [hg]; exact at_app pre y ys),eqL]
  cases eqS x y with
  | false=>rfl
  | true=>rw [br_f (by rfl),Bool.true_and]; exact ih
 | [],_,_::_,_,_,h=>by simp at h
 | _::_,_,[],_,_,h=>by simp at h
theorem alike_l1:∀ (fs pre gs:List Frag) (b:Know),b.l=pre++gs→fs.length=gs.length→(∀ f∈fs,f.ids.length≤1000000000)→ref06_Alike_l1 b fs (pre.length:Int)=some (alikeL fs gs)
 | [],pre,[],b,_,_,_=>by rw [ref06_Alike_l1]; rfl
 | f::fs,pre,g::gs,b,hb,hl,hi=>by
  have ih:=alike_l1 fs (pre++[g]) gs b (by simpa using hb) (by simpa using hl) fun x hx=>hi x (List.mem_cons_of_mem _ hx)
  rw [List.length_append] at ih
  rw [ref06_Alike_l1,bnd_of (by rw [hb]; exact at_app pre g gs),alikeL]
  unfold alikeF
  cases eq8 f.vec g.vec with
  | false=>rfl
  | true =>
   rw [br_f (by rfl),Bool.true_and]
   by_cases hn:f.ids.length=g.ids.length
   ·rw [br_f (by rw [hn,eqI_t.2 rfl]; rfl),chk_t (smallL_of (hi f (List.mem_cons_self ..)))]
    have h2:=alike_l2 (k:=ref06_Alike_l1 b fs ((pre.length:Int) + 1)) f.ids [] g.ids g rfl hn
    rw [show (([]:List ByteArray).length:Int)=0 from rfl] at h2
    rw [h2]
    cases eqL f.ids g.ids with
    | true=>rw [if_pos rfl,Bool.true_and]; exact ih
    | false=>rfl
   ·rw [br_t (by rw [eqI_f.2 (by omega)]; rfl),eqL_len hn]; rfl
 | [],_,_::_,_,_,h,_=>by simp at h
 | _::_,_,[],_,_,h,_=>by simp at h
theorem alike_s {a b:Know} {N:Nat} (hN:N≤1000000000) (h:KB a N):ref06_Alike_s a b=some (alikeK a b):=by
 unfold ref06_Alike_s alikeK
 cases eq8 a.star b.star with
 | false=>rfl
 | true =>
  rw [br_f (by rfl),Bool.true_and]
  by_cases hl:a.l.length=b.l.length
  ·rw [br_f (by rw [hl,eqI_t.2 rfl]; rfl),chk_t (smallL_of (Nat.le_trans h.l hN))]
   exact alike_l1 a.l [] b.l b rfl hl fun f hf=>Nat.le_trans (h.ids f hf) hN
  ·rw [br_t (by rw [eqI_f.2 (by omega)]; rfl),alikeL_len hl]
def IdsOk (k:Know):Prop:=∀ f∈k.l, ∀ x∈f.ids,x.size≤9223372036854775807
def mayF (f:Frag):Bool:=mayV f.vec&&f.ids.all fun x=>lettersB x 1
def mayK (k:Know):Bool:=alikeK k (plainK k)&&(mayV k.star&&k.l.all mayF)
theorem may_l2 {k:Option Bool}:∀ (xs:List ByteArray),(∀ x∈xs,x.size≤9223372036854775807)→ref06_May_l2 k xs=if (xs.all fun x=>lettersB x 1) then k else some false
 | [],_=>by rw [ref06_May_l2]; rfl
 | x::xs,h=>by
  have e:ref01_Name_s x=some (lettersB x 1):=by unfold ref01_Name_s; rw [chk_t (decide_eq_true (h x (List.mem_cons_self ..)))]
  rw [ref06_May_l2,bnd_of e,may_l2 xs fun y hy=>h y (List.mem_cons_of_mem _ hy),List.all_cons]
  cases lettersB x 1<;>rfl
theorem may_l1:∀ (l:List Frag),(∀ f∈l,f.ids.length≤1000000000)→(∀ f∈l, ∀ x∈f.ids,x.size≤9223372036854775807)→ref06_May_l1 l=some (l.all mayF)
 | [],_,_=>by rw [ref06_May_l1]; rfl
 | f::l,h,h2=>by
  rw [ref06_May_l1,bnd_of (show ref06_MayVec_s f.vec=some (mayV f.vec) from rfl),List.all_cons]
  unfold mayF
  cases mayV f.vec with
  | false=>rfl
  | true =>
   rw [br_f (by rfl),chk_t (smallL_of (h f (List.mem_cons_self ..))),may_l2 _ (h2 f (List.mem_cons_self ..)),may_l1 l (fun g hg=>h g (List.mem_cons_of_mem _ hg)) fun g hg=>h2 g (List.mem_cons_of_mem _ hg)]
   unfold mayF
   cases (f.ids.all fun x=>lettersB x 1)<;>rfl
end
end Go.Proofs.YtidkmoohgadjkaaGreat
namespace Go.Proofs.YtidkmoohgadjkaaGreat
open Go E
theorem ltS_lt (a b:ByteArray):ltS a b=decide (a.data.toList < b.data.toList):=bytesLess_eq _ _
theorem byt_ext {a b:ByteArray} (h:a.data.toList=b.data.toList):a=b:=by
 cases a; cases b; simp at h; rw [h]
theorem eqS_t {a b:ByteArray}:eqS a b=true↔a=b:=by
 unfold eqS; rw [beq_iff_eq]; exact ⟨byt_ext,fun h=>by rw [h]⟩
theorem eqS_self (a:ByteArray):eqS a a=true:=eqS_t.2 rfl
theorem eqS_f {a b:ByteArray}:eqS a b=false↔a≠b:=by
 rw [←Bool.not_eq_true,eqS_t]
theorem eqS_comm' (a b:ByteArray):eqS a b=eqS b a:=by
 cases h:eqS b a with
 | true=>rw [eqS_t] at h ⊢; exact h.symm
 | false=>rw [eqS_f] at h ⊢; exact fun e=>h e.symm
theorem ltS_self (a:ByteArray):ltS a a=false:=by rw [ltS_lt,decide_eq_false_iff_not]; exact List.lt_irrefl _
theorem ltS_tr {a b c:ByteArray} (h:ltS a b=true) (h':ltS b c=true):ltS a c=true:=by
 rw [ltS_lt,decide_eq_true_eq] at *; exact List.lt_trans h h'
theorem ltS_asym {a b:ByteArray} (h:ltS a b=true):ltS b a=false:=by
 cases h':ltS b a with
 | false=>rfl
 | true=>have:=ltS_tr h h'; rw [ltS_self] at this; cases this
theorem ltS_tri {a b:ByteArray} (h:ltS a b=false) (h':ltS b a=false):a=b:=by
 rw [ltS_lt,decide_eq_false_iff_not] at *
 exact byt_ext (List.le_antisymm (List.not_lt.1 h') (List.not_lt.1 h))
theorem ltS_ne {a b:ByteArray} (h:ltS a b=true):eqS a b=false:=by
 rw [eqS_f]; rintro rfl; rw [ltS_self] at h; cases h
theorem le_ltS_tr {a b c:ByteArray} (h:ltS b a=false) (h':ltS b c=true):ltS a c=true:=by
 cases h2:ltS a b with
 | true=>exact ltS_tr h2 h'
 | false=>rw [ltS_tri h2 h]; exact h'
def Ris (l:List Item):Prop:=l.Pairwise fun a b=>ltS a.id b.id=true
end Go.Proofs.YtidkmoohgadjkaaGreat
namespace Go.Proofs.YtidkmoohgadjkaaGreat
open Go E Pred
noncomputable section
open Classical
def alk {α:Type} (l:List (ByteArray × α)) (k:ByteArray):Option α:=(l.find? fun e=>eqS e.1 k).map (·.2)
theorem keyEq_srw (a b:ByteArray):keyEq (srw a) (srw b)=eqS a b:=by simp [keyEq,pcEq]
theorem mget_srw {α:Type} (l:List (ByteArray × α)) (k:ByteArray):mget srw l k=alk l k:=by
 unfold mget alk; simp only [keyEq_srw]
theorem alk_cons {α:Type} (e:ByteArray × α) (l:List (ByteArray × α)) (k:ByteArray):alk (e::l) k=if eqS e.1 k=true then some e.2 else alk l k:=by
 unfold alk; rw [List.find?_cons]; cases eqS e.1 k<;>simp
theorem alk_app {α:Type} (l m:List (ByteArray × α)) (k:ByteArray):alk (l++m) k=(alk l k).or (alk m k):=by
 unfold alk; rw [List.find?_append]; cases List.find? (fun e=>eqS e.1 k) l<;>rfl
theorem alk_some {α:Type} {l:List (ByteArray × α)} {k:ByteArray}:(alk l k).isSome=memB (l.map (·.1)) k:=by
 unfold alk memB
 induction l with
 | nil=>rfl
 | cons e l ih =>
  rw [List.find?_cons,List.map_cons,List.any_cons]
  cases h:eqS e.1 k with
  | true=>rfl
  | false=>rw [Bool.false_or]; exact ih
theorem mset_alk {α:Type} (l:List (ByteArray × α)) (k:ByteArray) (v:α) (id:ByteArray):alk (mset srw l k v) id=if eqS k id=true then some v else alk l id:=by
 unfold mset
 rw [mget_srw]
 cases h:alk l k with
 | none =>
  rw [if_neg (by simp),alk_app,alk_cons]
  by_cases hk:eqS k id=true
  ·rw [if_pos hk,if_pos hk,←eqS_t.1 hk,h]; rfl
  ·rw [if_neg hk,if_neg hk]; cases alk l id<;>rfl
 | some w =>
  rw [if_pos (by rfl)]
  simp only [keyEq_srw]
  have key:∀ l:List (ByteArray × α),(alk l k).isSome=true→alk (l.map fun e=>if eqS e.1 k=true then (e.1,v) else e) id=if eqS k id=true then some v else alk l id:=by
   intro l
   induction l with
   | nil=>intro h; cases h
   | cons e l ih =>
    intro h
    rw [alk_cons] at h
    rw [List.map_cons,alk_cons,alk_cons]
    by_cases he:eqS e.1 k=true
    ·rw [if_pos he]
     have e':=eqS_t.1 he
     by_cases hk:eqS k id=true
     ·rw [if_pos (by show eqS e.1 id=true; rw [e']; exact hk),if_pos hk]
     ·rw [if_neg (by show ¬ eqS e.1 id=true; rw [e']; exact hk),if_neg hk,if_neg (by rw [e']; exact hk)]
      have:∀ l:List (ByteArray × α),alk (l.map fun e=>if eqS e.1 k=true then (e.1,v) else e) id=alk l id:=by
       intro l
       induction l with
       | nil=>rfl
       | cons e l ih =>
        rw [List.map_cons,alk_cons,alk_cons,ih]
        by_cases he:eqS e.1 k=true
        ·rw [if_pos he,if_neg (by show ¬ eqS e.1 id=true; rw [eqS_t.1 he]; exact hk),if_neg (by rw [eqS_t.1 he]; exact hk)]
        ·rw [if_neg he]
      exact this l
    ·rw [if_neg he] at h
     rw [if_neg he,ih h]
     by_cases hi:eqS e.1 id=true
     ·rw [if_pos hi,if_pos hi,if_neg (by rw [←eqS_t.1 hi,eqS_comm']; exact he)]
     ·rw [if_neg hi,if_neg hi]
  exact key l (by rw [h]; rfl)
theorem mset_keys {α:Type} (l:List (ByteArray × α)) (k:ByteArray) (v:α):(mset srw l k v).map (·.1)=if memB (l.map (·.1)) k=true then l.map (·.1) else l.map (·.1)++[k]:=by
 unfold mset
 rw [mget_srw,alk_some]
 split
 ·rw [List.map_map]
  refine List.map_congr_left fun e _=>?_
  simp only [Function.comp,keyEq_srw]
  split<;>rfl
 ·rw [List.map_append]; rfl
theorem memB_iff {l:List ByteArray} {x:ByteArray}:memB l x=true↔x∈l:=by
 unfold memB
 rw [List.any_eq_true]
 exact ⟨fun ⟨y,hy,e⟩=>by rw [←eqS_t.1 e]; exact hy,fun h=>⟨x,h,eqS_self _⟩⟩
theorem memB_cons (y:ByteArray) (l:List ByteArray) (x:ByteArray):memB (y::l) x=(eqS y x || memB l x):=List.any_cons
theorem mset_nodup {α:Type} {l:List (ByteArray × α)} {k:ByteArray} {v:α} (h:(l.map (·.1)).Nodup):((mset srw l k v).map (·.1)).Nodup:=by
 rw [mset_keys]
 split
 ·exact h
 ·rename_i hk
  rw [memB_iff] at hk
  rw [List.nodup_append]
  exact ⟨h,by simp,fun a ha b hb=>by rw [List.mem_singleton.1 hb]; rintro rfl; exact hk ha⟩
theorem maxI_idem (a v:Int):maxI (maxI a v) v=maxI a v:=by unfold maxI; by_cases h:v > a<;>simp [h]
theorem maxV_idem (a v:V8):maxV (maxV a v) v=maxV a v:=by unfold maxV; simp only [maxI_idem]
def addAll (v:V8) (M:List (ByteArray × V8)) (id:ByteArray):List (ByteArray × V8):=mset srw M id (maxV ((alk M id).getD zero8) v)
theorem opt_n {α β:Type} {f:α→Option β} {n:Option β}:opt none f n=n:=rfl
theorem opt_s {α β:Type} {x:α} {f:α→Option β} {n:Option β}:opt (some x) f n=f x:=rfl
theorem plain2_l {f:Frag} {k:List (ByteArray × V8)→Option Know}:∀ (ids:List ByteArray) (M:List (ByteArray × V8)),know_Plain_l2 f k ids M=k (ids.foldl (addAll f.vec) M)
 | [],M=>by rw [know_Plain_l2]; rfl
 | x::ids,M=>by
  have ih:=fun M=>plain2_l (f:=f) (k:=k) ids M
  rw [know_Plain_l2,List.foldl_cons,←ih]
  unfold addAll
  rw [mget_srw]
  cases alk M x with
  | none =>
   rw [opt_n]
   exact bnd_of (show vec_Max_s ⟨0,0,0,0,0,0,0,0⟩ f.vec=some (maxV zero8 f.vec) from rfl)
  | some y =>
   rw [opt_s]
   exact bnd_of (show vec_Max_s y f.vec=some (maxV y f.vec) from rfl)
theorem addAll_alk {v:V8}:∀ (ids:List ByteArray) (M:List (ByteArray × V8)) (id:ByteArray),alk (ids.foldl (addAll v) M) id=if memB ids id=true then some (maxV ((alk M id).getD zero8) v) else alk M id
 | [],M,id=>by rfl
 | x::ids,M,id=>by
  rw [List.foldl_cons,addAll_alk ids,memB_cons]
  unfold addAll
  rw [mset_alk]
  by_cases hx:eqS x id=true
  ·rw [if_pos hx,hx,Bool.true_or,if_pos rfl,←eqS_t.1 hx]
   split
   ·show some (maxV (maxV _ v) v)=_; rw [maxV_idem]
   ·rfl
  ·rw [if_neg hx]
   simp only [Bool.not_eq_true] at hx
   rw [hx,Bool.false_or]
theorem addAll_nodup {v:V8}:∀ (ids:List ByteArray) (M:List (ByteArray × V8)),(M.map (·.1)).Nodup→((ids.foldl (addAll v) M).map (·.1)).Nodup
 | [],M,h=>h
 | x::ids,M,h=>addAll_nodup ids _ (mset_nodup h)
theorem addAll_len {v:V8}:∀ (ids:List ByteArray) (M:List (ByteArray × V8)),(ids.foldl (addAll v) M).length≤M.length + ids.length
 | [],M=>Nat.le_refl _
 | x::ids,M=>by
  have h1:=addAll_len (v:=v) ids (addAll v M x)
  have h2:(addAll v M x).length≤M.length + 1:=by
   unfold addAll mset
   split
   ·simp
   ·simp
  rw [List.foldl_cons,List.length_cons]; omega
def allM (l:List Frag) (M:List (ByteArray × V8)):List (ByteArray × V8):=l.foldl (fun M f=>f.ids.foldl (addAll f.vec) M) M
theorem allM_alk (id:ByteArray):∀ (l:List Frag) (M:List (ByteArray × V8)),alk (allM l M) id=if (alk M id).isSome || l.any (fun f=>memB f.ids id) then some (sumV id l ((alk M id).getD zero8)) else none
 | [],M=>by
  show alk M id=_
  cases h:alk M id<;>rfl
 | f::l,M=>by
  have ih:=allM_alk id l (f.ids.foldl (addAll f.vec) M)
  rw [addAll_alk] at ih
  show alk (allM l (f.ids.foldl (addAll f.vec) M)) id=_
  rw [ih,List.any_cons]
  unfold sumV
  rw [List.foldl_cons]
  by_cases hf:memB f.ids id=true
  ·rw [if_pos hf,if_pos hf,hf]; simp
  ·rw [if_neg hf,if_neg hf]
   simp only [Bool.not_eq_true] at hf
   rw [hf,Bool.false_or]
theorem allM_nodup:∀ (l:List Frag) (M:List (ByteArray × V8)),(M.map (·.1)).Nodup→((allM l M).map (·.1)).Nodup
 | [],M,h=>h
 | f::l,M,h=>allM_nodup l _ (addAll_nodup f.ids M h)
def idsN (l:List Frag):Nat:=(l.map fun f=>f.ids.length).sum
theorem idsN_cons (f:Frag) (l:List Frag):idsN (f::l)=f.ids.length + idsN l:=by simp [idsN]
theorem idsN_app (l m:List Frag):idsN (l++m)=idsN l + idsN m:=by simp [idsN]
theorem allM_len:∀ (l:List Frag) (M:List (ByteArray × V8)),(allM l M).length≤M.length + idsN l
 | [],M=>Nat.le_refl _
 | f::l,M=>by
  have h1:=allM_len l (f.ids.foldl (addAll f.vec) M)
  have h2:=addAll_len (v:=f.vec) f.ids M
  rw [idsN_cons]
  show (allM l (f.ids.foldl (addAll f.vec) M)).length≤_
  omega
structure KT (k:Know) (N:Nat):Prop where
 l:k.l.length≤N
 ids:idsN k.l≤N
theorem idsN_mem {l:List Frag} {f:Frag} (h:f∈l):f.ids.length≤idsN l:=by
 induction l with
 | nil=>cases h
 | cons g l ih =>
  rw [idsN_cons]
  rcases List.mem_cons.1 h with rfl | h
  ·omega
  ·have:=ih h; omega
theorem KT.kb {k:Know} {N:Nat} (h:KT k N):KB k N:=⟨h.l,fun f hf=>Nat.le_trans (idsN_mem hf) h.ids⟩
theorem KT.mono {k:Know} {n m:Nat} (h:KT k n) (hm:n≤m):KT k m:=⟨Nat.le_trans h.l hm,Nat.le_trans h.ids hm⟩
theorem KB.kt {k:Know} {N:Nat} (h:KB k N):KT k (N + N * N):=by
 have key:∀ l:List Frag,(∀ f∈l,f.ids.length≤N)→idsN l≤l.length * N:=by
  intro l
  induction l with
  | nil=>intro _; simp [idsN]
  | cons f l ih =>
   intro h
   have h1:=h f (List.mem_cons_self ..)
   have h2:=ih fun g hg=>h g (List.mem_cons_of_mem _ hg)
   rw [idsN_cons,List.length_cons,Nat.succ_mul]; omega
 have h1:=key k.l h.ids
 have h2:=Nat.mul_le_mul_right N h.l
 exact ⟨Nat.le_trans h.l (Nat.le_add_right _ _),by omega⟩
theorem plain1_l {k:Know}:∀ (l:List Frag) (M:List (ByteArray × V8)),(∀ f∈l,f.ids.length≤1000000000)→know_Plain_l1 k l M=bnd (sorted_s (allM l M)) fun y=>chk (smallL y) (know_Plain_l3 k (allM l M) y)
 | [],M,_=>by rw [know_Plain_l1]; rfl
 | f::l,M,h=>by
  rw [know_Plain_l1,chk_t (smallL_of (h f (List.mem_cons_self ..))),plain2_l]
  exact plain1_l l _ fun g hg=>h g (List.mem_cons_of_mem _ hg)
def Srt (l:List ByteArray):Prop:=l.Pairwise fun a b=>ltS a b=true
theorem srt_cons {x:ByteArray} {l:List ByteArray}:Srt (x::l)↔(∀ y∈l,ltS x y=true)∧Srt l:=List.pairwise_cons
theorem srt_ext:∀ {l m:List ByteArray},Srt l→Srt m→(∀ x,x∈l↔x∈m)→l=m
 | [],[],_,_,_=>rfl
 | [],y::m,_,_,h=>absurd ((h y).2 (List.mem_cons_self ..)) (by simp)
 | x::l,[],_,_,h=>absurd ((h x).1 (List.mem_cons_self ..)) (by simp)
 | x::l,y::m,hl,hm,h=>by
  rw [srt_cons] at hl hm
  have e:x=y:=by
   rcases List.mem_cons.1 ((h x).1 (List.mem_cons_self ..)) with e | hx
   ·exact e
   ·rcases List.mem_cons.1 ((h y).2 (List.mem_cons_self ..)) with e | hy
    ·exact e.symm
    ·have:=ltS_asym (hl.1 y hy); rw [hm.1 x hx] at this; cases this
  subst e
  rw [srt_ext hl.2 hm.2 fun z=>?_]
  constructor
  ·intro hz
   rcases List.mem_cons.1 ((h z).1 (List.mem_cons_of_mem _ hz)) with rfl | hz'
   ·have:=hl.1 z hz; rw [ltS_self] at this; cases this
   ·exact hz'
  ·intro hz
   rcases List.mem_cons.1 ((h z).2 (List.mem_cons_of_mem _ hz)) with rfl | hz'
   ·have:=hm.1 z hz; rw [ltS_self] at this; cases this
   ·exact hz'
theorem insG_t {x:ByteArray}:∀ l:List ByteArray,insG x true l=l.filter fun y=>!eqS y x
 | []=>rfl
 | y::l=>by
  rw [insG,Bool.true_or,insG_t l,List.filter_cons]
  cases eqS y x<;>simp
theorem ins_mem {x z:ByteArray}:∀ l:List ByteArray,z∈insV l x↔z=x∨z∈l
 | []=>by unfold insV; rw [insG]; simp
 | y::l=>by
  have ih:=ins_mem (x:=x) (z:=z) l
  unfold insV at ih ⊢
  rw [insG]
  cases hc:(ltS x y || eqS x y) with
  | true =>
   simp only [Bool.not_false,Bool.true_and,if_true,Bool.false_or]
   rw [insG_t,List.mem_append,List.mem_append,List.mem_singleton,List.mem_filter,List.mem_cons]
   constructor
   ·rintro (h | h | h)
    ·exact .inl h
    ·split at h
     ·cases h
     ·exact .inr (.inl (List.mem_singleton.1 h))
    ·exact .inr (.inr h.1)
   ·rintro (h | h | h)
    ·exact .inl h
    ·subst h
     by_cases he:eqS z x=true
     ·exact .inl (eqS_t.1 he)
     ·exact .inr (.inl (by rw [if_neg he]; exact List.mem_singleton.2 rfl))
    ·by_cases he:eqS z x=true
     ·exact .inl (eqS_t.1 he)
     ·exact .inr (.inr ⟨h,by simpa using he⟩)
  | false =>
   simp only [Bool.not_false,Bool.true_and,Bool.false_eq_true,if_false,Bool.false_or,List.nil_append]
   rw [List.mem_append,ih,List.mem_cons]
   have hne:eqS y x=false:=by
    cases h:eqS y x with
    | false=>rfl
    | true=>rw [eqS_comm',h,Bool.or_true] at hc; cases hc
   rw [hne,if_neg (by simp),List.mem_singleton]
   constructor
   ·rintro (h | h | h)
    ·exact .inr (.inl h)
    ·exact .inl h
    ·exact .inr (.inr h)
   ·rintro (h | h | h)
    ·exact .inr (.inl h)
    ·exact .inl h
    ·exact .inr (.inr h)
theorem ins_srt {x:ByteArray}:∀ {l:List ByteArray},Srt l→Srt (insV l x)
 | [],_=>by unfold insV; rw [insG]; exact List.pairwise_singleton _ _
 | y::l,h=>by
  have h':=srt_cons.1 h
  have ih:=ins_srt (x:=x) h'.2
  have hm:=fun z=>ins_mem (x:=x) (z:=z) l
  unfold insV at ih hm ⊢
  rw [insG]
  cases hc:(ltS x y || eqS x y) with
  | true =>
   simp only [Bool.not_false,Bool.true_and,if_true,Bool.false_or]
   rw [insG_t]
   have hle:ltS y x=false:=by
    rcases Bool.or_eq_true_iff.1 hc with h1 | h1
    ·exact ltS_asym h1
    ·rw [eqS_t.1 h1]; exact ltS_self _
   have key:Srt ((if eqS y x=true then [] else [y])++l.filter fun y=>!eqS y x)∧∀ z∈((if eqS y x=true then [] else [y])++l.filter fun y=>!eqS y x),ltS x z=true:=by
    have hs:Srt (l.filter fun y=>!eqS y x):=h'.2.filter _
    by_cases he:eqS y x=true
    ·rw [if_pos he]
     refine ⟨hs,fun z hz=>?_⟩
     rw [List.nil_append] at hz
     rw [←eqS_t.1 he]; exact h'.1 z (List.mem_filter.1 hz).1
    ·rw [if_neg he]
     have hxy:ltS x y=true:=by
      rcases Bool.or_eq_true_iff.1 hc with h1 | h1
      ·exact h1
      ·exact absurd (by rw [eqS_comm']; exact h1) he
     refine ⟨srt_cons.2 ⟨fun z hz=>h'.1 z (List.mem_filter.1 hz).1,hs⟩,fun z hz=>?_⟩
     rcases List.mem_cons.1 hz with rfl | hz
     ·exact hxy
     ·exact ltS_tr hxy (h'.1 z (List.mem_filter.1 hz).1)
   exact srt_cons.2 ⟨key.2,key.1⟩
  | false =>
   simp only [Bool.not_false,Bool.true_and,Bool.false_eq_true,if_false,Bool.false_or,List.nil_append]
   rw [Bool.or_eq_false_iff] at hc
   have hyx:ltS y x=true:=by
    cases h1:ltS y x with
    | true=>rfl
    | false=>rw [ltS_tri hc.1 h1,eqS_self] at hc; cases hc.2
   rw [ltS_ne hyx,if_neg (by simp)]
   refine srt_cons.2 ⟨fun z hz=>?_,ih⟩
   rcases (hm z).1 hz with rfl | hz
   ·exact hyx
   ·exact h'.1 z hz
theorem insF_mem {z:ByteArray}:∀ (ids acc:List ByteArray),z∈ids.foldl insV acc↔z∈ids∨z∈acc
 | [],acc=>by simp
 | x::ids,acc=>by
  rw [List.foldl_cons,insF_mem ids,ins_mem,List.mem_cons]
  constructor
  ·rintro (h | h | h)
   ·exact .inl (.inr h)
   ·exact .inl (.inl h)
   ·exact .inr h
  ·rintro ((h | h) | h)
   ·exact .inr (.inl h)
   ·exact .inl h
   ·exact .inr (.inr h)
theorem insF_srt:∀ (ids:List ByteArray) {acc:List ByteArray},Srt acc→Srt (ids.foldl insV acc)
 | [],_,h=>h
 | x::ids,_,h=>insF_srt ids (ins_srt h)
theorem names_mem {z:ByteArray}:∀ (l:List Frag) (acc:List ByteArray),z∈namesG acc l↔(∃ f∈l,z∈f.ids)∨z∈acc
 | [],acc=>by simp [namesG]
 | f::l,acc=>by
  show z∈namesG (f.ids.foldl insV acc) l↔_
  rw [names_mem l,insF_mem]
  constructor
  ·rintro (⟨g,hg,hz⟩ | h | h)
   ·exact .inl ⟨g,List.mem_cons_of_mem _ hg,hz⟩
   ·exact .inl ⟨f,List.mem_cons_self .., h⟩
   ·exact .inr h
  ·rintro (⟨g,hg,hz⟩ | h)
   ·rcases List.mem_cons.1 hg with rfl | hg
    ·exact .inr (.inl hz)
    ·exact .inl ⟨g,hg,hz⟩
   ·exact .inr (.inr h)
theorem names_srt:∀ (l:List Frag) {acc:List ByteArray},Srt acc→Srt (namesG acc l)
 | [],_,h=>h
 | f::l,_,h=>names_srt l (insF_srt f.ids h)
theorem namesK_mem {k:Know} {z:ByteArray}:z∈namesK k↔∃ f∈k.l,z∈f.ids:=by
 unfold namesK; rw [names_mem]; simp
theorem namesK_srt (k:Know):Srt (namesK k):=names_srt k.l .nil
theorem sortS_mem {z:ByteArray} {l:List ByteArray}:z∈sortS l↔z∈l:=by
 unfold sortS
 rw [List.mem_map]
 constructor
 ·rintro ⟨b,hb,rfl⟩
  rw [List.mem_mergeSort,List.mem_map] at hb
  obtain ⟨s,hs,rfl⟩:=hb
  exact hs
 ·intro h
  exact ⟨z.data.toList,by rw [List.mem_mergeSort,List.mem_map]; exact ⟨z,h,rfl⟩,rfl⟩
theorem sortS_srt {l:List ByteArray} (h:l.Nodup):Srt (sortS l):=by
 have tr:∀ a b c:List UInt8,leB a b=true→leB b c=true→leB a c=true:=fun a b c h1 h2=>by simp only [leB,decide_eq_true_eq] at *; exact List.le_trans h1 h2
 have to:∀ a b:List UInt8,(leB a b || leB b a)=true:=fun a b=>by simp only [leB,Bool.or_eq_true,decide_eq_true_eq]; exact List.le_total a b
 have h1:((l.map fun s=>s.data.toList).mergeSort leB).Pairwise fun a b=>leB a b=true:=List.pairwise_mergeSort tr to _
 have h2:((l.map fun s=>s.data.toList).mergeSort leB).Nodup:=by
  rw [(List.mergeSort_perm _ _).nodup_iff]
  exact List.Pairwise.map _ (fun a b hab he=>hab (byt_ext he)) h
 unfold sortS Srt
 rw [List.pairwise_map]
 refine (h1.and h2).imp fun {a b} hab=>?_
 rw [ltS_lt,decide_eq_true_eq]
 have hle:a≤b:=by have:=hab.1; simpa [leB] using this
 show a < b
 rcases Classical.em (a < b) with h | h
 ·exact h
 ·exact absurd (List.le_antisymm hle (List.not_lt.1 h)) hab.2
theorem allM_names {k:Know}:sortS ((allM k.l []).map (·.1))=namesK k:=by
 refine srt_ext (sortS_srt (allM_nodup _ _ (by simp))) (namesK_srt k) fun z=>?_
 rw [sortS_mem,namesK_mem,←memB_iff,←alk_some,allM_alk]
 have:(alk ([]:List (ByteArray × V8)) z).isSome=false:=rfl
 rw [this,Bool.false_or]
 constructor
 ·intro h
  split at h
  ·rename_i h1
   obtain ⟨f,hf,hz⟩:=List.any_eq_true.1 h1
   exact ⟨f,hf,memB_iff.1 hz⟩
  ·cases h
 ·rintro ⟨f,hf,hz⟩
  rw [if_pos (List.any_eq_true.2 ⟨f,hf,memB_iff.2 hz⟩)]; rfl
theorem allM_get {k:Know} {id:ByteArray} (h:id∈namesK k):alk (allM k.l []) id=some (sumV id k.l zero8):=by
 obtain ⟨f,hf,hz⟩:=namesK_mem.1 h
 rw [allM_alk,if_pos (by rw [Bool.or_eq_true]; exact .inr (List.any_eq_true.2 ⟨f,hf,memB_iff.2 hz⟩))]; rfl
structure NonNeg (v:V8):Prop where
 h0:0≤v.x0
 h1:0≤v.x1
 h2:0≤v.x2
 h3:0≤v.x3
 h4:0≤v.x4
 h5:0≤v.x5
 h6:0≤v.x6
 h7:0≤v.x7
theorem maxI_nn {a b:Int} (h:0≤a):0≤maxI a b:=by unfold maxI; split<;>omega
theorem NonNeg.max {a b:V8} (h:NonNeg a):NonNeg (maxV a b):=⟨maxI_nn h.h0,maxI_nn h.h1,maxI_nn h.h2,maxI_nn h.h3,maxI_nn h.h4,maxI_nn h.h5,maxI_nn h.h6,maxI_nn h.h7⟩
theorem nn_zero:NonNeg zero8:=⟨by decide,by decide,by decide,by decide,by decide,by decide,by decide,by decide⟩
theorem nn_sum (id:ByteArray):∀ (l:List Frag) {v:V8},NonNeg v→NonNeg (sumV id l v)
 | [],_,h=>h
 | f::l,v,h=>by
  unfold sumV
  rw [List.foldl_cons]
  refine nn_sum id l ?_
  split
  ·exact h.max
  ·exact h
theorem cutN {α:Type} {a s:Int} {f:Int→Option α} (h:0≤a):br (leI a s) (f 0) (br (leI a 0) (f 0) (f a))=f (cutI a s):=by
 unfold cutI
 cases leI a s with
 | true=>rfl
 | false =>
  cases h0:leI a 0 with
  | false=>rfl
  | true =>
   have:a=0:=by rw [leI_t] at h0; omega
   rw [this]; rfl
theorem kbeyond_s {v s:V8} (h:NonNeg v):know_beyond_s v s=some (cutV v s):=by
 unfold know_beyond_s
 rw [cutN (f:=fun x=>know_beyond_j1 v s x) h.h0]
 unfold know_beyond_j1
 rw [cutN (f:=fun x=>know_beyond_j2 v s _ x) h.h1]
 unfold know_beyond_j2
 rw [cutN (f:=fun x=>know_beyond_j3 v s _ _ x) h.h2]
 unfold know_beyond_j3
 rw [cutN (f:=fun x=>know_beyond_j4 v s _ _ _ x) h.h3]
 unfold know_beyond_j4
 rw [cutN (f:=fun x=>know_beyond_j5 v s _ _ _ _ x) h.h4]
 unfold know_beyond_j5
 rw [cutN (f:=fun x=>know_beyond_j6 v s _ _ _ _ _ x) h.h5]
 unfold know_beyond_j6
 rw [cutN (f:=fun x=>know_beyond_j7 v s _ _ _ _ _ _ x) h.h6]
 unfold know_beyond_j7
 rw [cutN (f:=fun x=>know_beyond_j8 _ _ _ _ _ _ _ x) h.h7]
 rfl
theorem eq8_t {a b:V8}:eq8 a b=true↔a=b:=by
 rw [eq8_iff]
 constructor
 ·rintro ⟨h0,h1,h2,h3,h4,h5,h6,h7⟩
  cases a; cases b
  simp only at h0 h1 h2 h3 h4 h5 h6 h7
  rw [h0,h1,h2,h3,h4,h5,h6,h7]
 ·rintro rfl; exact ⟨rfl,rfl,rfl,rfl,rfl,rfl,rfl,rfl⟩
theorem eq8_self (a:V8):eq8 a a=true:=eq8_t.2 rfl
theorem keyEq_v8 (a b:V8):keyEq (V8.row a) (V8.row b)=eq8 a b:=by
 rw [Bool.eq_iff_iff,eq8_iff]
 simp [keyEq,pcEq]
def vlk (l:List (V8 × Int)) (v:V8):Option Int:=(l.find? fun e=>eq8 e.1 v).map (·.2)
theorem mget_v8 (l:List (V8 × Int)) (v:V8):mget V8.row l v=vlk l v:=by
 unfold mget vlk; simp only [keyEq_v8]
def fat:List Frag→V8→Nat→Option Int
 | [],_,_=>none
 | f::l,v,n=>if eq8 f.vec v=true then some (n:Int) else fat l v (n + 1)
theorem fat_app {g:Frag} {v:V8}:∀ (l:List Frag) (n:Nat),fat (l++[g]) v n=(fat l v n).or (if eq8 g.vec v=true then some ((n + l.length:Nat):Int) else none)
 | [],n=>by rw [List.nil_append,fat,fat]; simp [fat]
 | f::l,n=>by
  rw [List.cons_append,fat,fat]
  split
  ·rfl
  ·rw [fat_app l,List.length_cons]
   have:n + 1 + l.length=n + (l.length + 1):=by omega
   rw [this]
theorem vlk_new {at_:List (V8 × Int)} {v w:V8} {n:Int} (h:vlk at_ v=none):vlk (mset V8.row at_ v n) w=(vlk at_ w).or (if eq8 v w=true then some n else none):=by
 unfold mset
 rw [mget_v8,h,if_neg (by simp)]
 unfold vlk
 rw [List.find?_append]
 cases List.find? (fun e=>eq8 e.1 w) at_ with
 | none=>rw [List.find?_cons]; cases eq8 v w<;>rfl
 | some e=>rfl
theorem fat_add {id:ByteArray} {v:V8}:∀ (l:List Frag) (n:Nat),(fat l v n=none∧addF id v l=l++[⟨[id],v⟩])∨∃ pre f post,l=pre++f::post∧fat l v n=some ((n + pre.length:Nat):Int)∧f.vec=v∧addF id v l=pre++⟨f.ids++[id],f.vec⟩::post
 | [],n=>.inl ⟨rfl,rfl⟩
 | f::l,n=>by
  by_cases hf:eq8 f.vec v=true
  ·exact .inr ⟨[],f,l,rfl,by rw [fat,if_pos hf]; rfl,eq8_t.1 hf,by rw [addF,if_pos hf]; rfl⟩
  ·rcases fat_add l (n + 1) with ⟨h1,h2⟩ | ⟨pre,g,post,h1,h2,h3,h4⟩
   ·exact .inl ⟨by rw [fat,if_neg hf,h1],by rw [addF,if_neg hf,h2]; rfl⟩
   ·refine .inr ⟨f::pre,g,post,by rw [h1]; rfl,?_,h3,by rw [addF,if_neg hf,h4]; rfl⟩
    rw [fat,if_neg hf,h2,List.length_cons]
    congr 2; omega
theorem fat_same {pre post:List Frag} {f g:Frag} (h:g.vec=f.vec) (w:V8) (n:Nat):fat (pre++g::post) w n=fat (pre++f::post) w n:=by
 induction pre generalizing n with
 | nil=>rw [List.nil_append,List.nil_append,fat,fat,h]
 | cons x pre ih=>rw [List.cons_append,List.cons_append,fat,fat,ih]
theorem plain_step {out:List Frag} {at_:List (V8 × Int)} {id:ByteArray} {v:V8} {K:List Frag→List (V8 × Int)→Option Know} {N:Nat} (hat:∀ w,vlk at_ w=fat out w 0) (h1:out.length≤N) (h2:idsN out≤N) (hN:N≤999990) :
  ∃ at',(∀ w,vlk at' w=fat (addF id v out) w 0) ∧
  opt (mget V8.row at_ v) (fun x=>bnd (atL out x) fun y=>chk (roomL y.ids.length 1) (K (out.set x.toNat (Frag.mk (y.ids++[id]) y.vec)) at_))
   (chk (roomL out.length 1) (bnd (atL (out++[Frag.mk ([]:List ByteArray) v]) (out.length:Int)) fun x=>chk (roomL x.ids.length 1) (K ((out++[Frag.mk ([]:List ByteArray) v]).set (out.length:Int).toNat (Frag.mk (x.ids++[id]) x.vec)) (mset V8.row at_ v (out.length:Int)))))=K (addF id v out) at':=by
 rw [mget_v8]
 rcases fat_add (id:=id) (v:=v) out 0 with ⟨h3,h4⟩ | ⟨pre,f,post,h3,h4,h5,h6⟩
 ·refine ⟨mset V8.row at_ v (out.length:Int),fun w=>?_,?_⟩
  ·rw [vlk_new (by rw [hat]; exact h3),hat,h4,fat_app,Nat.zero_add]
  ·rw [hat v,h3]
   show chk _ _=_
   rw [chk_t (roomL_of (by omega)),bnd_of (at_app out _ []),chk_t (roomL_of (by simp)),Int.toNat_natCast,set_app,h4]; rfl
 ·refine ⟨at_,fun w=>?_,?_⟩
  ·rw [hat,h6,h3]; exact (fat_same (f:=f) (g:=⟨f.ids++[id],f.vec⟩) rfl w 0).symm
  ·rw [hat v,h4,Nat.zero_add]
   have hf:f.ids.length≤idsN out:=idsN_mem (by rw [h3]; simp)
   show bnd _ _=_
   rw [bnd_of (show atL out (pre.length:Int)=some f by rw [h3]; exact at_app pre f post),chk_t (roomL_of (by omega)),Int.toNat_natCast,h6]
   rw [show out.set pre.length (Frag.mk (f.ids++[id]) f.vec)=pre++Frag.mk (f.ids++[id]) f.vec::post by rw [h3]; exact set_app pre f _ post]
theorem addF_n (id:ByteArray) (v:V8):∀ l:List Frag,idsN (addF id v l)=idsN l + 1
 | []=>by simp [addF,idsN]
 | f::l=>by
  rw [addF,idsN_cons]
  split
  ·rw [idsN_cons]; simp; omega
  ·rw [idsN_cons,addF_n id v l]; omega
theorem plain4_l {k:Know}:∀ (names:List ByteArray) (out:List Frag) (at_:List (V8 × Int)) (N:Nat),(∀ id∈names,id∈namesK k)→(∀ w,vlk at_ w=fat out w 0)→out.length≤N→idsN out≤N→N + names.length≤999980 →
  know_Plain_l4 k (allM k.l []) names out at_=some ⟨k.star,names.foldl (stepP k) out⟩
 | [],out,at_,N,_,_,_,_,_=>by rw [know_Plain_l4]; rfl
 | id::names,out,at_,N,hm,hat,h1,h2,hN=>by
  rw [List.length_cons] at hN
  rw [know_Plain_l4,mget_srw,allM_get (hm id (List.mem_cons_self ..))]
  have hm':∀ z∈names,z∈namesK k:=fun z hz=>hm z (List.mem_cons_of_mem _ hz)
  show bnd (know_beyond_s (sumV id k.l zero8) k.star) _=_
  rw [bnd_of (kbeyond_s (nn_sum id k.l nn_zero)),List.foldl_cons]
  cases he:eq8 (beyondV k id) zero8 with
  | true =>
   rw [stepP_t he]
   refine (br_t (c:=eq8 (cutV (sumV id k.l zero8) k.star) ⟨0,0,0,0,0,0,0,0⟩) he).trans ?_
   exact plain4_l names out at_ N hm' hat h1 h2 (by omega)
  | false =>
   rw [stepP_f he]
   refine (br_f (c:=eq8 (cutV (sumV id k.l zero8) k.star) ⟨0,0,0,0,0,0,0,0⟩) he).trans ?_
   obtain ⟨at',hat',e⟩:=plain_step (id:=id) (v:=beyondV k id) (K:=fun a b=>know_Plain_l4 k (allM k.l []) names a b) hat h1 h2 (by omega)
   refine Eq.trans e ?_
   have:=addF_len id (beyondV k id) out
   exact plain4_l names _ at' (N + 1) hm' hat' (by omega) (by rw [addF_n]; omega) (by omega)
theorem plain3_l {k:Know}:∀ (names:List ByteArray),(∀ id∈names,id∈namesK k)→names.length≤999970→know_Plain_l3 k (allM k.l []) names=some ⟨k.star,names.foldl (stepP k) []⟩
 | [],_,_=>by rw [know_Plain_l3]; rfl
 | id::names,hm,hN=>by
  rw [List.length_cons] at hN
  rw [know_Plain_l3,mget_srw,allM_get (hm id (List.mem_cons_self ..))]
  have hm':∀ z∈names,z∈namesK k:=fun z hz=>hm z (List.mem_cons_of_mem _ hz)
  show bnd (know_beyond_s (sumV id k.l zero8) k.star) _=_
  rw [bnd_of (kbeyond_s (nn_sum id k.l nn_zero)),List.foldl_cons]
  cases he:eq8 (beyondV k id) zero8 with
  | true =>
   rw [stepP_t he]
   refine (br_t (c:=eq8 (cutV (sumV id k.l zero8) k.star) ⟨0,0,0,0,0,0,0,0⟩) he).trans ?_
   exact plain3_l names hm' (by omega)
  | false =>
   rw [stepP_f he]
   refine (br_f (c:=eq8 (cutV (sumV id k.l zero8) k.star) ⟨0,0,0,0,0,0,0,0⟩) he).trans ?_
   rw [mget_v8,show vlk ([]:List (V8 × Int)) (cutV (sumV id k.l zero8) k.star)=none from rfl,opt_n]
   rw [chk_t (by rfl)]
   refine plain4_l names [⟨[id],beyondV k id⟩] _ 1 hm' (fun w=>?_) (by simp) (by simp [idsN]) (by omega)
   rw [vlk_new (by rfl)]
   show (none:Option Int).or _=_
   rw [fat]
   rfl
theorem namesK_len {k:Know} {N:Nat} (h:KT k N):(namesK k).length≤N:=by
 rw [←allM_names]
 unfold sortS
 rw [List.length_map,List.length_mergeSort,List.length_map,List.length_map]
 have:=allM_len k.l []
 have:=h.ids
 simp at *; omega
theorem kplain_s {k:Know} (h:KT k 990000) (hi:IdsOk k):know_Plain_s k=some (plainK k):=by
 have hl:=h.l
 have hids:=h.ids
 unfold know_Plain_s
 have hlen:=allM_len k.l []
 have hs:sorted_s (allM k.l [])=some (namesK k):=by
  unfold sorted_s
  rw [chk_t,allM_names]
  rw [Bool.and_eq_true,List.all_eq_true]
  refine ⟨decide_eq_true (by simp at hlen; omega),fun e he=>decide_eq_true ?_⟩
  have:e.1∈namesK k:=by
   rw [←allM_names,sortS_mem]; exact List.mem_map.2 ⟨e,he,rfl⟩
  obtain ⟨f,hf,hz⟩:=namesK_mem.1 this
  exact hi f hf _ hz
 have hnl:=namesK_len h
 rw [chk_t (smallL_of (by omega)),plain1_l _ _ fun f hf=>Nat.le_trans (idsN_mem hf) (by omega),bnd_of hs,chk_t (smallL_of (by omega)),plain3_l _ (fun _ h=>h) (by omega)]
 rfl
theorem stepP_n (k:Know):∀ (names:List ByteArray) (out:List Frag) (N:Nat),out.length≤N→idsN out≤N→(names.foldl (stepP k) out).length≤N + names.length∧idsN (names.foldl (stepP k) out)≤N + names.length
 | [],out,N,h1,h2=>⟨h1,h2⟩
 | id::names,out,N,h1,h2=>by
  rw [List.foldl_cons,List.length_cons]
  have key:(stepP k out id).length≤N + 1∧idsN (stepP k out id)≤N + 1:=by
   unfold stepP
   split
   ·omega
   ·have:=addF_len id (beyondV k id) out
    rw [addF_n]; omega
  have:=stepP_n k names _ (N + 1) key.1 key.2
  omega
theorem KT.plain {k:Know} {N:Nat} (h:KT k N):KT (plainK k) N:=by
 have h1:=stepP_n k (namesK k) [] 0 (by simp) (by simp [idsN])
 have h2:=namesK_len h
 exact ⟨by show ((namesK k).foldl (stepP k) []).length≤N; omega,by show idsN ((namesK k).foldl (stepP k) [])≤N; omega⟩
end
end Go.Proofs.YtidkmoohgadjkaaGreat
namespace Go.Proofs.YtidkmoohgadjkaaGreat
open Go E Pred
noncomputable section
open Classical
theorem sum_none {id:ByteArray}:∀ (l:List Frag) (v:V8),(∀ f∈l,id ∉ f.ids)→sumV id l v=v
 | [],v,_=>rfl
 | f::l,v,h=>by
  have e:sumV id (f::l) v=sumV id l (if memB f.ids id then maxV v f.vec else v):=rfl
  have hf:¬ memB f.ids id=true:=by rw [memB_iff]; exact h f (List.mem_cons_self ..)
  rw [e,if_neg hf]; exact sum_none l v fun g hg=>h g (List.mem_cons_of_mem _ hg)
theorem cutI_0 (s:Int):cutI 0 s=0:=by unfold cutI; split<;>rfl
theorem cut_zero (s:V8):cutV zero8 s=zero8:=by unfold cutV zero8; simp only [cutI_0]
theorem beyond_none {k:Know} {id:ByteArray} (h:id ∉ namesK k):beyondV k id=zero8:=by
 unfold beyondV
 rw [sum_none _ _ fun f hf hz=>h (namesK_mem.2 ⟨f,hf,hz⟩),cut_zero]
structure Pieces (k:Know) (P:ByteArray→Prop) (out:List Frag):Prop where
 of_:∀ f∈out, ∀ id∈f.ids,beyondV k id=f.vec∧f.vec≠zero8
 has:∀ id,P id→beyondV k id≠zero8→∃ f∈out,id∈f.ids
theorem pieces_step {k:Know} {P:ByteArray→Prop} {out:List Frag} {id:ByteArray} (h:Pieces k P out):Pieces k (fun x=>P x∨x=id) (stepP k out id):=by
 unfold stepP
 by_cases hz:eq8 (beyondV k id) zero8=true
 ·rw [if_pos hz]
  refine ⟨h.of_,fun x hx hb=>?_⟩
  rcases hx with hx | rfl
  ·exact h.has x hx hb
  ·exact absurd (eq8_t.1 hz) hb
 ·rw [if_neg hz]
  have hz':beyondV k id≠zero8:=fun e=>hz (eq8_t.2 e)
  rcases fat_add (id:=id) (v:=beyondV k id) out 0 with ⟨_,e⟩ | ⟨pre,f,post,e1,_,e2,e⟩
  ·rw [e]
   refine ⟨fun g hg x hx=>?_,fun x hx hb=>?_⟩
   ·rcases List.mem_append.1 hg with hg | hg
    ·exact h.of_ g hg x hx
    ·rw [List.mem_singleton.1 hg] at hx ⊢
     rw [List.mem_singleton.1 hx]; exact ⟨rfl,hz'⟩
   ·rcases hx with hx | rfl
    ·obtain ⟨g,hg,hi⟩:=h.has x hx hb
     exact ⟨g,List.mem_append_left _ hg,hi⟩
    ·exact ⟨⟨[x],beyondV k x⟩,List.mem_append_right _ (List.mem_singleton.2 rfl),List.mem_singleton.2 rfl⟩
  ·rw [e]
   refine ⟨fun g hg x hx=>?_,fun x hx hb=>?_⟩
   ·rcases List.mem_append.1 hg with hg | hg
    ·exact h.of_ g (by rw [e1]; exact List.mem_append_left _ hg) x hx
    ·rcases List.mem_cons.1 hg with rfl | hg
     ·rcases List.mem_append.1 hx with hx | hx
      ·exact h.of_ f (by rw [e1]; exact List.mem_append_right _ (List.mem_cons_self ..)) x hx
      ·rw [List.mem_singleton.1 hx]
       exact ⟨e2.symm,by rw [e2]; exact hz'⟩
     ·exact h.of_ g (by rw [e1]; exact List.mem_append_right _ (List.mem_cons_of_mem _ hg)) x hx
   ·rcases hx with hx | rfl
    ·obtain ⟨g,hg,hi⟩:=h.has x hx hb
     rw [e1] at hg
     rcases List.mem_append.1 hg with hg | hg
     ·exact ⟨g,List.mem_append_left _ hg,hi⟩
     ·rcases List.mem_cons.1 hg with rfl | hg
      ·exact ⟨_,List.mem_append_right _ (List.mem_cons_self ..),List.mem_append_left _ hi⟩
      ·exact ⟨g,List.mem_append_right _ (List.mem_cons_of_mem _ hg),hi⟩
    ·exact ⟨_,List.mem_append_right _ (List.mem_cons_self ..),List.mem_append_right _ (List.mem_singleton.2 rfl)⟩
theorem pieces_fold {k:Know}:∀ (names:List ByteArray) {P:ByteArray→Prop} {out:List Frag},Pieces k P out→Pieces k (fun x=>P x∨x∈names) (names.foldl (stepP k) out)
 | [],P,out,h=>⟨h.of_,fun x hx hb=>h.has x (by simpa using hx) hb⟩
 | id::names,P,out,h=>by
  have:=pieces_fold names (pieces_step (id:=id) h)
  rw [List.foldl_cons]
  exact ⟨this.of_,fun x hx hb=>this.has x (by
   rcases hx with hx | hx
   ·exact .inl (.inl hx)
   ·rcases List.mem_cons.1 hx with hx | hx
    ·exact .inl (.inr hx)
    ·exact .inr hx) hb⟩
theorem pieces_plain (k:Know):Pieces k (fun _=>True) (plainK k).l:=by
 have h:=pieces_fold (k:=k) (namesK k) (P:=fun _=>False) (out:=[]) ⟨fun f hf=>(by cases hf),fun id h=>h.elim⟩
 refine ⟨h.of_,fun id _ hb=>h.has id (.inr ?_) hb⟩
 exact Classical.byContradiction fun hn=>hb (beyond_none hn)
theorem cut_nnI {a s:Int} (h:0≤a):0≤cutI a s:=by unfold cutI; split<;>omega
theorem NonNeg.cut {a:V8} (h:NonNeg a) (s:V8):NonNeg (cutV a s):=⟨cut_nnI h.h0,cut_nnI h.h1,cut_nnI h.h2,cut_nnI h.h3,cut_nnI h.h4,cut_nnI h.h5,cut_nnI h.h6,cut_nnI h.h7⟩
theorem eqL_refl:∀ l:List ByteArray,eqL l l=true
 | []=>rfl
 | x::l=>by rw [eqL,eqS_self,eqL_refl l]; rfl
theorem alikeL_refl:∀ l:List Frag,alikeL l l=true
 | []=>rfl
 | f::l=>by rw [alikeL,alikeL_refl l]; unfold alikeF; rw [eq8_self,eqL_refl]; rfl
theorem alike_self (k:Know):alikeK k k=true:=by unfold alikeK; rw [eq8_self,alikeL_refl]; rfl
def joinK (a b:Know):Know:=plainK ⟨maxV a.star b.star,a.l++b.l⟩
def pieceK (k:Know) (id:ByteArray) (r c:Int):Know:=⟨k.star,k.l++[⟨[id],withV zero8 r c⟩]⟩
def withK (k:Know) (id:ByteArray) (r c:Int):Know:=plainK (pieceK k id r c)
end
end Go.Proofs.YtidkmoohgadjkaaGreat
set_option maxHeartbeats 4000000
namespace Go.Proofs.YtidkmoohgadjkaaGreat
open Go E Go.RowKit
theorem prim_ok:∀ f xs σ r σ',prim f xs σ r σ'→CallOk Tryz.prog f xs σ r σ':=fun _ _ _ _ _ h=>h
theorem all_lt {ts:List Nat} {n:Nat} (h:(ts.all fun t=>decide (t < n))=true):∀ t∈ts,t < n:=fun t ht=>of_decide_eq_true (List.all_eq_true.1 h t ht)
theorem all_rd {P:Program} {ts:List Nat} (h:(ts.all fun t=>P.readableRec t)=true):∀ t∈ts,P.readableRec t=true:=List.all_eq_true.1 h
theorem ownNone:ownKnob Tryz.prog.godebug=none:=by kernel_rfl
theorem laidOut:laidOutB Tryz.prog=true:=by kernel_rfl
theorem mixedF:Tryz.prog.follows .mixedOrders=true:=by kernel_rfl
theorem cellsInt:Tryz.prog.cellsOf 3=1:=by kernel_rfl
theorem cellsBool:Tryz.prog.cellsOf 4=1:=by kernel_rfl
theorem cellsFlt:Tryz.prog.cellsOf 22=1:=by kernel_rfl
theorem shInt (n:Nat):ShOk Tryz.prog n 3 (.int .i64):=.int Tryz.underlying3
theorem shBool (n:Nat):ShOk Tryz.prog n 4 .bool:=.bool Tryz.underlying4
theorem shFlt (n:Nat):ShOk Tryz.prog n 22 (.flt .f64):=.flt Tryz.underlying22
theorem sound_ok:Closed (TaskOk Tryz.prog):=sound T_ok mixedF prim_ok
theorem i64_of {n:Int} (h:(Lit.int .i64 n).wf=true) : -9223372036854775808≤n∧n≤9223372036854775807:=by
 simp only [Lit.wf,Bool.and_eq_true,decide_eq_true_eq] at h
 exact ⟨by simpa [IntKind.min,IntKind.signed,IntKind.bits] using h.1,by simpa [IntKind.max,IntKind.signed,IntKind.bits] using h.2⟩
end Go.Proofs.YtidkmoohgadjkaaGreat
set_option maxHeartbeats 4000000
namespace Go.Proofs.YtidkmoohgadjkaaGreat
open Go E Go.ChangeShapes Go.WideShapes Go.ChangeAt Go.RowKit
theorem cellsStr:Tryz.prog.cellsOf 9=1:=by kernel_rfl
theorem shStr (n:Nat):ShOk Tryz.prog n 9 .str:=.str Tryz.underlying9
theorem cellsRow:Tryz.prog.cellsOf 78=9:=by kernel_rfl
abbrev rowSh:Sh:=.cat .str (.cat (.int .i64) (.cat (.int .i64) (.cat (.int .i64) (.cat .str (.cat (.int .i64) (.cat (.flt .f64) (.cat (.flt .f64) (.cat .bool .nil))))))))
theorem shRow:∀ n,ShOk Tryz.prog n 78 rowSh
 | 0=>.zero
 | n + 1=>.struct Tryz.underlying78 cellsRow (.cons rfl cellsStr (shStr n) (.cons rfl cellsInt (shInt n) (.cons rfl cellsInt (shInt n) (.cons rfl cellsInt (shInt n) (.cons rfl cellsStr (shStr n) (.cons rfl cellsInt (shInt n) (.cons rfl cellsFlt (shFlt n) (.cons rfl cellsFlt (shFlt n) (.cons rfl cellsBool (shBool n) .nil)))))))))
theorem fits_row {l:List PC} (h:Fits rowSh l):∃ x:Item,x.Ok∧l=x.lrow:=by
 obtain ⟨_,_,rfl,⟨x0,rfl,w0⟩,_,_,rfl,⟨x1,rfl,w1⟩,_,_,rfl,⟨x2,rfl,w2⟩,_,_,rfl,⟨x3,rfl,w3⟩,_,_,rfl,⟨x4,rfl,w4⟩,_,_,rfl,⟨x5,rfl,w5⟩,_,_,rfl,⟨x6,rfl,w6⟩,_,_,rfl,⟨x7,rfl,w7⟩,_,_,rfl,⟨x8,rfl⟩,rfl⟩:=h
 exact ⟨⟨x0,x1,x2,x3,x4,x5,x6,x7,x8⟩,⟨Nat.le_trans w0 (by decide),Nat.le_trans w4 (by decide),i64_of w1,i64_of w2,i64_of w3,i64_of w5⟩,rfl⟩
section
variable {H:Type} {enc:TypeId × Value→H} {W:World} {v:Value} {d:DataW H} {ps:List MemPlace} {b0:Nat}
end
end Go.Proofs.YtidkmoohgadjkaaGreat
set_option maxHeartbeats 4000000
namespace Go.Proofs.YtidkmoohgadjkaaGreat
open Go E Go.ChangeShapes Go.WideShapes Go.ChangeAt Go.RowKit
theorem cellsRows:Tryz.prog.cellsOf 26=1:=by kernel_rfl
theorem shRows:∀ n,ShOk Tryz.prog n 26 (.sl rowSh)
 | 0=>.zero
 | n + 1=>.sl Tryz.underlying26 cellsRow (by decide) (shRow n)
theorem list_of {α:Type} {P:List PC→Prop} {Ok:α→Prop} {f:α→List PC} (h:∀ r,P r→∃ x,Ok x∧r=f x):∀ (l:List (List PC)),(∀ r∈l,P r)→∃ xs:List α,(∀ x∈xs,Ok x)∧l=xs.map f
 | [],_=>⟨[],by simp,rfl⟩
 | r::l,hl=>by
  obtain ⟨x,hx,rfl⟩:=h r (hl r (by simp))
  obtain ⟨xs,hxs,rfl⟩:=list_of h l fun r hr=>hl r (by simp [hr])
  exact ⟨x::xs,by simpa using ⟨hx,hxs⟩,rfl⟩
theorem fits_rows {l:List PC} (h:Fits (.sl rowSh) l):∃ xs:List Item,(∀ x∈xs,x.Ok)∧l=[.sl (xs.map Item.lrow)]:=by
 obtain ⟨rows,rfl,_,hr⟩:=h
 obtain ⟨xs,hx,rfl⟩:=list_of (P:=Fits rowSh) (Ok:=Item.Ok) (f:=Item.lrow) (fun r h=>fits_row h) rows hr
 exact ⟨xs,hx,rfl⟩
section
variable {H:Type} {enc:TypeId × Value→H} {W:World} {v:Value} {d:DataW H} {ps:List MemPlace} {b0:Nat}
end
end Go.Proofs.YtidkmoohgadjkaaGreat
set_option maxHeartbeats 4000000
namespace Go.Proofs.YtidkmoohgadjkaaGreat
open Go E Go.ChangeShapes Go.WideShapes Go.ChangeAt Go.RowKit
theorem cellsStrs:Tryz.prog.cellsOf 151=1:=by kernel_rfl
theorem cellsVec:Tryz.prog.cellsOf 28=8:=by kernel_rfl
theorem cellsFrag:Tryz.prog.cellsOf 153=9:=by kernel_rfl
theorem cellsFrags:Tryz.prog.cellsOf 29=1:=by kernel_rfl
theorem cellsKnow:Tryz.prog.cellsOf 31=9:=by kernel_rfl
theorem shStrs:∀ n,ShOk Tryz.prog n 151 (.sl .str)
 | 0=>.zero
 | n + 1=>.sl Tryz.underlying151 cellsStr (by decide) (shStr n)
theorem shVec:∀ n,ShOk Tryz.prog n 28 (repS (.int .i64) 8)
 | 0=>.zero
 | n + 1=>.arr (s:=.int .i64) Tryz.underlying28 cellsInt cellsVec (shInt n) rfl
abbrev fragSh:Sh:=.cat (.sl .str) (.cat (repS (.int .i64) 8) .nil)
theorem shFrag:∀ n,ShOk Tryz.prog n 153 fragSh
 | 0=>.zero
 | n + 1=>.struct Tryz.underlying153 cellsFrag (.cons rfl cellsStrs (shStrs n) (.cons rfl cellsVec (shVec n) .nil))
theorem shFrags:∀ n,ShOk Tryz.prog n 29 (.sl fragSh)
 | 0=>.zero
 | n + 1=>.sl Tryz.underlying29 cellsFrag (by decide) (shFrag n)
abbrev knowSh:Sh:=.cat (repS (.int .i64) 8) (.cat (.sl fragSh) .nil)
theorem shKnow:∀ n,ShOk Tryz.prog n 31 knowSh
 | 0=>.zero
 | n + 1=>.struct Tryz.underlying31 cellsKnow (.cons rfl cellsVec (shVec n) (.cons rfl cellsFrags (shFrags n) .nil))
theorem fits_v8 {l:List PC} (h:Fits (repS (.int .i64) 8) l):∃ v:V8,l=v.row:=by
 obtain ⟨_,_,rfl,⟨x0,rfl,w0⟩,_,_,rfl,⟨x1,rfl,w1⟩,_,_,rfl,⟨x2,rfl,w2⟩,_,_,rfl,⟨x3,rfl,w3⟩,_,_,rfl,⟨x4,rfl,w4⟩,_,_,rfl,⟨x5,rfl,w5⟩,_,_,rfl,⟨x6,rfl,w6⟩,_,_,rfl,⟨x7,rfl,w7⟩,rfl⟩:=h
 exact ⟨⟨x0,x1,x2,x3,x4,x5,x6,x7⟩,rfl⟩
theorem fits_strs {l:List PC} (h:Fits (.sl .str) l):∃ xs:List ByteArray,(∀ x∈xs,x.size≤9223372036854775807)∧l=[.sl (xs.map srw)]:=by
 obtain ⟨rows,rfl,_,hr⟩:=h
 obtain ⟨xs,hx,rfl⟩:=list_of (P:=Fits .str) (Ok:=fun x:ByteArray=>x.size≤9223372036854775807) (f:=srw) (fun r ⟨s,e,hs⟩=>⟨s,Nat.le_trans hs (by decide),e⟩) rows hr
 exact ⟨xs,hx,rfl⟩
theorem fits_frag {l:List PC} (h:Fits fragSh l):∃ f:Frag,(∀ x∈f.ids,x.size≤9223372036854775807)∧l=f.row:=by
 obtain ⟨_,_,rfl,h1,_,_,rfl,h2,rfl⟩:=h
 obtain ⟨xs,hx,rfl⟩:=fits_strs h1
 obtain ⟨v,rfl⟩:=fits_v8 h2
 exact ⟨⟨xs,v⟩,hx,by simp⟩
theorem fits_know {l:List PC} (h:Fits knowSh l):∃ k:Know,IdsOk k∧l=k.row:=by
 obtain ⟨_,_,rfl,h1,_,_,rfl,⟨rows,rfl,_,hr⟩,rfl⟩:=h
 obtain ⟨v,rfl⟩:=fits_v8 h1
 obtain ⟨fs,hf,rfl⟩:=list_of (P:=Fits fragSh) (Ok:=fun f:Frag=>∀ x∈f.ids,x.size≤9223372036854775807) (f:=Frag.row) (fun r h=>fits_frag h) rows hr
 exact ⟨⟨v,fs⟩,hf,by simp⟩
abbrev Know.la (k:Know):A:=.agg [ic k.star.x0,ic k.star.x1,ic k.star.x2,ic k.star.x3,ic k.star.x4,ic k.star.x5,ic k.star.x6,ic k.star.x7,.p (.sl (k.l.map Frag.row))]
abbrev Ver.la (v:Ver):A:=.agg [ic v.r,ic v.c]
def Ver.Ok (v:Ver):Prop:=(-9223372036854775808≤v.r∧v.r≤9223372036854775807) ∧ -9223372036854775808≤v.c∧v.c≤9223372036854775807
theorem cellsVer:Tryz.prog.cellsOf 66=2:=by kernel_rfl
abbrev verSh:Sh:=.cat (.int .i64) (.cat (.int .i64) .nil)
theorem shVer:∀ n,ShOk Tryz.prog n 66 verSh
 | 0=>.zero
 | n + 1=>.struct Tryz.underlying66 cellsVer (.cons rfl cellsInt (shInt n) (.cons rfl cellsInt (shInt n) .nil))
section
variable {H:Type} {enc:TypeId × Value→H} {W:World} {v:Value} {d:DataW H} {ps:List MemPlace} {b0:Nat}
end
end Go.Proofs.YtidkmoohgadjkaaGreat
namespace Go.Proofs.YtidkmoohgadjkaaGreat
open Go E Pred
noncomputable section
open Classical
theorem kalike_l2 {k:Option Bool}:∀ (xs pre ys:List ByteArray) (g:Frag),g.ids=pre++ys→xs.length=ys.length→know_alike_l2 g k xs (pre.length:Int)=if eqL xs ys then k else some false
 | [],pre,[],g,_,_=>by rw [know_alike_l2]; rfl
 | x::xs,pre,y::ys,g,hg,hl=>by
  have ih:=kalike_l2 (k:=k) xs (pre++[y]) ys g (by simpa using hg) (by simpa using hl)
  rw [List.length_append] at ih
  rw [know_alike_l2,bnd_of (by rw [hg]; exact at_app pre y ys),eqL]
  cases eqS x y with
  | false=>rfl
  | true=>rw [br_f (by rfl),Bool.true_and]; exact ih
 | [],_,_::_,_,_,h=>by simp at h
 | _::_,_,[],_,_,h=>by simp at h
theorem kalike_l1:∀ (fs pre gs:List Frag) (b:Know),b.l=pre++gs→fs.length=gs.length→(∀ f∈fs,f.ids.length≤1000000000)→know_alike_l1 b fs (pre.length:Int)=some (alikeL fs gs)
 | [],pre,[],b,_,_,_=>by rw [know_alike_l1]; rfl
 | f::fs,pre,g::gs,b,hb,hl,hi=>by
  have ih:=kalike_l1 fs (pre++[g]) gs b (by simpa using hb) (by simpa using hl) fun x hx=>hi x (List.mem_cons_of_mem _ hx)
  rw [List.length_append] at ih
  rw [know_alike_l1,bnd_of (by rw [hb]; exact at_app pre g gs),alikeL]
  unfold alikeF
  cases eq8 f.vec g.vec with
  | false=>rfl
  | true =>
   rw [br_t (by rfl),Bool.true_and]
   by_cases hn:f.ids.length=g.ids.length
   ·rw [br_f (by rw [hn,eqI_t.2 rfl]; rfl),chk_t (smallL_of (hi f (List.mem_cons_self ..)))]
    have h2:=kalike_l2 (k:=know_alike_l1 b fs ((pre.length:Int) + 1)) f.ids [] g.ids g rfl hn
    rw [show (([]:List ByteArray).length:Int)=0 from rfl] at h2
    rw [h2]
    cases eqL f.ids g.ids with
    | true=>rw [if_pos rfl,Bool.true_and]; exact ih
    | false=>rfl
   ·rw [br_t (by rw [eqI_f.2 (by omega)]; rfl),eqL_len hn]; rfl
 | [],_,_::_,_,_,h,_=>by simp at h
 | _::_,_,[],_,_,h,_=>by simp at h
theorem kalike_s {a b:Know} {N:Nat} (hN:N≤1000000000) (h:KB a N):know_alike_s a b=some (alikeK a b):=by
 unfold know_alike_s alikeK
 cases eq8 a.star b.star with
 | false=>rfl
 | true =>
  rw [br_t (by rfl),Bool.true_and]
  by_cases hl:a.l.length=b.l.length
  ·rw [br_f (by rw [hl,eqI_t.2 rfl]; rfl),chk_t (smallL_of (Nat.le_trans h.l hN))]
   exact kalike_l1 a.l [] b.l b rfl hl fun f hf=>Nat.le_trans (h.ids f hf) hN
  ·rw [br_t (by rw [eqI_f.2 (by omega)]; rfl),alikeL_len hl]
theorem khas_l2 {id:ByteArray} {v:Ver} {f:Frag} {k:Option Bool}:∀ (ids:List ByteArray) (i:Int),0≤i→know_Has_l2 id v f k ids i=if memB ids id=true then (if hasV f.vec v.r v.c=true then some true else k) else k
 | [],i,_=>by rw [know_Has_l2]; rfl
 | x::ids,i,hi=>by
  rw [know_Has_l2,khas_l2 ids (i + 1) (by omega),memB_cons,eqS_comm' id x]
  cases eqS x id with
  | false=>rfl
  | true =>
   rw [br_t rfl,br_t (leI_t.2 hi),bnd_of (show vec_Has_s f.vec v=some (hasV f.vec v.r v.c) from rfl),br_if]; rfl
theorem khas_l1 {id:ByteArray} {v:Ver}:∀ l:List Frag,(∀ f∈l,f.ids.length≤1000000000)→know_Has_l1 id v l=some (l.any fun f=>hasF f id v.r v.c)
 | [],_=>by rw [know_Has_l1]; rfl
 | f::l,h=>by
  rw [know_Has_l1,chk_t (smallL_of (h f (List.mem_cons_self ..))),khas_l2 _ _ (by decide),khas_l1 l fun g hg=>h g (List.mem_cons_of_mem _ hg),List.any_cons]
  unfold hasF
  cases memB f.ids id<;>cases hasV f.vec v.r v.c<;>rfl
theorem khas_s {k:Know} {id:ByteArray} {v:Ver} {N:Nat} (hN:N≤1000000000) (h:KB k N):know_Has_s k id v=some (hasK k id v.r v.c):=by
 unfold know_Has_s hasK
 rw [bnd_of (show vec_Has_s k.star v=some (hasV k.star v.r v.c) from rfl),chk_t (smallL_of (Nat.le_trans h.l hN)),khas_l1 _ fun f hf=>Nat.le_trans (h.ids f hf) hN]
 cases hasV k.star v.r v.c<;>rfl
theorem kmay_l2 {k:Option Bool}:∀ (xs:List ByteArray) (i:Int),0≤i→(∀ x∈xs,x.size≤9223372036854775807)→know_May_l2 k xs i=if (xs.all fun x=>lettersB x 1) then k else some false
 | [],i,_,_=>by rw [know_May_l2]; rfl
 | x::xs,i,hi,h=>by
  have e:item_Name_s x=some (lettersB x 1):=by unfold item_Name_s; rw [chk_t (decide_eq_true (h x (List.mem_cons_self ..)))]
  rw [know_May_l2,bnd_of e,kmay_l2 xs (i + 1) (by omega) fun y hy=>h y (List.mem_cons_of_mem _ hy),List.all_cons]
  cases lettersB x 1 with
  | true=>rfl
  | false=>rw [br_t (by rfl),br_t (leI_t.2 hi)]; rfl
theorem kmay_l1:∀ (l:List Frag),(∀ f∈l,f.ids.length≤1000000000)→(∀ f∈l, ∀ x∈f.ids,x.size≤9223372036854775807)→know_May_l1 l=some (l.all mayF)
 | [],_,_=>by rw [know_May_l1]; rfl
 | f::l,h,h2=>by
  rw [know_May_l1,bnd_of (show vec_May_s f.vec=some (mayV f.vec) from rfl),List.all_cons]
  unfold mayF
  cases mayV f.vec with
  | false=>rfl
  | true =>
   rw [br_f (by rfl),chk_t (smallL_of (h f (List.mem_cons_self ..))),kmay_l2 _ _ (by decide) (h2 f (List.mem_cons_self ..)),kmay_l1 l (fun g hg=>h g (List.mem_cons_of_mem _ hg)) fun g hg=>h2 g (List.mem_cons_of_mem _ hg)]
   unfold mayF
   cases (f.ids.all fun x=>lettersB x 1)<;>rfl
theorem kmay_s {k:Know} (h:KT k 990000) (hi:IdsOk k):know_May_s k=some (mayK k):=by
 unfold know_May_s mayK
 rw [bnd_of (show vec_May_s k.star=some (mayV k.star) from rfl)]
 cases mayV k.star with
 | false=>rw [br_t (by rfl)]; simp
 | true =>
  rw [br_f (by rfl),bnd_of (kplain_s h hi),bnd_of (kalike_s (by decide) h.kb)]
  cases alikeK k (plainK k) with
  | false=>rfl
  | true=>rw [br_f (by rfl),chk_t (smallL_of (by have:=h.l; omega)),kmay_l1 _ (fun f hf=>by have:=h.kb.ids f hf; omega) hi]; rfl
theorem ids_plain {k:Know} (h:IdsOk k):IdsOk (plainK k):=fun f hf x hx=>by
 have hp:=(pieces_plain k).of_ f hf x hx
 have:x∈namesK k:=Classical.byContradiction fun hn=>hp.2 (by rw [←hp.1,beyond_none hn])
 obtain ⟨g,hg,hz⟩:=namesK_mem.1 this
 exact h g hg x hz
theorem kt_join {a b:Know} {N M:Nat} (ha:KT a N) (hb:KT b M):KT ⟨maxV a.star b.star,a.l++b.l⟩ (N + M) :=
 ⟨by show (a.l++b.l).length≤_; rw [List.length_append]; have:=ha.l; have:=hb.l; omega,by show idsN (a.l++b.l)≤_; rw [idsN_app]; have:=ha.ids; have:=hb.ids; omega⟩
theorem ids_join {a b:Know} (ha:IdsOk a) (hb:IdsOk b):IdsOk ⟨maxV a.star b.star,a.l++b.l⟩:=fun f hf x hx=>by
 rcases List.mem_append.1 hf with hf | hf
 ·exact ha f hf x hx
 ·exact hb f hf x hx
theorem kjoin_s {a b:Know} {N M:Nat} (ha:KT a N) (hb:KT b M) (hn:N + M≤900000) (ia:IdsOk a) (ib:IdsOk b):know_Join_s a b=some (joinK a b):=by
 have h1:=ha.l
 have h2:=hb.l
 unfold know_Join_s
 rw [bnd_of (show vec_Max_s a.star b.star=some (maxV a.star b.star) from rfl),chk_t (smallL_of (by simp))]
 rw [know_Join_l1,br_f (by rw [ltI_f,wr64 (by omega) (by omega)]; omega),wr64 (by omega) (by omega),know_Join_l1,br_f (by rw [ltI_f,wr64 (by omega) (by omega)]; omega),wr64 (by omega) (by omega),know_Join_l1]
 have hg:grow_s (0 + (a.l.length:Int) + (b.l.length:Int))=some []:=by unfold grow_s; rw [chk_t (decide_eq_true (by omega))]
 rw [bnd_of hg,chk_t (smallL_of (by simp)),know_Join_l2,chk_t (roomL_of (by simp; omega)),know_Join_l2,chk_t (roomL_of (by simp; omega)),know_Join_l2,List.nil_append,bnd_of (kplain_s ((kt_join ha hb).mono (by omega)) (ids_join ia ib))]
 rfl
theorem kt_piece {k:Know} {N:Nat} (h:KT k N) (id:ByteArray) (r c:Int):KT (pieceK k id r c) (N + 1) :=
 ⟨by show (k.l++[_]).length≤_; rw [List.length_append]; have:=h.l; simp; omega,by show idsN (k.l++[_])≤_; rw [idsN_app]; have:=h.ids; simp [idsN]; simp [idsN] at this; omega⟩
theorem ids_piece {k:Know} {id:ByteArray} {r c:Int} (h:IdsOk k) (hid:id.size≤9223372036854775807):IdsOk (pieceK k id r c):=fun f hf x hx=>by
 rcases List.mem_append.1 hf with hf | hf
 ·exact h f hf x hx
 ·rw [List.mem_singleton.1 hf] at hx
  rw [List.mem_singleton.1 hx]; exact hid
theorem kwith_s {k:Know} {id:ByteArray} {v:Ver} {N:Nat} (h:KT k N) (hn:N≤900000) (hi:IdsOk k) (hid:id.size≤9223372036854775807):know_With_s k id v=some (withK k id v.r v.c):=by
 have hl:=h.l
 unfold know_With_s
 rw [bnd_of (show vec_With_s ⟨0,0,0,0,0,0,0,0⟩ v=some (withV zero8 v.r v.c) from rfl),bnd_of (show clone_s k.l=some k.l by unfold clone_s; rw [chk_t (decide_eq_true (by omega))]),chk_t (roomL_of (by omega))]
 rw [bnd_of (show know_Plain_s ⟨k.star,k.l++[⟨[id],withV zero8 v.r v.c⟩]⟩=some (plainK (pieceK k id v.r v.c)) from kplain_s (k:=pieceK k id v.r v.c) ((kt_piece h id v.r v.c).mono (by omega)) (ids_piece hi hid))]
 rfl
theorem KB.mono' {k:Know} {n m:Nat} (h:KB k n) (hm:n≤m):KB k m:=⟨Nat.le_trans h.l hm,fun f hf=>Nat.le_trans (h.ids f hf) hm⟩
end
end Go.Proofs.YtidkmoohgadjkaaGreat
namespace Go.Proofs.YtidkmoohgadjkaaGreat
open Go E Pred
noncomputable section
open Classical
def risesG:Item→List Item→Bool
 | _,[]=>true
 | p,x::xs=>!(ltS x.id p.id || eqS x.id p.id)&&risesG x xs
def risesB:List Item→Bool
 | []=>true
 | x::xs=>risesG x xs
theorem rises_l:∀ (xs:List Item) (p:Item) (pre l:List Item) (fl:Nat),l=pre++p::xs→l.length≤1000000→xs.length + 1≤fl→ref06_Rises_l1 l fl ((pre.length:Int) + 1)=some (risesG p xs)
 | [],p,pre,l,fl,hl,hn,hf=>by
  obtain ⟨fl,rfl⟩:∃ n,fl=n + 1:=⟨fl - 1,by simp at hf; omega⟩
  rw [ref06_Rises_l1,br_f (by rw [ltI_f,hl]; simp)]; rfl
 | x::xs,p,pre,l,fl,hl,hn,hf=>by
  obtain ⟨fl,rfl⟩:∃ n,fl=n + 1:=⟨fl - 1,by simp at hf; omega⟩
  have hlen:l.length=pre.length + (xs.length + 2):=by rw [hl]; simp
  have a1:atL l ((pre.length:Int) + 1)=some x:=by
   have:=at_app (pre++[p]) x xs
   rw [List.length_append,List.append_assoc] at this
   rw [hl]; exact this
  have a0:atL l (wr .i64 ((pre.length:Int) + 1 - 1))=some p:=by
   rw [wr64 (by omega) (by omega),show (pre.length:Int) + 1 - 1=pre.length by omega,hl]; exact at_app pre p (x::xs)
  rw [ref06_Rises_l1,br_t (by rw [ltI_t]; omega),bnd_of a1,bnd_of a0,risesG]
  cases (ltS x.id p.id || eqS x.id p.id) with
  | true=>rfl
  | false =>
   rw [br_f rfl,wr64 (by omega) (by omega)]
   have:=rises_l xs x (pre++[p]) l fl (by rw [hl]; simp) hn (by simp at hf ⊢; omega)
   rw [List.length_append] at this
   exact this
theorem rises_s {l:List Item} (h:l.length≤999990):ref06_Rises_s l=some (risesB l):=by
 unfold ref06_Rises_s
 match l,h with
 | [],_=>rfl
 | x::xs,h=>exact rises_l xs x [] (x::xs) fuelN rfl (by omega) (by unfold fuelN; simp at h; omega)
def mayListB (l:List Item):Bool:=l.all mayI&&risesB l
theorem mayList_l {l:List Item} (hl:l.length≤999990):∀ xs:List Item,(∀ x∈xs,x.Ok)→ref06_MayList_l1 l xs=some (xs.all mayI&&risesB l)
 | [],_=>by rw [ref06_MayList_l1,bnd_of (rises_s hl)]; rfl
 | x::xs,h=>by
  have e:ref01_May_s x=some (mayI x):=by unfold ref01_May_s; rw [chk_t (decide_eq_true (h x (List.mem_cons_self ..)))]
  rw [ref06_MayList_l1,bnd_of e,mayList_l hl xs fun y hy=>h y (List.mem_cons_of_mem _ hy),List.all_cons]
  cases mayI x<;>rfl
theorem mayList_s {l:List Item} (hl:l.length≤999990) (h:∀ x∈l,x.Ok):ref06_MayList_s l=some (mayListB l):=by
 unfold ref06_MayList_s; rw [chk_t (smallL_of (by omega)),mayList_l hl l h]; rfl
def item0':Item:=⟨⟨#[]⟩,0,0,0,⟨#[]⟩,0,0,0,false⟩
def getI (id:ByteArray):List Item→Item × Bool
 | []=>(item0',false)
 | x::xs=>if eqS x.id id then (x,true) else getI id xs
theorem get_l (id:ByteArray):∀ l:List Item,ref06_Get_l1 id l=some (getI id l)
 | []=>by rw [ref06_Get_l1]; rfl
 | x::xs=>by rw [ref06_Get_l1,get_l id xs,getI]; cases eqS x.id id<;>rfl
theorem get_s {l:List Item} {id:ByteArray} (h:l.length≤1000000000):ref06_Get_s l id=some (getI id l):=by
 unfold ref06_Get_s; rw [chk_t (smallL_of h),get_l]
theorem items_l:∀ (xs acc:List Item),acc.length + xs.length≤999990→law00_Items_l1 xs acc=some (acc++xs)
 | [],acc,_=>by rw [law00_Items_l1,List.append_nil]
 | i::xs,acc,h=>by
  rw [List.length_cons] at h
  rw [law00_Items_l1,bnd_of (show law00_Item_s i=some i from rfl),chk_t (roomL_of (by omega)),items_l xs _ (by rw [List.length_append]; simp; omega),List.append_assoc]; rfl
theorem items_s {l:List Item} (h:l.length≤999990):law00_Items_s l=some l:=by
 unfold law00_Items_s; rw [chk_t (smallL_of (by omega)),items_l l [] (by simp; omega)]; rfl
end
end Go.Proofs.YtidkmoohgadjkaaGreat
set_option maxHeartbeats 4000000
namespace Go.Proofs.YtidkmoohgadjkaaGreat
open Go E Pred
abbrev ex4:List Pred:=[bare 2 [],bare 1 []]
abbrev item0:Item:=⟨⟨#[]⟩,0,0,0,⟨#[]⟩,0,0,0,false⟩
end Go.Proofs.YtidkmoohgadjkaaGreat
set_option maxHeartbeats 0
namespace Go.Proofs.YtidkmoohgadjkaaGreat
open Go E
noncomputable section
open Pred
end
end Go.Proofs.YtidkmoohgadjkaaGreat
set_option maxHeartbeats 4000000
namespace Go.Proofs.YtidkmoohgadjkaaGreat
open Go E Pred
section
variable {X:Task→Prop} (hX:Closed X) {Q:A→List Blk→Prop}
include hX
end
end Go.Proofs.YtidkmoohgadjkaaGreat
namespace Go.Proofs.YtidkmoohgadjkaaGreat
open Go E Pred
inductive NF:Pred→Prop
 | leaf {o t n x y}:o≠8→o≠9→o≠10→NF (.mk o t n x y [])
 | some {ks}:(∀ k∈ks,NF k)→(∀ k∈ks,k.op≠9∧k.op≠1)→ks.foldl (addP 2) []=ks→2≤ks.length→NF (bare 9 ks)
 | all {ks}:(∀ k∈ks,NF k)→(∀ k∈ks,k.op≠8∧k.op≠2)→ks.foldl (addP 1) []=ks→2≤ks.length→NF (bare 8 ks)
 | no {k}:NF k→k.op≠1→k.op≠2→k.op≠10→NF (bare 10 [k])
end Go.Proofs.YtidkmoohgadjkaaGreat
namespace Go.Proofs.YtidkmoohgadjkaaGreat
open Go E Pred
noncomputable section
open Classical
theorem lsmall_t {p:Pred} (h:p.Ok) (hs:p.size≤60):law00_Small_s p=some 1:=by unfold law00_Small_s; rw [chk_t (decide_eq_true h),if_pos hs]
theorem lsmall_f {p:Pred} (h:p.Ok) (hs:¬ p.size≤60):law00_Small_s p=some 0:=by unfold law00_Small_s; rw [chk_t (decide_eq_true h),if_neg hs]
theorem lpred_s {p:Pred} (h:p.Ok) (hs:p.size≤1000):law00_Pred_s p=some p:=by unfold law00_Pred_s; rw [chk_t (decide_eq_true hs),chk_t (decide_eq_true h)]
theorem has_s {p:Pred} {x:Item} (h:p.Ok) (hx:x.Ok):eval_Has_s p x=some (hasP p x):=by unfold eval_Has_s; rw [chk_t (decide_eq_true h),chk_t (decide_eq_true hx)]
end
end Go.Proofs.YtidkmoohgadjkaaGreat
namespace Go.Proofs.YtidkmoohgadjkaaGreat
open Go E Pred
noncomputable section
open Classical
theorem may3_s {p:Pred} (h:p.Ok) (hs:p.size≤1000):ref03_May_s p=some (mayP p):=by unfold ref03_May_s; rw [chk_t (decide_eq_true hs),chk_t (decide_eq_true h)]
theorem has3_s {p:Pred} {x:Item} (h:p.Ok) (hx:x.Ok):ref03_Has_s p x=some (hasP p x):=by unfold ref03_Has_s; rw [chk_t (decide_eq_true h),chk_t (decide_eq_true hx)]
structure StOk (x:State):Prop where
 f:x.f.Ok
 fs:x.f.size≤1000
 store:∀ i∈x.store,i.Ok
 out:∀ i∈x.out,i.Ok
 sl:x.store.length≤990
 ol:x.out.length≤990
 k:KB x.k 990
 ids:IdsOk x.k
theorem fresh_know_l {k:Know}:∀ (l acc:List Frag),acc.length + l.length≤999990→(∀ f∈l,f.ids.length≤1000000)→fresh_Know_l1 k l acc=some ⟨k.star,acc++l⟩
 | [],acc,_,_=>by rw [fresh_Know_l1,List.append_nil]
 | f::l,acc,h,hi=>by
  rw [List.length_cons] at h
  have e:clone_s f.ids=some f.ids:=by unfold clone_s; rw [chk_t (decide_eq_true (hi f (List.mem_cons_self ..)))]
  rw [fresh_Know_l1,bnd_of e,chk_t (roomL_of (by omega)),fresh_know_l l _ (by rw [List.length_append]; simp; omega) fun g hg=>hi g (List.mem_cons_of_mem _ hg),List.append_assoc]; rfl
theorem fresh_pred_l {p:Pred} {rc:Pred→Option Pred}:∀ (l acc:List Pred),(∀ q∈l,rc q=some q)→acc.length + l.length≤999990→fresh_Pred_l1 p rc l acc=some (.mk p.op p.text p.n p.re p.im (acc++l))
 | [],acc,_,_=>by rw [fresh_Pred_l1,List.append_nil]
 | q::l,acc,h,hn=>by
  rw [List.length_cons] at hn
  rw [fresh_Pred_l1,bnd_of (h q (List.mem_cons_self ..)),chk_t (roomL_of (by omega)),fresh_pred_l l _ (fun x hx=>h x (List.mem_cons_of_mem _ hx)) (by rw [List.length_append]; simp; omega),List.append_assoc]; rfl
theorem fresh_pred:∀ (n:Nat) {p:Pred},p.size≤n→p.size≤1000→fresh_Pred_s n p=some p
 | 0,p,h,_=>by have:=size_pos p; omega
 | n + 1,p,h,hs=>by
  have e:=size_eq p
  have hl:=len_sizes p.kids
  show fresh_Pred_b (fresh_Pred_s n) p=some p
  unfold fresh_Pred_b
  rw [chk_t (smallL_of (by omega)),fresh_pred_l p.kids [] (fun q hq=>fresh_pred n (by have:=size_mem hq; omega) (by have:=size_mem hq; omega)) (by simp; omega)]
  cases p; rfl
theorem eqL_refl9:∀ l:List ByteArray,eqL l l=true
 | []=>rfl
 | x::l=>by rw [eqL,eqS_refl,eqL_refl9 l]; rfl
theorem eq8_refl (v:V8):eq8 v v=true:=by rw [eq8_iff]; simp
theorem alikeL_refl9:∀ l:List Frag,alikeL l l=true
 | []=>rfl
 | f::l=>by rw [alikeL,alikeL_refl9 l]; unfold alikeF; rw [eq8_refl,eqL_refl9]; rfl
theorem alikeK_refl (k:Know):alikeK k k=true:=by unfold alikeK; rw [eq8_refl,alikeL_refl9]; rfl
theorem eqI_self (n:Int):eqI n n=true:=eqI_t.2 rfl
theorem known_l:∀ (l:List Frag),∃ b,law00_Known_l1 l=some b∧(b=0∨(b=1∧∀ f∈l,f.ids.length≤60))
 | []=>⟨1,by rw [law00_Known_l1],.inr ⟨rfl,fun f hf=>by cases hf⟩⟩
 | f::l=>by
  obtain ⟨b,hb,h⟩:=known_l l
  rw [law00_Known_l1,br_if]
  by_cases hf:ltI 60 (f.ids.length:Int)=true
  ·exact ⟨0,by rw [if_pos hf],.inl rfl⟩
  ·refine ⟨b,by rw [if_neg hf,hb],h.imp id fun ⟨h1,h2⟩=>⟨h1,fun g hg=>?_⟩⟩
   rw [ltI_t] at hf
   rcases List.mem_cons.1 hg with rfl | hg
   ·omega
   ·exact h2 g hg
theorem known_s (k:Know):∃ b,law00_Known_s k=some b∧(b=0∨(b=1∧KB k 60)):=by
 unfold law00_Known_s
 rw [br_if]
 by_cases hf:ltI 30 (k.l.length:Int)=true
 ·exact ⟨0,by rw [if_pos hf],.inl rfl⟩
 ·rw [if_neg hf]
  rw [ltI_t] at hf
  obtain ⟨b,hb,h⟩:=known_l k.l
  exact ⟨b,by rw [chk_t (smallL_of (by omega)),hb],h.imp id fun ⟨h1,h2⟩=>⟨h1,⟨by omega,h2⟩⟩⟩
structure Sit.Ok (s:Sit):Prop where
 f:s.f.Ok
 store:∀ i∈s.store,i.Ok
 out:∀ i∈s.out,i.Ok
 ids:IdsOk s.k
def Sit.st (s:Sit):State:=⟨s.r,s.f,s.store,s.out,s.k,s.count,s.clock,s.epoch⟩
theorem KB.mono {k:Know} {n m:Nat} (h:KB k n) (hm:n≤m):KB k m:=⟨Nat.le_trans h.l hm,fun f hf=>Nat.le_trans (h.ids f hf) hm⟩
theorem fits_sit {s:Sit} (ok:s.Ok):∃ b,law00_Fits_s s=some b∧(b=0∨(b=1∧StOk s.st∧s.f.size≤60∧s.store.length≤60∧s.out.length≤60∧KB s.k 60)):=by
 unfold law00_Fits_s
 rw [br_if,br_if]
 by_cases h1:ltI 60 (s.store.length:Int)=true
 ·exact ⟨0,by rw [if_pos h1],.inl rfl⟩
 ·rw [if_neg h1]
  by_cases h2:ltI 60 (s.out.length:Int)=true
  ·exact ⟨0,by rw [if_pos h2],.inl rfl⟩
  ·rw [if_neg h2]
   rw [ltI_t] at h1 h2
   obtain ⟨b,hb,hk⟩:=known_s s.k
   by_cases h3:s.f.size≤60
   ·rw [bnd_of (lsmall_t ok.f h3),bnd_of hb]
    rcases hk with rfl | ⟨rfl,hk⟩
    ·exact ⟨_,rfl,.inl rfl⟩
    ·exact ⟨_,rfl,.inr ⟨rfl,⟨ok.f,by show s.f.size≤1000; omega,ok.store,ok.out,by show s.store.length≤990; omega,by show s.out.length≤990; omega,hk.mono (by decide),ok.ids⟩,h3,by omega,by omega,hk⟩⟩
   ·rw [bnd_of (lsmall_f ok.f h3),bnd_of hb]
    exact ⟨_,rfl,.inl (by rw [Int.zero_mul]; rfl)⟩
theorem state_s {s:Sit} (ok:s.Ok) (h:StOk s.st):law00_State_s s=some s.st:=by
 have h1:=h.fs
 have h2:=h.sl
 have h3:=h.ol
 unfold law00_State_s
 rw [bnd_of (lpred_s ok.f h1),bnd_of (items_s (l:=s.store) (by show s.st.store.length≤_; omega)),bnd_of (items_s (l:=s.out) (by show s.st.out.length≤_; omega))]; rfl
end
end Go.Proofs.YtidkmoohgadjkaaGreat
namespace Go.Proofs.YtidkmoohgadjkaaGreat
open Go E Pred
noncomputable section
open Classical
theorem names_t:∀ (l:List Frag) (acc:List ByteArray),acc.length + idsN l≤999980→ref06_Names_l1 l acc=some (namesG acc l)
 | [],acc,_=>by rw [ref06_Names_l1]; rfl
 | f::l,acc,hN=>by
  rw [idsN_cons] at hN
  have:=ins_fold_len f.ids acc
  rw [ref06_Names_l1,chk_t (smallL_of (by omega)),names_l2 _ _ (by omega),names_t l _ (by omega)]; rfl
theorem plain_t2 {k:Know} {M:Nat} (hM:M≤1000000000) (hk:KB k M):∀ (names:List ByteArray) (out:List Frag) (n:Nat),out.length≤n→(∀ f∈out,f.ids.length≤n)→n + names.length≤999980→ref06_Plain_l2 k names out=some ⟨k.star,names.foldl (stepP k) out⟩
 | [],out,n,h1,h2,hn=>by rw [ref06_Plain_l2]; rfl
 | id::names,out,n,h1,h2,hn=>by
  rw [List.length_cons] at hn
  obtain ⟨s1,s2⟩:=stepP_len (k:=k) (id:=id) h1 h2
  have ih:=plain_t2 hM hk names (stepP k out id) (n + 1) s1 s2 (by omega)
  rw [ref06_Plain_l2,bnd_of (beyond_s hM hk),List.foldl_cons,←ih]
  cases he:eq8 (beyondV k id) zero8 with
  | true=>rw [br_t (c:=eq8 (beyondV k id) ⟨0,0,0,0,0,0,0,0⟩) he,stepP_t he]
  | false =>
   rw [br_f (c:=eq8 (beyondV k id) ⟨0,0,0,0,0,0,0,0⟩) he,stepP_f he,chk_t (smallL_of (by omega))]
   have:=plain_l4 (id:=id) (v:=beyondV k id) (k:=fun w0=>ref06_Plain_l2 k names w0) out [] (by simp; omega) (fun f hf=>by have:=h2 f (by simpa using hf); omega)
   simpa using this
theorem plain_t1 {k:Know} {M:Nat} (hM:M≤1000000000) (hk:KB k M):∀ (names:List ByteArray),names.length≤999970→ref06_Plain_l1 k names=some ⟨k.star,names.foldl (stepP k) []⟩
 | [],h=>by rw [ref06_Plain_l1]; rfl
 | id::names,h=>by
  rw [List.length_cons] at h
  rw [ref06_Plain_l1,bnd_of (beyond_s hM hk),List.foldl_cons]
  cases he:eq8 (beyondV k id) zero8 with
  | true=>rw [br_t (c:=eq8 (beyondV k id) ⟨0,0,0,0,0,0,0,0⟩) he,stepP_t he]; exact plain_t1 hM hk names (by omega)
  | false=>rw [br_f (c:=eq8 (beyondV k id) ⟨0,0,0,0,0,0,0,0⟩) he,stepP_f he,chk_t (by rfl)]; exact plain_t2 hM hk names [⟨[id],beyondV k id⟩] 1 (by simp) (fun f hf=>by rw [List.mem_singleton.1 hf]; simp) (by omega)
theorem rplain_t {k:Know} {N:Nat} (h:KT k N) (hN:N≤999000):ref06_Plain_s k=some (plainK k):=by
 have hl:=h.l
 have hi:=h.ids
 have hn:=namesK_len h
 unfold ref06_Plain_s
 rw [bnd_of (show ref06_Names_s k=some (namesK k) by unfold ref06_Names_s; rw [chk_t (smallL_of (by omega)),names_t _ _ (by simp; omega)]; rfl),chk_t (smallL_of (by omega)),plain_t1 (by omega) h.kb _ (by omega)]; rfl
theorem rmayK_t {k:Know} {N:Nat} (h:KT k N) (hN:N≤999000) (hi:IdsOk k):ref06_May_s k=some (mayK k):=by
 have hb:=h.kb
 unfold ref06_May_s mayK
 rw [bnd_of (rplain_t h hN),bnd_of (alike_s (by omega) hb),bnd_of (show ref06_MayVec_s k.star=some (mayV k.star) from rfl)]
 cases alikeK k (plainK k) with
 | false=>rfl
 | true =>
  cases mayV k.star with
  | false=>rfl
  | true=>rw [br_f (by rfl),br_f (by rfl),chk_t (smallL_of (by have:=h.l; omega)),may_l1 _ (fun f hf=>by have:=hb.ids f hf; omega) hi]; rfl
theorem rwith_t {k:Know} {id:ByteArray} {v:Ver} {N:Nat} (h:KT k N) (hN:N≤900000):ref06_With_s k id v=some (withK k id v.r v.c):=by
 have hl:=h.l
 unfold ref06_With_s
 rw [chk_t (roomL_of (by omega)),bnd_of (show ref06_WithVec_s ⟨0,0,0,0,0,0,0,0⟩ v=some (withV zero8 v.r v.c) from rfl),chk_t (roomL_of (by omega))]
 rw [bnd_of (show ref06_Plain_s ⟨k.star,k.l++[⟨[id],withV zero8 v.r v.c⟩]⟩=some (plainK (pieceK k id v.r v.c)) from rplain_t (k:=pieceK k id v.r v.c) (kt_piece h id v.r v.c) (by omega))]
 rfl
theorem rjoin_t {a b:Know} {N M:Nat} (ha:KT a N) (hb:KT b M) (hn:N + M≤900000):ref06_Join_s a b=some (joinK a b):=by
 have h1:=ha.l
 have h2:=hb.l
 have h3:=kt_join ha hb
 unfold ref06_Join_s
 rw [bnd_of (show ref06_Max_s a.star b.star=some (maxV a.star b.star) from rfl),chk_t (roomL_of (by omega)),chk_t (roomL_of (by omega)),
  bnd_of (rplain_t (k:=⟨maxV a.star b.star,a.l++b.l⟩) h3 (by omega))]
 rfl
theorem kt_with {k:Know} {N:Nat} (h:KT k N) (id:ByteArray) (r c:Int):KT (withK k id r c) (N + 1):=(kt_piece h id r c).plain
theorem ids_with {k:Know} {id:ByteArray} {r c:Int} (h:IdsOk k) (hid:id.size≤9223372036854775807):IdsOk (withK k id r c):=ids_plain (ids_piece h hid)
theorem kt_joinK {a b:Know} {N M:Nat} (ha:KT a N) (hb:KT b M):KT (joinK a b) (N + M):=(kt_join ha hb).plain
theorem ids_joinK {a b:Know} (ha:IdsOk a) (hb:IdsOk b):IdsOk (joinK a b):=ids_plain (ids_join ha hb)
theorem fresh_know_t {k:Know} {N:Nat} (h:KT k N) (hN:N≤900000):fresh_Know_s k=some k:=by
 have:=h.l
 unfold fresh_Know_s
 rw [chk_t (smallL_of (by omega)),fresh_know_l k.l [] (by simp; omega) fun f hf=>by have:=h.kb.ids f hf; omega]; rfl
theorem eqL_t:∀ {a b:List ByteArray},eqL a b=true→a=b
 | [],[],_=>rfl
 | x::xs,y::ys,h=>by
  rw [eqL,Bool.and_eq_true] at h
  rw [eqS_t.1 h.1,eqL_t h.2]
 | [],_::_,h=>by cases h
 | _::_,[],h=>by cases h
theorem alikeL_t:∀ {a b:List Frag},alikeL a b=true→a=b
 | [],[],_=>rfl
 | x::xs,y::ys,h=>by
  rw [alikeL,Bool.and_eq_true] at h
  unfold alikeF at h
  rw [Bool.and_eq_true] at h
  obtain ⟨⟨h1,h2⟩,h3⟩:=h
  have e1:=eq8_t.1 h1
  have e2:=eqL_t h2
  cases x; cases y
  simp only at e1 e2
  rw [e1,e2,alikeL_t h3]
 | [],_::_,h=>by cases h
 | _::_,[],h=>by cases h
theorem alikeK_t {a b:Know} (h:alikeK a b=true):a=b:=by
 unfold alikeK at h
 rw [Bool.and_eq_true] at h
 have e1:=eq8_t.1 h.1
 have e2:=alikeL_t h.2
 cases a; cases b
 simp only at e1 e2
 rw [e1,e2]
theorem mayK_plain {k:Know} (h:mayK k=true):plainK k=k:=by
 unfold mayK at h
 rw [Bool.and_eq_true] at h
 exact (alikeK_t h.1).symm
theorem mayK_iff {k:Know}:mayK k=true↔plainK k=k∧mayV k.star=true∧∀ f∈k.l,mayF f=true:=by
 constructor
 ·intro h
  refine ⟨mayK_plain h,?_⟩
  unfold mayK at h
  rw [Bool.and_eq_true,Bool.and_eq_true] at h
  exact ⟨h.2.1,List.all_eq_true.1 h.2.2⟩
 ·rintro ⟨h1,h2,h3⟩
  unfold mayK
  rw [h1,alike_self,h2]
  exact List.all_eq_true.2 h3
end
end Go.Proofs.YtidkmoohgadjkaaGreat
set_option maxHeartbeats 4000000
namespace Go.Proofs.YtidkmoohgadjkaaGreat
open Go E
abbrev z0 (n:Int):Item:=⟨⟨#[]⟩,0,0,n,⟨#[]⟩,0,0,0,false⟩
theorem beq_selfB (b:Bool):boolEq b b=true:=by rw [boolEq_eq]; simp
end Go.Proofs.YtidkmoohgadjkaaGreat
namespace Go.Proofs.YtidkmoohgadjkaaGreat
open Go E Pred
noncomputable section
open Classical
def lk (l:List Item) (id:ByteArray):Option Item:=l.find? fun x=>eqS x.id id
theorem lk_cons (x:Item) (l:List Item) (id:ByteArray):lk (x::l) id=if eqS x.id id=true then some x else lk l id:=by
 unfold lk; rw [List.find?_cons]; cases eqS x.id id<;>simp
theorem lk_some {l:List Item} {id:ByteArray} {x:Item} (h:lk l id=some x):x∈l∧x.id=id:=⟨List.mem_of_find?_eq_some h,eqS_t.1 (List.find?_some (p:=fun y:Item=>eqS y.id id) h)⟩
theorem lk_none {l:List Item} {id:ByteArray}:lk l id=none↔∀ x∈l,eqS x.id id=false:=by
 unfold lk; rw [List.find?_eq_none]
 exact ⟨fun h x hx=>by simpa using h x hx,fun h x hx=>by simpa using h x hx⟩
theorem lk_app (l m:List Item) (id:ByteArray):lk (l++m) id=(lk l id).or (lk m id):=List.find?_append
theorem ris_cons {x:Item} {l:List Item}:Ris (x::l)↔(∀ y∈l,ltS x.id y.id=true)∧Ris l:=List.pairwise_cons
theorem lk_lt {l:List Item} {id:ByteArray} (h:∀ x∈l,ltS x.id id=true):lk l id=none:=lk_none.2 fun x hx=>ltS_ne (h x hx)
theorem lk_gt {l:List Item} {id:ByteArray} (h:∀ x∈l,ltS id x.id=true):lk l id=none:=lk_none.2 fun x hx=>by rw [eqS_comm']; exact ltS_ne (h x hx)
theorem lk_mem:∀ {l:List Item} {x:Item},Ris l→x∈l→lk l x.id=some x
 | y::l,x,h,hx=>by
  rw [ris_cons] at h
  rw [lk_cons]
  rcases List.mem_cons.1 hx with rfl | hx
  ·rw [if_pos (eqS_self _)]
  ·rw [if_neg (by rw [ltS_ne (h.1 x hx)]; simp)]; exact lk_mem h.2 hx
theorem ris_ext:∀ {l m:List Item},Ris l→Ris m→(∀ id,lk l id=lk m id)→l=m
 | [],[],_,_,_=>rfl
 | [],y::m,_,_,h=>by have:=h y.id; rw [lk_cons,if_pos (eqS_self _)] at this; cases this
 | x::l,[],_,_,h=>by have:=h x.id; rw [lk_cons,if_pos (eqS_self _)] at this; cases this
 | x::l,y::m,hl,hm,h=>by
  have hx:x∈y::m:=(lk_some ((h x.id).symm.trans (lk_mem hl (List.mem_cons_self ..)))).1
  have hy:y∈x::l:=(lk_some ((h y.id).trans (lk_mem hm (List.mem_cons_self ..)))).1
  rw [ris_cons] at hl hm
  have e:x=y:=by
   rcases List.mem_cons.1 hx with e | hx
   ·exact e
   ·rcases List.mem_cons.1 hy with e | hy
    ·exact e.symm
    ·have:=ltS_asym (hl.1 y hy); rw [hm.1 x hx] at this; cases this
  subst e
  rw [ris_ext hl.2 hm.2 fun id=>?_]
  have:=h id
  rw [lk_cons,lk_cons] at this
  by_cases hi:eqS x.id id=true
  ·have hi':=eqS_t.1 hi
   subst hi'
   rw [lk_gt hl.1,lk_gt hm.1]
  ·rw [if_neg hi,if_neg hi] at this; exact this
theorem getI_lk (id:ByteArray):∀ l:List Item,getI id l=match lk l id with
  | some x=>(x,true)
  | none=>(item0',false)
 | []=>rfl
 | x::l=>by
  rw [getI,lk_cons]
  split
  ·rfl
  ·exact getI_lk id l
theorem getI_t {l:List Item} {id:ByteArray} {x:Item} (h:lk l id=some x):getI id l=(x,true):=by rw [getI_lk,h]
theorem getI_f {l:List Item} {id:ByteArray} (h:lk l id=none):getI id l=(item0',false):=by rw [getI_lk,h]
theorem risesG_iff:∀ (l:List Item) (p:Item),risesG p l=true↔Ris (p::l)
 | [],p=>⟨fun _=>ris_cons.2 ⟨fun y hy=>(by cases hy),List.Pairwise.nil⟩,fun _=>rfl⟩
 | x::l,p=>by
  rw [risesG,Bool.and_eq_true,risesG_iff l x,ris_cons (x:=p),ris_cons (x:=x)]
  constructor
  ·rintro ⟨h1,h2,h3⟩
   have hp:ltS p.id x.id=true:=by
    cases h:ltS p.id x.id with
    | true=>rfl
    | false =>
     cases h':ltS x.id p.id with
     | true=>rw [h'] at h1; cases h1
     | false=>rw [h',ltS_tri h' h,eqS_self] at h1; cases h1
   exact ⟨fun y hy=>by
    rcases List.mem_cons.1 hy with rfl | hy
    ·exact hp
    ·exact ltS_tr hp (h2 y hy),h2,h3⟩
  ·rintro ⟨h1,h2,h3⟩
   have hp:=h1 x (List.mem_cons_self ..)
   refine ⟨?_,h2,h3⟩
   rw [ltS_asym hp,eqS_comm',ltS_ne hp]; rfl
theorem ris_iff {l:List Item}:risesB l=true↔Ris l:=by
 cases l with
 | nil=>exact ⟨fun _=>.nil,fun _=>rfl⟩
 | cons x l=>exact risesG_iff l x
theorem mid_of {i j:Nat} (h:i + j≤4000000):wr .i64 (shrI .u64 (wr .u64 (wr .i64 ((i:Int) + (j:Int)))) 1)=(((i + j) / 2:Nat):Int):=by
 have h1:wr .i64 ((i:Int) + (j:Int))=((i + j:Nat):Int):=by rw [wr64 (by omega) (by omega)]; omega
 have h2:wr .u64 ((i + j:Nat):Int)=((i + j:Nat):Int):=by
  unfold wr IntKind.wrap
  simp only [IntKind.signed,IntKind.bits]
  simp
  omega
 have h3:shrI .u64 ((i + j:Nat):Int) 1=(((i + j) / 2:Nat):Int):=by
  unfold shrI
  rw [Int.fdiv_eq_ediv_of_nonneg _ (by decide)]
  simp [IntKind.bits]
 rw [h1,h2,h3,wr64 (by omega) (by omega)]
theorem br_same {α:Type} (c:Bool) (x:Option α):br c x x=x:=by cases c<;>rfl
theorem ris_get {l:List Item} (hr:Ris l) {i j:Nat} {x y:Item} (hx:l[i]?=some x) (hy:l[j]?=some y) (h:i < j):ltS x.id y.id=true:=by
 obtain ⟨hi,rfl⟩:=List.getElem?_eq_some_iff.1 hx
 obtain ⟨hj,rfl⟩:=List.getElem?_eq_some_iff.1 hy
 exact List.pairwise_iff_getElem.1 hr i j hi hj h
theorem find_l {l:List Item} {id:ByteArray} (hr:Ris l) (hn:l.length≤999990):∀ (fl i j:Nat),i≤j→j≤l.length→j - i < fl→(∀ k x,l[k]?=some x→k < i→ltS x.id id=true)→(∀ k x,l[k]?=some x→j≤k→ltS x.id id=false) →
  ∃ p,p≤l.length∧list_find_l1 l id fl (j:Int) (i:Int)=some ((p:Int),match l[p]? with | some x=>eqS x.id id | none=>false)∧(∀ k x,l[k]?=some x→k < p→ltS x.id id=true)∧(∀ k x,l[k]?=some x→p≤k→ltS x.id id=false)
 | 0,i,j,_,_,h,_,_=>by omega
 | fl + 1,i,j,hij,hj,hf,h1,h2=>by
  rw [list_find_l1]
  by_cases hlt:i < j
  ·have hm:(i + j) / 2 < l.length:=by omega
   rw [br_t (by rw [ltI_t]; omega),mid_of (by omega),bnd_of (atL_of hm),br_f (by rw [eqS_self]; rfl),br_f (by rw [eqS_self]; rfl)]
   have hx:l[(i + j) / 2]?=some l[(i + j) / 2]:=List.getElem?_eq_getElem hm
   cases hc:ltS l[(i + j) / 2].id id with
   | true =>
    rw [br_t rfl,wrS (by omega)]
    refine find_l hr hn fl ((i + j) / 2 + 1) j (by omega) hj (by omega) (fun k x hk hki=>?_) h2
    by_cases hkm:k=(i + j) / 2
    ·subst hkm; rw [hx] at hk; injection hk with hk; rw [←hk]; exact hc
    ·exact ltS_tr (ris_get hr hk hx (by omega)) hc
   | false =>
    rw [br_f rfl,br_same]
    refine find_l hr hn fl i ((i + j) / 2) (by omega) (by omega) (by omega) h1 (fun k x hk hki=>?_)
    by_cases hkm:k=(i + j) / 2
    ·subst hkm; rw [hx] at hk; injection hk with hk; rw [←hk]; exact hc
    ·cases h:ltS x.id id with
     | false=>rfl
     | true=>have:=ltS_tr (ris_get hr hx hk (by omega)) h; rw [hc] at this; cases this
  ·obtain rfl:i=j:=by omega
   refine ⟨i,hj,?_,h1,h2⟩
   rw [br_f (by rw [ltI_f]; omega)]
   by_cases hil:i < l.length
   ·have hx:l[i]?=some l[i]:=List.getElem?_eq_getElem hil
    rw [br_t (by rw [ltI_t]; omega),bnd_of (atL_of hil),br_f (by rw [eqS_self]; rfl),br_f (by rw [eqS_self]; rfl),br_f (h2 i _ hx (Nat.le_refl _)),h2 i _ hx (Nat.le_refl _),hx]
    dsimp only
    cases eqS l[i].id id<;>rfl
   ·rw [br_f (by rw [ltI_f]; omega),List.getElem?_eq_none (by omega)]
theorem find_s {l:List Item} {id:ByteArray} (hr:Ris l) (hn:l.length≤999990):∃ A B:List Item,l=A++B∧(∀ x∈A,ltS x.id id=true)∧(∀ x∈B,ltS x.id id=false)∧list_find_s l id=some ((A.length:Int),(lk l id).isSome):=by
 obtain ⟨p,hp,e,h1,h2⟩:=find_l hr hn fuelN 0 l.length (Nat.zero_le _) (Nat.le_refl _) (by unfold fuelN; omega) (fun k x _ h=>by omega) (fun k x hk h=>by rw [List.getElem?_eq_none h] at hk; cases hk) (id:=id)
 have hA:∀ x∈l.take p,ltS x.id id=true:=fun x hx=>by
  obtain ⟨k,hk⟩:=List.getElem?_of_mem hx
  rw [List.getElem?_take] at hk
  split at hk
  ·exact h1 k x hk (by omega)
  ·cases hk
 have hB:∀ x∈l.drop p,ltS x.id id=false:=fun x hx=>by
  obtain ⟨k,hk⟩:=List.getElem?_of_mem hx
  rw [List.getElem?_drop] at hk
  exact h2 _ x hk (by omega)
 refine ⟨l.take p,l.drop p,(List.take_append_drop p l).symm,hA,hB,?_⟩
 unfold list_find_s
 rw [show ((0:Nat):Int)=0 from rfl] at e
 rw [e,List.length_take,Nat.min_eq_left hp]
 congr 2
 have hl:lk l id=lk (l.drop p) id:=by
  conv=>lhs; rw [←List.take_append_drop p l,lk_app,lk_lt hA]
  rfl
 rw [hl]
 cases hd:l.drop p with
 | nil =>
  have:l[p]?=none:=by have:=List.getElem?_drop (xs:=l) (i:=p) (j:=0); rw [hd] at this; simpa using this.symm
  rw [this]; rfl
 | cons x B =>
  have hx:l[p]?=some x:=by have:=List.getElem?_drop (xs:=l) (i:=p) (j:=0); rw [hd] at this; simpa using this.symm
  have hr':Ris (x::B):=by rw [←hd]; exact hr.sublist (List.drop_sublist _ _)
  rw [hx,lk_cons]
  dsimp only
  cases hc:eqS x.id id with
  | true=>simp
  | false =>
   have hgt:∀ y∈B,ltS id y.id=true:=fun y hy=>by
    have h3:=(ris_cons.1 hr').1 y hy
    have h4:=hB x (by rw [hd]; exact List.mem_cons_self ..)
    exact le_ltS_tr h4 h3
   rw [if_neg (by simp),lk_gt hgt]; rfl
theorem find_head {l A B:List Item} {id:ByteArray} (hr:Ris l) (e:l=A++B) (hA:∀ x∈A,ltS x.id id=true) (hB:∀ x∈B,ltS x.id id=false) :
  (lk l id=none∧∀ x∈B,ltS id x.id=true)∨∃ x B',B=x::B'∧x.id=id∧lk l id=some x∧∀ y∈B',ltS id y.id=true:=by
 have hl:lk l id=lk B id:=by rw [e,lk_app,lk_lt hA]; rfl
 cases B with
 | nil=>exact .inl ⟨by rw [hl]; rfl,fun x hx=>by cases hx⟩
 | cons x B =>
  have hr':Ris (x::B):=by rw [e] at hr; exact hr.sublist (List.sublist_append_right _ _)
  have hx:=hB x (List.mem_cons_self ..)
  have hgt:∀ y∈B,ltS id y.id=true:=fun y hy=>le_ltS_tr hx ((ris_cons.1 hr').1 y hy)
  cases hc:ltS id x.id with
  | true =>
   refine .inl ⟨?_,fun y hy=>?_⟩
   ·rw [hl,lk_gt]
    intro y hy
    rcases List.mem_cons.1 hy with rfl | hy
    ·exact hc
    ·exact hgt y hy
   ·rcases List.mem_cons.1 hy with rfl | hy
    ·exact hc
    ·exact hgt y hy
  | false =>
   have e':=ltS_tri hx hc
   exact .inr ⟨x,B,rfl,e',by rw [hl,lk_cons,if_pos (eqS_t.2 e')],hgt⟩
theorem lget_s {l:List Item} {id:ByteArray} (hr:Ris l) (hn:l.length≤999990):list_Get_s l id=some (getI id l):=by
 obtain ⟨A,B,e,hA,hB,hf⟩:=find_s (id:=id) hr hn
 unfold list_Get_s
 rw [bnd_of hf]
 rcases find_head hr e hA hB with ⟨hl,_⟩ | ⟨x,B',rfl,hx,hl,_⟩
 ·rw [br_f (by rw [hl]; rfl),getI_f hl]; rfl
 ·rw [br_t (by rw [hl]; rfl),bnd_of (show atL l (A.length:Int)=some x by rw [e]; exact at_app A x B'),getI_t hl]
def putV (l:List Item) (x:Item):List Item:=(l.filter fun y=>ltS y.id x.id)++x::l.filter fun y=>ltS x.id y.id
def dropV (l:List Item) (id:ByteArray):List Item:=l.filter fun y=>!eqS y.id id
theorem lk_filter_t {l:List Item} {p:Item→Bool} {id:ByteArray} (h:∀ x,x.id=id→p x=true):lk (l.filter p) id=lk l id:=by
 induction l with
 | nil=>rfl
 | cons x l ih =>
  rw [List.filter_cons]
  by_cases hx:eqS x.id id=true
  ·rw [if_pos (h x (eqS_t.1 hx)),lk_cons,lk_cons,if_pos hx,if_pos hx]
  ·split
   ·rw [lk_cons,lk_cons,if_neg hx,if_neg hx,ih]
   ·rw [lk_cons,if_neg hx,ih]
theorem lk_filter_f {l:List Item} {p:Item→Bool} {id:ByteArray} (h:∀ x,x.id=id→p x=false):lk (l.filter p) id=none :=
 lk_none.2 fun x hx=>eqS_f.2 fun e=>by have:=(List.mem_filter.1 hx).2; rw [h x e] at this; cases this
theorem lk_put (l:List Item) (x:Item) (id:ByteArray):lk (putV l x) id=if eqS x.id id=true then some x else lk l id:=by
 unfold putV
 rw [lk_app,lk_cons]
 by_cases hx:eqS x.id id=true
 ·rw [if_pos hx,if_pos hx,lk_filter_f fun y hy=>by rw [hy,←eqS_t.1 hx]; exact ltS_self _]; rfl
 ·rw [if_neg hx,if_neg hx]
  cases h1:ltS id x.id with
  | true=>rw [lk_filter_t fun y hy=>by rw [hy]; exact h1,lk_filter_f fun y hy=>by rw [hy]; exact ltS_asym h1]; cases lk l id<;>rfl
  | false =>
   rw [lk_filter_f fun y hy=>by rw [hy]; exact h1]
   cases h2:ltS x.id id with
   | true=>rw [lk_filter_t fun y hy=>by rw [hy]; exact h2]; rfl
   | false=>exact absurd (eqS_t.2 (ltS_tri h2 h1)) hx
theorem lk_drop (l:List Item) (d id:ByteArray):lk (dropV l d) id=if eqS d id=true then none else lk l id:=by
 unfold dropV
 by_cases hx:eqS d id=true
 ·rw [if_pos hx,lk_filter_f fun y hy=>by rw [hy,eqS_comm',hx]; rfl]
 ·rw [if_neg hx,lk_filter_t fun y hy=>by rw [hy,eqS_comm']; simp at hx; rw [hx]; rfl]
theorem ris_put {l:List Item} (hr:Ris l) (x:Item):Ris (putV l x):=by
 unfold putV Ris
 rw [List.pairwise_append,List.pairwise_cons]
 refine ⟨hr.filter _,⟨fun y hy=>(List.mem_filter.1 hy).2,hr.filter _⟩,fun a ha b hb=>?_⟩
 have h1:=(List.mem_filter.1 ha).2
 rcases List.mem_cons.1 hb with rfl | hb
 ·exact h1
 ·exact ltS_tr h1 (List.mem_filter.1 hb).2
theorem ris_drop {l:List Item} (hr:Ris l) (id:ByteArray):Ris (dropV l id):=hr.filter _
theorem rput_l2 {x:Item}:∀ (l acc:List Item),acc.length + l.length≤999990→ref06_Put_l2 x l acc=some (acc++l.filter fun y=>ltS x.id y.id)
 | [],acc,_=>by rw [ref06_Put_l2]; simp
 | y::l,acc,h=>by
  rw [List.length_cons] at h
  have e:(!(ltS y.id x.id || eqS y.id x.id))=ltS x.id y.id:=by
   cases h1:ltS x.id y.id with
   | true=>rw [ltS_asym h1,eqS_comm',ltS_ne h1]; rfl
   | false =>
    cases h2:ltS y.id x.id with
    | true=>rfl
    | false=>rw [ltS_tri h2 h1,eqS_self]; rfl
  rw [ref06_Put_l2,e,List.filter_cons]
  cases ltS x.id y.id with
  | true=>rw [br_t rfl,chk_t (roomL_of (by omega)),rput_l2 l _ (by rw [List.length_append]; simp; omega)]; simp
  | false=>rw [br_f rfl,rput_l2 l _ (by omega)]; simp
theorem rput_l1 {L:List Item} {x:Item} (hL:L.length≤400000):∀ (l acc:List Item),acc.length + l.length≤400000→ref06_Put_l1 L x l acc=some (acc++(l.filter fun y=>ltS y.id x.id)++x::L.filter fun y=>ltS x.id y.id)
 | [],acc,h=>by
  rw [List.length_nil] at h
  rw [ref06_Put_l1,chk_t (roomL_of (by omega)),chk_t (smallL_of (by omega)),rput_l2 L _ (by rw [List.length_append]; simp; omega)]; simp
 | y::l,acc,h=>by
  rw [List.length_cons] at h
  rw [ref06_Put_l1,List.filter_cons]
  cases ltS y.id x.id with
  | true=>rw [br_t rfl,chk_t (roomL_of (by omega)),rput_l1 hL l _ (by rw [List.length_append]; simp; omega)]; simp
  | false=>rw [br_f rfl,rput_l1 hL l _ (by omega)]; simp
theorem rput_s {l:List Item} {x:Item} (h:l.length≤400000):ref06_Put_s l x=some (putV l x):=by
 unfold ref06_Put_s; rw [chk_t (smallL_of (by omega)),rput_l1 h l [] (by simpa using h)]; rfl
theorem rdrop_l {id:ByteArray}:∀ (l acc:List Item),acc.length + l.length≤999990→ref06_Drop_l1 id l acc=some (acc++dropV l id)
 | [],acc,_=>by rw [ref06_Drop_l1]; simp [dropV]
 | y::l,acc,h=>by
  rw [List.length_cons] at h
  rw [ref06_Drop_l1]
  unfold dropV
  rw [List.filter_cons]
  cases eqS y.id id with
  | false=>rw [br_t (by rfl),chk_t (roomL_of (by omega)),rdrop_l l _ (by rw [List.length_append]; simp; omega)]; simp [dropV]
  | true=>rw [br_f (by rfl),rdrop_l l _ (by omega)]; simp [dropV]
theorem rdrop_s {l:List Item} {id:ByteArray} (h:l.length≤999990):ref06_Drop_s l id=some (dropV l id):=by
 unfold ref06_Drop_s; rw [chk_t (smallL_of (by omega)),rdrop_l l [] (by simpa using h)]; rfl
theorem lput_s {l:List Item} {x:Item} (hr:Ris l) (hn:l.length≤999990):list_Put_s l x=some (putV l x):=by
 obtain ⟨A,B,e,hA,hB,hf⟩:=find_s (id:=x.id) hr hn
 have hrA:Ris A:=by rw [e] at hr; exact hr.sublist (List.sublist_append_left _ _)
 have hrB:Ris B:=by rw [e] at hr; exact hr.sublist (List.sublist_append_right _ _)
 unfold list_Put_s
 rw [bnd_of hf,bnd_of (show clone_s l=some l by unfold clone_s; rw [chk_t (decide_eq_true (by omega))])]
 have key:∀ {B':List Item},(∀ y∈B',ltS x.id y.id=true)→Ris B'→(∀ id,eqS x.id id=false→lk B' id=lk B id)→A++x::B'=putV l x:=fun {B'} h1 h2 h3=>by
  refine ris_ext ?_ (ris_put hr x) fun id=>?_
  ·unfold Ris
   rw [List.pairwise_append,List.pairwise_cons]
   refine ⟨hrA,⟨h1,h2⟩,fun a ha b hb=>?_⟩
   rcases List.mem_cons.1 hb with rfl | hb
   ·exact hA a ha
   ·exact ltS_tr (hA a ha) (h1 b hb)
  ·rw [lk_put,lk_app,lk_cons]
   by_cases hx:eqS x.id id=true
   ·rw [if_pos hx,if_pos hx,←eqS_t.1 hx,lk_lt hA]; rfl
   ·rw [if_neg hx,if_neg hx,h3 id (by simpa using hx),e,lk_app]
 rcases find_head hr e hA hB with ⟨hl,hgt⟩ | ⟨y,B',rfl,hy,hl,hgt⟩
 ·rw [br_f (by rw [hl]; rfl)]
  have hi:ins_s l (A.length:Int) x=some (A++x::B):=by
   unfold ins_s
   rw [chk_t (decide_eq_true ⟨by omega,by rw [e]; simp; omega,by omega⟩),Int.toNat_natCast,e,List.take_left,List.drop_left]
  rw [bnd_of hi,key hgt hrB fun _ _=>rfl]
 ·rw [br_t (by rw [hl]; rfl),bnd_of (show atL l (A.length:Int)=some y by rw [e]; exact at_app A y B'),Int.toNat_natCast]
  have:l.set A.length x=A++x::B':=by rw [e]; exact set_app A y x B'
  rw [this,key hgt (ris_cons.1 hrB).2 fun id hid=>by rw [lk_cons,if_neg (by rw [hy,hid]; simp)]]
theorem ldrop_s {l:List Item} {id:ByteArray} (hr:Ris l) (hn:l.length≤999990):list_Drop_s l id=some (dropV l id):=by
 obtain ⟨A,B,e,hA,hB,hf⟩:=find_s (id:=id) hr hn
 have hrA:Ris A:=by rw [e] at hr; exact hr.sublist (List.sublist_append_left _ _)
 unfold list_Drop_s
 rw [bnd_of (show clone_s l=some l by unfold clone_s; rw [chk_t (decide_eq_true (by omega))]),bnd_of hf]
 rcases find_head hr e hA hB with ⟨hl,hgt⟩ | ⟨y,B',rfl,hy,hl,hgt⟩
 ·rw [br_f (by rw [hl]; rfl)]
  congr 1
  unfold dropV
  rw [List.filter_eq_self.2]
  intro y hy
  rw [lk_none.1 hl y hy]; rfl
 ·rw [br_t (by rw [hl]; rfl)]
  have hi:del_s l (A.length:Int)=some (A++B'):=by
   unfold del_s
   rw [chk_t (decide_eq_true ⟨by omega,by rw [e]; simp; omega,by omega⟩),Int.toNat_natCast,e,List.take_left]
   congr 2
   rw [←List.drop_drop,List.drop_left]; rfl
  rw [bnd_of hi]
  congr 1
  refine ris_ext ?_ (ris_drop hr id) fun id'=>?_
  ·rw [e] at hr
   exact hr.sublist (List.Sublist.append_left (List.sublist_cons_self _ _) _)
  ·rw [lk_drop,lk_app]
   by_cases hx:eqS id id'=true
   ·rw [if_pos hx,←eqS_t.1 hx,lk_lt hA,lk_gt hgt]; rfl
   ·rw [if_neg hx,e,lk_app,lk_cons,if_neg (by rw [hy]; exact hx)]
end
end Go.Proofs.YtidkmoohgadjkaaGreat
namespace Go.Proofs.YtidkmoohgadjkaaGreat
open Go E Pred
noncomputable section
open Classical
def newer:Option Item→Option Item→Option Item
 | none,p=>p
 | some x,none=>some x
 | some x,some y=>if behindB y x=true then some y else some x
theorem newer_none (o:Option Item):newer o none=o:=by cases o<;>rfl
def mergeF:Nat→List Item→List Item→List Item
 | 0,_,_=>[]
 | _ + 1,[],b=>b
 | _ + 1,x::a,[]=>x::a
 | n + 1,x::a,y::b=>if ltS x.id y.id=true then x::mergeF n a (y::b) else if ltS y.id x.id=true then y::mergeF n (x::a) b else if behindB y x=true then mergeF n a (y::b) else mergeF n (x::a) b
def bothV (a b:List Item):List Item:=mergeF (a.length + b.length + 1) a b
theorem cmp_pos (a b:Item):ltI 0 (compareV a b)=behindB a b:=by
 unfold compareV
 cases behindB a b with
 | true=>rfl
 | false =>
  cases behindB b a<;>rfl
theorem both_l:∀ (n fl:Nat) (a out b:List Item),a.length + b.length < n→n≤fl→out.length + a.length + b.length≤999990→list_Both_l1 fl a out b=some (out++mergeF n a b)
 | 0,_,_,_,_,h,_,_=>by omega
 | n + 1,0,_,_,_,_,h,_=>by omega
 | n + 1,fl + 1,[],out,b,h,hf,hl=>by
  rw [list_Both_l1,br_f (by rfl),chk_t (roomL_of (by simpa using by simp at hl; omega)),chk_t (roomL_of (by simp at hl ⊢; omega)),mergeF]; simp
 | n + 1,fl + 1,x::a,out,[],h,hf,hl=>by
  rw [list_Both_l1,br_t (by rw [ltI_t,List.length_cons]; omega),br_f (by rfl),chk_t (roomL_of (by simp at hl ⊢; omega)),chk_t (roomL_of (by simp at hl ⊢; omega)),mergeF]; simp
 | n + 1,fl + 1,x::a,out,y::b,h,hf,hl=>by
  have l1:leI 1 ((x::a).length:Int)=true:=by rw [leI_t,List.length_cons]; omega
  have l2:leI 1 ((y::b).length:Int)=true:=by rw [leI_t,List.length_cons]; omega
  have i1:=fun o=>both_l n fl a o (y::b) (by simp at h ⊢; omega) (by omega)
  have i2:=fun o=>both_l n fl (x::a) o b (by simp at h ⊢; omega) (by omega)
  rw [list_Both_l1,br_t (by rw [ltI_t,List.length_cons]; omega),br_t (by rw [ltI_t,List.length_cons]; omega),bnd_of (show atL (x::a) 0=some x from rfl),bnd_of (show atL (y::b) 0=some y from rfl),mergeF]
  cases h1:ltS x.id y.id with
  | true =>
   rw [br_t rfl,chk_t (roomL_of (by simp at hl; omega)),chk_t l1,if_pos rfl]
   rw [show (x::a).drop 1=a from rfl,i1 _ (by simp at hl ⊢; omega)]; simp
  | false =>
   rw [br_f rfl,if_neg (by simp)]
   cases h2:ltS y.id x.id with
   | true =>
    have:(!(false || eqS x.id y.id))=true:=by rw [eqS_comm',ltS_ne h2]; rfl
    rw [br_t this,chk_t (roomL_of (by simp at hl; omega)),chk_t l2,if_pos rfl]
    rw [show (y::b).drop 1=b from rfl,i2 _ (by simp at hl ⊢; omega)]; simp
   | false =>
    have:(!(false || eqS x.id y.id))=false:=by rw [eqS_t.2 (ltS_tri h1 h2)]; rfl
    rw [br_f this,if_neg (by simp),bnd_of (show item_Compare_s y x=some (compareV y x) from rfl),cmp_pos]
    cases behindB y x with
    | true=>rw [br_t rfl,chk_t l1,if_pos rfl]; exact i1 _ (by simp at hl ⊢; omega)
    | false=>rw [br_f rfl,chk_t l2,if_neg (by simp)]; exact i2 _ (by simp at hl ⊢; omega)
theorem lboth_s {a b:List Item} (h:a.length + b.length≤999980):list_Both_s a b=some (bothV a b):=by
 unfold list_Both_s bothV
 rw [both_l (a.length + b.length + 1) fuelN a [] b (by omega) (by unfold fuelN; omega) (by simp; omega)]; rfl
theorem mem_merge:∀ (n:Nat) (a b:List Item) (z:Item),z∈mergeF n a b→z∈a∨z∈b
 | 0,_,_,_,h=>by rw [mergeF] at h; cases h
 | n + 1,[],b,z,h=>by rw [mergeF] at h; exact .inr h
 | n + 1,x::a,[],z,h=>by rw [mergeF] at h; exact .inl h
 | n + 1,x::a,y::b,z,h=>by
  rw [mergeF] at h
  split at h
  ·rcases List.mem_cons.1 h with rfl | h
   ·exact .inl (List.mem_cons_self ..)
   ·exact (mem_merge n a (y::b) z h).imp (List.mem_cons_of_mem _) id
  ·split at h
   ·rcases List.mem_cons.1 h with rfl | h
    ·exact .inr (List.mem_cons_self ..)
    ·exact (mem_merge n (x::a) b z h).imp id (List.mem_cons_of_mem _)
   ·split at h
    ·exact (mem_merge n a (y::b) z h).imp (List.mem_cons_of_mem _) id
    ·exact (mem_merge n (x::a) b z h).imp id (List.mem_cons_of_mem _)
theorem ris_merge:∀ (n:Nat) {a b:List Item},Ris a→Ris b→Ris (mergeF n a b)
 | 0,_,_,_,_=>by rw [mergeF]; exact .nil
 | n + 1,[],b,_,hb=>by rw [mergeF]; exact hb
 | n + 1,x::a,[],ha,_=>by rw [mergeF]; exact ha
 | n + 1,x::a,y::b,ha,hb=>by
  have ha':=ris_cons.1 ha
  have hb':=ris_cons.1 hb
  rw [mergeF]
  split
  ·rename_i h1
   refine ris_cons.2 ⟨fun z hz=>?_,ris_merge n ha'.2 hb⟩
   rcases mem_merge n _ _ z hz with hz | hz
   ·exact ha'.1 z hz
   ·rcases List.mem_cons.1 hz with rfl | hz
    ·exact h1
    ·exact ltS_tr h1 (hb'.1 z hz)
  ·split
   ·rename_i h2
    refine ris_cons.2 ⟨fun z hz=>?_,ris_merge n ha hb'.2⟩
    rcases mem_merge n _ _ z hz with hz | hz
    ·rcases List.mem_cons.1 hz with rfl | hz
     ·exact h2
     ·exact ltS_tr h2 (ha'.1 z hz)
    ·exact hb'.1 z hz
   ·split
    ·exact ris_merge n ha'.2 hb
    ·exact ris_merge n ha hb'.2
theorem lk_merge:∀ (n:Nat) {a b:List Item} (id:ByteArray),a.length + b.length < n→Ris a→Ris b→lk (mergeF n a b) id=newer (lk a id) (lk b id)
 | 0,_,_,_,h,_,_=>by omega
 | n + 1,[],b,id,_,_,_=>by rw [mergeF]; rfl
 | n + 1,x::a,[],id,_,_,_=>by rw [mergeF]; exact (newer_none _).symm
 | n + 1,x::a,y::b,id,h,ha,hb=>by
  have ha':=ris_cons.1 ha
  have hb':=ris_cons.1 hb
  have i1:=lk_merge n id (a:=a) (b:=y::b) (by simp at h ⊢; omega) ha'.2 hb
  have i2:=lk_merge n id (a:=x::a) (b:=b) (by simp at h ⊢; omega) ha hb'.2
  rw [mergeF]
  by_cases h1:ltS x.id y.id=true
  ·rw [if_pos h1,lk_cons,lk_cons x a,i1]
   by_cases hx:eqS x.id id=true
   ·have hn:lk (y::b) id=none:=lk_gt fun z hz=>by
     rw [←eqS_t.1 hx]
     rcases List.mem_cons.1 hz with rfl | hz
     ·exact h1
     ·exact ltS_tr h1 (hb'.1 z hz)
    rw [if_pos hx,if_pos hx,hn]; rfl
   ·rw [if_neg hx,if_neg hx]
  ·rw [if_neg h1]
   by_cases h2:ltS y.id x.id=true
   ·rw [if_pos h2,lk_cons,lk_cons y b,i2]
    by_cases hy:eqS y.id id=true
    ·have hn:lk (x::a) id=none:=lk_gt fun z hz=>by
      rw [←eqS_t.1 hy]
      rcases List.mem_cons.1 hz with rfl | hz
      ·exact h2
      ·exact ltS_tr h2 (ha'.1 z hz)
     rw [if_pos hy,if_pos hy,hn]; rfl
    ·rw [if_neg hy,if_neg hy]
   ·rw [if_neg h2]
    simp only [Bool.not_eq_true] at h1 h2
    have e:=ltS_tri h1 h2
    by_cases hx:eqS x.id id=true
    ·have hy:eqS y.id id=true:=by rw [←e]; exact hx
     have na:lk a id=none:=lk_gt fun z hz=>by rw [←eqS_t.1 hx]; exact ha'.1 z hz
     have nb:lk b id=none:=lk_gt fun z hz=>by rw [←eqS_t.1 hy]; exact hb'.1 z hz
     have ex:lk (x::a) id=some x:=by rw [lk_cons,if_pos hx]
     have ey:lk (y::b) id=some y:=by rw [lk_cons,if_pos hy]
     rw [na,ey] at i1
     rw [nb,ex] at i2
     rw [ex,ey]
     show _=if behindB y x=true then some y else some x
     split
     ·exact i1
     ·exact i2
    ·have hy:¬ eqS y.id id=true:=by rw [←e]; exact hx
     have ex:lk (x::a) id=lk a id:=by rw [lk_cons,if_neg hx]
     have ey:lk (y::b) id=lk b id:=by rw [lk_cons,if_neg hy]
     rw [ey] at i1
     rw [ex] at i2
     rw [ex,ey]
     split
     ·exact i1
     ·exact i2
theorem ris_both {a b:List Item} (ha:Ris a) (hb:Ris b):Ris (bothV a b):=ris_merge _ ha hb
theorem lk_both {a b:List Item} (ha:Ris a) (hb:Ris b) (id:ByteArray):lk (bothV a b) id=newer (lk a id) (lk b id):=lk_merge _ id (by omega) ha hb
def stepB (acc:List Item) (y:Item):List Item:=match lk acc y.id with
 | none=>putV acc y
 | some h=>if behindB y h=true then putV acc y else acc
theorem len_put1 {l:List Item} (hr:Ris l) (x:Item):(putV l x).length≤l.length + 1:=by
 have h1:((l.filter fun y=>ltS y.id x.id)++l.filter fun y=>ltS x.id y.id).length≤l.length:=by
  rw [List.length_append]
  induction l with
  | nil=>simp
  | cons y l ih =>
   have:=ih (ris_cons.1 hr).2
   rw [List.filter_cons,List.filter_cons]
   cases h:ltS y.id x.id with
   | true=>rw [ltS_asym h]; simp; omega
   | false=>cases ltS x.id y.id<;>simp<;>omega
 unfold putV
 rw [List.length_append] at h1 ⊢
 rw [List.length_cons]; omega
theorem ris_step {acc:List Item} (h:Ris acc) (y:Item):Ris (stepB acc y):=by
 unfold stepB
 split
 ·exact ris_put h y
 ·split
  ·exact ris_put h y
  ·exact h
theorem len_step {acc:List Item} (h:Ris acc) (y:Item):(stepB acc y).length≤acc.length + 1:=by
 unfold stepB
 split
 ·exact len_put1 h y
 ·split
  ·exact len_put1 h y
  ·omega
theorem lk_step (acc:List Item) (y:Item) (id:ByteArray):lk (stepB acc y) id=newer (lk acc id) (if eqS y.id id=true then some y else none):=by
 unfold stepB
 by_cases hy:eqS y.id id=true
 ·rw [if_pos hy,←eqS_t.1 hy]
  cases h:lk acc y.id with
  | none=>dsimp only; rw [lk_put,if_pos (eqS_self _)]; rfl
  | some x =>
   dsimp only
   show _=if behindB y x=true then some y else some x
   split
   ·rw [lk_put,if_pos (eqS_self _)]
   ·exact h
 ·rw [if_neg hy,newer_none]
  split
  ·rw [lk_put,if_neg hy]
  ·split
   ·rw [lk_put,if_neg hy]
   ·rfl
theorem ris_fold:∀ (b acc:List Item),Ris acc→Ris (b.foldl stepB acc)
 | [],_,h=>h
 | y::b,acc,h=>ris_fold b _ (ris_step h y)
theorem lk_fold (id:ByteArray):∀ (b acc:List Item),Ris b→lk (b.foldl stepB acc) id=newer (lk acc id) (lk b id)
 | [],acc,_=>(newer_none _).symm
 | y::b,acc,h=>by
  have h':=ris_cons.1 h
  rw [List.foldl_cons,lk_fold id b _ h'.2,lk_step,lk_cons]
  by_cases hy:eqS y.id id=true
  ·rw [if_pos hy,if_pos hy,lk_gt (l:=b) fun z hz=>by rw [←eqS_t.1 hy]; exact h'.1 z hz,newer_none]
  ·rw [if_neg hy,if_neg hy,newer_none]
theorem rboth_l:∀ (b acc:List Item),Ris acc→acc.length + b.length≤400000→ref06_Both_l1 b acc=some (b.foldl stepB acc)
 | [],acc,_,_=>by rw [ref06_Both_l1]; rfl
 | y::b,acc,hr,h=>by
  rw [List.length_cons] at h
  have ih:=rboth_l b (stepB acc y) (ris_step hr y) (by have:=len_step hr y; omega)
  rw [ref06_Both_l1,bnd_of (get_s (by omega)),List.foldl_cons,←ih]
  unfold stepB
  cases hk:lk acc y.id with
  | none=>rw [getI_f hk,br_t (by rfl),bnd_of (rput_s (by omega))]
  | some x =>
   rw [getI_t hk,br_f (by rfl),bnd_of (show ref01_Behind_s y (x,true).1=some (behindB y x) from rfl)]
   dsimp only
   cases behindB y x with
   | true=>rw [br_t rfl,bnd_of (rput_s (by omega)),if_pos rfl]
   | false=>rw [br_f rfl,if_neg (by simp)]
theorem rboth_s {a b:List Item} (ha:Ris a) (hb:Ris b) (h:a.length + b.length≤400000):ref06_Both_s a b=some (bothV a b):=by
 unfold ref06_Both_s
 rw [chk_t (roomL_of (by omega)),chk_t (smallL_of (by omega)),rboth_l b a ha h]
 congr 1
 exact ris_ext (ris_fold b a ha) (ris_both ha hb) fun id=>by rw [lk_fold id b a hb,lk_both ha hb]
theorem may_ris {l:List Item} (h:mayListB l=true):Ris l:=by
 unfold mayListB at h; rw [Bool.and_eq_true] at h; exact ris_iff.1 h.2
theorem may_all {l:List Item} (h:mayListB l=true):∀ x∈l,mayI x=true:=by
 unfold mayListB at h; rw [Bool.and_eq_true,List.all_eq_true] at h; exact h.1
theorem may_of {l:List Item} (h:Ris l) (h':∀ x∈l,mayI x=true):mayListB l=true:=by
 unfold mayListB; rw [Bool.and_eq_true,List.all_eq_true]; exact ⟨h',ris_iff.2 h⟩
theorem sameList_l:∀ (xs pre ys L:List Item),L=pre++ys→xs.length=ys.length→(∀ p∈xs.zip ys,sameI p.1 p.2=true)→ref06_SameList_l1 L xs (pre.length:Int)=some true
 | [],pre,[],L,_,_,_=>by rw [ref06_SameList_l1]
 | x::xs,pre,y::ys,L,h,hl,hs=>by
  have ih:=sameList_l xs (pre++[y]) ys L (by rw [h]; simp) (by simpa using hl) fun p hp=>hs p (by simp [hp])
  rw [List.length_append] at ih
  rw [ref06_SameList_l1,bnd_of (show atL L (pre.length:Int)=some y by rw [h]; exact at_app pre y ys),bnd_of (show ref01_Same_s x y=some (sameI x y) from rfl),hs (x,y) (by simp),br_f (by rfl)]
  exact ih
 | [],_,_::_,_,_,h,_=>by simp at h
 | _::_,_,[],_,_,h,_=>by simp at h
end
end Go.Proofs.YtidkmoohgadjkaaGreat
set_option maxHeartbeats 0
namespace Go.Proofs.YtidkmoohgadjkaaGreat
open Go E
noncomputable section
open Pred
end
end Go.Proofs.YtidkmoohgadjkaaGreat
namespace Go.Proofs.YtidkmoohgadjkaaGreat
open Go E Pred
noncomputable section
open Classical
def realI (x:Item):Prop:=eqFl .f64 x.re x.re=true∧eqFl .f64 x.im x.im=true
theorem sameI_real {x:Item} (h:realI x):sameI x x=true:=by
 unfold sameI
 rw [h.1,h.2,eqS_refl,eqS_refl,beq_selfB]
 simp [eqI]
theorem real_may {x:Item} (h:mayI x=true):realI x:=by
 unfold mayI at h
 simp only [Bool.and_eq_true] at h
 obtain ⟨_,_,_,hp⟩:=h
 obtain ⟨⟨w1,_⟩,⟨w2,_⟩⟩:=placeB_ok hp
 exact ⟨w1.self,w2.self⟩
theorem real_l:∀ l:List Item,∃ r,law00_Real_l1 l=some r∧(r=0∨(r=1∧∀ x∈l,realI x))
 | []=>⟨1,by rw [law00_Real_l1],.inr ⟨rfl,fun x hx=>by cases hx⟩⟩
 | x::l=>by
  obtain ⟨r,hr,h⟩:=real_l l
  rw [law00_Real_l1]
  cases h1:eqFl .f64 x.re x.re with
  | false=>exact ⟨0,by rw [br_t (by rfl)],.inl rfl⟩
  | true =>
   rw [br_f (by rfl)]
   cases h2:eqFl .f64 x.im x.im with
   | false=>exact ⟨0,by rw [br_t (by rfl)],.inl rfl⟩
   | true =>
    refine ⟨r,by rw [br_f (by rfl),hr],h.imp id fun ⟨h3,h4⟩=>⟨h3,fun y hy=>?_⟩⟩
    rcases List.mem_cons.1 hy with rfl | hy
    ·exact ⟨h1,h2⟩
    ·exact h4 y hy
theorem real_s {l:List Item} (h:l.length≤1000000000):∃ r,law00_Real_s l=some r∧(r=0∨(r=1∧∀ x∈l,realI x)):=by
 obtain ⟨r,hr,h'⟩:=real_l l
 exact ⟨r,by unfold law00_Real_s; rw [chk_t (smallL_of h),hr],h'⟩
theorem mem_put {l:List Item} {x y:Item} (h:y∈putV l x):y=x∨y∈l:=by
 unfold putV at h
 rcases List.mem_append.1 h with h | h
 ·exact .inr (List.mem_filter.1 h).1
 ·rcases List.mem_cons.1 h with rfl | h
  ·exact .inl rfl
  ·exact .inr (List.mem_filter.1 h).1
theorem mem_drop {l:List Item} {id:ByteArray} {y:Item} (h:y∈dropV l id):y∈l:=(List.mem_filter.1 h).1
end
end Go.Proofs.YtidkmoohgadjkaaGreat
set_option maxHeartbeats 0
namespace Go.Proofs.YtidkmoohgadjkaaGreat
open Go E
noncomputable section
open Pred
variable {X:Task→Prop} (hX:Closed X) {Q:A→List Blk→Prop}
include hX
end
end Go.Proofs.YtidkmoohgadjkaaGreat
namespace Go.Proofs.YtidkmoohgadjkaaGreat
open Go E Pred
noncomputable section
open Classical
def Dj (a b:List Item):Prop:=∀ id,(lk a id).isSome=true→lk b id=none
theorem lk_head (x:Item) (l:List Item):lk (x::l) x.id=some x:=by rw [lk_cons,if_pos (eqS_self _)]
theorem lk_tail {x:Item} {l:List Item} {id:ByteArray} (h:(lk l id).isSome=true):(lk (x::l) id).isSome=true:=by
 rw [lk_cons]; split
 ·rfl
 ·exact h
theorem lk_tail_none {x:Item} {l:List Item} {id:ByteArray} (h:lk (x::l) id=none):lk l id=none:=by
 rw [lk_cons] at h
 split at h
 ·cases h
 ·exact h
theorem len_merge_dj:∀ (n:Nat) {a b:List Item},a.length + b.length < n→Dj a b→(mergeF n a b).length=a.length + b.length
 | 0,_,_,h,_=>by omega
 | n + 1,[],b,_,_=>by rw [mergeF]; simp
 | n + 1,x::a,[],_,_=>by rw [mergeF]; simp
 | n + 1,x::a,y::b,h,hd=>by
  rw [mergeF]
  simp only [List.length_cons] at h ⊢
  have hxy:x.id≠y.id:=fun e=>by
   have:=hd x.id (by rw [lk_head]; rfl)
   rw [e,lk_head] at this; cases this
  split
  ·rw [List.length_cons,len_merge_dj n (by simp only [List.length_cons]; omega) fun id hi=>hd id (lk_tail hi)]; simp only [List.length_cons]; omega
  ·split
   ·rw [List.length_cons,len_merge_dj n (by simp only [List.length_cons]; omega) fun id hi=>lk_tail_none (hd id hi)]; simp only [List.length_cons]; omega
   ·rename_i h1 h2
    simp only [Bool.not_eq_true] at h1 h2
    exact absurd (ltS_tri h1 h2) hxy
theorem len_both_dj {a b:List Item} (h:Dj a b):(bothV a b).length=a.length + b.length:=len_merge_dj _ (by omega) h
def disjB (a b:List Item):Bool:=b.all fun y=>(lk a y.id).isNone
theorem disjB_iff {a b:List Item}:disjB a b=true↔Dj a b:=by
 unfold disjB
 rw [List.all_eq_true]
 constructor
 ·intro h id hi
  cases hb:lk b id with
  | none=>rfl
  | some y =>
   obtain ⟨hy,rfl⟩:=lk_some hb
   have:=h y hy
   rw [Option.isNone_iff_eq_none] at this
   rw [this] at hi; cases hi
 ·intro h y hy
  rw [Option.isNone_iff_eq_none]
  cases ha:lk a y.id with
  | none=>rfl
  | some x =>
   have:=h y.id (by rw [ha]; rfl)
   exact absurd (lk_none.1 this y hy) (by rw [eqS_self]; simp)
def stoodB (s:State) (l:List Item) (b:Bool):Bool:=l.all fun i=>(hasP s.f i == b)&&(hasK s.k i.id i.vr i.vc&&leI i.stamp s.clock)
def beyondB (k:Know) (r n:Int):Bool:=ltI n (k.star.at r) || k.l.any fun f=>ltI n (f.vec.at r)
def numsB (x:State):Bool:=inN x.r 1 8&&(decide (x.store.length + x.out.length≤40)&&(inN x.count 0 1000&&(inN x.clock 0 1000000&&inN x.epoch 0 1000000)))
def mayS (x:State):Bool:=mayP x.f&&(mayListB x.store&&(mayListB x.out&&(mayK x.k&&(numsB x&&(disjB x.store x.out&&(stoodB x x.store true&&(stoodB x x.out false&&!beyondB x.k x.r x.count)))))))
structure StB (x:State):Prop where
 f:x.f.Ok
 fs:x.f.size≤1000
 store:∀ i∈x.store,i.Ok
 out:∀ i∈x.out,i.Ok
 sl:x.store.length≤1000
 ol:x.out.length≤1000
 k:KT x.k 90000
 ids:IdsOk x.k
theorem StOk.b {x:State} (h:StOk x) (hk:KB x.k 60):StB x:=⟨h.f,h.fs,h.store,h.out,by have:=h.sl; omega,by have:=h.ol; omega,hk.kt.mono (by decide),h.ids⟩
theorem brec_neq (a b:Bool):(@Bool.rec (fun _=>Bool) b (!b) a)=!(a == b):=by cases a<;>cases b<;>rfl
theorem rstood_l {x:State} (h:StB x) (b:Bool):∀ l:List Item,(∀ i∈l,i.Ok)→ref09_stood_l1 x b l=some (stoodB x l b)
 | [],_=>by rw [ref09_stood_l1]; rfl
 | i::l,hl=>by
  have ih:=rstood_l h b l fun j hj=>hl j (List.mem_cons_of_mem _ hj)
  rw [ref09_stood_l1,bnd_of (has3_s h.f (hl i (List.mem_cons_self ..))),bnd_of (hasK_s (by decide) h.k.kb),ih,brec_neq]
  unfold stoodB
  rw [List.all_cons]
  have e:ltI x.clock i.stamp=!leI i.stamp x.clock:=by
   cases h1:leI i.stamp x.clock with
   | true=>rw [leI_t] at h1; exact ltI_f.2 h1
   | false=>rw [leI_f] at h1; exact ltI_t.2 h1
  rw [e]
  generalize (hasP x.f i == b)=p
  generalize hasK x.k i.id _ _=q
  generalize leI i.stamp x.clock=r
  cases p<;>cases q<;>cases r<;>rfl
theorem rstood_s {x:State} (h:StB x) (b:Bool) {l:List Item} (hl:∀ i∈l,i.Ok) (hn:l.length≤1000):ref09_stood_s x l b=some (stoodB x l b):=by
 unfold ref09_stood_s; rw [chk_t (smallL_of (by omega)),rstood_l h b l hl]
theorem rbeyond_l (r n:Int):∀ l:List Frag,ref09_Beyond_l1 r n l=some (l.any fun f=>ltI n (f.vec.at r))
 | []=>by rw [ref09_Beyond_l1]; rfl
 | f::l=>by
  rw [ref09_Beyond_l1,bnd_of (show ref06_Count_s f.vec r=some (f.vec.at r) from rfl),rbeyond_l r n l,List.any_cons]
  cases ltI n (f.vec.at r)<;>rfl
theorem rbeyond_s {k:Know} {N:Nat} (h:KT k N) (hN:N≤1000000000) (r n:Int):ref09_Beyond_s k r n=some (beyondB k r n):=by
 unfold ref09_Beyond_s beyondB
 rw [bnd_of (show ref06_Count_s k.star r=some (k.star.at r) from rfl),chk_t (smallL_of (by have:=h.l; omega)),rbeyond_l]
 cases ltI n (k.star.at r)<;>rfl
theorem ltle (a b:Int):leI a b=!ltI b a:=by
 cases h:ltI b a with
 | true=>rw [ltI_t] at h; exact leI_f.2 h
 | false=>rw [ltI_f] at h; exact leI_t.2 h
end
end Go.Proofs.YtidkmoohgadjkaaGreat
namespace Go.Proofs.YtidkmoohgadjkaaGreat
open Go E Pred
noncomputable section
open Classical
theorem getI_snd (id:ByteArray) (l:List Item):(getI id l).2=(lk l id).isSome:=by
 rw [getI_lk]; cases lk l id<;>rfl
theorem rmay_l {x:State} (h:StB x):∀ l:List Item,ref09_May_l1 x l=some (l.all (fun y=>(lk x.store y.id).isNone)&&(stoodB x x.store true&&(stoodB x x.out false&&!beyondB x.k x.r x.count)))
 | []=>by
  rw [ref09_May_l1,bnd_of (rstood_s h true h.store h.sl),bnd_of (rstood_s h false h.out h.ol),bnd_of (rbeyond_s h.k (by decide) x.r x.count)]
  cases stoodB x x.store true<;>cases stoodB x x.out false<;>rfl
 | y::l=>by
  rw [ref09_May_l1,bnd_of (get_s (by have:=h.sl; omega)),getI_snd,rmay_l h l,List.all_cons]
  cases lk x.store y.id<;>rfl
theorem ltn (a b:Int):ltI a b=!leI b a:=by
 rw [ltle b a,Bool.not_not]
theorem rmay_s {x:State} (h:StB x):ref09_May_s x=some (mayS x):=by
 have hs:=h.sl
 have ho:=h.ol
 unfold ref09_May_s
 rw [bnd_of (may3_s h.f h.fs),bnd_of (mayList_s (by omega) h.store),bnd_of (mayList_s (by omega) h.out),bnd_of (rmayK_t h.k (by decide) h.ids),chk_t (smallL_of (by omega)),rmay_l h]
 have e:ltI 40 (wr .i64 ((x.store.length:Int) + (x.out.length:Int)))=!decide (x.store.length + x.out.length≤40):=by
  rw [wr64 (by omega) (by omega)]
  by_cases hl:x.store.length + x.out.length≤40
  ·rw [decide_eq_true hl]; exact ltI_f.2 (by omega)
  ·rw [decide_eq_false hl]; exact ltI_t.2 (by omega)
 rw [e]
 unfold mayS numsB inN disjB
 simp only [ltn]
 generalize mayP x.f=b1
 generalize mayListB x.store=b2
 generalize mayListB x.out=b3
 generalize mayK x.k=b4
 generalize leI 1 x.r=c1
 generalize leI x.r 8=c2
 generalize decide (x.store.length + x.out.length≤40)=c3
 generalize leI 0 x.count=c4
 generalize leI x.count 1000=c5
 generalize leI 0 x.clock=c6
 generalize leI x.clock 1000000=c7
 generalize leI 0 x.epoch=c8
 generalize leI x.epoch 1000000=c9
 cases b1 with
 | false=>rfl
 | true=>cases b2 with
  | false=>rfl
  | true=>cases b3 with
   | false=>rfl
   | true=>cases b4 with
    | false=>rfl
    | true=>cases c1 with
     | false=>rfl
     | true=>cases c2 with
      | false=>rfl
      | true=>cases c3 with
       | false=>rfl
       | true=>cases c4 with
        | false=>rfl
        | true=>cases c5 with
         | false=>rfl
         | true=>cases c6 with
          | false=>rfl
          | true=>cases c7 with
           | false=>rfl
           | true=>cases c8 with
            | false=>rfl
            | true=>cases c9 with
             | false=>rfl
             | true=>rfl
structure SOk (x:State) (N:Nat):Prop where
 f:x.f.Ok
 fs:x.f.size≤1000
 rs:Ris x.store
 ro:Ris x.out
 le:x.store.length + x.out.length≤40
 dj:Dj x.store x.out
 is:∀ i∈x.store,i.Ok∧mayI i=true
 io:∀ i∈x.out,i.Ok∧mayI i=true
 kt:KT x.k N
 ids:IdsOk x.k
 cn:0≤x.count∧x.count≤1000
 cl:0≤x.clock∧x.clock≤1000000
 ep:0≤x.epoch∧x.epoch≤1000000
theorem inN_iff {n a b:Int}:inN n a b=true↔a≤n∧n≤b:=by unfold inN; rw [Bool.and_eq_true,leI_t,leI_t]
theorem mayS_iff {x:State}:mayS x=true↔mayP x.f=true∧mayListB x.store=true∧mayListB x.out=true∧mayK x.k=true∧(1≤x.r∧x.r≤8)∧x.store.length + x.out.length≤40∧(0≤x.count∧x.count≤1000)∧(0≤x.clock∧x.clock≤1000000)∧(0≤x.epoch∧x.epoch≤1000000)∧Dj x.store x.out∧stoodB x x.store true=true∧stoodB x x.out false=true∧beyondB x.k x.r x.count=false:=by
 unfold mayS numsB
 simp only [Bool.and_eq_true,inN_iff,decide_eq_true_eq,disjB_iff,Bool.not_eq_true']
 constructor
 ·rintro ⟨a,b,c,d,⟨e,f,g,h,i⟩,j,k,l,m⟩; exact ⟨a,b,c,d,e,f,g,h,i,j,k,l,m⟩
 ·rintro ⟨a,b,c,d,e,f,g,h,i,j,k,l,m⟩; exact ⟨a,b,c,d,⟨e,f,g,h,i⟩,j,k,l,m⟩
theorem may_sok {x:State} {N:Nat} (h:mayS x=true) (hf:x.f.Ok) (hs:∀ i∈x.store,i.Ok) (ho:∀ i∈x.out,i.Ok) (hk:KT x.k N) (hi:IdsOk x.k):SOk x N:=by
 obtain ⟨a,b,c,d,e,f,g,h,i,j,k,l,m⟩:=mayS_iff.1 h
 have hsz:=(mayP_iff.1 a).1
 exact ⟨hf,by omega,may_ris b,may_ris c,f,j,fun y hy=>⟨hs y hy,may_all b y hy⟩,fun y hy=>⟨ho y hy,may_all c y hy⟩,hk,hi,g,h,i⟩
theorem clone_s_of {α:Type} {l:List α} (h:l.length≤1000000):clone_s l=some l:=by unfold clone_s; rw [chk_t (decide_eq_true h)]
theorem fresh_state {x:State} {N:Nat} (h:SOk x N) (hN:N≤900000):fresh_State_s x=some x:=by
 have:=h.le
 unfold fresh_State_s
 rw [bnd_of (fresh_pred fuelR (by have:=h.fs; unfold fuelR; omega) h.fs),bnd_of (fresh_know_t h.kt hN),bnd_of (clone_s_of (by omega)),bnd_of (clone_s_of (by omega))]
theorem SOk.mono {x:State} {N M:Nat} (h:SOk x N) (hm:N≤M):SOk x M:={ h with kt:=h.kt.mono hm }
end
end Go.Proofs.YtidkmoohgadjkaaGreat
namespace Go.Proofs.YtidkmoohgadjkaaGreat
open Go E Pred
noncomputable section
open Classical
def errO (n:Int):Option Int:=if n=0 then none else some n
def newB (s:State) (x:Item):Bool:=match lk (bothV s.store s.out) x.id with
 | none=>true
 | some y=>behindB x y
def fullB (s:State) (x:Item):Bool:=newB s x&&(hasP s.f x&&((lk (bothV s.store s.out) x.id).isNone&&decide (s.store.length + s.out.length=40)))
def knownV (s:State) (x:Item):State:=⟨s.r,s.f,s.store,s.out,withK s.k x.id x.vr x.vc,s.count,maxI s.clock x.stamp,s.epoch⟩
def tookV (s:State) (x:Item):State:=⟨s.r,s.f,if hasP s.f x=true then putV (dropV s.store x.id) x else dropV s.store x.id,dropV s.out x.id,withK s.k x.id x.vr x.vc,s.count,maxI s.clock x.stamp,s.epoch⟩
def badB (s:State) (x:Item):Bool:=!mayI x || (eqI x.vr s.r&&ltI s.count x.vc)
def itemV (s:State) (x:Item):State × Int :=
 if badB s x=true then (s,1) else if hasK s.k x.id x.vr x.vc=true then (s,0) else if fullB s x=true then (s,4) else if newB s x=true then (tookV s x,0) else (knownV s x,0)
def goneB (s:State) (id:ByteArray) (or oc:Int):Bool:=match lk s.store id with
 | none=>false
 | some y=>eqI y.vr or&&eqI y.vc oc
def goesV (s:State) (id:ByteArray) (or oc nr nc:Int):State :=
 if goneB s id or oc=true then ⟨s.r,s.f,dropV s.store id,s.out,if verB nr nc=true∧(!eqI nr s.r || leI nc s.count)=true then withK s.k id nr nc else s.k,s.count,s.clock,s.epoch⟩ else s
theorem newB_n {s:State} {x:Item} (h:lk (bothV s.store s.out) x.id=none):newB s x=true:=by unfold newB; rw [h]
theorem newB_s {s:State} {x y:Item} (h:lk (bothV s.store s.out) x.id=some y):newB s x=behindB x y:=by unfold newB; rw [h]
theorem fullB_n {s:State} {x:Item} (h:lk (bothV s.store s.out) x.id=none):fullB s x=(hasP s.f x&&decide (s.store.length + s.out.length=40)):=by unfold fullB; rw [newB_n h,h]; rfl
theorem fullB_s {s:State} {x y:Item} (h:lk (bothV s.store s.out) x.id=some y):fullB s x=false:=by unfold fullB; rw [h]; simp
theorem goneB_n {s:State} {id:ByteArray} {or oc:Int} (h:lk s.store id=none):goneB s id or oc=false:=by unfold goneB; rw [h]
theorem goneB_s {s:State} {id:ByteArray} {or oc:Int} {y:Item} (h:lk s.store id=some y):goneB s id or oc=(eqI y.vr or&&eqI y.vc oc):=by unfold goneB; rw [h]
theorem imay_s {x:Item} (h:x.Ok):item_May_s x=some (mayI x):=by unfold item_May_s; rw [chk_t (decide_eq_true h)]
theorem rimay_s {x:Item} (h:x.Ok):ref01_May_s x=some (mayI x):=by unfold ref01_May_s; rw [chk_t (decide_eq_true h)]
theorem both_len {x:State} {N:Nat} (h:SOk x N):(bothV x.store x.out).length=x.store.length + x.out.length:=len_both_dj h.dj
theorem len_drop (l:List Item) (id:ByteArray):(dropV l id).length≤l.length:=List.length_filter_le ..
theorem len_drop_lt:∀ {l:List Item} {id:ByteArray},(lk l id).isSome=true→(dropV l id).length < l.length
 | [],_,h=>by cases h
 | x::l,id,h=>by
  rw [lk_cons] at h
  unfold dropV
  rw [List.filter_cons]
  by_cases hx:eqS x.id id=true
  ·rw [if_neg (by rw [hx]; simp)]
   have:=len_drop l id
   unfold dropV at this
   rw [List.length_cons]; omega
  ·rw [if_neg hx] at h
   have:=len_drop_lt h
   unfold dropV at this
   split<;>simp only [List.length_cons]<;>omega
theorem recv_j2 {s:State} {x:Item} {N:Nat} (h:SOk s N) (hN:N≤90000) (hx:x.Ok):recv_Item_j2 x s (hasP s.f x)=some (tookV s x,none):=by
 have hl:=h.le
 have:=len_drop s.store x.id
 unfold recv_Item_j2 tookV
 rw [bnd_of (kwith_s h.kt (by omega) h.ids hx.id),bnd_of (ldrop_s h.rs (by omega)),bnd_of (ldrop_s h.ro (by omega)),bnd_of (lput_s (ris_drop h.rs _) (by omega))]
 cases hasP s.f x<;>rfl
theorem recv_j3 {s:State} {x:Item} {N:Nat} {n:Int} (h:SOk s N) (hN:N≤90000) (hx:x.Ok):recv_Item_j3 x s (hasP s.f x) n=some (if ltI 0 n=true then tookV s x else knownV s x,none):=by
 have hl:=h.le
 have:=len_drop s.store x.id
 unfold recv_Item_j3
 rw [bnd_of (kwith_s h.kt (by omega) h.ids hx.id),bnd_of (ldrop_s h.rs (by omega)),bnd_of (ldrop_s h.ro (by omega)),bnd_of (lput_s (ris_drop h.rs _) (by omega))]
 cases ltI 0 n with
 | false=>rfl
 | true=>unfold tookV; cases hasP s.f x<;>rfl
theorem recv_j1 {s:State} {x:Item} {N:Nat} (h:SOk s N) (hN:N≤90000) (hx:x.Ok) (hb:badB s x=false):recv_Item_j1 x s=some ((itemV s x).1,errO (itemV s x).2):=by
 have hl:=h.le
 have hlen:=both_len h
 unfold recv_Item_j1 itemV
 rw [hb,if_neg (by simp),bnd_of (khas_s (N:=N) (by omega) h.kt.kb)]
 cases hk:hasK s.k x.id x.vr x.vc with
 | true=>rfl
 | false =>
  rw [if_neg (by simp),br_f rfl,bnd_of (lboth_s (by omega)),bnd_of (lget_s (ris_both h.rs h.ro) (by omega)),bnd_of (has_s h.f hx)]
  cases hg:lk (bothV s.store s.out) x.id with
  | none =>
   rw [getI_f hg,hlen,fullB_n hg,newB_n hg]
   have e:leI 40 ((s.store.length + s.out.length:Nat):Int)=decide (s.store.length + s.out.length=40):=by
    by_cases h40:s.store.length + s.out.length=40
    ·rw [decide_eq_true h40]; exact leI_t.2 (by omega)
    ·rw [decide_eq_false h40]; exact leI_f.2 (by omega)
   rw [e,br_t (by rfl),recv_j2 h hN hx]
   cases hasP s.f x with
   | false=>rfl
   | true=>cases decide (s.store.length + s.out.length=40)<;>rfl
  | some y =>
   rw [getI_t hg,br_f (by rfl),fullB_s hg,newB_s hg]
   rw [bnd_of (show item_Compare_s x y=some (compareV x y) from rfl),recv_j3 h hN hx,cmp_pos,br_same]
   cases behindB x y<;>rfl
theorem recv_item {s:State} {x:Item} {N:Nat} (h:SOk s N) (hN:N≤90000) (hx:x.Ok):recv_Item_s s x=some ((itemV s x).1,errO (itemV s x).2):=by
 have key:badB s x=true→(itemV s x).1=s∧errO (itemV s x).2=some 1:=fun hb=>by unfold itemV; rw [if_pos hb]; exact ⟨rfl,rfl⟩
 unfold recv_Item_s
 rw [bnd_of (fresh_state h (by omega)),bnd_of (imay_s hx)]
 cases hm:mayI x with
 | false =>
  have:=key (by unfold badB; rw [hm]; rfl)
  rw [this.1,this.2]; rfl
 | true =>
  cases h1:eqI x.vr s.r with
  | false=>exact recv_j1 h hN hx (by unfold badB; rw [hm,h1]; rfl)
  | true =>
   cases h2:ltI s.count x.vc with
   | true =>
    have:=key (by unfold badB; rw [hm,h1,h2]; rfl)
    rw [this.1,this.2]; rfl
   | false=>exact recv_j1 h hN hx (by unfold badB; rw [hm,h1,h2]; rfl)
theorem rlaid {s:State} {x:Item} {b:Bool} (h1:Ris s.store) (h2:Ris s.out) (h3:s.store.length + s.out.length≤100) (hf:s.f.Ok) (hx:x.Ok):ref09_laid_s s x b=some ⟨s.r,s.f,if hasP s.f x=true then putV (dropV s.store x.id) x else dropV s.store x.id,if hasP s.f x=false∧b=true then putV (dropV s.out x.id) x else dropV s.out x.id,s.k,s.count,s.clock,s.epoch⟩:=by
 have e1:=len_drop s.store x.id
 have e2:=len_drop s.out x.id
 unfold ref09_laid_s
 rw [bnd_of (rdrop_s (by omega)),bnd_of (rdrop_s (by omega)),bnd_of (has3_s hf hx),bnd_of (rput_s (by omega)),bnd_of (rput_s (by omega))]
 cases hasP s.f x<;>cases b<;>rfl
theorem ritem_j4 {s:State} {x:Item} {N:Nat} {v:Bool} {c:Int} (h:SOk s N) (hx:x.Ok):ref09_Item_j4 s x v (withK s.k x.id x.vr x.vc) c=some (if v=true then ⟨s.r,s.f,s.store,s.out,withK s.k x.id x.vr x.vc,s.count,c,s.epoch⟩ else ⟨s.r,s.f,if hasP s.f x=true then putV (dropV s.store x.id) x else dropV s.store x.id,dropV s.out x.id,withK s.k x.id x.vr x.vc,s.count,c,s.epoch⟩,0):=by
 have hl:=h.le
 unfold ref09_Item_j4
 rw [bnd_of (rlaid (s:=⟨s.r,s.f,s.store,s.out,withK s.k x.id x.vr x.vc,s.count,c,s.epoch⟩) (b:=false) h.rs h.ro (by simp only []; omega) h.f hx)]
 cases v with
 | true=>rfl
 | false=>simp only [Bool.false_eq_true,and_false,if_false]; rfl
theorem ritem_j3 {s:State} {x:Item} {N:Nat} {v:Bool} (h:SOk s N) (hN:N≤90000) (hx:x.Ok):ref09_Item_j3 s x v=some (if v=true then knownV s x else tookV s x,0):=by
 unfold ref09_Item_j3
 rw [bnd_of (rwith_t h.kt (by omega)),ritem_j4 h hx,ritem_j4 h hx]
 unfold knownV tookV maxI
 by_cases hc:x.stamp > s.clock
 ·rw [br_t (ltI_t.2 hc)]; simp only [if_pos hc]
 ·rw [br_f (ltI_f.2 (by omega))]; simp only [if_neg hc]
theorem rstands {s:State} {id:ByteArray} {N:Nat} (h:SOk s N):ref09_Stands_s s id=some (getI id (bothV s.store s.out)):=by
 have hl:=h.le
 have hlen:=both_len h
 unfold ref09_Stands_s
 rw [bnd_of (rboth_s h.rs h.ro (by omega)),bnd_of (get_s (by omega))]
theorem ritem_j1 {s:State} {x:Item} {N:Nat} (h:SOk s N) (hN:N≤90000) (hx:x.Ok) (hb:badB s x=false):ref09_Item_j1 s x=some (itemV s x):=by
 have hl:=h.le
 have hw:eqI (wr .i64 ((s.store.length:Int) + (s.out.length:Int))) 40=decide (s.store.length + s.out.length=40):=by
  rw [wr64 (by omega) (by omega)]
  by_cases h40:s.store.length + s.out.length=40
  ·rw [decide_eq_true h40]; exact eqI_t.2 (by omega)
  ·rw [decide_eq_false h40]; exact eqI_f.2 (by omega)
 have j2:∀ (p:Item × Bool) (v:Bool),ref09_Item_j2 s x p v=some (if (!v&&(hasP s.f x&&(!p.2&&decide (s.store.length + s.out.length=40))))=true then (s,4) else (if v=true then knownV s x else tookV s x,0)):=fun p v=>by
  unfold ref09_Item_j2
  rw [bnd_of (has3_s h.f hx),hw,ritem_j3 h hN hx]
  cases v<;>cases hasP s.f x<;>cases p.2<;>cases decide (s.store.length + s.out.length=40)<;>rfl
 unfold ref09_Item_j1 itemV
 rw [hb,if_neg (by simp),bnd_of (hasK_s (N:=N) (by omega) h.kt.kb)]
 cases hk:hasK s.k x.id x.vr x.vc with
 | true=>rfl
 | false =>
  rw [if_neg (by simp),br_f rfl,bnd_of (rstands h),j2,j2]
  cases hg:lk (bothV s.store s.out) x.id with
  | none =>
   rw [getI_f hg,fullB_n hg,newB_n hg]
   cases hasP s.f x<;>cases decide (s.store.length + s.out.length=40)<;>rfl
  | some y =>
   rw [getI_t hg,fullB_s hg,newB_s hg]
   rw [bnd_of (show ref01_Behind_s x y=some (behindB x y) from rfl)]
   cases behindB x y<;>cases hasP s.f x<;>cases decide (s.store.length + s.out.length=40)<;>rfl
theorem ref_item {s:State} {x:Item} {N:Nat} (h:SOk s N) (hN:N≤90000) (hx:x.Ok):ref09_Item_s s x=some (itemV s x):=by
 have key:badB s x=true→itemV s x=(s,1):=fun hb=>by unfold itemV; rw [if_pos hb]
 unfold ref09_Item_s
 rw [bnd_of (rimay_s hx)]
 cases hm:mayI x with
 | false=>rw [key (by unfold badB; rw [hm]; rfl)]; rfl
 | true =>
  cases h1:eqI x.vr s.r with
  | false=>exact ritem_j1 h hN hx (by unfold badB; rw [hm,h1]; rfl)
  | true =>
   cases h2:ltI s.count x.vc with
   | true=>rw [key (by unfold badB; rw [hm,h1,h2]; rfl)]; rfl
   | false=>exact ritem_j1 h hN hx (by unfold badB; rw [hm,h1,h2]; rfl)
theorem recv_goes {s:State} {id:ByteArray} {o n:Ver} {N:Nat} (h:SOk s N) (hN:N≤90000) (hid:id.size≤9223372036854775807):recv_Goes_s s id o n=some (goesV s id o.r o.c n.r n.c):=by
 have hl:=h.le
 unfold recv_Goes_s goesV
 rw [bnd_of (fresh_state h (by omega)),bnd_of (lget_s h.rs (by omega))]
 cases hg:lk s.store id with
 | none=>rw [getI_f hg,goneB_n hg]; rfl
 | some y =>
  rw [getI_t hg,goneB_s hg]
  have e:andB (eqI y.vr o.r) (andB (eqI y.vc o.c) true)=(eqI y.vr o.r&&eqI y.vc o.c):=by unfold andB; rw [Bool.and_true]
  rw [br_f (by rfl),e]
  cases hv:(eqI y.vr o.r&&eqI y.vc o.c) with
  | false=>rfl
  | true =>
   rw [br_f (by rfl),bnd_of (ldrop_s h.rs (by omega)),bnd_of (kwith_s h.kt (by omega) h.ids hid),if_pos rfl]
   unfold verB inN
   cases leI 1 n.r with
   | false=>simp [br]
   | true=>cases leI n.r 8 with
    | false=>simp [br]
    | true=>cases leI 1 n.c with
     | false=>simp [br]
     | true=>cases leI n.c 1000 with
      | false=>simp [br]
      | true=>cases eqI n.r s.r<;>cases leI n.c s.count<;>simp [br]
theorem ref_goes {s:State} {id:ByteArray} {o n:Ver} {N:Nat} (h:SOk s N) (hN:N≤90000):ref09_Goes_s s id o n=some (goesV s id o.r o.c n.r n.c):=by
 have hl:=h.le
 unfold ref09_Goes_s goesV
 rw [bnd_of (get_s (by omega))]
 cases hg:lk s.store id with
 | none=>rw [getI_f hg,goneB_n hg]; rfl
 | some y =>
  rw [getI_t hg,goneB_s hg]
  have e:andB (eqI y.vr o.r) (andB (eqI y.vc o.c) true)=(eqI y.vr o.r&&eqI y.vc o.c):=by unfold andB; rw [Bool.and_true]
  rw [br_f (by rfl),e]
  cases hv:(eqI y.vr o.r&&eqI y.vc o.c) with
  | false=>rfl
  | true =>
   rw [br_f (by rfl),bnd_of (rdrop_s (by omega)),bnd_of (show ref01_Ver_s n=some (verB n.r n.c) from rfl),bnd_of (rwith_t h.kt (by omega)),if_pos rfl]
   cases verB n.r n.c<;>cases eqI n.r s.r<;>cases leI n.c s.count<;>simp [br]
theorem ok_took {s:State} {x:Item} {N:Nat} (h:SOk s N) (hx:x.Ok) (hm:mayI x=true) (hfull:hasP s.f x=true→(lk (bothV s.store s.out) x.id).isNone=true→s.store.length + s.out.length≠40):SOk (tookV s x) (N + 1):=by
 have hl:=h.le
 have e1:=len_drop s.store x.id
 have e2:=len_drop s.out x.id
 have hst:inN x.stamp 1 1000000=true:=by unfold mayI at hm; simp only [Bool.and_eq_true] at hm; exact hm.2.2.1.1
 rw [inN_iff] at hst
 have hcl:0≤maxI s.clock x.stamp∧maxI s.clock x.stamp≤1000000:=by have:=h.cl; unfold maxI; split<;>omega
 have kt:=kt_with h.kt x.id x.vr x.vc
 have ids:=ids_with (r:=x.vr) (c:=x.vc) h.ids hx.id
 have md:∀ i∈dropV s.store x.id,i.Ok∧mayI i=true:=fun i hi=>h.is i (mem_drop hi)
 have mo:∀ i∈dropV s.out x.id,i.Ok∧mayI i=true:=fun i hi=>h.io i (mem_drop hi)
 unfold tookV
 by_cases hp:hasP s.f x=true
 ·rw [if_pos hp]
  have e3:=len_put1 (ris_drop h.rs x.id) x
  refine ⟨h.f,h.fs,ris_put (ris_drop h.rs _) x,ris_drop h.ro _,?_,fun id hid=>?_,fun i hi=>?_,mo,kt,ids,h.cn,hcl,h.ep⟩
  ·show (putV (dropV s.store x.id) x).length + (dropV s.out x.id).length≤40
   cases hg:lk (bothV s.store s.out) x.id with
   | none=>have:=hfull hp (by rw [hg]; rfl); omega
   | some y =>
    rw [lk_both h.rs h.ro] at hg
    cases h1:lk s.store x.id with
    | some z=>have:=len_drop_lt (l:=s.store) (id:=x.id) (by rw [h1]; rfl); omega
    | none =>
     rw [h1] at hg
     have:=len_drop_lt (l:=s.out) (id:=x.id) (by rw [show lk s.out x.id=some y from hg]; rfl)
     omega
  ·show lk (dropV s.out x.id) id=none
   rw [lk_drop]
   split
   ·rfl
   ·rename_i hne
    have hid':(lk (putV (dropV s.store x.id) x) id).isSome=true:=hid
    rw [lk_put,if_neg hne,lk_drop,if_neg hne] at hid'
    exact h.dj id hid'
  ·rcases mem_put hi with rfl | hi
   ·exact ⟨hx,hm⟩
   ·exact md i hi
 ·rw [if_neg hp]
  refine ⟨h.f,h.fs,ris_drop h.rs _,ris_drop h.ro _,by simp only []; omega,fun id hid=>?_,md,mo,kt,ids,h.cn,hcl,h.ep⟩
  show lk (dropV s.out x.id) id=none
  rw [lk_drop]
  split
  ·rfl
  ·rename_i hne
   have hid':(lk (dropV s.store x.id) id).isSome=true:=hid
   rw [lk_drop,if_neg hne] at hid'
   exact h.dj id hid'
theorem ok_known {s:State} {x:Item} {N:Nat} (h:SOk s N) (hx:x.Ok) (hm:mayI x=true):SOk (knownV s x) (N + 1):=by
 have hst:inN x.stamp 1 1000000=true:=by unfold mayI at hm; simp only [Bool.and_eq_true] at hm; exact hm.2.2.1.1
 rw [inN_iff] at hst
 exact ⟨h.f,h.fs,h.rs,h.ro,h.le,h.dj,h.is,h.io,kt_with h.kt x.id x.vr x.vc,ids_with h.ids hx.id,h.cn,by have:=h.cl; show 0≤maxI s.clock x.stamp∧maxI s.clock x.stamp≤1000000; unfold maxI; split<;>omega,h.ep⟩
theorem ok_item {s:State} {x:Item} {N:Nat} (h:SOk s N) (hx:x.Ok):SOk (itemV s x).1 (N + 1):=by
 unfold itemV
 by_cases hb:badB s x=true
 ·rw [if_pos hb]; exact h.mono (by omega)
 ·rw [if_neg hb]
  have hm:mayI x=true:=by
   unfold badB at hb
   cases hm:mayI x with
   | true=>rfl
   | false=>rw [hm] at hb; exact absurd rfl hb
  by_cases hk:hasK s.k x.id x.vr x.vc=true
  ·rw [if_pos hk]; exact h.mono (by omega)
  ·rw [if_neg hk]
   by_cases hf:fullB s x=true
   ·rw [if_pos hf]; exact h.mono (by omega)
   ·rw [if_neg hf]
    by_cases hn:newB s x=true
    ·rw [if_pos hn]
     refine ok_took h hx hm fun h1 h2 h3=>hf ?_
     unfold fullB; rw [hn,h1,h2,decide_eq_true h3]; rfl
    ·rw [if_neg hn]; exact ok_known h hx hm
theorem ok_goes {s:State} {id:ByteArray} {or oc nr nc:Int} {N:Nat} (h:SOk s N) (hid:id.size≤9223372036854775807):SOk (goesV s id or oc nr nc) (N + 1):=by
 have hl:=h.le
 have e1:=len_drop s.store id
 unfold goesV
 split
 ·refine ⟨h.f,h.fs,ris_drop h.rs _,h.ro,by simp only []; omega,fun i hi=>?_,fun i hi=>h.is i (mem_drop hi),h.io,?_,?_,h.cn,h.cl,h.ep⟩
  ·have hi':(lk (dropV s.store id) i).isSome=true:=hi
   rw [lk_drop] at hi'
   split at hi'
   ·cases hi'
   ·exact h.dj i hi'
  ·show KT (if _ then _ else _) _
   split
   ·exact kt_with h.kt ..
   ·exact h.kt.mono (by omega)
  ·show IdsOk (if _ then _ else _)
   split
   ·exact ids_with h.ids hid
   ·exact h.ids
 ·exact h.mono (by omega)
end
end Go.Proofs.YtidkmoohgadjkaaGreat
namespace Go.Proofs.YtidkmoohgadjkaaGreat
open Go E Pred
noncomputable section
open Classical
def newS (r:Int) (f:Pred):State:=⟨r,f,[],[],⟨zero8,[]⟩,0,0,0⟩
section
variable {s:State} {id kind:ByteArray} {num:Int} {re im:Nat} {N:Nat} (h:SOk s N) (hN:N≤90000) (hr:1≤s.r∧s.r≤8) (h1:id.size≤9223372036854775807)
include h hN hr h1
end
end
end Go.Proofs.YtidkmoohgadjkaaGreat
set_option maxHeartbeats 0
namespace Go.Proofs.YtidkmoohgadjkaaGreat
open Go E
noncomputable section
open Pred
def law00_Code_s (p0:Option Int):Option (Int) :=
  (opt p0 (fun en =>
  (br (eqI en 1)
   (some 1)
   (br (eqI en 2)
    (some 2)
    (br (eqI en 3)
     (some 3)
     (br (eqI en 4)
      (some 4)
      (br (eqI en 5)
       (some 5)
       (br (eqI en 6)
        (some 6)
        (br (eqI en 7)
         (some 7)
         (br (eqI en 8)
          (some 8)
          (br (eqI en 9)
           (some 9)
           (br (eqI en 10)
            (some 10)
            (some (-1)))))))))))))
  (some 0))
def law00_Entries_l1:List Line→(List Entry)→Option ((List Entry))
  | [],v2 =>
  some v2
  | x1e::xs1,v2 =>
  (bnd (law00_Item_s x1e.item) fun y3 =>
   (chk (roomL v2.length 1)
    (law00_Entries_l1 xs1  (v2++[(Entry.mk y3 x1e.goes x1e.r x1e.c)]))))
def law00_Entries_s (p0:List Line):Option ((List Entry)) :=
 (chk (smallL p0)
   ((law00_Entries_l1) p0 ([]:List Entry)))
def law00_Msg_s (p0:Note):Option (Msg) :=
 (bnd (law00_Pred_s p0.f) fun y1 =>
  (bnd (law00_Entries_s p0.l) fun y3 =>
   some (Msg.mk p0.kind p0.src p0.dst p0.sid p0.turn y1 p0.k p0.have_ p0.n y3 p0.star)))
def law00_Short_s (p0:Note):Option (Int) :=
 (br (ltI 60 (p0.have_.length:Int))
  (some 0)
  (br (ltI 60 (p0.l.length:Int))
   (some 0)
   (bnd (law00_Small_s p0.f) fun y3 =>
    (bnd (law00_Known_s p0.k) fun y5 =>
     some (wr .i64 (y3 * y5))))))
def law00_Told_l1:List Line→Option (Int)
  | [] =>
  some 1
  | x1e::xs1 =>
  (bnd (law00_Real_s [x1e.item]) fun y2 =>
   (br (eqI y2 0)
    (some 0)
    (law00_Told_l1 xs1  )))
def law00_Told_s (p0:List Line):Option (Int) :=
 (chk (smallL p0)
   ((law00_Told_l1) p0 ))
variable {X:Task→Prop} (hX:Closed X) {Q:A→List Blk→Prop}
include hX
theorem law00_Code_c  {p0:Option Int} {r:Int} (h:law00_Code_s p0=some r) (hQ:Q (iv r) []):X (.call 36 [errA 159 p0] [] Q):=by
  have K:=fun a (e:some a=some r)=>ret_some (f:=fun y=>iv y) (g:=fun y=>[]) e hQ
  unfold law00_Code_s at h
  cases p0 with
  | none =>
    replace h:=opt_no h
    refine call_intro hX Tryz.func36 rfl rfl ?_
    conv=>whnf
    repeat((first|refine dw ?_);conv=>whnf)
    exact K _ h
  | some en =>
    replace h:=opt_so h
    refine call_intro hX Tryz.func36 rfl rfl ?_
    conv=>whnf
    repeat((first|refine dw ?_);conv=>whnf)
    refine loop_intro hX ?_
    conv=>whnf
    repeat((first|refine dw ?_);conv=>whnf)
    revert h
    refine brk (fun c1 h=>?_) (fun c1 h=>?_)
    ·conv=>whnf
     repeat((first|refine dw ?_|refine bct c1 ?_);conv=>whnf)
     exact K _ h
    ·conv=>whnf
     repeat((first|refine dw ?_|refine bcf c1 ?_);conv=>whnf)
     refine loop_intro hX ?_
     conv=>whnf
     repeat((first|refine dw ?_);conv=>whnf)
     revert h
     refine brk (fun c2 h=>?_) (fun c2 h=>?_)
     ·conv=>whnf
      repeat((first|refine dw ?_|refine bct c2 ?_);conv=>whnf)
      exact K _ h
     ·conv=>whnf
      repeat((first|refine dw ?_|refine bcf c2 ?_);conv=>whnf)
      refine loop_intro hX ?_
      conv=>whnf
      repeat((first|refine dw ?_);conv=>whnf)
      revert h
      refine brk (fun c3 h=>?_) (fun c3 h=>?_)
      ·conv=>whnf
       repeat((first|refine dw ?_|refine bct c3 ?_);conv=>whnf)
       exact K _ h
      ·conv=>whnf
       repeat((first|refine dw ?_|refine bcf c3 ?_);conv=>whnf)
       refine loop_intro hX ?_
       conv=>whnf
       repeat((first|refine dw ?_);conv=>whnf)
       revert h
       refine brk (fun c4 h=>?_) (fun c4 h=>?_)
       ·conv=>whnf
        repeat((first|refine dw ?_|refine bct c4 ?_);conv=>whnf)
        exact K _ h
       ·conv=>whnf
        repeat((first|refine dw ?_|refine bcf c4 ?_);conv=>whnf)
        refine loop_intro hX ?_
        conv=>whnf
        repeat((first|refine dw ?_);conv=>whnf)
        revert h
        refine brk (fun c5 h=>?_) (fun c5 h=>?_)
        ·conv=>whnf
         repeat((first|refine dw ?_|refine bct c5 ?_);conv=>whnf)
         exact K _ h
        ·conv=>whnf
         repeat((first|refine dw ?_|refine bcf c5 ?_);conv=>whnf)
         refine loop_intro hX ?_
         conv=>whnf
         repeat((first|refine dw ?_);conv=>whnf)
         revert h
         refine brk (fun c6 h=>?_) (fun c6 h=>?_)
         ·conv=>whnf
          repeat((first|refine dw ?_|refine bct c6 ?_);conv=>whnf)
          exact K _ h
         ·conv=>whnf
          repeat((first|refine dw ?_|refine bcf c6 ?_);conv=>whnf)
          refine loop_intro hX ?_
          conv=>whnf
          repeat((first|refine dw ?_);conv=>whnf)
          revert h
          refine brk (fun c7 h=>?_) (fun c7 h=>?_)
          ·conv=>whnf
           repeat((first|refine dw ?_|refine bct c7 ?_);conv=>whnf)
           exact K _ h
          ·conv=>whnf
           repeat((first|refine dw ?_|refine bcf c7 ?_);conv=>whnf)
           refine loop_intro hX ?_
           conv=>whnf
           repeat((first|refine dw ?_);conv=>whnf)
           revert h
           refine brk (fun c8 h=>?_) (fun c8 h=>?_)
           ·conv=>whnf
            repeat((first|refine dw ?_|refine bct c8 ?_);conv=>whnf)
            exact K _ h
           ·conv=>whnf
            repeat((first|refine dw ?_|refine bcf c8 ?_);conv=>whnf)
            refine loop_intro hX ?_
            conv=>whnf
            repeat((first|refine dw ?_);conv=>whnf)
            revert h
            refine brk (fun c9 h=>?_) (fun c9 h=>?_)
            ·conv=>whnf
             repeat((first|refine dw ?_|refine bct c9 ?_);conv=>whnf)
             exact K _ h
            ·conv=>whnf
             repeat((first|refine dw ?_|refine bcf c9 ?_);conv=>whnf)
             refine loop_intro hX ?_
             conv=>whnf
             repeat((first|refine dw ?_);conv=>whnf)
             revert h
             refine brk (fun c10 h=>?_) (fun c10 h=>?_)
             ·conv=>whnf
              repeat((first|refine dw ?_|refine bct c10 ?_);conv=>whnf)
              exact K _ h
             ·conv=>whnf
              repeat((first|refine dw ?_|refine bcf c10 ?_);conv=>whnf)
              refine loop_intro hX ?_
              conv=>whnf
              repeat((first|refine dw ?_);conv=>whnf)
              exact K _ h
theorem law00_Entries_c  {p0:List Line} {r:(List Entry)} (h:law00_Entries_s p0=some r) (hQ:Q (.one (.p (.sl (r.map Entry.row)))) []):X (.call 70 [.one (.p (.sl (p0.map Line.row)))] [] Q):=by
  unfold law00_Entries_s at h
  refine call_nz hX ?_
  conv=>whnf
  refine call_intro hX Tryz.func70 rfl rfl ?_
  revert h
  refine chkk fun hs1 h=>?_
  conv=>whnf
  repeat((first|refine dw ?_);conv=>whnf)
  refine loop_k hX [11] ?_
  conv=>whnf
  refine loop_lisx1 (fun (v1:Int) (v2:List Entry)=>pad [(0,.one (.p (.sl (p0.map Line.row)))),(2,.one (.own 0)),(0,iv v1)] 33) (fun (v1:Int) (v2:List Entry)=>[.rows 11 (v2.map Entry.row)]) _ p0 (fun pre1 x1e xs1 v1 v2 hl1 hi1 h ih1=>?_) (fun v1 v2 hi1 h=>?_) ([]:List Entry) h
  ·rw [law00_Entries_l1] at h
   have am1:=at_mid hl1 hi1
   refine loop_intro hX ?_
   revert h
   refine bndk fun y3 e4 h=>?_
   conv=>whnf
   repeat((first|refine dw ?_|refine eqv_to (map_len _) ?_|refine bct (lt_mid hl1 hi1) ?_|refine bct (at_in am1) ?_|refine bct (andt (at_in am1) rfl) ?_|refine row_in (at_row am1) ?_|refine bct (andt (at_in (at_nat am1)) rfl) ?_|refine row_in (at_row (at_nat am1)) ?_);conv=>whnf)
   refine law00_Item_c hX e4 ?_
   revert h
   refine chkk fun c5 h=>?_
   conv=>whnf
   repeat((first|refine dw ?_|refine bct (at_in am1) ?_|refine bct (andt (at_in am1) rfl) ?_|refine row_in (at_row am1) ?_|refine bct (andt (at_in (at_nat am1)) rfl) ?_|refine row_in (at_row (at_nat am1)) ?_|refine bct (room_map c5 rfl rfl rfl rfl) ?_|refine eqv_to (cat_one (f:=Entry.row) v2 (Entry.mk y3 x1e.goes x1e.r x1e.c)) ?_);conv=>whnf)
   exact ih1 _ (v2++[(Entry.mk y3 x1e.goes x1e.r x1e.c)]) (wrL hs1 hl1 hi1) h
  ·rw [law00_Entries_l1] at h
   refine loop_intro hX ?_
   conv=>whnf
   repeat((first|refine dw ?_|refine eqv_to (map_len _) ?_|refine bcf (lt_end hi1) ?_);conv=>whnf)
   exact ret_some (f:=fun y=>.one (.p (.sl (y.map Entry.row)))) (g:=fun y=>[]) h hQ
theorem law00_Msg_c  {p0:Note} {r:Msg} (h:law00_Msg_s p0=some r) (hQ:Q (.agg (Msg.cs r)) []):X (.call 18 [.agg [ic p0.kind,ic p0.src,ic p0.dst,ic p0.sid,ic p0.turn,ic p0.f.op,.p (.v (.string p0.f.text)),ic p0.f.n,.p (.v (.float .f64 p0.f.re)),.p (.v (.float .f64 p0.f.im)),.p (.sl (Pred.lrows p0.f.kids)),ic p0.k.star.x0,ic p0.k.star.x1,ic p0.k.star.x2,ic p0.k.star.x3,ic p0.k.star.x4,ic p0.k.star.x5,ic p0.k.star.x6,ic p0.k.star.x7,.p (.sl (p0.k.l.map Frag.row)),.p (.sl (p0.have_.map Has.row)),ic p0.n,.p (.sl (p0.l.map Line.row)),.p (.v (.bool p0.star))]] [] Q):=by
 unfold law00_Msg_s at h
 refine call_nz hX ?_
 conv=>whnf
 refine call_intro hX Tryz.func18 rfl rfl ?_
 revert h
 refine bndk fun y1 e2 h=>?_
 conv=>whnf
 repeat((first|refine dw ?_);conv=>whnf)
 refine law00_Pred_c hX e2 ?_
 revert h
 refine bndk fun y3 e4 h=>?_
 conv=>whnf
 repeat((first|refine dw ?_);conv=>whnf)
 refine law00_Entries_c hX e4 ?_
 conv=>whnf
 repeat((first|refine dw ?_);conv=>whnf)
 exact ret_some (f:=fun y=>.agg (Msg.cs y)) (g:=fun y=>[]) h hQ
theorem law00_Short_c  {p0:Note} {r:Int} (h:law00_Short_s p0=some r) (hQ:Q (iv r) []):X (.call 17 [.agg [ic p0.kind,ic p0.src,ic p0.dst,ic p0.sid,ic p0.turn,ic p0.f.op,.p (.v (.string p0.f.text)),ic p0.f.n,.p (.v (.float .f64 p0.f.re)),.p (.v (.float .f64 p0.f.im)),.p (.sl (Pred.lrows p0.f.kids)),ic p0.k.star.x0,ic p0.k.star.x1,ic p0.k.star.x2,ic p0.k.star.x3,ic p0.k.star.x4,ic p0.k.star.x5,ic p0.k.star.x6,ic p0.k.star.x7,.p (.sl (p0.k.l.map Frag.row)),.p (.sl (p0.have_.map Has.row)),ic p0.n,.p (.sl (p0.l.map Line.row)),.p (.v (.bool p0.star))]] [] Q):=by
  have K:=fun a (e:some a=some r)=>ret_some (f:=fun y=>iv y) (g:=fun y=>[]) e hQ
  unfold law00_Short_s at h
  refine call_intro hX Tryz.func17 rfl rfl ?_
  conv=>whnf
  repeat((first|refine dw ?_|refine eqv_to (map_len _) ?_);conv=>whnf)
  revert h
  refine brk (fun c1 h=>?_) (fun c1 h=>?_)
  ·conv=>whnf
   repeat((first|refine dw ?_|refine bct c1 ?_);conv=>whnf)
   exact K _ h
  ·conv=>whnf
   repeat((first|refine dw ?_|refine bcf c1 ?_|refine eqv_to (map_len _) ?_);conv=>whnf)
   revert h
   refine brk (fun c2 h=>?_) (fun c2 h=>?_)
   ·conv=>whnf
    repeat((first|refine dw ?_|refine bct c2 ?_);conv=>whnf)
    exact K _ h
   ·revert h
    refine bndk fun y3 e4 h=>?_
    conv=>whnf
    repeat((first|refine dw ?_|refine bcf c2 ?_);conv=>whnf)
    refine law00_Small_c hX e4 ?_
    revert h
    refine bndk fun y5 e6 h=>?_
    conv=>whnf
    repeat((first|refine dw ?_);conv=>whnf)
    refine law00_Known_c hX e6 ?_
    conv=>whnf
    repeat((first|refine dw ?_);conv=>whnf)
    exact K _ h
theorem law00_Told_c  {p0:List Line} {r:Int} (h:law00_Told_s p0=some r) (hQ:Q (iv r) []):X (.call 55 [.one (.p (.sl (p0.map Line.row)))] [] Q):=by
  have K:=fun a (e:some a=some r)=>ret_some (f:=fun y=>iv y) (g:=fun y=>[]) e hQ
  unfold law00_Told_s at h
  refine call_intro hX Tryz.func55 rfl rfl ?_
  revert h
  refine chkk fun hs1 h=>?_
  conv=>whnf
  repeat((first|refine dw ?_);conv=>whnf)
  refine loop_lisx0 (fun (v1:Int)=>pad [(0,.one (.p (.sl (p0.map Line.row)))),(2,iv v1)] 14) (fun (v1:Int)=>[]) _ p0 (fun pre1 x1e xs1 v1  hl1 hi1 h ih1=>?_) (fun v1  hi1 h=>?_)  h
  ·rw [law00_Told_l1] at h
   have am1:=at_mid hl1 hi1
   refine loop_intro hX ?_
   revert h
   refine bndk fun y2 e3 h=>?_
   conv=>whnf
   repeat((first|refine dw ?_|refine eqv_to (map_len _) ?_|refine bct (lt_mid hl1 hi1) ?_|refine bct (at_in am1) ?_|refine bct (andt (at_in am1) rfl) ?_|refine row_in (at_row am1) ?_|refine bct (andt (at_in (at_nat am1)) rfl) ?_|refine row_in (at_row (at_nat am1)) ?_);conv=>whnf)
   refine Or.inl ?_
   conv=>whnf
   refine law00_Real_c hX e3 ?_
   conv=>whnf
   repeat((first|refine dw ?_);conv=>whnf)
   revert h
   refine brk (fun c4 h=>?_) (fun c4 h=>?_)
   ·conv=>whnf
    repeat((first|refine dw ?_|refine bct c4 ?_);conv=>whnf)
    exact K _ h
   ·conv=>whnf
    repeat((first|refine dw ?_|refine bcf c4 ?_);conv=>whnf)
    exact ih1 _  (wrL hs1 hl1 hi1) h
  ·rw [law00_Told_l1] at h
   refine loop_intro hX ?_
   conv=>whnf
   repeat((first|refine dw ?_|refine eqv_to (map_len _) ?_|refine bcf (lt_end hi1) ?_);conv=>whnf)
   exact K _ h
end
end Go.Proofs.YtidkmoohgadjkaaGreat
set_option maxHeartbeats 0
namespace Go.Proofs.YtidkmoohgadjkaaGreat
open Go E
noncomputable section
open Pred
variable {X:Task→Prop} (hX:Closed X) {Q:A→List Blk→Prop}
include hX
end
end Go.Proofs.YtidkmoohgadjkaaGreat
namespace Go.Proofs.YtidkmoohgadjkaaGreat
open Go E Pred
noncomputable section
open Classical
def know0:Know:=⟨zero8,[]⟩
theorem kt0:KT know0 0:=⟨Nat.le_refl _,Nat.le_refl _⟩
theorem ids0:IdsOk know0:=fun f hf=>by cases hf
theorem sameList_s {l:List Item} (hn:l.length≤1000000000) (h:∀ x∈l,sameI x x=true):ref06_SameList_s l l=some true:=by
 unfold ref06_SameList_s
 rw [eqI_t.2 rfl,br_f (by rfl),chk_t (smallL_of hn)]
 have:=sameList_l l [] l l rfl rfl fun p hp=>by
  obtain ⟨i,hi⟩:=List.getElem?_of_mem hp
  rw [List.getElem?_zip_eq_some] at hi
  have e:p.1=p.2:=by have:=hi.1.symm.trans hi.2; injection this
  rw [←e]
  exact h p.1 (List.mem_of_getElem? hi.1)
 exact this
theorem same9_s {s:State} {N:Nat} (h:SOk s N) (hN:N≤90000) (hf:sameP s.f s.f=true):ref09_Same_s s s=some true:=by
 have hl:=h.le
 unfold ref09_Same_s
 rw [eqI_self,eqI_self,eqI_self,eqI_self,bnd_of (rsame_s h.f),hf,bnd_of (sameList_s (by omega) fun x hx=>sameI_real (real_may (h.is x hx).2)),bnd_of (sameList_s (by omega) fun x hx=>sameI_real (real_may (h.io x hx).2)),bnd_of (alike_s (N:=N) (by omega) h.kt.kb),alike_self]
 rfl
theorem code_s {n:Int} (h:0≤n∧n≤10):law00_Code_s (errO n)=some n:=by
 obtain ⟨h1,h2⟩:=h
 have:n=0∨n=1∨n=2∨n=3∨n=4∨n=5∨n=6∨n=7∨n=8∨n=9∨n=10:=by omega
 rcases this with rfl | rfl | rfl | rfl | rfl | rfl | rfl | rfl | rfl | rfl | rfl<;>rfl
structure Deed9.Ok (d:Deed9):Prop where
 id:d.id.size≤9223372036854775807
 kind:d.kind.size≤9223372036854775807
 num : -9223372036854775808≤d.num∧d.num≤9223372036854775807
 f:d.f.Ok
end
end Go.Proofs.YtidkmoohgadjkaaGreat
namespace Go.Proofs.YtidkmoohgadjkaaGreat
open Go E Pred
noncomputable section
open Classical
def star1:Pred:=.mk 1 ⟨#[]⟩ 0 0 0 []
theorem star_ok:star1.Ok:=by
 unfold star1 Pred.Ok
 exact ⟨by decide,by decide,by decide,by decide,by unfold Pred.Oks; trivial⟩
theorem star_size:star1.size≤1000:=by unfold star1; rw [mk_size,sizes_nil]; decide
theorem sok_new {r:Int} {f:Pred} (hf:f.Ok) (hs:f.size≤1000):SOk (newS r f) 0 :=
 ⟨hf,hs,.nil,.nil,by show 0 + 0≤40; decide,fun id h=>rfl,fun i hi=>(by cases hi),fun i hi=>(by cases hi),kt0,ids0,by show (0:Int)≤0∧(0:Int)≤1000; decide,by show (0:Int)≤0∧(0:Int)≤1000000; decide,by show (0:Int)≤0∧(0:Int)≤1000000; decide⟩
theorem may_pf {f:Pred} (h:mayP f=true):sameP f f=true:=sameP_refl (mayP_iff.1 h).2.2
end
end Go.Proofs.YtidkmoohgadjkaaGreat
set_option maxHeartbeats 0
namespace Go.Proofs.YtidkmoohgadjkaaGreat
open Go E
noncomputable section
open Pred
variable {X:Task→Prop} (hX:Closed X) {Q:A→List Blk→Prop}
include hX
end
end Go.Proofs.YtidkmoohgadjkaaGreat
namespace Go.Proofs.YtidkmoohgadjkaaGreat
open Go E Pred
noncomputable section
open Classical
theorem item_f (s:State) (x:Item):(itemV s x).1.f=s.f:=by
 unfold itemV
 repeat' split
 all_goals rfl
theorem item_r (s:State) (x:Item):(itemV s x).1.r=s.r:=by
 unfold itemV
 repeat' split
 all_goals rfl
theorem goes_f (s:State) (id:ByteArray) (a b c d:Int):(goesV s id a b c d).f=s.f:=by unfold goesV; split<;>rfl
theorem goes_r (s:State) (id:ByteArray) (a b c d:Int):(goesV s id a b c d).r=s.r:=by unfold goesV; split<;>rfl
structure Deed10.Ok (d:Deed10):Prop where
 x:d.x.Ok
 d:d.d.Ok
end
end Go.Proofs.YtidkmoohgadjkaaGreat
namespace Go.Proofs.YtidkmoohgadjkaaGreat
open Go E Pred
noncomputable section
open Classical
structure VBd (v:V8) (b:Int→Int):Prop where
 lo:∀ q,0≤v.at q
 hi:∀ q,v.at q≤b q
structure KBd (k:Know) (b:Int→Int):Prop where
 s:VBd k.star b
 v:∀ f∈k.l,VBd f.vec b
 i:∀ f∈k.l, ∀ x∈f.ids,lettersB x 1=true
theorem KBd.nn {k:Know} {b:Int→Int} (h:KBd k b) (q:Int):0≤b q:=by have:=h.s.lo q; have:=h.s.hi q; omega
theorem KBd.mono {k:Know} {b d:Int→Int} (h:KBd k b) (hb:∀ q,b q≤d q):KBd k d :=
 ⟨⟨h.s.lo,fun q=>Int.le_trans (h.s.hi q) (hb q)⟩,fun f hf=>⟨(h.v f hf).lo,fun q=>Int.le_trans ((h.v f hf).hi q) (hb q)⟩,h.i⟩
def bq (r n:Int) (q:Int):Int:=if q=r then n else 1000
theorem mayV_at {v:V8}:mayV v=true↔∀ q,0≤v.at q∧v.at q≤1000:=by
 unfold mayV
 rw [decide_eq_true_eq]
 constructor
 ·intro h q
  rcases r8 q with h' | rfl | rfl | rfl | rfl | rfl | rfl | rfl | rfl
  ·have e:v.at q=0:=by unfold V8.at; repeat (rw [if_neg (by omega)])
   rw [e]; exact ⟨by omega,by omega⟩
  ·exact h.1
  ·exact h.2.1
  ·exact h.2.2.1
  ·exact h.2.2.2.1
  ·exact h.2.2.2.2.1
  ·exact h.2.2.2.2.2.1
  ·exact h.2.2.2.2.2.2.1
  ·exact h.2.2.2.2.2.2.2
 ·intro h
  exact ⟨h 1,h 2,h 3,h 4,h 5,h 6,h 7,h 8⟩
theorem of_kbd {k:Know} {r n:Int} (hn:n≤1000) (hp:plainK k=k) (h:KBd k (bq r n)):mayK k=true∧beyondB k r n=false:=by
 have key:∀ v:V8,VBd v (bq r n)→mayV v=true∧v.at r≤n:=fun v hv=>by
  constructor
  ·refine mayV_at.2 fun q=>⟨hv.lo q,?_⟩
   have:=hv.hi q
   unfold bq at this
   split at this<;>omega
  ·have:=hv.hi r
   unfold bq at this
   rwa [if_pos rfl] at this
 constructor
 ·refine mayK_iff.2 ⟨hp,(key _ h.s).1,fun f hf=>?_⟩
  unfold mayF
  rw [(key _ (h.v f hf)).1,Bool.true_and]
  exact List.all_eq_true.2 fun x hx=>h.i f hf x hx
 ·unfold beyondB
  rw [Bool.or_eq_false_iff,ltI_f,List.any_eq_false]
  refine ⟨by have:=(key _ h.s).2; omega,fun f hf=>?_⟩
  rw [ltI_t]
  have:=(key _ (h.v f hf)).2
  omega
def StI (x:State) (b:Bool) (i:Item):Prop:=hasP x.f i=b∧hasK x.k i.id i.vr i.vc=true∧i.stamp≤x.clock
theorem stood_iff {x:State} {l:List Item} {b:Bool}:stoodB x l b=true↔∀ i∈l,StI x b i:=by
 unfold stoodB
 rw [List.all_eq_true]
 constructor
 ·intro h i hi
  have:=h i hi
  rw [Bool.and_eq_true,Bool.and_eq_true,leI_t,beq_iff_eq] at this
  exact this
 ·intro h i hi
  obtain ⟨h1,h2,h3⟩:=h i hi
  rw [Bool.and_eq_true,Bool.and_eq_true,leI_t,beq_iff_eq]
  exact ⟨h1,h2,h3⟩
structure MOk (x:State) (N:Nat):Prop where
 ok:SOk x N
 p:mayP x.f=true
 r:1≤x.r∧x.r≤8
 pl:plainK x.k=x.k
 kb:KBd x.k (bq x.r x.count)
 i:∀ y∈x.store,StI x true y
 o:∀ y∈x.out,StI x false y
theorem MOk.may {x:State} {N:Nat} (h:MOk x N):mayS x=true:=by
 have hk:=of_kbd h.ok.cn.2 h.pl h.kb
 exact mayS_iff.2 ⟨h.p,may_of h.ok.rs fun y hy=>(h.ok.is y hy).2,may_of h.ok.ro fun y hy=>(h.ok.io y hy).2,hk.1,h.r,h.ok.le,h.ok.cn,h.ok.cl,h.ok.ep,h.ok.dj,stood_iff.2 h.i,stood_iff.2 h.o,hk.2⟩
theorem MOk.mono {x:State} {N M:Nat} (h:MOk x N) (hm:N≤M):MOk x M:=⟨h.ok.mono hm,h.p,h.r,h.pl,h.kb,h.i,h.o⟩
end
end Go.Proofs.YtidkmoohgadjkaaGreat
namespace Go.Proofs.YtidkmoohgadjkaaGreat
open Go E Pred
noncomputable section
open Classical
def RisI (l:List Int):Prop:=l.Pairwise (· < ·)
theorem risI_cons {x:Int} {l:List Int}:RisI (x::l)↔(∀ y∈l,x < y)∧RisI l:=List.pairwise_cons
theorem risI_get {l:List Int} (hr:RisI l) {i j:Nat} {x y:Int} (hx:l[i]?=some x) (hy:l[j]?=some y) (h:i < j):x < y:=by
 obtain ⟨hi,rfl⟩:=List.getElem?_eq_some_iff.1 hx
 obtain ⟨hj,rfl⟩:=List.getElem?_eq_some_iff.1 hy
 exact List.pairwise_iff_getElem.1 hr i j hi hj h
theorem bs_l {l:List Int} {n:Int} (hr:RisI l) (hn:l.length≤999990):∀ (fl i j:Nat),i≤j→j≤l.length→j - i < fl→(∀ k x,l[k]?=some x→k < i→x < n)→(∀ k x,l[k]?=some x→j≤k→n≤x) →
  ∃ p,p≤l.length∧slices_BinarySearch_int_int_l1 l n fl (i:Int) (j:Int)=some ((p:Int),match l[p]? with | some x=>eqI x n | none=>false)∧(∀ k x,l[k]?=some x→k < p→x < n)∧(∀ k x,l[k]?=some x→p≤k→n≤x)
 | 0,i,j,_,_,h,_,_=>by omega
 | fl + 1,i,j,hij,hj,hf,h1,h2=>by
  rw [slices_BinarySearch_int_int_l1]
  by_cases hlt:i < j
  ·have hm:(i + j) / 2 < l.length:=by omega
   rw [br_t (by rw [ltI_t]; omega),mid_of (by omega),bnd_of (atL_of hm),br_f (by rw [eqI_self]; rfl)]
   have hx:l[(i + j) / 2]?=some l[(i + j) / 2]:=List.getElem?_eq_getElem hm
   by_cases hc:l[(i + j) / 2] < n
   ·rw [br_t (ltI_t.2 hc),wrS (by omega)]
    refine bs_l hr hn fl ((i + j) / 2 + 1) j (by omega) hj (by omega) (fun k x hk hki=>?_) h2
    by_cases hkm:k=(i + j) / 2
    ·subst hkm; rw [hx] at hk; injection hk with hk; rw [←hk]; exact hc
    ·have:=risI_get hr hk hx (by omega); omega
   ·rw [br_f (ltI_f.2 (by omega))]
    refine bs_l hr hn fl i ((i + j) / 2) (by omega) (by omega) (by omega) h1 (fun k x hk hki=>?_)
    by_cases hkm:k=(i + j) / 2
    ·subst hkm; rw [hx] at hk; injection hk with hk; omega
    ·have:=risI_get hr hx hk (by omega); omega
  ·obtain rfl:i=j:=by omega
   refine ⟨i,hj,?_,h1,h2⟩
   rw [br_f (by rw [ltI_f]; omega)]
   by_cases hil:i < l.length
   ·have hx:l[i]?=some l[i]:=List.getElem?_eq_getElem hil
    rw [br_t (by rw [ltI_t]; omega),bnd_of (atL_of hil),eqI_self,hx]
    dsimp only
    cases eqI l[i] n<;>rfl
   ·rw [br_f (by rw [ltI_f]; omega),List.getElem?_eq_none (by omega)]
theorem bs_s {l:List Int} {n:Int} (hr:RisI l) (hn:l.length≤999990):∃ A B:List Int,l=A++B∧(∀ x∈A,x < n)∧(∀ x∈B,n≤x)∧slices_BinarySearch_int_int_s l n=some ((A.length:Int),decide (n∈l)):=by
 obtain ⟨p,hp,e,h1,h2⟩:=bs_l (n:=n) hr hn fuelN 0 l.length (Nat.zero_le _) (Nat.le_refl _) (by unfold fuelN; omega) (fun k x _ h=>by omega) (fun k x hk h=>by rw [List.getElem?_eq_none h] at hk; cases hk)
 have hA:∀ x∈l.take p,x < n:=fun x hx=>by
  obtain ⟨k,hk⟩:=List.getElem?_of_mem hx
  rw [List.getElem?_take] at hk
  split at hk
  ·exact h1 k x hk (by omega)
  ·cases hk
 have hB:∀ x∈l.drop p,n≤x:=fun x hx=>by
  obtain ⟨k,hk⟩:=List.getElem?_of_mem hx
  rw [List.getElem?_drop] at hk
  exact h2 _ x hk (by omega)
 refine ⟨l.take p,l.drop p,(List.take_append_drop p l).symm,hA,hB,?_⟩
 unfold slices_BinarySearch_int_int_s
 rw [show ((0:Nat):Int)=0 from rfl] at e
 rw [e,List.length_take,Nat.min_eq_left hp]
 congr 2
 cases hx:l[p]? with
 | none =>
  symm
  rw [decide_eq_false_iff_not]
  intro hm
  obtain ⟨k,hk⟩:=List.getElem?_of_mem hm
  have hpl:l.length≤p:=List.getElem?_eq_none_iff.1 hx
  have:=h1 k n hk (by have:=(List.getElem?_eq_some_iff.1 hk).1; omega)
  omega
 | some x =>
  dsimp only
  by_cases he:x=n
  ·rw [eqI_t.2 he]; symm; rw [decide_eq_true_eq,←he]; exact List.mem_of_getElem? hx
  ·rw [eqI_f.2 he]; symm
   rw [decide_eq_false_iff_not]
   intro hm
   obtain ⟨k,hk⟩:=List.getElem?_of_mem hm
   have hx2:=h2 p x hx (Nat.le_refl _)
   by_cases hkp:k < p
   ·have:=h1 k n hk hkp; omega
   ·by_cases hk2:k=p
    ·subst hk2; rw [hx] at hk; injection hk with hk; exact he hk
    ·have:=risI_get hr hx hk (by omega); omega
def withI (l:List Int) (n:Int):List Int:=l.filter (fun x=>decide (x < n))++n::l.filter (fun x=>decide (n < x))
theorem withI_parts {A B:List Int} {n:Int} (hA:∀ x∈A,x < n) (hB:∀ x∈B,n < x):withI (A++B) n=A++n::B:=by
 unfold withI
 rw [List.filter_append,List.filter_append,List.filter_eq_self.2 fun x hx=>decide_eq_true (hA x hx),List.filter_eq_nil_iff.2 fun x hx=>by have:=hB x hx; simp; omega,List.filter_eq_nil_iff.2 fun x hx=>by have:=hA x hx; simp; omega,List.filter_eq_self.2 fun x hx=>decide_eq_true (hB x hx)]
 simp
theorem withI_mid {A B:List Int} {n:Int} (hA:∀ x∈A,x < n) (hB:∀ x∈B,n < x):withI (A++n::B) n=A++n::B:=by
 unfold withI
 rw [List.filter_append,List.filter_append,List.filter_cons,List.filter_cons,List.filter_eq_self.2 fun x hx=>decide_eq_true (hA x hx),List.filter_eq_nil_iff.2 fun x hx=>by have:=hB x hx; simp; omega,List.filter_eq_nil_iff.2 fun x hx=>by have:=hA x hx; simp; omega,List.filter_eq_self.2 fun x hx=>decide_eq_true (hB x hx)]
 simp
theorem put_s {l:List Int} {n:Int} (hr:RisI l) (hn:l.length≤1000) {α:Type} (f:List Int→Option α):(bnd (slices_BinarySearch_int_int_s l n) fun y=>br (!y.2) (bnd (insi_s l y.1 n) f) (f l))=f (withI l n):=by
 obtain ⟨A,B,e,hA,hB,h⟩:=bs_s (n:=n) hr (by omega)
 rw [bnd_of h]
 have hr2:RisI (A++B):=by rw [←e]; exact hr
 by_cases hm:n∈l
 ·rw [decide_eq_true hm,br_f (by rfl)]
  congr 1
  rw [e] at hm ⊢
  have hmB:n∈B:=by
   rcases List.mem_append.1 hm with h | h
   ·have:=hA n h; omega
   ·exact h
  cases B with
  | nil=>cases hmB
  | cons b B =>
   have hrB:RisI (b::B):=(List.pairwise_append.1 hr2).2.1
   have hb:=(risI_cons.1 hrB).1
   have h1:=hB b (List.mem_cons_self ..)
   have hbn:b=n:=by
    rcases List.mem_cons.1 hmB with h | h
    ·exact h.symm
    ·have:=hb n h; omega
   subst hbn
   exact (withI_mid hA hb).symm
 ·rw [decide_eq_false hm,br_t (by rfl)]
  have hi:insi_s l (A.length:Int) n=some (withI l n):=by
   unfold insi_s
   have hle:A.length≤l.length:=by rw [e,List.length_append]; omega
   rw [chk_t (decide_eq_true ⟨by omega,by omega,by omega⟩),Int.toNat_natCast,e,List.take_left',List.drop_left',withI_parts hA]
   ·intro x hx
    have h1:=hB x hx
    have:x≠n:=fun h2=>hm (by rw [e,←h2]; exact List.mem_append.2 (.inr hx))
    omega
   ·rfl
   ·rfl
  rw [bnd_of hi]
theorem with_l {n:Int}:∀ (l:List Int) (acc:List Int),acc.length + 2 * l.length≤900000→(ref11_with_l1 n l true acc=some (acc++l.filter fun x=>decide (x≠n)))∧(RisI l→ref11_with_l1 n l false acc=some (acc++withI l n))
 | [],acc,h=>by
  rw [List.length_nil] at h
  refine ⟨by rw [ref11_with_l1]; simp [br],fun _=>?_⟩
  rw [ref11_with_l1,br_t (by rfl),chk_t (roomL_of (by omega))]; rfl
 | x::l,acc,h=>by
  rw [List.length_cons] at h
  have ih:=fun a (e:List.length a≤acc.length + 2) (e2:List.length a + 2 * l.length≤900000)=>with_l (n:=n) l a e2
  have jt:∀ a:List Int,a.length≤acc.length + 1→a.length + 2 * l.length + 1≤900000→ref11_with_j2 n x (fun w0 w1=>ref11_with_l1 n l w0 w1) true a=some (a++(x::l).filter fun y=>decide (y≠n)):=fun a ha h2=>by
   unfold ref11_with_j2
   rw [chk_t (roomL_of (by omega))]
   dsimp only
   rw [(ih (a++[x]) (by simp; omega) (by simp; omega)).1,(ih a (by omega) (by omega)).1,List.filter_cons]
   by_cases he:x=n
   ·rw [eqI_t.2 he,if_neg (by simp [he])]; rfl
   ·rw [eqI_f.2 he,if_pos (by simp [he])]; simp [br]
  refine ⟨by rw [ref11_with_l1,br_f (by rfl),jt acc (by omega) (by omega)],fun hr=>?_⟩
  obtain ⟨h1,h2⟩:=risI_cons.1 hr
  rw [ref11_with_l1,br_t (by rfl)]
  by_cases hle:n≤x
  ·have jt':=jt (acc++[n]) (by simp) (by simp only [List.length_append,List.length_singleton]; omega)
   by_cases hroom:acc.length + 1 + 2 * l.length + 1≤900000
   ·rw [br_t (leI_t.2 hle),chk_t (roomL_of (by omega)),jt',List.append_assoc]
    congr 2
    by_cases he:x=n
    ·subst he
     have:=withI_mid (A:=[]) (B:=l) (n:=x) (fun y hy=>by cases hy) h1
     rw [List.nil_append] at this
     rw [this,List.filter_cons,if_neg (by simp),List.filter_eq_self.2 fun y hy=>by have:=h1 y hy; simp; omega]; rfl
    ·have hgt:∀ y∈x::l,n < y:=fun y hy=>by
      rcases List.mem_cons.1 hy with rfl | hy
      ·omega
      ·have:=h1 y hy; omega
     have:=withI_parts (A:=[]) (B:=x::l) (n:=n) (fun y hy=>by cases hy) hgt
     rw [List.nil_append] at this
     rw [this,List.filter_eq_self.2 fun y hy=>by have:=hgt y hy; simp; omega]; rfl
   ·omega
  ·rw [br_f (leI_f.2 (by omega))]
   unfold ref11_with_j2
   rw [br_t (by rw [eqI_f.2 (by omega)]; rfl),chk_t (roomL_of (by omega))]
   dsimp only
   rw [(ih (acc++[x]) (by simp) (by simp; omega)).2 h2,List.append_assoc]
   congr 2
   unfold withI
   rw [List.filter_cons,List.filter_cons,if_pos (by simp; omega),if_neg (by simp; omega)]; rfl
theorem with_s {l:List Int} {n:Int} (hr:RisI l) (hn:l.length≤1000):ref11_with_s l n=some (withI l n):=by
 unfold ref11_with_s
 rw [chk_t (smallL_of (by omega)),(with_l l [] (by simp; omega)).2 hr]; rfl
def cameB (l:List Int) (n:Int):Bool:=decide (∀ i:Int,0≤i→i < n→i∈l)
def cameF (l:List Int) (v n:Int):Bool:=decide (∀ i:Int,v≤i→i < n→i∈l)
theorem cameF_end {l:List Int} {v n:Int} (h:¬ v < n):cameF l v n=true:=decide_eq_true fun i h1 h2=>by omega
theorem cameF_step {l:List Int} {v n:Int} (h:v < n):cameF l v n=(decide (v∈l)&&cameF l (v + 1) n):=by
 unfold cameF
 rw [Bool.eq_iff_iff,Bool.and_eq_true,decide_eq_true_eq,decide_eq_true_eq,decide_eq_true_eq]
 constructor
 ·exact fun hh=>⟨hh v (by omega) h,fun i h1 h2=>hh i (by omega) h2⟩
 ·rintro ⟨h1,h2⟩ i h3 h4
  by_cases hi:i=v
  ·rw [hi]; exact h1
  ·exact h2 i (by omega) h4
theorem all_l1 {x:Sess} (hr:RisI x.got) (hn:x.got.length≤1000) (h1:x.n≤1000):∀ (fl:Nat) (v:Int),0≤v→v≤1000→2000 < (fl:Int) + v→take_all_l1 x fl v=some (cameF x.got v x.n)
 | 0,v,_,_,h=>by omega
 | fl + 1,v,h0,hv,hf=>by
  rw [take_all_l1]
  by_cases hlt:v < x.n
  ·obtain ⟨A,B,e,hA,hB,hb⟩:=bs_s (n:=v) hr (by omega)
   rw [br_t (ltI_t.2 hlt),bnd_of hb,cameF_step hlt,wr64 (by omega) (by omega),all_l1 hr hn h1 fl (v + 1) (by omega) (by omega) (by omega)]
   cases decide (v∈x.got)<;>rfl
  ·rw [br_f (ltI_f.2 (by omega)),cameF_end hlt]
theorem all_sI {x:Sess} (hr:RisI x.got) (hn:x.got.length≤1000) (h1:x.n≤1000):take_all_s x=some (cameB x.got x.n):=by
 unfold take_all_s
 exact all_l1 hr hn h1 fuelN 0 (by omega) (by omega) (by unfold fuelN; omega)
theorem came_l2 {v:Int} {k:Int→Option Bool}:∀ (l:List Int) (b:Bool),ref11_came_l2 v k l b=br (!(b || decide (v∈l))) (some false) (k (wr .i64 (v + 1)))
 | [],b=>by rw [ref11_came_l2]; simp
 | x::l,b=>by
  rw [ref11_came_l2,came_l2 l,came_l2 l]
  cases b with
  | true=>simp [br]
  | false =>
   by_cases he:x=v
   ·rw [eqI_t.2 he]; simp [br,he]
   ·have:¬ v=x:=fun h=>he h.symm
    rw [eqI_f.2 he]; simp [br,this]
theorem came_l1 {l:List Int} {n:Int} (hn:l.length≤1000) (h1:n≤1000):∀ (fl:Nat) (v:Int),0≤v→v≤1000→2000 < (fl:Int) + v→ref11_came_l1 l n fl v=some (cameF l v n)
 | 0,v,_,_,h=>by omega
 | fl + 1,v,h0,hv,hf=>by
  rw [ref11_came_l1]
  by_cases hlt:v < n
  ·rw [br_t (ltI_t.2 hlt),chk_t (smallL_of (by omega)),came_l2,cameF_step hlt,wr64 (by omega) (by omega),came_l1 hn h1 fl (v + 1) (by omega) (by omega) (by omega)]
   cases decide (v∈l)<;>rfl
  ·rw [br_f (ltI_f.2 (by omega)),cameF_end hlt]
theorem came_sI {l:List Int} {n:Int} (hn:l.length≤1000) (h1:n≤1000):ref11_came_s l n=some (cameB l n):=by
 unfold ref11_came_s
 exact came_l1 hn h1 fuelN 0 (by omega) (by omega) (by unfold fuelN; omega)
theorem withI_ris {l:List Int} (h:RisI l) (n:Int):RisI (withI l n):=by
 unfold withI RisI
 refine List.pairwise_append.2 ⟨h.filter _,List.pairwise_cons.2 ⟨fun y hy=>?_,h.filter _⟩,fun a ha b hb=>?_⟩
 ·have:=(List.mem_filter.1 hy).2; simpa using this
 ·have h1:=(List.mem_filter.1 ha).2
  rw [decide_eq_true_eq] at h1
  rcases List.mem_cons.1 hb with rfl | hb
  ·exact h1
  ·have h2:=(List.mem_filter.1 hb).2
   rw [decide_eq_true_eq] at h2
   show a < b
   omega
theorem withI_len (l:List Int) (n:Int):(withI l n).length≤2 * l.length + 1:=by
 unfold withI
 rw [List.length_append,List.length_cons]
 have:=List.length_filter_le (fun x=>decide (x < n)) l
 have:=List.length_filter_le (fun x=>decide (n < x)) l
 omega
theorem withI_mem {l:List Int} {n x:Int} (h:x∈withI l n):x=n∨x∈l:=by
 unfold withI at h
 rcases List.mem_append.1 h with h | h
 ·exact .inr (List.mem_filter.1 h).1
 ·rcases List.mem_cons.1 h with h | h
  ·exact .inl h
  ·exact .inr (List.mem_filter.1 h).1
end
end Go.Proofs.YtidkmoohgadjkaaGreat
set_option maxHeartbeats 4000000
namespace Go.Proofs.YtidkmoohgadjkaaGreat
open Go E Go.ChangeShapes Go.WideShapes Go.ChangeAt Go.RowKit
theorem cellsTree:Tryz.prog.cellsOf 25=6:=by kernel_rfl
theorem cellsTrees:Tryz.prog.cellsOf 23=1:=by kernel_rfl
abbrev nodeSh (s:Sh):Sh:=.cat (.int .i64) (.cat .str (.cat (.int .i64) (.cat (.flt .f64) (.cat (.flt .f64) (.cat (.sl s) .nil)))))
def treeSh:Nat→Sh
 | 0=>.no 6
 | 1=>nodeSh (.no 6)
 | n + 2=>nodeSh (treeSh n)
theorem tree_size:∀ n,(treeSh n).size=6
 | 0=>rfl
 | 1=>rfl
 | n + 2=>rfl
theorem node_ok {n:Nat} {s:Sh} (hs:s.size=6) (hk:ShOk Tryz.prog n 23 (.sl s)):ShOk Tryz.prog (n + 1) 25 (nodeSh s) :=
 .struct Tryz.underlying25 cellsTree (.cons rfl cellsInt (shInt n) (.cons rfl cellsStr (shStr n) (.cons rfl cellsInt (shInt n) (.cons rfl cellsFlt (shFlt n) (.cons rfl cellsFlt (shFlt n) (.cons rfl cellsTrees hk .nil))))))
theorem shTree:∀ n,ShOk Tryz.prog n 25 (treeSh n)
 | 0=>.zero
 | 1=>node_ok rfl .zero
 | n + 2=>node_ok (tree_size n) (.sl Tryz.underlying23 (by rw [tree_size]; exact cellsTree) (by rw [tree_size]; decide) (shTree n))
theorem rows_of {P:List PC→Prop} {Ok:Pred→Prop} (h:∀ r,P r→∃ p:Pred,Ok p∧r=p.lrow):∀ (l:List (List PC)),(∀ r∈l,P r)→∃ ps:List Pred,(∀ p∈ps,Ok p)∧l=ps.map Pred.lrow
 | [],_=>⟨[],by simp,rfl⟩
 | r::l,hl=>by
  obtain ⟨p,hp,rfl⟩:=h r (hl r (by simp))
  obtain ⟨ps,hps,rfl⟩:=rows_of h l fun r hr=>hl r (by simp [hr])
  exact ⟨p::ps,by simpa using ⟨hp,hps⟩,rfl⟩
theorem node_fits {s:Sh} {l:List PC} (hk:∀ r,Fits s r→∃ p:Pred,p.Ok∧r=p.lrow) (h:Fits (nodeSh s) l):∃ p:Pred,p.Ok∧l=p.lrow:=by
 obtain ⟨_,_,rfl,⟨x0,rfl,w0⟩,_,_,rfl,⟨x1,rfl,w1⟩,_,_,rfl,⟨x2,rfl,w2⟩,_,_,rfl,⟨x3,rfl,w3⟩,_,_,rfl,⟨x4,rfl,w4⟩,_,_,rfl,⟨rs,rfl,w5,w6⟩,rfl⟩:=h
 obtain ⟨ps,h1,rfl⟩:=rows_of (P:=Fits s) (Ok:=Pred.Ok) hk rs w6
 refine ⟨.mk x0 x1 x2 x3 x4 ps,?_,?_⟩
 ·unfold Pred.Ok
  exact ⟨i64_of w0,Nat.le_trans w1 (by decide),i64_of w2,by rw [List.length_map] at w5; exact Nat.le_trans w5 (by decide),Pred.Oks_of h1⟩
 ·rw [Pred.lrow_eq]; simp only [Pred.lrows_eq]; rfl
theorem tree_fits:∀ n {l:List PC},Fits (treeSh n) l→∃ p:Pred,p.Ok∧l=p.lrow
 | 0,l,h=>False.elim h
 | 1,l,h=>node_fits (s:=.no 6) (fun r h=>False.elim h) h
 | n + 2,l,h=>node_fits (fun r h=>tree_fits n h) h
section
variable {H:Type} {enc:TypeId × Value→H} {W:World} {v:Value} {d:DataW H} {ps:List MemPlace} {b0:Nat}
end
end Go.Proofs.YtidkmoohgadjkaaGreat
set_option maxHeartbeats 4000000
namespace Go.Proofs.YtidkmoohgadjkaaGreat
open Go E Go.ChangeShapes Go.WideShapes Go.ChangeAt Go.RowKit
theorem cellsSit:Tryz.prog.cellsOf 33=21:=by kernel_rfl
def sitSh (n:Nat):Sh:=.cat (.int .i64) (.cat (treeSh (n - 1)) (.cat (.sl rowSh) (.cat (.sl rowSh) (.cat knowSh (.cat (.int .i64) (.cat (.int .i64) (.cat (.int .i64) .nil)))))))
theorem sit_size (n:Nat):(sitSh n).size=21:=by unfold sitSh; simp only [Sh.size,tree_size]; rfl
theorem shSit:∀ n,ShOk Tryz.prog n 33 (sitSh n)
 | 0=>.zero
 | n + 1=>.struct Tryz.underlying33 (by rw [sit_size]; exact cellsSit) (.cons rfl cellsInt (shInt n) (.cons rfl (by rw [show n + 1 - 1=n from rfl,tree_size]; exact cellsTree) (shTree n)
   (.cons (by rw [show n + 1 - 1=n from rfl,tree_size]; rfl) cellsRows (shRows n) (.cons (by rw [show n + 1 - 1=n from rfl,tree_size]; rfl) cellsRows (shRows n) (.cons (by rw [show n + 1 - 1=n from rfl,tree_size]; rfl) cellsKnow (shKnow n)
   (.cons (by rw [show n + 1 - 1=n from rfl,tree_size]; rfl) cellsInt (shInt n) (.cons (by rw [show n + 1 - 1=n from rfl,tree_size]; rfl) cellsInt (shInt n) (.cons (by rw [show n + 1 - 1=n from rfl,tree_size]; rfl) cellsInt (shInt n) .nil))))))))
abbrev Sit.la (s:Sit):A:=.agg [ic s.r,ic s.f.op,.p (.v (.string s.f.text)),ic s.f.n,.p (.v (.float .f64 s.f.re)),.p (.v (.float .f64 s.f.im)),.p (.sl (Pred.lrows s.f.kids)),.p (.sl (s.store.map Item.lrow)),.p (.sl (s.out.map Item.lrow)),
 ic s.k.star.x0,ic s.k.star.x1,ic s.k.star.x2,ic s.k.star.x3,ic s.k.star.x4,ic s.k.star.x5,ic s.k.star.x6,ic s.k.star.x7,.p (.sl (s.k.l.map Frag.row)),ic s.count,ic s.clock,ic s.epoch]
section
variable {H:Type} {enc:TypeId × Value→H} {W:World} {v:Value} {d:DataW H} {ps:List MemPlace} {b0:Nat}
theorem arg_sit (hv:Value.okWide Tryz.prog W .any b0 33 v) (h:DataW.Trod enc Tryz.prog W 0 (fun _=>true) true 33 v d ps):∃ s:Sit,s.Ok∧VA W (zoneOf W) noLoc s.la v:=by
 obtain ⟨n,l,h1,h2⟩:=arg_agg shSit (.inl ⟨_,Tryz.underlying33⟩) hv h
 obtain ⟨_,_,rfl,⟨x0,rfl,w0⟩,_,_,rfl,hf,_,_,rfl,hs,_,_,rfl,ho,_,_,rfl,hk,_,_,rfl,⟨x1,rfl,w1⟩,_,_,rfl,⟨x2,rfl,w2⟩,_,_,rfl,⟨x3,rfl,w3⟩,rfl⟩:=h1
 obtain ⟨p,op,rfl⟩:=tree_fits _ hf
 obtain ⟨xs,hx,rfl⟩:=fits_rows hs
 obtain ⟨ys,hy,rfl⟩:=fits_rows ho
 obtain ⟨k,hi,rfl⟩:=fits_know hk
 rw [Pred.lrow_eq] at h2
 exact ⟨⟨x0,p,xs,ys,k,x1,x2,x3⟩,⟨op,hx,hy,hi⟩,h2⟩
end
end Go.Proofs.YtidkmoohgadjkaaGreat
namespace Go.Proofs.YtidkmoohgadjkaaGreat
open Go E Pred
noncomputable section
open Classical
structure Has.Ok (x:Has):Prop where
 id:x.id.size≤9223372036854775807
 vr : -9223372036854775808≤x.vr∧x.vr≤9223372036854775807
 vc : -9223372036854775808≤x.vc∧x.vc≤9223372036854775807
 stamp : -9223372036854775808≤x.stamp∧x.stamp≤9223372036854775807
structure MsgB (m:Msg):Prop where
 f:m.f.Ok
 fs:m.f.size≤1000
 k:KT m.k 90000
 ids:IdsOk m.k
 h:∀ x∈m.have_,x.Ok
 hl:m.have_.length≤1000
 l:m.l.length≤1000
end
end Go.Proofs.YtidkmoohgadjkaaGreat
set_option maxHeartbeats 4000000
namespace Go.Proofs.YtidkmoohgadjkaaGreat
open Go E Go.ChangeShapes Go.WideShapes Go.ChangeAt Go.RowKit
theorem cellsHas:Tryz.prog.cellsOf 74=4:=by kernel_rfl
theorem cellsHass:Tryz.prog.cellsOf 34=1:=by kernel_rfl
theorem cellsLine:Tryz.prog.cellsOf 175=12:=by kernel_rfl
theorem cellsLines:Tryz.prog.cellsOf 35=1:=by kernel_rfl
theorem cellsInts:Tryz.prog.cellsOf 59=1:=by kernel_rfl
theorem cellsNote:Tryz.prog.cellsOf 37=24:=by kernel_rfl
abbrev hasSh:Sh:=.cat .str (.cat verSh (.cat (.int .i64) .nil))
theorem shHas:∀ n,ShOk Tryz.prog n 74 hasSh
 | 0=>.zero
 | n + 1=>.struct Tryz.underlying74 cellsHas (.cons rfl cellsStr (shStr n) (.cons rfl cellsVer (shVer n) (.cons rfl cellsInt (shInt n) .nil)))
theorem shHass:∀ n,ShOk Tryz.prog n 34 (.sl hasSh)
 | 0=>.zero
 | n + 1=>.sl Tryz.underlying34 cellsHas (by decide) (shHas n)
abbrev lineSh:Sh:=.cat rowSh (.cat .bool (.cat (.int .i64) (.cat (.int .i64) .nil)))
theorem shLine:∀ n,ShOk Tryz.prog n 175 lineSh
 | 0=>.zero
 | n + 1=>.struct Tryz.underlying175 cellsLine (.cons rfl cellsRow (shRow n) (.cons rfl cellsBool (shBool n) (.cons rfl cellsInt (shInt n) (.cons rfl cellsInt (shInt n) .nil))))
theorem shLines:∀ n,ShOk Tryz.prog n 35 (.sl lineSh)
 | 0=>.zero
 | n + 1=>.sl Tryz.underlying35 cellsLine (by decide) (shLine n)
theorem shInts:∀ n,ShOk Tryz.prog n 59 (.sl (.int .i64))
 | 0=>.zero
 | n + 1=>.sl Tryz.underlying59 cellsInt (by decide) (shInt n)
theorem fits_has {l:List PC} (h:Fits hasSh l):∃ x:Has,x.Ok∧l=x.row:=by
 obtain ⟨_,_,rfl,⟨x0,rfl,w0⟩,_,_,rfl,⟨_,_,rfl,⟨x1,rfl,w1⟩,_,_,rfl,⟨x2,rfl,w2⟩,rfl⟩,_,_,rfl,⟨x3,rfl,w3⟩,rfl⟩:=h
 exact ⟨⟨x0,x1,x2,x3⟩,⟨Nat.le_trans w0 (by decide),i64_of w1,i64_of w2,i64_of w3⟩,rfl⟩
theorem fits_hass {l:List PC} (h:Fits (.sl hasSh) l):∃ xs:List Has,(∀ x∈xs,x.Ok)∧l=[.sl (xs.map Has.row)]:=by
 obtain ⟨rows,rfl,_,hr⟩:=h
 obtain ⟨xs,hx,rfl⟩:=list_of (P:=Fits hasSh) (Ok:=Has.Ok) (f:=Has.row) (fun r h=>fits_has h) rows hr
 exact ⟨xs,hx,rfl⟩
theorem fits_line {l:List PC} (h:Fits lineSh l):∃ x:Line,x.item.Ok∧l=x.row:=by
 obtain ⟨_,_,rfl,hx,_,_,rfl,⟨b,rfl⟩,_,_,rfl,⟨x1,rfl,w1⟩,_,_,rfl,⟨x2,rfl,w2⟩,rfl⟩:=h
 obtain ⟨x,ox,rfl⟩:=fits_row hx
 exact ⟨⟨x,b,x1,x2⟩,ox,rfl⟩
theorem fits_linesL {l:List PC} (h:Fits (.sl lineSh) l):∃ xs:List Line,(∀ x∈xs,x.item.Ok)∧xs.length≤9223372036854775807∧l=[.sl (xs.map Line.row)]:=by
 obtain ⟨rows,rfl,hn,hr⟩:=h
 obtain ⟨xs,hx,rfl⟩:=list_of (P:=Fits lineSh) (Ok:=fun x:Line=>x.item.Ok) (f:=Line.row) (fun r h=>fits_line h) rows hr
 rw [List.length_map] at hn
 exact ⟨xs,hx,Nat.le_trans hn (by decide),rfl⟩
theorem fits_intsL {l:List PC} (h:Fits (.sl (.int .i64)) l):∃ xs:List Int,(∀ x∈xs, -9223372036854775808≤x∧x≤9223372036854775807)∧xs.length≤9223372036854775807∧l=[.sl (xs.map irw)]:=by
 obtain ⟨rows,rfl,hn,hr⟩:=h
 obtain ⟨xs,hx,rfl⟩:=list_of (P:=Fits (.int .i64)) (Ok:=fun x:Int => -9223372036854775808≤x∧x≤9223372036854775807) (f:=irw) (fun r ⟨x,e,w⟩=>⟨x,i64_of w,e⟩) rows hr
 rw [List.length_map] at hn
 exact ⟨xs,hx,Nat.le_trans hn (by decide),rfl⟩
structure Note.Ok (x:Note):Prop where
 f:x.f.Ok
 ids:IdsOk x.k
 h:∀ y∈x.have_,y.Ok
 l:∀ y∈x.l,y.item.Ok
 ll:x.l.length≤9223372036854775807
def noteSh (n:Nat):Sh:=.cat (.int .i64) (.cat (.int .i64) (.cat (.int .i64) (.cat (.int .i64) (.cat (.int .i64) (.cat (treeSh (n - 1)) (.cat knowSh (.cat (.sl hasSh) (.cat (.int .i64) (.cat (.sl lineSh) (.cat .bool .nil))))))))))
theorem note_size (n:Nat):(noteSh n).size=24:=by unfold noteSh; simp only [Sh.size,tree_size]; rfl
theorem shNote:∀ n,ShOk Tryz.prog n 37 (noteSh n)
 | 0=>.zero
 | n + 1=>.struct Tryz.underlying37 (by rw [note_size]; exact cellsNote) (.cons rfl cellsInt (shInt n) (.cons rfl cellsInt (shInt n) (.cons rfl cellsInt (shInt n) (.cons rfl cellsInt (shInt n) (.cons rfl cellsInt (shInt n)
   (.cons rfl (by rw [show n + 1 - 1=n from rfl,tree_size]; exact cellsTree) (shTree n)
   (.cons (by rw [show n + 1 - 1=n from rfl,tree_size]; rfl) cellsKnow (shKnow n) (.cons (by rw [show n + 1 - 1=n from rfl,tree_size]; rfl) cellsHass (shHass n) (.cons (by rw [show n + 1 - 1=n from rfl,tree_size]; rfl) cellsInt (shInt n)
   (.cons (by rw [show n + 1 - 1=n from rfl,tree_size]; rfl) cellsLines (shLines n) (.cons (by rw [show n + 1 - 1=n from rfl,tree_size]; rfl) cellsBool (shBool n) .nil)))))))))))
abbrev Note.la (x:Note):A:=.agg [ic x.kind,ic x.src,ic x.dst,ic x.sid,ic x.turn,ic x.f.op,.p (.v (.string x.f.text)),ic x.f.n,.p (.v (.float .f64 x.f.re)),.p (.v (.float .f64 x.f.im)),.p (.sl (Pred.lrows x.f.kids)),
 ic x.k.star.x0,ic x.k.star.x1,ic x.k.star.x2,ic x.k.star.x3,ic x.k.star.x4,ic x.k.star.x5,ic x.k.star.x6,ic x.k.star.x7,.p (.sl (x.k.l.map Frag.row)),.p (.sl (x.have_.map Has.row)),ic x.n,.p (.sl (x.l.map Line.row)),.p (.v (.bool x.star))]
section
variable {H:Type} {enc:TypeId × Value→H} {W:World} {v:Value} {d:DataW H} {ps:List MemPlace} {b0:Nat}
theorem arg_note (hv:Value.okWide Tryz.prog W .any b0 37 v) (h:DataW.Trod enc Tryz.prog W 0 (fun _=>true) true 37 v d ps):∃ x:Note,x.Ok∧VA W (zoneOf W) noLoc x.la v:=by
 obtain ⟨n,l,h1,h2⟩:=arg_agg shNote (.inl ⟨_,Tryz.underlying37⟩) hv h
 obtain ⟨_,_,rfl,⟨x0,rfl,w0⟩,_,_,rfl,⟨x1,rfl,w1⟩,_,_,rfl,⟨x2,rfl,w2⟩,_,_,rfl,⟨x3,rfl,w3⟩,_,_,rfl,⟨x4,rfl,w4⟩,_,_,rfl,hf,_,_,rfl,hk,_,_,rfl,hh,_,_,rfl,⟨x5,rfl,w5⟩,_,_,rfl,hl,_,_,rfl,⟨b,rfl⟩,rfl⟩:=h1
 obtain ⟨p,op,rfl⟩:=tree_fits _ hf
 obtain ⟨k,hi,rfl⟩:=fits_know hk
 obtain ⟨hs,oh,rfl⟩:=fits_hass hh
 obtain ⟨ls,ol,ll,rfl⟩:=fits_linesL hl
 rw [Pred.lrow_eq] at h2
 exact ⟨⟨x0,x1,x2,x3,x4,p,k,hs,x5,ls,b⟩,⟨op,hi,oh,ol,ll⟩,h2⟩
end
end Go.Proofs.YtidkmoohgadjkaaGreat
namespace Go.Proofs.YtidkmoohgadjkaaGreat
open Go E Pred
noncomputable section
open Classical
theorem told_1 {n:Int}:∀ (l:List Frag) (v:Int),0≤v→take_told_l1 n l v=some (!(l.any fun f=>ltI n f.vec.x0))
 | [],v,_=>by rw [take_told_l1]; rfl
 | f::l,v,h=>by
  rw [take_told_l1,told_1 l (v + 1) (by omega),leI_t.2 h,List.any_cons]
  cases ltI n f.vec.x0<;>rfl
theorem told_2 {n:Int}:∀ (l:List Frag) (v:Int),0≤v→take_told_l2 n l v=some (!(l.any fun f=>ltI n f.vec.x1))
 | [],v,_=>by rw [take_told_l2]; rfl
 | f::l,v,h=>by
  rw [take_told_l2,told_2 l (v + 1) (by omega),leI_t.2 h,List.any_cons]
  cases ltI n f.vec.x1<;>rfl
theorem told_3 {n:Int}:∀ (l:List Frag) (v:Int),0≤v→take_told_l3 n l v=some (!(l.any fun f=>ltI n f.vec.x2))
 | [],v,_=>by rw [take_told_l3]; rfl
 | f::l,v,h=>by
  rw [take_told_l3,told_3 l (v + 1) (by omega),leI_t.2 h,List.any_cons]
  cases ltI n f.vec.x2<;>rfl
theorem told_4 {n:Int}:∀ (l:List Frag) (v:Int),0≤v→take_told_l4 n l v=some (!(l.any fun f=>ltI n f.vec.x3))
 | [],v,_=>by rw [take_told_l4]; rfl
 | f::l,v,h=>by
  rw [take_told_l4,told_4 l (v + 1) (by omega),leI_t.2 h,List.any_cons]
  cases ltI n f.vec.x3<;>rfl
theorem told_5 {n:Int}:∀ (l:List Frag) (v:Int),0≤v→take_told_l5 n l v=some (!(l.any fun f=>ltI n f.vec.x4))
 | [],v,_=>by rw [take_told_l5]; rfl
 | f::l,v,h=>by
  rw [take_told_l5,told_5 l (v + 1) (by omega),leI_t.2 h,List.any_cons]
  cases ltI n f.vec.x4<;>rfl
theorem told_6 {n:Int}:∀ (l:List Frag) (v:Int),0≤v→take_told_l6 n l v=some (!(l.any fun f=>ltI n f.vec.x5))
 | [],v,_=>by rw [take_told_l6]; rfl
 | f::l,v,h=>by
  rw [take_told_l6,told_6 l (v + 1) (by omega),leI_t.2 h,List.any_cons]
  cases ltI n f.vec.x5<;>rfl
theorem told_7 {n:Int}:∀ (l:List Frag) (v:Int),0≤v→take_told_l7 n l v=some (!(l.any fun f=>ltI n f.vec.x6))
 | [],v,_=>by rw [take_told_l7]; rfl
 | f::l,v,h=>by
  rw [take_told_l7,told_7 l (v + 1) (by omega),leI_t.2 h,List.any_cons]
  cases ltI n f.vec.x6<;>rfl
theorem told_8 {n:Int}:∀ (l:List Frag) (v:Int),0≤v→take_told_l8 n l v=some (!(l.any fun f=>ltI n f.vec.x7))
 | [],v,_=>by rw [take_told_l8]; rfl
 | f::l,v,h=>by
  rw [take_told_l8,told_8 l (v + 1) (by omega),leI_t.2 h,List.any_cons]
  cases ltI n f.vec.x7<;>rfl
def toldB (r n:Int) (k:Know):Bool:=mayK k&&!beyondB k r n
theorem told_s {s:State} {k:Know} {N:Nat} (hr:1≤s.r∧s.r≤8) (hk:KT k N) (hN:N≤900000) (hi:IdsOk k):take_told_s s k=some (toldB s.r s.count k):=by
 obtain ⟨r,f,st,out,ks,n,c,e⟩:=s
 have hl:=hk.l
 have hm:=kmay_s (hk.mono (by omega)) hi
 have core:∀ (a b:Bool) (y:Option Bool),y=some (!b)→(bnd (know_May_s k) fun y1=>br (!y1) (some false) (br a (some false) (chk (smallL k.l) y)))=some (mayK k&&!(a || b)):=fun a b y h=>by
  rw [bnd_of hm,chk_t (smallL_of (by omega)),h]
  cases mayK k<;>cases a<;>cases b<;>rfl
 unfold toldB beyondB
 simp only at hr ⊢
 rcases r8 r with h' | rfl | rfl | rfl | rfl | rfl | rfl | rfl | rfl
 ·omega
 ·exact core _ _ _ (told_1 k.l 0 (by omega))
 ·exact core _ _ _ (told_2 k.l 0 (by omega))
 ·exact core _ _ _ (told_3 k.l 0 (by omega))
 ·exact core _ _ _ (told_4 k.l 0 (by omega))
 ·exact core _ _ _ (told_5 k.l 0 (by omega))
 ·exact core _ _ _ (told_6 k.l 0 (by omega))
 ·exact core _ _ _ (told_7 k.l 0 (by omega))
 ·exact core _ _ _ (told_8 k.l 0 (by omega))
def rightB (s:State) (m:Msg):Bool:=inN m.n 0 40&&(if eqI m.kind 2=true then decide (m.l.length≤4) else decide (m.l.length≤40)&&((m.l.all fun e=>e.goes)&&toldB s.r s.count m.k))
def ofB (s:State) (x:Sess) (m:Msg):Bool:=(eqI m.kind 2 || eqI m.kind 3)&&(leI 1 m.turn&&((eqI x.turn 0 || eqI x.turn m.turn)&&(eqI m.src x.with_&&(eqI m.dst s.r&&eqI m.sid x.sid))))
theorem of_s (s:State) (x:Sess) (m:Msg):take_of_s s x m=some (ofB s x m):=by
 unfold take_of_s ofB
 generalize eqI m.kind 2=a1
 generalize eqI m.kind 3=a2
 generalize leI 1 m.turn=a3
 generalize eqI x.turn 0=a4
 generalize eqI x.turn m.turn=a5
 generalize eqI m.src x.with_=a6
 generalize eqI m.dst s.r=a7
 generalize eqI m.sid x.sid=a8
 cases a3
 ·cases a1<;>cases a2<;>rfl
 ·cases a6
  ·cases a1<;>cases a2<;>cases a4<;>cases a5<;>rfl
  ·cases a7
   ·cases a1<;>cases a2<;>cases a4<;>cases a5<;>rfl
   ·cases a1<;>cases a2<;>cases a4<;>cases a5<;>rfl
theorem right_l1 {s:State} {m:Msg} {b:Bool} (h:take_told_s s m.k=some b):∀ (l:List Entry) (v:Int),0≤v→take_right_l1 s m l v=some ((l.all fun e=>e.goes)&&b)
 | [],v,_=>by rw [take_right_l1,bnd_of h]; rfl
 | e::l,v,hv=>by
  rw [take_right_l1,right_l1 h l (v + 1) (by omega),leI_t.2 hv,List.all_cons]
  cases e.goes<;>rfl
structure SessB (x:Sess) (M:Nat):Prop where
 k:KT x.k M
 ids:IdsOk x.k
 r:RisI x.got
 gl:x.got.length≤400
 n:x.n≤1000
 l:x.l.length≤60
 e:∀ e∈x.l,e.item.Ok
structure AnsB (m:Msg) (M:Nat):Prop where
 k:KT m.k M
 ids:IdsOk m.k
 l:m.l.length≤60
 e:∀ e∈m.l,e.item.Ok
theorem right_s {s:State} {m:Msg} {M:Nat} (hr:1≤s.r∧s.r≤8) (hm:AnsB m M) (hM:M≤900000):take_right_s s m=some (rightB s m):=by
 have hl:=hm.l
 have e4:leI (m.l.length:Int) 4=decide (m.l.length≤4):=by
  by_cases h:m.l.length≤4
  ·rw [decide_eq_true h]; exact leI_t.2 (by omega)
  ·rw [decide_eq_false h]; exact leI_f.2 (by omega)
 have e40:leI (m.l.length:Int) 40=decide (m.l.length≤40):=by
  by_cases h:m.l.length≤40
  ·rw [decide_eq_true h]; exact leI_t.2 (by omega)
  ·rw [decide_eq_false h]; exact leI_f.2 (by omega)
 unfold take_right_s rightB
 rw [e4,e40,chk_t (smallL_of (by omega)),right_l1 (told_s hr hm.k hM hm.ids) _ 0 (by omega)]
 have e2:inN m.n 0 40=(!ltI m.n 0&&!ltI 40 m.n):=by unfold inN; rw [ltle,ltle]
 rw [e2]
 cases ltI m.n 0 with
 | true=>rfl
 | false=>cases ltI 40 m.n with
  | true=>rfl
  | false=>cases eqI m.kind 2 with
   | true=>rfl
   | false=>cases decide (m.l.length≤40)<;>rfl
def refV (s:State) (x:Sess) (m:Msg):Int:=if ofB s x m=false then 1 else if (x.over || !eqI x.epoch s.epoch)=true then 9 else if rightB s m=false then 1 else 0
theorem refused_l4 {s:State} {m:Msg} {M:Nat} (hm:AnsB m M) (hM:M≤900000):∀ l:List Entry,ref11_refused_l4 s m l=some (if ((l.all fun e=>e.goes)&&toldB s.r s.count m.k)=true then 0 else 1)
 | []=>by
  rw [ref11_refused_l4,bnd_of (rmayK_t hm.k (by omega) hm.ids),bnd_of (rbeyond_s hm.k (by omega) s.r s.count)]
  unfold toldB
  cases mayK m.k<;>cases beyondB m.k s.r s.count<;>rfl
 | e::l=>by
  rw [ref11_refused_l4,refused_l4 hm hM l,List.all_cons]
  cases e.goes<;>rfl
theorem refused_s {s:State} {x:Sess} {m:Msg} {M:Nat} (hm:AnsB m M) (hM:M≤900000):ref11_refused_s s x m=some (refV s x m):=by
 have hl:=hm.l
 have e4:ltI 4 (m.l.length:Int)=!decide (m.l.length≤4):=by
  by_cases h:m.l.length≤4
  ·rw [decide_eq_true h]; exact ltI_f.2 (by omega)
  ·rw [decide_eq_false h]; exact ltI_t.2 (by omega)
 have e40:ltI 40 (m.l.length:Int)=!decide (m.l.length≤40):=by
  by_cases h:m.l.length≤40
  ·rw [decide_eq_true h]; exact ltI_f.2 (by omega)
  ·rw [decide_eq_false h]; exact ltI_t.2 (by omega)
 have h440:decide (m.l.length≤4)=true→decide (m.l.length≤40)=true:=fun h=>by rw [decide_eq_true_eq] at h ⊢; omega
 have j3:ref11_refused_j3 s m=some (if eqI m.kind 2=true then 0 else if ((m.l.all fun e=>e.goes)&&toldB s.r s.count m.k)=true then 0 else 1):=by
  unfold ref11_refused_j3
  rw [chk_t (smallL_of (by omega)),refused_l4 hm hM]
  cases eqI m.kind 2<;>rfl
 have j2:ref11_refused_j2 s x m=some (if (x.over || !eqI x.epoch s.epoch)=true then 9 else if rightB s m=false then 1 else 0):=by
  unfold ref11_refused_j2
  rw [j3,e4,e40]
  unfold rightB
  have e2:inN m.n 0 40=(!ltI m.n 0&&!ltI 40 m.n):=by unfold inN; rw [ltle,ltle]
  rw [e2]
  revert h440
  generalize decide (m.l.length≤4)=d4
  generalize decide (m.l.length≤40)=d40
  generalize ((m.l.all fun e=>e.goes)&&toldB s.r s.count m.k)=g
  generalize ltI m.n 0=n0
  generalize ltI 40 m.n=n1
  generalize eqI m.kind 2=k2
  generalize eqI x.epoch s.epoch=ep
  generalize x.over=ov
  intro h440
  cases ov<;>cases ep<;>cases n0<;>cases n1<;>cases k2<;>cases d4<;>cases d40<;>cases g<;>first | rfl | exact absurd (h440 rfl) (by simp)
 have j1:ref11_refused_j1 s x m=some (if (leI 1 m.turn&&(eqI x.turn 0 || eqI x.turn m.turn))=false then 1 else if (x.over || !eqI x.epoch s.epoch)=true then 9 else if rightB s m=false then 1 else 0):=by
  unfold ref11_refused_j1
  rw [j2,ltn]
  cases leI 1 m.turn<;>cases eqI x.turn 0<;>cases eqI x.turn m.turn<;>rfl
 unfold ref11_refused_s refV ofB
 rw [j1]
 generalize eqI m.kind 2=a1
 generalize eqI m.kind 3=a2
 generalize leI 1 m.turn=a3
 generalize (eqI x.turn 0 || eqI x.turn m.turn)=a4
 generalize eqI m.src x.with_=a6
 generalize eqI m.dst s.r=a7
 generalize eqI m.sid x.sid=a8
 generalize (if (x.over || !eqI x.epoch s.epoch)=true then (9:Int) else if rightB s m=false then 1 else 0)=w
 cases a1<;>cases a2<;>cases a6<;>cases a7<;>cases a8<;>cases a3<;>cases a4<;>rfl
def stepT (y:State × Bool) (e:Entry):State × Bool :=
 if e.goes=true then (goesV y.1 e.item.id e.item.vr e.item.vc e.nr e.nc,y.2) else if (itemV y.1 e.item).2=0 then ((itemV y.1 e.item).1,y.2) else (y.1,true)
def goesT (s:State) (e:Entry):State:=goesV s e.item.id e.item.vr e.item.vc e.nr e.nc
theorem ok_step {y:State × Bool} {e:Entry} {N:Nat} (h:SOk y.1 N) (he:e.item.Ok):SOk (stepT y e).1 (N + 1):=by
 unfold stepT
 split
 ·exact ok_goes h he.id
 ·split
  ·exact ok_item h he
  ·exact h.mono (by omega)
theorem ok_fold:∀ (l:List Entry) {y:State × Bool} {N:Nat},SOk y.1 N→(∀ e∈l,e.item.Ok)→SOk (l.foldl stepT y).1 (N + l.length)
 | [],y,N,h,_=>h
 | e::l,y,N,h,he=>by
  rw [List.foldl_cons,List.length_cons]
  exact (ok_fold l (ok_step h (he e (List.mem_cons_self ..))) fun x hx=>he x (List.mem_cons_of_mem _ hx)).mono (by omega)
theorem ok_goesT:∀ (l:List Entry) {s:State} {N:Nat},SOk s N→(∀ e∈l,e.item.Ok)→SOk (l.foldl goesT s) (N + l.length)
 | [],s,N,h,_=>h
 | e::l,s,N,h,he=>by
  rw [List.foldl_cons,List.length_cons]
  exact (ok_goesT l (s:=goesT s e) (N:=N + 1) (ok_goes h (he e (List.mem_cons_self ..)).id) fun x hx=>he x (List.mem_cons_of_mem _ hx)).mono (by omega)
def endV (s:State) (x:Sess):State × Sess :=
 if (x.told&&(!x.bad&&cameB x.got x.n))=true then
  let t:=x.l.foldl goesT s
  (⟨t.r,t.f,t.store,t.out,joinK t.k x.k,t.count,t.clock,t.epoch⟩,⟨x.sid,x.with_,x.epoch,x.turn,x.got,x.bad,x.told,true,x.n,x.k,x.l⟩)
 else (s,x)
def takeV (s:State) (x:Sess) (m:Msg):State × Sess × Int :=
 if refV s x m≠0 then (s,x,refV s x m) else
 if eqI m.kind 2=true then
  let y:=m.l.foldl stepT (s,x.bad)
  let z:=endV y.1 ⟨x.sid,x.with_,x.epoch,m.turn,withI x.got m.n,y.2,x.told,x.over,x.n,x.k,x.l⟩
  (z.1,z.2,0)
 else if x.told=true then
  let z:=endV s ⟨x.sid,x.with_,x.epoch,m.turn,x.got,x.bad,x.told,x.over,x.n,x.k,x.l⟩
  (z.1,z.2,0)
 else
  let z:=endV s ⟨x.sid,x.with_,x.epoch,m.turn,x.got,x.bad,true,x.over,m.n,m.k,m.l⟩
  (z.1,z.2,0)
theorem goes_sT {s:State} {e:Entry} {N:Nat} (h:SOk s N) (hN:N≤90000) (he:e.item.Ok):take_goes_s s e=some (goesT s e):=by
 unfold take_goes_s
 rw [bnd_of (recv_goes h hN he.id)]; rfl
theorem msg_l2 {x:Sess} {m:Msg} {bad told:Bool} {n:Int} {k:Know} {got:List Int} {L:List Entry} {M:Nat} (hk:KT k M) (hi:IdsOk k):∀ (l:List Entry) (s:State) (N:Nat),SOk s N→N + l.length≤80000→N + l.length + M≤900000→(∀ e∈l,e.item.Ok) →
  take_Msg_l2 x m bad told n k got L l s=some ((⟨(l.foldl goesT s).r,(l.foldl goesT s).f,(l.foldl goesT s).store,(l.foldl goesT s).out,joinK (l.foldl goesT s).k k,(l.foldl goesT s).count,(l.foldl goesT s).clock,(l.foldl goesT s).epoch⟩,⟨x.sid,x.with_,x.epoch,m.turn,got,bad,told,true,n,k,L⟩),none)
 | [],s,N,h,_,hn,_=>by
  rw [take_Msg_l2,bnd_of (kjoin_s h.kt hk (by simpa using hn) h.ids hi)]; rfl
 | e::l,s,N,h,h1,hn,he=>by
  rw [List.length_cons] at h1 hn
  rw [take_Msg_l2,bnd_of (goes_sT h (by omega) (he e (List.mem_cons_self ..)))]
  exact msg_l2 hk hi l (goesT s e) (N + 1) (ok_goes h (he e (List.mem_cons_self ..)).id) (by omega) (by omega) fun y hy=>he y (List.mem_cons_of_mem _ hy)
theorem msg_j1 {x:Sess} {m:Msg} {s:State} {bad told:Bool} {n:Int} {k:Know} {got:List Int} {L:List Entry} {N M:Nat} (h:SOk s N) (hN:N≤70000) (hM:M≤700000) (hb:SessB ⟨x.sid,x.with_,x.epoch,m.turn,got,bad,told,x.over,n,k,L⟩ M) :
  take_Msg_j1 x m s bad told n k got L=some (endV s ⟨x.sid,x.with_,x.epoch,m.turn,got,bad,told,x.over,n,k,L⟩,none):=by
 have hl:=hb.l
 simp only at hl
 have hn:=hb.n
 unfold take_Msg_j1 endV
 rw [bnd_of (all_sI hb.r (by have:=hb.gl; omega) hb.n),chk_t (smallL_of (by omega)),msg_l2 hb.k hb.ids L s N h (by omega) (by omega) hb.e]
 simp only
 cases told with
 | false=>rfl
 | true=>cases bad with
  | true=>rfl
  | false=>cases cameB got n<;>rfl
theorem msg_l3 {x:Sess} {m:Msg} {M:Nat} (hM:M≤700000) (hb:SessB x M) (hgot:x.got.length≤100):∀ (l:List Entry) (s:State) (bad:Bool) (N:Nat),SOk s N→N + l.length≤70000→(∀ e∈l,e.item.Ok) →
  take_Msg_l3 x m x.got x.k x.l l s bad=some (endV (l.foldl stepT (s,bad)).1 ⟨x.sid,x.with_,x.epoch,m.turn,withI x.got m.n,(l.foldl stepT (s,bad)).2,x.told,x.over,x.n,x.k,x.l⟩,none)
 | [],s,bad,N,h,h1,_=>by
  have hw:=withI_len x.got m.n
  rw [take_Msg_l3,put_s hb.r (by omega)]
  exact msg_j1 h (by simpa using h1) hM ⟨hb.k,hb.ids,withI_ris hb.r _,by show (withI x.got m.n).length≤_; omega,hb.n,hb.l,hb.e⟩
 | e::l,s,bad,N,h,h1,he=>by
  rw [List.length_cons] at h1
  have hes:=he e (List.mem_cons_self ..)
  have ih:=fun s' b' (h':SOk s' (N + 1))=>msg_l3 (m:=m) hM hb hgot l s' b' (N + 1) h' (by omega) fun y hy=>he y (List.mem_cons_of_mem _ hy)
  rw [take_Msg_l3,List.foldl_cons]
  cases hg:e.goes with
  | true =>
   have e1:stepT (s,bad) e=(goesT s e,bad):=by unfold stepT; rw [if_pos hg]; rfl
   rw [br_t rfl,bnd_of (goes_sT h (by omega) hes),e1]
   exact ih _ _ (ok_goes h hes.id)
  | false =>
   have e2:=recv_item h (by omega) hes
   rw [br_f rfl]
   by_cases h0:(itemV s e.item).2=0
   ·have e1:stepT (s,bad) e=((itemV s e.item).1,bad):=by unfold stepT; rw [if_neg (by rw [hg]; simp),if_pos h0]
    rw [show errO (itemV s e.item).2=none by unfold errO; rw [if_pos h0]] at e2
    rw [bndE_n e2,e1]
    exact ih _ _ (ok_item h hes)
   ·have e1:stepT (s,bad) e=(s,true):=by unfold stepT; rw [if_neg (by rw [hg]; simp),if_neg h0]
    rw [show errO (itemV s e.item).2=some (itemV s e.item).2 by unfold errO; rw [if_neg h0]] at e2
    rw [bndE_e e2,e1]
    exact ih _ _ (h.mono (by omega))
theorem refV_of {s:State} {x:Sess} {m:Msg}:refV s x m=0∨refV s x m=1∨refV s x m=9:=by
 unfold refV
 repeat' split
 all_goals simp
theorem take_s {s:State} {x:Sess} {m:Msg} {N M:Nat} (h:SOk s N) (hN:N≤60000) (hM:M≤600000) (hr:1≤s.r∧s.r≤8) (hb:SessB x M) (hgot:x.got.length≤100) (hm:AnsB m M) :
  take_Msg_s s x m=some (((takeV s x m).1,(takeV s x m).2.1),errO (takeV s x m).2.2):=by
 have hl:=hm.l
 have hxl:=hb.l
 have hcl:clone_s x.got=some x.got:=clone_s_of (by omega)
 have hcl2:clone_s x.l=some x.l:=clone_s_of (by omega)
 have hcl3:clone_s m.l=some m.l:=clone_s_of (by omega)
 unfold take_Msg_s takeV
 rw [bnd_of (fresh_state h (by omega)),bnd_of hcl,bnd_of (fresh_know_t hb.k (by omega)),bnd_of hcl2,bnd_of (of_s s ⟨x.sid,x.with_,x.epoch,x.turn,x.got,x.bad,x.told,x.over,x.n,x.k,x.l⟩ m),bnd_of (right_s hr hm (by omega)),chk_t (smallL_of (by omega)),msg_l3 (m:=m) (by omega) hb hgot m.l s x.bad N h (by omega) hm.e,bnd_of (fresh_know_t hm.k (by omega)),bnd_of hcl3]
 have j1:x.told=false→refV s x m=0→take_Msg_j1 x m s x.bad true m.n m.k x.got m.l=some (endV s ⟨x.sid,x.with_,x.epoch,m.turn,x.got,x.bad,true,x.over,m.n,m.k,m.l⟩,none):=fun _ h0=>by
  have hmn:m.n≤40:=by
   unfold refV at h0
   split at h0
   ·cases h0
   ·split at h0
    ·cases h0
    ·split at h0
     ·cases h0
     ·rename_i h3
      have h3:rightB s m=true:=by simpa using h3
      unfold rightB at h3
      rw [Bool.and_eq_true,inN_iff] at h3
      exact h3.1.2
  exact msg_j1 h (by omega) (by omega) ⟨hm.k,hm.ids,hb.r,hb.gl,by show m.n≤1000; omega,hm.l,hm.e⟩
 have j2:take_Msg_j1 x m s x.bad x.told x.n x.k x.got x.l=some (endV s ⟨x.sid,x.with_,x.epoch,m.turn,x.got,x.bad,x.told,x.over,x.n,x.k,x.l⟩,none):=msg_j1 h (by omega) (by omega) ⟨hb.k,hb.ids,hb.r,hb.gl,hb.n,hb.l,hb.e⟩
 rw [j2]
 have eo:ofB s ⟨x.sid,x.with_,x.epoch,x.turn,x.got,x.bad,x.told,x.over,x.n,x.k,x.l⟩ m=ofB s x m:=rfl
 rw [eo]
 cases ho:ofB s x m with
 | false =>
  have e:refV s x m=1:=by unfold refV; rw [ho]; rfl
  rw [e]; rfl
 | true =>
  rw [br_f (by rfl)]
  by_cases hov:x.over=true
  ·have e:refV s x m=9:=by unfold refV; rw [ho,hov]; rfl
   rw [br_t hov,e]; rfl
  ·have hov':x.over=false:=by simpa using hov
   rw [br_f hov']
   cases hep:eqI x.epoch s.epoch with
   | false =>
    have e:refV s x m=9:=by unfold refV; rw [ho,hov',hep]; rfl
    rw [e]; rfl
   | true =>
    rw [br_f (by rfl)]
    cases hri:rightB s m with
    | false =>
     have e:refV s x m=1:=by unfold refV; rw [ho,hov',hep,hri]; rfl
     rw [e]; rfl
    | true =>
     have e:refV s x m=0:=by unfold refV; rw [ho,hov',hep,hri]; rfl
     rw [br_f (by rfl),e,if_neg (by simp)]
     cases hk:eqI m.kind 2 with
     | true=>rfl
     | false =>
      rw [br_f rfl,if_neg (by simp)]
      by_cases ht:x.told=true
      ·rw [br_f (by rw [ht]; rfl),if_pos ht]; rfl
      ·have ht':x.told=false:=by simpa using ht
       rw [br_t (by rw [ht']; rfl),if_neg ht,j1 ht' e]; rfl
theorem rtake_l2 {x:Sess} {m:Msg} {bad told:Bool} {n:Int} {k:Know} {got:List Int} {L:List Entry} {M:Nat} (hk:KT k M):∀ (l:List Entry) (s:State) (N:Nat),SOk s N→N + l.length≤80000→N + l.length + M≤900000→(∀ e∈l,e.item.Ok) →
  ref11_Take_l2 x m got bad told n k L l s=some (⟨(l.foldl goesT s).r,(l.foldl goesT s).f,(l.foldl goesT s).store,(l.foldl goesT s).out,joinK (l.foldl goesT s).k k,(l.foldl goesT s).count,(l.foldl goesT s).clock,(l.foldl goesT s).epoch⟩,⟨x.sid,x.with_,x.epoch,m.turn,got,bad,told,true,n,k,L⟩,0)
 | [],s,N,h,_,hn,_=>by
  rw [ref11_Take_l2,bnd_of (rjoin_t h.kt hk (by simpa using hn))]; rfl
 | e::l,s,N,h,h1,hn,he=>by
  rw [List.length_cons] at h1 hn
  rw [ref11_Take_l2,bnd_of (ref_goes h (by omega))]
  exact rtake_l2 hk l (goesT s e) (N + 1) (ok_goes h (he e (List.mem_cons_self ..)).id) (by omega) (by omega) fun y hy=>he y (List.mem_cons_of_mem _ hy)
theorem rtake_j1 {x:Sess} {m:Msg} {s:State} {bad told:Bool} {n:Int} {k:Know} {got:List Int} {L:List Entry} {N M:Nat} (h:SOk s N) (hN:N≤70000) (hM:M≤700000) (hb:SessB ⟨x.sid,x.with_,x.epoch,m.turn,got,bad,told,x.over,n,k,L⟩ M) :
  ref11_Take_j1 x m s got bad told n k L=some ((endV s ⟨x.sid,x.with_,x.epoch,m.turn,got,bad,told,x.over,n,k,L⟩).1,(endV s ⟨x.sid,x.with_,x.epoch,m.turn,got,bad,told,x.over,n,k,L⟩).2,0):=by
 have hl:=hb.l
 simp only at hl
 have hgl:=hb.gl
 unfold ref11_Take_j1 endV
 rw [bnd_of (came_sI (l:=got) (n:=n) (by have:got.length≤400:=hgl; omega) hb.n),chk_t (smallL_of (by omega)),rtake_l2 hb.k L s N h (by omega) (by omega) hb.e]
 simp only
 cases told with
 | false=>rfl
 | true=>cases bad with
  | true=>rfl
  | false=>cases cameB got n<;>rfl
theorem rtake_l3 {x:Sess} {m:Msg} {M:Nat} (hM:M≤700000) (hb:SessB x M) (hgot:x.got.length≤100):∀ (l:List Entry) (s:State) (bad:Bool) (N:Nat),SOk s N→N + l.length≤70000→(∀ e∈l,e.item.Ok) →
  ref11_Take_l3 x m l s bad=some ((endV (l.foldl stepT (s,bad)).1 ⟨x.sid,x.with_,x.epoch,m.turn,withI x.got m.n,(l.foldl stepT (s,bad)).2,x.told,x.over,x.n,x.k,x.l⟩).1,(endV (l.foldl stepT (s,bad)).1 ⟨x.sid,x.with_,x.epoch,m.turn,withI x.got m.n,(l.foldl stepT (s,bad)).2,x.told,x.over,x.n,x.k,x.l⟩).2,0)
 | [],s,bad,N,h,h1,_=>by
  have hw:=withI_len x.got m.n
  rw [ref11_Take_l3,bnd_of (with_s hb.r (by omega))]
  exact rtake_j1 h (by simpa using h1) hM ⟨hb.k,hb.ids,withI_ris hb.r _,by show (withI x.got m.n).length≤_; omega,hb.n,hb.l,hb.e⟩
 | e::l,s,bad,N,h,h1,he=>by
  rw [List.length_cons] at h1
  have hes:=he e (List.mem_cons_self ..)
  have ih:=fun s' b' (h':SOk s' (N + 1))=>rtake_l3 (m:=m) hM hb hgot l s' b' (N + 1) h' (by omega) fun y hy=>he y (List.mem_cons_of_mem _ hy)
  rw [ref11_Take_l3,List.foldl_cons]
  cases hg:e.goes with
  | true =>
   have e1:stepT (s,bad) e=(goesT s e,bad):=by unfold stepT; rw [if_pos hg]; rfl
   rw [br_t rfl,bnd_of (ref_goes h (by omega)),e1]
   exact ih _ _ (ok_goes h hes.id)
  | false =>
   rw [br_f rfl,bnd_of (ref_item h (by omega) hes)]
   by_cases h0:(itemV s e.item).2=0
   ·have e1:stepT (s,bad) e=((itemV s e.item).1,bad):=by unfold stepT; rw [if_neg (by rw [hg]; simp),if_pos h0]
    rw [eqI_t.2 h0,br_f (by rfl),e1]
    exact ih _ _ (ok_item h hes)
   ·have e1:stepT (s,bad) e=(s,true):=by unfold stepT; rw [if_neg (by rw [hg]; simp),if_neg h0]
    rw [eqI_f.2 h0,br_t (by rfl),e1]
    exact ih _ _ (h.mono (by omega))
theorem rtake_s {s:State} {x:Sess} {m:Msg} {N M:Nat} (h:SOk s N) (hN:N≤60000) (hM:M≤600000) (hb:SessB x M) (hgot:x.got.length≤100) (hm:AnsB m M):ref11_Take_s s x m=some (takeV s x m):=by
 have hl:=hm.l
 unfold ref11_Take_s takeV
 rw [bnd_of (refused_s hm (by omega))]
 by_cases h0:refV s x m=0
 ·have hmn:m.n≤40:=by
   have h0:=h0
   unfold refV at h0
   split at h0
   ·cases h0
   ·split at h0
    ·cases h0
    ·split at h0
     ·cases h0
     ·rename_i h3
      have h3:rightB s m=true:=by simpa using h3
      unfold rightB at h3
      rw [Bool.and_eq_true,inN_iff] at h3
      exact h3.1.2
  rw [h0,eqI_self,br_f (by rfl),if_neg (by simp),chk_t (smallL_of (by omega)),rtake_l3 (m:=m) (by omega) hb hgot m.l s x.bad N h (by omega) hm.e,rtake_j1 (x:=x) (m:=m) (bad:=x.bad) (told:=true) (n:=m.n) (k:=m.k) (got:=x.got) (L:=m.l) (M:=M) h (by omega) (by omega) ⟨hm.k,hm.ids,hb.r,hb.gl,by show m.n≤1000; omega,hm.l,hm.e⟩,rtake_j1 (x:=x) (m:=m) (bad:=x.bad) (told:=x.told) (n:=x.n) (k:=x.k) (got:=x.got) (L:=x.l) (M:=M) h (by omega) (by omega) ⟨hb.k,hb.ids,hb.r,hb.gl,hb.n,hb.l,hb.e⟩]
  cases eqI m.kind 2 with
  | true=>rfl
  | false=>cases x.told<;>rfl
 ·rw [eqI_f.2 h0,br_t (by rfl),if_pos h0]
end
end Go.Proofs.YtidkmoohgadjkaaGreat
namespace Go.Proofs.YtidkmoohgadjkaaGreat
open Go E Pred
noncomputable section
open Classical
structure AllB (all:List Item):Prop where
 r:Ris all
 l:all.length≤1000
 i:∀ i∈all,i.Ok∧mayI i=true
end
end Go.Proofs.YtidkmoohgadjkaaGreat
namespace Go.Proofs.YtidkmoohgadjkaaGreat
open Go E Pred
noncomputable section
open Classical
end
end Go.Proofs.YtidkmoohgadjkaaGreat
namespace Go.Proofs.YtidkmoohgadjkaaGreat
open Go E Pred
noncomputable section
open Classical
end
end Go.Proofs.YtidkmoohgadjkaaGreat
namespace Go.Proofs.YtidkmoohgadjkaaGreat
open Go E Pred
noncomputable section
open Classical
end
end Go.Proofs.YtidkmoohgadjkaaGreat
set_option maxHeartbeats 0
namespace Go.Proofs.YtidkmoohgadjkaaGreat
open Go E
noncomputable section
open Pred
variable {X:Task→Prop} (hX:Closed X) {Q:A→List Blk→Prop}
include hX
end
end Go.Proofs.YtidkmoohgadjkaaGreat
namespace Go.Proofs.YtidkmoohgadjkaaGreat
open Go E Pred
noncomputable section
open Classical
def RealE (l:List Entry):Prop:=∀ e∈l,sameI e.item e.item=true
theorem sameEnts_l {L:List Entry}:∀ (xs pre:List Entry),L=pre++xs→RealE xs→ref11_SameEntries_l1 L xs (pre.length:Int)=some true
 | [],pre,_,_=>by rw [ref11_SameEntries_l1]
 | x::xs,pre,h,hr=>by
  have ih:=sameEnts_l (L:=L) xs (pre++[x]) (by rw [h]; simp) fun e he=>hr e (List.mem_cons_of_mem _ he)
  rw [List.length_append] at ih
  have e1:ref11_SameEntry_s x x=some true:=by
   unfold ref11_SameEntry_s
   rw [bnd_of (show ref01_Same_s x.item x.item=some (sameI x.item x.item) from rfl),hr x (List.mem_cons_self ..),eqI_self,eqI_self]
   cases x.goes<;>rfl
  rw [ref11_SameEntries_l1,bnd_of (show atL L (pre.length:Int)=some x by rw [h]; exact at_app pre x xs),bnd_of e1]
  exact ih
theorem sameEnts_s {l:List Entry} (hn:l.length≤1000000000) (h:RealE l):ref11_SameEntries_s l l=some true:=by
 unfold ref11_SameEntries_s
 rw [eqI_self,br_f (by rfl),chk_t (smallL_of hn)]
 exact sameEnts_l l [] rfl h
theorem selfMsg_s {m:Msg} {N:Nat} (hN:N≤1000000000) (hf:m.f.Ok) (hs:sameP m.f m.f=true) (hk:KB m.k N) (hl:m.l.length≤1000000000) (hr:RealE m.l) (hh:m.have_=[]):ref11_SameMsg_s m m=some true:=by
 have e:ref03_Same_s m.f m.f=some true:=by rw [rsame_s hf,hs]
 have hb:(@Bool.rec (fun _=>Bool) m.star (!m.star) m.star)=false:=by cases m.star<;>rfl
 unfold ref11_SameMsg_s
 rw [eqI_self,eqI_self,eqI_self,eqI_self,eqI_self,eqI_self,eqI_self,hb,hh,chk_t (smallL_of (by simp)),ref11_SameMsg_l1,bnd_of e,bnd_of (alike_s hN hk),alikeK_refl,bnd_of (sameEnts_s hl hr)]; rfl
structure AnsM (m:Msg):Prop where
 f:m.f=.mk 0 ⟨#[]⟩ 0 0 0 []
 k:KT m.k 90000
 l:m.l.length≤10000
 r:RealE m.l
 h:m.have_=[]
theorem ok_bare0:(Pred.mk 0 ⟨#[]⟩ 0 0 0 []).Ok:=by unfold Pred.Ok; exact ⟨by decide,by decide,by decide,by decide,by unfold Pred.Oks; trivial⟩
theorem AnsM.same {m:Msg} (h:AnsM m):ref11_SameMsg_s m m=some true:=by
 refine selfMsg_s (N:=90000) (by decide) ?_ ?_ h.k.kb (by have:=h.l; omega) h.r h.h
 ·rw [h.f]; exact ok_bare0
 ·rw [h.f]; exact bare_self 0
end
end Go.Proofs.YtidkmoohgadjkaaGreat
namespace Go.Proofs.YtidkmoohgadjkaaGreat
open Go E Pred
noncomputable section
open Classical
def lineE (x:Line):Entry:=⟨x.item,x.goes,x.r,x.c⟩
def noteM (x:Note):Msg:=⟨x.kind,x.src,x.dst,x.sid,x.turn,x.f,x.k,x.have_,x.n,x.l.map lineE,x.star⟩
theorem entries_l:∀ (xs:List Line) (acc:List Entry),acc.length + xs.length≤900000→law00_Entries_l1 xs acc=some (acc++xs.map lineE)
 | [],acc,_=>by rw [law00_Entries_l1]; simp
 | x::xs,acc,h=>by
  rw [List.length_cons] at h
  rw [law00_Entries_l1,bnd_of (show law00_Item_s x.item=some x.item from rfl),chk_t (roomL_of (by omega)),entries_l xs _ (by simp; omega)]
  simp [lineE]
theorem entries_s {l:List Line} (h:l.length≤1000):law00_Entries_s l=some (l.map lineE):=by
 unfold law00_Entries_s
 rw [chk_t (smallL_of (by omega)),entries_l l [] (by simp; omega)]; rfl
theorem msg_s {x:Note} (ok:x.Ok) (hf:x.f.size≤1000) (hl:x.l.length≤1000):law00_Msg_s x=some (noteM x):=by
 unfold law00_Msg_s
 rw [bnd_of (lpred_s ok.f hf),bnd_of (entries_s hl)]; rfl
structure ShortN (x:Note):Prop where
 h:x.have_.length≤60
 l:x.l.length≤60
 f:x.f.size≤60
 k:KB x.k 60
theorem short_s {x:Note} (ok:x.Ok):∃ b,law00_Short_s x=some b∧(b=0∨(b=1∧ShortN x)):=by
 unfold law00_Short_s
 by_cases h1:x.have_.length≤60
 ·by_cases h2:x.l.length≤60
  ·obtain ⟨b,hb,hk⟩:=known_s x.k
   rw [br_f (ltI_f.2 (by omega)),br_f (ltI_f.2 (by omega))]
   by_cases h3:x.f.size≤60
   ·rw [bnd_of (lsmall_t ok.f h3),bnd_of hb]
    rcases hk with rfl | ⟨rfl,hk⟩
    ·exact ⟨_,rfl,.inl rfl⟩
    ·exact ⟨_,rfl,.inr ⟨rfl,⟨h1,h2,h3,hk⟩⟩⟩
   ·rw [bnd_of (lsmall_f ok.f h3),bnd_of hb]
    exact ⟨_,rfl,.inl (by rw [Int.zero_mul]; rfl)⟩
  ·exact ⟨0,by rw [br_f (ltI_f.2 (by omega)),br_t (ltI_t.2 (by omega))],.inl rfl⟩
 ·exact ⟨0,by rw [br_t (ltI_t.2 (by omega))],.inl rfl⟩
end
end Go.Proofs.YtidkmoohgadjkaaGreat
set_option maxHeartbeats 4000000
namespace Go.Proofs.YtidkmoohgadjkaaGreat
open Go E Go.ChangeShapes Go.WideShapes Go.ChangeAt Go.RowKit
theorem cellsTalk:Tryz.prog.cellsOf 110=19:=by kernel_rfl
structure Talk.Ok (x:Talk):Prop where
 ids:IdsOk x.k
 l:∀ y∈x.l,y.item.Ok
 ll:x.l.length≤9223372036854775807
 gl:x.got.length≤9223372036854775807
abbrev talkSh:Sh:=.cat (.int .i64) (.cat (.int .i64) (.cat (.int .i64) (.cat (.int .i64) (.cat (.sl (.int .i64)) (.cat .bool (.cat .bool (.cat .bool (.cat (.int .i64) (.cat knowSh (.cat (.sl lineSh) .nil))))))))))
theorem shTalk:∀ n,ShOk Tryz.prog n 110 talkSh
 | 0=>.zero
 | n + 1=>.struct Tryz.underlying110 cellsTalk (.cons rfl cellsInt (shInt n) (.cons rfl cellsInt (shInt n) (.cons rfl cellsInt (shInt n) (.cons rfl cellsInt (shInt n) (.cons rfl cellsInts (shInts n)
   (.cons rfl cellsBool (shBool n) (.cons rfl cellsBool (shBool n) (.cons rfl cellsBool (shBool n) (.cons rfl cellsInt (shInt n) (.cons rfl cellsKnow (shKnow n) (.cons rfl cellsLines (shLines n) .nil)))))))))))
abbrev Talk.la (x:Talk):A:=.agg [ic x.sid,ic x.with_,ic x.epoch,ic x.turn,.p (.sl (x.got.map irw)),.p (.v (.bool x.bad)),.p (.v (.bool x.told)),.p (.v (.bool x.over)),ic x.n,
 ic x.k.star.x0,ic x.k.star.x1,ic x.k.star.x2,ic x.k.star.x3,ic x.k.star.x4,ic x.k.star.x5,ic x.k.star.x6,ic x.k.star.x7,.p (.sl (x.k.l.map Frag.row)),.p (.sl (x.l.map Line.row))]
section
variable {H:Type} {enc:TypeId × Value→H} {W:World} {v:Value} {d:DataW H} {ps:List MemPlace} {b0:Nat}
theorem arg_talk (hv:Value.okWide Tryz.prog W .any b0 110 v) (h:DataW.Trod enc Tryz.prog W 0 (fun _=>true) true 110 v d ps):∃ x:Talk,x.Ok∧VA W (zoneOf W) noLoc x.la v:=by
 obtain ⟨n,l,h1,h2⟩:=arg_agg shTalk (.inl ⟨_,Tryz.underlying110⟩) hv h
 obtain ⟨_,_,rfl,⟨x0,rfl,w0⟩,_,_,rfl,⟨x1,rfl,w1⟩,_,_,rfl,⟨x2,rfl,w2⟩,_,_,rfl,⟨x3,rfl,w3⟩,_,_,rfl,hg,_,_,rfl,⟨b0,rfl⟩,_,_,rfl,⟨b1,rfl⟩,_,_,rfl,⟨b2,rfl⟩,_,_,rfl,⟨x4,rfl,w4⟩,_,_,rfl,hk,_,_,rfl,hl,rfl⟩:=h1
 obtain ⟨g,og,lg,rfl⟩:=fits_intsL hg
 obtain ⟨k,hi,rfl⟩:=fits_know hk
 obtain ⟨ls,ol,ll,rfl⟩:=fits_linesL hl
 exact ⟨⟨x0,x1,x2,x3,g,b0,b1,b2,x4,k,ls⟩,⟨hi,ol,ll,lg⟩,h2⟩
end
end Go.Proofs.YtidkmoohgadjkaaGreat
