/- The document: layers 11 to 15. Written by decomp.py. The document's filters made plain. Written by decomp.py. Filters made plain (layer 4): the document's answer, out of what its code computes. What is known (layers 6, 7), the document's functions: their answers, out of what their code computes. What is known (layers 6, 7), the document's functions: made plain, alike, may be, with a version, joined. Texts in their order; rising items. What is known (layer 7), the program's functions: their answers, out of what their code computes. What is known (layer 7): what it means to be made plain, joined, known with a version. The evaluator is qzi; facts of the program; arguments by their types. Items as arguments of laws. Lists of items as arguments of laws. What is known, and versions, as arguments of laws. What is known: the answers of the program's and the document's functions. Lists of items (layer 8), the document's functions: their answers, out of what their code computes. The statements of layer 4, walked. The statements of layer 4, walked. Written by decomp.py. The statements of layer 5, walked. Filters made plain (layer 4): they have the same items, and stay when made plain again. The statement EvalPlain, out of what its code computes. Layers 8, 9, 11: items, states, sessions: what the code computes, as answers. What is known: the document's functions under a bound on all texts together; copies. The statements of layer 2, walked. Lists of items that rise (layer 8): what the pr -/
import Derived.Test.YtidkmoohgadjkaaGreatVE
import Derived.Test.YtidkmoohgadjkaaGreatVD
import Derived.Sort.Walk0
import Derived.Test.YtidkmoohgadjkaaGreatVC
set_option linter.unusedVariables false
set_option linter.unusedSimpArgs false
set_option maxRecDepth 100000
set_option maxHeartbeats 0
namespace Go.Proofs.YtidkmoohgadjkaaGreat
open Go E
noncomputable section
open Pred
def qeb (p0:Int) (p1:Int):Option (Bool) :=
 (br (leI 1 p0)
  (br (leI p0 8)
   (br (leI 1 p1)
    (br (leI p1 8)
     (some (!eqI p0 p1))
     (some false))
    (some false))
   (some false))
  (some false))
def qaR (p0:Msg):List Has→Int→Option (Bool)
  | [],v18 =>
  some true
  | x1e::xs1,v18 =>
  (bnd (qbf x1e.id) fun y19 =>
   (bnd (qdL (Ver.mk x1e.vr x1e.vc)) fun y21 =>
    (br (!y19)
     (some false)
     (br (!y21)
      (some false)
      (br (ltI x1e.stamp 1)
       (some false)
       (br (ltI 1000000 x1e.stamp)
        (some false)
        (br (ltI 0 v18)
         (bnd (atL p0.have_ (wr .i64 (v18 - 1))) fun x28 =>
          (br (ltS x1e.id x28.id || eqS x1e.id x28.id)
           (some false)
           (qaR p0 xs1 (v18 + 1) )))
         (qaR p0 xs1 (v18 + 1) ))))))))
def qeJ (p0:Msg):Option (Bool) :=
 (bnd (qeb p0.src p0.dst) fun y1 =>
  (bnd (qdM p0.f) fun y3 =>
   (bnd (qda p0.k) fun y5 =>
    (br (!eqI p0.kind 1)
     (some false)
     (br (!y1)
      (some false)
      (br (!y3)
       (some false)
       (br (!y5)
        (some false)
        (br (ltI p0.sid 0)
         (some false)
         (br (ltI 1000000 p0.sid)
          (some false)
          (br (ltI 40 (p0.have_.length:Int))
           (some false)
           (br (!eqI p0.turn 0)
            (some false)
            (br (!eqI p0.n 0)
             (some false)
             (br (!eqI (p0.l.length:Int) 0)
              (some false)
              (br p0.star
               (some false)
               (chk (qz p0.have_)
                 ((qaR p0) p0.have_ 0 ))))))))))))))))
def qV (p1:Msg) (p2:Int) (v27:Know) (v29:List Entry) (v30:List Entry):Nat→Int→(List Msg)→Option ((List Msg))
  | 0,_,_=>none
  | fl4 + 1,v46,v47 =>
  (br (ltI v46 (v30.length:Int))
   (br (ltI (v30.length:Int) (wr .i64 (v46 + 4)))
    (chk (leI 0 v46&&(leI v46 (v30.length:Int)&&leI (v30.length:Int) (v30.length:Int)))
     (chk (qT 0 (subL v30 v46 (v30.length:Int)).length)
      (chk (qT v47.length 1)
       (qV p1 p2 v27 v29 v30 fl4 (wr .i64 (v46 + 4)) (v47++[(Msg.mk 2 p1.dst p1.src p1.sid p2 (Pred.mk 0 ⟨#[]⟩ 0 0 0 ([]:List Pred)) (Know.mk (V8.mk 0 0 0 0 0 0 0 0) ([]:List Frag)) ([]:List Has) (wr .i64 (qjq v46 4)) (subL v30 v46 (v30.length:Int)) false)])))))
    (chk (leI 0 v46&&(leI v46 (wr .i64 (v46 + 4))&&leI (wr .i64 (v46 + 4)) (v30.length:Int)))
     (chk (qT 0 (subL v30 v46 (wr .i64 (v46 + 4))).length)
      (chk (qT v47.length 1)
       (qV p1 p2 v27 v29 v30 fl4 (wr .i64 (v46 + 4)) (v47++[(Msg.mk 2 p1.dst p1.src p1.sid p2 (Pred.mk 0 ⟨#[]⟩ 0 0 0 ([]:List Pred)) (Know.mk (V8.mk 0 0 0 0 0 0 0 0) ([]:List Frag)) ([]:List Has) (wr .i64 (qjq v46 4)) (subL v30 v46 (wr .i64 (v46 + 4))) false)]))))))
   (chk (qT v47.length 1)
    (some (v47++[(Msg.mk 3 p1.dst p1.src p1.sid p2 (Pred.mk 0 ⟨#[]⟩ 0 0 0 ([]:List Pred)) v27 ([]:List Has) (v47.length:Int) v29 false)]))))
def qG (p0:State) (p1:Msg) (p2:Int) (y5:(List Item)) (y16:Bool) (v27:Know):List Has→(List Entry)→(List Entry)→Option ((List Msg))
  | [],v29,v30 =>
  ((qV p1 p2 v27 v29 v30) qdC 0 ([]:List Msg))
  | x3e::xs3,v29,v30 =>
  (bnd (qbq y5 x3e.id) fun y31 =>
   (br (!y31.2)
    (br y16
     (bnd (qb6 p0.k x3e.id (Ver.mk x3e.vr x3e.vc)) fun y35 =>
      (br y35
       (chk (qT v29.length 1)
        (qG p0 p1 p2 y5 y16 v27 xs3  (v29++[(Entry.mk (Item.mk x3e.id x3e.vr x3e.vc 0 ⟨#[]⟩ 0 0 0 false) true 0 0)]) v30))
       (qG p0 p1 p2 y5 y16 v27 xs3  v29 v30)))
     (qG p0 p1 p2 y5 y16 v27 xs3  v29 v30))
    (bnd (qbp p1.f y31.1) fun y39 =>
     (br (!y39)
      (bnd (qan y31.1 (Item.mk ⟨#[]⟩ x3e.vr x3e.vc x3e.stamp ⟨#[]⟩ 0 0 0 false)) fun y42 =>
       (br y42
        (chk (qT v30.length 1)
         (qG p0 p1 p2 y5 y16 v27 xs3  v29 (v30++[(Entry.mk (Item.mk x3e.id x3e.vr x3e.vc 0 ⟨#[]⟩ 0 0 0 false) true y31.1.vr y31.1.vc)])))
        (qG p0 p1 p2 y5 y16 v27 xs3  v29 v30)))
      (qG p0 p1 p2 y5 y16 v27 xs3  v29 v30)))))
def qcy (p0:State) (p1:Msg) (p2:Int) (y5:(List Item)) (v8:List Entry) (y16:Bool) (v27:Know):Option ((List Msg)) :=
 (chk (qz p1.have_)
   ((qG p0 p1 p2 y5 y16 v27) p1.have_ ([]:List Entry) v8))
def qad (p0:State) (p1:Msg) (p2:Int) (y5:(List Item)):List Item→(List Entry)→Option ((List Msg))
  | [],v8 =>
  (bnd (qfc p1.f p0.f) fun y16 =>
   (br y16
    (qcy p0 p1 p2 y5 v8 y16 p0.k)
    (qcy p0 p1 p2 y5 v8 y16 (Know.mk (V8.mk 0 0 0 0 0 0 0 0) ([]:List Frag)))))
  | x1e::xs1,v8 =>
  (bnd (qb6 p1.k x1e.id (Ver.mk x1e.vr x1e.vc)) fun y9 =>
   (bnd (qbp p1.f x1e) fun y11 =>
    (br (!y9)
     (br y11
      (chk (qT v8.length 1)
       (qad p0 p1 p2 y5 xs1  (v8++[(Entry.mk x1e false 0 0)])))
      (qad p0 p1 p2 y5 xs1  v8))
     (qad p0 p1 p2 y5 xs1  v8))))
def qc0 (p0:State) (p1:Msg) (p2:Int):Option ((List Msg)) :=
 (bnd (qeJ p1) fun y1 =>
  (br (!y1)
   (some [])
   (br (!eqI p1.dst p0.r)
    (some [])
    (bnd (qdl p0.store p0.out) fun y5 =>
     (chk (qz y5)
       ((qad p0 p1 p2 y5) y5 ([]:List Entry)))))))
def qax (p0:State) (p2:Msg):List Entry→Option (Int)
  | [] =>
  (bnd (qda p2.k) fun y6 =>
   (br (!y6)
    (some 1)
    (bnd (qbR p2.k p0.r p0.count) fun y9 =>
     (br y9
      (some 1)
      (some 0)))))
  | x4e::xs4 =>
  (br (!x4e.goes)
   (some 1)
   (qax p0 p2 xs4  ))
def qbJ (p0:State) (p2:Msg):Option (Int) :=
 (br (eqI p2.kind 2)
  (some 0)
  (chk (qz p2.l)
    ((qax p0 p2) p2.l )))
def qbK (p0:State) (p1:Sess) (p2:Msg):Option (Int) :=
 (br p1.over
  (some 9)
  (br (!eqI p1.epoch p0.epoch)
   (some 9)
   (br (ltI p2.n 0)
    (some 1)
    (br (ltI 40 p2.n)
     (some 1)
     (br (eqI p2.kind 2)
      (br (ltI 4 (p2.l.length:Int))
       (some 1)
       (br (ltI 40 (p2.l.length:Int))
        (some 1)
        (qbJ p0 p2 )))
      (br (ltI 40 (p2.l.length:Int))
       (some 1)
       (qbJ p0 p2 )))))))
def qbL (p0:State) (p1:Sess) (p2:Msg):Option (Int) :=
 (br (ltI p2.turn 1)
  (some 1)
  (br (!eqI p1.turn 0)
   (br (!eqI p1.turn p2.turn)
    (some 1)
    (qbK p0 p1 p2 ))
   (qbK p0 p1 p2 )))
def qcz (p0:State) (p1:Sess) (p2:Msg):Option (Int) :=
 (br (!eqI p2.kind 2)
  (br (!eqI p2.kind 3)
   (some 1)
   (br (!eqI p2.src p1.with_)
    (some 1)
    (br (!eqI p2.dst p0.r)
     (some 1)
     (br (!eqI p2.sid p1.sid)
      (some 1)
      (qbL p0 p1 p2 )))))
  (br (!eqI p2.src p1.with_)
   (some 1)
   (br (!eqI p2.dst p0.r)
    (some 1)
    (br (!eqI p2.sid p1.sid)
     (some 1)
     (qbL p0 p1 p2 )))))
def qaS (v1:Int) (k1:Int→Option (Bool)):List Int→Bool→Option (Bool)
  | [],v3 =>
  (br (!v3)
   (some false)
   (k1 (wr .i64 (v1 + 1))))
  | x2e::xs2,v3 =>
  (br v3
   (qaS v1 k1 xs2  true)
   (qaS v1 k1 xs2  (eqI x2e v1)))
def qcO (p0:List Int) (p1:Int):Nat→Int→Option (Bool)
  | 0,_=>none
  | fl1 + 1,v1 =>
  (br (ltI v1 p1)
   (chk (qz p0)
     ((qaS v1 (fun w0=>qcO p0 p1 fl1 w0)) p0 false))
   (some true))
def qec (p0:List Int) (p1:Int):Option (Bool) :=
 ((qcO p0 p1) qdC 0)
def qbD (p1:Int) (x1e:Int) (k1:Bool→(List Int)→Option ((List Int))) (v4:Bool) (v5:List Int):Option ((List Int)) :=
 (br (!eqI x1e p1)
  (chk (qT v5.length 1)
   (k1 v4 (v5++[x1e])))
  (k1 v4 v5))
def qQ (p1:Int):List Int→Bool→(List Int)→Option ((List Int))
  | [],v1,v3 =>
  (br (!v1)
   (chk (qT v3.length 1)
    (some (v3++[p1])))
   (some v3))
  | x1e::xs1,v1,v3 =>
  (br (!v1)
   (br (leI p1 x1e)
    (chk (qT v3.length 1)
     (qbD p1 x1e (fun w0 w1=>qQ p1 xs1  w0 w1) true (v3++[p1])))
    (qbD p1 x1e (fun w0 w1=>qQ p1 xs1  w0 w1) v1 v3))
   (qbD p1 x1e (fun w0 w1=>qQ p1 xs1  w0 w1) v1 v3))
def qed (p0:List Int) (p1:Int):Option ((List Int)) :=
 (chk (qz p0)
   ((qQ p1) p0 false ([]:List Int)))
def qbE (p1:Sess) (p2:Msg) (v25:List Int) (v26:Bool) (v27:Bool) (v28:Int) (v40:Know) (v38:List Entry):List Entry→State→Option (State × Sess × Int)
  | [],v68 =>
  (bnd (qd1 v68.k v40) fun y71 =>
   some ((State.mk v68.r v68.f v68.store v68.out y71 v68.count v68.clock v68.epoch),(Sess.mk p1.sid p1.with_ p1.epoch p2.turn v25 v26 v27 true v28 v40 v38),0))
  | x2e::xs2,v68 =>
  (bnd (qdp v68 x2e.item.id (Ver.mk x2e.item.vr x2e.item.vc) (Ver.mk x2e.nr x2e.nc)) fun y69 =>
   (qbE p1 p2 v25 v26 v27 v28 v40 v38 xs2  y69))
def qcP (p1:Sess) (p2:Msg) (v39:State) (v25:List Int) (v26:Bool) (v27:Bool) (v28:Int) (v40:Know) (v38:List Entry):Option (State × Sess × Int) :=
 (bnd (qec v25 v28) fun y41 =>
  (br v27
   (br (!v26)
    (br y41
     (chk (qz v38)
       ((qbE p1 p2 v25 v26 v27 v28 v40 v38) v38 v39))
     (some (v39,(Sess.mk p1.sid p1.with_ p1.epoch p2.turn v25 v26 v27 p1.over v28 v40 v38),0)))
    (some (v39,(Sess.mk p1.sid p1.with_ p1.epoch p2.turn v25 v26 v27 p1.over v28 v40 v38),0)))
   (some (v39,(Sess.mk p1.sid p1.with_ p1.epoch p2.turn v25 v26 v27 p1.over v28 v40 v38),0))))
def qaD (p1:Sess) (p2:Msg):List Entry→State→Bool→Option (State × Sess × Int)
  | [],v97,v96 =>
  (bnd (qed p1.got p2.n) fun y104 =>
   (qcP p1 p2 v97 y104 v96 p1.told p1.n p1.k p1.l))
  | x3e::xs3,v97,v96 =>
  (br x3e.goes
   (bnd (qdp v97 x3e.item.id (Ver.mk x3e.item.vr x3e.item.vc) (Ver.mk x3e.nr x3e.nc)) fun y99 =>
    (qaD p1 p2 xs3  y99 v96))
   (bnd (qea v97 x3e.item) fun y101 =>
    (br (!eqI y101.2 0)
     (qaD p1 p2 xs3  v97 true)
     (qaD p1 p2 xs3  y101.1 v96))))
def qdq (p0:State) (p1:Sess) (p2:Msg):Option (State × Sess × Int) :=
 (bnd (qcz p0 p1 p2) fun y1 =>
  (br (!eqI y1 0)
   (some (p0,p1,y1))
   (br (eqI p2.kind 2)
    (chk (qz p2.l)
      ((qaD p1 p2) p2.l p0 p1.bad))
    (br (!p1.told)
     (qcP p1 p2 p0 p1.got p1.bad true p2.n p2.k p2.l)
     (qcP p1 p2 p0 p1.got p1.bad p1.told p1.n p1.k p1.l)))))
variable {X:Task→Prop} (hX:qk X) {Q:A→List Blk→Prop}
include hX
theorem qmH  {p0:Int} {p1:Int} {r:Bool} (h:qeb p0 p1=some r) (hQ:Q (.one (.p (.v (.bool r)))) []):X (.call 75 [iv p0,iv p1] [] Q):=by
  have K:=fun a (e:some a=some r)=>qm (f:=fun y=>.one (.p (.v (.bool y)))) (g:=fun y=>[]) e hQ
  unfold qeb at h
  refine qb hX Tryz.func75 rfl rfl ?_
  conv=>whnf
  repeat((first|refine dw ?_);conv=>whnf)
  revert h
  refine brk (fun c1 h=>?_) (fun c1 h=>?_)
  ·conv=>whnf
   repeat((first|refine dw ?_|refine bct c1 ?_);conv=>whnf)
   revert h
   refine brk (fun c2 h=>?_) (fun c2 h=>?_)
   ·conv=>whnf
    repeat((first|refine dw ?_|refine bct c2 ?_);conv=>whnf)
    revert h
    refine brk (fun c3 h=>?_) (fun c3 h=>?_)
    ·conv=>whnf
     repeat((first|refine dw ?_|refine bct c3 ?_);conv=>whnf)
     revert h
     refine brk (fun c4 h=>?_) (fun c4 h=>?_)
     ·conv=>whnf
      repeat((first|refine dw ?_|refine bct c4 ?_);conv=>whnf)
      exact K _ h
     ·conv=>whnf
      repeat((first|refine dw ?_|refine bcf c4 ?_);conv=>whnf)
      exact K _ h
    ·conv=>whnf
     repeat((first|refine dw ?_|refine bcf c3 ?_);conv=>whnf)
     exact K _ h
   ·conv=>whnf
    repeat((first|refine dw ?_|refine bcf c2 ?_);conv=>whnf)
    exact K _ h
  ·conv=>whnf
   repeat((first|refine dw ?_|refine bcf c1 ?_);conv=>whnf)
   exact K _ h
theorem qn1  {p0:Msg} {r:Bool} (h:qeJ p0=some r) (hQ:Q (.one (.p (.v (.bool r)))) []):X (.call 20 [.agg (Msg.cs p0)] [] Q):=by
  have K:=fun a (e:some a=some r)=>qm (f:=fun y=>.one (.p (.v (.bool y)))) (g:=fun y=>[]) e hQ
  unfold qeJ at h
  refine qb hX Tryz.func20 rfl rfl ?_
  revert h
  refine bndk fun y1 e2 h=>?_
  conv=>whnf
  repeat((first|refine dw ?_);conv=>whnf)
  refine qmH hX e2 ?_
  revert h
  refine bndk fun y3 e4 h=>?_
  conv=>whnf
  repeat((first|refine dw ?_);conv=>whnf)
  refine qiS hX e4 ?_
  revert h
  refine bndk fun y5 e6 h=>?_
  conv=>whnf
  repeat((first|refine dw ?_);conv=>whnf)
  refine qgM hX e6 ?_
  conv=>whnf
  repeat((first|refine dw ?_);conv=>whnf)
  revert h
  refine brk (fun c7 h=>?_) (fun c7 h=>?_)
  ·conv=>whnf
   repeat((first|refine dw ?_|refine bct c7 ?_);conv=>whnf)
   exact K _ h
  ·conv=>whnf
   repeat((first|refine dw ?_|refine bcf c7 ?_);conv=>whnf)
   revert h
   refine brk (fun c8 h=>?_) (fun c8 h=>?_)
   ·conv=>whnf
    repeat((first|refine dw ?_|refine bct c8 ?_);conv=>whnf)
    exact K _ h
   ·conv=>whnf
    repeat((first|refine dw ?_|refine bcf c8 ?_);conv=>whnf)
    revert h
    refine brk (fun c9 h=>?_) (fun c9 h=>?_)
    ·conv=>whnf
     repeat((first|refine dw ?_|refine bct c9 ?_);conv=>whnf)
     exact K _ h
    ·conv=>whnf
     repeat((first|refine dw ?_|refine bcf c9 ?_);conv=>whnf)
     revert h
     refine brk (fun c10 h=>?_) (fun c10 h=>?_)
     ·conv=>whnf
      repeat((first|refine dw ?_|refine bct c10 ?_);conv=>whnf)
      exact K _ h
     ·conv=>whnf
      repeat((first|refine dw ?_|refine bcf c10 ?_);conv=>whnf)
      revert h
      refine brk (fun c11 h=>?_) (fun c11 h=>?_)
      ·conv=>whnf
       repeat((first|refine dw ?_|refine bct c11 ?_);conv=>whnf)
       exact K _ h
      ·conv=>whnf
       repeat((first|refine dw ?_|refine bcf c11 ?_);conv=>whnf)
       revert h
       refine brk (fun c12 h=>?_) (fun c12 h=>?_)
       ·conv=>whnf
        repeat((first|refine dw ?_|refine bct c12 ?_);conv=>whnf)
        exact K _ h
       ·conv=>whnf
        repeat((first|refine dw ?_|refine bcf c12 ?_|refine qg (qi _) ?_);conv=>whnf)
        revert h
        refine brk (fun c13 h=>?_) (fun c13 h=>?_)
        ·conv=>whnf
         repeat((first|refine dw ?_|refine bct c13 ?_);conv=>whnf)
         exact K _ h
        ·conv=>whnf
         repeat((first|refine dw ?_|refine bcf c13 ?_);conv=>whnf)
         revert h
         refine brk (fun c14 h=>?_) (fun c14 h=>?_)
         ·conv=>whnf
          repeat((first|refine dw ?_|refine bct c14 ?_);conv=>whnf)
          exact K _ h
         ·conv=>whnf
          repeat((first|refine dw ?_|refine bcf c14 ?_);conv=>whnf)
          revert h
          refine brk (fun c15 h=>?_) (fun c15 h=>?_)
          ·conv=>whnf
           repeat((first|refine dw ?_|refine bct c15 ?_);conv=>whnf)
           exact K _ h
          ·conv=>whnf
           repeat((first|refine dw ?_|refine bcf c15 ?_|refine qg (qi _) ?_);conv=>whnf)
           revert h
           refine brk (fun c16 h=>?_) (fun c16 h=>?_)
           ·conv=>whnf
            repeat((first|refine dw ?_|refine bct c16 ?_);conv=>whnf)
            exact K _ h
           ·conv=>whnf
            repeat((first|refine dw ?_|refine bcf c16 ?_);conv=>whnf)
            revert h
            refine brk (fun c17 h=>?_) (fun c17 h=>?_)
            ·conv=>whnf
             repeat((first|refine dw ?_|refine bct c17 ?_);conv=>whnf)
             exact K _ h
            ·revert h
             refine chkk fun hs1 h=>?_
             conv=>whnf
             repeat((first|refine dw ?_|refine bcf c17 ?_);conv=>whnf)
             refine qI (fun (v18:Int)=>pad [(1,.one (.ptr 0 0)),(4,iv v18)] 125) (fun (v18:Int)=>[.box (Msg.cs p0)]) _ p0.have_ (fun pre1 x1e xs1 v18  hl1 hi1 h ih1=>?_) (fun v18  hi1 h=>?_)  h
             ·rw [qaR] at h
              have am1:=qB hl1 hi1
              refine qa hX ?_
              revert h
              refine bndk fun y19 e20 h=>?_
              conv=>whnf
              repeat((first|refine dw ?_|refine qg (qi _) ?_|refine bct (qC hl1 hi1) ?_|refine bct (qc am1) ?_|refine bct (andt (qc am1) rfl) ?_|refine qe (qf am1) ?_|refine bct (andt (qc (qd am1)) rfl) ?_|refine qe (qf (qd am1)) ?_);conv=>whnf)
              refine qhJ hX e20 ?_
              revert h
              refine bndk fun y21 e22 h=>?_
              conv=>whnf
              repeat((first|refine dw ?_|refine bct (qc am1) ?_|refine bct (andt (qc am1) rfl) ?_|refine qe (qf am1) ?_|refine bct (andt (qc (qd am1)) rfl) ?_|refine qe (qf (qd am1)) ?_);conv=>whnf)
              refine qiQ hX e22 ?_
              conv=>whnf
              repeat((first|refine dw ?_);conv=>whnf)
              revert h
              refine brk (fun c23 h=>?_) (fun c23 h=>?_)
              ·conv=>whnf
               repeat((first|refine dw ?_|refine bct c23 ?_);conv=>whnf)
               exact K _ h
              ·conv=>whnf
               repeat((first|refine dw ?_|refine bcf c23 ?_);conv=>whnf)
               revert h
               refine brk (fun c24 h=>?_) (fun c24 h=>?_)
               ·conv=>whnf
                repeat((first|refine dw ?_|refine bct c24 ?_);conv=>whnf)
                exact K _ h
               ·conv=>whnf
                repeat((first|refine dw ?_|refine bcf c24 ?_|refine bct (qc am1) ?_|refine bct (andt (qc am1) rfl) ?_|refine qe (qf am1) ?_|refine bct (andt (qc (qd am1)) rfl) ?_|refine qe (qf (qd am1)) ?_);conv=>whnf)
                revert h
                refine brk (fun c25 h=>?_) (fun c25 h=>?_)
                ·conv=>whnf
                 repeat((first|refine dw ?_|refine bct c25 ?_);conv=>whnf)
                 exact K _ h
                ·conv=>whnf
                 repeat((first|refine dw ?_|refine bcf c25 ?_|refine bct (qc am1) ?_|refine bct (andt (qc am1) rfl) ?_|refine qe (qf am1) ?_|refine bct (andt (qc (qd am1)) rfl) ?_|refine qe (qf (qd am1)) ?_);conv=>whnf)
                 revert h
                 refine brk (fun c26 h=>?_) (fun c26 h=>?_)
                 ·conv=>whnf
                  repeat((first|refine dw ?_|refine bct c26 ?_);conv=>whnf)
                  exact K _ h
                 ·conv=>whnf
                  repeat((first|refine dw ?_|refine bcf c26 ?_);conv=>whnf)
                  revert h
                  refine brk (fun c27 h=>?_) (fun c27 h=>?_)
                  ·revert h
                   refine bndk fun x28 a29 h=>?_
                   conv=>whnf
                   repeat((first|refine dw ?_|refine bct c27 ?_|refine bct (qc am1) ?_|refine bct (andt (qc am1) rfl) ?_|refine qe (qf am1) ?_|refine bct (andt (qc (qd am1)) rfl) ?_|refine qe (qf (qd am1)) ?_|refine bct (qc a29) ?_|refine bct (andt (qc a29) rfl) ?_|refine qe (qf a29) ?_|refine bct (andt (qc (qd a29)) rfl) ?_|refine qe (qf (qd a29)) ?_);conv=>whnf)
                   revert h
                   refine brk (fun c30 h=>?_) (fun c30 h=>?_)
                   ·conv=>whnf
                    repeat((first|refine dw ?_|refine bct c30 ?_);conv=>whnf)
                    exact K _ h
                   ·conv=>whnf
                    repeat((first|refine dw ?_|refine bcf c30 ?_);conv=>whnf)
                    exact ih1 _  (wrL hs1 hl1 hi1) h
                  ·conv=>whnf
                   repeat((first|refine dw ?_|refine bcf c27 ?_);conv=>whnf)
                   exact ih1 _  (wrL hs1 hl1 hi1) h
             ·rw [qaR] at h
              refine qa hX ?_
              conv=>whnf
              repeat((first|refine dw ?_|refine qg (qi _) ?_|refine bcf (qD hi1) ?_);conv=>whnf)
              exact K _ h
theorem qjx  {p0:State} {p1:Msg} {p2:Int} {r:(List Msg)} (h:qc0 p0 p1 p2=some r) (hQ:Q (.one (.p (.sl (r.map Msg.row)))) []):X (.call 25 [.agg (State.cs p0),.agg (Msg.cs p1),iv p2] [] Q):=by
  have K:=fun a (e:some a=some r)=>qm (f:=fun y=>.one (.p (.sl (y.map Msg.row)))) (g:=fun y=>[]) e hQ
  unfold qc0 at h
  refine qJ hX ?_
  conv=>whnf
  refine qb hX Tryz.func25 rfl rfl ?_
  replace h:=qo h
  obtain ⟨y1,e2,h⟩:=h
  conv=>whnf
  repeat((first|refine dw ?_);conv=>whnf)
  refine qn1 hX e2 ?_
  conv=>whnf
  repeat((first|refine dw ?_);conv=>whnf)
  refine qj h (fun c3 g=>?_) (fun c3 g=>?_)
  ·replace h:=g
   clear g
   conv=>whnf
   repeat((first|refine dw ?_|refine bct c3 ?_);conv=>whnf)
   exact K _ h
  ·replace h:=g
   clear g
   conv=>whnf
   repeat((first|refine dw ?_|refine bcf c3 ?_);conv=>whnf)
   refine qj h (fun c4 g=>?_) (fun c4 g=>?_)
   ·replace h:=g
    clear g
    conv=>whnf
    repeat((first|refine dw ?_|refine bct c4 ?_);conv=>whnf)
    exact K _ h
   ·replace h:=g
    clear g
    replace h:=qo h
    obtain ⟨y5,e6,h⟩:=h
    conv=>whnf
    repeat((first|refine dw ?_|refine bcf c4 ?_);conv=>whnf)
    refine qhM hX e6 ?_
    replace h:=qq h
    obtain ⟨hs1,h⟩:=h
    conv=>whnf
    repeat((first|refine dw ?_);conv=>whnf)
    refine qeP hX [11] ?_
    conv=>whnf
    refine qO (fun (v7:Int) (v8:List Entry)=>pad [(2,iv p2),(0,.one (.ptr 0 0)),(0,.one (.ptr 1 0)),(3,.one (.p (.sl (y5.map Item.row)))),(0,.one (.own 2)),(0,iv v7)] 190) (fun (v7:Int) (v8:List Entry)=>[.box (State.cs p0),.box (Msg.cs p1),.rows 11 (v8.map Entry.row)]) _ y5 (fun pre1 x1e xs1 v7 v8 hl1 hi1 h ih1=>?_) (fun v7 v8 hi1 h=>?_) ([]:List Entry) h
    ·rw [qad] at h
     have am1:=qB hl1 hi1
     refine qa hX ?_
     replace h:=qo h
     obtain ⟨y9,e10,h⟩:=h
     conv=>whnf
     repeat((first|refine dw ?_|refine qg (qi _) ?_|refine bct (qC hl1 hi1) ?_|refine bct (qc am1) ?_|refine bct (andt (qc am1) rfl) ?_|refine qe (qf am1) ?_|refine bct (andt (qc (qd am1)) rfl) ?_|refine qe (qf (qd am1)) ?_);conv=>whnf)
     refine qfA hX e10 ?_
     replace h:=qo h
     obtain ⟨y11,e12,h⟩:=h
     conv=>whnf
     repeat((first|refine dw ?_|refine bct (qc am1) ?_|refine bct (andt (qc am1) rfl) ?_|refine qe (qf am1) ?_|refine bct (andt (qc (qd am1)) rfl) ?_|refine qe (qf (qd am1)) ?_);conv=>whnf)
     refine qez hX e12 ?_
     conv=>whnf
     repeat((first|refine dw ?_);conv=>whnf)
     refine qj h (fun c13 g=>?_) (fun c13 g=>?_)
     ·replace h:=g
      clear g
      conv=>whnf
      repeat((first|refine dw ?_|refine bct c13 ?_);conv=>whnf)
      refine qj h (fun c14 g=>?_) (fun c14 g=>?_)
      ·replace h:=g
       clear g
       replace h:=qq h
       obtain ⟨c15,h⟩:=h
       conv=>whnf
       repeat((first|refine dw ?_|refine bct c14 ?_|refine bct (qc am1) ?_|refine bct (andt (qc am1) rfl) ?_|refine qe (qf am1) ?_|refine bct (andt (qc (qd am1)) rfl) ?_|refine qe (qf (qd am1)) ?_|refine bct (qx c15 rfl rfl rfl rfl) ?_|refine qg (qH (f:=Entry.row) v8 (Entry.mk x1e false 0 0)) ?_);conv=>whnf)
       exact ih1 _ (v8++[(Entry.mk x1e false 0 0)]) (wrL hs1 hl1 hi1) h
      ·replace h:=g
       clear g
       conv=>whnf
       repeat((first|refine dw ?_|refine bcf c14 ?_);conv=>whnf)
       exact ih1 _ v8 (wrL hs1 hl1 hi1) h
     ·replace h:=g
      clear g
      conv=>whnf
      repeat((first|refine dw ?_|refine bcf c13 ?_);conv=>whnf)
      exact ih1 _ v8 (wrL hs1 hl1 hi1) h
    ·rw [qad] at h
     refine qa hX ?_
     replace h:=qo h
     obtain ⟨y16,e17,h⟩:=h
     conv=>whnf
     repeat((first|refine dw ?_|refine qg (qi _) ?_|refine bcf (qD hi1) ?_);conv=>whnf)
     refine qqF hX e17 ?_
     apply qfd (X:=X) (r:=r) (fun (v27:Know)=>pad [(2,iv p2),(0,.one (.ptr 0 0)),(0,.one (.ptr 1 0)),(3,.one (.p (.sl (y5.map Item.row)))),(0,.one (.own 2)),(3,.one (.ptr 3 0)),(0,.one (.p (.v (.bool y16))))] 186) (fun (v27:Know)=>[.box (State.cs p0),.box (Msg.cs p1),.rows 11 (v8.map Entry.row),.box [ic 3,ic p1.dst,ic p1.src,ic p1.sid,ic p2,ic 0,.p (.v (.string ⟨#[]⟩)),ic 0,.p (.v (.complex .f64 0 0)),.p (.v (.slice Option.none 0 0)),ic v27.star.x0,ic v27.star.x1,ic v27.star.x2,ic v27.star.x3,ic v27.star.x4,ic v27.star.x5,ic v27.star.x6,ic v27.star.x7,.p (.sl (v27.l.map Frag.row)),.p (.v (.slice Option.none 0 0)),ic 0,.p (.v (.slice Option.none 0 0)),.p (.v (.bool false))]])
     ·intro tl2
      conv=>whnf
      repeat((first|refine dw ?_);conv=>whnf)
      refine qj h (fun c57 g=>?_) (fun c57 g=>?_)
      ·replace h:=g
       clear g
       conv=>whnf
       repeat((first|refine dw ?_|refine bct c57 ?_);conv=>whnf)
       refine qri hX ?_
       conv=>whnf
       refine Two.r (Two.l ?_)
       conv=>whnf
       refine Two.r (Two.l ?_)
       conv=>whnf
       refine Two.r (Two.l ?_)
       conv=>whnf
       exact tl2.h p0.k h
      ·replace h:=g
       clear g
       conv=>whnf
       repeat((first|refine dw ?_|refine bcf c57 ?_);conv=>whnf)
       refine qri hX ?_
       conv=>whnf
       refine Two.r (Two.l ?_)
       conv=>whnf
       refine Two.r (Two.r ?_)
       conv=>whnf
       refine Two.r (Two.l ?_)
       conv=>whnf
       refine Two.r (Two.l ?_)
       conv=>whnf
       exact tl2.h (Know.mk (V8.mk 0 0 0 0 0 0 0 0) ([]:List Frag)) h
     ·intro v27 h
      unfold qcy at h
      refine qt hX ?_
      replace h:=qq h
      obtain ⟨hs3,h⟩:=h
      conv=>whnf
      repeat((first|refine dw ?_);conv=>whnf)
      refine qxq hX ?_
      conv=>whnf
      refine Two.r (Two.l ?_)
      conv=>whnf
      refine Two.r (Two.l ?_)
      conv=>whnf
      refine Two.l ?_
      conv=>whnf
      refine qeP hX [11] ?_
      conv=>whnf
      refine qfe (fun (v28:Int) (v29:List Entry) (v30:List Entry)=>pad [(2,iv p2),(0,.one (.ptr 0 0)),(0,.one (.ptr 1 0)),(3,.one (.p (.sl (y5.map Item.row)))),(0,.one (.own 2)),(3,.one (.ptr 3 0)),(0,.one (.p (.v (.bool y16)))),(0,iv v28)] 185) (fun (v28:Int) (v29:List Entry) (v30:List Entry)=>[.box (State.cs p0),.box (Msg.cs p1),.rows 11 (v30.map Entry.row),.box [ic 3,ic p1.dst,ic p1.src,ic p1.sid,ic p2,ic 0,.p (.v (.string ⟨#[]⟩)),ic 0,.p (.v (.complex .f64 0 0)),.p (.v (.slice Option.none 0 0)),ic v27.star.x0,ic v27.star.x1,ic v27.star.x2,ic v27.star.x3,ic v27.star.x4,ic v27.star.x5,ic v27.star.x6,ic v27.star.x7,.p (.sl (v27.l.map Frag.row)),.p (.v (.slice Option.none 0 0)),ic 0,.own 4,.p (.v (.bool false))],.rows 11 (v29.map Entry.row)]) _ p1.have_ (fun pre3 x3e xs3 v28 v29 v30 hl3 hi3 h ih3=>?_) (fun v28 v29 v30 hi3 h=>?_) ([]:List Entry) v8 h
      ·rw [qG] at h
       have am3:=qB hl3 hi3
       refine qa hX ?_
       replace h:=qo h
       obtain ⟨y31,e32,h⟩:=h
       conv=>whnf
       repeat((first|refine dw ?_|refine qg (qi _) ?_|refine bct (qC hl3 hi3) ?_|refine bct (qc am3) ?_|refine bct (andt (qc am3) rfl) ?_|refine qe (qf am3) ?_|refine bct (andt (qc (qd am3)) rfl) ?_|refine qe (qf (qd am3)) ?_);conv=>whnf)
       refine qeA hX e32 ?_
       conv=>whnf
       repeat((first|refine dw ?_);conv=>whnf)
       refine qj h (fun c33 g=>?_) (fun c33 g=>?_)
       ·replace h:=g
        clear g
        conv=>whnf
        repeat((first|refine dw ?_|refine bct c33 ?_);conv=>whnf)
        refine qj h (fun c34 g=>?_) (fun c34 g=>?_)
        ·replace h:=g
         clear g
         replace h:=qo h
         obtain ⟨y35,e36,h⟩:=h
         conv=>whnf
         repeat((first|refine dw ?_|refine bct c34 ?_);conv=>whnf)
         refine qfA hX e36 ?_
         conv=>whnf
         repeat((first|refine dw ?_|refine bct c34 ?_);conv=>whnf)
         refine qj h (fun c37 g=>?_) (fun c37 g=>?_)
         ·replace h:=g
          clear g
          replace h:=qq h
          obtain ⟨c38,h⟩:=h
          conv=>whnf
          repeat((first|refine dw ?_|refine bct c37 ?_|refine bct (qx c38 rfl rfl rfl rfl) ?_|refine qg (qH (f:=Entry.row) v29 (Entry.mk (Item.mk x3e.id x3e.vr x3e.vc 0 ⟨#[]⟩ 0 0 0 false) true 0 0)) ?_);conv=>whnf)
          exact ih3 _ (v29++[(Entry.mk (Item.mk x3e.id x3e.vr x3e.vc 0 ⟨#[]⟩ 0 0 0 false) true 0 0)]) v30 (wrL hs3 hl3 hi3) h
         ·replace h:=g
          clear g
          conv=>whnf
          repeat((first|refine dw ?_|refine bcf c37 ?_);conv=>whnf)
          exact ih3 _ v29 v30 (wrL hs3 hl3 hi3) h
        ·replace h:=g
         clear g
         conv=>whnf
         repeat((first|refine dw ?_|refine bcf c34 ?_);conv=>whnf)
         exact ih3 _ v29 v30 (wrL hs3 hl3 hi3) h
       ·replace h:=g
        clear g
        replace h:=qo h
        obtain ⟨y39,e40,h⟩:=h
        conv=>whnf
        repeat((first|refine dw ?_|refine bcf c33 ?_);conv=>whnf)
        refine qez hX e40 ?_
        conv=>whnf
        repeat((first|refine dw ?_);conv=>whnf)
        refine qj h (fun c41 g=>?_) (fun c41 g=>?_)
        ·replace h:=g
         clear g
         replace h:=qo h
         obtain ⟨y42,e43,h⟩:=h
         conv=>whnf
         repeat((first|refine dw ?_|refine bct c41 ?_);conv=>whnf)
         refine qe0 hX e43 ?_
         conv=>whnf
         repeat((first|refine dw ?_|refine bct c41 ?_);conv=>whnf)
         refine qj h (fun c44 g=>?_) (fun c44 g=>?_)
         ·replace h:=g
          clear g
          replace h:=qq h
          obtain ⟨c45,h⟩:=h
          conv=>whnf
          repeat((first|refine dw ?_|refine bct c44 ?_|refine bct (qx c45 rfl rfl rfl rfl) ?_|refine qg (qH (f:=Entry.row) v30 (Entry.mk (Item.mk x3e.id x3e.vr x3e.vc 0 ⟨#[]⟩ 0 0 0 false) true y31.1.vr y31.1.vc)) ?_);conv=>whnf)
          exact ih3 _ v29 (v30++[(Entry.mk (Item.mk x3e.id x3e.vr x3e.vc 0 ⟨#[]⟩ 0 0 0 false) true y31.1.vr y31.1.vc)]) (wrL hs3 hl3 hi3) h
         ·replace h:=g
          clear g
          conv=>whnf
          repeat((first|refine dw ?_|refine bcf c44 ?_);conv=>whnf)
          exact ih3 _ v29 v30 (wrL hs3 hl3 hi3) h
        ·replace h:=g
         clear g
         conv=>whnf
         repeat((first|refine dw ?_|refine bcf c41 ?_);conv=>whnf)
         exact ih3 _ v29 v30 (wrL hs3 hl3 hi3) h
      ·rw [qG] at h
       refine qa hX ?_
       conv=>whnf
       repeat((first|refine dw ?_|refine qg (qi _) ?_|refine bcf (qD hi3) ?_);conv=>whnf)
       refine qxr hX [1] ?_
       conv=>whnf
       conv=>whnf
       repeat((first|refine dw ?_);conv=>whnf)
       refine qeP hX [23] ?_
       conv=>whnf
       refine qhs (fun (v46:Int) (v47:List Msg)=>pad [(2,iv p2),(1,.one (.ptr 0 0)),(4,.one (.p (.sl (v30.map Entry.row)))),(3,.one (.ptr 1 0)),(7,.one (.own 3)),(0,iv v46)] 178) (fun (v46:Int) (v47:List Msg)=>[.box (Msg.cs p1),.box [ic 3,ic p1.dst,ic p1.src,ic p1.sid,ic p2,ic 0,.p (.v (.string ⟨#[]⟩)),ic 0,.p (.v (.complex .f64 0 0)),.p (.v (.slice Option.none 0 0)),ic v27.star.x0,ic v27.star.x1,ic v27.star.x2,ic v27.star.x3,ic v27.star.x4,ic v27.star.x5,ic v27.star.x6,ic v27.star.x7,.p (.sl (v27.l.map Frag.row)),.p (.v (.slice Option.none 0 0)),ic 0,.own 2,.p (.v (.bool false))],.rows 11 (v29.map Entry.row),.rows 23 (v47.map Msg.row)]) _ (fun _ _ h=>?_) (fun fl4 v46 v47 h ih4=>?_) qdC 0 ([]:List Msg) h
       ·rw [qV] at h
        cases h
       ·rw [qV] at h
        refine qa hX ?_
        conv=>whnf
        repeat((first|refine dw ?_|refine qg (qi _) ?_);conv=>whnf)
        refine qj h (fun c48 g=>?_) (fun c48 g=>?_)
        ·replace h:=g
         clear g
         conv=>whnf
         repeat((first|refine dw ?_|refine bct c48 ?_|refine qg (qi _) ?_);conv=>whnf)
         refine qj h (fun c49 g=>?_) (fun c49 g=>?_)
         ·replace h:=g
          clear g
          replace h:=qq h
          obtain ⟨c50,h⟩:=h
          replace h:=qq h
          obtain ⟨c51,h⟩:=h
          replace h:=qq h
          obtain ⟨c52,h⟩:=h
          conv=>whnf
          repeat((first|refine dw ?_|refine bct c49 ?_|refine qg (qi _) ?_|refine bct (qh8 (f:=Entry.row) (a:=v46) (sz:=11) c50 (fun _=>rfl)) ?_|refine qg (qwq (f:=Entry.row) v30 v46 (v30.length:Int)) ?_|refine bct (qdX c51 (List.length_map ..) rfl (qas (f:=Entry.row) (sz:=11) (fun _=>rfl) _) rfl) ?_|refine qg (qiF (f:=Entry.row) _) ?_|refine bct (qx c52 rfl rfl rfl rfl) ?_|refine qg (qH (f:=Msg.row) v47 (Msg.mk 2 p1.dst p1.src p1.sid p2 (Pred.mk 0 ⟨#[]⟩ 0 0 0 ([]:List Pred)) (Know.mk (V8.mk 0 0 0 0 0 0 0 0) ([]:List Frag)) ([]:List Has) (wr .i64 (qjq v46 4)) (subL v30 v46 (v30.length:Int)) false)) ?_);conv=>whnf)
          exact ih4 (wr .i64 (v46 + 4)) (v47++[(Msg.mk 2 p1.dst p1.src p1.sid p2 (Pred.mk 0 ⟨#[]⟩ 0 0 0 ([]:List Pred)) (Know.mk (V8.mk 0 0 0 0 0 0 0 0) ([]:List Frag)) ([]:List Has) (wr .i64 (qjq v46 4)) (subL v30 v46 (v30.length:Int)) false)]) h
         ·replace h:=g
          clear g
          replace h:=qq h
          obtain ⟨c53,h⟩:=h
          replace h:=qq h
          obtain ⟨c54,h⟩:=h
          replace h:=qq h
          obtain ⟨c55,h⟩:=h
          conv=>whnf
          repeat((first|refine dw ?_|refine bcf c49 ?_|refine bct (qh8 (f:=Entry.row) (a:=v46) (sz:=11) c53 (fun _=>rfl)) ?_|refine qg (qwq (f:=Entry.row) v30 v46 (wr .i64 (v46 + 4))) ?_|refine bct (qdX c54 (List.length_map ..) rfl (qas (f:=Entry.row) (sz:=11) (fun _=>rfl) _) rfl) ?_|refine qg (qiF (f:=Entry.row) _) ?_|refine bct (qx c55 rfl rfl rfl rfl) ?_|refine qg (qH (f:=Msg.row) v47 (Msg.mk 2 p1.dst p1.src p1.sid p2 (Pred.mk 0 ⟨#[]⟩ 0 0 0 ([]:List Pred)) (Know.mk (V8.mk 0 0 0 0 0 0 0 0) ([]:List Frag)) ([]:List Has) (wr .i64 (qjq v46 4)) (subL v30 v46 (wr .i64 (v46 + 4))) false)) ?_);conv=>whnf)
          exact ih4 (wr .i64 (v46 + 4)) (v47++[(Msg.mk 2 p1.dst p1.src p1.sid p2 (Pred.mk 0 ⟨#[]⟩ 0 0 0 ([]:List Pred)) (Know.mk (V8.mk 0 0 0 0 0 0 0 0) ([]:List Frag)) ([]:List Has) (wr .i64 (qjq v46 4)) (subL v30 v46 (wr .i64 (v46 + 4))) false)]) h
        ·replace h:=g
         clear g
         replace h:=qq h
         obtain ⟨c56,h⟩:=h
         conv=>whnf
         repeat((first|refine dw ?_|refine bcf c48 ?_|refine qg (qi _) ?_|refine bct (qx c56 rfl rfl rfl rfl) ?_|refine qg (qH (f:=Msg.row) v47 (Msg.mk 3 p1.dst p1.src p1.sid p2 (Pred.mk 0 ⟨#[]⟩ 0 0 0 ([]:List Pred)) v27 ([]:List Has) (v47.length:Int) v29 false)) ?_);conv=>whnf)
         exact K _ h
theorem qi2  {p0:State} {p1:Sess} {p2:Msg} {r:Int} (h:qcz p0 p1 p2=some r) (hQ:Q (iv r) []):X (.call 132 [.agg (State.cs p0),.agg (Sess.cs p1),.agg (Msg.cs p2)] [] Q):=by
  have K:=fun a (e:some a=some r)=>qm (f:=fun y=>iv y) (g:=fun y=>[]) e hQ
  unfold qcz at h
  refine qb hX Tryz.func132 rfl rfl ?_
  apply qmy (X:=X) (r:=r) (pad [(3,.one (.ptr 0 0)),(0,.one (.ptr 1 0)),(0,.one (.ptr 2 0))] 112) ([.box (State.cs p0),.box (Sess.cs p1),.box (Msg.cs p2)])
  ·intro tl1
   conv=>whnf
   repeat((first|refine dw ?_);conv=>whnf)
   refine qj h (fun c21 g=>?_) (fun c21 g=>?_)
   ·replace h:=g
    clear g
    conv=>whnf
    repeat((first|refine dw ?_|refine bct c21 ?_);conv=>whnf)
    refine qj h (fun c22 g=>?_) (fun c22 g=>?_)
    ·replace h:=g
     clear g
     conv=>whnf
     repeat((first|refine dw ?_|refine bct c22 ?_);conv=>whnf)
     exact K _ h
    ·replace h:=g
     clear g
     conv=>whnf
     repeat((first|refine dw ?_|refine bcf c22 ?_);conv=>whnf)
     refine qj h (fun c23 g=>?_) (fun c23 g=>?_)
     ·replace h:=g
      clear g
      conv=>whnf
      repeat((first|refine dw ?_|refine bct c23 ?_);conv=>whnf)
      exact K _ h
     ·replace h:=g
      clear g
      conv=>whnf
      repeat((first|refine dw ?_|refine bcf c23 ?_);conv=>whnf)
      refine qj h (fun c24 g=>?_) (fun c24 g=>?_)
      ·replace h:=g
       clear g
       conv=>whnf
       repeat((first|refine dw ?_|refine bct c24 ?_);conv=>whnf)
       exact K _ h
      ·replace h:=g
       clear g
       conv=>whnf
       repeat((first|refine dw ?_|refine bcf c24 ?_);conv=>whnf)
       refine qj h (fun c25 g=>?_) (fun c25 g=>?_)
       ·replace h:=g
        clear g
        conv=>whnf
        repeat((first|refine dw ?_|refine bct c25 ?_);conv=>whnf)
        exact K _ h
       ·replace h:=g
        clear g
        conv=>whnf
        repeat((first|refine dw ?_|refine bcf c25 ?_);conv=>whnf)
        exact tl1.h  h
   ·replace h:=g
    clear g
    conv=>whnf
    repeat((first|refine dw ?_|refine bcf c21 ?_);conv=>whnf)
    refine qj h (fun c26 g=>?_) (fun c26 g=>?_)
    ·replace h:=g
     clear g
     conv=>whnf
     repeat((first|refine dw ?_|refine bct c26 ?_);conv=>whnf)
     exact K _ h
    ·replace h:=g
     clear g
     conv=>whnf
     repeat((first|refine dw ?_|refine bcf c26 ?_);conv=>whnf)
     refine qj h (fun c27 g=>?_) (fun c27 g=>?_)
     ·replace h:=g
      clear g
      conv=>whnf
      repeat((first|refine dw ?_|refine bct c27 ?_);conv=>whnf)
      exact K _ h
     ·replace h:=g
      clear g
      conv=>whnf
      repeat((first|refine dw ?_|refine bcf c27 ?_);conv=>whnf)
      refine qj h (fun c28 g=>?_) (fun c28 g=>?_)
      ·replace h:=g
       clear g
       conv=>whnf
       repeat((first|refine dw ?_|refine bct c28 ?_);conv=>whnf)
       exact K _ h
      ·replace h:=g
       clear g
       conv=>whnf
       repeat((first|refine dw ?_|refine bcf c28 ?_);conv=>whnf)
       exact tl1.h  h
  ·intro h
   unfold qbL at h
   refine qt hX ?_
   apply qmy (X:=X) (r:=r) (pad [(3,.one (.ptr 0 0)),(0,.one (.ptr 1 0)),(0,.one (.ptr 2 0))] 112) ([.box (State.cs p0),.box (Sess.cs p1),.box (Msg.cs p2)])
   ·intro tl2
    conv=>whnf
    repeat((first|refine dw ?_);conv=>whnf)
    refine qj h (fun c18 g=>?_) (fun c18 g=>?_)
    ·replace h:=g
     clear g
     conv=>whnf
     repeat((first|refine dw ?_|refine bct c18 ?_);conv=>whnf)
     exact K _ h
    ·replace h:=g
     clear g
     conv=>whnf
     repeat((first|refine dw ?_|refine bcf c18 ?_);conv=>whnf)
     refine qj h (fun c19 g=>?_) (fun c19 g=>?_)
     ·replace h:=g
      clear g
      conv=>whnf
      repeat((first|refine dw ?_|refine bct c19 ?_|refine bcf c18 ?_);conv=>whnf)
      refine qj h (fun c20 g=>?_) (fun c20 g=>?_)
      ·replace h:=g
       clear g
       conv=>whnf
       repeat((first|refine dw ?_|refine bct c20 ?_);conv=>whnf)
       exact K _ h
      ·replace h:=g
       clear g
       conv=>whnf
       repeat((first|refine dw ?_|refine bcf c20 ?_);conv=>whnf)
       exact tl2.h  h
     ·replace h:=g
      clear g
      conv=>whnf
      repeat((first|refine dw ?_|refine bcf c19 ?_|refine bcf c18 ?_);conv=>whnf)
      exact tl2.h  h
   ·intro h
    unfold qbK at h
    refine qt hX ?_
    conv=>whnf
    repeat((first|refine dw ?_);conv=>whnf)
    refine qj h (fun c1 g=>?_) (fun c1 g=>?_)
    ·replace h:=g
     clear g
     conv=>whnf
     repeat((first|refine dw ?_|refine bct c1 ?_);conv=>whnf)
     exact K _ h
    ·replace h:=g
     clear g
     conv=>whnf
     repeat((first|refine dw ?_|refine bcf c1 ?_);conv=>whnf)
     refine qj h (fun c2 g=>?_) (fun c2 g=>?_)
     ·replace h:=g
      clear g
      conv=>whnf
      repeat((first|refine dw ?_|refine bct c2 ?_);conv=>whnf)
      exact K _ h
     ·replace h:=g
      clear g
      apply qmy (X:=X) (r:=r) (pad [(3,.one (.ptr 0 0)),(1,.one (.ptr 1 0))] 112) ([.box (State.cs p0),.box (Msg.cs p2)])
      ·intro tl3
       conv=>whnf
       repeat((first|refine dw ?_|refine bcf c2 ?_);conv=>whnf)
       refine qj h (fun c12 g=>?_) (fun c12 g=>?_)
       ·replace h:=g
        clear g
        conv=>whnf
        repeat((first|refine dw ?_|refine bct c12 ?_);conv=>whnf)
        exact K _ h
       ·replace h:=g
        clear g
        conv=>whnf
        repeat((first|refine dw ?_|refine bcf c12 ?_);conv=>whnf)
        refine qj h (fun c13 g=>?_) (fun c13 g=>?_)
        ·replace h:=g
         clear g
         conv=>whnf
         repeat((first|refine dw ?_|refine bct c13 ?_);conv=>whnf)
         exact K _ h
        ·replace h:=g
         clear g
         conv=>whnf
         repeat((first|refine dw ?_|refine bcf c13 ?_);conv=>whnf)
         refine qj h (fun c14 g=>?_) (fun c14 g=>?_)
         ·replace h:=g
          clear g
          conv=>whnf
          repeat((first|refine dw ?_|refine bct c14 ?_|refine qg (qi _) ?_|refine bcf c13 ?_);conv=>whnf)
          refine qj h (fun c15 g=>?_) (fun c15 g=>?_)
          ·replace h:=g
           clear g
           conv=>whnf
           repeat((first|refine dw ?_|refine bct c15 ?_);conv=>whnf)
           exact K _ h
          ·replace h:=g
           clear g
           conv=>whnf
           repeat((first|refine dw ?_|refine bcf c15 ?_|refine qg (qi _) ?_);conv=>whnf)
           refine qj h (fun c16 g=>?_) (fun c16 g=>?_)
           ·replace h:=g
            clear g
            conv=>whnf
            repeat((first|refine dw ?_|refine bct c16 ?_);conv=>whnf)
            exact K _ h
           ·replace h:=g
            clear g
            conv=>whnf
            repeat((first|refine dw ?_|refine bcf c16 ?_);conv=>whnf)
            exact tl3.h  h
         ·replace h:=g
          clear g
          conv=>whnf
          repeat((first|refine dw ?_|refine bcf c14 ?_|refine bcf c13 ?_|refine qg (qi _) ?_);conv=>whnf)
          refine qj h (fun c17 g=>?_) (fun c17 g=>?_)
          ·replace h:=g
           clear g
           conv=>whnf
           repeat((first|refine dw ?_|refine bct c17 ?_);conv=>whnf)
           exact K _ h
          ·replace h:=g
           clear g
           conv=>whnf
           repeat((first|refine dw ?_|refine bcf c17 ?_);conv=>whnf)
           exact tl3.h  h
      ·intro h
       unfold qbJ at h
       refine qt hX ?_
       conv=>whnf
       repeat((first|refine dw ?_);conv=>whnf)
       refine qj h (fun c3 g=>?_) (fun c3 g=>?_)
       ·replace h:=g
        clear g
        conv=>whnf
        repeat((first|refine dw ?_|refine bct c3 ?_);conv=>whnf)
        exact K _ h
       ·replace h:=g
        clear g
        replace h:=qq h
        obtain ⟨hs4,h⟩:=h
        conv=>whnf
        repeat((first|refine dw ?_|refine bcf c3 ?_);conv=>whnf)
        refine qal (fun (v4:Int)=>pad [(3,.one (.ptr 0 0)),(1,.one (.ptr 1 0)),(1,iv v4)] 110) (fun (v4:Int)=>[.box (State.cs p0),.box (Msg.cs p2)]) _ p2.l (fun pre4 x4e xs4 v4  hl4 hi4 h ih4=>?_) (fun v4  hi4 h=>?_)  h
        ·rw [qax] at h
         have am4:=qB hl4 hi4
         refine qa hX ?_
         conv=>whnf
         repeat((first|refine dw ?_|refine qg (qi _) ?_|refine bct (qC hl4 hi4) ?_|refine bct (qc am4) ?_|refine bct (andt (qc am4) rfl) ?_|refine qe (qf am4) ?_|refine bct (andt (qc (qd am4)) rfl) ?_|refine qe (qf (qd am4)) ?_);conv=>whnf)
         refine qj h (fun c5 g=>?_) (fun c5 g=>?_)
         ·replace h:=g
          clear g
          conv=>whnf
          repeat((first|refine dw ?_|refine bct c5 ?_);conv=>whnf)
          exact K _ h
         ·replace h:=g
          clear g
          conv=>whnf
          repeat((first|refine dw ?_|refine bcf c5 ?_);conv=>whnf)
          exact ih4 _  (wrL hs4 hl4 hi4) h
        ·rw [qax] at h
         refine qa hX ?_
         replace h:=qo h
         obtain ⟨y6,e7,h⟩:=h
         conv=>whnf
         repeat((first|refine dw ?_|refine qg (qi _) ?_|refine bcf (qD hi4) ?_);conv=>whnf)
         refine qgM hX e7 ?_
         conv=>whnf
         repeat((first|refine dw ?_);conv=>whnf)
         refine qj h (fun c8 g=>?_) (fun c8 g=>?_)
         ·replace h:=g
          clear g
          conv=>whnf
          repeat((first|refine dw ?_|refine bct c8 ?_);conv=>whnf)
          exact K _ h
         ·replace h:=g
          clear g
          replace h:=qo h
          obtain ⟨y9,e10,h⟩:=h
          conv=>whnf
          repeat((first|refine dw ?_|refine bcf c8 ?_);conv=>whnf)
          refine qgD hX e10 ?_
          conv=>whnf
          repeat((first|refine dw ?_|refine bcf c8 ?_);conv=>whnf)
          refine qj h (fun c11 g=>?_) (fun c11 g=>?_)
          ·replace h:=g
           clear g
           conv=>whnf
           repeat((first|refine dw ?_|refine bct c11 ?_);conv=>whnf)
           exact K _ h
          ·replace h:=g
           clear g
           conv=>whnf
           repeat((first|refine dw ?_|refine bcf c11 ?_);conv=>whnf)
           exact K _ h
theorem qmI  {p0:List Int} {p1:Int} {r:Bool} (h:qec p0 p1=some r) (hQ:Q (.one (.p (.v (.bool r)))) []):X (.call 134 [.one (.p (.sl (p0.map irw))),iv p1] [] Q):=by
  have K:=fun a (e:some a=some r)=>qm (f:=fun y=>.one (.p (.v (.bool y)))) (g:=fun y=>[]) e hQ
  unfold qec at h
  refine qb hX Tryz.func134 rfl rfl ?_
  conv=>whnf
  repeat((first|refine dw ?_);conv=>whnf)
  refine qhr (fun (v1:Int)=>pad [(0,.one (.p (.sl (p0.map irw)))),(0,iv p1),(3,iv v1)] 24) (fun (v1:Int)=>[]) _ (fun _ h=>?_) (fun fl1 v1 h ih1=>?_) qdC 0 h
  ·rw [qcO] at h
   cases h
  ·rw [qcO] at h
   refine qa hX ?_
   conv=>whnf
   repeat((first|refine dw ?_);conv=>whnf)
   revert h
   refine brk (fun c2 h=>?_) (fun c2 h=>?_)
   ·revert h
    refine chkk fun hs2 h=>?_
    conv=>whnf
    repeat((first|refine dw ?_|refine bct c2 ?_);conv=>whnf)
    refine qO (fun (v4:Int) (v3:Bool)=>pad [(0,.one (.p (.sl (p0.map irw)))),(0,iv p1),(3,iv v1),(0,.one (.p (.v (.bool v3)))),(0,iv v4)] 22) (fun (v4:Int) (v3:Bool)=>[]) _ p0 (fun pre2 x2e xs2 v4 v3 hl2 hi2 h ih2=>?_) (fun v4 v3 hi2 h=>?_) false h
    ·rw [qaS] at h
     have am2:=qB hl2 hi2
     refine qa hX ?_
     conv=>whnf
     repeat((first|refine dw ?_|refine qg (qi _) ?_|refine bct (qC hl2 hi2) ?_);conv=>whnf)
     revert h
     refine brk (fun c5 h=>?_) (fun c5 h=>?_)
     ·conv=>whnf
      repeat((first|refine dw ?_|refine bct c5 ?_);conv=>whnf)
      exact ih2 _ true (wrL hs2 hl2 hi2) h
     ·conv=>whnf
      repeat((first|refine dw ?_|refine bcf c5 ?_|refine bct (qc am2) ?_|refine bct (andt (qc am2) rfl) ?_|refine qe (qf am2) ?_|refine bct (andt (qc (qd am2)) rfl) ?_|refine qe (qf (qd am2)) ?_);conv=>whnf)
      exact ih2 _ (eqI x2e v1) (wrL hs2 hl2 hi2) h
    ·rw [qaS] at h
     refine qa hX ?_
     conv=>whnf
     repeat((first|refine dw ?_|refine qg (qi _) ?_|refine bcf (qD hi2) ?_);conv=>whnf)
     revert h
     refine brk (fun c6 h=>?_) (fun c6 h=>?_)
     ·conv=>whnf
      repeat((first|refine dw ?_|refine bct c6 ?_);conv=>whnf)
      exact K _ h
     ·conv=>whnf
      repeat((first|refine dw ?_|refine bcf c6 ?_);conv=>whnf)
      exact ih1 (wr .i64 (v1 + 1)) h
   ·conv=>whnf
    repeat((first|refine dw ?_|refine bcf c2 ?_);conv=>whnf)
    exact K _ h
theorem qmJ  {p0:List Int} {p1:Int} {r:(List Int)} (h:qed p0 p1=some r) (hQ:Q (.one (.p (.sl (r.map irw)))) []):X (.call 133 [.one (.p (.sl (p0.map irw))),iv p1] [] Q):=by
  have K:=fun a (e:some a=some r)=>qm (f:=fun y=>.one (.p (.sl (y.map irw)))) (g:=fun y=>[]) e hQ
  unfold qed at h
  refine qJ hX ?_
  conv=>whnf
  refine qb hX Tryz.func133 rfl rfl ?_
  replace h:=qq h
  obtain ⟨hs1,h⟩:=h
  conv=>whnf
  repeat((first|refine dw ?_);conv=>whnf)
  refine qeP hX [1] ?_
  conv=>whnf
  refine qfe (fun (v2:Int) (v1:Bool) (v3:List Int)=>pad [(0,.one (.p (.sl (p0.map irw)))),(0,iv p1),(3,.one (.own 0)),(0,.one (.p (.v (.bool v1)))),(0,iv v2)] 40) (fun (v2:Int) (v1:Bool) (v3:List Int)=>[.rows 1 (v3.map irw)]) _ p0 (fun pre1 x1e xs1 v2 v1 v3 hl1 hi1 h ih1=>?_) (fun v2 v1 v3 hi1 h=>?_) false ([]:List Int) h
  ·rw [qQ] at h
   have am1:=qB hl1 hi1
   refine qa hX ?_
   apply qz8 (X:=X) (r:=r) (fun (v4:Bool) (v5:List Int)=>pad [(0,.one (.p (.sl (p0.map irw)))),(0,iv p1),(3,.one (.own 0)),(0,.one (.p (.v (.bool v4)))),(0,iv v2)] 40) (fun (v4:Bool) (v5:List Int)=>[.rows 1 (v5.map irw)])
   ·intro tl2
    conv=>whnf
    repeat((first|refine dw ?_|refine qg (qi _) ?_|refine bct (qC hl1 hi1) ?_);conv=>whnf)
    refine qj h (fun c8 g=>?_) (fun c8 g=>?_)
    ·replace h:=g
     clear g
     conv=>whnf
     repeat((first|refine dw ?_|refine bct c8 ?_|refine bct (qc am1) ?_|refine bct (andt (qc am1) rfl) ?_|refine qe (qf am1) ?_|refine bct (andt (qc (qd am1)) rfl) ?_|refine qe (qf (qd am1)) ?_);conv=>whnf)
     refine qj h (fun c9 g=>?_) (fun c9 g=>?_)
     ·replace h:=g
      clear g
      replace h:=qq h
      obtain ⟨c10,h⟩:=h
      conv=>whnf
      repeat((first|refine dw ?_|refine bct c9 ?_|refine bct (qx c10 rfl rfl rfl rfl) ?_|refine qg (qH (f:=irw) v3 p1) ?_);conv=>whnf)
      exact tl2.h true (v3++[p1]) h
     ·replace h:=g
      clear g
      conv=>whnf
      repeat((first|refine dw ?_|refine bcf c9 ?_);conv=>whnf)
      exact tl2.h v1 v3 h
    ·replace h:=g
     clear g
     conv=>whnf
     repeat((first|refine dw ?_|refine bcf c8 ?_);conv=>whnf)
     exact tl2.h v1 v3 h
   ·intro v4 v5 h
    unfold qbD at h
    refine qt hX ?_
    conv=>whnf
    repeat((first|refine dw ?_|refine bct (qc am1) ?_|refine bct (andt (qc am1) rfl) ?_|refine qe (qf am1) ?_|refine bct (andt (qc (qd am1)) rfl) ?_|refine qe (qf (qd am1)) ?_);conv=>whnf)
    refine qj h (fun c6 g=>?_) (fun c6 g=>?_)
    ·replace h:=g
     clear g
     replace h:=qq h
     obtain ⟨c7,h⟩:=h
     conv=>whnf
     repeat((first|refine dw ?_|refine bct c6 ?_|refine bct (qc am1) ?_|refine bct (andt (qc am1) rfl) ?_|refine qe (qf am1) ?_|refine bct (andt (qc (qd am1)) rfl) ?_|refine qe (qf (qd am1)) ?_|refine bct (qx c7 rfl rfl rfl rfl) ?_|refine qg (qH (f:=irw) v5 x1e) ?_);conv=>whnf)
     exact ih1 _ v4 (v5++[x1e]) (wrL hs1 hl1 hi1) h
    ·replace h:=g
     clear g
     conv=>whnf
     repeat((first|refine dw ?_|refine bcf c6 ?_);conv=>whnf)
     exact ih1 _ v4 v5 (wrL hs1 hl1 hi1) h
  ·rw [qQ] at h
   refine qa hX ?_
   conv=>whnf
   repeat((first|refine dw ?_|refine qg (qi _) ?_|refine bcf (qD hi1) ?_);conv=>whnf)
   refine qj h (fun c11 g=>?_) (fun c11 g=>?_)
   ·replace h:=g
    clear g
    replace h:=qq h
    obtain ⟨c12,h⟩:=h
    conv=>whnf
    repeat((first|refine dw ?_|refine bct c11 ?_|refine bct (qx c12 rfl rfl rfl rfl) ?_|refine qg (qH (f:=irw) v3 p1) ?_);conv=>whnf)
    exact K _ h
   ·replace h:=g
    clear g
    conv=>whnf
    repeat((first|refine dw ?_|refine bcf c11 ?_);conv=>whnf)
    exact K _ h
theorem qhT  {p0:State} {p1:Sess} {p2:Msg} {r:State × Sess × Int} (h:qdq p0 p1 p2=some r) (hQ:Q (.tup [.agg (State.cs r.1),.agg (Sess.cs r.2.1),iv r.2.2]) []):X (.call 59 [.agg (State.cs p0),.agg (Sess.cs p1),.agg (Msg.cs p2)] [] Q):=by
  have K:=fun a (e:some a=some r)=>qm (f:=fun y=>.tup [.agg (State.cs y.1),.agg (Sess.cs y.2.1),iv y.2.2]) (g:=fun y=>[]) e hQ
  unfold qdq at h
  refine qJ hX ?_
  conv=>whnf
  refine qb hX Tryz.func59 rfl rfl ?_
  replace h:=qo h
  obtain ⟨y1,e2,h⟩:=h
  conv=>whnf
  repeat((first|refine dw ?_);conv=>whnf)
  refine qi2 hX e2 ?_
  conv=>whnf
  repeat((first|refine dw ?_);conv=>whnf)
  refine qj h (fun c3 g=>?_) (fun c3 g=>?_)
  ·replace h:=g
   clear g
   conv=>whnf
   repeat((first|refine dw ?_|refine bct c3 ?_);conv=>whnf)
   exact K _ h
  ·replace h:=g
   clear g
   apply qz9 (X:=X) (r:=r) (fun (v39:State) (v25:List Int) (v26:Bool) (v27:Bool) (v28:Int) (v40:Know) (v38:List Entry)=>pad [(3,.one (.ptr 0 0)),(0,.one (.ptr 1 0)),(1,.one (.ptr 2 0)),(0,.one (.ptr 7 0))] 124) (fun (v39:State) (v25:List Int) (v26:Bool) (v27:Bool) (v28:Int) (v40:Know) (v38:List Entry)=>[.box (State.cs v39),.box [ic p1.sid,ic p1.with_,ic p1.epoch,ic p2.turn,.p (.sl (v25.map irw)),.p (.v (.bool v26)),.p (.v (.bool v27)),.p (.v (.bool p1.over)),ic v28,ic v40.star.x0,ic v40.star.x1,ic v40.star.x2,ic v40.star.x3,ic v40.star.x4,ic v40.star.x5,ic v40.star.x6,ic v40.star.x7,.p (.sl (v40.l.map Frag.row)),.p (.sl (v38.map Entry.row))],.box [ic 0,ic 0,.p (.v (.string ⟨#[]⟩)),ic 0,.p (.v (.complex .f64 0 0)),.own 3,.own 4,.own 5,ic 0,ic 0,ic 0,ic 0,ic 0,ic 0,ic 0,ic 0,.own 6,ic 0,ic 0,ic 0],.rows 0 [],.rows 0 [],.rows 0 [],.rows 0 [],.box [ic 0,ic 0,ic 0,ic 0,.own 8,.p (.v (.bool false)),.p (.v (.bool false)),.p (.v (.bool false)),ic 0,ic 0,ic 0,ic 0,ic 0,ic 0,ic 0,ic 0,ic 0,.own 9,.own 10],.rows 0 [],.rows 0 [],.rows 0 []])
   ·intro tl1
    conv=>whnf
    repeat((first|refine dw ?_|refine bcf c3 ?_);conv=>whnf)
    refine qj h (fun c73 g=>?_) (fun c73 g=>?_)
    ·replace h:=g
     clear g
     replace h:=qq h
     obtain ⟨hs3,h⟩:=h
     conv=>whnf
     repeat((first|refine dw ?_|refine bct c73 ?_);conv=>whnf)
     refine qfe (fun (v74:Int) (v97:State) (v96:Bool)=>pad [(3,.one (.ptr 0 0)),(0,.one (.ptr 1 0)),(0,.one (.ptr 2 0)),(0,.one (.ptr 3 0)),(0,.one (.ptr 8 0)),(2,iv v74)] 121) (fun (v74:Int) (v97:State) (v96:Bool)=>[.box (State.cs v97),.box [ic p1.sid,ic p1.with_,ic p1.epoch,ic p2.turn,.p (.sl (p1.got.map irw)),.p (.v (.bool v96)),.p (.v (.bool p1.told)),.p (.v (.bool p1.over)),ic p1.n,ic p1.k.star.x0,ic p1.k.star.x1,ic p1.k.star.x2,ic p1.k.star.x3,ic p1.k.star.x4,ic p1.k.star.x5,ic p1.k.star.x6,ic p1.k.star.x7,.p (.sl (p1.k.l.map Frag.row)),.p (.sl (p1.l.map Entry.row))],.box (Msg.cs p2),.box [ic 0,ic 0,.p (.v (.string ⟨#[]⟩)),ic 0,.p (.v (.complex .f64 0 0)),.own 4,.own 5,.own 6,ic 0,ic 0,ic 0,ic 0,ic 0,ic 0,ic 0,ic 0,.own 7,ic 0,ic 0,ic 0],.rows 0 [],.rows 0 [],.rows 0 [],.rows 0 [],.box [ic 0,ic 0,ic 0,ic 0,.own 9,.p (.v (.bool false)),.p (.v (.bool false)),.p (.v (.bool false)),ic 0,ic 0,ic 0,ic 0,ic 0,ic 0,ic 0,ic 0,ic 0,.own 10,.own 11],.rows 0 [],.rows 0 [],.rows 0 []]) _ p2.l (fun pre3 x3e xs3 v74 v97 v96 hl3 hi3 h ih3=>?_) (fun v74 v97 v96 hi3 h=>?_) p0 p1.bad h
     ·rw [qaD] at h
      have am3:=qB hl3 hi3
      refine qa hX ?_
      conv=>whnf
      repeat((first|refine dw ?_|refine qg (qi _) ?_|refine bct (qC hl3 hi3) ?_|refine bct (qc am3) ?_|refine bct (andt (qc am3) rfl) ?_|refine qe (qf am3) ?_|refine bct (andt (qc (qd am3)) rfl) ?_|refine qe (qf (qd am3)) ?_);conv=>whnf)
      refine qj h (fun c98 g=>?_) (fun c98 g=>?_)
      ·replace h:=g
       clear g
       replace h:=qo h
       obtain ⟨y99,e100,h⟩:=h
       conv=>whnf
       repeat((first|refine dw ?_|refine bct c98 ?_);conv=>whnf)
       refine qhS hX e100 ?_
       conv=>whnf
       repeat((first|refine dw ?_);conv=>whnf)
       exact ih3 _ y99 v96 (wrL hs3 hl3 hi3) h
      ·replace h:=g
       clear g
       replace h:=qo h
       obtain ⟨y101,e102,h⟩:=h
       conv=>whnf
       repeat((first|refine dw ?_|refine bcf c98 ?_);conv=>whnf)
       refine qmG hX e102 ?_
       conv=>whnf
       repeat((first|refine dw ?_);conv=>whnf)
       refine qj h (fun c103 g=>?_) (fun c103 g=>?_)
       ·replace h:=g
        clear g
        conv=>whnf
        repeat((first|refine dw ?_|refine bct c103 ?_);conv=>whnf)
        exact ih3 _ v97 true (wrL hs3 hl3 hi3) h
       ·replace h:=g
        clear g
        conv=>whnf
        repeat((first|refine dw ?_|refine bcf c103 ?_);conv=>whnf)
        exact ih3 _ y101.1 v96 (wrL hs3 hl3 hi3) h
     ·rw [qaD] at h
      refine qa hX ?_
      replace h:=qo h
      obtain ⟨y104,e105,h⟩:=h
      conv=>whnf
      repeat((first|refine dw ?_|refine qg (qi _) ?_|refine bcf (qD hi3) ?_);conv=>whnf)
      refine qmJ hX e105 ?_
      conv=>whnf
      repeat((first|refine dw ?_);conv=>whnf)
      exact tl1.h v97 y104 v96 p1.told p1.n p1.k p1.l h
    ·replace h:=g
     clear g
     conv=>whnf
     repeat((first|refine dw ?_|refine bcf c73 ?_);conv=>whnf)
     refine qj h (fun c106 g=>?_) (fun c106 g=>?_)
     ·replace h:=g
      clear g
      conv=>whnf
      repeat((first|refine dw ?_|refine bct c106 ?_);conv=>whnf)
      exact tl1.h p0 p1.got p1.bad true p2.n p2.k p2.l h
     ·replace h:=g
      clear g
      conv=>whnf
      repeat((first|refine dw ?_|refine bcf c106 ?_);conv=>whnf)
      exact tl1.h p0 p1.got p1.bad p1.told p1.n p1.k p1.l h
   ·intro v39 v25 v26 v27 v28 v40 v38 h
    unfold qcP at h
    refine qt hX ?_
    replace h:=qo h
    obtain ⟨y41,e42,h⟩:=h
    conv=>whnf
    repeat((first|refine dw ?_);conv=>whnf)
    refine qmI hX e42 ?_
    conv=>whnf
    repeat((first|refine dw ?_);conv=>whnf)
    refine qj h (fun c43 g=>?_) (fun c43 g=>?_)
    ·replace h:=g
     clear g
     conv=>whnf
     repeat((first|refine dw ?_|refine bct c43 ?_);conv=>whnf)
     refine qj h (fun c44 g=>?_) (fun c44 g=>?_)
     ·replace h:=g
      clear g
      conv=>whnf
      repeat((first|refine dw ?_|refine bct c44 ?_);conv=>whnf)
      refine qj h (fun c45 g=>?_) (fun c45 g=>?_)
      ·replace h:=g
       clear g
       replace h:=qq h
       obtain ⟨hs2,h⟩:=h
       conv=>whnf
       repeat((first|refine dw ?_|refine bct c45 ?_);conv=>whnf)
       refine qO (fun (v46:Int) (v68:State)=>pad [(3,.one (.ptr 0 0)),(0,.one (.ptr 1 0)),(1,.one (.ptr 2 0)),(0,.one (.ptr 7 0)),(7,iv v46)] 116) (fun (v46:Int) (v68:State)=>[.box (State.cs v68),.box [ic p1.sid,ic p1.with_,ic p1.epoch,ic p2.turn,.p (.sl (v25.map irw)),.p (.v (.bool v26)),.p (.v (.bool v27)),.p (.v (.bool p1.over)),ic v28,ic v40.star.x0,ic v40.star.x1,ic v40.star.x2,ic v40.star.x3,ic v40.star.x4,ic v40.star.x5,ic v40.star.x6,ic v40.star.x7,.p (.sl (v40.l.map Frag.row)),.p (.sl (v38.map Entry.row))],.box [ic 0,ic 0,.p (.v (.string ⟨#[]⟩)),ic 0,.p (.v (.complex .f64 0 0)),.own 3,.own 4,.own 5,ic 0,ic 0,ic 0,ic 0,ic 0,ic 0,ic 0,ic 0,.own 6,ic 0,ic 0,ic 0],.rows 0 [],.rows 0 [],.rows 0 [],.rows 0 [],.box [ic 0,ic 0,ic 0,ic 0,.own 8,.p (.v (.bool false)),.p (.v (.bool false)),.p (.v (.bool false)),ic 0,ic 0,ic 0,ic 0,ic 0,ic 0,ic 0,ic 0,ic 0,.own 9,.own 10],.rows 0 [],.rows 0 [],.rows 0 []]) _ v38 (fun pre2 x2e xs2 v46 v68 hl2 hi2 h ih2=>?_) (fun v46 v68 hi2 h=>?_) v39 h
       ·rw [qbE] at h
        have am2:=qB hl2 hi2
        refine qa hX ?_
        replace h:=qo h
        obtain ⟨y69,e70,h⟩:=h
        conv=>whnf
        repeat((first|refine dw ?_|refine qg (qi _) ?_|refine bct (qC hl2 hi2) ?_|refine bct (qc am2) ?_|refine bct (andt (qc am2) rfl) ?_|refine qe (qf am2) ?_|refine bct (andt (qc (qd am2)) rfl) ?_|refine qe (qf (qd am2)) ?_);conv=>whnf)
        refine qhS hX e70 ?_
        conv=>whnf
        repeat((first|refine dw ?_);conv=>whnf)
        exact ih2 _ y69 (wrL hs2 hl2 hi2) h
       ·rw [qbE] at h
        refine qa hX ?_
        replace h:=qo h
        obtain ⟨y71,e72,h⟩:=h
        conv=>whnf
        repeat((first|refine dw ?_|refine qg (qi _) ?_|refine bcf (qD hi2) ?_);conv=>whnf)
        refine qmA hX e72 ?_
        conv=>whnf
        repeat((first|refine dw ?_);conv=>whnf)
        exact K _ h
      ·replace h:=g
       clear g
       conv=>whnf
       repeat((first|refine dw ?_|refine bcf c45 ?_);conv=>whnf)
       exact K _ h
     ·replace h:=g
      clear g
      conv=>whnf
      repeat((first|refine dw ?_|refine bcf c44 ?_);conv=>whnf)
      exact K _ h
    ·replace h:=g
     clear g
     conv=>whnf
     repeat((first|refine dw ?_|refine bcf c43 ?_);conv=>whnf)
     exact K _ h
end
end Go.Proofs.YtidkmoohgadjkaaGreat
set_option maxHeartbeats 0
namespace Go.Proofs.YtidkmoohgadjkaaGreat
open Go E
noncomputable section
end
end Go.Proofs.YtidkmoohgadjkaaGreat
namespace Go.Proofs.YtidkmoohgadjkaaGreat
open Go E Pred
section
variable {α β:Type}
theorem qsX (c:Bool) (x y:Option α):br c x y=if c=true then x else y:=by cases c<;>rfl
theorem br_t {c:Bool} {x y:Option α} (h:c=true):br c x y=x:=by rw [h]; rfl
theorem br_f {c:Bool} {x y:Option α} (h:c=false):br c x y=y:=by rw [h]; rfl
theorem qr {c:Bool} {x:Option α} (h:c=true):chk c x=x:=by rw [h]; rfl
theorem qh {x:Option α} {a:α} {f:α→Option β} (h:x=some a):bnd x f=f a:=by rw [h]; rfl
theorem qv {a b:Nat} (h:a + b≤1000000):qT a b=true:=decide_eq_true h
theorem qn {l:List α} (h:l.length≤1000000000):qz l=true:=decide_eq_true (by omega)
theorem qmK {l:List α} {j:Nat} (h:j < l.length):atL l (j:Int)=some l[j]:=by
 unfold atL; rw [if_pos (by omega),Int.toNat_natCast,List.getElem?_eq_getElem h]
end
noncomputable section
open Classical
theorem qn2 {p q:Pred} (h:p.Ok):qbg p q=some (qei p q):=by
 unfold qbg; rw [qr (decide_eq_true h)]
end
end Go.Proofs.YtidkmoohgadjkaaGreat
namespace Go.Proofs.YtidkmoohgadjkaaGreat
open Go E Pred
noncomputable section
open Classical
def memB (l:List ByteArray) (x:ByteArray):Bool:=l.any fun y=>eqS y x
theorem qsY (x:ByteArray):∀ l:List ByteArray,qaV x l=some (memB l x)
 | []=>by rw [qaV]; rfl
 | y::l=>by
  rw [qaV,qsY x l]
  unfold memB
  rw [List.any_cons]
  cases eqS y x<;>rfl
theorem qsZ {l:List ByteArray} {x:ByteArray} (h:l.length≤1000000000):qcH l x=some (memB l x):=by
 unfold qcH; rw [qr (qn h),qsY]
def hasF (f:Frag) (id:ByteArray) (r c:Int):Bool:=memB f.ids id&&hasV f.vec r c
def hasK (k:Know) (id:ByteArray) (r c:Int):Bool:=hasV k.star r c || k.l.any fun f=>hasF f id r c
structure KB (k:Know) (N:Nat):Prop where
 l:k.l.length≤N
 ids:∀ f∈k.l,f.ids.length≤N
theorem qwv {id:ByteArray} {v:Ver}:∀ l:List Frag,(∀ f∈l,f.ids.length≤1000000000)→qbh id v l=some (l.any fun f=>hasF f id v.r v.c)
 | [],_=>by rw [qbh]; rfl
 | f::l,h=>by
  rw [qbh,qh (qsZ (h f (List.mem_cons_self ..))),qh (show qbN f.vec v=some (hasV f.vec v.r v.c) from rfl),qwv l fun g hg=>h g (List.mem_cons_of_mem _ hg),List.any_cons]
  unfold hasF
  cases memB f.ids id<;>cases hasV f.vec v.r v.c<;>rfl
theorem qpg {k:Know} {id:ByteArray} {v:Ver} {N:Nat} (hN:N≤1000000000) (h:KB k N):qb6 k id v=some (hasK k id v.r v.c):=by
 unfold qb6 hasK
 rw [qh (show qbN k.star v=some (hasV k.star v.r v.c) from rfl),qr (qn (Nat.le_trans h.l hN)),qwv _ fun f hf=>Nat.le_trans (h.ids f hf) hN]
 cases hasV k.star v.r v.c<;>rfl
def insG (x:ByteArray):Bool→List ByteArray→List ByteArray
 | v,[]=>if v then [] else [x]
 | v,y::ys=>(if !v&&(ltS x y || eqS x y) then [x] else [])++((if eqS y x then [] else [y])++insG x (v || (ltS x y || eqS x y)) ys)
def insV (l:List ByteArray) (x:ByteArray):List ByteArray:=insG x false l
theorem qii (x:ByteArray):∀ (l:List ByteArray) (v:Bool),(insG x v l).length≤l.length + (if v then 0 else 1)
 | [],v=>by cases v<;>simp [insG]
 | y::ys,v=>by
  rw [insG,List.length_append,List.length_append,List.length_cons]
  generalize (ltS x y || eqS x y)=w
  have h1:=qii x ys true
  have h2:=qii x ys false
  have h3:(if eqS y x=true then ([]:List ByteArray) else [y]).length≤1:=by split<;>simp
  cases v<;>cases w<;>simp at h1 h2 ⊢ <;> omega
theorem qk8 {x y:ByteArray} {k:Bool→List ByteArray→Option (List ByteArray)} {v:Bool} {acc:List ByteArray} (h:acc.length≤999999):qbb x y k v acc=k v (acc++(if eqS y x then [] else [y])):=by
 unfold qbb
 cases eqS y x with
 | true=>rw [br_f (by rfl)]; simp
 | false=>rw [br_t (by rfl),qr (qv (by omega))]; rfl
theorem qph {x:ByteArray}:∀ (l:List ByteArray) (v:Bool) (acc:List ByteArray),acc.length + l.length + (if v then 0 else 1)≤999990→qU x l v acc=some (acc++insG x v l)
 | [],v,acc,h=>by
  rw [qU,insG]
  cases v with
  | true=>simp [br]
  | false=>rw [br_t (by rfl),qr (qv (by simp at h; omega))]; rfl
 | y::l,v,acc,h=>by
  rw [List.length_cons] at h
  have e2:∀ (v':Bool) (a:List ByteArray),a.length + l.length + (if v' then 0 else 1)≤999989→qU x l v' (a++if eqS y x=true then [] else [y])=some ((a++if eqS y x=true then [] else [y])++insG x v' l):=fun v' a ha =>
   qph l v' _ (by
    have h3:(if eqS y x=true then ([]:List ByteArray) else [y]).length≤1:=by split<;>simp
    rw [List.length_append]; omega)
  rw [qU,insG]
  cases v with
  | true =>
   simp only [if_true] at h
   rw [br_f (by rfl),qk8 (by omega),e2 true acc (by simp; omega)]
   simp
  | false =>
   simp only [Bool.false_eq_true,if_false] at h
   rw [br_t (by rfl)]
   cases hlt:(ltS x y || eqS x y) with
   | true =>
    rw [br_t (by rfl),qr (qv (by omega)),qk8 (by rw [List.length_append]; simp; omega),e2 true (acc++[x]) (by rw [List.length_append]; simp; omega)]
    simp
   | false =>
    rw [br_f (by rfl),qk8 (by omega),e2 false acc (by simp; omega)]
    simp
theorem qvz {l:List ByteArray} {x:ByteArray} (h:l.length≤999980):qcW l x=some (insV l x):=by
 unfold qcW; rw [qr (qn (by omega)),qph l false [] (by simp; omega)]; rfl
def qjZ (acc:List ByteArray) (l:List Frag):List ByteArray:=l.foldl (fun a f=>f.ids.foldl insV a) acc
theorem qhU:∀ (l acc:List ByteArray),(l.foldl insV acc).length≤acc.length + l.length
 | [],acc=>Nat.le_refl _
 | x::l,acc=>by
  have h1:=qhU l (insV acc x)
  have h2:(insV acc x).length≤acc.length + 1:=qii x acc false
  rw [List.foldl_cons,List.length_cons]; omega
theorem qpi {k:List ByteArray→Option (List ByteArray)}:∀ (l acc:List ByteArray),acc.length + l.length≤999980→qaW k l acc=k (l.foldl insV acc)
 | [],acc,_=>by rw [qaW]; rfl
 | x::l,acc,h=>by
  rw [List.length_cons] at h
  have h2:(insV acc x).length≤acc.length + 1:=qii x acc false
  rw [qaW,qh (qvz (by omega)),qpi l _ (by omega)]; rfl
def qdr (k:Know):List ByteArray:=qjZ [] k.l
def cutI (a s:Int):Int:=if leI a s then 0 else a
def cutV (v s:V8):V8:=⟨cutI v.x0 s.x0,cutI v.x1 s.x1,cutI v.x2 s.x2,cutI v.x3 s.x3,cutI v.x4 s.x4,cutI v.x5 s.x5,cutI v.x6 s.x6,cutI v.x7 s.x7⟩
def zero8:V8:=⟨0,0,0,0,0,0,0,0⟩
def sumV (id:ByteArray) (l:List Frag) (acc:V8):V8:=l.foldl (fun a f=>if memB f.ids id then maxV a f.vec else a) acc
def beyondV (k:Know) (id:ByteArray):V8:=cutV (sumV id k.l zero8) k.star
theorem qhV {α:Type} {a s:Int} {f:Int→Option α}:br (leI a s) (f 0) (f a)=f (cutI a s):=by
 unfold cutI; cases leI a s<;>rfl
theorem qpj {k:Know} {id:ByteArray}:∀ (l:List Frag) (a0 a1 a2 a3 a4 a5 a6 a7:Int),(∀ f∈l,f.ids.length≤1000000000)→qap k id l a0 a1 a2 a3 a4 a5 a6 a7=some (cutV (sumV id l ⟨a0,a1,a2,a3,a4,a5,a6,a7⟩) k.star)
 | [],a0,a1,a2,a3,a4,a5,a6,a7,_=>by
  rw [qap,qhV (f:=fun x=>qcd k a1 a2 a3 a4 a5 a6 a7 x)]
  unfold qcd
  rw [qhV (f:=fun x=>qcc k a2 a3 a4 a5 a6 a7 _ x)]
  unfold qcc
  rw [qhV (f:=fun x=>qcb k a3 a4 a5 a6 a7 _ _ x)]
  unfold qcb
  rw [qhV (f:=fun x=>qca k a4 a5 a6 a7 _ _ _ x)]
  unfold qca
  rw [qhV (f:=fun x=>qb9 k a5 a6 a7 _ _ _ _ x)]
  unfold qb9
  rw [qhV (f:=fun x=>qb8 k a6 a7 _ _ _ _ _ x)]
  unfold qb8
  rw [qhV (f:=fun x=>qb7 k a7 _ _ _ _ _ _ x)]
  unfold qb7
  rw [qhV (f:=fun x=>qdw _ _ _ _ _ _ _ x)]
  rfl
 | f::l,a0,a1,a2,a3,a4,a5,a6,a7,h=>by
  have ih:=fun b0 b1 b2 b3 b4 b5 b6 b7=>qpj (k:=k) (id:=id) l b0 b1 b2 b3 b4 b5 b6 b7 fun g hg=>h g (List.mem_cons_of_mem _ hg)
  rw [qap,qh (qsZ (h f (List.mem_cons_self ..)))]
  unfold sumV
  rw [List.foldl_cons]
  cases memB f.ids id with
  | true=>rw [br_t (by rfl),qh (show qdK ⟨a0,a1,a2,a3,a4,a5,a6,a7⟩ f.vec=some (maxV ⟨a0,a1,a2,a3,a4,a5,a6,a7⟩ f.vec) from rfl),ih]; rfl
  | false=>rw [br_f (by rfl),ih]; rfl
theorem qpk {k:Know} {id:ByteArray} {N:Nat} (hN:N≤1000000000) (h:KB k N):qbQ k id=some (beyondV k id):=by
 unfold qbQ
 rw [qr (qn (Nat.le_trans h.l hN)),qpj _ _ _ _ _ _ _ _ _ fun f hf=>Nat.le_trans (h.ids f hf) hN]; rfl
end
end Go.Proofs.YtidkmoohgadjkaaGreat
namespace Go.Proofs.YtidkmoohgadjkaaGreat
open Go E Pred
noncomputable section
open Classical
def addF (id:ByteArray) (v:V8):List Frag→List Frag
 | []=>[⟨[id],v⟩]
 | f::fs=>if eq8 f.vec v then ⟨f.ids++[id],f.vec⟩::fs else f::addF id v fs
theorem qee {α:Type} (l:List α) (x:α) (m:List α):atL (l++x::m) (l.length:Int)=some x:=qB (l:=l++x::m) rfl rfl
theorem qi3 {α:Type} (l:List α) (x y:α) (m:List α):(l++x::m).set l.length y=l++y::m:=by simp
theorem qpl {id:ByteArray} {v:V8} {k:List Frag→Option Know} {pre xs:List Frag} (h1:(pre++xs).length≤999990) (h2:∀ f∈pre++xs,f.ids.length≤999990) (hx:∀ f fs,xs=f::fs→eq8 f.vec v=true) :
  qcX (pre++xs) id v k (pre.length:Int)=k (pre++addF id v xs):=by
 unfold qcX
 match xs,h1,h2,hx with
 | [],h1,h2,_ =>
  rw [List.append_nil] at h1 ⊢
  rw [br_t (by rw [qdB]),qr (qv (by omega)),qh (qee pre _ []),qr (qv (by simp))]
  rw [Int.toNat_natCast,qi3]; rfl
 | f::fs,h1,h2,hx =>
  have hf:=h2 f (by simp)
  rw [br_f (by rw [qav]; simp; omega),qh (qee pre f fs),qr (qv (by omega)),Int.toNat_natCast,qi3,addF,if_pos (hx f fs rfl)]
theorem qpm {id:ByteArray} {v:V8} {k:List Frag→Option Know}:∀ (xs pre:List Frag),(pre++xs).length≤999990→(∀ f∈pre++xs,f.ids.length≤999990)→qaY (pre++xs) id v k xs (pre.length:Int)=k (pre++addF id v xs)
 | [],pre,h1,h2=>by rw [qaY]; exact qpl h1 h2 (fun _ _ e=>by cases e)
 | f::xs,pre,h1,h2=>by
  rw [qaY]
  cases he:eq8 f.vec v with
  | true=>rw [br_f (by rfl)]; exact qpl h1 h2 (fun g gs e=>by injection e with e1 e2; rw [←e1]; exact he)
  | false =>
   rw [br_t (by rfl),addF,if_neg (by rw [he]; simp)]
   have ih:=qpm (id:=id) (v:=v) (k:=k) xs (pre++[f]) (by simpa using h1) (by simpa using h2)
   rw [List.append_assoc,List.append_assoc,List.length_append] at ih
   exact ih
def qeK (k:Know) (out:List Frag) (id:ByteArray):List Frag:=if eq8 (beyondV k id) zero8 then out else addF id (beyondV k id) out
theorem qij (id:ByteArray) (v:V8):∀ l:List Frag,(addF id v l).length≤l.length + 1
 | []=>by simp [addF]
 | f::l=>by rw [addF]; have:=qij id v l; split<;>simp<;>omega
theorem qpn {id:ByteArray} {v:V8} {n:Nat}:∀ {l:List Frag},(∀ f∈l,f.ids.length≤n)→∀ f∈addF id v l,f.ids.length≤n + 1
 | [],_,f,hf=>by rw [addF,List.mem_singleton] at hf; rw [hf]; simp
 | g::l,h,f,hf=>by
  rw [addF] at hf
  have hg:=h g (List.mem_cons_self ..)
  split at hf
  ·rcases List.mem_cons.1 hf with rfl | hf
   ·simp; exact hg
   ·have:=h f (List.mem_cons_of_mem _ hf); omega
  ·rcases List.mem_cons.1 hf with rfl | hf
   ·omega
   ·exact qpn (l:=l) (fun x hx=>h x (List.mem_cons_of_mem _ hx)) f hf
theorem qs0 {k:Know} {out:List Frag} {id:ByteArray} {n:Nat} (h1:out.length≤n) (h2:∀ f∈out,f.ids.length≤n):(qeK k out id).length≤n + 1∧∀ f∈qeK k out id,f.ids.length≤n + 1:=by
 unfold qeK
 split
 ·exact ⟨by omega,fun f hf=>by have:=h2 f hf; omega⟩
 ·exact ⟨by have:=qij id (beyondV k id) out; omega,qpn h2⟩
theorem qk9 {k:Know} {out:List Frag} {id:ByteArray} (h:eq8 (beyondV k id) zero8=true):qeK k out id=out:=by unfold qeK; rw [if_pos h]
theorem qla {k:Know} {out:List Frag} {id:ByteArray} (h:eq8 (beyondV k id) zero8=false):qeK k out id=addF id (beyondV k id) out:=by unfold qeK; rw [if_neg (by rw [h]; simp)]
def plainK (k:Know):Know:=⟨k.star,(qdr k).foldl (qeK k) []⟩
def eqL:List ByteArray→List ByteArray→Bool
 | [],[]=>true
 | x::xs,y::ys=>eqS x y&&eqL xs ys
 | _,_=>false
def qj0 (f g:Frag):Bool:=eq8 f.vec g.vec&&eqL f.ids g.ids
def qeW:List Frag→List Frag→Bool
 | [],[]=>true
 | x::xs,y::ys=>qj0 x y&&qeW xs ys
 | _,_=>false
def qfj (a b:Know):Bool:=eq8 a.star b.star&&qeW a.l b.l
theorem qn3:∀ {a b:List ByteArray},a.length≠b.length→eqL a b=false
 | [],[],h=>absurd rfl h
 | x::xs,y::ys,h=>by rw [eqL,qn3 (a:=xs) (b:=ys) (by simpa using h),Bool.and_false]
 | [],_::_,_=>rfl
 | _::_,[],_=>rfl
theorem qhu:∀ {a b:List Frag},a.length≠b.length→qeW a b=false
 | [],[],h=>absurd rfl h
 | x::xs,y::ys,h=>by rw [qeW,qhu (a:=xs) (b:=ys) (by simpa using h),Bool.and_false]
 | [],_::_,_=>rfl
 | _::_,[],_=>rfl
theorem qpo {k:Option Bool}:∀ (xs pre ys:List ByteArray) (g:Frag),g.ids=pre++ys→xs.length=ys.length→qa0 g k xs (pre.length:Int)=if eqL xs ys then k else some false
 | [],pre,[],g,_,_=>by rw [qa0]; rfl
 | x::xs,pre,y::ys,g,hg,hl=>by
  have ih:=qpo (k:=k) xs (pre++[y]) ys g (by simpa using hg) (by simpa using hl)
  rw [List.length_append] at ih
  rw [qa0,qh (by rw [hg]; exact qee pre y ys),eqL]
  cases eqS x y with
  | false=>rfl
  | true=>rw [br_f (by rfl),Bool.true_and]; exact ih
 | [],_,_::_,_,_,h=>by simp at h
 | _::_,_,[],_,_,h=>by simp at h
theorem qpp:∀ (fs pre gs:List Frag) (b:Know),b.l=pre++gs→fs.length=gs.length→(∀ f∈fs,f.ids.length≤1000000000)→qaE b fs (pre.length:Int)=some (qeW fs gs)
 | [],pre,[],b,_,_,_=>by rw [qaE]; rfl
 | f::fs,pre,g::gs,b,hb,hl,hi=>by
  have ih:=qpp fs (pre++[g]) gs b (by simpa using hb) (by simpa using hl) fun x hx=>hi x (List.mem_cons_of_mem _ hx)
  rw [List.length_append] at ih
  rw [qaE,qh (by rw [hb]; exact qee pre g gs),qeW]
  unfold qj0
  cases eq8 f.vec g.vec with
  | false=>rfl
  | true =>
   rw [br_f (by rfl),Bool.true_and]
   by_cases hn:f.ids.length=g.ids.length
   ·rw [br_f (by rw [hn,qdB.2 rfl]; rfl),qr (qn (hi f (List.mem_cons_self ..)))]
    have h2:=qpo (k:=qaE b fs ((pre.length:Int) + 1)) f.ids [] g.ids g rfl hn
    rw [show (([]:List ByteArray).length:Int)=0 from rfl] at h2
    rw [h2]
    cases eqL f.ids g.ids with
    | true=>rw [if_pos rfl,Bool.true_and]; exact ih
    | false=>rfl
   ·rw [br_t (by rw [qav.2 (by omega)]; rfl),qn3 hn]; rfl
 | [],_,_::_,_,_,h,_=>by simp at h
 | _::_,_,[],_,_,h,_=>by simp at h
theorem qi4 {a b:Know} {N:Nat} (hN:N≤1000000000) (h:KB a N):qaN a b=some (qfj a b):=by
 unfold qaN qfj
 cases eq8 a.star b.star with
 | false=>rfl
 | true =>
  rw [br_f (by rfl),Bool.true_and]
  by_cases hl:a.l.length=b.l.length
  ·rw [br_f (by rw [hl,qdB.2 rfl]; rfl),qr (qn (Nat.le_trans h.l hN))]
   exact qpp a.l [] b.l b rfl hl fun f hf=>Nat.le_trans (h.ids f hf) hN
  ·rw [br_t (by rw [qav.2 (by omega)]; rfl),qhu hl]
def IdsOk (k:Know):Prop:=∀ f∈k.l, ∀ x∈f.ids,x.size≤9223372036854775807
def mayF (f:Frag):Bool:=mayV f.vec&&f.ids.all fun x=>lettersB x 1
def mayK (k:Know):Bool:=qfj k (plainK k)&&(mayV k.star&&k.l.all mayF)
theorem qww {k:Option Bool}:∀ (xs:List ByteArray),(∀ x∈xs,x.size≤9223372036854775807)→qce k xs=if (xs.all fun x=>lettersB x 1) then k else some false
 | [],_=>by rw [qce]; rfl
 | x::xs,h=>by
  have e:qbf x=some (lettersB x 1):=by unfold qbf; rw [qr (decide_eq_true (h x (List.mem_cons_self ..)))]
  rw [qce,qh e,qww xs fun y hy=>h y (List.mem_cons_of_mem _ hy),List.all_cons]
  cases lettersB x 1<;>rfl
theorem qwx:∀ (l:List Frag),(∀ f∈l,f.ids.length≤1000000000)→(∀ f∈l, ∀ x∈f.ids,x.size≤9223372036854775807)→qcf l=some (l.all mayF)
 | [],_,_=>by rw [qcf]; rfl
 | f::l,h,h2=>by
  rw [qcf,qh (show qbO f.vec=some (mayV f.vec) from rfl),List.all_cons]
  unfold mayF
  cases mayV f.vec with
  | false=>rfl
  | true =>
   rw [br_f (by rfl),qr (qn (h f (List.mem_cons_self ..))),qww _ (h2 f (List.mem_cons_self ..)),qwx l (fun g hg=>h g (List.mem_cons_of_mem _ hg)) fun g hg=>h2 g (List.mem_cons_of_mem _ hg)]
   unfold mayF
   cases (f.ids.all fun x=>lettersB x 1)<;>rfl
end
end Go.Proofs.YtidkmoohgadjkaaGreat
namespace Go.Proofs.YtidkmoohgadjkaaGreat
open Go E
theorem qpq (a b:ByteArray):ltS a b=decide (a.data.toList < b.data.toList):=bytesLess_eq _ _
theorem qn4 {a b:ByteArray} (h:a.data.toList=b.data.toList):a=b:=by
 cases a; cases b; simp at h; rw [h]
theorem qc8 {a b:ByteArray}:eqS a b=true↔a=b:=by
 unfold eqS; rw [beq_iff_eq]; exact ⟨qn4,fun h=>by rw [h]⟩
theorem qaI (a:ByteArray):eqS a a=true:=qc8.2 rfl
theorem qyd {a b:ByteArray}:eqS a b=false↔a≠b:=by
 rw [←Bool.not_eq_true,qc8]
theorem qcA (a b:ByteArray):eqS a b=eqS b a:=by
 cases h:eqS b a with
 | true=>rw [qc8] at h ⊢; exact h.symm
 | false=>rw [qyd] at h ⊢; exact fun e=>h e.symm
theorem qgq (a:ByteArray):ltS a a=false:=by rw [qpq,decide_eq_false_iff_not]; exact List.lt_irrefl _
theorem qfk {a b c:ByteArray} (h:ltS a b=true) (h':ltS b c=true):ltS a c=true:=by
 rw [qpq,decide_eq_true_eq] at *; exact List.lt_trans h h'
theorem qfF {a b:ByteArray} (h:ltS a b=true):ltS b a=false:=by
 cases h':ltS b a with
 | false=>rfl
 | true=>have:=qfk h h'; rw [qgq] at this; cases this
theorem qe1 {a b:ByteArray} (h:ltS a b=false) (h':ltS b a=false):a=b:=by
 rw [qpq,decide_eq_false_iff_not] at *
 exact qn4 (List.le_antisymm (List.not_lt.1 h') (List.not_lt.1 h))
theorem qhd {a b:ByteArray} (h:ltS a b=true):eqS a b=false:=by
 rw [qyd]; rintro rfl; rw [qgq] at h; cases h
theorem qmL {a b c:ByteArray} (h:ltS b a=false) (h':ltS b c=true):ltS a c=true:=by
 cases h2:ltS a b with
 | true=>exact qfk h2 h'
 | false=>rw [qe1 h2 h]; exact h'
def Ris (l:List Item):Prop:=l.Pairwise fun a b=>ltS a.id b.id=true
end Go.Proofs.YtidkmoohgadjkaaGreat
namespace Go.Proofs.YtidkmoohgadjkaaGreat
open Go E Pred
noncomputable section
open Classical
def alk {α:Type} (l:List (ByteArray × α)) (k:ByteArray):Option α:=(l.find? fun e=>eqS e.1 k).map (·.2)
theorem qi5 (a b:ByteArray):qdH (srw a) (srw b)=eqS a b:=by simp [qdH,pcEq]
theorem qhe {α:Type} (l:List (ByteArray × α)) (k:ByteArray):mget srw l k=alk l k:=by
 unfold mget alk; simp only [qi5]
theorem qgr {α:Type} (e:ByteArray × α) (l:List (ByteArray × α)) (k:ByteArray):alk (e::l) k=if eqS e.1 k=true then some e.2 else alk l k:=by
 unfold alk; rw [List.find?_cons]; cases eqS e.1 k<;>simp
theorem qye {α:Type} (l m:List (ByteArray × α)) (k:ByteArray):alk (l++m) k=(alk l k).or (alk m k):=by
 unfold alk; rw [List.find?_append]; cases List.find? (fun e=>eqS e.1 k) l<;>rfl
theorem qpr {α:Type} {l:List (ByteArray × α)} {k:ByteArray}:(alk l k).isSome=memB (l.map (·.1)) k:=by
 unfold alk memB
 induction l with
 | nil=>rfl
 | cons e l ih =>
  rw [List.find?_cons,List.map_cons,List.any_cons]
  cases h:eqS e.1 k with
  | true=>rfl
  | false=>rw [Bool.false_or]; exact ih
theorem qvA {α:Type} (l:List (ByteArray × α)) (k:ByteArray) (v:α) (id:ByteArray):alk (mset srw l k v) id=if eqS k id=true then some v else alk l id:=by
 unfold mset
 rw [qhe]
 cases h:alk l k with
 | none =>
  rw [if_neg (by simp),qye,qgr]
  by_cases hk:eqS k id=true
  ·rw [if_pos hk,if_pos hk,←qc8.1 hk,h]; rfl
  ·rw [if_neg hk,if_neg hk]; cases alk l id<;>rfl
 | some w =>
  rw [if_pos (by rfl)]
  simp only [qi5]
  have key:∀ l:List (ByteArray × α),(alk l k).isSome=true→alk (l.map fun e=>if eqS e.1 k=true then (e.1,v) else e) id=if eqS k id=true then some v else alk l id:=by
   intro l
   induction l with
   | nil=>intro h; cases h
   | cons e l ih =>
    intro h
    rw [qgr] at h
    rw [List.map_cons,qgr,qgr]
    by_cases he:eqS e.1 k=true
    ·rw [if_pos he]
     have e':=qc8.1 he
     by_cases hk:eqS k id=true
     ·rw [if_pos (by show eqS e.1 id=true; rw [e']; exact hk),if_pos hk]
     ·rw [if_neg (by show ¬ eqS e.1 id=true; rw [e']; exact hk),if_neg hk,if_neg (by rw [e']; exact hk)]
      have:∀ l:List (ByteArray × α),alk (l.map fun e=>if eqS e.1 k=true then (e.1,v) else e) id=alk l id:=by
       intro l
       induction l with
       | nil=>rfl
       | cons e l ih =>
        rw [List.map_cons,qgr,qgr,ih]
        by_cases he:eqS e.1 k=true
        ·rw [if_pos he,if_neg (by show ¬ eqS e.1 id=true; rw [qc8.1 he]; exact hk),if_neg (by rw [qc8.1 he]; exact hk)]
        ·rw [if_neg he]
      exact this l
    ·rw [if_neg he] at h
     rw [if_neg he,ih h]
     by_cases hi:eqS e.1 id=true
     ·rw [if_pos hi,if_pos hi,if_neg (by rw [←qc8.1 hi,qcA]; exact he)]
     ·rw [if_neg hi,if_neg hi]
  exact key l (by rw [h]; rfl)
theorem qs1 {α:Type} (l:List (ByteArray × α)) (k:ByteArray) (v:α):(mset srw l k v).map (·.1)=if memB (l.map (·.1)) k=true then l.map (·.1) else l.map (·.1)++[k]:=by
 unfold mset
 rw [qhe,qpr]
 split
 ·rw [List.map_map]
  refine List.map_congr_left fun e _=>?_
  simp only [Function.comp,qi5]
  split<;>rfl
 ·rw [List.map_append]; rfl
theorem qgs {l:List ByteArray} {x:ByteArray}:memB l x=true↔x∈l:=by
 unfold memB
 rw [List.any_eq_true]
 exact ⟨fun ⟨y,hy,e⟩=>by rw [←qc8.1 e]; exact hy,fun h=>⟨x,h,qaI _⟩⟩
theorem qmM (y:ByteArray) (l:List ByteArray) (x:ByteArray):memB (y::l) x=(eqS y x || memB l x):=List.any_cons
theorem qqQ {α:Type} {l:List (ByteArray × α)} {k:ByteArray} {v:α} (h:(l.map (·.1)).Nodup):((mset srw l k v).map (·.1)).Nodup:=by
 rw [qs1]
 split
 ·exact h
 ·rename_i hk
  rw [qgs] at hk
  rw [List.nodup_append]
  exact ⟨h,by simp,fun a ha b hb=>by rw [List.mem_singleton.1 hb]; rintro rfl; exact hk ha⟩
theorem qs2 (a v:Int):maxI (maxI a v) v=maxI a v:=by unfold maxI; by_cases h:v > a<;>simp [h]
theorem qs3 (a v:V8):maxV (maxV a v) v=maxV a v:=by unfold maxV; simp only [qs2]
def qeX (v:V8) (M:List (ByteArray × V8)) (id:ByteArray):List (ByteArray × V8):=mset srw M id (maxV ((alk M id).getD zero8) v)
theorem qAe {α β:Type} {f:α→Option β} {n:Option β}:opt none f n=n:=rfl
theorem qBZ {α β:Type} {x:α} {f:α→Option β} {n:Option β}:opt (some x) f n=f x:=rfl
theorem qps {f:Frag} {k:List (ByteArray × V8)→Option Know}:∀ (ids:List ByteArray) (M:List (ByteArray × V8)),qaQ f k ids M=k (ids.foldl (qeX f.vec) M)
 | [],M=>by rw [qaQ]; rfl
 | x::ids,M=>by
  have ih:=fun M=>qps (f:=f) (k:=k) ids M
  rw [qaQ,List.foldl_cons,←ih]
  unfold qeX
  rw [qhe]
  cases alk M x with
  | none =>
   rw [qAe]
   exact qh (show qdZ ⟨0,0,0,0,0,0,0,0⟩ f.vec=some (maxV zero8 f.vec) from rfl)
  | some y =>
   rw [qBZ]
   exact qh (show qdZ y f.vec=some (maxV y f.vec) from rfl)
theorem qj1 {v:V8}:∀ (ids:List ByteArray) (M:List (ByteArray × V8)) (id:ByteArray),alk (ids.foldl (qeX v) M) id=if memB ids id=true then some (maxV ((alk M id).getD zero8) v) else alk M id
 | [],M,id=>by rfl
 | x::ids,M,id=>by
  rw [List.foldl_cons,qj1 ids,qmM]
  unfold qeX
  rw [qvA]
  by_cases hx:eqS x id=true
  ·rw [if_pos hx,hx,Bool.true_or,if_pos rfl,←qc8.1 hx]
   split
   ·show some (maxV (maxV _ v) v)=_; rw [qs3]
   ·rfl
  ·rw [if_neg hx]
   simp only [Bool.not_eq_true] at hx
   rw [hx,Bool.false_or]
theorem qhW {v:V8}:∀ (ids:List ByteArray) (M:List (ByteArray × V8)),(M.map (·.1)).Nodup→((ids.foldl (qeX v) M).map (·.1)).Nodup
 | [],M,h=>h
 | x::ids,M,h=>qhW ids _ (qqQ h)
theorem qj2 {v:V8}:∀ (ids:List ByteArray) (M:List (ByteArray × V8)),(ids.foldl (qeX v) M).length≤M.length + ids.length
 | [],M=>Nat.le_refl _
 | x::ids,M=>by
  have h1:=qj2 (v:=v) ids (qeX v M x)
  have h2:(qeX v M x).length≤M.length + 1:=by
   unfold qeX mset
   split
   ·simp
   ·simp
  rw [List.foldl_cons,List.length_cons]; omega
def allM (l:List Frag) (M:List (ByteArray × V8)):List (ByteArray × V8):=l.foldl (fun M f=>f.ids.foldl (qeX f.vec) M) M
theorem qlb (id:ByteArray):∀ (l:List Frag) (M:List (ByteArray × V8)),alk (allM l M) id=if (alk M id).isSome || l.any (fun f=>memB f.ids id) then some (sumV id l ((alk M id).getD zero8)) else none
 | [],M=>by
  show alk M id=_
  cases h:alk M id<;>rfl
 | f::l,M=>by
  have ih:=qlb id l (f.ids.foldl (qeX f.vec) M)
  rw [qj1] at ih
  show alk (allM l (f.ids.foldl (qeX f.vec) M)) id=_
  rw [ih,List.any_cons]
  unfold sumV
  rw [List.foldl_cons]
  by_cases hf:memB f.ids id=true
  ·rw [if_pos hf,if_pos hf,hf]; simp
  ·rw [if_neg hf,if_neg hf]
   simp only [Bool.not_eq_true] at hf
   rw [hf,Bool.false_or]
theorem qj3:∀ (l:List Frag) (M:List (ByteArray × V8)),(M.map (·.1)).Nodup→((allM l M).map (·.1)).Nodup
 | [],M,h=>h
 | f::l,M,h=>qj3 l _ (qhW f.ids M h)
def idsN (l:List Frag):Nat:=(l.map fun f=>f.ids.length).sum
theorem qeL (f:Frag) (l:List Frag):idsN (f::l)=f.ids.length + idsN l:=by simp [idsN]
theorem qpt (l m:List Frag):idsN (l++m)=idsN l + idsN m:=by simp [idsN]
theorem qlc:∀ (l:List Frag) (M:List (ByteArray × V8)),(allM l M).length≤M.length + idsN l
 | [],M=>Nat.le_refl _
 | f::l,M=>by
  have h1:=qlc l (f.ids.foldl (qeX f.vec) M)
  have h2:=qj2 (v:=f.vec) f.ids M
  rw [qeL]
  show (allM l (f.ids.foldl (qeX f.vec) M)).length≤_
  omega
structure KT (k:Know) (N:Nat):Prop where
 l:k.l.length≤N
 ids:idsN k.l≤N
theorem qld {l:List Frag} {f:Frag} (h:f∈l):f.ids.length≤idsN l:=by
 induction l with
 | nil=>cases h
 | cons g l ih =>
  rw [qeL]
  rcases List.mem_cons.1 h with rfl | h
  ·omega
  ·have:=ih h; omega
theorem KT.kb {k:Know} {N:Nat} (h:KT k N):KB k N:=⟨h.l,fun f hf=>Nat.le_trans (qld hf) h.ids⟩
theorem KT.mono {k:Know} {n m:Nat} (h:KT k n) (hm:n≤m):KT k m:=⟨Nat.le_trans h.l hm,Nat.le_trans h.ids hm⟩
theorem KB.kt {k:Know} {N:Nat} (h:KB k N):KT k (N + N * N):=by
 have key:∀ l:List Frag,(∀ f∈l,f.ids.length≤N)→idsN l≤l.length * N:=by
  intro l
  induction l with
  | nil=>intro _; simp [idsN]
  | cons f l ih =>
   intro h
   have h1:=h f (List.mem_cons_self ..)
   have h2:=ih fun g hg=>h g (List.mem_cons_of_mem _ hg)
   rw [qeL,List.length_cons,Nat.succ_mul]; omega
 have h1:=key k.l h.ids
 have h2:=Nat.mul_le_mul_right N h.l
 exact ⟨Nat.le_trans h.l (Nat.le_add_right _ _),by omega⟩
theorem qpu {k:Know}:∀ (l:List Frag) (M:List (ByteArray × V8)),(∀ f∈l,f.ids.length≤1000000000)→qbx k l M=bnd (qgp (allM l M)) fun y=>chk (qz y) (qaC k (allM l M) y)
 | [],M,_=>by rw [qbx]; rfl
 | f::l,M,h=>by
  rw [qbx,qr (qn (h f (List.mem_cons_self ..))),qps]
  exact qpu l _ fun g hg=>h g (List.mem_cons_of_mem _ hg)
def Srt (l:List ByteArray):Prop:=l.Pairwise fun a b=>ltS a b=true
theorem qhf {x:ByteArray} {l:List ByteArray}:Srt (x::l)↔(∀ y∈l,ltS x y=true)∧Srt l:=List.pairwise_cons
theorem qs4:∀ {l m:List ByteArray},Srt l→Srt m→(∀ x,x∈l↔x∈m)→l=m
 | [],[],_,_,_=>rfl
 | [],y::m,_,_,h=>absurd ((h y).2 (List.mem_cons_self ..)) (by simp)
 | x::l,[],_,_,h=>absurd ((h x).1 (List.mem_cons_self ..)) (by simp)
 | x::l,y::m,hl,hm,h=>by
  rw [qhf] at hl hm
  have e:x=y:=by
   rcases List.mem_cons.1 ((h x).1 (List.mem_cons_self ..)) with e | hx
   ·exact e
   ·rcases List.mem_cons.1 ((h y).2 (List.mem_cons_self ..)) with e | hy
    ·exact e.symm
    ·have:=qfF (hl.1 y hy); rw [hm.1 x hx] at this; cases this
  subst e
  rw [qs4 hl.2 hm.2 fun z=>?_]
  constructor
  ·intro hz
   rcases List.mem_cons.1 ((h z).1 (List.mem_cons_of_mem _ hz)) with rfl | hz'
   ·have:=hl.1 z hz; rw [qgq] at this; cases this
   ·exact hz'
  ·intro hz
   rcases List.mem_cons.1 ((h z).2 (List.mem_cons_of_mem _ hz)) with rfl | hz'
   ·have:=hm.1 z hz; rw [qgq] at this; cases this
   ·exact hz'
theorem qs5 {x:ByteArray}:∀ l:List ByteArray,insG x true l=l.filter fun y=>!eqS y x
 | []=>rfl
 | y::l=>by
  rw [insG,Bool.true_or,qs5 l,List.filter_cons]
  cases eqS y x<;>simp
theorem qn5 {x z:ByteArray}:∀ l:List ByteArray,z∈insV l x↔z=x∨z∈l
 | []=>by unfold insV; rw [insG]; simp
 | y::l=>by
  have ih:=qn5 (x:=x) (z:=z) l
  unfold insV at ih ⊢
  rw [insG]
  cases hc:(ltS x y || eqS x y) with
  | true =>
   simp only [Bool.not_false,Bool.true_and,if_true,Bool.false_or]
   rw [qs5,List.mem_append,List.mem_append,List.mem_singleton,List.mem_filter,List.mem_cons]
   constructor
   ·rintro (h | h | h)
    ·exact .inl h
    ·split at h
     ·cases h
     ·exact .inr (.inl (List.mem_singleton.1 h))
    ·exact .inr (.inr h.1)
   ·rintro (h | h | h)
    ·exact .inl h
    ·subst h
     by_cases he:eqS z x=true
     ·exact .inl (qc8.1 he)
     ·exact .inr (.inl (by rw [if_neg he]; exact List.mem_singleton.2 rfl))
    ·by_cases he:eqS z x=true
     ·exact .inl (qc8.1 he)
     ·exact .inr (.inr ⟨h,by simpa using he⟩)
  | false =>
   simp only [Bool.not_false,Bool.true_and,Bool.false_eq_true,if_false,Bool.false_or,List.nil_append]
   rw [List.mem_append,ih,List.mem_cons]
   have hne:eqS y x=false:=by
    cases h:eqS y x with
    | false=>rfl
    | true=>rw [qcA,h,Bool.or_true] at hc; cases hc
   rw [hne,if_neg (by simp),List.mem_singleton]
   constructor
   ·rintro (h | h | h)
    ·exact .inr (.inl h)
    ·exact .inl h
    ·exact .inr (.inr h)
   ·rintro (h | h | h)
    ·exact .inr (.inl h)
    ·exact .inl h
    ·exact .inr (.inr h)
theorem qs6 {x:ByteArray}:∀ {l:List ByteArray},Srt l→Srt (insV l x)
 | [],_=>by unfold insV; rw [insG]; exact List.pairwise_singleton _ _
 | y::l,h=>by
  have h':=qhf.1 h
  have ih:=qs6 (x:=x) h'.2
  have hm:=fun z=>qn5 (x:=x) (z:=z) l
  unfold insV at ih hm ⊢
  rw [insG]
  cases hc:(ltS x y || eqS x y) with
  | true =>
   simp only [Bool.not_false,Bool.true_and,if_true,Bool.false_or]
   rw [qs5]
   have hle:ltS y x=false:=by
    rcases Bool.or_eq_true_iff.1 hc with h1 | h1
    ·exact qfF h1
    ·rw [qc8.1 h1]; exact qgq _
   have key:Srt ((if eqS y x=true then [] else [y])++l.filter fun y=>!eqS y x)∧∀ z∈((if eqS y x=true then [] else [y])++l.filter fun y=>!eqS y x),ltS x z=true:=by
    have hs:Srt (l.filter fun y=>!eqS y x):=h'.2.filter _
    by_cases he:eqS y x=true
    ·rw [if_pos he]
     refine ⟨hs,fun z hz=>?_⟩
     rw [List.nil_append] at hz
     rw [←qc8.1 he]; exact h'.1 z (List.mem_filter.1 hz).1
    ·rw [if_neg he]
     have hxy:ltS x y=true:=by
      rcases Bool.or_eq_true_iff.1 hc with h1 | h1
      ·exact h1
      ·exact absurd (by rw [qcA]; exact h1) he
     refine ⟨qhf.2 ⟨fun z hz=>h'.1 z (List.mem_filter.1 hz).1,hs⟩,fun z hz=>?_⟩
     rcases List.mem_cons.1 hz with rfl | hz
     ·exact hxy
     ·exact qfk hxy (h'.1 z (List.mem_filter.1 hz).1)
   exact qhf.2 ⟨key.2,key.1⟩
  | false =>
   simp only [Bool.not_false,Bool.true_and,Bool.false_eq_true,if_false,Bool.false_or,List.nil_append]
   rw [Bool.or_eq_false_iff] at hc
   have hyx:ltS y x=true:=by
    cases h1:ltS y x with
    | true=>rfl
    | false=>rw [qe1 hc.1 h1,qaI] at hc; cases hc.2
   rw [qhd hyx,if_neg (by simp)]
   refine qhf.2 ⟨fun z hz=>?_,ih⟩
   rcases (hm z).1 hz with rfl | hz
   ·exact hyx
   ·exact h'.1 z hz
theorem qpv {z:ByteArray}:∀ (ids acc:List ByteArray),z∈ids.foldl insV acc↔z∈ids∨z∈acc
 | [],acc=>by simp
 | x::ids,acc=>by
  rw [List.foldl_cons,qpv ids,qn5,List.mem_cons]
  constructor
  ·rintro (h | h | h)
   ·exact .inl (.inr h)
   ·exact .inl (.inl h)
   ·exact .inr h
  ·rintro ((h | h) | h)
   ·exact .inr (.inl h)
   ·exact .inl h
   ·exact .inr (.inr h)
theorem qpw:∀ (ids:List ByteArray) {acc:List ByteArray},Srt acc→Srt (ids.foldl insV acc)
 | [],_,h=>h
 | x::ids,_,h=>qpw ids (qs6 h)
theorem qmN {z:ByteArray}:∀ (l:List Frag) (acc:List ByteArray),z∈qjZ acc l↔(∃ f∈l,z∈f.ids)∨z∈acc
 | [],acc=>by simp [qjZ]
 | f::l,acc=>by
  show z∈qjZ (f.ids.foldl insV acc) l↔_
  rw [qmN l,qpv]
  constructor
  ·rintro (⟨g,hg,hz⟩ | h | h)
   ·exact .inl ⟨g,List.mem_cons_of_mem _ hg,hz⟩
   ·exact .inl ⟨f,List.mem_cons_self .., h⟩
   ·exact .inr h
  ·rintro (⟨g,hg,hz⟩ | h)
   ·rcases List.mem_cons.1 hg with rfl | hg
    ·exact .inr (.inl hz)
    ·exact .inl ⟨g,hg,hz⟩
   ·exact .inr (.inr h)
theorem qmO:∀ (l:List Frag) {acc:List ByteArray},Srt acc→Srt (qjZ acc l)
 | [],_,h=>h
 | f::l,_,h=>qmO l (qpw f.ids h)
theorem qfl {k:Know} {z:ByteArray}:z∈qdr k↔∃ f∈k.l,z∈f.ids:=by
 unfold qdr; rw [qmN]; simp
theorem qqR (k:Know):Srt (qdr k):=qmO k.l .nil
theorem qmP {z:ByteArray} {l:List ByteArray}:z∈qgN l↔z∈l:=by
 unfold qgN
 rw [List.mem_map]
 constructor
 ·rintro ⟨b,hb,rfl⟩
  rw [List.mem_mergeSort,List.mem_map] at hb
  obtain ⟨s,hs,rfl⟩:=hb
  exact hs
 ·intro h
  exact ⟨z.data.toList,by rw [List.mem_mergeSort,List.mem_map]; exact ⟨z,h,rfl⟩,rfl⟩
theorem qs7 {l:List ByteArray} (h:l.Nodup):Srt (qgN l):=by
 have tr:∀ a b c:List UInt8,leB a b=true→leB b c=true→leB a c=true:=fun a b c h1 h2=>by simp only [leB,decide_eq_true_eq] at *; exact List.le_trans h1 h2
 have to:∀ a b:List UInt8,(leB a b || leB b a)=true:=fun a b=>by simp only [leB,Bool.or_eq_true,decide_eq_true_eq]; exact List.le_total a b
 have h1:((l.map fun s=>s.data.toList).mergeSort leB).Pairwise fun a b=>leB a b=true:=List.pairwise_mergeSort tr to _
 have h2:((l.map fun s=>s.data.toList).mergeSort leB).Nodup:=by
  rw [(List.mergeSort_perm _ _).nodup_iff]
  exact List.Pairwise.map _ (fun a b hab he=>hab (qn4 he)) h
 unfold qgN Srt
 rw [List.pairwise_map]
 refine (h1.and h2).imp fun {a b} hab=>?_
 rw [qpq,decide_eq_true_eq]
 have hle:a≤b:=by have:=hab.1; simpa [leB] using this
 show a < b
 rcases Classical.em (a < b) with h | h
 ·exact h
 ·exact absurd (List.le_antisymm hle (List.not_lt.1 h)) hab.2
theorem qhv {k:Know}:qgN ((allM k.l []).map (·.1))=qdr k:=by
 refine qs4 (qs7 (qj3 _ _ (by simp))) (qqR k) fun z=>?_
 rw [qmP,qfl,←qgs,←qpr,qlb]
 have:(alk ([]:List (ByteArray × V8)) z).isSome=false:=rfl
 rw [this,Bool.false_or]
 constructor
 ·intro h
  split at h
  ·rename_i h1
   obtain ⟨f,hf,hz⟩:=List.any_eq_true.1 h1
   exact ⟨f,hf,qgs.1 hz⟩
  ·cases h
 ·rintro ⟨f,hf,hz⟩
  rw [if_pos (List.any_eq_true.2 ⟨f,hf,qgs.2 hz⟩)]; rfl
theorem qpx {k:Know} {id:ByteArray} (h:id∈qdr k):alk (allM k.l []) id=some (sumV id k.l zero8):=by
 obtain ⟨f,hf,hz⟩:=qfl.1 h
 rw [qlb,if_pos (by rw [Bool.or_eq_true]; exact .inr (List.any_eq_true.2 ⟨f,hf,qgs.2 hz⟩))]; rfl
structure NonNeg (v:V8):Prop where
 h0:0≤v.x0
 h1:0≤v.x1
 h2:0≤v.x2
 h3:0≤v.x3
 h4:0≤v.x4
 h5:0≤v.x5
 h6:0≤v.x6
 h7:0≤v.x7
theorem qf6 {a b:Int} (h:0≤a):0≤maxI a b:=by unfold maxI; split<;>omega
theorem NonNeg.max {a b:V8} (h:NonNeg a):NonNeg (maxV a b):=⟨qf6 h.h0,qf6 h.h1,qf6 h.h2,qf6 h.h3,qf6 h.h4,qf6 h.h5,qf6 h.h6,qf6 h.h7⟩
theorem qs8:NonNeg zero8:=⟨by decide,by decide,by decide,by decide,by decide,by decide,by decide,by decide⟩
theorem qs9 (id:ByteArray):∀ (l:List Frag) {v:V8},NonNeg v→NonNeg (sumV id l v)
 | [],_,h=>h
 | f::l,v,h=>by
  unfold sumV
  rw [List.foldl_cons]
  refine qs9 id l ?_
  split
  ·exact h.max
  ·exact h
theorem cutN {α:Type} {a s:Int} {f:Int→Option α} (h:0≤a):br (leI a s) (f 0) (br (leI a 0) (f 0) (f a))=f (cutI a s):=by
 unfold cutI
 cases leI a s with
 | true=>rfl
 | false =>
  cases h0:leI a 0 with
  | false=>rfl
  | true =>
   have:a=0:=by rw [qa5] at h0; omega
   rw [this]; rfl
theorem qmQ {v s:V8} (h:NonNeg v):qW v s=some (cutV v s):=by
 unfold qW
 rw [cutN (f:=fun x=>qbY v s x) h.h0]
 unfold qbY
 rw [cutN (f:=fun x=>qbX v s _ x) h.h1]
 unfold qbX
 rw [cutN (f:=fun x=>qbW v s _ _ x) h.h2]
 unfold qbW
 rw [cutN (f:=fun x=>qbV v s _ _ _ x) h.h3]
 unfold qbV
 rw [cutN (f:=fun x=>qbU v s _ _ _ _ x) h.h4]
 unfold qbU
 rw [cutN (f:=fun x=>qbT v s _ _ _ _ _ x) h.h5]
 unfold qbT
 rw [cutN (f:=fun x=>qbS v s _ _ _ _ _ _ x) h.h6]
 unfold qbS
 rw [cutN (f:=fun x=>qcY _ _ _ _ _ _ _ x) h.h7]
 rfl
theorem qqS {a b:V8}:eq8 a b=true↔a=b:=by
 rw [qnQ]
 constructor
 ·rintro ⟨h0,h1,h2,h3,h4,h5,h6,h7⟩
  cases a; cases b
  simp only at h0 h1 h2 h3 h4 h5 h6 h7
  rw [h0,h1,h2,h3,h4,h5,h6,h7]
 ·rintro rfl; exact ⟨rfl,rfl,rfl,rfl,rfl,rfl,rfl,rfl⟩
theorem qpy (a:V8):eq8 a a=true:=qqS.2 rfl
theorem qvB (a b:V8):qdH (V8.row a) (V8.row b)=eq8 a b:=by
 rw [Bool.eq_iff_iff,qnQ]
 simp [qdH,pcEq]
def vlk (l:List (V8 × Int)) (v:V8):Option Int:=(l.find? fun e=>eq8 e.1 v).map (·.2)
theorem qn6 (l:List (V8 × Int)) (v:V8):mget V8.row l v=vlk l v:=by
 unfold mget vlk; simp only [qvB]
def fat:List Frag→V8→Nat→Option Int
 | [],_,_=>none
 | f::l,v,n=>if eq8 f.vec v=true then some (n:Int) else fat l v (n + 1)
theorem qta {g:Frag} {v:V8}:∀ (l:List Frag) (n:Nat),fat (l++[g]) v n=(fat l v n).or (if eq8 g.vec v=true then some ((n + l.length:Nat):Int) else none)
 | [],n=>by rw [List.nil_append,fat,fat]; simp [fat]
 | f::l,n=>by
  rw [List.cons_append,fat,fat]
  split
  ·rfl
  ·rw [qta l,List.length_cons]
   have:n + 1 + l.length=n + (l.length + 1):=by omega
   rw [this]
theorem qtb {at_:List (V8 × Int)} {v w:V8} {n:Int} (h:vlk at_ v=none):vlk (mset V8.row at_ v n) w=(vlk at_ w).or (if eq8 v w=true then some n else none):=by
 unfold mset
 rw [qn6,h,if_neg (by simp)]
 unfold vlk
 rw [List.find?_append]
 cases List.find? (fun e=>eq8 e.1 w) at_ with
 | none=>rw [List.find?_cons]; cases eq8 v w<;>rfl
 | some e=>rfl
theorem qn7 {id:ByteArray} {v:V8}:∀ (l:List Frag) (n:Nat),(fat l v n=none∧addF id v l=l++[⟨[id],v⟩])∨∃ pre f post,l=pre++f::post∧fat l v n=some ((n + pre.length:Nat):Int)∧f.vec=v∧addF id v l=pre++⟨f.ids++[id],f.vec⟩::post
 | [],n=>.inl ⟨rfl,rfl⟩
 | f::l,n=>by
  by_cases hf:eq8 f.vec v=true
  ·exact .inr ⟨[],f,l,rfl,by rw [fat,if_pos hf]; rfl,qqS.1 hf,by rw [addF,if_pos hf]; rfl⟩
  ·rcases qn7 l (n + 1) with ⟨h1,h2⟩ | ⟨pre,g,post,h1,h2,h3,h4⟩
   ·exact .inl ⟨by rw [fat,if_neg hf,h1],by rw [addF,if_neg hf,h2]; rfl⟩
   ·refine .inr ⟨f::pre,g,post,by rw [h1]; rfl,?_,h3,by rw [addF,if_neg hf,h4]; rfl⟩
    rw [fat,if_neg hf,h2,List.length_cons]
    congr 2; omega
theorem qvC {pre post:List Frag} {f g:Frag} (h:g.vec=f.vec) (w:V8) (n:Nat):fat (pre++g::post) w n=fat (pre++f::post) w n:=by
 induction pre generalizing n with
 | nil=>rw [List.nil_append,List.nil_append,fat,fat,h]
 | cons x pre ih=>rw [List.cons_append,List.cons_append,fat,fat,ih]
theorem qqT {out:List Frag} {at_:List (V8 × Int)} {id:ByteArray} {v:V8} {K:List Frag→List (V8 × Int)→Option Know} {N:Nat} (hat:∀ w,vlk at_ w=fat out w 0) (h1:out.length≤N) (h2:idsN out≤N) (hN:N≤999990) :
  ∃ at',(∀ w,vlk at' w=fat (addF id v out) w 0) ∧
  opt (mget V8.row at_ v) (fun x=>bnd (atL out x) fun y=>chk (qT y.ids.length 1) (K (out.set x.toNat (Frag.mk (y.ids++[id]) y.vec)) at_))
   (chk (qT out.length 1) (bnd (atL (out++[Frag.mk ([]:List ByteArray) v]) (out.length:Int)) fun x=>chk (qT x.ids.length 1) (K ((out++[Frag.mk ([]:List ByteArray) v]).set (out.length:Int).toNat (Frag.mk (x.ids++[id]) x.vec)) (mset V8.row at_ v (out.length:Int)))))=K (addF id v out) at':=by
 rw [qn6]
 rcases qn7 (id:=id) (v:=v) out 0 with ⟨h3,h4⟩ | ⟨pre,f,post,h3,h4,h5,h6⟩
 ·refine ⟨mset V8.row at_ v (out.length:Int),fun w=>?_,?_⟩
  ·rw [qtb (by rw [hat]; exact h3),hat,h4,qta,Nat.zero_add]
  ·rw [hat v,h3]
   show chk _ _=_
   rw [qr (qv (by omega)),qh (qee out _ []),qr (qv (by simp)),Int.toNat_natCast,qi3,h4]; rfl
 ·refine ⟨at_,fun w=>?_,?_⟩
  ·rw [hat,h6,h3]; exact (qvC (f:=f) (g:=⟨f.ids++[id],f.vec⟩) rfl w 0).symm
  ·rw [hat v,h4,Nat.zero_add]
   have hf:f.ids.length≤idsN out:=qld (by rw [h3]; simp)
   show bnd _ _=_
   rw [qh (show atL out (pre.length:Int)=some f by rw [h3]; exact qee pre f post),qr (qv (by omega)),Int.toNat_natCast,h6]
   rw [show out.set pre.length (Frag.mk (f.ids++[id]) f.vec)=pre++Frag.mk (f.ids++[id]) f.vec::post by rw [h3]; exact qi3 pre f _ post]
theorem qtc (id:ByteArray) (v:V8):∀ l:List Frag,idsN (addF id v l)=idsN l + 1
 | []=>by simp [addF,idsN]
 | f::l=>by
  rw [addF,qeL]
  split
  ·rw [qeL]; simp; omega
  ·rw [qeL,qtc id v l]; omega
theorem qle {k:Know}:∀ (names:List ByteArray) (out:List Frag) (at_:List (V8 × Int)) (N:Nat),(∀ id∈names,id∈qdr k)→(∀ w,vlk at_ w=fat out w 0)→out.length≤N→idsN out≤N→N + names.length≤999980 →
  qP k (allM k.l []) names out at_=some ⟨k.star,names.foldl (qeK k) out⟩
 | [],out,at_,N,_,_,_,_,_=>by rw [qP]; rfl
 | id::names,out,at_,N,hm,hat,h1,h2,hN=>by
  rw [List.length_cons] at hN
  rw [qP,qhe,qpx (hm id (List.mem_cons_self ..))]
  have hm':∀ z∈names,z∈qdr k:=fun z hz=>hm z (List.mem_cons_of_mem _ hz)
  show bnd (qW (sumV id k.l zero8) k.star) _=_
  rw [qh (qmQ (qs9 id k.l qs8)),List.foldl_cons]
  cases he:eq8 (beyondV k id) zero8 with
  | true =>
   rw [qk9 he]
   refine (br_t (c:=eq8 (cutV (sumV id k.l zero8) k.star) ⟨0,0,0,0,0,0,0,0⟩) he).trans ?_
   exact qle names out at_ N hm' hat h1 h2 (by omega)
  | false =>
   rw [qla he]
   refine (br_f (c:=eq8 (cutV (sumV id k.l zero8) k.star) ⟨0,0,0,0,0,0,0,0⟩) he).trans ?_
   obtain ⟨at',hat',e⟩:=qqT (id:=id) (v:=beyondV k id) (K:=fun a b=>qP k (allM k.l []) names a b) hat h1 h2 (by omega)
   refine Eq.trans e ?_
   have:=qij id (beyondV k id) out
   exact qle names _ at' (N + 1) hm' hat' (by omega) (by rw [qtc]; omega) (by omega)
theorem qpz {k:Know}:∀ (names:List ByteArray),(∀ id∈names,id∈qdr k)→names.length≤999970→qaC k (allM k.l []) names=some ⟨k.star,names.foldl (qeK k) []⟩
 | [],_,_=>by rw [qaC]; rfl
 | id::names,hm,hN=>by
  rw [List.length_cons] at hN
  rw [qaC,qhe,qpx (hm id (List.mem_cons_self ..))]
  have hm':∀ z∈names,z∈qdr k:=fun z hz=>hm z (List.mem_cons_of_mem _ hz)
  show bnd (qW (sumV id k.l zero8) k.star) _=_
  rw [qh (qmQ (qs9 id k.l qs8)),List.foldl_cons]
  cases he:eq8 (beyondV k id) zero8 with
  | true =>
   rw [qk9 he]
   refine (br_t (c:=eq8 (cutV (sumV id k.l zero8) k.star) ⟨0,0,0,0,0,0,0,0⟩) he).trans ?_
   exact qpz names hm' (by omega)
  | false =>
   rw [qla he]
   refine (br_f (c:=eq8 (cutV (sumV id k.l zero8) k.star) ⟨0,0,0,0,0,0,0,0⟩) he).trans ?_
   rw [qn6,show vlk ([]:List (V8 × Int)) (cutV (sumV id k.l zero8) k.star)=none from rfl,qAe]
   rw [qr (by rfl)]
   refine qle names [⟨[id],beyondV k id⟩] _ 1 hm' (fun w=>?_) (by simp) (by simp [idsN]) (by omega)
   rw [qtb (by rfl)]
   show (none:Option Int).or _=_
   rw [fat]
   rfl
theorem qhw {k:Know} {N:Nat} (h:KT k N):(qdr k).length≤N:=by
 rw [←qhv]
 unfold qgN
 rw [List.length_map,List.length_mergeSort,List.length_map,List.length_map]
 have:=qlc k.l []
 have:=h.ids
 simp at *; omega
theorem qlf {k:Know} (h:KT k 990000) (hi:IdsOk k):qbl k=some (plainK k):=by
 have hl:=h.l
 have hids:=h.ids
 unfold qbl
 have hlen:=qlc k.l []
 have hs:qgp (allM k.l [])=some (qdr k):=by
  unfold qgp
  rw [qr,qhv]
  rw [Bool.and_eq_true,List.all_eq_true]
  refine ⟨decide_eq_true (by simp at hlen; omega),fun e he=>decide_eq_true ?_⟩
  have:e.1∈qdr k:=by
   rw [←qhv,qmP]; exact List.mem_map.2 ⟨e,he,rfl⟩
  obtain ⟨f,hf,hz⟩:=qfl.1 this
  exact hi f hf _ hz
 have hnl:=qhw h
 rw [qr (qn (by omega)),qpu _ _ fun f hf=>Nat.le_trans (qld hf) (by omega),qh hs,qr (qn (by omega)),qpz _ (fun _ h=>h) (by omega)]
 rfl
theorem qtd (k:Know):∀ (names:List ByteArray) (out:List Frag) (N:Nat),out.length≤N→idsN out≤N→(names.foldl (qeK k) out).length≤N + names.length∧idsN (names.foldl (qeK k) out)≤N + names.length
 | [],out,N,h1,h2=>⟨h1,h2⟩
 | id::names,out,N,h1,h2=>by
  rw [List.foldl_cons,List.length_cons]
  have key:(qeK k out id).length≤N + 1∧idsN (qeK k out id)≤N + 1:=by
   unfold qeK
   split
   ·omega
   ·have:=qij id (beyondV k id) out
    rw [qtc]; omega
  have:=qtd k names _ (N + 1) key.1 key.2
  omega
theorem KT.plain {k:Know} {N:Nat} (h:KT k N):KT (plainK k) N:=by
 have h1:=qtd k (qdr k) [] 0 (by simp) (by simp [idsN])
 have h2:=qhw h
 exact ⟨by show ((qdr k).foldl (qeK k) []).length≤N; omega,by show idsN ((qdr k).foldl (qeK k) [])≤N; omega⟩
end
end Go.Proofs.YtidkmoohgadjkaaGreat
namespace Go.Proofs.YtidkmoohgadjkaaGreat
open Go E Pred
noncomputable section
open Classical
theorem qpA {id:ByteArray}:∀ (l:List Frag) (v:V8),(∀ f∈l,id ∉ f.ids)→sumV id l v=v
 | [],v,_=>rfl
 | f::l,v,h=>by
  have e:sumV id (f::l) v=sumV id l (if memB f.ids id then maxV v f.vec else v):=rfl
  have hf:¬ memB f.ids id=true:=by rw [qgs]; exact h f (List.mem_cons_self ..)
  rw [e,if_neg hf]; exact qpA l v fun g hg=>h g (List.mem_cons_of_mem _ hg)
theorem qAf (s:Int):cutI 0 s=0:=by unfold cutI; split<;>rfl
theorem qif (s:V8):cutV zero8 s=zero8:=by unfold cutV zero8; simp only [qAf]
theorem qi6 {k:Know} {id:ByteArray} (h:id ∉ qdr k):beyondV k id=zero8:=by
 unfold beyondV
 rw [qpA _ _ fun f hf hz=>h (qfl.2 ⟨f,hf,hz⟩),qif]
structure Pieces (k:Know) (P:ByteArray→Prop) (out:List Frag):Prop where
 of_:∀ f∈out, ∀ id∈f.ids,beyondV k id=f.vec∧f.vec≠zero8
 has:∀ id,P id→beyondV k id≠zero8→∃ f∈out,id∈f.ids
theorem qn8 {k:Know} {P:ByteArray→Prop} {out:List Frag} {id:ByteArray} (h:Pieces k P out):Pieces k (fun x=>P x∨x=id) (qeK k out id):=by
 unfold qeK
 by_cases hz:eq8 (beyondV k id) zero8=true
 ·rw [if_pos hz]
  refine ⟨h.of_,fun x hx hb=>?_⟩
  rcases hx with hx | rfl
  ·exact h.has x hx hb
  ·exact absurd (qqS.1 hz) hb
 ·rw [if_neg hz]
  have hz':beyondV k id≠zero8:=fun e=>hz (qqS.2 e)
  rcases qn7 (id:=id) (v:=beyondV k id) out 0 with ⟨_,e⟩ | ⟨pre,f,post,e1,_,e2,e⟩
  ·rw [e]
   refine ⟨fun g hg x hx=>?_,fun x hx hb=>?_⟩
   ·rcases List.mem_append.1 hg with hg | hg
    ·exact h.of_ g hg x hx
    ·rw [List.mem_singleton.1 hg] at hx ⊢
     rw [List.mem_singleton.1 hx]; exact ⟨rfl,hz'⟩
   ·rcases hx with hx | rfl
    ·obtain ⟨g,hg,hi⟩:=h.has x hx hb
     exact ⟨g,List.mem_append_left _ hg,hi⟩
    ·exact ⟨⟨[x],beyondV k x⟩,List.mem_append_right _ (List.mem_singleton.2 rfl),List.mem_singleton.2 rfl⟩
  ·rw [e]
   refine ⟨fun g hg x hx=>?_,fun x hx hb=>?_⟩
   ·rcases List.mem_append.1 hg with hg | hg
    ·exact h.of_ g (by rw [e1]; exact List.mem_append_left _ hg) x hx
    ·rcases List.mem_cons.1 hg with rfl | hg
     ·rcases List.mem_append.1 hx with hx | hx
      ·exact h.of_ f (by rw [e1]; exact List.mem_append_right _ (List.mem_cons_self ..)) x hx
      ·rw [List.mem_singleton.1 hx]
       exact ⟨e2.symm,by rw [e2]; exact hz'⟩
     ·exact h.of_ g (by rw [e1]; exact List.mem_append_right _ (List.mem_cons_of_mem _ hg)) x hx
   ·rcases hx with hx | rfl
    ·obtain ⟨g,hg,hi⟩:=h.has x hx hb
     rw [e1] at hg
     rcases List.mem_append.1 hg with hg | hg
     ·exact ⟨g,List.mem_append_left _ hg,hi⟩
     ·rcases List.mem_cons.1 hg with rfl | hg
      ·exact ⟨_,List.mem_append_right _ (List.mem_cons_self ..),List.mem_append_left _ hi⟩
      ·exact ⟨g,List.mem_append_right _ (List.mem_cons_of_mem _ hg),hi⟩
    ·exact ⟨_,List.mem_append_right _ (List.mem_cons_self ..),List.mem_append_right _ (List.mem_singleton.2 rfl)⟩
theorem qi7 {k:Know}:∀ (names:List ByteArray) {P:ByteArray→Prop} {out:List Frag},Pieces k P out→Pieces k (fun x=>P x∨x∈names) (names.foldl (qeK k) out)
 | [],P,out,h=>⟨h.of_,fun x hx hb=>h.has x (by simpa using hx) hb⟩
 | id::names,P,out,h=>by
  have:=qi7 names (qn8 (id:=id) h)
  rw [List.foldl_cons]
  exact ⟨this.of_,fun x hx hb=>this.has x (by
   rcases hx with hx | hx
   ·exact .inl (.inl hx)
   ·rcases List.mem_cons.1 hx with hx | hx
    ·exact .inl (.inr hx)
    ·exact .inr hx) hb⟩
theorem qmR (k:Know):Pieces k (fun _=>True) (plainK k).l:=by
 have h:=qi7 (k:=k) (qdr k) (P:=fun _=>False) (out:=[]) ⟨fun f hf=>(by cases hf),fun id h=>h.elim⟩
 refine ⟨h.of_,fun id _ hb=>h.has id (.inr ?_) hb⟩
 exact Classical.byContradiction fun hn=>hb (qi6 hn)
theorem qf7 {a s:Int} (h:0≤a):0≤cutI a s:=by unfold cutI; split<;>omega
theorem NonNeg.cut {a:V8} (h:NonNeg a) (s:V8):NonNeg (cutV a s):=⟨qf7 h.h0,qf7 h.h1,qf7 h.h2,qf7 h.h3,qf7 h.h4,qf7 h.h5,qf7 h.h6,qf7 h.h7⟩
theorem qpB:∀ l:List ByteArray,eqL l l=true
 | []=>rfl
 | x::l=>by rw [eqL,qaI,qpB l]; rfl
theorem qi8:∀ l:List Frag,qeW l l=true
 | []=>rfl
 | f::l=>by rw [qeW,qi8 l]; unfold qj0; rw [qpy,qpB]; rfl
theorem qj4 (k:Know):qfj k k=true:=by unfold qfj; rw [qpy,qi8]; rfl
def qi9 (a b:Know):Know:=plainK ⟨maxV a.star b.star,a.l++b.l⟩
def qja (k:Know) (id:ByteArray) (r c:Int):Know:=⟨k.star,k.l++[⟨[id],qh2 zero8 r c⟩]⟩
def qjb (k:Know) (id:ByteArray) (r c:Int):Know:=plainK (qja k id r c)
end
end Go.Proofs.YtidkmoohgadjkaaGreat
set_option maxHeartbeats 4000000
namespace Go.Proofs.YtidkmoohgadjkaaGreat
open Go E Go.RowKit
theorem qyf:∀ f xs σ r σ',prim f xs σ r σ'→qcS Tryz.prog f xs σ r σ':=fun _ _ _ _ _ h=>h
theorem qAg {ts:List Nat} {n:Nat} (h:(ts.all fun t=>decide (t < n))=true):∀ t∈ts,t < n:=fun t ht=>of_decide_eq_true (List.all_eq_true.1 h t ht)
theorem qAh {P:Program} {ts:List Nat} (h:(ts.all fun t=>P.readableRec t)=true):∀ t∈ts,P.readableRec t=true:=List.all_eq_true.1 h
theorem qyg:ownKnob Tryz.prog.godebug=none:=by kernel_rfl
theorem qyh:laidOutB Tryz.prog=true:=by kernel_rfl
theorem qAi:Tryz.prog.follows .mixedOrders=true:=by kernel_rfl
theorem qc7:Tryz.prog.cellsOf 3=1:=by kernel_rfl
theorem qte:Tryz.prog.cellsOf 4=1:=by kernel_rfl
theorem qik:Tryz.prog.cellsOf 22=1:=by kernel_rfl
theorem qh3 (n:Nat):ShOk Tryz.prog n 3 (.int .i64):=.int Tryz.underlying3
theorem qAj (n:Nat):ShOk Tryz.prog n 4 .bool:=.bool Tryz.underlying4
theorem qvD (n:Nat):ShOk Tryz.prog n 22 (.flt .f64):=.flt Tryz.underlying22
theorem qvE:qk (qfS Tryz.prog):=qzi T_ok qAi qyf
theorem qjc {n:Int} (h:(Lit.int .i64 n).wf=true) : -9223372036854775808≤n∧n≤9223372036854775807:=by
 simp only [Lit.wf,Bool.and_eq_true,decide_eq_true_eq] at h
 exact ⟨by simpa [IntKind.min,IntKind.signed,IntKind.bits] using h.1,by simpa [IntKind.max,IntKind.signed,IntKind.bits] using h.2⟩
end Go.Proofs.YtidkmoohgadjkaaGreat
set_option maxHeartbeats 4000000
namespace Go.Proofs.YtidkmoohgadjkaaGreat
open Go E Go.ChangeShapes Go.WideShapes Go.ChangeAt Go.RowKit
theorem qil:Tryz.prog.cellsOf 9=1:=by kernel_rfl
theorem qvF (n:Nat):ShOk Tryz.prog n 9 .str:=.str Tryz.underlying9
theorem qpC:Tryz.prog.cellsOf 78=9:=by kernel_rfl
abbrev qmS:Sh:=.cat .str (.cat (.int .i64) (.cat (.int .i64) (.cat (.int .i64) (.cat .str (.cat (.int .i64) (.cat (.flt .f64) (.cat (.flt .f64) (.cat .bool .nil))))))))
theorem qB0:∀ n,ShOk Tryz.prog n 78 qmS
 | 0=>.zero
 | n + 1=>.struct Tryz.underlying78 qpC (.cons rfl qil (qvF n) (.cons rfl qc7 (qh3 n) (.cons rfl qc7 (qh3 n) (.cons rfl qc7 (qh3 n) (.cons rfl qil (qvF n) (.cons rfl qc7 (qh3 n) (.cons rfl qik (qvD n) (.cons rfl qik (qvD n) (.cons rfl qte (qAj n) .nil)))))))))
theorem qvG {l:List PC} (h:Fits qmS l):∃ x:Item,x.Ok∧l=x.lrow:=by
 obtain ⟨_,_,rfl,⟨x0,rfl,w0⟩,_,_,rfl,⟨x1,rfl,w1⟩,_,_,rfl,⟨x2,rfl,w2⟩,_,_,rfl,⟨x3,rfl,w3⟩,_,_,rfl,⟨x4,rfl,w4⟩,_,_,rfl,⟨x5,rfl,w5⟩,_,_,rfl,⟨x6,rfl,w6⟩,_,_,rfl,⟨x7,rfl,w7⟩,_,_,rfl,⟨x8,rfl⟩,rfl⟩:=h
 exact ⟨⟨x0,x1,x2,x3,x4,x5,x6,x7,x8⟩,⟨Nat.le_trans w0 (by decide),Nat.le_trans w4 (by decide),qjc w1,qjc w2,qjc w3,qjc w5⟩,rfl⟩
section
variable {H:Type} {enc:TypeId × Value→H} {W:World} {v:Value} {d:DataW H} {ps:List MemPlace} {b0:Nat}
end
end Go.Proofs.YtidkmoohgadjkaaGreat
set_option maxHeartbeats 4000000
namespace Go.Proofs.YtidkmoohgadjkaaGreat
open Go E Go.ChangeShapes Go.WideShapes Go.ChangeAt Go.RowKit
theorem qmT:Tryz.prog.cellsOf 26=1:=by kernel_rfl
theorem qwy:∀ n,ShOk Tryz.prog n 26 (.sl qmS)
 | 0=>.zero
 | n + 1=>.sl Tryz.underlying26 qpC (by decide) (qB0 n)
theorem qjd {α:Type} {P:List PC→Prop} {Ok:α→Prop} {f:α→List PC} (h:∀ r,P r→∃ x,Ok x∧r=f x):∀ (l:List (List PC)),(∀ r∈l,P r)→∃ xs:List α,(∀ x∈xs,Ok x)∧l=xs.map f
 | [],_=>⟨[],by simp,rfl⟩
 | r::l,hl=>by
  obtain ⟨x,hx,rfl⟩:=h r (hl r (by simp))
  obtain ⟨xs,hxs,rfl⟩:=qjd h l fun r hr=>hl r (by simp [hr])
  exact ⟨x::xs,by simpa using ⟨hx,hxs⟩,rfl⟩
theorem qmU {l:List PC} (h:Fits (.sl qmS) l):∃ xs:List Item,(∀ x∈xs,x.Ok)∧l=[.sl (xs.map Item.lrow)]:=by
 obtain ⟨rows,rfl,_,hr⟩:=h
 obtain ⟨xs,hx,rfl⟩:=qjd (P:=Fits qmS) (Ok:=Item.Ok) (f:=Item.lrow) (fun r h=>qvG h) rows hr
 exact ⟨xs,hx,rfl⟩
section
variable {H:Type} {enc:TypeId × Value→H} {W:World} {v:Value} {d:DataW H} {ps:List MemPlace} {b0:Nat}
end
end Go.Proofs.YtidkmoohgadjkaaGreat
set_option maxHeartbeats 4000000
namespace Go.Proofs.YtidkmoohgadjkaaGreat
open Go E Go.ChangeShapes Go.WideShapes Go.ChangeAt Go.RowKit
theorem qtf:Tryz.prog.cellsOf 151=1:=by kernel_rfl
theorem qlg:Tryz.prog.cellsOf 28=8:=by kernel_rfl
theorem qmV:Tryz.prog.cellsOf 153=9:=by kernel_rfl
theorem qqU:Tryz.prog.cellsOf 29=1:=by kernel_rfl
theorem qmW:Tryz.prog.cellsOf 31=9:=by kernel_rfl
theorem qAk:∀ n,ShOk Tryz.prog n 151 (.sl .str)
 | 0=>.zero
 | n + 1=>.sl Tryz.underlying151 qil (by decide) (qvF n)
theorem qAl:∀ n,ShOk Tryz.prog n 28 (repS (.int .i64) 8)
 | 0=>.zero
 | n + 1=>.arr (s:=.int .i64) Tryz.underlying28 qc7 qlg (qh3 n) rfl
abbrev qmX:Sh:=.cat (.sl .str) (.cat (repS (.int .i64) 8) .nil)
theorem qAm:∀ n,ShOk Tryz.prog n 153 qmX
 | 0=>.zero
 | n + 1=>.struct Tryz.underlying153 qmV (.cons rfl qtf (qAk n) (.cons rfl qlg (qAl n) .nil))
theorem qyi:∀ n,ShOk Tryz.prog n 29 (.sl qmX)
 | 0=>.zero
 | n + 1=>.sl Tryz.underlying29 qmV (by decide) (qAm n)
abbrev qpD:Sh:=.cat (repS (.int .i64) 8) (.cat (.sl qmX) .nil)
theorem qAn:∀ n,ShOk Tryz.prog n 31 qpD
 | 0=>.zero
 | n + 1=>.struct Tryz.underlying31 qmW (.cons rfl qlg (qAl n) (.cons rfl qqU (qyi n) .nil))
theorem qtg {l:List PC} (h:Fits (repS (.int .i64) 8) l):∃ v:V8,l=v.row:=by
 obtain ⟨_,_,rfl,⟨x0,rfl,w0⟩,_,_,rfl,⟨x1,rfl,w1⟩,_,_,rfl,⟨x2,rfl,w2⟩,_,_,rfl,⟨x3,rfl,w3⟩,_,_,rfl,⟨x4,rfl,w4⟩,_,_,rfl,⟨x5,rfl,w5⟩,_,_,rfl,⟨x6,rfl,w6⟩,_,_,rfl,⟨x7,rfl,w7⟩,rfl⟩:=h
 exact ⟨⟨x0,x1,x2,x3,x4,x5,x6,x7⟩,rfl⟩
theorem qth {l:List PC} (h:Fits (.sl .str) l):∃ xs:List ByteArray,(∀ x∈xs,x.size≤9223372036854775807)∧l=[.sl (xs.map srw)]:=by
 obtain ⟨rows,rfl,_,hr⟩:=h
 obtain ⟨xs,hx,rfl⟩:=qjd (P:=Fits .str) (Ok:=fun x:ByteArray=>x.size≤9223372036854775807) (f:=srw) (fun r ⟨s,e,hs⟩=>⟨s,Nat.le_trans hs (by decide),e⟩) rows hr
 exact ⟨xs,hx,rfl⟩
theorem qti {l:List PC} (h:Fits qmX l):∃ f:Frag,(∀ x∈f.ids,x.size≤9223372036854775807)∧l=f.row:=by
 obtain ⟨_,_,rfl,h1,_,_,rfl,h2,rfl⟩:=h
 obtain ⟨xs,hx,rfl⟩:=qth h1
 obtain ⟨v,rfl⟩:=qtg h2
 exact ⟨⟨xs,v⟩,hx,by simp⟩
theorem qtj {l:List PC} (h:Fits qpD l):∃ k:Know,IdsOk k∧l=k.row:=by
 obtain ⟨_,_,rfl,h1,_,_,rfl,⟨rows,rfl,_,hr⟩,rfl⟩:=h
 obtain ⟨v,rfl⟩:=qtg h1
 obtain ⟨fs,hf,rfl⟩:=qjd (P:=Fits qmX) (Ok:=fun f:Frag=>∀ x∈f.ids,x.size≤9223372036854775807) (f:=Frag.row) (fun r h=>qti h) rows hr
 exact ⟨⟨v,fs⟩,hf,by simp⟩
abbrev Know.la (k:Know):A:=.agg [ic k.star.x0,ic k.star.x1,ic k.star.x2,ic k.star.x3,ic k.star.x4,ic k.star.x5,ic k.star.x6,ic k.star.x7,.p (.sl (k.l.map Frag.row))]
abbrev Ver.la (v:Ver):A:=.agg [ic v.r,ic v.c]
def Ver.Ok (v:Ver):Prop:=(-9223372036854775808≤v.r∧v.r≤9223372036854775807) ∧ -9223372036854775808≤v.c∧v.c≤9223372036854775807
abbrev qB1:Sh:=.cat (.int .i64) (.cat (.int .i64) .nil)
section
variable {H:Type} {enc:TypeId × Value→H} {W:World} {v:Value} {d:DataW H} {ps:List MemPlace} {b0:Nat}
end
end Go.Proofs.YtidkmoohgadjkaaGreat
namespace Go.Proofs.YtidkmoohgadjkaaGreat
open Go E Pred
noncomputable section
open Classical
theorem qmY {k:Option Bool}:∀ (xs pre ys:List ByteArray) (g:Frag),g.ids=pre++ys→xs.length=ys.length→qbw g k xs (pre.length:Int)=if eqL xs ys then k else some false
 | [],pre,[],g,_,_=>by rw [qbw]; rfl
 | x::xs,pre,y::ys,g,hg,hl=>by
  have ih:=qmY (k:=k) xs (pre++[y]) ys g (by simpa using hg) (by simpa using hl)
  rw [List.length_append] at ih
  rw [qbw,qh (by rw [hg]; exact qee pre y ys),eqL]
  cases eqS x y with
  | false=>rfl
  | true=>rw [br_f (by rfl),Bool.true_and]; exact ih
 | [],_,_::_,_,_,h=>by simp at h
 | _::_,_,[],_,_,h=>by simp at h
theorem qmZ:∀ (fs pre gs:List Frag) (b:Know),b.l=pre++gs→fs.length=gs.length→(∀ f∈fs,f.ids.length≤1000000000)→qaP b fs (pre.length:Int)=some (qeW fs gs)
 | [],pre,[],b,_,_,_=>by rw [qaP]; rfl
 | f::fs,pre,g::gs,b,hb,hl,hi=>by
  have ih:=qmZ fs (pre++[g]) gs b (by simpa using hb) (by simpa using hl) fun x hx=>hi x (List.mem_cons_of_mem _ hx)
  rw [List.length_append] at ih
  rw [qaP,qh (by rw [hb]; exact qee pre g gs),qeW]
  unfold qj0
  cases eq8 f.vec g.vec with
  | false=>rfl
  | true =>
   rw [br_t (by rfl),Bool.true_and]
   by_cases hn:f.ids.length=g.ids.length
   ·rw [br_f (by rw [hn,qdB.2 rfl]; rfl),qr (qn (hi f (List.mem_cons_self ..)))]
    have h2:=qmY (k:=qaP b fs ((pre.length:Int) + 1)) f.ids [] g.ids g rfl hn
    rw [show (([]:List ByteArray).length:Int)=0 from rfl] at h2
    rw [h2]
    cases eqL f.ids g.ids with
    | true=>rw [if_pos rfl,Bool.true_and]; exact ih
    | false=>rfl
   ·rw [br_t (by rw [qav.2 (by omega)]; rfl),qn3 hn]; rfl
 | [],_,_::_,_,_,h,_=>by simp at h
 | _::_,_,[],_,_,h,_=>by simp at h
theorem qvH {a b:Know} {N:Nat} (hN:N≤1000000000) (h:KB a N):qd4 a b=some (qfj a b):=by
 unfold qd4 qfj
 cases eq8 a.star b.star with
 | false=>rfl
 | true =>
  rw [br_t (by rfl),Bool.true_and]
  by_cases hl:a.l.length=b.l.length
  ·rw [br_f (by rw [hl,qdB.2 rfl]; rfl),qr (qn (Nat.le_trans h.l hN))]
   exact qmZ a.l [] b.l b rfl hl fun f hf=>Nat.le_trans (h.ids f hf) hN
  ·rw [br_t (by rw [qav.2 (by omega)]; rfl),qhu hl]
theorem qtk {id:ByteArray} {v:Ver} {f:Frag} {k:Option Bool}:∀ (ids:List ByteArray) (i:Int),0≤i→qdd id v f k ids i=if memB ids id=true then (if hasV f.vec v.r v.c=true then some true else k) else k
 | [],i,_=>by rw [qdd]; rfl
 | x::ids,i,hi=>by
  rw [qdd,qtk ids (i + 1) (by omega),qmM,qcA id x]
  cases eqS x id with
  | false=>rfl
  | true =>
   rw [br_t rfl,br_t (qa5.2 hi),qh (show qe8 f.vec v=some (hasV f.vec v.r v.c) from rfl),qsX]; rfl
theorem qtl {id:ByteArray} {v:Ver}:∀ l:List Frag,(∀ f∈l,f.ids.length≤1000000000)→qde id v l=some (l.any fun f=>hasF f id v.r v.c)
 | [],_=>by rw [qde]; rfl
 | f::l,h=>by
  rw [qde,qr (qn (h f (List.mem_cons_self ..))),qtk _ _ (by decide),qtl l fun g hg=>h g (List.mem_cons_of_mem _ hg),List.any_cons]
  unfold hasF
  cases memB f.ids id<;>cases hasV f.vec v.r v.c<;>rfl
theorem qAo {k:Know} {id:ByteArray} {v:Ver} {N:Nat} (hN:N≤1000000000) (h:KB k N):qfh k id v=some (hasK k id v.r v.c):=by
 unfold qfh hasK
 rw [qh (show qe8 k.star v=some (hasV k.star v.r v.c) from rfl),qr (qn (Nat.le_trans h.l hN)),qtl _ fun f hf=>Nat.le_trans (h.ids f hf) hN]
 cases hasV k.star v.r v.c<;>rfl
theorem qtm {k:Option Bool}:∀ (xs:List ByteArray) (i:Int),0≤i→(∀ x∈xs,x.size≤9223372036854775807)→qdf k xs i=if (xs.all fun x=>lettersB x 1) then k else some false
 | [],i,_,_=>by rw [qdf]; rfl
 | x::xs,i,hi,h=>by
  have e:qey x=some (lettersB x 1):=by unfold qey; rw [qr (decide_eq_true (h x (List.mem_cons_self ..)))]
  rw [qdf,qh e,qtm xs (i + 1) (by omega) fun y hy=>h y (List.mem_cons_of_mem _ hy),List.all_cons]
  cases lettersB x 1 with
  | true=>rfl
  | false=>rw [br_t (by rfl),br_t (qa5.2 hi)]; rfl
theorem qtn:∀ (l:List Frag),(∀ f∈l,f.ids.length≤1000000000)→(∀ f∈l, ∀ x∈f.ids,x.size≤9223372036854775807)→qdg l=some (l.all mayF)
 | [],_,_=>by rw [qdg]; rfl
 | f::l,h,h2=>by
  rw [qdg,qh (show qe9 f.vec=some (mayV f.vec) from rfl),List.all_cons]
  unfold mayF
  cases mayV f.vec with
  | false=>rfl
  | true =>
   rw [br_f (by rfl),qr (qn (h f (List.mem_cons_self ..))),qtm _ _ (by decide) (h2 f (List.mem_cons_self ..)),qtn l (fun g hg=>h g (List.mem_cons_of_mem _ hg)) fun g hg=>h2 g (List.mem_cons_of_mem _ hg)]
   unfold mayF
   cases (f.ids.all fun x=>lettersB x 1)<;>rfl
theorem qAp {k:Know} (h:KT k 990000) (hi:IdsOk k):qat k=some (mayK k):=by
 unfold qat mayK
 rw [qh (show qe9 k.star=some (mayV k.star) from rfl)]
 cases mayV k.star with
 | false=>rw [br_t (by rfl)]; simp
 | true =>
  rw [br_f (by rfl),qh (qlf h hi),qh (qvH (by decide) h.kb)]
  cases qfj k (plainK k) with
  | false=>rfl
  | true=>rw [br_f (by rfl),qr (qn (by have:=h.l; omega)),qtn _ (fun f hf=>by have:=h.kb.ids f hf; omega) hi]; rfl
theorem qm0 {k:Know} (h:IdsOk k):IdsOk (plainK k):=fun f hf x hx=>by
 have hp:=(qmR k).of_ f hf x hx
 have:x∈qdr k:=Classical.byContradiction fun hn=>hp.2 (by rw [←hp.1,qi6 hn])
 obtain ⟨g,hg,hz⟩:=qfl.1 this
 exact h g hg x hz
theorem qn9 {a b:Know} {N M:Nat} (ha:KT a N) (hb:KT b M):KT ⟨maxV a.star b.star,a.l++b.l⟩ (N + M) :=
 ⟨by show (a.l++b.l).length≤_; rw [List.length_append]; have:=ha.l; have:=hb.l; omega,by show idsN (a.l++b.l)≤_; rw [qpt]; have:=ha.ids; have:=hb.ids; omega⟩
theorem qpE {a b:Know} (ha:IdsOk a) (hb:IdsOk b):IdsOk ⟨maxV a.star b.star,a.l++b.l⟩:=fun f hf x hx=>by
 rcases List.mem_append.1 hf with hf | hf
 ·exact ha f hf x hx
 ·exact hb f hf x hx
theorem qyj {a b:Know} {N M:Nat} (ha:KT a N) (hb:KT b M) (hn:N + M≤900000) (ia:IdsOk a) (ib:IdsOk b):qeE a b=some (qi9 a b):=by
 have h1:=ha.l
 have h2:=hb.l
 unfold qeE
 rw [qh (show qdZ a.star b.star=some (maxV a.star b.star) from rfl),qr (qn (by simp))]
 rw [qco,br_f (by rw [qag,wr64 (by omega) (by omega)]; omega),wr64 (by omega) (by omega),qco,br_f (by rw [qag,wr64 (by omega) (by omega)]; omega),wr64 (by omega) (by omega),qco]
 have hg:qmz (0 + (a.l.length:Int) + (b.l.length:Int))=some []:=by unfold qmz; rw [qr (decide_eq_true (by omega))]
 rw [qh hg,qr (qn (by simp)),qcn,qr (qv (by simp; omega)),qcn,qr (qv (by simp; omega)),qcn,List.nil_append,qh (qlf ((qn9 ha hb).mono (by omega)) (qpE ia ib))]
 rfl
theorem qlh {k:Know} {N:Nat} (h:KT k N) (id:ByteArray) (r c:Int):KT (qja k id r c) (N + 1) :=
 ⟨by show (k.l++[_]).length≤_; rw [List.length_append]; have:=h.l; simp; omega,by show idsN (k.l++[_])≤_; rw [qpt]; have:=h.ids; simp [idsN]; simp [idsN] at this; omega⟩
theorem qm1 {k:Know} {id:ByteArray} {r c:Int} (h:IdsOk k) (hid:id.size≤9223372036854775807):IdsOk (qja k id r c):=fun f hf x hx=>by
 rcases List.mem_append.1 hf with hf | hf
 ·exact h f hf x hx
 ·rw [List.mem_singleton.1 hf] at hx
  rw [List.mem_singleton.1 hx]; exact hid
theorem qoa {k:Know} {id:ByteArray} {v:Ver} {N:Nat} (h:KT k N) (hn:N≤900000) (hi:IdsOk k) (hid:id.size≤9223372036854775807):qcm k id v=some (qjb k id v.r v.c):=by
 have hl:=h.l
 unfold qcm
 rw [qh (show qgo ⟨0,0,0,0,0,0,0,0⟩ v=some (qh2 zero8 v.r v.c) from rfl),qh (show qaz k.l=some k.l by unfold qaz; rw [qr (decide_eq_true (by omega))]),qr (qv (by omega))]
 rw [qh (show qbl ⟨k.star,k.l++[⟨[id],qh2 zero8 v.r v.c⟩]⟩=some (plainK (qja k id v.r v.c)) from qlf (k:=qja k id v.r v.c) ((qlh h id v.r v.c).mono (by omega)) (qm1 hi hid))]
 rfl
theorem KB.mono' {k:Know} {n m:Nat} (h:KB k n) (hm:n≤m):KB k m:=⟨Nat.le_trans h.l hm,fun f hf=>Nat.le_trans (h.ids f hf) hm⟩
end
end Go.Proofs.YtidkmoohgadjkaaGreat
namespace Go.Proofs.YtidkmoohgadjkaaGreat
open Go E Pred
noncomputable section
open Classical
def qj5:Item→List Item→Bool
 | _,[]=>true
 | p,x::xs=>!(ltS x.id p.id || eqS x.id p.id)&&qj5 x xs
def qpF:List Item→Bool
 | []=>true
 | x::xs=>qj5 x xs
theorem qto:∀ (xs:List Item) (p:Item) (pre l:List Item) (fl:Nat),l=pre++p::xs→l.length≤1000000→xs.length + 1≤fl→qa1 l fl ((pre.length:Int) + 1)=some (qj5 p xs)
 | [],p,pre,l,fl,hl,hn,hf=>by
  obtain ⟨fl,rfl⟩:∃ n,fl=n + 1:=⟨fl - 1,by simp at hf; omega⟩
  rw [qa1,br_f (by rw [qag,hl]; simp)]; rfl
 | x::xs,p,pre,l,fl,hl,hn,hf=>by
  obtain ⟨fl,rfl⟩:∃ n,fl=n + 1:=⟨fl - 1,by simp at hf; omega⟩
  have hlen:l.length=pre.length + (xs.length + 2):=by rw [hl]; simp
  have a1:atL l ((pre.length:Int) + 1)=some x:=by
   have:=qee (pre++[p]) x xs
   rw [List.length_append,List.append_assoc] at this
   rw [hl]; exact this
  have a0:atL l (wr .i64 ((pre.length:Int) + 1 - 1))=some p:=by
   rw [wr64 (by omega) (by omega),show (pre.length:Int) + 1 - 1=pre.length by omega,hl]; exact qee pre p (x::xs)
  rw [qa1,br_t (by rw [q9]; omega),qh a1,qh a0,qj5]
  cases (ltS x.id p.id || eqS x.id p.id) with
  | true=>rfl
  | false =>
   rw [br_f rfl,wr64 (by omega) (by omega)]
   have:=qto xs x (pre++[p]) l fl (by rw [hl]; simp) hn (by simp at hf ⊢; omega)
   rw [List.length_append] at this
   exact this
theorem qyk {l:List Item} (h:l.length≤999990):qdx l=some (qpF l):=by
 unfold qdx
 match l,h with
 | [],_=>rfl
 | x::xs,h=>exact qto xs x [] (x::xs) qdC rfl (by omega) (by unfold qdC; simp at h; omega)
def qcQ (l:List Item):Bool:=l.all mayI&&qpF l
theorem qm2 {l:List Item} (hl:l.length≤999990):∀ xs:List Item,(∀ x∈xs,x.Ok)→qaw l xs=some (xs.all mayI&&qpF l)
 | [],_=>by rw [qaw,qh (qyk hl)]; rfl
 | x::xs,h=>by
  have e:qb5 x=some (mayI x):=by unfold qb5; rw [qr (decide_eq_true (h x (List.mem_cons_self ..)))]
  rw [qaw,qh e,qm2 hl xs fun y hy=>h y (List.mem_cons_of_mem _ hy),List.all_cons]
  cases mayI x<;>rfl
theorem qm3 {l:List Item} (hl:l.length≤999990) (h:∀ x∈l,x.Ok):qbc l=some (qcQ l):=by
 unfold qbc; rw [qr (qn (by omega)),qm2 hl l h]; rfl
def qtp:Item:=⟨⟨#[]⟩,0,0,0,⟨#[]⟩,0,0,0,false⟩
def getI (id:ByteArray):List Item→Item × Bool
 | []=>(qtp,false)
 | x::xs=>if eqS x.id id then (x,true) else getI id xs
theorem qAq (id:ByteArray):∀ l:List Item,qcg id l=some (getI id l)
 | []=>by rw [qcg]; rfl
 | x::xs=>by rw [qcg,qAq id xs,getI]; cases eqS x.id id<;>rfl
theorem qtq {l:List Item} {id:ByteArray} (h:l.length≤1000000000):qbq l id=some (getI id l):=by
 unfold qbq; rw [qr (qn h),qAq]
theorem qtr:∀ (xs acc:List Item),acc.length + xs.length≤999990→qa2 xs acc=some (acc++xs)
 | [],acc,_=>by rw [qa2,List.append_nil]
 | i::xs,acc,h=>by
  rw [List.length_cons] at h
  rw [qa2,qh (show qeT i=some i from rfl),qr (qv (by omega)),qtr xs _ (by rw [List.length_append]; simp; omega),List.append_assoc]; rfl
theorem qts {l:List Item} (h:l.length≤999990):qcI l=some l:=by
 unfold qcI; rw [qr (qn (by omega)),qtr l [] (by simp; omega)]; rfl
end
end Go.Proofs.YtidkmoohgadjkaaGreat
set_option maxHeartbeats 4000000
namespace Go.Proofs.YtidkmoohgadjkaaGreat
open Go E Pred
abbrev ex4:List Pred:=[bare 2 [],bare 1 []]
abbrev qCc:Item:=⟨⟨#[]⟩,0,0,0,⟨#[]⟩,0,0,0,false⟩
end Go.Proofs.YtidkmoohgadjkaaGreat
set_option maxHeartbeats 0
namespace Go.Proofs.YtidkmoohgadjkaaGreat
open Go E
noncomputable section
open Pred
end
end Go.Proofs.YtidkmoohgadjkaaGreat
set_option maxHeartbeats 4000000
namespace Go.Proofs.YtidkmoohgadjkaaGreat
open Go E Pred
section
variable {X:Task→Prop} (hX:qk X) {Q:A→List Blk→Prop}
include hX
end
end Go.Proofs.YtidkmoohgadjkaaGreat
namespace Go.Proofs.YtidkmoohgadjkaaGreat
open Go E Pred
inductive NF:Pred→Prop
 | leaf {o t n x y}:o≠8→o≠9→o≠10→NF (.mk o t n x y [])
 | some {ks}:(∀ k∈ks,NF k)→(∀ k∈ks,k.op≠9∧k.op≠1)→ks.foldl (addP 2) []=ks→2≤ks.length→NF (bare 9 ks)
 | all {ks}:(∀ k∈ks,NF k)→(∀ k∈ks,k.op≠8∧k.op≠2)→ks.foldl (addP 1) []=ks→2≤ks.length→NF (bare 8 ks)
 | no {k}:NF k→k.op≠1→k.op≠2→k.op≠10→NF (bare 10 [k])
end Go.Proofs.YtidkmoohgadjkaaGreat
namespace Go.Proofs.YtidkmoohgadjkaaGreat
open Go E Pred
noncomputable section
open Classical
theorem qvI {p:Pred} (h:p.Ok) (hs:p.size≤60):qbo p=some 1:=by unfold qbo; rw [qr (decide_eq_true h),if_pos hs]
theorem qvJ {p:Pred} (h:p.Ok) (hs:¬ p.size≤60):qbo p=some 0:=by unfold qbo; rw [qr (decide_eq_true h),if_neg hs]
theorem qyl {p:Pred} (h:p.Ok) (hs:p.size≤1000):qd0 p=some p:=by unfold qd0; rw [qr (decide_eq_true hs),qr (decide_eq_true h)]
theorem qB2 {p:Pred} {x:Item} (h:p.Ok) (hx:x.Ok):qfb p x=some (hasP p x):=by unfold qfb; rw [qr (decide_eq_true h),qr (decide_eq_true hx)]
end
end Go.Proofs.YtidkmoohgadjkaaGreat
namespace Go.Proofs.YtidkmoohgadjkaaGreat
open Go E Pred
noncomputable section
open Classical
theorem qwz {p:Pred} (h:p.Ok) (hs:p.size≤1000):qdM p=some (mayP p):=by unfold qdM; rw [qr (decide_eq_true hs),qr (decide_eq_true h)]
theorem qm4 {p:Pred} {x:Item} (h:p.Ok) (hx:x.Ok):qbp p x=some (hasP p x):=by unfold qbp; rw [qr (decide_eq_true h),qr (decide_eq_true hx)]
structure StOk (x:State):Prop where
 f:x.f.Ok
 fs:x.f.size≤1000
 store:∀ i∈x.store,i.Ok
 out:∀ i∈x.out,i.Ok
 sl:x.store.length≤990
 ol:x.out.length≤990
 k:KB x.k 990
 ids:IdsOk x.k
theorem qf8 {k:Know}:∀ (l acc:List Frag),acc.length + l.length≤999990→(∀ f∈l,f.ids.length≤1000000)→qbs k l acc=some ⟨k.star,acc++l⟩
 | [],acc,_,_=>by rw [qbs,List.append_nil]
 | f::l,acc,h,hi=>by
  rw [List.length_cons] at h
  have e:qaz f.ids=some f.ids:=by unfold qaz; rw [qr (decide_eq_true (hi f (List.mem_cons_self ..)))]
  rw [qbs,qh e,qr (qv (by omega)),qf8 l _ (by rw [List.length_append]; simp; omega) fun g hg=>hi g (List.mem_cons_of_mem _ hg),List.append_assoc]; rfl
theorem qqV {k:Know} (h:KB k 990):qaF k=some k:=by
 have:=h.l
 unfold qaF
 rw [qr (qn (by omega)),qf8 k.l [] (by simp; omega) fun f hf=>by have:=h.ids f hf; omega]; rfl
theorem qhX {p:Pred} {rc:Pred→Option Pred}:∀ (l acc:List Pred),(∀ q∈l,rc q=some q)→acc.length + l.length≤999990→qbr p rc l acc=some (.mk p.op p.text p.n p.re p.im (acc++l))
 | [],acc,_,_=>by rw [qbr,List.append_nil]
 | q::l,acc,h,hn=>by
  rw [List.length_cons] at hn
  rw [qbr,qh (h q (List.mem_cons_self ..)),qr (qv (by omega)),qhX l _ (fun x hx=>h x (List.mem_cons_of_mem _ hx)) (by rw [List.length_append]; simp; omega),List.append_assoc]; rfl
theorem qhx:∀ (n:Nat) {p:Pred},p.size≤n→p.size≤1000→qbk n p=some p
 | 0,p,h,_=>by have:=qcE p; omega
 | n + 1,p,h,hs=>by
  have e:=size_eq p
  have hl:=qg0 p.kids
  show qd2 (qbk n) p=some p
  unfold qd2
  rw [qr (qn (by omega)),qhX p.kids [] (fun q hq=>qhx n (by have:=qkR hq; omega) (by have:=qkR hq; omega)) (by simp; omega)]
  cases p; rfl
def qqW (x:Item):Has:=⟨x.id,x.vr,x.vc,x.stamp⟩
def qtt (x:State) (w sid:Int):Sess:=⟨sid,w,x.epoch,0,[],false,false,false,0,⟨zero8,[]⟩,[]⟩
def ask0 (x:State) (w sid:Int):Msg:=⟨1,x.r,w,sid,0,x.f,x.k,x.store.map qqW,0,[],false⟩
theorem qAr {x:State} {w sid:Int} {f:Pred} {k:Know}:∀ (xs:List Item) (acc:List Has),acc.length + xs.length≤999990→qdb x w sid f k xs acc=some (qtt x w sid,⟨1,x.r,w,sid,0,f,k,acc++xs.map qqW,0,[],false⟩)
 | [],acc,_=>by rw [qdb,List.map_nil,List.append_nil]; rfl
 | i::xs,acc,h=>by
  rw [List.length_cons] at h
  rw [qdb,qr (qv (by omega)),qAr xs _ (by rw [List.length_append]; simp; omega),List.append_assoc]; rfl
theorem qB3 {x:State} {w sid:Int} (hf:x.f.size≤1000) (hs:x.store.length≤990) (hk:KB x.k 990):qfg x w sid=some (qtt x w sid,ask0 x w sid):=by
 unfold qfg
 rw [qh (qhx ql9 (by unfold ql9; omega) hf),qh (qqV hk),qr (qn (by omega)),qAr _ _ (by simp; omega)]; rfl
theorem qwA {x:State} {w sid:Int}:∀ (xs:List Item) (acc:List Has),acc.length + xs.length≤999990→qbt x w sid xs acc=some (qtt x w sid,⟨1,x.r,w,sid,0,x.f,x.k,acc++xs.map qqW,0,[],false⟩)
 | [],acc,_=>by rw [qbt,List.map_nil,List.append_nil]; rfl
 | i::xs,acc,h=>by
  rw [List.length_cons] at h
  rw [qbt,qr (qv (by omega)),qwA xs _ (by rw [List.length_append]; simp; omega),List.append_assoc]; rfl
theorem qAs {x:State} {w sid:Int} (hs:x.store.length≤990):qd3 x w sid=some (qtt x w sid,ask0 x w sid):=by
 unfold qd3
 rw [qr (qn (by omega)),qwA _ _ (by simp; omega)]; rfl
theorem qm5:∀ l:List ByteArray,eqL l l=true
 | []=>rfl
 | x::l=>by rw [eqL,qgg,qm5 l]; rfl
theorem qpG (v:V8):eq8 v v=true:=by rw [qnQ]; simp
theorem qhY:∀ l:List Frag,qeW l l=true
 | []=>rfl
 | f::l=>by rw [qeW,qhY l]; unfold qj0; rw [qpG,qm5]; rfl
theorem qgP (k:Know):qfj k k=true:=by unfold qfj; rw [qpG,qhY]; rfl
theorem qE (n:Int):eqI n n=true:=qdB.2 rfl
theorem qm6 {m:Msg} (hf:m.f.Ok) (hs:qei m.f m.f=true) (hk:KB m.k 990) (hl:m.l=[]):∀ (xs pre:List Has),m.have_=pre++xs→qaf m m xs (pre.length:Int)=some true
 | [],pre,_=>by
  have e:qbg m.f m.f=some true:=by rw [qn2 hf,hs]
  have e2:qY m.l m.l=some true:=by rw [hl]; rfl
  rw [qaf,qh e,qh (qi4 (by decide) hk),qgP,qh e2]; rfl
 | x::xs,pre,h=>by
  have ih:=qm6 hf hs hk hl xs (pre++[x]) (by rw [h]; simp)
  rw [List.length_append] at ih
  rw [qaf,qh (by rw [h]; exact qee pre x xs),qgg,qE,qE,qE]
  exact ih
theorem qtu {m:Msg} (hf:m.f.Ok) (hs:qei m.f m.f=true) (hk:KB m.k 990) (hl:m.l=[]) (hn:m.have_.length≤1000000000):qac m m=some true:=by
 unfold qac
 have h9:=qm6 hf hs hk hl m.have_ [] rfl
 rw [show (([]:List Has).length:Int)=0 from rfl] at h9
 have hb:(@Bool.rec (fun _=>Bool) m.star (!m.star) m.star)=false:=by cases m.star<;>rfl
 rw [qE,qE,qE,qE,qE,qE,qE,hb,qr (qn hn),h9]; rfl
theorem qtv:∀ (l:List Frag),∃ b,qa3 l=some b∧(b=0∨(b=1∧∀ f∈l,f.ids.length≤60))
 | []=>⟨1,by rw [qa3],.inr ⟨rfl,fun f hf=>by cases hf⟩⟩
 | f::l=>by
  obtain ⟨b,hb,h⟩:=qtv l
  rw [qa3,qsX]
  by_cases hf:ltI 60 (f.ids.length:Int)=true
  ·exact ⟨0,by rw [if_pos hf],.inl rfl⟩
  ·refine ⟨b,by rw [if_neg hf,hb],h.imp id fun ⟨h1,h2⟩=>⟨h1,fun g hg=>?_⟩⟩
   rw [q9] at hf
   rcases List.mem_cons.1 hg with rfl | hg
   ·omega
   ·exact h2 g hg
theorem qym (k:Know):∃ b,qdy k=some b∧(b=0∨(b=1∧KB k 60)):=by
 unfold qdy
 rw [qsX]
 by_cases hf:ltI 30 (k.l.length:Int)=true
 ·exact ⟨0,by rw [if_pos hf],.inl rfl⟩
 ·rw [if_neg hf]
  rw [q9] at hf
  obtain ⟨b,hb,h⟩:=qtv k.l
  exact ⟨b,by rw [qr (qn (by omega)),hb],h.imp id fun ⟨h1,h2⟩=>⟨h1,⟨by omega,h2⟩⟩⟩
structure Sit.Ok (s:Sit):Prop where
 f:s.f.Ok
 store:∀ i∈s.store,i.Ok
 out:∀ i∈s.out,i.Ok
 ids:IdsOk s.k
def Sit.st (s:Sit):State:=⟨s.r,s.f,s.store,s.out,s.k,s.count,s.clock,s.epoch⟩
theorem KB.mono {k:Know} {n m:Nat} (h:KB k n) (hm:n≤m):KB k m:=⟨Nat.le_trans h.l hm,fun f hf=>Nat.le_trans (h.ids f hf) hm⟩
theorem qpH {s:Sit} (ok:s.Ok):∃ b,qdm s=some b∧(b=0∨(b=1∧StOk s.st∧s.f.size≤60∧s.store.length≤60∧s.out.length≤60∧KB s.k 60)):=by
 unfold qdm
 rw [qsX,qsX]
 by_cases h1:ltI 60 (s.store.length:Int)=true
 ·exact ⟨0,by rw [if_pos h1],.inl rfl⟩
 ·rw [if_neg h1]
  by_cases h2:ltI 60 (s.out.length:Int)=true
  ·exact ⟨0,by rw [if_pos h2],.inl rfl⟩
  ·rw [if_neg h2]
   rw [q9] at h1 h2
   obtain ⟨b,hb,hk⟩:=qym s.k
   by_cases h3:s.f.size≤60
   ·rw [qh (qvI ok.f h3),qh hb]
    rcases hk with rfl | ⟨rfl,hk⟩
    ·exact ⟨_,rfl,.inl rfl⟩
    ·exact ⟨_,rfl,.inr ⟨rfl,⟨ok.f,by show s.f.size≤1000; omega,ok.store,ok.out,by show s.store.length≤990; omega,by show s.out.length≤990; omega,hk.mono (by decide),ok.ids⟩,h3,by omega,by omega,hk⟩⟩
   ·rw [qh (qvJ ok.f h3),qh hb]
    exact ⟨_,rfl,.inl (by rw [Int.zero_mul]; rfl)⟩
theorem qtw {s:Sit} (ok:s.Ok) (h:StOk s.st):qcJ s=some s.st:=by
 have h1:=h.fs
 have h2:=h.sl
 have h3:=h.ol
 unfold qcJ
 rw [qh (qyl ok.f h1),qh (qts (l:=s.store) (by show s.st.store.length≤_; omega)),qh (qts (l:=s.out) (by show s.st.out.length≤_; omega))]; rfl
end
end Go.Proofs.YtidkmoohgadjkaaGreat
namespace Go.Proofs.YtidkmoohgadjkaaGreat
open Go E Pred
noncomputable section
open Classical
theorem qtx:∀ (l:List Frag) (acc:List ByteArray),acc.length + idsN l≤999980→qaX l acc=some (qjZ acc l)
 | [],acc,_=>by rw [qaX]; rfl
 | f::l,acc,hN=>by
  rw [qeL] at hN
  have:=qhU f.ids acc
  rw [qaX,qr (qn (by omega)),qpi _ _ (by omega),qtx l _ (by omega)]; rfl
theorem qpI {k:Know} {M:Nat} (hM:M≤1000000000) (hk:KB k M):∀ (names:List ByteArray) (out:List Frag) (n:Nat),out.length≤n→(∀ f∈out,f.ids.length≤n)→n + names.length≤999980→qao k names out=some ⟨k.star,names.foldl (qeK k) out⟩
 | [],out,n,h1,h2,hn=>by rw [qao]; rfl
 | id::names,out,n,h1,h2,hn=>by
  rw [List.length_cons] at hn
  obtain ⟨s1,s2⟩:=qs0 (k:=k) (id:=id) h1 h2
  have ih:=qpI hM hk names (qeK k out id) (n + 1) s1 s2 (by omega)
  rw [qao,qh (qpk hM hk),List.foldl_cons,←ih]
  cases he:eq8 (beyondV k id) zero8 with
  | true=>rw [br_t (c:=eq8 (beyondV k id) ⟨0,0,0,0,0,0,0,0⟩) he,qk9 he]
  | false =>
   rw [br_f (c:=eq8 (beyondV k id) ⟨0,0,0,0,0,0,0,0⟩) he,qla he,qr (qn (by omega))]
   have:=qpm (id:=id) (v:=beyondV k id) (k:=fun w0=>qao k names w0) out [] (by simp; omega) (fun f hf=>by have:=h2 f (by simpa using hf); omega)
   simpa using this
theorem qpJ {k:Know} {M:Nat} (hM:M≤1000000000) (hk:KB k M):∀ (names:List ByteArray),names.length≤999970→qaZ k names=some ⟨k.star,names.foldl (qeK k) []⟩
 | [],h=>by rw [qaZ]; rfl
 | id::names,h=>by
  rw [List.length_cons] at h
  rw [qaZ,qh (qpk hM hk),List.foldl_cons]
  cases he:eq8 (beyondV k id) zero8 with
  | true=>rw [br_t (c:=eq8 (beyondV k id) ⟨0,0,0,0,0,0,0,0⟩) he,qk9 he]; exact qpJ hM hk names (by omega)
  | false=>rw [br_f (c:=eq8 (beyondV k id) ⟨0,0,0,0,0,0,0,0⟩) he,qla he,qr (by rfl)]; exact qpI hM hk names [⟨[id],beyondV k id⟩] 1 (by simp) (fun f hf=>by rw [List.mem_singleton.1 hf]; simp) (by omega)
theorem qli {k:Know} {N:Nat} (h:KT k N) (hN:N≤999000):qaM k=some (plainK k):=by
 have hl:=h.l
 have hi:=h.ids
 have hn:=qhw h
 unfold qaM
 rw [qh (show qdv k=some (qdr k) by unfold qdv; rw [qr (qn (by omega)),qtx _ _ (by simp; omega)]; rfl),qr (qn (by omega)),qpJ (by omega) h.kb _ (by omega)]; rfl
theorem qob {k:Know} {N:Nat} (h:KT k N) (hN:N≤999000) (hi:IdsOk k):qda k=some (mayK k):=by
 have hb:=h.kb
 unfold qda mayK
 rw [qh (qli h hN),qh (qi4 (by omega) hb),qh (show qbO k.star=some (mayV k.star) from rfl)]
 cases qfj k (plainK k) with
 | false=>rfl
 | true =>
  cases mayV k.star with
  | false=>rfl
  | true=>rw [br_f (by rfl),br_f (by rfl),qr (qn (by have:=h.l; omega)),qwx _ (fun f hf=>by have:=hb.ids f hf; omega) hi]; rfl
theorem qty {k:Know} {id:ByteArray} {v:Ver} {N:Nat} (h:KT k N) (hN:N≤900000):qch k id v=some (qjb k id v.r v.c):=by
 have hl:=h.l
 unfold qch
 rw [qr (qv (by omega)),qh (show qdu ⟨0,0,0,0,0,0,0,0⟩ v=some (qh2 zero8 v.r v.c) from rfl),qr (qv (by omega))]
 rw [qh (show qaM ⟨k.star,k.l++[⟨[id],qh2 zero8 v.r v.c⟩]⟩=some (plainK (qja k id v.r v.c)) from qli (k:=qja k id v.r v.c) (qlh h id v.r v.c) (by omega))]
 rfl
theorem qyn {a b:Know} {N M:Nat} (ha:KT a N) (hb:KT b M) (hn:N + M≤900000):qd1 a b=some (qi9 a b):=by
 have h1:=ha.l
 have h2:=hb.l
 have h3:=qn9 ha hb
 unfold qd1
 rw [qh (show qdK a.star b.star=some (maxV a.star b.star) from rfl),qr (qv (by omega)),qr (qv (by omega)),
  qh (qli (k:=⟨maxV a.star b.star,a.l++b.l⟩) h3 (by omega))]
 rfl
theorem qoc {k:Know} {N:Nat} (h:KT k N) (id:ByteArray) (r c:Int):KT (qjb k id r c) (N + 1):=(qlh h id r c).plain
theorem qlj {k:Know} {id:ByteArray} {r c:Int} (h:IdsOk k) (hid:id.size≤9223372036854775807):IdsOk (qjb k id r c):=qm0 (qm1 h hid)
theorem qvK {a b:Know} {N M:Nat} (ha:KT a N) (hb:KT b M):KT (qi9 a b) (N + M):=(qn9 ha hb).plain
theorem qtz {a b:Know} (ha:IdsOk a) (hb:IdsOk b):IdsOk (qi9 a b):=qm0 (qpE ha hb)
theorem qf9 {k:Know} {N:Nat} (h:KT k N) (hN:N≤900000):qaF k=some k:=by
 have:=h.l
 unfold qaF
 rw [qr (qn (by omega)),qf8 k.l [] (by simp; omega) fun f hf=>by have:=h.kb.ids f hf; omega]; rfl
theorem qAt:∀ {a b:List ByteArray},eqL a b=true→a=b
 | [],[],_=>rfl
 | x::xs,y::ys,h=>by
  rw [eqL,Bool.and_eq_true] at h
  rw [qc8.1 h.1,qAt h.2]
 | [],_::_,h=>by cases h
 | _::_,[],h=>by cases h
theorem qpK:∀ {a b:List Frag},qeW a b=true→a=b
 | [],[],_=>rfl
 | x::xs,y::ys,h=>by
  rw [qeW,Bool.and_eq_true] at h
  unfold qj0 at h
  rw [Bool.and_eq_true] at h
  obtain ⟨⟨h1,h2⟩,h3⟩:=h
  have e1:=qqS.1 h1
  have e2:=qAt h2
  cases x; cases y
  simp only at e1 e2
  rw [e1,e2,qpK h3]
 | [],_::_,h=>by cases h
 | _::_,[],h=>by cases h
theorem qvL {a b:Know} (h:qfj a b=true):a=b:=by
 unfold qfj at h
 rw [Bool.and_eq_true] at h
 have e1:=qqS.1 h.1
 have e2:=qpK h.2
 cases a; cases b
 simp only at e1 e2
 rw [e1,e2]
theorem qqX {k:Know} (h:mayK k=true):plainK k=k:=by
 unfold mayK at h
 rw [Bool.and_eq_true] at h
 exact (qvL h.1).symm
theorem qvM {k:Know}:mayK k=true↔plainK k=k∧mayV k.star=true∧∀ f∈k.l,mayF f=true:=by
 constructor
 ·intro h
  refine ⟨qqX h,?_⟩
  unfold mayK at h
  rw [Bool.and_eq_true,Bool.and_eq_true] at h
  exact ⟨h.2.1,List.all_eq_true.1 h.2.2⟩
 ·rintro ⟨h1,h2,h3⟩
  unfold mayK
  rw [h1,qj4,h2]
  exact List.all_eq_true.2 h3
end
end Go.Proofs.YtidkmoohgadjkaaGreat
set_option maxHeartbeats 4000000
namespace Go.Proofs.YtidkmoohgadjkaaGreat
open Go E
abbrev z0 (n:Int):Item:=⟨⟨#[]⟩,0,0,n,⟨#[]⟩,0,0,0,false⟩
theorem qtA (b:Bool):qme b b=true:=by rw [qsm]; simp
end Go.Proofs.YtidkmoohgadjkaaGreat
namespace Go.Proofs.YtidkmoohgadjkaaGreat
open Go E Pred
noncomputable section
open Classical
def lk (l:List Item) (id:ByteArray):Option Item:=l.find? fun x=>eqS x.id id
theorem q8 (x:Item) (l:List Item) (id:ByteArray):lk (x::l) id=if eqS x.id id=true then some x else lk l id:=by
 unfold lk; rw [List.find?_cons]; cases eqS x.id id<;>simp
theorem qlk {l:List Item} {id:ByteArray} {x:Item} (h:lk l id=some x):x∈l∧x.id=id:=⟨List.mem_of_find?_eq_some h,qc8.1 (List.find?_some (p:=fun y:Item=>eqS y.id id) h)⟩
theorem qje {l:List Item} {id:ByteArray}:lk l id=none↔∀ x∈l,eqS x.id id=false:=by
 unfold lk; rw [List.find?_eq_none]
 exact ⟨fun h x hx=>by simpa using h x hx,fun h x hx=>by simpa using h x hx⟩
theorem qjf (l m:List Item) (id:ByteArray):lk (l++m) id=(lk l id).or (lk m id):=List.find?_append
theorem qa8 {x:Item} {l:List Item}:Ris (x::l)↔(∀ y∈l,ltS x.id y.id=true)∧Ris l:=List.pairwise_cons
theorem qvN {l:List Item} {id:ByteArray} (h:∀ x∈l,ltS x.id id=true):lk l id=none:=qje.2 fun x hx=>qhd (h x hx)
theorem qjy {l:List Item} {id:ByteArray} (h:∀ x∈l,ltS id x.id=true):lk l id=none:=qje.2 fun x hx=>by rw [qcA]; exact qhd (h x hx)
theorem qtB:∀ {l:List Item} {x:Item},Ris l→x∈l→lk l x.id=some x
 | y::l,x,h,hx=>by
  rw [qa8] at h
  rw [q8]
  rcases List.mem_cons.1 hx with rfl | hx
  ·rw [if_pos (qaI _)]
  ·rw [if_neg (by rw [qhd (h.1 x hx)]; simp)]; exact qtB h.2 hx
theorem qll:∀ {l m:List Item},Ris l→Ris m→(∀ id,lk l id=lk m id)→l=m
 | [],[],_,_,_=>rfl
 | [],y::m,_,_,h=>by have:=h y.id; rw [q8,if_pos (qaI _)] at this; cases this
 | x::l,[],_,_,h=>by have:=h x.id; rw [q8,if_pos (qaI _)] at this; cases this
 | x::l,y::m,hl,hm,h=>by
  have hx:x∈y::m:=(qlk ((h x.id).symm.trans (qtB hl (List.mem_cons_self ..)))).1
  have hy:y∈x::l:=(qlk ((h y.id).trans (qtB hm (List.mem_cons_self ..)))).1
  rw [qa8] at hl hm
  have e:x=y:=by
   rcases List.mem_cons.1 hx with e | hx
   ·exact e
   ·rcases List.mem_cons.1 hy with e | hy
    ·exact e.symm
    ·have:=qfF (hl.1 y hy); rw [hm.1 x hx] at this; cases this
  subst e
  rw [qll hl.2 hm.2 fun id=>?_]
  have:=h id
  rw [q8,q8] at this
  by_cases hi:eqS x.id id=true
  ·have hi':=qc8.1 hi
   subst hi'
   rw [qjy hl.1,qjy hm.1]
  ·rw [if_neg hi,if_neg hi] at this; exact this
theorem qlm (id:ByteArray):∀ l:List Item,getI id l=match lk l id with
  | some x=>(x,true)
  | none=>(qtp,false)
 | []=>rfl
 | x::l=>by
  rw [getI,q8]
  split
  ·rfl
  ·exact qlm id l
theorem qjg {l:List Item} {id:ByteArray} {x:Item} (h:lk l id=some x):getI id l=(x,true):=by rw [qlm,h]
theorem qjh {l:List Item} {id:ByteArray} (h:lk l id=none):getI id l=(qtp,false):=by rw [qlm,h]
theorem qj6:∀ (l:List Item) (p:Item),qj5 p l=true↔Ris (p::l)
 | [],p=>⟨fun _=>qa8.2 ⟨fun y hy=>(by cases hy),List.Pairwise.nil⟩,fun _=>rfl⟩
 | x::l,p=>by
  rw [qj5,Bool.and_eq_true,qj6 l x,qa8 (x:=p),qa8 (x:=x)]
  constructor
  ·rintro ⟨h1,h2,h3⟩
   have hp:ltS p.id x.id=true:=by
    cases h:ltS p.id x.id with
    | true=>rfl
    | false =>
     cases h':ltS x.id p.id with
     | true=>rw [h'] at h1; cases h1
     | false=>rw [h',qe1 h' h,qaI] at h1; cases h1
   exact ⟨fun y hy=>by
    rcases List.mem_cons.1 hy with rfl | hy
    ·exact hp
    ·exact qfk hp (h2 y hy),h2,h3⟩
  ·rintro ⟨h1,h2,h3⟩
   have hp:=h1 x (List.mem_cons_self ..)
   refine ⟨?_,h2,h3⟩
   rw [qfF hp,qcA,qhd hp]; rfl
theorem qtC {l:List Item}:qpF l=true↔Ris l:=by
 cases l with
 | nil=>exact ⟨fun _=>.nil,fun _=>rfl⟩
 | cons x l=>exact qj6 l x
theorem qwB {i j:Nat} (h:i + j≤4000000):wr .i64 (shrI .u64 (wr .u64 (wr .i64 ((i:Int) + (j:Int)))) 1)=(((i + j) / 2:Nat):Int):=by
 have h1:wr .i64 ((i:Int) + (j:Int))=((i + j:Nat):Int):=by rw [wr64 (by omega) (by omega)]; omega
 have h2:wr .u64 ((i + j:Nat):Int)=((i + j:Nat):Int):=by
  unfold wr IntKind.wrap
  simp only [IntKind.signed,IntKind.bits]
  simp
  omega
 have h3:shrI .u64 ((i + j:Nat):Int) 1=(((i + j) / 2:Nat):Int):=by
  unfold shrI
  rw [Int.fdiv_eq_ediv_of_nonneg _ (by decide)]
  simp [IntKind.bits]
 rw [h1,h2,h3,wr64 (by omega) (by omega)]
theorem qtD {α:Type} (c:Bool) (x:Option α):br c x x=x:=by cases c<;>rfl
theorem qtE {l:List Item} (hr:Ris l) {i j:Nat} {x y:Item} (hx:l[i]?=some x) (hy:l[j]?=some y) (h:i < j):ltS x.id y.id=true:=by
 obtain ⟨hi,rfl⟩:=List.getElem?_eq_some_iff.1 hx
 obtain ⟨hj,rfl⟩:=List.getElem?_eq_some_iff.1 hy
 exact List.pairwise_iff_getElem.1 hr i j hi hj h
theorem qtF {l:List Item} {id:ByteArray} (hr:Ris l) (hn:l.length≤999990):∀ (fl i j:Nat),i≤j→j≤l.length→j - i < fl→(∀ k x,l[k]?=some x→k < i→ltS x.id id=true)→(∀ k x,l[k]?=some x→j≤k→ltS x.id id=false) →
  ∃ p,p≤l.length∧qaq l id fl (j:Int) (i:Int)=some ((p:Int),match l[p]? with | some x=>eqS x.id id | none=>false)∧(∀ k x,l[k]?=some x→k < p→ltS x.id id=true)∧(∀ k x,l[k]?=some x→p≤k→ltS x.id id=false)
 | 0,i,j,_,_,h,_,_=>by omega
 | fl + 1,i,j,hij,hj,hf,h1,h2=>by
  rw [qaq]
  by_cases hlt:i < j
  ·have hm:(i + j) / 2 < l.length:=by omega
   rw [br_t (by rw [q9]; omega),qwB (by omega),qh (qmK hm),br_f (by rw [qaI]; rfl),br_f (by rw [qaI]; rfl)]
   have hx:l[(i + j) / 2]?=some l[(i + j) / 2]:=List.getElem?_eq_getElem hm
   cases hc:ltS l[(i + j) / 2].id id with
   | true =>
    rw [br_t rfl,wrS (by omega)]
    refine qtF hr hn fl ((i + j) / 2 + 1) j (by omega) hj (by omega) (fun k x hk hki=>?_) h2
    by_cases hkm:k=(i + j) / 2
    ·subst hkm; rw [hx] at hk; injection hk with hk; rw [←hk]; exact hc
    ·exact qfk (qtE hr hk hx (by omega)) hc
   | false =>
    rw [br_f rfl,qtD]
    refine qtF hr hn fl i ((i + j) / 2) (by omega) (by omega) (by omega) h1 (fun k x hk hki=>?_)
    by_cases hkm:k=(i + j) / 2
    ·subst hkm; rw [hx] at hk; injection hk with hk; rw [←hk]; exact hc
    ·cases h:ltS x.id id with
     | false=>rfl
     | true=>have:=qfk (qtE hr hx hk (by omega)) h; rw [hc] at this; cases this
  ·obtain rfl:i=j:=by omega
   refine ⟨i,hj,?_,h1,h2⟩
   rw [br_f (by rw [qag]; omega)]
   by_cases hil:i < l.length
   ·have hx:l[i]?=some l[i]:=List.getElem?_eq_getElem hil
    rw [br_t (by rw [q9]; omega),qh (qmK hil),br_f (by rw [qaI]; rfl),br_f (by rw [qaI]; rfl),br_f (h2 i _ hx (Nat.le_refl _)),h2 i _ hx (Nat.le_refl _),hx]
    dsimp only
    cases eqS l[i].id id<;>rfl
   ·rw [br_f (by rw [qag]; omega),List.getElem?_eq_none (by omega)]
theorem qtG {l:List Item} {id:ByteArray} (hr:Ris l) (hn:l.length≤999990):∃ A B:List Item,l=A++B∧(∀ x∈A,ltS x.id id=true)∧(∀ x∈B,ltS x.id id=false)∧qdc l id=some ((A.length:Int),(lk l id).isSome):=by
 obtain ⟨p,hp,e,h1,h2⟩:=qtF hr hn qdC 0 l.length (Nat.zero_le _) (Nat.le_refl _) (by unfold qdC; omega) (fun k x _ h=>by omega) (fun k x hk h=>by rw [List.getElem?_eq_none h] at hk; cases hk) (id:=id)
 have hA:∀ x∈l.take p,ltS x.id id=true:=fun x hx=>by
  obtain ⟨k,hk⟩:=List.getElem?_of_mem hx
  rw [List.getElem?_take] at hk
  split at hk
  ·exact h1 k x hk (by omega)
  ·cases hk
 have hB:∀ x∈l.drop p,ltS x.id id=false:=fun x hx=>by
  obtain ⟨k,hk⟩:=List.getElem?_of_mem hx
  rw [List.getElem?_drop] at hk
  exact h2 _ x hk (by omega)
 refine ⟨l.take p,l.drop p,(List.take_append_drop p l).symm,hA,hB,?_⟩
 unfold qdc
 rw [show ((0:Nat):Int)=0 from rfl] at e
 rw [e,List.length_take,Nat.min_eq_left hp]
 congr 2
 have hl:lk l id=lk (l.drop p) id:=by
  conv=>lhs; rw [←List.take_append_drop p l,qjf,qvN hA]
  rfl
 rw [hl]
 cases hd:l.drop p with
 | nil =>
  have:l[p]?=none:=by have:=List.getElem?_drop (xs:=l) (i:=p) (j:=0); rw [hd] at this; simpa using this.symm
  rw [this]; rfl
 | cons x B =>
  have hx:l[p]?=some x:=by have:=List.getElem?_drop (xs:=l) (i:=p) (j:=0); rw [hd] at this; simpa using this.symm
  have hr':Ris (x::B):=by rw [←hd]; exact hr.sublist (List.drop_sublist _ _)
  rw [hx,q8]
  dsimp only
  cases hc:eqS x.id id with
  | true=>simp
  | false =>
   have hgt:∀ y∈B,ltS id y.id=true:=fun y hy=>by
    have h3:=(qa8.1 hr').1 y hy
    have h4:=hB x (by rw [hd]; exact List.mem_cons_self ..)
    exact qmL h4 h3
   rw [if_neg (by simp),qjy hgt]; rfl
theorem qji {l A B:List Item} {id:ByteArray} (hr:Ris l) (e:l=A++B) (hA:∀ x∈A,ltS x.id id=true) (hB:∀ x∈B,ltS x.id id=false) :
  (lk l id=none∧∀ x∈B,ltS id x.id=true)∨∃ x B',B=x::B'∧x.id=id∧lk l id=some x∧∀ y∈B',ltS id y.id=true:=by
 have hl:lk l id=lk B id:=by rw [e,qjf,qvN hA]; rfl
 cases B with
 | nil=>exact .inl ⟨by rw [hl]; rfl,fun x hx=>by cases hx⟩
 | cons x B =>
  have hr':Ris (x::B):=by rw [e] at hr; exact hr.sublist (List.sublist_append_right _ _)
  have hx:=hB x (List.mem_cons_self ..)
  have hgt:∀ y∈B,ltS id y.id=true:=fun y hy=>qmL hx ((qa8.1 hr').1 y hy)
  cases hc:ltS id x.id with
  | true =>
   refine .inl ⟨?_,fun y hy=>?_⟩
   ·rw [hl,qjy]
    intro y hy
    rcases List.mem_cons.1 hy with rfl | hy
    ·exact hc
    ·exact hgt y hy
   ·rcases List.mem_cons.1 hy with rfl | hy
    ·exact hc
    ·exact hgt y hy
  | false =>
   have e':=qe1 hx hc
   exact .inr ⟨x,B,rfl,e',by rw [hl,q8,if_pos (qc8.2 e')],hgt⟩
theorem qwC {l:List Item} {id:ByteArray} (hr:Ris l) (hn:l.length≤999990):qeo l id=some (getI id l):=by
 obtain ⟨A,B,e,hA,hB,hf⟩:=qtG (id:=id) hr hn
 unfold qeo
 rw [qh hf]
 rcases qji hr e hA hB with ⟨hl,_⟩ | ⟨x,B',rfl,hx,hl,_⟩
 ·rw [br_f (by rw [hl]; rfl),qjh hl]; rfl
 ·rw [br_t (by rw [hl]; rfl),qh (show atL l (A.length:Int)=some x by rw [e]; exact qee A x B'),qjg hl]
def putV (l:List Item) (x:Item):List Item:=(l.filter fun y=>ltS y.id x.id)++x::l.filter fun y=>ltS x.id y.id
def qb0 (l:List Item) (id:ByteArray):List Item:=l.filter fun y=>!eqS y.id id
theorem qgQ {l:List Item} {p:Item→Bool} {id:ByteArray} (h:∀ x,x.id=id→p x=true):lk (l.filter p) id=lk l id:=by
 induction l with
 | nil=>rfl
 | cons x l ih =>
  rw [List.filter_cons]
  by_cases hx:eqS x.id id=true
  ·rw [if_pos (h x (qc8.1 hx)),q8,q8,if_pos hx,if_pos hx]
  ·split
   ·rw [q8,q8,if_neg hx,if_neg hx,ih]
   ·rw [q8,if_neg hx,ih]
theorem qfG {l:List Item} {p:Item→Bool} {id:ByteArray} (h:∀ x,x.id=id→p x=false):lk (l.filter p) id=none :=
 qje.2 fun x hx=>qyd.2 fun e=>by have:=(List.mem_filter.1 hx).2; rw [h x e] at this; cases this
theorem qj7 (l:List Item) (x:Item) (id:ByteArray):lk (putV l x) id=if eqS x.id id=true then some x else lk l id:=by
 unfold putV
 rw [qjf,q8]
 by_cases hx:eqS x.id id=true
 ·rw [if_pos hx,if_pos hx,qfG fun y hy=>by rw [hy,←qc8.1 hx]; exact qgq _]; rfl
 ·rw [if_neg hx,if_neg hx]
  cases h1:ltS id x.id with
  | true=>rw [qgQ fun y hy=>by rw [hy]; exact h1,qfG fun y hy=>by rw [hy]; exact qfF h1]; cases lk l id<;>rfl
  | false =>
   rw [qfG fun y hy=>by rw [hy]; exact h1]
   cases h2:ltS x.id id with
   | true=>rw [qgQ fun y hy=>by rw [hy]; exact h2]; rfl
   | false=>exact absurd (qc8.2 (qe1 h2 h1)) hx
theorem qhy (l:List Item) (d id:ByteArray):lk (qb0 l d) id=if eqS d id=true then none else lk l id:=by
 unfold qb0
 by_cases hx:eqS d id=true
 ·rw [if_pos hx,qfG fun y hy=>by rw [hy,qcA,hx]; rfl]
 ·rw [if_neg hx,qgQ fun y hy=>by rw [hy,qcA]; simp at hx; rw [hx]; rfl]
theorem qln {l:List Item} (hr:Ris l) (x:Item):Ris (putV l x):=by
 unfold putV Ris
 rw [List.pairwise_append,List.pairwise_cons]
 refine ⟨hr.filter _,⟨fun y hy=>(List.mem_filter.1 hy).2,hr.filter _⟩,fun a ha b hb=>?_⟩
 have h1:=(List.mem_filter.1 ha).2
 rcases List.mem_cons.1 hb with rfl | hb
 ·exact h1
 ·exact qfk h1 (List.mem_filter.1 hb).2
theorem qen {l:List Item} (hr:Ris l) (id:ByteArray):Ris (qb0 l id):=hr.filter _
theorem qod {x:Item}:∀ (l acc:List Item),acc.length + l.length≤999990→qbi x l acc=some (acc++l.filter fun y=>ltS x.id y.id)
 | [],acc,_=>by rw [qbi]; simp
 | y::l,acc,h=>by
  rw [List.length_cons] at h
  have e:(!(ltS y.id x.id || eqS y.id x.id))=ltS x.id y.id:=by
   cases h1:ltS x.id y.id with
   | true=>rw [qfF h1,qcA,qhd h1]; rfl
   | false =>
    cases h2:ltS y.id x.id with
    | true=>rfl
    | false=>rw [qe1 h2 h1,qaI]; rfl
  rw [qbi,e,List.filter_cons]
  cases ltS x.id y.id with
  | true=>rw [br_t rfl,qr (qv (by omega)),qod l _ (by rw [List.length_append]; simp; omega)]; simp
  | false=>rw [br_f rfl,qod l _ (by omega)]; simp
theorem qoe {L:List Item} {x:Item} (hL:L.length≤400000):∀ (l acc:List Item),acc.length + l.length≤400000→qbj L x l acc=some (acc++(l.filter fun y=>ltS y.id x.id)++x::L.filter fun y=>ltS x.id y.id)
 | [],acc,h=>by
  rw [List.length_nil] at h
  rw [qbj,qr (qv (by omega)),qr (qn (by omega)),qod L _ (by rw [List.length_append]; simp; omega)]; simp
 | y::l,acc,h=>by
  rw [List.length_cons] at h
  rw [qbj,List.filter_cons]
  cases ltS y.id x.id with
  | true=>rw [br_t rfl,qr (qv (by omega)),qoe hL l _ (by rw [List.length_append]; simp; omega)]; simp
  | false=>rw [br_f rfl,qoe hL l _ (by omega)]; simp
theorem qpL {l:List Item} {x:Item} (h:l.length≤400000):qcj l x=some (putV l x):=by
 unfold qcj; rw [qr (qn (by omega)),qoe h l [] (by simpa using h)]; rfl
theorem qof {id:ByteArray}:∀ (l acc:List Item),acc.length + l.length≤999990→qaO id l acc=some (acc++qb0 l id)
 | [],acc,_=>by rw [qaO]; simp [qb0]
 | y::l,acc,h=>by
  rw [List.length_cons] at h
  rw [qaO]
  unfold qb0
  rw [List.filter_cons]
  cases eqS y.id id with
  | false=>rw [br_t (by rfl),qr (qv (by omega)),qof l _ (by rw [List.length_append]; simp; omega)]; simp [qb0]
  | true=>rw [br_f (by rfl),qof l _ (by omega)]; simp [qb0]
theorem qog {l:List Item} {id:ByteArray} (h:l.length≤999990):qci l id=some (qb0 l id):=by
 unfold qci; rw [qr (qn (by omega)),qof l [] (by simpa using h)]; rfl
theorem qwD {l:List Item} {x:Item} (hr:Ris l) (hn:l.length≤999990):qep l x=some (putV l x):=by
 obtain ⟨A,B,e,hA,hB,hf⟩:=qtG (id:=x.id) hr hn
 have hrA:Ris A:=by rw [e] at hr; exact hr.sublist (List.sublist_append_left _ _)
 have hrB:Ris B:=by rw [e] at hr; exact hr.sublist (List.sublist_append_right _ _)
 unfold qep
 rw [qh hf,qh (show qaz l=some l by unfold qaz; rw [qr (decide_eq_true (by omega))])]
 have key:∀ {B':List Item},(∀ y∈B',ltS x.id y.id=true)→Ris B'→(∀ id,eqS x.id id=false→lk B' id=lk B id)→A++x::B'=putV l x:=fun {B'} h1 h2 h3=>by
  refine qll ?_ (qln hr x) fun id=>?_
  ·unfold Ris
   rw [List.pairwise_append,List.pairwise_cons]
   refine ⟨hrA,⟨h1,h2⟩,fun a ha b hb=>?_⟩
   rcases List.mem_cons.1 hb with rfl | hb
   ·exact hA a ha
   ·exact qfk (hA a ha) (h1 b hb)
  ·rw [qj7,qjf,q8]
   by_cases hx:eqS x.id id=true
   ·rw [if_pos hx,if_pos hx,←qc8.1 hx,qvN hA]; rfl
   ·rw [if_neg hx,if_neg hx,h3 id (by simpa using hx),e,qjf]
 rcases qji hr e hA hB with ⟨hl,hgt⟩ | ⟨y,B',rfl,hy,hl,hgt⟩
 ·rw [br_f (by rw [hl]; rfl)]
  have hi:qsQ l (A.length:Int) x=some (A++x::B):=by
   unfold qsQ
   rw [qr (decide_eq_true ⟨by omega,by rw [e]; simp; omega,by omega⟩),Int.toNat_natCast,e,List.take_left,List.drop_left]
  rw [qh hi,key hgt hrB fun _ _=>rfl]
 ·rw [br_t (by rw [hl]; rfl),qh (show atL l (A.length:Int)=some y by rw [e]; exact qee A y B'),Int.toNat_natCast]
  have:l.set A.length x=A++x::B':=by rw [e]; exact qi3 A y x B'
  rw [this,key hgt (qa8.1 hrB).2 fun id hid=>by rw [q8,if_neg (by rw [hy,hid]; simp)]]
theorem qjj {l:List Item} {id:ByteArray} (hr:Ris l) (hn:l.length≤999990):qbv l id=some (qb0 l id):=by
 obtain ⟨A,B,e,hA,hB,hf⟩:=qtG (id:=id) hr hn
 have hrA:Ris A:=by rw [e] at hr; exact hr.sublist (List.sublist_append_left _ _)
 unfold qbv
 rw [qh (show qaz l=some l by unfold qaz; rw [qr (decide_eq_true (by omega))]),qh hf]
 rcases qji hr e hA hB with ⟨hl,hgt⟩ | ⟨y,B',rfl,hy,hl,hgt⟩
 ·rw [br_f (by rw [hl]; rfl)]
  congr 1
  unfold qb0
  rw [List.filter_eq_self.2]
  intro y hy
  rw [qje.1 hl y hy]; rfl
 ·rw [br_t (by rw [hl]; rfl)]
  have hi:qsR l (A.length:Int)=some (A++B'):=by
   unfold qsR
   rw [qr (decide_eq_true ⟨by omega,by rw [e]; simp; omega,by omega⟩),Int.toNat_natCast,e,List.take_left]
   congr 2
   rw [←List.drop_drop,List.drop_left]; rfl
  rw [qh hi]
  congr 1
  refine qll ?_ (qen hr id) fun id'=>?_
  ·rw [e] at hr
   exact hr.sublist (List.Sublist.append_left (List.sublist_cons_self _ _) _)
  ·rw [qhy,qjf]
   by_cases hx:eqS id id'=true
   ·rw [if_pos hx,←qc8.1 hx,qvN hA,qjy hgt]; rfl
   ·rw [if_neg hx,e,qjf,q8,if_neg (by rw [hy]; exact hx)]
end
end Go.Proofs.YtidkmoohgadjkaaGreat
namespace Go.Proofs.YtidkmoohgadjkaaGreat
open Go E Pred
noncomputable section
open Classical
def qtH:Option Item→Option Item→Option Item
 | none,p=>p
 | some x,none=>some x
 | some x,some y=>if qak y x=true then some y else some x
theorem qfm (o:Option Item):qtH o none=o:=by cases o<;>rfl
def qbe:Nat→List Item→List Item→List Item
 | 0,_,_=>[]
 | _ + 1,[],b=>b
 | _ + 1,x::a,[]=>x::a
 | n + 1,x::a,y::b=>if ltS x.id y.id=true then x::qbe n a (y::b) else if ltS y.id x.id=true then y::qbe n (x::a) b else if qak y x=true then qbe n a (y::b) else qbe n (x::a) b
def qaT (a b:List Item):List Item:=qbe (a.length + b.length + 1) a b
theorem qtI (a b:Item):ltI 0 (qej a b)=qak a b:=by
 unfold qej
 cases qak a b with
 | true=>rfl
 | false =>
  cases qak b a<;>rfl
theorem qtJ:∀ (n fl:Nat) (a out b:List Item),a.length + b.length < n→n≤fl→out.length + a.length + b.length≤999990→qar fl a out b=some (out++qbe n a b)
 | 0,_,_,_,_,h,_,_=>by omega
 | n + 1,0,_,_,_,_,h,_=>by omega
 | n + 1,fl + 1,[],out,b,h,hf,hl=>by
  rw [qar,br_f (by rfl),qr (qv (by simpa using by simp at hl; omega)),qr (qv (by simp at hl ⊢; omega)),qbe]; simp
 | n + 1,fl + 1,x::a,out,[],h,hf,hl=>by
  rw [qar,br_t (by rw [q9,List.length_cons]; omega),br_f (by rfl),qr (qv (by simp at hl ⊢; omega)),qr (qv (by simp at hl ⊢; omega)),qbe]; simp
 | n + 1,fl + 1,x::a,out,y::b,h,hf,hl=>by
  have l1:leI 1 ((x::a).length:Int)=true:=by rw [qa5,List.length_cons]; omega
  have l2:leI 1 ((y::b).length:Int)=true:=by rw [qa5,List.length_cons]; omega
  have i1:=fun o=>qtJ n fl a o (y::b) (by simp at h ⊢; omega) (by omega)
  have i2:=fun o=>qtJ n fl (x::a) o b (by simp at h ⊢; omega) (by omega)
  rw [qar,br_t (by rw [q9,List.length_cons]; omega),br_t (by rw [q9,List.length_cons]; omega),qh (show atL (x::a) 0=some x from rfl),qh (show atL (y::b) 0=some y from rfl),qbe]
  cases h1:ltS x.id y.id with
  | true =>
   rw [br_t rfl,qr (qv (by simp at hl; omega)),qr l1,if_pos rfl]
   rw [show (x::a).drop 1=a from rfl,i1 _ (by simp at hl ⊢; omega)]; simp
  | false =>
   rw [br_f rfl,if_neg (by simp)]
   cases h2:ltS y.id x.id with
   | true =>
    have:(!(false || eqS x.id y.id))=true:=by rw [qcA,qhd h2]; rfl
    rw [br_t this,qr (qv (by simp at hl; omega)),qr l2,if_pos rfl]
    rw [show (y::b).drop 1=b from rfl,i2 _ (by simp at hl ⊢; omega)]; simp
   | false =>
    have:(!(false || eqS x.id y.id))=false:=by rw [qc8.2 (qe1 h1 h2)]; rfl
    rw [br_f this,if_neg (by simp),qh (show qbP y x=some (qej y x) from rfl),qtI]
    cases qak y x with
    | true=>rw [br_t rfl,qr l1,if_pos rfl]; exact i1 _ (by simp at hl ⊢; omega)
    | false=>rw [br_f rfl,qr l2,if_neg (by simp)]; exact i2 _ (by simp at hl ⊢; omega)
theorem qyo {a b:List Item} (h:a.length + b.length≤999980):qeC a b=some (qaT a b):=by
 unfold qeC qaT
 rw [qtJ (a.length + b.length + 1) qdC a [] b (by omega) (by unfold qdC; omega) (by simp; omega)]; rfl
theorem qeM:∀ (n:Nat) (a b:List Item) (z:Item),z∈qbe n a b→z∈a∨z∈b
 | 0,_,_,_,h=>by rw [qbe] at h; cases h
 | n + 1,[],b,z,h=>by rw [qbe] at h; exact .inr h
 | n + 1,x::a,[],z,h=>by rw [qbe] at h; exact .inl h
 | n + 1,x::a,y::b,z,h=>by
  rw [qbe] at h
  split at h
  ·rcases List.mem_cons.1 h with rfl | h
   ·exact .inl (List.mem_cons_self ..)
   ·exact (qeM n a (y::b) z h).imp (List.mem_cons_of_mem _) id
  ·split at h
   ·rcases List.mem_cons.1 h with rfl | h
    ·exact .inr (List.mem_cons_self ..)
    ·exact (qeM n (x::a) b z h).imp id (List.mem_cons_of_mem _)
   ·split at h
    ·exact (qeM n a (y::b) z h).imp (List.mem_cons_of_mem _) id
    ·exact (qeM n (x::a) b z h).imp id (List.mem_cons_of_mem _)
theorem qga:∀ (n:Nat) {a b:List Item},Ris a→Ris b→Ris (qbe n a b)
 | 0,_,_,_,_=>by rw [qbe]; exact .nil
 | n + 1,[],b,_,hb=>by rw [qbe]; exact hb
 | n + 1,x::a,[],ha,_=>by rw [qbe]; exact ha
 | n + 1,x::a,y::b,ha,hb=>by
  have ha':=qa8.1 ha
  have hb':=qa8.1 hb
  rw [qbe]
  split
  ·rename_i h1
   refine qa8.2 ⟨fun z hz=>?_,qga n ha'.2 hb⟩
   rcases qeM n _ _ z hz with hz | hz
   ·exact ha'.1 z hz
   ·rcases List.mem_cons.1 hz with rfl | hz
    ·exact h1
    ·exact qfk h1 (hb'.1 z hz)
  ·split
   ·rename_i h2
    refine qa8.2 ⟨fun z hz=>?_,qga n ha hb'.2⟩
    rcases qeM n _ _ z hz with hz | hz
    ·rcases List.mem_cons.1 hz with rfl | hz
     ·exact h2
     ·exact qfk h2 (ha'.1 z hz)
    ·exact hb'.1 z hz
   ·split
    ·exact qga n ha'.2 hb
    ·exact qga n ha hb'.2
theorem qlo:∀ (n:Nat) {a b:List Item} (id:ByteArray),a.length + b.length < n→Ris a→Ris b→lk (qbe n a b) id=qtH (lk a id) (lk b id)
 | 0,_,_,_,h,_,_=>by omega
 | n + 1,[],b,id,_,_,_=>by rw [qbe]; rfl
 | n + 1,x::a,[],id,_,_,_=>by rw [qbe]; exact (qfm _).symm
 | n + 1,x::a,y::b,id,h,ha,hb=>by
  have ha':=qa8.1 ha
  have hb':=qa8.1 hb
  have i1:=qlo n id (a:=a) (b:=y::b) (by simp at h ⊢; omega) ha'.2 hb
  have i2:=qlo n id (a:=x::a) (b:=b) (by simp at h ⊢; omega) ha hb'.2
  rw [qbe]
  by_cases h1:ltS x.id y.id=true
  ·rw [if_pos h1,q8,q8 x a,i1]
   by_cases hx:eqS x.id id=true
   ·have hn:lk (y::b) id=none:=qjy fun z hz=>by
     rw [←qc8.1 hx]
     rcases List.mem_cons.1 hz with rfl | hz
     ·exact h1
     ·exact qfk h1 (hb'.1 z hz)
    rw [if_pos hx,if_pos hx,hn]; rfl
   ·rw [if_neg hx,if_neg hx]
  ·rw [if_neg h1]
   by_cases h2:ltS y.id x.id=true
   ·rw [if_pos h2,q8,q8 y b,i2]
    by_cases hy:eqS y.id id=true
    ·have hn:lk (x::a) id=none:=qjy fun z hz=>by
      rw [←qc8.1 hy]
      rcases List.mem_cons.1 hz with rfl | hz
      ·exact h2
      ·exact qfk h2 (ha'.1 z hz)
     rw [if_pos hy,if_pos hy,hn]; rfl
    ·rw [if_neg hy,if_neg hy]
   ·rw [if_neg h2]
    simp only [Bool.not_eq_true] at h1 h2
    have e:=qe1 h1 h2
    by_cases hx:eqS x.id id=true
    ·have hy:eqS y.id id=true:=by rw [←e]; exact hx
     have na:lk a id=none:=qjy fun z hz=>by rw [←qc8.1 hx]; exact ha'.1 z hz
     have nb:lk b id=none:=qjy fun z hz=>by rw [←qc8.1 hy]; exact hb'.1 z hz
     have ex:lk (x::a) id=some x:=by rw [q8,if_pos hx]
     have ey:lk (y::b) id=some y:=by rw [q8,if_pos hy]
     rw [na,ey] at i1
     rw [nb,ex] at i2
     rw [ex,ey]
     show _=if qak y x=true then some y else some x
     split
     ·exact i1
     ·exact i2
    ·have hy:¬ eqS y.id id=true:=by rw [←e]; exact hx
     have ex:lk (x::a) id=lk a id:=by rw [q8,if_neg hx]
     have ey:lk (y::b) id=lk b id:=by rw [q8,if_neg hy]
     rw [ey] at i1
     rw [ex] at i2
     rw [ex,ey]
     split
     ·exact i1
     ·exact i2
theorem qlp {a b:List Item} (ha:Ris a) (hb:Ris b):Ris (qaT a b):=qga _ ha hb
theorem qtK {a b:List Item} (ha:Ris a) (hb:Ris b) (id:ByteArray):lk (qaT a b) id=qtH (lk a id) (lk b id):=qlo _ id (by omega) ha hb
def qjk (acc:List Item) (y:Item):List Item:=match lk acc y.id with
 | none=>putV acc y
 | some h=>if qak y h=true then putV acc y else acc
theorem qlq {l:List Item} (hr:Ris l) (x:Item):(putV l x).length≤l.length + 1:=by
 have h1:((l.filter fun y=>ltS y.id x.id)++l.filter fun y=>ltS x.id y.id).length≤l.length:=by
  rw [List.length_append]
  induction l with
  | nil=>simp
  | cons y l ih =>
   have:=ih (qa8.1 hr).2
   rw [List.filter_cons,List.filter_cons]
   cases h:ltS y.id x.id with
   | true=>rw [qfF h]; simp; omega
   | false=>cases ltS x.id y.id<;>simp<;>omega
 unfold putV
 rw [List.length_append] at h1 ⊢
 rw [List.length_cons]; omega
theorem qpM {acc:List Item} (h:Ris acc) (y:Item):Ris (qjk acc y):=by
 unfold qjk
 split
 ·exact qln h y
 ·split
  ·exact qln h y
  ·exact h
theorem qvO {acc:List Item} (h:Ris acc) (y:Item):(qjk acc y).length≤acc.length + 1:=by
 unfold qjk
 split
 ·exact qlq h y
 ·split
  ·exact qlq h y
  ·omega
theorem qyp (acc:List Item) (y:Item) (id:ByteArray):lk (qjk acc y) id=qtH (lk acc id) (if eqS y.id id=true then some y else none):=by
 unfold qjk
 by_cases hy:eqS y.id id=true
 ·rw [if_pos hy,←qc8.1 hy]
  cases h:lk acc y.id with
  | none=>dsimp only; rw [qj7,if_pos (qaI _)]; rfl
  | some x =>
   dsimp only
   show _=if qak y x=true then some y else some x
   split
   ·rw [qj7,if_pos (qaI _)]
   ·exact h
 ·rw [if_neg hy,qfm]
  split
  ·rw [qj7,if_neg hy]
  ·split
   ·rw [qj7,if_neg hy]
   ·rfl
theorem qpN:∀ (b acc:List Item),Ris acc→Ris (b.foldl qjk acc)
 | [],_,h=>h
 | y::b,acc,h=>qpN b _ (qpM h y)
theorem qtL (id:ByteArray):∀ (b acc:List Item),Ris b→lk (b.foldl qjk acc) id=qtH (lk acc id) (lk b id)
 | [],acc,_=>(qfm _).symm
 | y::b,acc,h=>by
  have h':=qa8.1 h
  rw [List.foldl_cons,qtL id b _ h'.2,qyp,q8]
  by_cases hy:eqS y.id id=true
  ·rw [if_pos hy,if_pos hy,qjy (l:=b) fun z hz=>by rw [←qc8.1 hy]; exact h'.1 z hz,qfm]
  ·rw [if_neg hy,if_neg hy,qfm]
theorem qtM:∀ (b acc:List Item),Ris acc→acc.length + b.length≤400000→qaA b acc=some (b.foldl qjk acc)
 | [],acc,_,_=>by rw [qaA]; rfl
 | y::b,acc,hr,h=>by
  rw [List.length_cons] at h
  have ih:=qtM b (qjk acc y) (qpM hr y) (by have:=qvO hr y; omega)
  rw [qaA,qh (qtq (by omega)),List.foldl_cons,←ih]
  unfold qjk
  cases hk:lk acc y.id with
  | none=>rw [qjh hk,br_t (by rfl),qh (qpL (by omega))]
  | some x =>
   rw [qjg hk,br_f (by rfl),qh (show qan y (x,true).1=some (qak y x) from rfl)]
   dsimp only
   cases qak y x with
   | true=>rw [br_t rfl,qh (qpL (by omega)),if_pos rfl]
   | false=>rw [br_f rfl,if_neg (by simp)]
theorem qtN {a b:List Item} (ha:Ris a) (hb:Ris b) (h:a.length + b.length≤400000):qdl a b=some (qaT a b):=by
 unfold qdl
 rw [qr (qv (by omega)),qr (qn (by omega)),qtM b a ha h]
 congr 1
 exact qll (qpN b a ha) (qlp ha hb) fun id=>by rw [qtL id b a hb,qtK ha hb]
theorem qtO {l:List Item} (h:qcQ l=true):Ris l:=by
 unfold qcQ at h; rw [Bool.and_eq_true] at h; exact qtC.1 h.2
theorem qtP {l:List Item} (h:qcQ l=true):∀ x∈l,mayI x=true:=by
 unfold qcQ at h; rw [Bool.and_eq_true,List.all_eq_true] at h; exact h.1
theorem qwE {l:List Item} (h:Ris l) (h':∀ x∈l,mayI x=true):qcQ l=true:=by
 unfold qcQ; rw [Bool.and_eq_true,List.all_eq_true]; exact ⟨h',qtC.2 h⟩
theorem qj8:∀ (xs pre ys L:List Item),L=pre++ys→xs.length=ys.length→(∀ p∈xs.zip ys,qh1 p.1 p.2=true)→qam L xs (pre.length:Int)=some true
 | [],pre,[],L,_,_,_=>by rw [qam]
 | x::xs,pre,y::ys,L,h,hl,hs=>by
  have ih:=qj8 xs (pre++[y]) ys L (by rw [h]; simp) (by simpa using hl) fun p hp=>hs p (by simp [hp])
  rw [List.length_append] at ih
  rw [qam,qh (show atL L (pre.length:Int)=some y by rw [h]; exact qee pre y ys),qh (show qdk x y=some (qh1 x y) from rfl),hs (x,y) (by simp),br_f (by rfl)]
  exact ih
 | [],_,_::_,_,_,h,_=>by simp at h
 | _::_,_,[],_,_,h,_=>by simp at h
end
end Go.Proofs.YtidkmoohgadjkaaGreat
set_option maxHeartbeats 0
namespace Go.Proofs.YtidkmoohgadjkaaGreat
open Go E
noncomputable section
open Pred
end
end Go.Proofs.YtidkmoohgadjkaaGreat
namespace Go.Proofs.YtidkmoohgadjkaaGreat
open Go E Pred
noncomputable section
open Classical
def qAu (x:Item):Prop:=eqFl .f64 x.re x.re=true∧eqFl .f64 x.im x.im=true
theorem qgt {x:Item} (h:qAu x):qh1 x x=true:=by
 unfold qh1
 rw [h.1,h.2,qgg,qgg,qtA]
 simp [eqI]
theorem qlr {x:Item} (h:mayI x=true):qAu x:=by
 unfold mayI at h
 simp only [Bool.and_eq_true] at h
 obtain ⟨_,_,_,hp⟩:=h
 obtain ⟨⟨w1,_⟩,⟨w2,_⟩⟩:=qdY hp
 exact ⟨w1.self,w2.self⟩
theorem qyq {l:List Item} {x y:Item} (h:y∈putV l x):y=x∨y∈l:=by
 unfold putV at h
 rcases List.mem_append.1 h with h | h
 ·exact .inr (List.mem_filter.1 h).1
 ·rcases List.mem_cons.1 h with rfl | h
  ·exact .inl rfl
  ·exact .inr (List.mem_filter.1 h).1
theorem qls {l:List Item} {id:ByteArray} {y:Item} (h:y∈qb0 l id):y∈l:=(List.mem_filter.1 h).1
theorem qvP {a b:List Item} {y:Item} (h:y∈qaT a b):y∈a∨y∈b:=qeM _ a b y h
end
end Go.Proofs.YtidkmoohgadjkaaGreat
set_option maxHeartbeats 0
namespace Go.Proofs.YtidkmoohgadjkaaGreat
open Go E
noncomputable section
open Pred
variable {X:Task→Prop} (hX:qk X) {Q:A→List Blk→Prop}
include hX
end
end Go.Proofs.YtidkmoohgadjkaaGreat
namespace Go.Proofs.YtidkmoohgadjkaaGreat
open Go E Pred
noncomputable section
open Classical
def Dj (a b:List Item):Prop:=∀ id,(lk a id).isSome=true→lk b id=none
theorem qtQ (x:Item) (l:List Item):lk (x::l) x.id=some x:=by rw [q8,if_pos (qaI _)]
theorem qyr {x:Item} {l:List Item} {id:ByteArray} (h:(lk l id).isSome=true):(lk (x::l) id).isSome=true:=by
 rw [q8]; split
 ·rfl
 ·exact h
theorem qm7 {x:Item} {l:List Item} {id:ByteArray} (h:lk (x::l) id=none):lk l id=none:=by
 rw [q8] at h
 split at h
 ·cases h
 ·exact h
theorem qgb:∀ (n:Nat) {a b:List Item},a.length + b.length < n→Dj a b→(qbe n a b).length=a.length + b.length
 | 0,_,_,h,_=>by omega
 | n + 1,[],b,_,_=>by rw [qbe]; simp
 | n + 1,x::a,[],_,_=>by rw [qbe]; simp
 | n + 1,x::a,y::b,h,hd=>by
  rw [qbe]
  simp only [List.length_cons] at h ⊢
  have hxy:x.id≠y.id:=fun e=>by
   have:=hd x.id (by rw [qtQ]; rfl)
   rw [e,qtQ] at this; cases this
  split
  ·rw [List.length_cons,qgb n (by simp only [List.length_cons]; omega) fun id hi=>hd id (qyr hi)]; simp only [List.length_cons]; omega
  ·split
   ·rw [List.length_cons,qgb n (by simp only [List.length_cons]; omega) fun id hi=>qm7 (hd id hi)]; simp only [List.length_cons]; omega
   ·rename_i h1 h2
    simp only [Bool.not_eq_true] at h1 h2
    exact absurd (qe1 h1 h2) hxy
theorem qoh {a b:List Item} (h:Dj a b):(qaT a b).length=a.length + b.length:=qgb _ (by omega) h
def qvQ (a b:List Item):Bool:=b.all fun y=>(lk a y.id).isNone
theorem qtR {a b:List Item}:qvQ a b=true↔Dj a b:=by
 unfold qvQ
 rw [List.all_eq_true]
 constructor
 ·intro h id hi
  cases hb:lk b id with
  | none=>rfl
  | some y =>
   obtain ⟨hy,rfl⟩:=qlk hb
   have:=h y hy
   rw [Option.isNone_iff_eq_none] at this
   rw [this] at hi; cases hi
 ·intro h y hy
  rw [Option.isNone_iff_eq_none]
  cases ha:lk a y.id with
  | none=>rfl
  | some x =>
   have:=h y.id (by rw [ha]; rfl)
   exact absurd (qje.1 this y hy) (by rw [qaI]; simp)
def qfn (s:State) (l:List Item) (b:Bool):Bool:=l.all fun i=>(hasP s.f i == b)&&(hasK s.k i.id i.vr i.vc&&leI i.stamp s.clock)
def qe2 (k:Know) (r n:Int):Bool:=ltI n (k.star.at r) || k.l.any fun f=>ltI n (f.vec.at r)
def qys (x:State):Bool:=inN x.r 1 8&&(decide (x.store.length + x.out.length≤40)&&(inN x.count 0 1000&&(inN x.clock 0 1000000&&inN x.epoch 0 1000000)))
def mayS (x:State):Bool:=mayP x.f&&(qcQ x.store&&(qcQ x.out&&(mayK x.k&&(qys x&&(qvQ x.store x.out&&(qfn x x.store true&&(qfn x x.out false&&!qe2 x.k x.r x.count)))))))
structure StB (x:State):Prop where
 f:x.f.Ok
 fs:x.f.size≤1000
 store:∀ i∈x.store,i.Ok
 out:∀ i∈x.out,i.Ok
 sl:x.store.length≤1000
 ol:x.out.length≤1000
 k:KT x.k 90000
 ids:IdsOk x.k
theorem StOk.b {x:State} (h:StOk x) (hk:KB x.k 60):StB x:=⟨h.f,h.fs,h.store,h.out,by have:=h.sl; omega,by have:=h.ol; omega,hk.kt.mono (by decide),h.ids⟩
theorem qvR (a b:Bool):(@Bool.rec (fun _=>Bool) b (!b) a)=!(a == b):=by cases a<;>cases b<;>rfl
theorem qpO {x:State} (h:StB x) (b:Bool):∀ l:List Item,(∀ i∈l,i.Ok)→qa4 x b l=some (qfn x l b)
 | [],_=>by rw [qa4]; rfl
 | i::l,hl=>by
  have ih:=qpO h b l fun j hj=>hl j (List.mem_cons_of_mem _ hj)
  rw [qa4,qh (qm4 h.f (hl i (List.mem_cons_self ..))),qh (qpg (by decide) h.k.kb),ih,qvR]
  unfold qfn
  rw [List.all_cons]
  have e:ltI x.clock i.stamp=!leI i.stamp x.clock:=by
   cases h1:leI i.stamp x.clock with
   | true=>rw [qa5] at h1; exact qag.2 h1
   | false=>rw [qhi] at h1; exact q9.2 h1
  rw [e]
  generalize (hasP x.f i == b)=p
  generalize hasK x.k i.id _ _=q
  generalize leI i.stamp x.clock=r
  cases p<;>cases q<;>cases r<;>rfl
theorem qpP {x:State} (h:StB x) (b:Bool) {l:List Item} (hl:∀ i∈l,i.Ok) (hn:l.length≤1000):qcK x l b=some (qfn x l b):=by
 unfold qcK; rw [qr (qn (by omega)),qpO h b l hl]
theorem qm8 (r n:Int):∀ l:List Frag,qaH r n l=some (l.any fun f=>ltI n (f.vec.at r))
 | []=>by rw [qaH]; rfl
 | f::l=>by
  rw [qaH,qh (show qcG f.vec r=some (f.vec.at r) from rfl),qm8 r n l,List.any_cons]
  cases ltI n (f.vec.at r)<;>rfl
theorem qm9 {k:Know} {N:Nat} (h:KT k N) (hN:N≤1000000000) (r n:Int):qbR k r n=some (qe2 k r n):=by
 unfold qbR qe2
 rw [qh (show qcG k.star r=some (k.star.at r) from rfl),qr (qn (by have:=h.l; omega)),qm8]
 cases ltI n (k.star.at r)<;>rfl
theorem ltle (a b:Int):leI a b=!ltI b a:=by
 cases h:ltI b a with
 | true=>rw [q9] at h; exact qhi.2 h
 | false=>rw [qag] at h; exact qa5.2 h
end
end Go.Proofs.YtidkmoohgadjkaaGreat
namespace Go.Proofs.YtidkmoohgadjkaaGreat
open Go E Pred
noncomputable section
open Classical
theorem qvS (id:ByteArray) (l:List Item):(getI id l).2=(lk l id).isSome:=by
 rw [qlm]; cases lk l id<;>rfl
theorem qwF {x:State} (h:StB x):∀ l:List Item,qck x l=some (l.all (fun y=>(lk x.store y.id).isNone)&&(qfn x x.store true&&(qfn x x.out false&&!qe2 x.k x.r x.count)))
 | []=>by
  rw [qck,qh (qpP h true h.store h.sl),qh (qpP h false h.out h.ol),qh (qm9 h.k (by decide) x.r x.count)]
  cases qfn x x.store true<;>cases qfn x x.out false<;>rfl
 | y::l=>by
  rw [qck,qh (qtq (by have:=h.sl; omega)),qvS,qwF h l,List.all_cons]
  cases lk x.store y.id<;>rfl
theorem ltn (a b:Int):ltI a b=!leI b a:=by
 rw [ltle b a,Bool.not_not]
theorem qwG {x:State} (h:StB x):qdN x=some (mayS x):=by
 have hs:=h.sl
 have ho:=h.ol
 unfold qdN
 rw [qh (qwz h.f h.fs),qh (qm3 (by omega) h.store),qh (qm3 (by omega) h.out),qh (qob h.k (by decide) h.ids),qr (qn (by omega)),qwF h]
 have e:ltI 40 (wr .i64 ((x.store.length:Int) + (x.out.length:Int)))=!decide (x.store.length + x.out.length≤40):=by
  rw [wr64 (by omega) (by omega)]
  by_cases hl:x.store.length + x.out.length≤40
  ·rw [decide_eq_true hl]; exact qag.2 (by omega)
  ·rw [decide_eq_false hl]; exact q9.2 (by omega)
 rw [e]
 unfold mayS qys inN qvQ
 simp only [ltn]
 generalize mayP x.f=b1
 generalize qcQ x.store=b2
 generalize qcQ x.out=b3
 generalize mayK x.k=b4
 generalize leI 1 x.r=c1
 generalize leI x.r 8=c2
 generalize decide (x.store.length + x.out.length≤40)=c3
 generalize leI 0 x.count=c4
 generalize leI x.count 1000=c5
 generalize leI 0 x.clock=c6
 generalize leI x.clock 1000000=c7
 generalize leI 0 x.epoch=c8
 generalize leI x.epoch 1000000=c9
 cases b1 with
 | false=>rfl
 | true=>cases b2 with
  | false=>rfl
  | true=>cases b3 with
   | false=>rfl
   | true=>cases b4 with
    | false=>rfl
    | true=>cases c1 with
     | false=>rfl
     | true=>cases c2 with
      | false=>rfl
      | true=>cases c3 with
       | false=>rfl
       | true=>cases c4 with
        | false=>rfl
        | true=>cases c5 with
         | false=>rfl
         | true=>cases c6 with
          | false=>rfl
          | true=>cases c7 with
           | false=>rfl
           | true=>cases c8 with
            | false=>rfl
            | true=>cases c9 with
             | false=>rfl
             | true=>rfl
structure SOk (x:State) (N:Nat):Prop where
 f:x.f.Ok
 fs:x.f.size≤1000
 rs:Ris x.store
 ro:Ris x.out
 le:x.store.length + x.out.length≤40
 dj:Dj x.store x.out
 is:∀ i∈x.store,i.Ok∧mayI i=true
 io:∀ i∈x.out,i.Ok∧mayI i=true
 kt:KT x.k N
 ids:IdsOk x.k
 cn:0≤x.count∧x.count≤1000
 cl:0≤x.clock∧x.clock≤1000000
 ep:0≤x.epoch∧x.epoch≤1000000
theorem qhz {n a b:Int}:inN n a b=true↔a≤n∧n≤b:=by unfold inN; rw [Bool.and_eq_true,qa5,qa5]
theorem qlt {x:State}:mayS x=true↔mayP x.f=true∧qcQ x.store=true∧qcQ x.out=true∧mayK x.k=true∧(1≤x.r∧x.r≤8)∧x.store.length + x.out.length≤40∧(0≤x.count∧x.count≤1000)∧(0≤x.clock∧x.clock≤1000000)∧(0≤x.epoch∧x.epoch≤1000000)∧Dj x.store x.out∧qfn x x.store true=true∧qfn x x.out false=true∧qe2 x.k x.r x.count=false:=by
 unfold mayS qys
 simp only [Bool.and_eq_true,qhz,decide_eq_true_eq,qtR,Bool.not_eq_true']
 constructor
 ·rintro ⟨a,b,c,d,⟨e,f,g,h,i⟩,j,k,l,m⟩; exact ⟨a,b,c,d,e,f,g,h,i,j,k,l,m⟩
 ·rintro ⟨a,b,c,d,e,f,g,h,i,j,k,l,m⟩; exact ⟨a,b,c,d,⟨e,f,g,h,i⟩,j,k,l,m⟩
theorem qtS {x:State} {N:Nat} (h:mayS x=true) (hf:x.f.Ok) (hs:∀ i∈x.store,i.Ok) (ho:∀ i∈x.out,i.Ok) (hk:KT x.k N) (hi:IdsOk x.k):SOk x N:=by
 obtain ⟨a,b,c,d,e,f,g,h,i,j,k,l,m⟩:=qlt.1 h
 have hsz:=(qg5.1 a).1
 exact ⟨hf,by omega,qtO b,qtO c,f,j,fun y hy=>⟨hs y hy,qtP b y hy⟩,fun y hy=>⟨ho y hy,qtP c y hy⟩,hk,hi,g,h,i⟩
theorem qfo {α:Type} {l:List α} (h:l.length≤1000000):qaz l=some l:=by unfold qaz; rw [qr (decide_eq_true h)]
theorem qgR {x:State} {N:Nat} (h:SOk x N) (hN:N≤900000):qby x=some x:=by
 have:=h.le
 unfold qby
 rw [qh (qhx ql9 (by have:=h.fs; unfold ql9; omega) h.fs),qh (qf9 h.kt hN),qh (qfo (by omega)),qh (qfo (by omega))]
theorem SOk.mono {x:State} {N M:Nat} (h:SOk x N) (hm:N≤M):SOk x M:={ h with kt:=h.kt.mono hm }
end
end Go.Proofs.YtidkmoohgadjkaaGreat
namespace Go.Proofs.YtidkmoohgadjkaaGreat
open Go E Pred
noncomputable section
open Classical
def errO (n:Int):Option Int:=if n=0 then none else some n
def newB (s:State) (x:Item):Bool:=match lk (qaT s.store s.out) x.id with
 | none=>true
 | some y=>qak x y
def qoi (s:State) (x:Item):Bool:=newB s x&&(hasP s.f x&&((lk (qaT s.store s.out) x.id).isNone&&decide (s.store.length + s.out.length=40)))
def qj9 (s:State) (x:Item):State:=⟨s.r,s.f,s.store,s.out,qjb s.k x.id x.vr x.vc,s.count,maxI s.clock x.stamp,s.epoch⟩
def qjz (s:State) (x:Item):State:=⟨s.r,s.f,if hasP s.f x=true then putV (qb0 s.store x.id) x else qb0 s.store x.id,qb0 s.out x.id,qjb s.k x.id x.vr x.vc,s.count,maxI s.clock x.stamp,s.epoch⟩
def badB (s:State) (x:Item):Bool:=!mayI x || (eqI x.vr s.r&&ltI s.count x.vc)
def qdD (s:State) (x:Item):State × Int :=
 if badB s x=true then (s,1) else if hasK s.k x.id x.vr x.vc=true then (s,0) else if qoi s x=true then (s,4) else if newB s x=true then (qjz s x,0) else (qj9 s x,0)
def qtT (s:State) (id:ByteArray) (or oc:Int):Bool:=match lk s.store id with
 | none=>false
 | some y=>eqI y.vr or&&eqI y.vc oc
def qh4 (s:State) (id:ByteArray) (or oc nr nc:Int):State :=
 if qtT s id or oc=true then ⟨s.r,s.f,qb0 s.store id,s.out,if verB nr nc=true∧(!eqI nr s.r || leI nc s.count)=true then qjb s.k id nr nc else s.k,s.count,s.clock,s.epoch⟩ else s
theorem qtU {s:State} {x:Item} (h:lk (qaT s.store s.out) x.id=none):newB s x=true:=by unfold newB; rw [h]
theorem qwH {s:State} {x y:Item} (h:lk (qaT s.store s.out) x.id=some y):newB s x=qak x y:=by unfold newB; rw [h]
theorem qtV {s:State} {x:Item} (h:lk (qaT s.store s.out) x.id=none):qoi s x=(hasP s.f x&&decide (s.store.length + s.out.length=40)):=by unfold qoi; rw [qtU h,h]; rfl
theorem qtW {s:State} {x y:Item} (h:lk (qaT s.store s.out) x.id=some y):qoi s x=false:=by unfold qoi; rw [h]; simp
theorem qtX {s:State} {id:ByteArray} {or oc:Int} (h:lk s.store id=none):qtT s id or oc=false:=by unfold qtT; rw [h]
theorem qtY {s:State} {id:ByteArray} {or oc:Int} {y:Item} (h:lk s.store id=some y):qtT s id or oc=(eqI y.vr or&&eqI y.vc oc):=by unfold qtT; rw [h]
theorem qAv {x:Item} (h:x.Ok):qfa x=some (mayI x):=by unfold qfa; rw [qr (decide_eq_true h)]
theorem qyt {x:Item} (h:x.Ok):qb5 x=some (mayI x):=by unfold qb5; rw [qr (decide_eq_true h)]
theorem qim {x:State} {N:Nat} (h:SOk x N):(qaT x.store x.out).length=x.store.length + x.out.length:=qoh h.dj
theorem qeY (l:List Item) (id:ByteArray):(qb0 l id).length≤l.length:=List.length_filter_le ..
theorem qgS:∀ {l:List Item} {id:ByteArray},(lk l id).isSome=true→(qb0 l id).length < l.length
 | [],_,h=>by cases h
 | x::l,id,h=>by
  rw [q8] at h
  unfold qb0
  rw [List.filter_cons]
  by_cases hx:eqS x.id id=true
  ·rw [if_neg (by rw [hx]; simp)]
   have:=qeY l id
   unfold qb0 at this
   rw [List.length_cons]; omega
  ·rw [if_neg hx] at h
   have:=qgS h
   unfold qb0 at this
   split<;>simp only [List.length_cons]<;>omega
theorem qyu {s:State} {x:Item} {N:Nat} (h:SOk s N) (hN:N≤90000) (hx:x.Ok):qd5 x s (hasP s.f x)=some (qjz s x,none):=by
 have hl:=h.le
 have:=qeY s.store x.id
 unfold qd5 qjz
 rw [qh (qoa h.kt (by omega) h.ids hx.id),qh (qjj h.rs (by omega)),qh (qjj h.ro (by omega)),qh (qwD (qen h.rs _) (by omega))]
 cases hasP s.f x<;>rfl
theorem qyv {s:State} {x:Item} {N:Nat} {n:Int} (h:SOk s N) (hN:N≤90000) (hx:x.Ok):qd6 x s (hasP s.f x) n=some (if ltI 0 n=true then qjz s x else qj9 s x,none):=by
 have hl:=h.le
 have:=qeY s.store x.id
 unfold qd6
 rw [qh (qoa h.kt (by omega) h.ids hx.id),qh (qjj h.rs (by omega)),qh (qjj h.ro (by omega)),qh (qwD (qen h.rs _) (by omega))]
 cases ltI 0 n with
 | false=>rfl
 | true=>unfold qjz; cases hasP s.f x<;>rfl
theorem qtZ {s:State} {x:Item} {N:Nat} (h:SOk s N) (hN:N≤90000) (hx:x.Ok) (hb:badB s x=false):qd7 x s=some ((qdD s x).1,errO (qdD s x).2):=by
 have hl:=h.le
 have hlen:=qim h
 unfold qd7 qdD
 rw [hb,if_neg (by simp),qh (qAo (N:=N) (by omega) h.kt.kb)]
 cases hk:hasK s.k x.id x.vr x.vc with
 | true=>rfl
 | false =>
  rw [if_neg (by simp),br_f rfl,qh (qyo (by omega)),qh (qwC (qlp h.rs h.ro) (by omega)),qh (qB2 h.f hx)]
  cases hg:lk (qaT s.store s.out) x.id with
  | none =>
   rw [qjh hg,hlen,qtV hg,qtU hg]
   have e:leI 40 ((s.store.length + s.out.length:Nat):Int)=decide (s.store.length + s.out.length=40):=by
    by_cases h40:s.store.length + s.out.length=40
    ·rw [decide_eq_true h40]; exact qa5.2 (by omega)
    ·rw [decide_eq_false h40]; exact qhi.2 (by omega)
   rw [e,br_t (by rfl),qyu h hN hx]
   cases hasP s.f x with
   | false=>rfl
   | true=>cases decide (s.store.length + s.out.length=40)<;>rfl
  | some y =>
   rw [qjg hg,br_f (by rfl),qtW hg,qwH hg]
   rw [qh (show qbP x y=some (qej x y) from rfl),qyv h hN hx,qtI,qtD]
   cases qak x y<;>rfl
theorem qt0 {s:State} {x:Item} {N:Nat} (h:SOk s N) (hN:N≤90000) (hx:x.Ok):qeF s x=some ((qdD s x).1,errO (qdD s x).2):=by
 have key:badB s x=true→(qdD s x).1=s∧errO (qdD s x).2=some 1:=fun hb=>by unfold qdD; rw [if_pos hb]; exact ⟨rfl,rfl⟩
 unfold qeF
 rw [qh (qgR h (by omega)),qh (qAv hx)]
 cases hm:mayI x with
 | false =>
  have:=key (by unfold badB; rw [hm]; rfl)
  rw [this.1,this.2]; rfl
 | true =>
  cases h1:eqI x.vr s.r with
  | false=>exact qtZ h hN hx (by unfold badB; rw [hm,h1]; rfl)
  | true =>
   cases h2:ltI s.count x.vc with
   | true =>
    have:=key (by unfold badB; rw [hm,h1,h2]; rfl)
    rw [this.1,this.2]; rfl
   | false=>exact qtZ h hN hx (by unfold badB; rw [hm,h1,h2]; rfl)
theorem qB4 {s:State} {x:Item} {b:Bool} (h1:Ris s.store) (h2:Ris s.out) (h3:s.store.length + s.out.length≤100) (hf:s.f.Ok) (hx:x.Ok):qd9 s x b=some ⟨s.r,s.f,if hasP s.f x=true then putV (qb0 s.store x.id) x else qb0 s.store x.id,if hasP s.f x=false∧b=true then putV (qb0 s.out x.id) x else qb0 s.out x.id,s.k,s.count,s.clock,s.epoch⟩:=by
 have e1:=qeY s.store x.id
 have e2:=qeY s.out x.id
 unfold qd9
 rw [qh (qog (by omega)),qh (qog (by omega)),qh (qm4 hf hx),qh (qpL (by omega)),qh (qpL (by omega))]
 cases hasP s.f x<;>cases b<;>rfl
theorem qpQ {s:State} {x:Item} {N:Nat} {v:Bool} {c:Int} (h:SOk s N) (hx:x.Ok):qdz s x v (qjb s.k x.id x.vr x.vc) c=some (if v=true then ⟨s.r,s.f,s.store,s.out,qjb s.k x.id x.vr x.vc,s.count,c,s.epoch⟩ else ⟨s.r,s.f,if hasP s.f x=true then putV (qb0 s.store x.id) x else qb0 s.store x.id,qb0 s.out x.id,qjb s.k x.id x.vr x.vc,s.count,c,s.epoch⟩,0):=by
 have hl:=h.le
 unfold qdz
 rw [qh (qB4 (s:=⟨s.r,s.f,s.store,s.out,qjb s.k x.id x.vr x.vc,s.count,c,s.epoch⟩) (b:=false) h.rs h.ro (by simp only []; omega) h.f hx)]
 cases v with
 | true=>rfl
 | false=>simp only [Bool.false_eq_true,and_false,if_false]; rfl
theorem qvT {s:State} {x:Item} {N:Nat} {v:Bool} (h:SOk s N) (hN:N≤90000) (hx:x.Ok):qbC s x v=some (if v=true then qj9 s x else qjz s x,0):=by
 unfold qbC
 rw [qh (qty h.kt (by omega)),qpQ h hx,qpQ h hx]
 unfold qj9 qjz maxI
 by_cases hc:x.stamp > s.clock
 ·rw [br_t (q9.2 hc)]; simp only [if_pos hc]
 ·rw [br_f (qag.2 (by omega))]; simp only [if_neg hc]
theorem qyw {s:State} {id:ByteArray} {N:Nat} (h:SOk s N):qcZ s id=some (getI id (qaT s.store s.out)):=by
 have hl:=h.le
 have hlen:=qim h
 unfold qcZ
 rw [qh (qtN h.rs h.ro (by omega)),qh (qtq (by omega))]
theorem qpR {s:State} {x:Item} {N:Nat} (h:SOk s N) (hN:N≤90000) (hx:x.Ok) (hb:badB s x=false):qdA s x=some (qdD s x):=by
 have hl:=h.le
 have hw:eqI (wr .i64 ((s.store.length:Int) + (s.out.length:Int))) 40=decide (s.store.length + s.out.length=40):=by
  rw [wr64 (by omega) (by omega)]
  by_cases h40:s.store.length + s.out.length=40
  ·rw [decide_eq_true h40]; exact qdB.2 (by omega)
  ·rw [decide_eq_false h40]; exact qav.2 (by omega)
 have j2:∀ (p:Item × Bool) (v:Bool),qcN s x p v=some (if (!v&&(hasP s.f x&&(!p.2&&decide (s.store.length + s.out.length=40))))=true then (s,4) else (if v=true then qj9 s x else qjz s x,0)):=fun p v=>by
  unfold qcN
  rw [qh (qm4 h.f hx),hw,qvT h hN hx]
  cases v<;>cases hasP s.f x<;>cases p.2<;>cases decide (s.store.length + s.out.length=40)<;>rfl
 unfold qdA qdD
 rw [hb,if_neg (by simp),qh (qpg (N:=N) (by omega) h.kt.kb)]
 cases hk:hasK s.k x.id x.vr x.vc with
 | true=>rfl
 | false =>
  rw [if_neg (by simp),br_f rfl,qh (qyw h),j2,j2]
  cases hg:lk (qaT s.store s.out) x.id with
  | none =>
   rw [qjh hg,qtV hg,qtU hg]
   cases hasP s.f x<;>cases decide (s.store.length + s.out.length=40)<;>rfl
  | some y =>
   rw [qjg hg,qtW hg,qwH hg]
   rw [qh (show qan x y=some (qak x y) from rfl)]
   cases qak x y<;>cases hasP s.f x<;>cases decide (s.store.length + s.out.length=40)<;>rfl
theorem qvU {s:State} {x:Item} {N:Nat} (h:SOk s N) (hN:N≤90000) (hx:x.Ok):qea s x=some (qdD s x):=by
 have key:badB s x=true→qdD s x=(s,1):=fun hb=>by unfold qdD; rw [if_pos hb]
 unfold qea
 rw [qh (qyt hx)]
 cases hm:mayI x with
 | false=>rw [key (by unfold badB; rw [hm]; rfl)]; rfl
 | true =>
  cases h1:eqI x.vr s.r with
  | false=>exact qpR h hN hx (by unfold badB; rw [hm,h1]; rfl)
  | true =>
   cases h2:ltI s.count x.vc with
   | true=>rw [key (by unfold badB; rw [hm,h1,h2]; rfl)]; rfl
   | false=>exact qpR h hN hx (by unfold badB; rw [hm,h1,h2]; rfl)
theorem qt1 {s:State} {id:ByteArray} {o n:Ver} {N:Nat} (h:SOk s N) (hN:N≤90000) (hid:id.size≤9223372036854775807):qeG s id o n=some (qh4 s id o.r o.c n.r n.c):=by
 have hl:=h.le
 unfold qeG qh4
 rw [qh (qgR h (by omega)),qh (qwC h.rs (by omega))]
 cases hg:lk s.store id with
 | none=>rw [qjh hg,qtX hg]; rfl
 | some y =>
  rw [qjg hg,qtY hg]
  have e:andB (eqI y.vr o.r) (andB (eqI y.vc o.c) true)=(eqI y.vr o.r&&eqI y.vc o.c):=by unfold andB; rw [Bool.and_true]
  rw [br_f (by rfl),e]
  cases hv:(eqI y.vr o.r&&eqI y.vc o.c) with
  | false=>rfl
  | true =>
   rw [br_f (by rfl),qh (qjj h.rs (by omega)),qh (qoa h.kt (by omega) h.ids hid),if_pos rfl]
   unfold verB inN
   cases leI 1 n.r with
   | false=>simp [br]
   | true=>cases leI n.r 8 with
    | false=>simp [br]
    | true=>cases leI 1 n.c with
     | false=>simp [br]
     | true=>cases leI n.c 1000 with
      | false=>simp [br]
      | true=>cases eqI n.r s.r<;>cases leI n.c s.count<;>simp [br]
theorem qpS {s:State} {id:ByteArray} {o n:Ver} {N:Nat} (h:SOk s N) (hN:N≤90000):qdp s id o n=some (qh4 s id o.r o.c n.r n.c):=by
 have hl:=h.le
 unfold qdp qh4
 rw [qh (qtq (by omega))]
 cases hg:lk s.store id with
 | none=>rw [qjh hg,qtX hg]; rfl
 | some y =>
  rw [qjg hg,qtY hg]
  have e:andB (eqI y.vr o.r) (andB (eqI y.vc o.c) true)=(eqI y.vr o.r&&eqI y.vc o.c):=by unfold andB; rw [Bool.and_true]
  rw [br_f (by rfl),e]
  cases hv:(eqI y.vr o.r&&eqI y.vc o.c) with
  | false=>rfl
  | true =>
   rw [br_f (by rfl),qh (qog (by omega)),qh (show qdL n=some (verB n.r n.c) from rfl),qh (qty h.kt (by omega)),if_pos rfl]
   cases verB n.r n.c<;>cases eqI n.r s.r<;>cases leI n.c s.count<;>simp [br]
theorem qyx {s:State} {x:Item} {N:Nat} (h:SOk s N) (hx:x.Ok) (hm:mayI x=true) (hfull:hasP s.f x=true→(lk (qaT s.store s.out) x.id).isNone=true→s.store.length + s.out.length≠40):SOk (qjz s x) (N + 1):=by
 have hl:=h.le
 have e1:=qeY s.store x.id
 have e2:=qeY s.out x.id
 have hst:inN x.stamp 1 1000000=true:=by unfold mayI at hm; simp only [Bool.and_eq_true] at hm; exact hm.2.2.1.1
 rw [qhz] at hst
 have hcl:0≤maxI s.clock x.stamp∧maxI s.clock x.stamp≤1000000:=by have:=h.cl; unfold maxI; split<;>omega
 have kt:=qoc h.kt x.id x.vr x.vc
 have ids:=qlj (r:=x.vr) (c:=x.vc) h.ids hx.id
 have md:∀ i∈qb0 s.store x.id,i.Ok∧mayI i=true:=fun i hi=>h.is i (qls hi)
 have mo:∀ i∈qb0 s.out x.id,i.Ok∧mayI i=true:=fun i hi=>h.io i (qls hi)
 unfold qjz
 by_cases hp:hasP s.f x=true
 ·rw [if_pos hp]
  have e3:=qlq (qen h.rs x.id) x
  refine ⟨h.f,h.fs,qln (qen h.rs _) x,qen h.ro _,?_,fun id hid=>?_,fun i hi=>?_,mo,kt,ids,h.cn,hcl,h.ep⟩
  ·show (putV (qb0 s.store x.id) x).length + (qb0 s.out x.id).length≤40
   cases hg:lk (qaT s.store s.out) x.id with
   | none=>have:=hfull hp (by rw [hg]; rfl); omega
   | some y =>
    rw [qtK h.rs h.ro] at hg
    cases h1:lk s.store x.id with
    | some z=>have:=qgS (l:=s.store) (id:=x.id) (by rw [h1]; rfl); omega
    | none =>
     rw [h1] at hg
     have:=qgS (l:=s.out) (id:=x.id) (by rw [show lk s.out x.id=some y from hg]; rfl)
     omega
  ·show lk (qb0 s.out x.id) id=none
   rw [qhy]
   split
   ·rfl
   ·rename_i hne
    have hid':(lk (putV (qb0 s.store x.id) x) id).isSome=true:=hid
    rw [qj7,if_neg hne,qhy,if_neg hne] at hid'
    exact h.dj id hid'
  ·rcases qyq hi with rfl | hi
   ·exact ⟨hx,hm⟩
   ·exact md i hi
 ·rw [if_neg hp]
  refine ⟨h.f,h.fs,qen h.rs _,qen h.ro _,by simp only []; omega,fun id hid=>?_,md,mo,kt,ids,h.cn,hcl,h.ep⟩
  show lk (qb0 s.out x.id) id=none
  rw [qhy]
  split
  ·rfl
  ·rename_i hne
   have hid':(lk (qb0 s.store x.id) id).isSome=true:=hid
   rw [qhy,if_neg hne] at hid'
   exact h.dj id hid'
theorem qvV {s:State} {x:Item} {N:Nat} (h:SOk s N) (hx:x.Ok) (hm:mayI x=true):SOk (qj9 s x) (N + 1):=by
 have hst:inN x.stamp 1 1000000=true:=by unfold mayI at hm; simp only [Bool.and_eq_true] at hm; exact hm.2.2.1.1
 rw [qhz] at hst
 exact ⟨h.f,h.fs,h.rs,h.ro,h.le,h.dj,h.is,h.io,qoc h.kt x.id x.vr x.vc,qlj h.ids hx.id,h.cn,by have:=h.cl; show 0≤maxI s.clock x.stamp∧maxI s.clock x.stamp≤1000000; unfold maxI; split<;>omega,h.ep⟩
theorem qoj {s:State} {x:Item} {N:Nat} (h:SOk s N) (hx:x.Ok):SOk (qdD s x).1 (N + 1):=by
 unfold qdD
 by_cases hb:badB s x=true
 ·rw [if_pos hb]; exact h.mono (by omega)
 ·rw [if_neg hb]
  have hm:mayI x=true:=by
   unfold badB at hb
   cases hm:mayI x with
   | true=>rfl
   | false=>rw [hm] at hb; exact absurd rfl hb
  by_cases hk:hasK s.k x.id x.vr x.vc=true
  ·rw [if_pos hk]; exact h.mono (by omega)
  ·rw [if_neg hk]
   by_cases hf:qoi s x=true
   ·rw [if_pos hf]; exact h.mono (by omega)
   ·rw [if_neg hf]
    by_cases hn:newB s x=true
    ·rw [if_pos hn]
     refine qyx h hx hm fun h1 h2 h3=>hf ?_
     unfold qoi; rw [hn,h1,h2,decide_eq_true h3]; rfl
    ·rw [if_neg hn]; exact qvV h hx hm
theorem qhA {s:State} {id:ByteArray} {or oc nr nc:Int} {N:Nat} (h:SOk s N) (hid:id.size≤9223372036854775807):SOk (qh4 s id or oc nr nc) (N + 1):=by
 have hl:=h.le
 have e1:=qeY s.store id
 unfold qh4
 split
 ·refine ⟨h.f,h.fs,qen h.rs _,h.ro,by simp only []; omega,fun i hi=>?_,fun i hi=>h.is i (qls hi),h.io,?_,?_,h.cn,h.cl,h.ep⟩
  ·have hi':(lk (qb0 s.store id) i).isSome=true:=hi
   rw [qhy] at hi'
   split at hi'
   ·cases hi'
   ·exact h.dj i hi'
  ·show KT (if _ then _ else _) _
   split
   ·exact qoc h.kt ..
   ·exact h.kt.mono (by omega)
  ·show IdsOk (if _ then _ else _)
   split
   ·exact qlj h.ids hid
   ·exact h.ids
 ·exact h.mono (by omega)
end
end Go.Proofs.YtidkmoohgadjkaaGreat
namespace Go.Proofs.YtidkmoohgadjkaaGreat
open Go E Pred
noncomputable section
open Classical
def newS (r:Int) (f:Pred):State:=⟨r,f,[],[],⟨zero8,[]⟩,0,0,0⟩
section
variable {s:State} {id kind:ByteArray} {num:Int} {re im:Nat} {N:Nat} (h:SOk s N) (hN:N≤90000) (hr:1≤s.r∧s.r≤8) (h1:id.size≤9223372036854775807)
include h hN hr h1
end
end
end Go.Proofs.YtidkmoohgadjkaaGreat
set_option maxHeartbeats 0
namespace Go.Proofs.YtidkmoohgadjkaaGreat
open Go E
noncomputable section
open Pred
def qef (p0:Option Int):Option (Int) :=
  (opt p0 (fun en =>
  (br (eqI en 1)
   (some 1)
   (br (eqI en 2)
    (some 2)
    (br (eqI en 3)
     (some 3)
     (br (eqI en 4)
      (some 4)
      (br (eqI en 5)
       (some 5)
       (br (eqI en 6)
        (some 6)
        (br (eqI en 7)
         (some 7)
         (br (eqI en 8)
          (some 8)
          (br (eqI en 9)
           (some 9)
           (br (eqI en 10)
            (some 10)
            (some (-1)))))))))))))
  (some 0))
def qeg (p0:Int) (p1:Int):Option (Int) :=
 (chk (!eqI p1 0)
  (br (ltI (qp1 p0 p1) 0)
   (some (wr .i64 ((qp1 p0 p1) + p1)))
   (some (qp1 p0 p1))))
variable {X:Task→Prop} (hX:qk X) {Q:A→List Blk→Prop}
include hX
theorem qhZ  {p0:Option Int} {r:Int} (h:qef p0=some r) (hQ:Q (iv r) []):X (.call 36 [errA 159 p0] [] Q):=by
  have K:=fun a (e:some a=some r)=>qm (f:=fun y=>iv y) (g:=fun y=>[]) e hQ
  unfold qef at h
  cases p0 with
  | none =>
    replace h:=qz0 h
    refine qb hX Tryz.func36 rfl rfl ?_
    conv=>whnf
    repeat((first|refine dw ?_);conv=>whnf)
    exact K _ h
  | some en =>
    replace h:=qz1 h
    refine qb hX Tryz.func36 rfl rfl ?_
    conv=>whnf
    repeat((first|refine dw ?_);conv=>whnf)
    refine qa hX ?_
    conv=>whnf
    repeat((first|refine dw ?_);conv=>whnf)
    revert h
    refine brk (fun c1 h=>?_) (fun c1 h=>?_)
    ·conv=>whnf
     repeat((first|refine dw ?_|refine bct c1 ?_);conv=>whnf)
     exact K _ h
    ·conv=>whnf
     repeat((first|refine dw ?_|refine bcf c1 ?_);conv=>whnf)
     refine qa hX ?_
     conv=>whnf
     repeat((first|refine dw ?_);conv=>whnf)
     revert h
     refine brk (fun c2 h=>?_) (fun c2 h=>?_)
     ·conv=>whnf
      repeat((first|refine dw ?_|refine bct c2 ?_);conv=>whnf)
      exact K _ h
     ·conv=>whnf
      repeat((first|refine dw ?_|refine bcf c2 ?_);conv=>whnf)
      refine qa hX ?_
      conv=>whnf
      repeat((first|refine dw ?_);conv=>whnf)
      revert h
      refine brk (fun c3 h=>?_) (fun c3 h=>?_)
      ·conv=>whnf
       repeat((first|refine dw ?_|refine bct c3 ?_);conv=>whnf)
       exact K _ h
      ·conv=>whnf
       repeat((first|refine dw ?_|refine bcf c3 ?_);conv=>whnf)
       refine qa hX ?_
       conv=>whnf
       repeat((first|refine dw ?_);conv=>whnf)
       revert h
       refine brk (fun c4 h=>?_) (fun c4 h=>?_)
       ·conv=>whnf
        repeat((first|refine dw ?_|refine bct c4 ?_);conv=>whnf)
        exact K _ h
       ·conv=>whnf
        repeat((first|refine dw ?_|refine bcf c4 ?_);conv=>whnf)
        refine qa hX ?_
        conv=>whnf
        repeat((first|refine dw ?_);conv=>whnf)
        revert h
        refine brk (fun c5 h=>?_) (fun c5 h=>?_)
        ·conv=>whnf
         repeat((first|refine dw ?_|refine bct c5 ?_);conv=>whnf)
         exact K _ h
        ·conv=>whnf
         repeat((first|refine dw ?_|refine bcf c5 ?_);conv=>whnf)
         refine qa hX ?_
         conv=>whnf
         repeat((first|refine dw ?_);conv=>whnf)
         revert h
         refine brk (fun c6 h=>?_) (fun c6 h=>?_)
         ·conv=>whnf
          repeat((first|refine dw ?_|refine bct c6 ?_);conv=>whnf)
          exact K _ h
         ·conv=>whnf
          repeat((first|refine dw ?_|refine bcf c6 ?_);conv=>whnf)
          refine qa hX ?_
          conv=>whnf
          repeat((first|refine dw ?_);conv=>whnf)
          revert h
          refine brk (fun c7 h=>?_) (fun c7 h=>?_)
          ·conv=>whnf
           repeat((first|refine dw ?_|refine bct c7 ?_);conv=>whnf)
           exact K _ h
          ·conv=>whnf
           repeat((first|refine dw ?_|refine bcf c7 ?_);conv=>whnf)
           refine qa hX ?_
           conv=>whnf
           repeat((first|refine dw ?_);conv=>whnf)
           revert h
           refine brk (fun c8 h=>?_) (fun c8 h=>?_)
           ·conv=>whnf
            repeat((first|refine dw ?_|refine bct c8 ?_);conv=>whnf)
            exact K _ h
           ·conv=>whnf
            repeat((first|refine dw ?_|refine bcf c8 ?_);conv=>whnf)
            refine qa hX ?_
            conv=>whnf
            repeat((first|refine dw ?_);conv=>whnf)
            revert h
            refine brk (fun c9 h=>?_) (fun c9 h=>?_)
            ·conv=>whnf
             repeat((first|refine dw ?_|refine bct c9 ?_);conv=>whnf)
             exact K _ h
            ·conv=>whnf
             repeat((first|refine dw ?_|refine bcf c9 ?_);conv=>whnf)
             refine qa hX ?_
             conv=>whnf
             repeat((first|refine dw ?_);conv=>whnf)
             revert h
             refine brk (fun c10 h=>?_) (fun c10 h=>?_)
             ·conv=>whnf
              repeat((first|refine dw ?_|refine bct c10 ?_);conv=>whnf)
              exact K _ h
             ·conv=>whnf
              repeat((first|refine dw ?_|refine bcf c10 ?_);conv=>whnf)
              refine qa hX ?_
              conv=>whnf
              repeat((first|refine dw ?_);conv=>whnf)
              exact K _ h
theorem qna  {p0:Int} {p1:Int} {r:Int} (h:qeg p0 p1=some r) (hQ:Q (iv r) []):X (.call 48 [iv p0,iv p1] [] Q):=by
  have K:=fun a (e:some a=some r)=>qm (f:=fun y=>iv y) (g:=fun y=>[]) e hQ
  unfold qeg at h
  refine qb hX Tryz.func48 rfl rfl ?_
  revert h
  refine chkk fun c1 h=>?_
  conv=>whnf
  repeat((first|refine dw ?_|refine bcf (nb c1) ?_);conv=>whnf)
  revert h
  refine brk (fun c2 h=>?_) (fun c2 h=>?_)
  ·conv=>whnf
   repeat((first|refine dw ?_|refine bct c2 ?_);conv=>whnf)
   exact K _ h
  ·conv=>whnf
   repeat((first|refine dw ?_|refine bcf c2 ?_);conv=>whnf)
   exact K _ h
end
end Go.Proofs.YtidkmoohgadjkaaGreat
set_option maxHeartbeats 0
namespace Go.Proofs.YtidkmoohgadjkaaGreat
open Go E
noncomputable section
open Pred
variable {X:Task→Prop} (hX:qk X) {Q:A→List Blk→Prop}
include hX
end
end Go.Proofs.YtidkmoohgadjkaaGreat
namespace Go.Proofs.YtidkmoohgadjkaaGreat
open Go E Pred
noncomputable section
open Classical
def qAw:Know:=⟨zero8,[]⟩
theorem qlu {s:State} {N:Nat} (h:SOk s N):∀ i∈qaT s.store s.out,i.Ok∧mayI i=true:=fun i hi=>(qvP hi).elim (h.is i) (h.io i)
theorem kt0:KT qAw 0:=⟨Nat.le_refl _,Nat.le_refl _⟩
theorem ids0:IdsOk qAw:=fun f hf=>by cases hf
theorem qka {l:List Item} (hn:l.length≤1000000000) (h:∀ x∈l,qh1 x x=true):qaL l l=some true:=by
 unfold qaL
 rw [qdB.2 rfl,br_f (by rfl),qr (qn hn)]
 have:=qj8 l [] l l rfl rfl fun p hp=>by
  obtain ⟨i,hi⟩:=List.getElem?_of_mem hp
  rw [List.getElem?_zip_eq_some] at hi
  have e:p.1=p.2:=by have:=hi.1.symm.trans hi.2; injection this
  rw [←e]
  exact h p.1 (List.mem_of_getElem? hi.1)
 exact this
theorem qyy {s:State} {N:Nat} (h:SOk s N) (hN:N≤90000) (hf:qei s.f s.f=true):qcx s s=some true:=by
 have hl:=h.le
 unfold qcx
 rw [qE,qE,qE,qE,qh (qn2 h.f),hf,qh (qka (by omega) fun x hx=>qgt (qlr (h.is x hx).2)),qh (qka (by omega) fun x hx=>qgt (qlr (h.io x hx).2)),qh (qi4 (N:=N) (by omega) h.kt.kb),qj4]
 rfl
theorem qAx {n:Int} (h:0≤n∧n≤10):qef (errO n)=some n:=by
 obtain ⟨h1,h2⟩:=h
 have:n=0∨n=1∨n=2∨n=3∨n=4∨n=5∨n=6∨n=7∨n=8∨n=9∨n=10:=by omega
 rcases this with rfl | rfl | rfl | rfl | rfl | rfl | rfl | rfl | rfl | rfl | rfl<;>rfl
structure Deed9.Ok (d:Deed9):Prop where
 id:d.id.size≤9223372036854775807
 kind:d.kind.size≤9223372036854775807
 num : -9223372036854775808≤d.num∧d.num≤9223372036854775807
 f:d.f.Ok
end
end Go.Proofs.YtidkmoohgadjkaaGreat
namespace Go.Proofs.YtidkmoohgadjkaaGreat
open Go E Pred
noncomputable section
open Classical
def qok:Pred:=.mk 1 ⟨#[]⟩ 0 0 0 []
theorem qyz:qok.Ok:=by
 unfold qok Pred.Ok
 exact ⟨by decide,by decide,by decide,by decide,by unfold Pred.Oks; trivial⟩
theorem qt2:qok.size≤1000:=by unfold qok; rw [qx8,qgZ]; decide
theorem qyA {r:Int} {f:Pred} (hf:f.Ok) (hs:f.size≤1000):SOk (newS r f) 0 :=
 ⟨hf,hs,.nil,.nil,by show 0 + 0≤40; decide,fun id h=>rfl,fun i hi=>(by cases hi),fun i hi=>(by cases hi),kt0,ids0,by show (0:Int)≤0∧(0:Int)≤1000; decide,by show (0:Int)≤0∧(0:Int)≤1000000; decide,by show (0:Int)≤0∧(0:Int)≤1000000; decide⟩
theorem qB5 {a b:Int} (ha:a=0∨a=1) (hb:b=0∨b=1):eqI (wr .i64 (a * b)) 0=true∨(a=1∧b=1):=by
 rcases ha with rfl | rfl
 ·left; rw [Int.zero_mul]; rfl
 ·rcases hb with rfl | rfl
  ·left; rfl
  ·exact .inr ⟨rfl,rfl⟩
theorem qAy {f:Pred} (h:mayP f=true):qei f f=true:=qjT (qg5.1 h).2.2
end
end Go.Proofs.YtidkmoohgadjkaaGreat
set_option maxHeartbeats 0
namespace Go.Proofs.YtidkmoohgadjkaaGreat
open Go E
noncomputable section
open Pred
variable {X:Task→Prop} (hX:qk X) {Q:A→List Blk→Prop}
include hX
end
end Go.Proofs.YtidkmoohgadjkaaGreat
namespace Go.Proofs.YtidkmoohgadjkaaGreat
open Go E Pred
noncomputable section
open Classical
theorem qAz (s:State) (x:Item):(qdD s x).1.f=s.f:=by
 unfold qdD
 repeat' split
 all_goals rfl
theorem qAA (s:State) (x:Item):(qdD s x).1.r=s.r:=by
 unfold qdD
 repeat' split
 all_goals rfl
theorem qwI (s:State) (id:ByteArray) (a b c d:Int):(qh4 s id a b c d).f=s.f:=by unfold qh4; split<;>rfl
theorem qwJ (s:State) (id:ByteArray) (a b c d:Int):(qh4 s id a b c d).r=s.r:=by unfold qh4; split<;>rfl
structure Deed10.Ok (d:Deed10):Prop where
 x:d.x.Ok
 d:d.d.Ok
end
end Go.Proofs.YtidkmoohgadjkaaGreat
namespace Go.Proofs.YtidkmoohgadjkaaGreat
open Go E Pred
noncomputable section
open Classical
structure VBd (v:V8) (b:Int→Int):Prop where
 lo:∀ q,0≤v.at q
 hi:∀ q,v.at q≤b q
structure KBd (k:Know) (b:Int→Int):Prop where
 s:VBd k.star b
 v:∀ f∈k.l,VBd f.vec b
 i:∀ f∈k.l, ∀ x∈f.ids,lettersB x 1=true
theorem KBd.nn {k:Know} {b:Int→Int} (h:KBd k b) (q:Int):0≤b q:=by have:=h.s.lo q; have:=h.s.hi q; omega
theorem KBd.mono {k:Know} {b d:Int→Int} (h:KBd k b) (hb:∀ q,b q≤d q):KBd k d :=
 ⟨⟨h.s.lo,fun q=>Int.le_trans (h.s.hi q) (hb q)⟩,fun f hf=>⟨(h.v f hf).lo,fun q=>Int.le_trans ((h.v f hf).hi q) (hb q)⟩,h.i⟩
def bq (r n:Int) (q:Int):Int:=if q=r then n else 1000
theorem qyB {v:V8}:mayV v=true↔∀ q,0≤v.at q∧v.at q≤1000:=by
 unfold mayV
 rw [decide_eq_true_eq]
 constructor
 ·intro h q
  rcases r8 q with h' | rfl | rfl | rfl | rfl | rfl | rfl | rfl | rfl
  ·have e:v.at q=0:=by unfold V8.at; repeat (rw [if_neg (by omega)])
   rw [e]; exact ⟨by omega,by omega⟩
  ·exact h.1
  ·exact h.2.1
  ·exact h.2.2.1
  ·exact h.2.2.2.1
  ·exact h.2.2.2.2.1
  ·exact h.2.2.2.2.2.1
  ·exact h.2.2.2.2.2.2.1
  ·exact h.2.2.2.2.2.2.2
 ·intro h
  exact ⟨h 1,h 2,h 3,h 4,h 5,h 6,h 7,h 8⟩
theorem qAB {k:Know} {r n:Int} (hn:n≤1000) (hp:plainK k=k) (h:KBd k (bq r n)):mayK k=true∧qe2 k r n=false:=by
 have key:∀ v:V8,VBd v (bq r n)→mayV v=true∧v.at r≤n:=fun v hv=>by
  constructor
  ·refine qyB.2 fun q=>⟨hv.lo q,?_⟩
   have:=hv.hi q
   unfold bq at this
   split at this<;>omega
  ·have:=hv.hi r
   unfold bq at this
   rwa [if_pos rfl] at this
 constructor
 ·refine qvM.2 ⟨hp,(key _ h.s).1,fun f hf=>?_⟩
  unfold mayF
  rw [(key _ (h.v f hf)).1,Bool.true_and]
  exact List.all_eq_true.2 fun x hx=>h.i f hf x hx
 ·unfold qe2
  rw [Bool.or_eq_false_iff,qag,List.any_eq_false]
  refine ⟨by have:=(key _ h.s).2; omega,fun f hf=>?_⟩
  rw [q9]
  have:=(key _ (h.v f hf)).2
  omega
def StI (x:State) (b:Bool) (i:Item):Prop:=hasP x.f i=b∧hasK x.k i.id i.vr i.vc=true∧i.stamp≤x.clock
theorem qnb {x:State} {l:List Item} {b:Bool}:qfn x l b=true↔∀ i∈l,StI x b i:=by
 unfold qfn
 rw [List.all_eq_true]
 constructor
 ·intro h i hi
  have:=h i hi
  rw [Bool.and_eq_true,Bool.and_eq_true,qa5,beq_iff_eq] at this
  exact this
 ·intro h i hi
  obtain ⟨h1,h2,h3⟩:=h i hi
  rw [Bool.and_eq_true,Bool.and_eq_true,qa5,beq_iff_eq]
  exact ⟨h1,h2,h3⟩
structure MOk (x:State) (N:Nat):Prop where
 ok:SOk x N
 p:mayP x.f=true
 r:1≤x.r∧x.r≤8
 pl:plainK x.k=x.k
 kb:KBd x.k (bq x.r x.count)
 i:∀ y∈x.store,StI x true y
 o:∀ y∈x.out,StI x false y
theorem MOk.may {x:State} {N:Nat} (h:MOk x N):mayS x=true:=by
 have hk:=qAB h.ok.cn.2 h.pl h.kb
 exact qlt.2 ⟨h.p,qwE h.ok.rs fun y hy=>(h.ok.is y hy).2,qwE h.ok.ro fun y hy=>(h.ok.io y hy).2,hk.1,h.r,h.ok.le,h.ok.cn,h.ok.cl,h.ok.ep,h.ok.dj,qnb.2 h.i,qnb.2 h.o,hk.2⟩
theorem MOk.mono {x:State} {N M:Nat} (h:MOk x N) (hm:N≤M):MOk x M:=⟨h.ok.mono hm,h.p,h.r,h.pl,h.kb,h.i,h.o⟩
end
end Go.Proofs.YtidkmoohgadjkaaGreat
namespace Go.Proofs.YtidkmoohgadjkaaGreat
open Go E Pred
noncomputable section
open Classical
def RisI (l:List Int):Prop:=l.Pairwise (· < ·)
theorem qjl {x:Int} {l:List Int}:RisI (x::l)↔(∀ y∈l,x < y)∧RisI l:=List.pairwise_cons
theorem qlv {l:List Int} (hr:RisI l) {i j:Nat} {x y:Int} (hx:l[i]?=some x) (hy:l[j]?=some y) (h:i < j):x < y:=by
 obtain ⟨hi,rfl⟩:=List.getElem?_eq_some_iff.1 hx
 obtain ⟨hj,rfl⟩:=List.getElem?_eq_some_iff.1 hy
 exact List.pairwise_iff_getElem.1 hr i j hi hj h
theorem bs_l {l:List Int} {n:Int} (hr:RisI l) (hn:l.length≤999990):∀ (fl i j:Nat),i≤j→j≤l.length→j - i < fl→(∀ k x,l[k]?=some x→k < i→x < n)→(∀ k x,l[k]?=some x→j≤k→n≤x) →
  ∃ p,p≤l.length∧qp l n fl (i:Int) (j:Int)=some ((p:Int),match l[p]? with | some x=>eqI x n | none=>false)∧(∀ k x,l[k]?=some x→k < p→x < n)∧(∀ k x,l[k]?=some x→p≤k→n≤x)
 | 0,i,j,_,_,h,_,_=>by omega
 | fl + 1,i,j,hij,hj,hf,h1,h2=>by
  rw [qp]
  by_cases hlt:i < j
  ·have hm:(i + j) / 2 < l.length:=by omega
   rw [br_t (by rw [q9]; omega),qwB (by omega),qh (qmK hm),br_f (by rw [qE]; rfl)]
   have hx:l[(i + j) / 2]?=some l[(i + j) / 2]:=List.getElem?_eq_getElem hm
   by_cases hc:l[(i + j) / 2] < n
   ·rw [br_t (q9.2 hc),wrS (by omega)]
    refine bs_l hr hn fl ((i + j) / 2 + 1) j (by omega) hj (by omega) (fun k x hk hki=>?_) h2
    by_cases hkm:k=(i + j) / 2
    ·subst hkm; rw [hx] at hk; injection hk with hk; rw [←hk]; exact hc
    ·have:=qlv hr hk hx (by omega); omega
   ·rw [br_f (qag.2 (by omega))]
    refine bs_l hr hn fl i ((i + j) / 2) (by omega) (by omega) (by omega) h1 (fun k x hk hki=>?_)
    by_cases hkm:k=(i + j) / 2
    ·subst hkm; rw [hx] at hk; injection hk with hk; omega
    ·have:=qlv hr hx hk (by omega); omega
  ·obtain rfl:i=j:=by omega
   refine ⟨i,hj,?_,h1,h2⟩
   rw [br_f (by rw [qag]; omega)]
   by_cases hil:i < l.length
   ·have hx:l[i]?=some l[i]:=List.getElem?_eq_getElem hil
    rw [br_t (by rw [q9]; omega),qh (qmK hil),qE,hx]
    dsimp only
    cases eqI l[i] n<;>rfl
   ·rw [br_f (by rw [qag]; omega),List.getElem?_eq_none (by omega)]
theorem bs_s {l:List Int} {n:Int} (hr:RisI l) (hn:l.length≤999990):∃ A B:List Int,l=A++B∧(∀ x∈A,x < n)∧(∀ x∈B,n≤x)∧qy l n=some ((A.length:Int),decide (n∈l)):=by
 obtain ⟨p,hp,e,h1,h2⟩:=bs_l (n:=n) hr hn qdC 0 l.length (Nat.zero_le _) (Nat.le_refl _) (by unfold qdC; omega) (fun k x _ h=>by omega) (fun k x hk h=>by rw [List.getElem?_eq_none h] at hk; cases hk)
 have hA:∀ x∈l.take p,x < n:=fun x hx=>by
  obtain ⟨k,hk⟩:=List.getElem?_of_mem hx
  rw [List.getElem?_take] at hk
  split at hk
  ·exact h1 k x hk (by omega)
  ·cases hk
 have hB:∀ x∈l.drop p,n≤x:=fun x hx=>by
  obtain ⟨k,hk⟩:=List.getElem?_of_mem hx
  rw [List.getElem?_drop] at hk
  exact h2 _ x hk (by omega)
 refine ⟨l.take p,l.drop p,(List.take_append_drop p l).symm,hA,hB,?_⟩
 unfold qy
 rw [show ((0:Nat):Int)=0 from rfl] at e
 rw [e,List.length_take,Nat.min_eq_left hp]
 congr 2
 cases hx:l[p]? with
 | none =>
  symm
  rw [decide_eq_false_iff_not]
  intro hm
  obtain ⟨k,hk⟩:=List.getElem?_of_mem hm
  have hpl:l.length≤p:=List.getElem?_eq_none_iff.1 hx
  have:=h1 k n hk (by have:=(List.getElem?_eq_some_iff.1 hk).1; omega)
  omega
 | some x =>
  dsimp only
  by_cases he:x=n
  ·rw [qdB.2 he]; symm; rw [decide_eq_true_eq,←he]; exact List.mem_of_getElem? hx
  ·rw [qav.2 he]; symm
   rw [decide_eq_false_iff_not]
   intro hm
   obtain ⟨k,hk⟩:=List.getElem?_of_mem hm
   have hx2:=h2 p x hx (Nat.le_refl _)
   by_cases hkp:k < p
   ·have:=h1 k n hk hkp; omega
   ·by_cases hk2:k=p
    ·subst hk2; rw [hx] at hk; injection hk with hk; exact he hk
    ·have:=qlv hr hx hk (by omega); omega
def qeO (l:List Int) (n:Int):List Int:=l.filter (fun x=>decide (x < n))++n::l.filter (fun x=>decide (n < x))
theorem qjm {A B:List Int} {n:Int} (hA:∀ x∈A,x < n) (hB:∀ x∈B,n < x):qeO (A++B) n=A++n::B:=by
 unfold qeO
 rw [List.filter_append,List.filter_append,List.filter_eq_self.2 fun x hx=>decide_eq_true (hA x hx),List.filter_eq_nil_iff.2 fun x hx=>by have:=hB x hx; simp; omega,List.filter_eq_nil_iff.2 fun x hx=>by have:=hA x hx; simp; omega,List.filter_eq_self.2 fun x hx=>decide_eq_true (hB x hx)]
 simp
theorem qnc {A B:List Int} {n:Int} (hA:∀ x∈A,x < n) (hB:∀ x∈B,n < x):qeO (A++n::B) n=A++n::B:=by
 unfold qeO
 rw [List.filter_append,List.filter_append,List.filter_cons,List.filter_cons,List.filter_eq_self.2 fun x hx=>decide_eq_true (hA x hx),List.filter_eq_nil_iff.2 fun x hx=>by have:=hB x hx; simp; omega,List.filter_eq_nil_iff.2 fun x hx=>by have:=hA x hx; simp; omega,List.filter_eq_self.2 fun x hx=>decide_eq_true (hB x hx)]
 simp
theorem qB6 {l:List Int} {n:Int} (hr:RisI l) (hn:l.length≤1000) {α:Type} (f:List Int→Option α):(bnd (qy l n) fun y=>br (!y.2) (bnd (qjY l y.1 n) f) (f l))=f (qeO l n):=by
 obtain ⟨A,B,e,hA,hB,h⟩:=bs_s (n:=n) hr (by omega)
 rw [qh h]
 have hr2:RisI (A++B):=by rw [←e]; exact hr
 by_cases hm:n∈l
 ·rw [decide_eq_true hm,br_f (by rfl)]
  congr 1
  rw [e] at hm ⊢
  have hmB:n∈B:=by
   rcases List.mem_append.1 hm with h | h
   ·have:=hA n h; omega
   ·exact h
  cases B with
  | nil=>cases hmB
  | cons b B =>
   have hrB:RisI (b::B):=(List.pairwise_append.1 hr2).2.1
   have hb:=(qjl.1 hrB).1
   have h1:=hB b (List.mem_cons_self ..)
   have hbn:b=n:=by
    rcases List.mem_cons.1 hmB with h | h
    ·exact h.symm
    ·have:=hb n h; omega
   subst hbn
   exact (qnc hA hb).symm
 ·rw [decide_eq_false hm,br_t (by rfl)]
  have hi:qjY l (A.length:Int) n=some (qeO l n):=by
   unfold qjY
   have hle:A.length≤l.length:=by rw [e,List.length_append]; omega
   rw [qr (decide_eq_true ⟨by omega,by omega,by omega⟩),Int.toNat_natCast,e,List.take_left',List.drop_left',qjm hA]
   ·intro x hx
    have h1:=hB x hx
    have:x≠n:=fun h2=>hm (by rw [e,←h2]; exact List.mem_append.2 (.inr hx))
    omega
   ·rfl
   ·rfl
  rw [qh hi]
theorem qwK {n:Int}:∀ (l:List Int) (acc:List Int),acc.length + 2 * l.length≤900000→(qQ n l true acc=some (acc++l.filter fun x=>decide (x≠n)))∧(RisI l→qQ n l false acc=some (acc++qeO l n))
 | [],acc,h=>by
  rw [List.length_nil] at h
  refine ⟨by rw [qQ]; simp [br],fun _=>?_⟩
  rw [qQ,br_t (by rfl),qr (qv (by omega))]; rfl
 | x::l,acc,h=>by
  rw [List.length_cons] at h
  have ih:=fun a (e:List.length a≤acc.length + 2) (e2:List.length a + 2 * l.length≤900000)=>qwK (n:=n) l a e2
  have jt:∀ a:List Int,a.length≤acc.length + 1→a.length + 2 * l.length + 1≤900000→qbD n x (fun w0 w1=>qQ n l w0 w1) true a=some (a++(x::l).filter fun y=>decide (y≠n)):=fun a ha h2=>by
   unfold qbD
   rw [qr (qv (by omega))]
   dsimp only
   rw [(ih (a++[x]) (by simp; omega) (by simp; omega)).1,(ih a (by omega) (by omega)).1,List.filter_cons]
   by_cases he:x=n
   ·rw [qdB.2 he,if_neg (by simp [he])]; rfl
   ·rw [qav.2 he,if_pos (by simp [he])]; simp [br]
  refine ⟨by rw [qQ,br_f (by rfl),jt acc (by omega) (by omega)],fun hr=>?_⟩
  obtain ⟨h1,h2⟩:=qjl.1 hr
  rw [qQ,br_t (by rfl)]
  by_cases hle:n≤x
  ·have jt':=jt (acc++[n]) (by simp) (by simp only [List.length_append,List.length_singleton]; omega)
   by_cases hroom:acc.length + 1 + 2 * l.length + 1≤900000
   ·rw [br_t (qa5.2 hle),qr (qv (by omega)),jt',List.append_assoc]
    congr 2
    by_cases he:x=n
    ·subst he
     have:=qnc (A:=[]) (B:=l) (n:=x) (fun y hy=>by cases hy) h1
     rw [List.nil_append] at this
     rw [this,List.filter_cons,if_neg (by simp),List.filter_eq_self.2 fun y hy=>by have:=h1 y hy; simp; omega]; rfl
    ·have hgt:∀ y∈x::l,n < y:=fun y hy=>by
      rcases List.mem_cons.1 hy with rfl | hy
      ·omega
      ·have:=h1 y hy; omega
     have:=qjm (A:=[]) (B:=x::l) (n:=n) (fun y hy=>by cases hy) hgt
     rw [List.nil_append] at this
     rw [this,List.filter_eq_self.2 fun y hy=>by have:=hgt y hy; simp; omega]; rfl
   ·omega
  ·rw [br_f (qhi.2 (by omega))]
   unfold qbD
   rw [br_t (by rw [qav.2 (by omega)]; rfl),qr (qv (by omega))]
   dsimp only
   rw [(ih (acc++[x]) (by simp) (by simp; omega)).2 h2,List.append_assoc]
   congr 2
   unfold qeO
   rw [List.filter_cons,List.filter_cons,if_pos (by simp; omega),if_neg (by simp; omega)]; rfl
theorem qAC {l:List Int} {n:Int} (hr:RisI l) (hn:l.length≤1000):qed l n=some (qeO l n):=by
 unfold qed
 rw [qr (qn (by omega)),(qwK l [] (by simp; omega)).2 hr]; rfl
def qol (l:List Int) (n:Int):Bool:=decide (∀ i:Int,0≤i→i < n→i∈l)
def qqY (l:List Int) (v n:Int):Bool:=decide (∀ i:Int,v≤i→i < n→i∈l)
theorem qnd {l:List Int} {v n:Int} (h:¬ v < n):qqY l v n=true:=decide_eq_true fun i h1 h2=>by omega
theorem qkb {l:List Int} {v n:Int} (h:v < n):qqY l v n=(decide (v∈l)&&qqY l (v + 1) n):=by
 unfold qqY
 rw [Bool.eq_iff_iff,Bool.and_eq_true,decide_eq_true_eq,decide_eq_true_eq,decide_eq_true_eq]
 constructor
 ·exact fun hh=>⟨hh v (by omega) h,fun i h1 h2=>hh i (by omega) h2⟩
 ·rintro ⟨h1,h2⟩ i h3 h4
  by_cases hi:i=v
  ·rw [hi]; exact h1
  ·exact h2 i (by omega) h4
theorem qwL {x:Sess} (hr:RisI x.got) (hn:x.got.length≤1000) (h1:x.n≤1000):∀ (fl:Nat) (v:Int),0≤v→v≤1000→2000 < (fl:Int) + v→qdQ x fl v=some (qqY x.got v x.n)
 | 0,v,_,_,h=>by omega
 | fl + 1,v,h0,hv,hf=>by
  rw [qdQ]
  by_cases hlt:v < x.n
  ·obtain ⟨A,B,e,hA,hB,hb⟩:=bs_s (n:=v) hr (by omega)
   rw [br_t (q9.2 hlt),qh hb,qkb hlt,wr64 (by omega) (by omega),qwL hr hn h1 fl (v + 1) (by omega) (by omega) (by omega)]
   cases decide (v∈x.got)<;>rfl
  ·rw [br_f (qag.2 (by omega)),qnd hlt]
theorem qAD {x:Sess} (hr:RisI x.got) (hn:x.got.length≤1000) (h1:x.n≤1000):qfi x=some (qol x.got x.n):=by
 unfold qfi
 exact qwL hr hn h1 qdC 0 (by omega) (by omega) (by unfold qdC; omega)
theorem qom {v:Int} {k:Int→Option Bool}:∀ (l:List Int) (b:Bool),qaS v k l b=br (!(b || decide (v∈l))) (some false) (k (wr .i64 (v + 1)))
 | [],b=>by rw [qaS]; simp
 | x::l,b=>by
  rw [qaS,qom l,qom l]
  cases b with
  | true=>simp [br]
  | false =>
   by_cases he:x=v
   ·rw [qdB.2 he]; simp [br,he]
   ·have:¬ v=x:=fun h=>he h.symm
    rw [qav.2 he]; simp [br,this]
theorem qt3 {l:List Int} {n:Int} (hn:l.length≤1000) (h1:n≤1000):∀ (fl:Nat) (v:Int),0≤v→v≤1000→2000 < (fl:Int) + v→qcO l n fl v=some (qqY l v n)
 | 0,v,_,_,h=>by omega
 | fl + 1,v,h0,hv,hf=>by
  rw [qcO]
  by_cases hlt:v < n
  ·rw [br_t (q9.2 hlt),qr (qn (by omega)),qom,qkb hlt,wr64 (by omega) (by omega),qt3 hn h1 fl (v + 1) (by omega) (by omega) (by omega)]
   cases decide (v∈l)<;>rfl
  ·rw [br_f (qag.2 (by omega)),qnd hlt]
theorem qyC {l:List Int} {n:Int} (hn:l.length≤1000) (h1:n≤1000):qec l n=some (qol l n):=by
 unfold qec
 exact qt3 hn h1 qdC 0 (by omega) (by omega) (by unfold qdC; omega)
theorem qhg {l:List Int} (h:RisI l) (n:Int):RisI (qeO l n):=by
 unfold qeO RisI
 refine List.pairwise_append.2 ⟨h.filter _,List.pairwise_cons.2 ⟨fun y hy=>?_,h.filter _⟩,fun a ha b hb=>?_⟩
 ·have:=(List.mem_filter.1 hy).2; simpa using this
 ·have h1:=(List.mem_filter.1 ha).2
  rw [decide_eq_true_eq] at h1
  rcases List.mem_cons.1 hb with rfl | hb
  ·exact h1
  ·have h2:=(List.mem_filter.1 hb).2
   rw [decide_eq_true_eq] at h2
   show a < b
   omega
theorem qjn (l:List Int) (n:Int):(qeO l n).length≤2 * l.length + 1:=by
 unfold qeO
 rw [List.length_append,List.length_cons]
 have:=List.length_filter_le (fun x=>decide (x < n)) l
 have:=List.length_filter_le (fun x=>decide (n < x)) l
 omega
theorem qt4 {l:List Int} {n x:Int} (h:x∈qeO l n):x=n∨x∈l:=by
 unfold qeO at h
 rcases List.mem_append.1 h with h | h
 ·exact .inr (List.mem_filter.1 h).1
 ·rcases List.mem_cons.1 h with h | h
  ·exact .inl h
  ·exact .inr (List.mem_filter.1 h).1
end
end Go.Proofs.YtidkmoohgadjkaaGreat
set_option maxHeartbeats 4000000
namespace Go.Proofs.YtidkmoohgadjkaaGreat
open Go E Go.ChangeShapes Go.WideShapes Go.ChangeAt Go.RowKit
theorem qjo:Tryz.prog.cellsOf 25=6:=by kernel_rfl
theorem qqZ:Tryz.prog.cellsOf 23=1:=by kernel_rfl
abbrev qpT (s:Sh):Sh:=.cat (.int .i64) (.cat .str (.cat (.int .i64) (.cat (.flt .f64) (.cat (.flt .f64) (.cat (.sl s) .nil)))))
def qne:Nat→Sh
 | 0=>.no 6
 | 1=>qpT (.no 6)
 | n + 2=>qpT (qne n)
theorem qcB:∀ n,(qne n).size=6
 | 0=>rfl
 | 1=>rfl
 | n + 2=>rfl
theorem qt5 {n:Nat} {s:Sh} (hs:s.size=6) (hk:ShOk Tryz.prog n 23 (.sl s)):ShOk Tryz.prog (n + 1) 25 (qpT s) :=
 .struct Tryz.underlying25 qjo (.cons rfl qc7 (qh3 n) (.cons rfl qil (qvF n) (.cons rfl qc7 (qh3 n) (.cons rfl qik (qvD n) (.cons rfl qik (qvD n) (.cons rfl qqZ hk .nil))))))
theorem qwM:∀ n,ShOk Tryz.prog n 25 (qne n)
 | 0=>.zero
 | 1=>qt5 rfl .zero
 | n + 2=>qt5 (qcB n) (.sl Tryz.underlying23 (by rw [qcB]; exact qjo) (by rw [qcB]; decide) (qwM n))
theorem qt6 {P:List PC→Prop} {Ok:Pred→Prop} (h:∀ r,P r→∃ p:Pred,Ok p∧r=p.lrow):∀ (l:List (List PC)),(∀ r∈l,P r)→∃ ps:List Pred,(∀ p∈ps,Ok p)∧l=ps.map Pred.lrow
 | [],_=>⟨[],by simp,rfl⟩
 | r::l,hl=>by
  obtain ⟨p,hp,rfl⟩:=h r (hl r (by simp))
  obtain ⟨ps,hps,rfl⟩:=qt6 h l fun r hr=>hl r (by simp [hr])
  exact ⟨p::ps,by simpa using ⟨hp,hps⟩,rfl⟩
theorem qnf {s:Sh} {l:List PC} (hk:∀ r,Fits s r→∃ p:Pred,p.Ok∧r=p.lrow) (h:Fits (qpT s) l):∃ p:Pred,p.Ok∧l=p.lrow:=by
 obtain ⟨_,_,rfl,⟨x0,rfl,w0⟩,_,_,rfl,⟨x1,rfl,w1⟩,_,_,rfl,⟨x2,rfl,w2⟩,_,_,rfl,⟨x3,rfl,w3⟩,_,_,rfl,⟨x4,rfl,w4⟩,_,_,rfl,⟨rs,rfl,w5,w6⟩,rfl⟩:=h
 obtain ⟨ps,h1,rfl⟩:=qt6 (P:=Fits s) (Ok:=Pred.Ok) hk rs w6
 refine ⟨.mk x0 x1 x2 x3 x4 ps,?_,?_⟩
 ·unfold Pred.Ok
  exact ⟨qjc w0,Nat.le_trans w1 (by decide),qjc w2,by rw [List.length_map] at w5; exact Nat.le_trans w5 (by decide),Pred.Oks_of h1⟩
 ·rw [Pred.lrow_eq]; simp only [Pred.lrows_eq]; rfl
theorem qng:∀ n {l:List PC},Fits (qne n) l→∃ p:Pred,p.Ok∧l=p.lrow
 | 0,l,h=>False.elim h
 | 1,l,h=>qnf (s:=.no 6) (fun r h=>False.elim h) h
 | n + 2,l,h=>qnf (fun r h=>qng n h) h
section
variable {H:Type} {enc:TypeId × Value→H} {W:World} {v:Value} {d:DataW H} {ps:List MemPlace} {b0:Nat}
end
end Go.Proofs.YtidkmoohgadjkaaGreat
set_option maxHeartbeats 4000000
namespace Go.Proofs.YtidkmoohgadjkaaGreat
open Go E Go.ChangeShapes Go.WideShapes Go.ChangeAt Go.RowKit
theorem qvW:Tryz.prog.cellsOf 33=21:=by kernel_rfl
def qyD (n:Nat):Sh:=.cat (.int .i64) (.cat (qne (n - 1)) (.cat (.sl qmS) (.cat (.sl qmS) (.cat qpD (.cat (.int .i64) (.cat (.int .i64) (.cat (.int .i64) .nil)))))))
theorem qvX (n:Nat):(qyD n).size=21:=by unfold qyD; simp only [Sh.size,qcB]; rfl
theorem qB7:∀ n,ShOk Tryz.prog n 33 (qyD n)
 | 0=>.zero
 | n + 1=>.struct Tryz.underlying33 (by rw [qvX]; exact qvW) (.cons rfl qc7 (qh3 n) (.cons rfl (by rw [show n + 1 - 1=n from rfl,qcB]; exact qjo) (qwM n)
   (.cons (by rw [show n + 1 - 1=n from rfl,qcB]; rfl) qmT (qwy n) (.cons (by rw [show n + 1 - 1=n from rfl,qcB]; rfl) qmT (qwy n) (.cons (by rw [show n + 1 - 1=n from rfl,qcB]; rfl) qmW (qAn n)
   (.cons (by rw [show n + 1 - 1=n from rfl,qcB]; rfl) qc7 (qh3 n) (.cons (by rw [show n + 1 - 1=n from rfl,qcB]; rfl) qc7 (qh3 n) (.cons (by rw [show n + 1 - 1=n from rfl,qcB]; rfl) qc7 (qh3 n) .nil))))))))
abbrev Sit.la (s:Sit):A:=.agg [ic s.r,ic s.f.op,.p (.v (.string s.f.text)),ic s.f.n,.p (.v (.float .f64 s.f.re)),.p (.v (.float .f64 s.f.im)),.p (.sl (Pred.lrows s.f.kids)),.p (.sl (s.store.map Item.lrow)),.p (.sl (s.out.map Item.lrow)),
 ic s.k.star.x0,ic s.k.star.x1,ic s.k.star.x2,ic s.k.star.x3,ic s.k.star.x4,ic s.k.star.x5,ic s.k.star.x6,ic s.k.star.x7,.p (.sl (s.k.l.map Frag.row)),ic s.count,ic s.clock,ic s.epoch]
section
variable {H:Type} {enc:TypeId × Value→H} {W:World} {v:Value} {d:DataW H} {ps:List MemPlace} {b0:Nat}
theorem qt7 (hv:Value.okWide Tryz.prog W .any b0 33 v) (h:DataW.Trod enc Tryz.prog W 0 (fun _=>true) true 33 v d ps):∃ s:Sit,s.Ok∧VA W (qgw W) qkF s.la v:=by
 obtain ⟨n,l,h1,h2⟩:=qxU qB7 (.inl ⟨_,Tryz.underlying33⟩) hv h
 obtain ⟨_,_,rfl,⟨x0,rfl,w0⟩,_,_,rfl,hf,_,_,rfl,hs,_,_,rfl,ho,_,_,rfl,hk,_,_,rfl,⟨x1,rfl,w1⟩,_,_,rfl,⟨x2,rfl,w2⟩,_,_,rfl,⟨x3,rfl,w3⟩,rfl⟩:=h1
 obtain ⟨p,op,rfl⟩:=qng _ hf
 obtain ⟨xs,hx,rfl⟩:=qmU hs
 obtain ⟨ys,hy,rfl⟩:=qmU ho
 obtain ⟨k,hi,rfl⟩:=qtj hk
 rw [Pred.lrow_eq] at h2
 exact ⟨⟨x0,p,xs,ys,k,x1,x2,x3⟩,⟨op,hx,hy,hi⟩,h2⟩
end
end Go.Proofs.YtidkmoohgadjkaaGreat
namespace Go.Proofs.YtidkmoohgadjkaaGreat
open Go E Pred
noncomputable section
open Classical
def hasI (h:Has):Item:=⟨h.id,h.vr,h.vc,h.stamp,⟨#[]⟩,0,0,0,false⟩
structure Has.Ok (x:Has):Prop where
 id:x.id.size≤9223372036854775807
 vr : -9223372036854775808≤x.vr∧x.vr≤9223372036854775807
 vc : -9223372036854775808≤x.vc∧x.vc≤9223372036854775807
 stamp : -9223372036854775808≤x.stamp∧x.stamp≤9223372036854775807
theorem qvY (h:Has):mayI (hasI h)=(lettersB h.id 1&&(verB h.vr h.vc&&inN h.stamp 1 1000000)):=by
 have e1:lettersB ⟨#[]⟩ 0=true:=by kernel_rfl
 have e2:inN 0 (-1000000) 1000000=true:=by kernel_rfl
 have e3:qb2 0 0=true:=by kernel_rfl
 unfold mayI hasI
 simp only [e1,e2,e3,Bool.and_true]
def qjA:Option Has→List Has→Bool
 | _,[]=>true
 | none,x::xs=>mayI (hasI x)&&qjA (some x) xs
 | some p,x::xs=>mayI (hasI x)&&(ltS p.id x.id&&qjA (some x) xs)
def qAE (l:List Has):Bool:=qjA none l&&decide (l.length≤40)
theorem qyE {n:Nat} (h:n≤1000000):wr .i64 (((n + 1:Nat):Int) - 1)=(n:Int):=by rw [wr64 (by omega) (by omega)]; omega
theorem qAF (a b:ByteArray):(ltS a b || eqS a b)=!ltS b a:=by
 cases h1:ltS b a with
 | true =>
  have h2:ltS a b=false:=by
   cases h3:ltS a b with
   | false=>rfl
   | true =>
    have:=qhd (qfk h1 h3)
    rw [qaI] at this; cases this
  have h4:=qhd h1
  rw [qcA] at h4
  rw [h2,h4]; rfl
 | false =>
  cases h2:ltS a b with
  | true=>rfl
  | false=>rw [qe1 h2 h1,qaI]; rfl
theorem qt8 {m:Msg} (hn:m.have_.length≤1000):∀ (xs pre:List Has) (o:Option Has),m.have_=pre++xs→(o=none∧pre=[]∨∃ pre' p,pre=pre'++[p]∧o=some p)→(∀ h∈xs,h.Ok)→qaR m xs (pre.length:Int)=some (qjA o xs)
 | [],pre,o,_,_,_=>by rw [qaR]; cases o<;>rfl
 | x::xs,pre,o,h,ho,hx=>by
  have ih:=qt8 hn xs (pre++[x]) (some x) (by rw [h]; simp) (.inr ⟨pre,x,rfl,rfl⟩) fun y hy=>hx y (List.mem_cons_of_mem _ hy)
  rw [List.length_append] at ih
  have ih':qaR m xs ((pre.length:Int) + 1)=some (qjA (some x) xs):=ih
  have ok:=hx x (List.mem_cons_self ..)
  have en:qbf x.id=some (lettersB x.id 1):=by unfold qbf; rw [qr (decide_eq_true ok.id)]
  have hm:=qvY x
  unfold inN at hm
  rw [ltle 1 x.stamp,ltle x.stamp 1000000] at hm
  have core:∀ (b:Bool),(br (!lettersB x.id 1) (some false) (br (!verB x.vr x.vc) (some false) (br (ltI x.stamp 1) (some false) (br (ltI 1000000 x.stamp) (some false) (some b)))))=some (mayI (hasI x)&&b):=fun b=>by
   rw [hm]
   cases lettersB x.id 1<;>cases verB x.vr x.vc<;>cases ltI x.stamp 1<;>cases ltI 1000000 x.stamp<;>rfl
  rw [qaR,qh en,qh (show qdL ⟨x.vr,x.vc⟩=some (verB x.vr x.vc) from rfl),ih']
  rcases ho with ⟨rfl,rfl⟩ | ⟨pre',p,rfl,rfl⟩
  ·rw [qjA]
   exact core _
  ·rw [qjA]
   have hl:pre'.length + 1≤1000:=by rw [h] at hn; simp at hn; omega
   have ea:atL m.have_ (wr .i64 (((pre'++[p]).length:Int) - 1))=some p:=by
    rw [List.length_append,show ((pre'.length + [p].length:Nat):Int)=((pre'.length + 1:Nat):Int) from rfl,qyE (by omega),h,List.append_assoc]
    exact qee pre' p ([]++x::xs)
   rw [br_t (q9.2 (by rw [List.length_append]; simp):ltI 0 (((pre'++[p]).length:Nat):Int)=true),qh ea,qAF]
   have:br (!ltS p.id x.id) (some false) (some (qjA (some x) xs))=some (ltS p.id x.id&&qjA (some x) xs):=by cases ltS p.id x.id<;>rfl
   rw [this]
   exact core _
structure MsgB (m:Msg):Prop where
 f:m.f.Ok
 fs:m.f.size≤1000
 k:KT m.k 90000
 ids:IdsOk m.k
 h:∀ x∈m.have_,x.Ok
 hl:m.have_.length≤1000
 l:m.l.length≤1000
def qvZ (a b:Int):Bool:=inN a 1 8&&(inN b 1 8&&!eqI a b)
def mayM (m:Msg):Bool:=eqI m.kind 1&&(eqI m.turn 0&&(eqI m.n 0&&(decide (m.l.length=0)&&(!m.star&&(qvZ m.src m.dst&&(inN m.sid 0 1000000&&(mayP m.f&&(mayK m.k&&qAE m.have_))))))))
theorem qv0 {m:Msg} (h:MsgB m):qeJ m=some (mayM m):=by
 have e:eqI (m.l.length:Int) 0=decide (m.l.length=0):=by
  by_cases hl:m.l.length=0
  ·rw [decide_eq_true hl]; exact qdB.2 (by omega)
  ·rw [decide_eq_false hl]; exact qav.2 (by omega)
 have e40:ltI 40 (m.have_.length:Int)=!decide (m.have_.length≤40):=by
  by_cases hl:m.have_.length≤40
  ·rw [decide_eq_true hl]; exact qag.2 (by omega)
  ·rw [decide_eq_false hl]; exact q9.2 (by omega)
 have ee:qeb m.src m.dst=some (qvZ m.src m.dst):=by
  unfold qeb qvZ inN
  cases leI 1 m.src<;>cases leI m.src 8<;>cases leI 1 m.dst<;>cases leI m.dst 8<;>rfl
 have el:=qt8 h.hl m.have_ [] none rfl (.inl ⟨rfl,rfl⟩) h.h
 rw [show (([]:List Has).length:Int)=0 from rfl] at el
 have hhl:=h.hl
 unfold qeJ mayM qAE
 rw [qh ee,qh (qwz h.f h.fs),qh (qob h.k (by decide) h.ids),e,e40,qr (qn (by omega)),el]
 have e2:inN m.sid 0 1000000=(!ltI m.sid 0&&!ltI 1000000 m.sid):=by unfold inN; rw [ltle,ltle]
 rw [e2]
 cases eqI m.kind 1 with
 | false=>rfl
 | true=>cases qvZ m.src m.dst with
  | false=>simp [br]
  | true=>cases mayP m.f with
   | false=>simp [br]
   | true=>cases mayK m.k with
    | false=>simp [br]
    | true=>cases ltI m.sid 0 with
     | true=>simp [br]
     | false=>cases ltI 1000000 m.sid with
      | true=>simp [br]
      | false=>cases decide (m.have_.length≤40) with
       | false=>simp [br]
       | true=>cases eqI m.turn 0 with
        | false=>rfl
        | true=>cases eqI m.n 0 with
         | false=>rfl
         | true=>cases decide (m.l.length=0) with
          | false=>rfl
          | true=>cases m.star with
           | true=>rfl
           | false=>cases qjA none m.have_<;>rfl
def goE (h:Has) (r c:Int):Entry:=⟨⟨h.id,h.vr,h.vc,0,⟨#[]⟩,0,0,0,false⟩,true,r,c⟩
def goF (all:List Item) (f:Pred) (h:Has):Option Entry:=match lk all h.id with
 | none=>none
 | some x=>if (!hasP f x&&qak x (hasI h))=true then some (goE h x.vr x.vc) else none
def newF (k:Know) (f:Pred) (x:Item):Bool:=!hasK k x.id x.vr x.vc&&hasP f x
def newE (x:Item):Entry:=⟨x,false,0,0⟩
def entV (all:List Item) (m:Msg):List Entry:=(all.filter (newF m.k m.f)).map newE++m.have_.filterMap (goF all m.f)
def qnh (all:List Item) (k:Know) (h:Has):Option Entry:=if ((lk all h.id).isNone&&hasK k h.id h.vr h.vc)=true then some (goE h 0 0) else none
def qjB (all:List Item) (s:State) (m:Msg):List Entry:=if inP m.f s.f=true then m.have_.filterMap (qnh all s.k) else []
def qAG (s:State) (m:Msg) (turn n:Int):Msg:=⟨3,m.dst,m.src,m.sid,turn,.mk 0 ⟨#[]⟩ 0 0 0 [],if inP m.f s.f=true then s.k else ⟨zero8,[]⟩,[],n,qjB (qaT s.store s.out) s m,false⟩
def batM (m:Msg) (turn n:Int) (l:List Entry):Msg:=⟨2,m.dst,m.src,m.sid,turn,.mk 0 ⟨#[]⟩ 0 0 0 [],⟨zero8,[]⟩,[],n,l,false⟩
def batV (m:Msg) (turn:Int):Nat→List Entry→Int→List Msg
 | 0,_,_=>[]
 | _ + 1,[],_=>[]
 | k + 1,x::l,n=>batM m turn n ((x::l).take 4)::batV m turn k ((x::l).drop 4) (n + 1)
def qgc (s:State) (m:Msg) (turn:Int):List Msg :=
 if (mayM m&&eqI m.dst s.r)=true then
  let b:=batV m turn ((entV (qaT s.store s.out) m).length + 1) (entV (qaT s.store s.out) m) 0
  b++[qAG s m turn (b.length:Int)]
 else []
end
end Go.Proofs.YtidkmoohgadjkaaGreat
set_option maxHeartbeats 4000000
namespace Go.Proofs.YtidkmoohgadjkaaGreat
open Go E Go.ChangeShapes Go.WideShapes Go.ChangeAt Go.RowKit
abbrev qCd:Sh:=.cat .str (.cat qB1 (.cat (.int .i64) .nil))
abbrev qAH:Sh:=.cat qmS (.cat .bool (.cat (.int .i64) (.cat (.int .i64) .nil)))
theorem qAI:∀ n,ShOk Tryz.prog n 59 (.sl (.int .i64))
 | 0=>.zero
 | n + 1=>.sl Tryz.underlying59 qc7 (by decide) (qh3 n)
def qwN (l:List Int):Prop:=∀ x∈l, -9223372036854775808≤x∧x≤9223372036854775807
structure Note.Ok (x:Note):Prop where
 f:x.f.Ok
 ids:IdsOk x.k
 h:∀ y∈x.have_,y.Ok
 l:∀ y∈x.l,y.item.Ok
 ll:x.l.length≤9223372036854775807
abbrev Note.la (x:Note):A:=.agg [ic x.kind,ic x.src,ic x.dst,ic x.sid,ic x.turn,ic x.f.op,.p (.v (.string x.f.text)),ic x.f.n,.p (.v (.float .f64 x.f.re)),.p (.v (.float .f64 x.f.im)),.p (.sl (Pred.lrows x.f.kids)),
 ic x.k.star.x0,ic x.k.star.x1,ic x.k.star.x2,ic x.k.star.x3,ic x.k.star.x4,ic x.k.star.x5,ic x.k.star.x6,ic x.k.star.x7,.p (.sl (x.k.l.map Frag.row)),.p (.sl (x.have_.map Has.row)),ic x.n,.p (.sl (x.l.map Line.row)),.p (.v (.bool x.star))]
section
variable {H:Type} {enc:TypeId × Value→H} {W:World} {v:Value} {d:DataW H} {ps:List MemPlace} {b0:Nat}
theorem qv1 (hv:Value.okWide Tryz.prog W .any b0 59 v) (h:DataW.Trod enc Tryz.prog W 0 (fun _=>true) true 59 v d ps):∃ l:List Int,qwN l∧VA W (qgw W) qkF (sl (l.map irw)) v:=by
 obtain ⟨n,rows,h0,h1,h2⟩:=qzk (sl:=fun _=>.sl (.int .i64)) (sf:=fun _=>.int .i64) qAI (fun _=>rfl) Tryz.underlying59 hv h
 obtain ⟨xs,hx,rfl⟩:=qjd (P:=Fits (.int .i64)) (Ok:=fun x:Int => -9223372036854775808≤x∧x≤9223372036854775807) (f:=irw) (fun r ⟨x,e,w⟩=>⟨x,qjc w,e⟩) rows h1
 exact ⟨xs,hx,h2⟩
end
end Go.Proofs.YtidkmoohgadjkaaGreat
namespace Go.Proofs.YtidkmoohgadjkaaGreat
open Go E Pred
noncomputable section
open Classical
theorem qwO {n:Int}:∀ (l:List Frag) (v:Int),0≤v→qcp n l v=some (!(l.any fun f=>ltI n f.vec.x0))
 | [],v,_=>by rw [qcp]; rfl
 | f::l,v,h=>by
  rw [qcp,qwO l (v + 1) (by omega),qa5.2 h,List.any_cons]
  cases ltI n f.vec.x0<;>rfl
theorem qwP {n:Int}:∀ (l:List Frag) (v:Int),0≤v→qcq n l v=some (!(l.any fun f=>ltI n f.vec.x1))
 | [],v,_=>by rw [qcq]; rfl
 | f::l,v,h=>by
  rw [qcq,qwP l (v + 1) (by omega),qa5.2 h,List.any_cons]
  cases ltI n f.vec.x1<;>rfl
theorem qwQ {n:Int}:∀ (l:List Frag) (v:Int),0≤v→qcr n l v=some (!(l.any fun f=>ltI n f.vec.x2))
 | [],v,_=>by rw [qcr]; rfl
 | f::l,v,h=>by
  rw [qcr,qwQ l (v + 1) (by omega),qa5.2 h,List.any_cons]
  cases ltI n f.vec.x2<;>rfl
theorem qwR {n:Int}:∀ (l:List Frag) (v:Int),0≤v→qcs n l v=some (!(l.any fun f=>ltI n f.vec.x3))
 | [],v,_=>by rw [qcs]; rfl
 | f::l,v,h=>by
  rw [qcs,qwR l (v + 1) (by omega),qa5.2 h,List.any_cons]
  cases ltI n f.vec.x3<;>rfl
theorem qwS {n:Int}:∀ (l:List Frag) (v:Int),0≤v→qct n l v=some (!(l.any fun f=>ltI n f.vec.x4))
 | [],v,_=>by rw [qct]; rfl
 | f::l,v,h=>by
  rw [qct,qwS l (v + 1) (by omega),qa5.2 h,List.any_cons]
  cases ltI n f.vec.x4<;>rfl
theorem qwT {n:Int}:∀ (l:List Frag) (v:Int),0≤v→qcu n l v=some (!(l.any fun f=>ltI n f.vec.x5))
 | [],v,_=>by rw [qcu]; rfl
 | f::l,v,h=>by
  rw [qcu,qwT l (v + 1) (by omega),qa5.2 h,List.any_cons]
  cases ltI n f.vec.x5<;>rfl
theorem qwU {n:Int}:∀ (l:List Frag) (v:Int),0≤v→qcv n l v=some (!(l.any fun f=>ltI n f.vec.x6))
 | [],v,_=>by rw [qcv]; rfl
 | f::l,v,h=>by
  rw [qcv,qwU l (v + 1) (by omega),qa5.2 h,List.any_cons]
  cases ltI n f.vec.x6<;>rfl
theorem qwV {n:Int}:∀ (l:List Frag) (v:Int),0≤v→qcw n l v=some (!(l.any fun f=>ltI n f.vec.x7))
 | [],v,_=>by rw [qcw]; rfl
 | f::l,v,h=>by
  rw [qcw,qwV l (v + 1) (by omega),qa5.2 h,List.any_cons]
  cases ltI n f.vec.x7<;>rfl
def qon (r n:Int) (k:Know):Bool:=mayK k&&!qe2 k r n
theorem qAJ {s:State} {k:Know} {N:Nat} (hr:1≤s.r∧s.r≤8) (hk:KT k N) (hN:N≤900000) (hi:IdsOk k):qdO s k=some (qon s.r s.count k):=by
 obtain ⟨r,f,st,out,ks,n,c,e⟩:=s
 have hl:=hk.l
 have hm:=qAp (hk.mono (by omega)) hi
 have core:∀ (a b:Bool) (y:Option Bool),y=some (!b)→(bnd (qat k) fun y1=>br (!y1) (some false) (br a (some false) (chk (qz k.l) y)))=some (mayK k&&!(a || b)):=fun a b y h=>by
  rw [qh hm,qr (qn (by omega)),h]
  cases mayK k<;>cases a<;>cases b<;>rfl
 unfold qon qe2
 simp only at hr ⊢
 rcases r8 r with h' | rfl | rfl | rfl | rfl | rfl | rfl | rfl | rfl
 ·omega
 ·exact core _ _ _ (qwO k.l 0 (by omega))
 ·exact core _ _ _ (qwP k.l 0 (by omega))
 ·exact core _ _ _ (qwQ k.l 0 (by omega))
 ·exact core _ _ _ (qwR k.l 0 (by omega))
 ·exact core _ _ _ (qwS k.l 0 (by omega))
 ·exact core _ _ _ (qwT k.l 0 (by omega))
 ·exact core _ _ _ (qwU k.l 0 (by omega))
 ·exact core _ _ _ (qwV k.l 0 (by omega))
def qeZ (s:State) (m:Msg):Bool:=inN m.n 0 40&&(if eqI m.kind 2=true then decide (m.l.length≤4) else decide (m.l.length≤40)&&((m.l.all fun e=>e.goes)&&qon s.r s.count m.k))
def ofB (s:State) (x:Sess) (m:Msg):Bool:=(eqI m.kind 2 || eqI m.kind 3)&&(leI 1 m.turn&&((eqI x.turn 0 || eqI x.turn m.turn)&&(eqI m.src x.with_&&(eqI m.dst s.r&&eqI m.sid x.sid))))
theorem of_s (s:State) (x:Sess) (m:Msg):qf5 s x m=some (ofB s x m):=by
 unfold qf5 ofB
 generalize eqI m.kind 2=a1
 generalize eqI m.kind 3=a2
 generalize leI 1 m.turn=a3
 generalize eqI x.turn 0=a4
 generalize eqI x.turn m.turn=a5
 generalize eqI m.src x.with_=a6
 generalize eqI m.dst s.r=a7
 generalize eqI m.sid x.sid=a8
 cases a3
 ·cases a1<;>cases a2<;>rfl
 ·cases a6
  ·cases a1<;>cases a2<;>cases a4<;>cases a5<;>rfl
  ·cases a7
   ·cases a1<;>cases a2<;>cases a4<;>cases a5<;>rfl
   ·cases a1<;>cases a2<;>cases a4<;>cases a5<;>rfl
theorem qpU {s:State} {m:Msg} {b:Bool} (h:qdO s m.k=some b):∀ (l:List Entry) (v:Int),0≤v→qbz s m l v=some ((l.all fun e=>e.goes)&&b)
 | [],v,_=>by rw [qbz,qh h]; rfl
 | e::l,v,hv=>by
  rw [qbz,qpU h l (v + 1) (by omega),qa5.2 hv,List.all_cons]
  cases e.goes<;>rfl
structure SessB (x:Sess) (M:Nat):Prop where
 k:KT x.k M
 ids:IdsOk x.k
 r:RisI x.got
 gl:x.got.length≤400
 n:x.n≤1000
 l:x.l.length≤60
 e:∀ e∈x.l,e.item.Ok
structure AnsB (m:Msg) (M:Nat):Prop where
 k:KT m.k M
 ids:IdsOk m.k
 l:m.l.length≤60
 e:∀ e∈m.l,e.item.Ok
theorem qyF {s:State} {m:Msg} {M:Nat} (hr:1≤s.r∧s.r≤8) (hm:AnsB m M) (hM:M≤900000):qd8 s m=some (qeZ s m):=by
 have hl:=hm.l
 have e4:leI (m.l.length:Int) 4=decide (m.l.length≤4):=by
  by_cases h:m.l.length≤4
  ·rw [decide_eq_true h]; exact qa5.2 (by omega)
  ·rw [decide_eq_false h]; exact qhi.2 (by omega)
 have e40:leI (m.l.length:Int) 40=decide (m.l.length≤40):=by
  by_cases h:m.l.length≤40
  ·rw [decide_eq_true h]; exact qa5.2 (by omega)
  ·rw [decide_eq_false h]; exact qhi.2 (by omega)
 unfold qd8 qeZ
 rw [e4,e40,qr (qn (by omega)),qpU (qAJ hr hm.k hM hm.ids) _ 0 (by omega)]
 have e2:inN m.n 0 40=(!ltI m.n 0&&!ltI 40 m.n):=by unfold inN; rw [ltle,ltle]
 rw [e2]
 cases ltI m.n 0 with
 | true=>rfl
 | false=>cases ltI 40 m.n with
  | true=>rfl
  | false=>cases eqI m.kind 2 with
   | true=>rfl
   | false=>cases decide (m.l.length≤40)<;>rfl
def refV (s:State) (x:Sess) (m:Msg):Int:=if ofB s x m=false then 1 else if (x.over || !eqI x.epoch s.epoch)=true then 9 else if qeZ s m=false then 1 else 0
theorem qkc {s:State} {m:Msg} {M:Nat} (hm:AnsB m M) (hM:M≤900000):∀ l:List Entry,qax s m l=some (if ((l.all fun e=>e.goes)&&qon s.r s.count m.k)=true then 0 else 1)
 | []=>by
  rw [qax,qh (qob hm.k (by omega) hm.ids),qh (qm9 hm.k (by omega) s.r s.count)]
  unfold qon
  cases mayK m.k<;>cases qe2 m.k s.r s.count<;>rfl
 | e::l=>by
  rw [qax,qkc hm hM l,List.all_cons]
  cases e.goes<;>rfl
theorem qt9 {s:State} {x:Sess} {m:Msg} {M:Nat} (hm:AnsB m M) (hM:M≤900000):qcz s x m=some (refV s x m):=by
 have hl:=hm.l
 have e4:ltI 4 (m.l.length:Int)=!decide (m.l.length≤4):=by
  by_cases h:m.l.length≤4
  ·rw [decide_eq_true h]; exact qag.2 (by omega)
  ·rw [decide_eq_false h]; exact q9.2 (by omega)
 have e40:ltI 40 (m.l.length:Int)=!decide (m.l.length≤40):=by
  by_cases h:m.l.length≤40
  ·rw [decide_eq_true h]; exact qag.2 (by omega)
  ·rw [decide_eq_false h]; exact q9.2 (by omega)
 have h440:decide (m.l.length≤4)=true→decide (m.l.length≤40)=true:=fun h=>by rw [decide_eq_true_eq] at h ⊢; omega
 have j3:qbJ s m=some (if eqI m.kind 2=true then 0 else if ((m.l.all fun e=>e.goes)&&qon s.r s.count m.k)=true then 0 else 1):=by
  unfold qbJ
  rw [qr (qn (by omega)),qkc hm hM]
  cases eqI m.kind 2<;>rfl
 have j2:qbK s x m=some (if (x.over || !eqI x.epoch s.epoch)=true then 9 else if qeZ s m=false then 1 else 0):=by
  unfold qbK
  rw [j3,e4,e40]
  unfold qeZ
  have e2:inN m.n 0 40=(!ltI m.n 0&&!ltI 40 m.n):=by unfold inN; rw [ltle,ltle]
  rw [e2]
  revert h440
  generalize decide (m.l.length≤4)=d4
  generalize decide (m.l.length≤40)=d40
  generalize ((m.l.all fun e=>e.goes)&&qon s.r s.count m.k)=g
  generalize ltI m.n 0=n0
  generalize ltI 40 m.n=n1
  generalize eqI m.kind 2=k2
  generalize eqI x.epoch s.epoch=ep
  generalize x.over=ov
  intro h440
  cases ov<;>cases ep<;>cases n0<;>cases n1<;>cases k2<;>cases d4<;>cases d40<;>cases g<;>first | rfl | exact absurd (h440 rfl) (by simp)
 have j1:qbL s x m=some (if (leI 1 m.turn&&(eqI x.turn 0 || eqI x.turn m.turn))=false then 1 else if (x.over || !eqI x.epoch s.epoch)=true then 9 else if qeZ s m=false then 1 else 0):=by
  unfold qbL
  rw [j2,ltn]
  cases leI 1 m.turn<;>cases eqI x.turn 0<;>cases eqI x.turn m.turn<;>rfl
 unfold qcz refV ofB
 rw [j1]
 generalize eqI m.kind 2=a1
 generalize eqI m.kind 3=a2
 generalize leI 1 m.turn=a3
 generalize (eqI x.turn 0 || eqI x.turn m.turn)=a4
 generalize eqI m.src x.with_=a6
 generalize eqI m.dst s.r=a7
 generalize eqI m.sid x.sid=a8
 generalize (if (x.over || !eqI x.epoch s.epoch)=true then (9:Int) else if qeZ s m=false then 1 else 0)=w
 cases a1<;>cases a2<;>cases a6<;>cases a7<;>cases a8<;>cases a3<;>cases a4<;>rfl
def qdE (y:State × Bool) (e:Entry):State × Bool :=
 if e.goes=true then (qh4 y.1 e.item.id e.item.vr e.item.vc e.nr e.nc,y.2) else if (qdD y.1 e.item).2=0 then ((qdD y.1 e.item).1,y.2) else (y.1,true)
def qdR (s:State) (e:Entry):State:=qh4 s e.item.id e.item.vr e.item.vc e.nr e.nc
theorem qyG {y:State × Bool} {e:Entry} {N:Nat} (h:SOk y.1 N) (he:e.item.Ok):SOk (qdE y e).1 (N + 1):=by
 unfold qdE
 split
 ·exact qhA h he.id
 ·split
  ·exact qoj h he
  ·exact h.mono (by omega)
theorem qua:∀ (l:List Entry) {y:State × Bool} {N:Nat},SOk y.1 N→(∀ e∈l,e.item.Ok)→SOk (l.foldl qdE y).1 (N + l.length)
 | [],y,N,h,_=>h
 | e::l,y,N,h,he=>by
  rw [List.foldl_cons,List.length_cons]
  exact (qua l (qyG h (he e (List.mem_cons_self ..))) fun x hx=>he x (List.mem_cons_of_mem _ hx)).mono (by omega)
theorem qpV:∀ (l:List Entry) {s:State} {N:Nat},SOk s N→(∀ e∈l,e.item.Ok)→SOk (l.foldl qdR s) (N + l.length)
 | [],s,N,h,_=>h
 | e::l,s,N,h,he=>by
  rw [List.foldl_cons,List.length_cons]
  exact (qpV l (s:=qdR s e) (N:=N + 1) (qhA h (he e (List.mem_cons_self ..)).id) fun x hx=>he x (List.mem_cons_of_mem _ hx)).mono (by omega)
def endV (s:State) (x:Sess):State × Sess :=
 if (x.told&&(!x.bad&&qol x.got x.n))=true then
  let t:=x.l.foldl qdR s
  (⟨t.r,t.f,t.store,t.out,qi9 t.k x.k,t.count,t.clock,t.epoch⟩,⟨x.sid,x.with_,x.epoch,x.turn,x.got,x.bad,x.told,true,x.n,x.k,x.l⟩)
 else (s,x)
def qbM (s:State) (x:Sess) (m:Msg):State × Sess × Int :=
 if refV s x m≠0 then (s,x,refV s x m) else
 if eqI m.kind 2=true then
  let y:=m.l.foldl qdE (s,x.bad)
  let z:=endV y.1 ⟨x.sid,x.with_,x.epoch,m.turn,qeO x.got m.n,y.2,x.told,x.over,x.n,x.k,x.l⟩
  (z.1,z.2,0)
 else if x.told=true then
  let z:=endV s ⟨x.sid,x.with_,x.epoch,m.turn,x.got,x.bad,x.told,x.over,x.n,x.k,x.l⟩
  (z.1,z.2,0)
 else
  let z:=endV s ⟨x.sid,x.with_,x.epoch,m.turn,x.got,x.bad,true,x.over,m.n,m.k,m.l⟩
  (z.1,z.2,0)
theorem qub {s:State} {e:Entry} {N:Nat} (h:SOk s N) (hN:N≤90000) (he:e.item.Ok):qdP s e=some (qdR s e):=by
 unfold qdP
 rw [qh (qt1 h hN he.id)]; rfl
theorem qwW {x:Sess} {m:Msg} {bad told:Bool} {n:Int} {k:Know} {got:List Int} {L:List Entry} {M:Nat} (hk:KT k M) (hi:IdsOk k):∀ (l:List Entry) (s:State) (N:Nat),SOk s N→N + l.length≤80000→N + l.length + M≤900000→(∀ e∈l,e.item.Ok) →
  qdh x m bad told n k got L l s=some ((⟨(l.foldl qdR s).r,(l.foldl qdR s).f,(l.foldl qdR s).store,(l.foldl qdR s).out,qi9 (l.foldl qdR s).k k,(l.foldl qdR s).count,(l.foldl qdR s).clock,(l.foldl qdR s).epoch⟩,⟨x.sid,x.with_,x.epoch,m.turn,got,bad,told,true,n,k,L⟩),none)
 | [],s,N,h,_,hn,_=>by
  rw [qdh,qh (qyj h.kt hk (by simpa using hn) h.ids hi)]; rfl
 | e::l,s,N,h,h1,hn,he=>by
  rw [List.length_cons] at h1 hn
  rw [qdh,qh (qub h (by omega) (he e (List.mem_cons_self ..)))]
  exact qwW hk hi l (qdR s e) (N + 1) (qhA h (he e (List.mem_cons_self ..)).id) (by omega) (by omega) fun y hy=>he y (List.mem_cons_of_mem _ hy)
theorem quc {x:Sess} {m:Msg} {s:State} {bad told:Bool} {n:Int} {k:Know} {got:List Int} {L:List Entry} {N M:Nat} (h:SOk s N) (hN:N≤70000) (hM:M≤700000) (hb:SessB ⟨x.sid,x.with_,x.epoch,m.turn,got,bad,told,x.over,n,k,L⟩ M) :
  qbA x m s bad told n k got L=some (endV s ⟨x.sid,x.with_,x.epoch,m.turn,got,bad,told,x.over,n,k,L⟩,none):=by
 have hl:=hb.l
 simp only at hl
 have hn:=hb.n
 unfold qbA endV
 rw [qh (qAD hb.r (by have:=hb.gl; omega) hb.n),qr (qn (by omega)),qwW hb.k hb.ids L s N h (by omega) (by omega) hb.e]
 simp only
 cases told with
 | false=>rfl
 | true=>cases bad with
  | true=>rfl
  | false=>cases qol got n<;>rfl
theorem qwX {x:Sess} {m:Msg} {M:Nat} (hM:M≤700000) (hb:SessB x M) (hgot:x.got.length≤100):∀ (l:List Entry) (s:State) (bad:Bool) (N:Nat),SOk s N→N + l.length≤70000→(∀ e∈l,e.item.Ok) →
  qbB x m x.got x.k x.l l s bad=some (endV (l.foldl qdE (s,bad)).1 ⟨x.sid,x.with_,x.epoch,m.turn,qeO x.got m.n,(l.foldl qdE (s,bad)).2,x.told,x.over,x.n,x.k,x.l⟩,none)
 | [],s,bad,N,h,h1,_=>by
  have hw:=qjn x.got m.n
  rw [qbB,qB6 hb.r (by omega)]
  exact quc h (by simpa using h1) hM ⟨hb.k,hb.ids,qhg hb.r _,by show (qeO x.got m.n).length≤_; omega,hb.n,hb.l,hb.e⟩
 | e::l,s,bad,N,h,h1,he=>by
  rw [List.length_cons] at h1
  have hes:=he e (List.mem_cons_self ..)
  have ih:=fun s' b' (h':SOk s' (N + 1))=>qwX (m:=m) hM hb hgot l s' b' (N + 1) h' (by omega) fun y hy=>he y (List.mem_cons_of_mem _ hy)
  rw [qbB,List.foldl_cons]
  cases hg:e.goes with
  | true =>
   have e1:qdE (s,bad) e=(qdR s e,bad):=by unfold qdE; rw [if_pos hg]; rfl
   rw [br_t rfl,qh (qub h (by omega) hes),e1]
   exact ih _ _ (qhA h hes.id)
  | false =>
   have e2:=qt0 h (by omega) hes
   rw [br_f rfl]
   by_cases h0:(qdD s e.item).2=0
   ·have e1:qdE (s,bad) e=((qdD s e.item).1,bad):=by unfold qdE; rw [if_neg (by rw [hg]; simp),if_pos h0]
    rw [show errO (qdD s e.item).2=none by unfold errO; rw [if_pos h0]] at e2
    rw [qsb e2,e1]
    exact ih _ _ (qoj h hes)
   ·have e1:qdE (s,bad) e=(s,true):=by unfold qdE; rw [if_neg (by rw [hg]; simp),if_neg h0]
    rw [show errO (qdD s e.item).2=some (qdD s e.item).2 by unfold errO; rw [if_neg h0]] at e2
    rw [qsa e2,e1]
    exact ih _ _ (h.mono (by omega))
theorem qyH {s:State} {x:Sess} {m:Msg}:refV s x m=0∨refV s x m=1∨refV s x m=9:=by
 unfold refV
 repeat' split
 all_goals simp
theorem qud {s:State} {x:Sess} {m:Msg} {N M:Nat} (h:SOk s N) (hN:N≤60000) (hM:M≤600000) (hr:1≤s.r∧s.r≤8) (hb:SessB x M) (hgot:x.got.length≤100) (hm:AnsB m M) :
  qbZ s x m=some (((qbM s x m).1,(qbM s x m).2.1),errO (qbM s x m).2.2):=by
 have hl:=hm.l
 have hxl:=hb.l
 have hcl:qaz x.got=some x.got:=qfo (by omega)
 have hcl2:qaz x.l=some x.l:=qfo (by omega)
 have hcl3:qaz m.l=some m.l:=qfo (by omega)
 unfold qbZ qbM
 rw [qh (qgR h (by omega)),qh hcl,qh (qf9 hb.k (by omega)),qh hcl2,qh (of_s s ⟨x.sid,x.with_,x.epoch,x.turn,x.got,x.bad,x.told,x.over,x.n,x.k,x.l⟩ m),qh (qyF hr hm (by omega)),qr (qn (by omega)),qwX (m:=m) (by omega) hb hgot m.l s x.bad N h (by omega) hm.e,qh (qf9 hm.k (by omega)),qh hcl3]
 have j1:x.told=false→refV s x m=0→qbA x m s x.bad true m.n m.k x.got m.l=some (endV s ⟨x.sid,x.with_,x.epoch,m.turn,x.got,x.bad,true,x.over,m.n,m.k,m.l⟩,none):=fun _ h0=>by
  have hmn:m.n≤40:=by
   unfold refV at h0
   split at h0
   ·cases h0
   ·split at h0
    ·cases h0
    ·split at h0
     ·cases h0
     ·rename_i h3
      have h3:qeZ s m=true:=by simpa using h3
      unfold qeZ at h3
      rw [Bool.and_eq_true,qhz] at h3
      exact h3.1.2
  exact quc h (by omega) (by omega) ⟨hm.k,hm.ids,hb.r,hb.gl,by show m.n≤1000; omega,hm.l,hm.e⟩
 have j2:qbA x m s x.bad x.told x.n x.k x.got x.l=some (endV s ⟨x.sid,x.with_,x.epoch,m.turn,x.got,x.bad,x.told,x.over,x.n,x.k,x.l⟩,none):=quc h (by omega) (by omega) ⟨hb.k,hb.ids,hb.r,hb.gl,hb.n,hb.l,hb.e⟩
 rw [j2]
 have eo:ofB s ⟨x.sid,x.with_,x.epoch,x.turn,x.got,x.bad,x.told,x.over,x.n,x.k,x.l⟩ m=ofB s x m:=rfl
 rw [eo]
 cases ho:ofB s x m with
 | false =>
  have e:refV s x m=1:=by unfold refV; rw [ho]; rfl
  rw [e]; rfl
 | true =>
  rw [br_f (by rfl)]
  by_cases hov:x.over=true
  ·have e:refV s x m=9:=by unfold refV; rw [ho,hov]; rfl
   rw [br_t hov,e]; rfl
  ·have hov':x.over=false:=by simpa using hov
   rw [br_f hov']
   cases hep:eqI x.epoch s.epoch with
   | false =>
    have e:refV s x m=9:=by unfold refV; rw [ho,hov',hep]; rfl
    rw [e]; rfl
   | true =>
    rw [br_f (by rfl)]
    cases hri:qeZ s m with
    | false =>
     have e:refV s x m=1:=by unfold refV; rw [ho,hov',hep,hri]; rfl
     rw [e]; rfl
    | true =>
     have e:refV s x m=0:=by unfold refV; rw [ho,hov',hep,hri]; rfl
     rw [br_f (by rfl),e,if_neg (by simp)]
     cases hk:eqI m.kind 2 with
     | true=>rfl
     | false =>
      rw [br_f rfl,if_neg (by simp)]
      by_cases ht:x.told=true
      ·rw [br_f (by rw [ht]; rfl),if_pos ht]; rfl
      ·have ht':x.told=false:=by simpa using ht
       rw [br_t (by rw [ht']; rfl),if_neg ht,j1 ht' e]; rfl
theorem qpW {x:Sess} {m:Msg} {bad told:Bool} {n:Int} {k:Know} {got:List Int} {L:List Entry} {M:Nat} (hk:KT k M):∀ (l:List Entry) (s:State) (N:Nat),SOk s N→N + l.length≤80000→N + l.length + M≤900000→(∀ e∈l,e.item.Ok) →
  qbE x m got bad told n k L l s=some (⟨(l.foldl qdR s).r,(l.foldl qdR s).f,(l.foldl qdR s).store,(l.foldl qdR s).out,qi9 (l.foldl qdR s).k k,(l.foldl qdR s).count,(l.foldl qdR s).clock,(l.foldl qdR s).epoch⟩,⟨x.sid,x.with_,x.epoch,m.turn,got,bad,told,true,n,k,L⟩,0)
 | [],s,N,h,_,hn,_=>by
  rw [qbE,qh (qyn h.kt hk (by simpa using hn))]; rfl
 | e::l,s,N,h,h1,hn,he=>by
  rw [List.length_cons] at h1 hn
  rw [qbE,qh (qpS h (by omega))]
  exact qpW hk l (qdR s e) (N + 1) (qhA h (he e (List.mem_cons_self ..)).id) (by omega) (by omega) fun y hy=>he y (List.mem_cons_of_mem _ hy)
theorem qlw {x:Sess} {m:Msg} {s:State} {bad told:Bool} {n:Int} {k:Know} {got:List Int} {L:List Entry} {N M:Nat} (h:SOk s N) (hN:N≤70000) (hM:M≤700000) (hb:SessB ⟨x.sid,x.with_,x.epoch,m.turn,got,bad,told,x.over,n,k,L⟩ M) :
  qcP x m s got bad told n k L=some ((endV s ⟨x.sid,x.with_,x.epoch,m.turn,got,bad,told,x.over,n,k,L⟩).1,(endV s ⟨x.sid,x.with_,x.epoch,m.turn,got,bad,told,x.over,n,k,L⟩).2,0):=by
 have hl:=hb.l
 simp only at hl
 have hgl:=hb.gl
 unfold qcP endV
 rw [qh (qyC (l:=got) (n:=n) (by have:got.length≤400:=hgl; omega) hb.n),qr (qn (by omega)),qpW hb.k L s N h (by omega) (by omega) hb.e]
 simp only
 cases told with
 | false=>rfl
 | true=>cases bad with
  | true=>rfl
  | false=>cases qol got n<;>rfl
theorem qpX {x:Sess} {m:Msg} {M:Nat} (hM:M≤700000) (hb:SessB x M) (hgot:x.got.length≤100):∀ (l:List Entry) (s:State) (bad:Bool) (N:Nat),SOk s N→N + l.length≤70000→(∀ e∈l,e.item.Ok) →
  qaD x m l s bad=some ((endV (l.foldl qdE (s,bad)).1 ⟨x.sid,x.with_,x.epoch,m.turn,qeO x.got m.n,(l.foldl qdE (s,bad)).2,x.told,x.over,x.n,x.k,x.l⟩).1,(endV (l.foldl qdE (s,bad)).1 ⟨x.sid,x.with_,x.epoch,m.turn,qeO x.got m.n,(l.foldl qdE (s,bad)).2,x.told,x.over,x.n,x.k,x.l⟩).2,0)
 | [],s,bad,N,h,h1,_=>by
  have hw:=qjn x.got m.n
  rw [qaD,qh (qAC hb.r (by omega))]
  exact qlw h (by simpa using h1) hM ⟨hb.k,hb.ids,qhg hb.r _,by show (qeO x.got m.n).length≤_; omega,hb.n,hb.l,hb.e⟩
 | e::l,s,bad,N,h,h1,he=>by
  rw [List.length_cons] at h1
  have hes:=he e (List.mem_cons_self ..)
  have ih:=fun s' b' (h':SOk s' (N + 1))=>qpX (m:=m) hM hb hgot l s' b' (N + 1) h' (by omega) fun y hy=>he y (List.mem_cons_of_mem _ hy)
  rw [qaD,List.foldl_cons]
  cases hg:e.goes with
  | true =>
   have e1:qdE (s,bad) e=(qdR s e,bad):=by unfold qdE; rw [if_pos hg]; rfl
   rw [br_t rfl,qh (qpS h (by omega)),e1]
   exact ih _ _ (qhA h hes.id)
  | false =>
   rw [br_f rfl,qh (qvU h (by omega) hes)]
   by_cases h0:(qdD s e.item).2=0
   ·have e1:qdE (s,bad) e=((qdD s e.item).1,bad):=by unfold qdE; rw [if_neg (by rw [hg]; simp),if_pos h0]
    rw [qdB.2 h0,br_f (by rfl),e1]
    exact ih _ _ (qoj h hes)
   ·have e1:qdE (s,bad) e=(s,true):=by unfold qdE; rw [if_neg (by rw [hg]; simp),if_neg h0]
    rw [qav.2 h0,br_t (by rfl),e1]
    exact ih _ _ (h.mono (by omega))
theorem qyI {s:State} {x:Sess} {m:Msg} {N M:Nat} (h:SOk s N) (hN:N≤60000) (hM:M≤600000) (hb:SessB x M) (hgot:x.got.length≤100) (hm:AnsB m M):qdq s x m=some (qbM s x m):=by
 have hl:=hm.l
 unfold qdq qbM
 rw [qh (qt9 hm (by omega))]
 by_cases h0:refV s x m=0
 ·have hmn:m.n≤40:=by
   have h0:=h0
   unfold refV at h0
   split at h0
   ·cases h0
   ·split at h0
    ·cases h0
    ·split at h0
     ·cases h0
     ·rename_i h3
      have h3:qeZ s m=true:=by simpa using h3
      unfold qeZ at h3
      rw [Bool.and_eq_true,qhz] at h3
      exact h3.1.2
  rw [h0,qE,br_f (by rfl),if_neg (by simp),qr (qn (by omega)),qpX (m:=m) (by omega) hb hgot m.l s x.bad N h (by omega) hm.e,qlw (x:=x) (m:=m) (bad:=x.bad) (told:=true) (n:=m.n) (k:=m.k) (got:=x.got) (L:=m.l) (M:=M) h (by omega) (by omega) ⟨hm.k,hm.ids,hb.r,hb.gl,by show m.n≤1000; omega,hm.l,hm.e⟩,qlw (x:=x) (m:=m) (bad:=x.bad) (told:=x.told) (n:=x.n) (k:=x.k) (got:=x.got) (L:=x.l) (M:=M) h (by omega) (by omega) ⟨hb.k,hb.ids,hb.r,hb.gl,hb.n,hb.l,hb.e⟩]
  cases eqI m.kind 2 with
  | true=>rfl
  | false=>cases x.told<;>rfl
 ·rw [qav.2 h0,br_t (by rfl),if_pos h0]
end
end Go.Proofs.YtidkmoohgadjkaaGreat
namespace Go.Proofs.YtidkmoohgadjkaaGreat
open Go E Pred
noncomputable section
open Classical
theorem que {α:Type} (l:List α) (a b:Nat):subL l (a:Int) (b:Int)=(l.take b).drop a:=by unfold subL; simp
theorem qgd {α β:Type} (f:α→Option β) (x:α) (l:List α):(x::l).filterMap f=(match f x with | none=>l.filterMap f | some y=>y::l.filterMap f):=by rw [List.filterMap_cons]; cases f x<;>rfl
theorem qpY {α β:Type} (f:α→Option β) (l:List α):(l.filterMap f).length≤l.length:=List.length_filterMap_le ..
theorem qB8 {all:List Item} {f:Pred} {h:Has} (e:lk all h.id=none):goF all f h=none:=by unfold goF; rw [e]
theorem qB9 {all:List Item} {f:Pred} {h:Has} {x:Item} (e:lk all h.id=some x):goF all f h=if (!hasP f x&&qak x (hasI h))=true then some (goE h x.vr x.vc) else none:=by unfold goF; rw [e]
structure AllB (all:List Item):Prop where
 r:Ris all
 l:all.length≤1000
 i:∀ i∈all,i.Ok∧mayI i=true
theorem quf (all:List Item) (m:Msg):(entV all m).length≤all.length + m.have_.length:=by
 unfold entV
 rw [List.length_append,List.length_map]
 have:=List.length_filter_le (newF m.k m.f) all
 have:=qpY (goF all m.f) m.have_
 omega
theorem qug (m:Msg) (turn:Int):∀ (k:Nat) (l:List Entry) (n:Int),(batV m turn k l n).length≤l.length
 | 0,_,_=>Nat.zero_le _
 | k + 1,[],_=>Nat.zero_le _
 | k + 1,x::l,n=>by
  rw [batV,List.length_cons,List.length_cons]
  have:=qug m turn k ((x::l).drop 4) (n + 1)
  rw [List.length_drop,List.length_cons] at this
  omega
end
end Go.Proofs.YtidkmoohgadjkaaGreat
namespace Go.Proofs.YtidkmoohgadjkaaGreat
open Go E Pred
noncomputable section
open Classical
theorem quh {s:State} {m:Msg} {turn:Int} {k0:Know} {dl:List Entry} {L:List Entry} (hL:L.length≤10000):∀ (fl k:Nat) (l:List Entry) (j:Nat) (acc:List Msg),L.drop (4 * j)=l→4 * j≤L.length + 3→l.length < fl→l.length < k→acc.length=j →
  qV m turn k0 dl L fl ((4 * j:Nat):Int) acc=some (acc++(batV m turn k l (j:Int)++[⟨3,m.dst,m.src,m.sid,turn,.mk 0 ⟨#[]⟩ 0 0 0 [],k0,[],(j:Int) + ((batV m turn k l (j:Int)).length:Int),dl,false⟩]))
 | 0,_,_,_,_,_,_,h0,_,_=>by omega
 | _,0,_,_,_,_,_,_,h0,_=>by omega
 | fl + 1,k + 1,[],j,acc,hd,hj,_,_,ha=>by
  have h0:L.length≤4 * j:=by
   have:=congrArg List.length hd
   rw [List.length_drop,List.length_nil] at this
   omega
  rw [qV,br_f (qag.2 (by omega)),qr (qv (by omega)),batV,ha]
  simp
 | fl + 1,k + 1,x::l,j,acc,hd,hj,hf,hk,ha=>by
  have hlen:(x::l).length=L.length - 4 * j:=by rw [←hd,List.length_drop]
  have hx:1≤(x::l).length:=by simp
  have hd2:L.drop (4 * (j + 1))=(x::l).drop 4:=by rw [←hd,List.drop_drop]; rfl
  have hdl:((x::l).drop 4).length=(x::l).length - 4:=List.length_drop
  have ih:=quh (s:=s) (turn:=turn) (m:=m) (k0:=k0) (dl:=dl) hL fl k ((x::l).drop 4) (j + 1) (acc++[batM m turn (j:Int) ((x::l).take 4)]) hd2 (by omega) (by omega) (by omega) (by rw [List.length_append,ha]; rfl)
  have ew:wr .i64 (((4 * j:Nat):Int) + 4)=((4 * (j + 1):Nat):Int):=by rw [wr64 (by omega) (by omega)]; omega
  have et:wr .i64 (qjq ((4 * j:Nat):Int) 4)=(j:Int):=by
   unfold qjq
   rw [Int.tdiv_eq_ediv_of_nonneg (by omega),wr64 (by omega) (by omega)]; omega
  have fin:qV m turn k0 dl L fl ((4 * (j + 1):Nat):Int) (acc++[batM m turn (j:Int) ((x::l).take 4)])=some (acc++(batV m turn (k + 1) (x::l) (j:Int)++[⟨3,m.dst,m.src,m.sid,turn,.mk 0 ⟨#[]⟩ 0 0 0 [],k0,[],(j:Int) + ((batV m turn (k + 1) (x::l) (j:Int)).length:Int),dl,false⟩])):=by
   refine ih.trans ?_
   rw [show batV m turn (k + 1) (x::l) (j:Int)=batM m turn (j:Int) ((x::l).take 4)::batV m turn k ((x::l).drop 4) ((j:Int) + 1) from rfl]
   rw [List.length_cons,List.append_assoc,show (((j + 1:Nat)):Int)=(j:Int) + 1 from rfl]
   have en:(j:Int) + 1 + ((batV m turn k ((x::l).drop 4) ((j:Int) + 1)).length:Int)=(j:Int) + (((batV m turn k ((x::l).drop 4) ((j:Int) + 1)).length + 1:Nat):Int):=by omega
   rw [en]; rfl
  rw [qV,ew,et,br_t (q9.2 (by omega)),que,que]
  have ex:∀ b:Nat,4 * j≤b→(L.take b).drop (4 * j)=(x::l).take (b - 4 * j):=fun b hb=>by rw [←hd,List.drop_take]
  by_cases h4:L.length < 4 * (j + 1)
  ·have e:(L.take L.length).drop (4 * j)=(x::l).take 4:=by
    rw [ex _ (by omega),List.take_of_length_le (by omega),List.take_of_length_le (by omega)]
   rw [br_t (q9.2 (by omega)),e,qr (by simp only [Bool.and_eq_true,qa5]; omega),qr (qv (by rw [List.length_take]; omega)),qr (qv (by omega))]
   exact fin
  ·have e:(L.take (4 * (j + 1))).drop (4 * j)=(x::l).take 4:=by
    rw [ex _ (by omega)]; congr 1; omega
   rw [br_f (qag.2 (by omega)),e,qr (by simp only [Bool.and_eq_true,qa5]; omega),qr (qv (by rw [List.length_take]; omega)),qr (qv (by omega))]
   exact fin
end
end Go.Proofs.YtidkmoohgadjkaaGreat
namespace Go.Proofs.YtidkmoohgadjkaaGreat
open Go E Pred
noncomputable section
open Classical
theorem qui {s:State} {m:Msg} {turn:Int} {all:List Item} {b:Bool} {k0:Know} (hk:KT s.k 90000) (ha:AllB all) (hm:MsgB m):∀ (xs:List Has) (dl L:List Entry),dl.length + xs.length≤8000→L.length + xs.length≤8000 →
  qG s m turn all b k0 xs dl L=qG s m turn all b k0 [] (dl++if b=true then xs.filterMap (qnh all s.k) else []) (L++xs.filterMap (goF all m.f))
 | [],dl,L,_,_=>by cases b<;>simp
 | h::xs,dl,L,h1,h2=>by
  rw [List.length_cons] at h1 h2
  have ih:=fun a c (e:List.length a≤dl.length + 1) (e':List.length c≤L.length + 1)=>qui (turn:=turn) (b:=b) (k0:=k0) hk ha hm xs a c (by omega) (by omega)
  have hal:=ha.l
  conv=>lhs; rw [qG]
  rw [qh (qtq (by omega)),qh (qpg (N:=90000) (by decide) hk.kb),qr (qv (by omega)),qr (qv (by omega))]
  rw [ih (dl++[_]) L (by simp) (by omega),ih dl L (by omega) (by omega),ih dl (L++[_]) (by omega) (by simp)]
  rw [qgd,qgd,show (Ver.mk h.vr h.vc).r=h.vr from rfl,show (Ver.mk h.vr h.vc).c=h.vc from rfl]
  have eg:qnh all s.k h=if ((lk all h.id).isNone&&hasK s.k h.id h.vr h.vc)=true then some (goE h 0 0) else none:=rfl
  rw [eg]
  cases hg:lk all h.id with
  | none =>
   rw [qjh hg,qB8 hg,br_t (by rfl)]
   cases b with
   | false=>simp [br]
   | true=>cases hasK s.k h.id h.vr h.vc with
    | false=>simp [br]
    | true=>simp [br,goE]
  | some x =>
   rw [qjg hg,qB9 hg,br_f (by rfl),qh (qm4 hm.f (ha.i x (qlk hg).1).1),qh (show qan x (Item.mk ⟨#[]⟩ h.vr h.vc h.stamp ⟨#[]⟩ 0 0 0 false)=some (qak x (hasI h)) by unfold qan qak; rfl)]
   cases hasP m.f x with
   | true=>simp [br]
   | false=>cases qak x (hasI h) with
    | false=>simp [br]
    | true=>simp [br,goE]
end
end Go.Proofs.YtidkmoohgadjkaaGreat
namespace Go.Proofs.YtidkmoohgadjkaaGreat
open Go E Pred
noncomputable section
open Classical
theorem quj {s:State} {m:Msg} {turn:Int} {all:List Item} (hf:s.f.Ok) (hfs:s.f.size≤1000) (hm:MsgB m):∀ (xs:List Item) (acc:List Entry),acc.length + xs.length≤8000→(∀ i∈xs,i.Ok) →
  qad s m turn all xs acc=qcy s m turn all (acc++(xs.filter (newF m.k m.f)).map newE) (inP m.f s.f) (if inP m.f s.f=true then s.k else ⟨zero8,[]⟩)
 | [],acc,_,_=>by
  rw [qad,qh (show qfc m.f s.f=some (inP m.f s.f) by unfold qfc; rw [qr (decide_eq_true hm.f),qr (decide_eq_true hf),qr (decide_eq_true hm.fs),qr (decide_eq_true hfs)])]
  rw [List.filter_nil,List.map_nil,List.append_nil]
  cases inP m.f s.f<;>rfl
 | x::xs,acc,hn,hx=>by
  rw [List.length_cons] at hn
  have ih:=fun a (e:List.length a≤acc.length + 1)=>quj (turn:=turn) (all:=all) hf hfs hm xs a (by omega) fun y hy=>hx y (List.mem_cons_of_mem _ hy)
  rw [qad,qh (qpg (N:=90000) (by decide) hm.k.kb),qh (qm4 hm.f (hx x (List.mem_cons_self ..))),qr (qv (by omega)),ih (acc++[_]) (by simp),ih acc (by omega),List.filter_cons]
  have e:newF m.k m.f x=(!hasK m.k x.id x.vr x.vc&&hasP m.f x):=rfl
  rw [e,show (Ver.mk x.vr x.vc).r=x.vr from rfl,show (Ver.mk x.vr x.vc).c=x.vc from rfl]
  cases hasK m.k x.id x.vr x.vc with
  | true=>rfl
  | false=>cases hasP m.f x with
   | false=>rfl
   | true=>simp [br,newE]
theorem quk {s:State} {m:Msg} {turn:Int} {N:Nat} (h:SOk s N) (hN:N≤90000) (hm:MsgB m):qc0 s m turn=some (qgc s m turn):=by
 have hl:=h.le
 have hal:AllB (qaT s.store s.out):=⟨qlp h.rs h.ro,by have:=qim h; omega,qlu h⟩
 have hen:=quf (qaT s.store s.out) m
 have hhl:=hm.hl
 have hal2:=hal.l
 have hf1:=List.length_filter_le (newF m.k m.f) (qaT s.store s.out)
 unfold qc0 qgc
 rw [qh (qv0 hm),qh (qtN h.rs h.ro (by omega)),qr (qn (by omega)),quj h.f h.fs hm _ _ (by simp; omega) fun i hi=>(qlu h i hi).1,List.nil_append]
 unfold qcy
 rw [qr (qn (by omega)),qui (h.kt.mono hN) hal hm _ _ _ (by simp; omega) (by rw [List.length_map]; omega),qG]
 have hgo:=qpY (goF (qaT s.store s.out) m.f) m.have_
 have key:∀ fl:Nat,10000≤fl→qV m turn (if inP m.f s.f=true then s.k else ⟨zero8,[]⟩) ([]++if inP m.f s.f=true then m.have_.filterMap (qnh (qaT s.store s.out) s.k) else []) (((qaT s.store s.out).filter (newF m.k m.f)).map newE++m.have_.filterMap (goF (qaT s.store s.out) m.f)) fl 0 []=some (let b:=batV m turn ((entV (qaT s.store s.out) m).length + 1) (entV (qaT s.store s.out) m) 0; b++[qAG s m turn (b.length:Int)]):=fun fl hfl=>by
  have e:=quh (s:=s) (turn:=turn) (m:=m) (k0:=if inP m.f s.f=true then s.k else ⟨zero8,[]⟩) (dl:=qjB (qaT s.store s.out) s m) (L:=entV (qaT s.store s.out) m) (by omega) fl ((entV (qaT s.store s.out) m).length + 1) (entV (qaT s.store s.out) m) 0 [] rfl (by omega) (by omega) (by omega) rfl
  rw [show ((4 * 0:Nat):Int)=0 from rfl,Int.zero_add,List.nil_append] at e
  rw [List.nil_append]
  exact e
 rw [key qdC (by unfold qdC; omega)]
 cases mayM m with
 | false=>rfl
 | true=>cases eqI m.dst s.r with
  | false=>rfl
  | true=>rfl
end
end Go.Proofs.YtidkmoohgadjkaaGreat
set_option maxHeartbeats 0
namespace Go.Proofs.YtidkmoohgadjkaaGreat
open Go E
noncomputable section
open Pred
variable {X:Task→Prop} (hX:qk X) {Q:A→List Blk→Prop}
include hX
end
end Go.Proofs.YtidkmoohgadjkaaGreat
