/- Layers 9 and 11. Written by decomp.py. slices.Sorted(maps.Keys(m)), m a map of the call's own whose keys are texts: contracts, laid out of the kit's library. Layer 8, the program's. Written by decomp.py. Layer 7, the program's. Written by decomp.py. Layer 7, the program's. Written by decomp.py. Layer 7, the program's. Written by decomp.py. Layer 7, the program's. Written by decomp.py. The program: copies of states, serve. Written by decomp.py. The program: recv. Written by decomp.py. slices.Insert at whole numbers: its contract, walked. slices.Insert at whole numbers, told of slices as lists: its contract. The program: take. Written by decomp.py. The document: layers 9 and 10. Written by decomp.py. -/
import Derived.Test.YtidkmoohgadjkaaGreatVD
import Derived.Shelf.SlIter.Nil
import Derived.Shelf.SortM.Plain
import Derived.Shelf.SortM.SortNone
import Derived.Ground.GgzProg
import Derived.Ground.SlgmProg
import Derived.Test.YtidkmoohgadjkaaGreatVC
import Derived.Lib.AppendZerosOnto
import Derived.Lib.Overlaps
import Derived.Shelf.RegionOpenPlain
import Derived.WalkKit
import Derived.WalkSpells
import Derived.Deep.RegionLaw
import Derived.Lib.Walk
import Derived.Laws.NewBlocks
set_option linter.unusedVariables false
set_option linter.unusedSimpArgs false
set_option maxRecDepth 100000
set_option maxHeartbeats 0
namespace Go.Proofs.YtidkmoohgadjkaaGreat
open Go E
noncomputable section
open Pred
def qa4 (p0:State) (p2:Bool):List Item→Option (Bool)
  | [] =>
  some true
  | x1e::xs1 =>
  (bnd (qbp p0.f x1e) fun y2 =>
   (bnd (qb6 p0.k x1e.id (Ver.mk x1e.vr x1e.vc)) fun y4 =>
    (br (@Bool.rec (fun _=>Bool) p2 (!p2) y2)
     (some false)
     (br (!y4)
      (some false)
      (br (ltI p0.clock x1e.stamp)
       (some false)
       (qa4 p0 p2 xs1  ))))))
def qcK (p0:State) (p1:List Item) (p2:Bool):Option (Bool) :=
 (chk (qz p1)
   ((qa4 p0 p2) p1 ))
def qaH (p1:Int) (p2:Int):List Frag→Option (Bool)
  | [] =>
  some false
  | x1e::xs1 =>
  (bnd (qcG x1e.vec p1) fun y5 =>
   (br (ltI p2 y5)
    (some true)
    (qaH p1 p2 xs1  )))
def qbR (p0:Know) (p1:Int) (p2:Int):Option (Bool) :=
 (bnd (qcG p0.star p1) fun y1 =>
  (br (ltI p2 y1)
   (some true)
   (chk (qz p0.l)
     ((qaH p1 p2) p0.l ))))
def qck (p0:State):List Item→Option (Bool)
  | [] =>
  (bnd (qcK p0 p0.store true) fun y26 =>
   (bnd (qcK p0 p0.out false) fun y28 =>
    (bnd (qbR p0.k p0.r p0.count) fun y30 =>
     (br y26
      (br y28
       (some (!y30))
       (some false))
      (some false)))))
  | x1e::xs1 =>
  (bnd (qbq p0.store x1e.id) fun y23 =>
   (br y23.2
    (some false)
    (qck p0 xs1  )))
def qdN (p0:State):Option (Bool) :=
 (bnd (qdM p0.f) fun y1 =>
  (bnd (qbc p0.store) fun y3 =>
   (bnd (qbc p0.out) fun y5 =>
    (bnd (qda p0.k) fun y7 =>
     (br (!y1)
      (some false)
      (br (!y3)
       (some false)
       (br (!y5)
        (some false)
        (br (!y7)
         (some false)
         (br (ltI p0.r 1)
          (some false)
          (br (ltI 8 p0.r)
           (some false)
           (br (ltI 40 (wr .i64 ((p0.store.length:Int) + (p0.out.length:Int))))
            (some false)
            (br (ltI p0.count 0)
             (some false)
             (br (ltI 1000 p0.count)
              (some false)
              (br (ltI p0.clock 0)
               (some false)
               (br (ltI 1000000 p0.clock)
                (some false)
                (br (ltI p0.epoch 0)
                 (some false)
                 (br (ltI 1000000 p0.epoch)
                  (some false)
                  (chk (qz p0.out)
                    ((qck p0) p0.out )))))))))))))))))))
def qbr (p0:Pred) (rc:Pred→Option Pred):List Pred→(List Pred)→Option (Pred)
  | [],v2 =>
  some (Pred.mk p0.op p0.text p0.n p0.re p0.im v2)
  | x1e::xs1,v2 =>
  (bnd (rc x1e) fun y3 =>
   (chk (qT v2.length 1)
    (qbr p0 rc xs1  (v2++[y3]))))
def qd2 (rc:Pred→Option Pred) (p0:Pred):Option (Pred) :=
 (chk (qz p0.kids)
   ((qbr p0 rc) p0.kids ([]:List Pred)))
def qbk:Nat→Pred→Option Pred
 | 0=>fun _=>none
 | n + 1=>qd2 (qbk n)
def qbs (p0:Know):List Frag→(List Frag)→Option (Know)
  | [],v2 =>
  some (Know.mk p0.star v2)
  | x1e::xs1,v2 =>
  (bnd (qaz x1e.ids) fun y3 =>
   (chk (qT v2.length 1)
    (qbs p0 xs1  (v2++[(Frag.mk y3 x1e.vec)]))))
def qaF (p0:Know):Option (Know) :=
 (chk (qz p0.l)
   ((qbs p0) p0.l ([]:List Frag)))
def qdb (p0:State) (p1:Int) (p2:Int) (y1:Pred) (y3:Know):List Item→(List Has)→Option (Sess × Msg)
  | [],v6 =>
  some ((Sess.mk p2 p1 p0.epoch 0 ([]:List Int) false false false 0 (Know.mk (V8.mk 0 0 0 0 0 0 0 0) ([]:List Frag)) ([]:List Entry)),(Msg.mk 1 p0.r p1 p2 0 y1 y3 v6 0 [] false))
  | x1e::xs1,v6 =>
  (chk (qT v6.length 1)
   (qdb p0 p1 p2 y1 y3 xs1  (v6++[(Has.mk x1e.id x1e.vr x1e.vc x1e.stamp)])))
def qfg (p0:State) (p1:Int) (p2:Int):Option (Sess × Msg) :=
 (bnd (qbk ql9 p0.f) fun y1 =>
  (bnd (qaF p0.k) fun y3 =>
   (chk (qz p0.store)
     ((qdb p0 p1 p2 y1 y3) p0.store ([]:List Has)))))
def qbt (p0:State) (p1:Int) (p2:Int):List Item→(List Has)→Option (Sess × Msg)
  | [],v2 =>
  some ((Sess.mk p2 p1 p0.epoch 0 ([]:List Int) false false false 0 (Know.mk (V8.mk 0 0 0 0 0 0 0 0) ([]:List Frag)) ([]:List Entry)),(Msg.mk 1 p0.r p1 p2 0 p0.f p0.k v2 0 [] false))
  | x1e::xs1,v2 =>
  (chk (qT v2.length 1)
   (qbt p0 p1 p2 xs1  (v2++[(Has.mk x1e.id x1e.vr x1e.vc x1e.stamp)])))
def qd3 (p0:State) (p1:Int) (p2:Int):Option (Sess × Msg) :=
 (chk (qz p0.store)
   ((qbt p0 p1 p2) p0.store ([]:List Has)))
def qbd (p0:Entry) (p1:Entry):Option (Bool) :=
 (bnd (qdk p0.item p1.item) fun y1 =>
  (br y1
   (br (@Bool.rec (fun _=>Bool) (!p1.goes) p1.goes p0.goes)
    (some (andB (eqI p0.nr p1.nr) (andB (eqI p0.nc p1.nc) true)))
    (some false))
   (some false)))
def qR (p1:List Entry):List Entry→Int→Option (Bool)
  | [],v2 =>
  some true
  | x1e::xs1,v2 =>
  (bnd (atL p1 v2) fun x3 =>
   (bnd (qbd x1e x3) fun y5 =>
    (br (!y5)
     (some false)
     (qR p1 xs1 (v2 + 1) ))))
def qY (p0:List Entry) (p1:List Entry):Option (Bool) :=
 (br (!eqI (p0.length:Int) (p1.length:Int))
  (some false)
  (chk (qz p0)
    ((qR p1) p0 0 )))
def qbu (p0:Sess) (p1:Sess):List Int→Int→Option (Bool)
  | [],v10 =>
  (bnd (qaN p0.k p1.k) fun y14 =>
   (bnd (qY p0.l p1.l) fun y16 =>
    (br y14
     (some y16)
     (some false))))
  | x1e::xs1,v10 =>
  (bnd (atL p1.got v10) fun x11 =>
   (br (!eqI x1e x11)
    (some false)
    (qbu p0 p1 xs1 (v10 + 1) )))
def qcl (p0:Sess) (p1:Sess):Option (Bool) :=
 (br (!eqI p0.sid p1.sid)
  (some false)
  (br (!eqI p0.with_ p1.with_)
   (some false)
   (br (!eqI p0.epoch p1.epoch)
    (some false)
    (br (!eqI p0.turn p1.turn)
     (some false)
     (br (@Bool.rec (fun _=>Bool) p1.bad (!p1.bad) p0.bad)
      (some false)
      (br (@Bool.rec (fun _=>Bool) p1.told (!p1.told) p0.told)
       (some false)
       (br (@Bool.rec (fun _=>Bool) p1.over (!p1.over) p0.over)
        (some false)
        (br (!eqI p0.n p1.n)
         (some false)
         (br (!eqI (p0.got.length:Int) (p1.got.length:Int))
          (some false)
          (chk (qz p0.got)
            ((qbu p0 p1) p0.got 0 )))))))))))
def qdn (p0:Sess):Option (Sess) :=
 some p0
def qaf (p0:Msg) (p1:Msg):List Has→Int→Option (Bool)
  | [],v9 =>
  (bnd (qbg p0.f p1.f) fun y15 =>
   (bnd (qaN p0.k p1.k) fun y17 =>
    (bnd (qY p0.l p1.l) fun y19 =>
     (br y15
      (br y17
       (some y19)
       (some false))
      (some false)))))
  | x1e::xs1,v9 =>
  (bnd (atL p1.have_ v9) fun x10 =>
   (br (!eqS x1e.id x10.id)
    (some false)
    (br (!(andB (eqI x1e.vr x10.vr) (andB (eqI x1e.vc x10.vc) true)))
     (some false)
     (br (!eqI x1e.stamp x10.stamp)
      (some false)
      (qaf p0 p1 xs1 (v9 + 1) )))))
def qac (p0:Msg) (p1:Msg):Option (Bool) :=
 (br (!eqI p0.kind p1.kind)
  (some false)
  (br (!eqI p0.src p1.src)
   (some false)
   (br (!eqI p0.dst p1.dst)
    (some false)
    (br (!eqI p0.sid p1.sid)
     (some false)
     (br (!eqI p0.turn p1.turn)
      (some false)
      (br (!eqI p0.n p1.n)
       (some false)
       (br (@Bool.rec (fun _=>Bool) p1.star (!p1.star) p0.star)
        (some false)
        (br (!eqI (p0.have_.length:Int) (p1.have_.length:Int))
         (some false)
         (chk (qz p0.have_)
           ((qaf p0 p1) p0.have_ 0 ))))))))))
variable {X:Task→Prop} (hX:qk X) {Q:A→List Blk→Prop}
include hX
theorem qhc  {p0:State} {p1:List Item} {p2:Bool} {r:Bool} (h:qcK p0 p1 p2=some r) (hQ:Q (.one (.p (.v (.bool r)))) []):X (.call 82 [.agg (State.cs p0),.one (.p (.sl (p1.map Item.row))),.one (.p (.v (.bool p2)))] [] Q):=by
  have K:=fun a (e:some a=some r)=>qm (f:=fun y=>.one (.p (.v (.bool y)))) (g:=fun y=>[]) e hQ
  unfold qcK at h
  refine qb hX Tryz.func82 rfl rfl ?_
  revert h
  refine chkk fun hs1 h=>?_
  conv=>whnf
  repeat((first|refine dw ?_);conv=>whnf)
  refine qal (fun (v1:Int)=>pad [(1,.one (.p (.sl (p1.map Item.row)))),(0,.one (.p (.v (.bool p2)))),(0,.one (.ptr 0 0)),(3,iv v1)] 45) (fun (v1:Int)=>[.box (State.cs p0)]) _ p1 (fun pre1 x1e xs1 v1  hl1 hi1 h ih1=>?_) (fun v1  hi1 h=>?_)  h
  ·rw [qa4] at h
   have am1:=qB hl1 hi1
   refine qa hX ?_
   revert h
   refine bndk fun y2 e3 h=>?_
   conv=>whnf
   repeat((first|refine dw ?_|refine qg (qi _) ?_|refine bct (qC hl1 hi1) ?_|refine bct (qc am1) ?_|refine bct (andt (qc am1) rfl) ?_|refine qe (qf am1) ?_|refine bct (andt (qc (qd am1)) rfl) ?_|refine qe (qf (qd am1)) ?_);conv=>whnf)
   refine qez hX e3 ?_
   revert h
   refine bndk fun y4 e5 h=>?_
   conv=>whnf
   repeat((first|refine dw ?_|refine bct (qc am1) ?_|refine bct (andt (qc am1) rfl) ?_|refine qe (qf am1) ?_|refine bct (andt (qc (qd am1)) rfl) ?_|refine qe (qf (qd am1)) ?_);conv=>whnf)
   refine qfA hX e5 ?_
   conv=>whnf
   repeat((first|refine dw ?_);conv=>whnf)
   revert h
   refine brk (fun c6 h=>?_) (fun c6 h=>?_)
   ·conv=>whnf
    repeat((first|refine dw ?_|refine bct c6 ?_);conv=>whnf)
    exact K _ h
   ·conv=>whnf
    repeat((first|refine dw ?_|refine bcf c6 ?_);conv=>whnf)
    revert h
    refine brk (fun c7 h=>?_) (fun c7 h=>?_)
    ·conv=>whnf
     repeat((first|refine dw ?_|refine bct c7 ?_);conv=>whnf)
     exact K _ h
    ·conv=>whnf
     repeat((first|refine dw ?_|refine bcf c7 ?_|refine bct (qc am1) ?_|refine bct (andt (qc am1) rfl) ?_|refine qe (qf am1) ?_|refine bct (andt (qc (qd am1)) rfl) ?_|refine qe (qf (qd am1)) ?_);conv=>whnf)
     revert h
     refine brk (fun c8 h=>?_) (fun c8 h=>?_)
     ·conv=>whnf
      repeat((first|refine dw ?_|refine bct c8 ?_);conv=>whnf)
      exact K _ h
     ·conv=>whnf
      repeat((first|refine dw ?_|refine bcf c8 ?_);conv=>whnf)
      exact ih1 _  (wrL hs1 hl1 hi1) h
  ·rw [qa4] at h
   refine qa hX ?_
   conv=>whnf
   repeat((first|refine dw ?_|refine qg (qi _) ?_|refine bcf (qD hi1) ?_);conv=>whnf)
   exact K _ h
theorem qgD  {p0:Know} {p1:Int} {p2:Int} {r:Bool} (h:qbR p0 p1 p2=some r) (hQ:Q (.one (.p (.v (.bool r)))) []):X (.call 83 [.agg (Know.cs p0),iv p1,iv p2] [] Q):=by
  have K:=fun a (e:some a=some r)=>qm (f:=fun y=>.one (.p (.v (.bool y)))) (g:=fun y=>[]) e hQ
  unfold qbR at h
  refine qb hX Tryz.func83 rfl rfl ?_
  revert h
  refine bndk fun y1 e2 h=>?_
  conv=>whnf
  repeat((first|refine dw ?_);conv=>whnf)
  refine qg8 hX e2 ?_
  conv=>whnf
  repeat((first|refine dw ?_);conv=>whnf)
  revert h
  refine brk (fun c3 h=>?_) (fun c3 h=>?_)
  ·conv=>whnf
   repeat((first|refine dw ?_|refine bct c3 ?_);conv=>whnf)
   exact K _ h
  ·revert h
   refine chkk fun hs1 h=>?_
   conv=>whnf
   repeat((first|refine dw ?_|refine bcf c3 ?_);conv=>whnf)
   refine qal (fun (v4:Int)=>pad [(1,iv p1),(0,iv p2),(0,.one (.ptr 0 0)),(3,iv v4)] 23) (fun (v4:Int)=>[.box (Know.cs p0)]) _ p0.l (fun pre1 x1e xs1 v4  hl1 hi1 h ih1=>?_) (fun v4  hi1 h=>?_)  h
   ·rw [qaH] at h
    have am1:=qB hl1 hi1
    refine qa hX ?_
    revert h
    refine bndk fun y5 e6 h=>?_
    conv=>whnf
    repeat((first|refine dw ?_|refine qg (qi _) ?_|refine bct (qC hl1 hi1) ?_|refine bct (qc am1) ?_|refine bct (andt (qc am1) rfl) ?_|refine qe (qf am1) ?_|refine bct (andt (qc (qd am1)) rfl) ?_|refine qe (qf (qd am1)) ?_);conv=>whnf)
    refine qg8 hX e6 ?_
    conv=>whnf
    repeat((first|refine dw ?_);conv=>whnf)
    revert h
    refine brk (fun c7 h=>?_) (fun c7 h=>?_)
    ·conv=>whnf
     repeat((first|refine dw ?_|refine bct c7 ?_);conv=>whnf)
     exact K _ h
    ·conv=>whnf
     repeat((first|refine dw ?_|refine bcf c7 ?_);conv=>whnf)
     exact ih1 _  (wrL hs1 hl1 hi1) h
   ·rw [qaH] at h
    refine qa hX ?_
    conv=>whnf
    repeat((first|refine dw ?_|refine qg (qi _) ?_|refine bcf (qD hi1) ?_);conv=>whnf)
    exact K _ h
theorem qiU  {p0:State} {r:Bool} (h:qdN p0=some r) (hQ:Q (.one (.p (.v (.bool r)))) []):X (.call 22 [.agg (State.cs p0)] [] Q):=by
  have K:=fun a (e:some a=some r)=>qm (f:=fun y=>.one (.p (.v (.bool y)))) (g:=fun y=>[]) e hQ
  unfold qdN at h
  refine qb hX Tryz.func22 rfl rfl ?_
  revert h
  refine bndk fun y1 e2 h=>?_
  conv=>whnf
  repeat((first|refine dw ?_);conv=>whnf)
  refine qiS hX e2 ?_
  revert h
  refine bndk fun y3 e4 h=>?_
  conv=>whnf
  repeat((first|refine dw ?_);conv=>whnf)
  refine qfY hX e4 ?_
  revert h
  refine bndk fun y5 e6 h=>?_
  conv=>whnf
  repeat((first|refine dw ?_);conv=>whnf)
  refine qfY hX e6 ?_
  revert h
  refine bndk fun y7 e8 h=>?_
  conv=>whnf
  repeat((first|refine dw ?_);conv=>whnf)
  refine qgM hX e8 ?_
  conv=>whnf
  repeat((first|refine dw ?_);conv=>whnf)
  revert h
  refine brk (fun c9 h=>?_) (fun c9 h=>?_)
  ·conv=>whnf
   repeat((first|refine dw ?_|refine bct c9 ?_);conv=>whnf)
   exact K _ h
  ·conv=>whnf
   repeat((first|refine dw ?_|refine bcf c9 ?_);conv=>whnf)
   revert h
   refine brk (fun c10 h=>?_) (fun c10 h=>?_)
   ·conv=>whnf
    repeat((first|refine dw ?_|refine bct c10 ?_);conv=>whnf)
    exact K _ h
   ·conv=>whnf
    repeat((first|refine dw ?_|refine bcf c10 ?_);conv=>whnf)
    revert h
    refine brk (fun c11 h=>?_) (fun c11 h=>?_)
    ·conv=>whnf
     repeat((first|refine dw ?_|refine bct c11 ?_);conv=>whnf)
     exact K _ h
    ·conv=>whnf
     repeat((first|refine dw ?_|refine bcf c11 ?_);conv=>whnf)
     revert h
     refine brk (fun c12 h=>?_) (fun c12 h=>?_)
     ·conv=>whnf
      repeat((first|refine dw ?_|refine bct c12 ?_);conv=>whnf)
      exact K _ h
     ·conv=>whnf
      repeat((first|refine dw ?_|refine bcf c12 ?_);conv=>whnf)
      revert h
      refine brk (fun c13 h=>?_) (fun c13 h=>?_)
      ·conv=>whnf
       repeat((first|refine dw ?_|refine bct c13 ?_);conv=>whnf)
       exact K _ h
      ·conv=>whnf
       repeat((first|refine dw ?_|refine bcf c13 ?_);conv=>whnf)
       revert h
       refine brk (fun c14 h=>?_) (fun c14 h=>?_)
       ·conv=>whnf
        repeat((first|refine dw ?_|refine bct c14 ?_);conv=>whnf)
        exact K _ h
       ·conv=>whnf
        repeat((first|refine dw ?_|refine bcf c14 ?_|refine qg (qi _) ?_);conv=>whnf)
        revert h
        refine brk (fun c15 h=>?_) (fun c15 h=>?_)
        ·conv=>whnf
         repeat((first|refine dw ?_|refine bct c15 ?_);conv=>whnf)
         exact K _ h
        ·conv=>whnf
         repeat((first|refine dw ?_|refine bcf c15 ?_);conv=>whnf)
         revert h
         refine brk (fun c16 h=>?_) (fun c16 h=>?_)
         ·conv=>whnf
          repeat((first|refine dw ?_|refine bct c16 ?_);conv=>whnf)
          exact K _ h
         ·conv=>whnf
          repeat((first|refine dw ?_|refine bcf c16 ?_);conv=>whnf)
          revert h
          refine brk (fun c17 h=>?_) (fun c17 h=>?_)
          ·conv=>whnf
           repeat((first|refine dw ?_|refine bct c17 ?_);conv=>whnf)
           exact K _ h
          ·conv=>whnf
           repeat((first|refine dw ?_|refine bcf c17 ?_);conv=>whnf)
           revert h
           refine brk (fun c18 h=>?_) (fun c18 h=>?_)
           ·conv=>whnf
            repeat((first|refine dw ?_|refine bct c18 ?_);conv=>whnf)
            exact K _ h
           ·conv=>whnf
            repeat((first|refine dw ?_|refine bcf c18 ?_);conv=>whnf)
            revert h
            refine brk (fun c19 h=>?_) (fun c19 h=>?_)
            ·conv=>whnf
             repeat((first|refine dw ?_|refine bct c19 ?_);conv=>whnf)
             exact K _ h
            ·conv=>whnf
             repeat((first|refine dw ?_|refine bcf c19 ?_);conv=>whnf)
             revert h
             refine brk (fun c20 h=>?_) (fun c20 h=>?_)
             ·conv=>whnf
              repeat((first|refine dw ?_|refine bct c20 ?_);conv=>whnf)
              exact K _ h
             ·conv=>whnf
              repeat((first|refine dw ?_|refine bcf c20 ?_);conv=>whnf)
              revert h
              refine brk (fun c21 h=>?_) (fun c21 h=>?_)
              ·conv=>whnf
               repeat((first|refine dw ?_|refine bct c21 ?_);conv=>whnf)
               exact K _ h
              ·revert h
               refine chkk fun hs1 h=>?_
               conv=>whnf
               repeat((first|refine dw ?_|refine bcf c21 ?_);conv=>whnf)
               refine qal (fun (v22:Int)=>pad [(1,.one (.ptr 0 0)),(5,iv v22)] 122) (fun (v22:Int)=>[.box (State.cs p0)]) _ p0.out (fun pre1 x1e xs1 v22  hl1 hi1 h ih1=>?_) (fun v22  hi1 h=>?_)  h
               ·rw [qck] at h
                have am1:=qB hl1 hi1
                refine qa hX ?_
                revert h
                refine bndk fun y23 e24 h=>?_
                conv=>whnf
                repeat((first|refine dw ?_|refine qg (qi _) ?_|refine bct (qC hl1 hi1) ?_|refine bct (qc am1) ?_|refine bct (andt (qc am1) rfl) ?_|refine qe (qf am1) ?_|refine bct (andt (qc (qd am1)) rfl) ?_|refine qe (qf (qd am1)) ?_);conv=>whnf)
                refine qeA hX e24 ?_
                conv=>whnf
                repeat((first|refine dw ?_);conv=>whnf)
                revert h
                refine brk (fun c25 h=>?_) (fun c25 h=>?_)
                ·conv=>whnf
                 repeat((first|refine dw ?_|refine bct c25 ?_);conv=>whnf)
                 exact K _ h
                ·conv=>whnf
                 repeat((first|refine dw ?_|refine bcf c25 ?_);conv=>whnf)
                 exact ih1 _  (wrL hs1 hl1 hi1) h
               ·rw [qck] at h
                refine qa hX ?_
                revert h
                refine bndk fun y26 e27 h=>?_
                conv=>whnf
                repeat((first|refine dw ?_|refine qg (qi _) ?_|refine bcf (qD hi1) ?_);conv=>whnf)
                refine qhc hX e27 ?_
                revert h
                refine bndk fun y28 e29 h=>?_
                conv=>whnf
                repeat((first|refine dw ?_);conv=>whnf)
                refine qhc hX e29 ?_
                revert h
                refine bndk fun y30 e31 h=>?_
                conv=>whnf
                repeat((first|refine dw ?_);conv=>whnf)
                refine qgD hX e31 ?_
                conv=>whnf
                repeat((first|refine dw ?_);conv=>whnf)
                revert h
                refine brk (fun c32 h=>?_) (fun c32 h=>?_)
                ·conv=>whnf
                 repeat((first|refine dw ?_|refine bct c32 ?_);conv=>whnf)
                 revert h
                 refine brk (fun c33 h=>?_) (fun c33 h=>?_)
                 ·conv=>whnf
                  repeat((first|refine dw ?_|refine bct c33 ?_);conv=>whnf)
                  exact K _ h
                 ·conv=>whnf
                  repeat((first|refine dw ?_|refine bcf c33 ?_);conv=>whnf)
                  exact K _ h
                ·conv=>whnf
                 repeat((first|refine dw ?_|refine bcf c32 ?_);conv=>whnf)
                 exact K _ h
theorem qhO:∀ (n:Nat) {p0:Pred} {r:Pred} {Q:A→List Blk→Prop} (h:qbk n p0=some r) (hQ:Q (.agg (Pred.cs r)) []),X (.call 113 [.agg (Pred.cs p0)] [] Q):=by
  intro n
  induction n with
  | zero=>intro p0 r Q h; cases h
  | succ n ih =>
    intro p0 r Q h hQ
    replace h:qd2 (qbk n) p0=some r:=h
    generalize qbk n=rc at ih h
    unfold qd2 at h
    refine qJ hX ?_
    conv=>whnf
    refine qb hX Tryz.func113 rfl rfl ?_
    revert h
    refine chkk fun hs1 h=>?_
    conv=>whnf
    repeat((first|refine dw ?_|refine qg (Pred.pmap_len _) ?_);conv=>whnf)
    refine qeP hX [5,0] ?_
    conv=>whnf
    refine qO (fun (v1:Int) (v2:List Pred)=>pad [(1,.one (.ptr 0 0)),(0,.one (.ptr 2 0)),(6,.one (.p (.sl (Pred.rows p0.kids)))),(0,iv (p0.kids.length:Int)),(0,iv v1)] 12) (fun (v1:Int) (v2:List Pred)=>[.box [ic p0.op,.p (.v (.string p0.text)),ic p0.n,.p (.v (.complex .f64 p0.re p0.im)),.own 1],.rows 5 (Pred.rows v2),.box [ic 0,.p (.v (.string ⟨#[]⟩)),ic 0,.p (.v (.complex .f64 0 0)),.own 3],.rows 0 []]) _ p0.kids (fun pre1 x1e xs1 v1 v2 hl1 hi1 h ih1=>?_) (fun v1 v2 hi1 h=>?_) ([]:List Pred) h
    ·rw [qbr] at h
     have am1:=qB hl1 hi1
     refine qa hX ?_
     revert h
     refine bndk fun y3 e4 h=>?_
     conv=>whnf
     repeat((first|refine dw ?_|refine bct (qC hl1 hi1) ?_|refine bct (Pred.pat_in am1) ?_|refine bct (andt (Pred.pat_in am1) rfl) ?_|refine qe (Pred.pat_row am1) ?_|refine bct (andt (Pred.pat_in (qd am1)) rfl) ?_|refine qe (Pred.pat_row (qd am1)) ?_);conv=>whnf)
     refine ih e4 ?_
     revert h
     refine chkk fun c5 h=>?_
     conv=>whnf
     repeat((first|refine dw ?_|refine bct (Pred.proom_map c5 rfl rfl rfl rfl) ?_|refine qg (Pred.pcat_one v2 y3) ?_);conv=>whnf)
     exact ih1 _ (v2++[y3]) (wrL hs1 hl1 hi1) h
    ·rw [qbr] at h
     refine qa hX ?_
     conv=>whnf
     repeat((first|refine dw ?_|refine bcf (qD hi1) ?_);conv=>whnf)
     exact qm (f:=fun y=>.agg (Pred.cs y)) (g:=fun y=>[]) h hQ
theorem qeV  {p0:Know} {r:Know} (h:qaF p0=some r) (hQ:Q (.agg (Know.cs r)) []):X (.call 127 [.agg (Know.cs p0)] [] Q):=by
  unfold qaF at h
  refine qJ hX ?_
  conv=>whnf
  refine qb hX Tryz.func127 rfl rfl ?_
  revert h
  refine chkk fun hs1 h=>?_
  conv=>whnf
  repeat((first|refine dw ?_|refine qg (qi _) ?_);conv=>whnf)
  refine qfL hX ?_
  conv=>whnf
  refine qeP hX [0,9] ?_
  conv=>whnf
  refine qO (fun (v1:Int) (v2:List Frag)=>pad [(2,.one (.ptr 0 0)),(0,.one (.ptr 2 0)),(6,.one (.p (.sl (p0.l.map Frag.row)))),(0,iv (p0.l.length:Int)),(0,iv v1)] 16) (fun (v1:Int) (v2:List Frag)=>[.box [ic 0,ic 0,ic 0,ic 0,ic 0,ic 0,ic 0,ic 0,.own 1],.rows 0 [],.box [ic p0.star.x0,ic p0.star.x1,ic p0.star.x2,ic p0.star.x3,ic p0.star.x4,ic p0.star.x5,ic p0.star.x6,ic p0.star.x7,.own 3],.rows 9 (v2.map Frag.row)]) _ p0.l (fun pre1 x1e xs1 v1 v2 hl1 hi1 h ih1=>?_) (fun v1 v2 hi1 h=>?_) ([]:List Frag) h
  ·rw [qbs] at h
   have am1:=qB hl1 hi1
   refine qa hX ?_
   revert h
   refine bndk fun y3 e4 h=>?_
   conv=>whnf
   repeat((first|refine dw ?_|refine bct (qC hl1 hi1) ?_|refine bct (qc am1) ?_|refine bct (andt (qc am1) rfl) ?_|refine qe (qf am1) ?_|refine bct (andt (qc (qd am1)) rfl) ?_|refine qe (qf (qd am1)) ?_);conv=>whnf)
   refine qfx (f:=srw) (k:=1) (fun _=>rfl) (by decide) hX e4 ?_
   revert h
   refine chkk fun c5 h=>?_
   conv=>whnf
   repeat((first|refine dw ?_|refine bct (qx c5 rfl rfl rfl rfl) ?_|refine qg (qH (f:=Frag.row) v2 (Frag.mk y3 x1e.vec)) ?_);conv=>whnf)
   exact ih1 _ (v2++[(Frag.mk y3 x1e.vec)]) (wrL hs1 hl1 hi1) h
  ·rw [qbs] at h
   refine qa hX ?_
   conv=>whnf
   repeat((first|refine dw ?_|refine bcf (qD hi1) ?_);conv=>whnf)
   exact qm (f:=fun y=>.agg (Know.cs y)) (g:=fun y=>[]) h hQ
theorem qqK  {p0:State} {p1:Int} {p2:Int} {r:Sess × Msg} (h:qfg p0 p1 p2=some r) (hQ:Q (.tup [.agg (Sess.cs r.1),.agg (Msg.cs r.2)]) []):X (.call 62 [.agg (State.cs p0),iv p1,iv p2] [] Q):=by
  unfold qfg at h
  refine qJ hX ?_
  conv=>whnf
  refine qb hX Tryz.func62 rfl rfl ?_
  revert h
  refine bndk fun y1 e2 h=>?_
  conv=>whnf
  repeat((first|refine dw ?_);conv=>whnf)
  refine qhO hX ql9 e2 ?_
  revert h
  refine bndk fun y3 e4 h=>?_
  conv=>whnf
  repeat((first|refine dw ?_);conv=>whnf)
  refine qeV hX e4 ?_
  revert h
  refine chkk fun hs1 h=>?_
  conv=>whnf
  repeat((first|refine dw ?_|refine qg (qi _) ?_);conv=>whnf)
  refine qfL hX ?_
  conv=>whnf
  refine qeP hX [0,0,0,0,0,0,0,4,0] ?_
  conv=>whnf
  refine qO (fun (v5:Int) (v6:List Has)=>pad [(1,iv p1),(0,iv p2),(0,.one (.ptr 0 0)),(2,.one (.ptr 1 0)),(0,.one (.ptr 5 0)),(0,.one (.ptr 10 0)),(14,.one (.p (.sl (p0.store.map Item.row)))),(0,iv (p0.store.length:Int)),(0,iv v5)] 22) (fun (v5:Int) (v6:List Has)=>[.box (State.cs p0),.box [ic 0,ic 0,ic 0,ic 0,.own 2,.p (.v (.bool false)),.p (.v (.bool false)),.p (.v (.bool false)),ic 0,ic 0,ic 0,ic 0,ic 0,ic 0,ic 0,ic 0,ic 0,.own 3,.own 4],.rows 0 [],.rows 0 [],.rows 0 [],.box [ic 0,ic 0,ic 0,ic 0,ic 0,ic 0,.p (.v (.string ⟨#[]⟩)),ic 0,.p (.v (.complex .f64 0 0)),.own 6,ic 0,ic 0,ic 0,ic 0,ic 0,ic 0,ic 0,ic 0,.own 7,.own 8,ic 0,.own 9,.p (.v (.bool false))],.rows 0 [],.rows 0 [],.rows 0 [],.rows 0 [],.box [ic 1,ic p0.r,ic p1,ic p2,ic 0,ic y1.op,.p (.v (.string y1.text)),ic y1.n,.p (.v (.complex .f64 y1.re y1.im)),.p (.sl (Pred.rows y1.kids)),ic y3.star.x0,ic y3.star.x1,ic y3.star.x2,ic y3.star.x3,ic y3.star.x4,ic y3.star.x5,ic y3.star.x6,ic y3.star.x7,.p (.sl (y3.l.map Frag.row)),.own 11,ic 0,.own 12,.p (.v (.bool false))],.rows 4 (v6.map Has.row),.rows 0 []]) _ p0.store (fun pre1 x1e xs1 v5 v6 hl1 hi1 h ih1=>?_) (fun v5 v6 hi1 h=>?_) ([]:List Has) h
  ·rw [qdb] at h
   have am1:=qB hl1 hi1
   refine qa hX ?_
   revert h
   refine chkk fun c7 h=>?_
   conv=>whnf
   repeat((first|refine dw ?_|refine bct (qC hl1 hi1) ?_|refine bct (qc am1) ?_|refine bct (andt (qc am1) rfl) ?_|refine qe (qf am1) ?_|refine bct (andt (qc (qd am1)) rfl) ?_|refine qe (qf (qd am1)) ?_|refine bct (qx c7 rfl rfl rfl rfl) ?_|refine qg (qH (f:=Has.row) v6 (Has.mk x1e.id x1e.vr x1e.vc x1e.stamp)) ?_);conv=>whnf)
   exact ih1 _ (v6++[(Has.mk x1e.id x1e.vr x1e.vc x1e.stamp)]) (wrL hs1 hl1 hi1) h
  ·rw [qdb] at h
   refine qa hX ?_
   conv=>whnf
   repeat((first|refine dw ?_|refine bcf (qD hi1) ?_);conv=>whnf)
   exact qm (f:=fun y=>.tup [.agg (Sess.cs y.1),.agg (Msg.cs y.2)]) (g:=fun y=>[]) h hQ
theorem qmB  {p0:State} {p1:Int} {p2:Int} {r:Sess × Msg} (h:qd3 p0 p1 p2=some r) (hQ:Q (.tup [.agg (Sess.cs r.1),.agg (Msg.cs r.2)]) []):X (.call 26 [.agg (State.cs p0),iv p1,iv p2] [] Q):=by
  unfold qd3 at h
  refine qJ hX ?_
  conv=>whnf
  refine qb hX Tryz.func26 rfl rfl ?_
  revert h
  refine chkk fun hs1 h=>?_
  conv=>whnf
  repeat((first|refine dw ?_);conv=>whnf)
  refine qfL hX ?_
  conv=>whnf
  refine qeP hX [0,0,0,0,0,0,0,4,0] ?_
  conv=>whnf
  refine qO (fun (v1:Int) (v2:List Has)=>pad [(1,iv p1),(0,iv p2),(0,.one (.ptr 0 0)),(2,.one (.ptr 1 0)),(0,.one (.ptr 5 0)),(0,.one (.ptr 10 0)),(0,iv v1)] 46) (fun (v1:Int) (v2:List Has)=>[.box (State.cs p0),.box [ic 0,ic 0,ic 0,ic 0,.own 2,.p (.v (.bool false)),.p (.v (.bool false)),.p (.v (.bool false)),ic 0,ic 0,ic 0,ic 0,ic 0,ic 0,ic 0,ic 0,ic 0,.own 3,.own 4],.rows 0 [],.rows 0 [],.rows 0 [],.box [ic 0,ic 0,ic 0,ic 0,ic 0,ic 0,.p (.v (.string ⟨#[]⟩)),ic 0,.p (.v (.complex .f64 0 0)),.own 6,ic 0,ic 0,ic 0,ic 0,ic 0,ic 0,ic 0,ic 0,.own 7,.own 8,ic 0,.own 9,.p (.v (.bool false))],.rows 0 [],.rows 0 [],.rows 0 [],.rows 0 [],.box [ic 1,ic p0.r,ic p1,ic p2,ic 0,ic p0.f.op,.p (.v (.string p0.f.text)),ic p0.f.n,.p (.v (.complex .f64 p0.f.re p0.f.im)),.p (.sl (Pred.rows p0.f.kids)),ic p0.k.star.x0,ic p0.k.star.x1,ic p0.k.star.x2,ic p0.k.star.x3,ic p0.k.star.x4,ic p0.k.star.x5,ic p0.k.star.x6,ic p0.k.star.x7,.p (.sl (p0.k.l.map Frag.row)),.own 11,ic 0,.own 12,.p (.v (.bool false))],.rows 4 (v2.map Has.row),.rows 0 []]) _ p0.store (fun pre1 x1e xs1 v1 v2 hl1 hi1 h ih1=>?_) (fun v1 v2 hi1 h=>?_) ([]:List Has) h
  ·rw [qbt] at h
   have am1:=qB hl1 hi1
   refine qa hX ?_
   revert h
   refine chkk fun c3 h=>?_
   conv=>whnf
   repeat((first|refine dw ?_|refine qg (qi _) ?_|refine bct (qC hl1 hi1) ?_|refine bct (qc am1) ?_|refine bct (andt (qc am1) rfl) ?_|refine qe (qf am1) ?_|refine bct (andt (qc (qd am1)) rfl) ?_|refine qe (qf (qd am1)) ?_|refine bct (qx c3 rfl rfl rfl rfl) ?_|refine qg (qH (f:=Has.row) v2 (Has.mk x1e.id x1e.vr x1e.vc x1e.stamp)) ?_);conv=>whnf)
   exact ih1 _ (v2++[(Has.mk x1e.id x1e.vr x1e.vc x1e.stamp)]) (wrL hs1 hl1 hi1) h
  ·rw [qbt] at h
   refine qa hX ?_
   conv=>whnf
   repeat((first|refine dw ?_|refine qg (qi _) ?_|refine bcf (qD hi1) ?_);conv=>whnf)
   exact qm (f:=fun y=>.tup [.agg (Sess.cs y.1),.agg (Msg.cs y.2)]) (g:=fun y=>[]) h hQ
theorem qht  {p0:Entry} {p1:Entry} {r:Bool} (h:qbd p0 p1=some r) (hQ:Q (.one (.p (.v (.bool r)))) []):X (.call 192 [.agg (Entry.cs p0),.agg (Entry.cs p1)] [] Q):=by
  have K:=fun a (e:some a=some r)=>qm (f:=fun y=>.one (.p (.v (.bool y)))) (g:=fun y=>[]) e hQ
  unfold qbd at h
  refine qb hX Tryz.func192 rfl rfl ?_
  revert h
  refine bndk fun y1 e2 h=>?_
  conv=>whnf
  repeat((first|refine dw ?_);conv=>whnf)
  refine qhK hX e2 ?_
  conv=>whnf
  repeat((first|refine dw ?_);conv=>whnf)
  revert h
  refine brk (fun c3 h=>?_) (fun c3 h=>?_)
  ·conv=>whnf
   repeat((first|refine dw ?_|refine bct c3 ?_);conv=>whnf)
   revert h
   refine brk (fun c4 h=>?_) (fun c4 h=>?_)
   ·conv=>whnf
    repeat((first|refine dw ?_|refine bct c4 ?_);conv=>whnf)
    exact K _ h
   ·conv=>whnf
    repeat((first|refine dw ?_|refine bcf c4 ?_);conv=>whnf)
    exact K _ h
  ·conv=>whnf
   repeat((first|refine dw ?_|refine bcf c3 ?_);conv=>whnf)
   exact K _ h
theorem qeB  {p0:List Entry} {p1:List Entry} {r:Bool} (h:qY p0 p1=some r) (hQ:Q (.one (.p (.v (.bool r)))) []):X (.call 136 [.one (.p (.sl (p0.map Entry.row))),.one (.p (.sl (p1.map Entry.row)))] [] Q):=by
  have K:=fun a (e:some a=some r)=>qm (f:=fun y=>.one (.p (.v (.bool y)))) (g:=fun y=>[]) e hQ
  unfold qY at h
  refine qb hX Tryz.func136 rfl rfl ?_
  conv=>whnf
  repeat((first|refine dw ?_|refine qg (qi _) ?_);conv=>whnf)
  revert h
  refine brk (fun c1 h=>?_) (fun c1 h=>?_)
  ·conv=>whnf
   repeat((first|refine dw ?_|refine bct c1 ?_);conv=>whnf)
   exact K _ h
  ·revert h
   refine chkk fun hs1 h=>?_
   conv=>whnf
   repeat((first|refine dw ?_|refine bcf c1 ?_);conv=>whnf)
   refine qI (fun (v2:Int)=>pad [(0,.one (.p (.sl (p0.map Entry.row)))),(0,.one (.p (.sl (p1.map Entry.row)))),(3,iv v2)] 23) (fun (v2:Int)=>[]) _ p0 (fun pre1 x1e xs1 v2  hl1 hi1 h ih1=>?_) (fun v2  hi1 h=>?_)  h
   ·rw [qR] at h
    have am1:=qB hl1 hi1
    refine qa hX ?_
    revert h
    refine bndk fun x3 a4 h=>?_
    revert h
    refine bndk fun y5 e6 h=>?_
    conv=>whnf
    repeat((first|refine dw ?_|refine qg (qi _) ?_|refine bct (qC hl1 hi1) ?_|refine bct (qc am1) ?_|refine bct (andt (qc am1) rfl) ?_|refine qe (qf am1) ?_|refine bct (andt (qc (qd am1)) rfl) ?_|refine qe (qf (qd am1)) ?_|refine bct (qc a4) ?_|refine bct (andt (qc a4) rfl) ?_|refine qe (qf a4) ?_|refine bct (andt (qc (qd a4)) rfl) ?_|refine qe (qf (qd a4)) ?_);conv=>whnf)
    refine qht hX e6 ?_
    conv=>whnf
    repeat((first|refine dw ?_);conv=>whnf)
    revert h
    refine brk (fun c7 h=>?_) (fun c7 h=>?_)
    ·conv=>whnf
     repeat((first|refine dw ?_|refine bct c7 ?_);conv=>whnf)
     exact K _ h
    ·conv=>whnf
     repeat((first|refine dw ?_|refine bcf c7 ?_);conv=>whnf)
     exact ih1 _  (wrL hs1 hl1 hi1) h
   ·rw [qR] at h
    refine qa hX ?_
    conv=>whnf
    repeat((first|refine dw ?_|refine qg (qi _) ?_|refine bcf (qD hi1) ?_);conv=>whnf)
    exact K _ h
theorem qhP  {p0:Sess} {p1:Sess} {r:Bool} (h:qcl p0 p1=some r) (hQ:Q (.one (.p (.v (.bool r)))) []):X (.call 61 [.agg (Sess.cs p0),.agg (Sess.cs p1)] [] Q):=by
  have K:=fun a (e:some a=some r)=>qm (f:=fun y=>.one (.p (.v (.bool y)))) (g:=fun y=>[]) e hQ
  unfold qcl at h
  refine qb hX Tryz.func61 rfl rfl ?_
  conv=>whnf
  repeat((first|refine dw ?_);conv=>whnf)
  revert h
  refine brk (fun c1 h=>?_) (fun c1 h=>?_)
  ·conv=>whnf
   repeat((first|refine dw ?_|refine bct c1 ?_);conv=>whnf)
   exact K _ h
  ·conv=>whnf
   repeat((first|refine dw ?_|refine bcf c1 ?_);conv=>whnf)
   revert h
   refine brk (fun c2 h=>?_) (fun c2 h=>?_)
   ·conv=>whnf
    repeat((first|refine dw ?_|refine bct c2 ?_);conv=>whnf)
    exact K _ h
   ·conv=>whnf
    repeat((first|refine dw ?_|refine bcf c2 ?_);conv=>whnf)
    revert h
    refine brk (fun c3 h=>?_) (fun c3 h=>?_)
    ·conv=>whnf
     repeat((first|refine dw ?_|refine bct c3 ?_);conv=>whnf)
     exact K _ h
    ·conv=>whnf
     repeat((first|refine dw ?_|refine bcf c3 ?_);conv=>whnf)
     revert h
     refine brk (fun c4 h=>?_) (fun c4 h=>?_)
     ·conv=>whnf
      repeat((first|refine dw ?_|refine bct c4 ?_);conv=>whnf)
      exact K _ h
     ·conv=>whnf
      repeat((first|refine dw ?_|refine bcf c4 ?_);conv=>whnf)
      revert h
      refine brk (fun c5 h=>?_) (fun c5 h=>?_)
      ·conv=>whnf
       repeat((first|refine dw ?_|refine bct c5 ?_);conv=>whnf)
       exact K _ h
      ·conv=>whnf
       repeat((first|refine dw ?_|refine bcf c5 ?_);conv=>whnf)
       revert h
       refine brk (fun c6 h=>?_) (fun c6 h=>?_)
       ·conv=>whnf
        repeat((first|refine dw ?_|refine bct c6 ?_);conv=>whnf)
        exact K _ h
       ·conv=>whnf
        repeat((first|refine dw ?_|refine bcf c6 ?_);conv=>whnf)
        revert h
        refine brk (fun c7 h=>?_) (fun c7 h=>?_)
        ·conv=>whnf
         repeat((first|refine dw ?_|refine bct c7 ?_);conv=>whnf)
         exact K _ h
        ·conv=>whnf
         repeat((first|refine dw ?_|refine bcf c7 ?_);conv=>whnf)
         revert h
         refine brk (fun c8 h=>?_) (fun c8 h=>?_)
         ·conv=>whnf
          repeat((first|refine dw ?_|refine bct c8 ?_);conv=>whnf)
          exact K _ h
         ·conv=>whnf
          repeat((first|refine dw ?_|refine bcf c8 ?_|refine qg (qi _) ?_);conv=>whnf)
          revert h
          refine brk (fun c9 h=>?_) (fun c9 h=>?_)
          ·conv=>whnf
           repeat((first|refine dw ?_|refine bct c9 ?_);conv=>whnf)
           exact K _ h
          ·revert h
           refine chkk fun hs1 h=>?_
           conv=>whnf
           repeat((first|refine dw ?_|refine bcf c9 ?_);conv=>whnf)
           refine qI (fun (v10:Int)=>pad [(2,.one (.ptr 0 0)),(0,.one (.ptr 1 0)),(1,iv v10)] 97) (fun (v10:Int)=>[.box (Sess.cs p0),.box (Sess.cs p1)]) _ p0.got (fun pre1 x1e xs1 v10  hl1 hi1 h ih1=>?_) (fun v10  hi1 h=>?_)  h
           ·rw [qbu] at h
            have am1:=qB hl1 hi1
            refine qa hX ?_
            revert h
            refine bndk fun x11 a12 h=>?_
            conv=>whnf
            repeat((first|refine dw ?_|refine qg (qi _) ?_|refine bct (qC hl1 hi1) ?_|refine bct (qc am1) ?_|refine bct (andt (qc am1) rfl) ?_|refine qe (qf am1) ?_|refine bct (andt (qc (qd am1)) rfl) ?_|refine qe (qf (qd am1)) ?_|refine bct (qc a12) ?_|refine bct (andt (qc a12) rfl) ?_|refine qe (qf a12) ?_|refine bct (andt (qc (qd a12)) rfl) ?_|refine qe (qf (qd a12)) ?_);conv=>whnf)
            revert h
            refine brk (fun c13 h=>?_) (fun c13 h=>?_)
            ·conv=>whnf
             repeat((first|refine dw ?_|refine bct c13 ?_);conv=>whnf)
             exact K _ h
            ·conv=>whnf
             repeat((first|refine dw ?_|refine bcf c13 ?_);conv=>whnf)
             exact ih1 _  (wrL hs1 hl1 hi1) h
           ·rw [qbu] at h
            refine qa hX ?_
            revert h
            refine bndk fun y14 e15 h=>?_
            conv=>whnf
            repeat((first|refine dw ?_|refine qg (qi _) ?_|refine bcf (qD hi1) ?_);conv=>whnf)
            refine qem hX e15 ?_
            revert h
            refine bndk fun y16 e17 h=>?_
            conv=>whnf
            repeat((first|refine dw ?_);conv=>whnf)
            refine qeB hX e17 ?_
            conv=>whnf
            repeat((first|refine dw ?_);conv=>whnf)
            revert h
            refine brk (fun c18 h=>?_) (fun c18 h=>?_)
            ·conv=>whnf
             repeat((first|refine dw ?_|refine bct c18 ?_);conv=>whnf)
             exact K _ h
            ·conv=>whnf
             repeat((first|refine dw ?_|refine bcf c18 ?_);conv=>whnf)
             exact K _ h
theorem qhQ  {p0:Sess} {r:Sess} (h:qdn p0=some r) (hQ:Q (.agg (Sess.cs r)) []):X (.call 60 [.agg (Sess.cs p0)] [] Q):=by
 unfold qdn at h
 refine qJ hX ?_
 conv=>whnf
 refine qb hX Tryz.func60 rfl rfl ?_
 conv=>whnf
 repeat((first|refine dw ?_);conv=>whnf)
 exact qm (f:=fun y=>.agg (Sess.cs y)) (g:=fun y=>[]) h hQ
theorem qiV  {p0:Msg} {p1:Msg} {r:Bool} (h:qac p0 p1=some r) (hQ:Q (.one (.p (.v (.bool r)))) []):X (.call 63 [.agg (Msg.cs p0),.agg (Msg.cs p1)] [] Q):=by
  have K:=fun a (e:some a=some r)=>qm (f:=fun y=>.one (.p (.v (.bool y)))) (g:=fun y=>[]) e hQ
  unfold qac at h
  refine qb hX Tryz.func63 rfl rfl ?_
  conv=>whnf
  repeat((first|refine dw ?_);conv=>whnf)
  revert h
  refine brk (fun c1 h=>?_) (fun c1 h=>?_)
  ·conv=>whnf
   repeat((first|refine dw ?_|refine bct c1 ?_);conv=>whnf)
   exact K _ h
  ·conv=>whnf
   repeat((first|refine dw ?_|refine bcf c1 ?_);conv=>whnf)
   revert h
   refine brk (fun c2 h=>?_) (fun c2 h=>?_)
   ·conv=>whnf
    repeat((first|refine dw ?_|refine bct c2 ?_);conv=>whnf)
    exact K _ h
   ·conv=>whnf
    repeat((first|refine dw ?_|refine bcf c2 ?_);conv=>whnf)
    revert h
    refine brk (fun c3 h=>?_) (fun c3 h=>?_)
    ·conv=>whnf
     repeat((first|refine dw ?_|refine bct c3 ?_);conv=>whnf)
     exact K _ h
    ·conv=>whnf
     repeat((first|refine dw ?_|refine bcf c3 ?_);conv=>whnf)
     revert h
     refine brk (fun c4 h=>?_) (fun c4 h=>?_)
     ·conv=>whnf
      repeat((first|refine dw ?_|refine bct c4 ?_);conv=>whnf)
      exact K _ h
     ·conv=>whnf
      repeat((first|refine dw ?_|refine bcf c4 ?_);conv=>whnf)
      revert h
      refine brk (fun c5 h=>?_) (fun c5 h=>?_)
      ·conv=>whnf
       repeat((first|refine dw ?_|refine bct c5 ?_);conv=>whnf)
       exact K _ h
      ·conv=>whnf
       repeat((first|refine dw ?_|refine bcf c5 ?_);conv=>whnf)
       revert h
       refine brk (fun c6 h=>?_) (fun c6 h=>?_)
       ·conv=>whnf
        repeat((first|refine dw ?_|refine bct c6 ?_);conv=>whnf)
        exact K _ h
       ·conv=>whnf
        repeat((first|refine dw ?_|refine bcf c6 ?_);conv=>whnf)
        revert h
        refine brk (fun c7 h=>?_) (fun c7 h=>?_)
        ·conv=>whnf
         repeat((first|refine dw ?_|refine bct c7 ?_);conv=>whnf)
         exact K _ h
        ·conv=>whnf
         repeat((first|refine dw ?_|refine bcf c7 ?_|refine qg (qi _) ?_);conv=>whnf)
         revert h
         refine brk (fun c8 h=>?_) (fun c8 h=>?_)
         ·conv=>whnf
          repeat((first|refine dw ?_|refine bct c8 ?_);conv=>whnf)
          exact K _ h
         ·revert h
          refine chkk fun hs1 h=>?_
          conv=>whnf
          repeat((first|refine dw ?_|refine bcf c8 ?_);conv=>whnf)
          refine qI (fun (v9:Int)=>pad [(2,.one (.ptr 0 0)),(0,.one (.ptr 1 0)),(1,iv v9)] 131) (fun (v9:Int)=>[.box (Msg.cs p0),.box (Msg.cs p1)]) _ p0.have_ (fun pre1 x1e xs1 v9  hl1 hi1 h ih1=>?_) (fun v9  hi1 h=>?_)  h
          ·rw [qaf] at h
           have am1:=qB hl1 hi1
           refine qa hX ?_
           revert h
           refine bndk fun x10 a11 h=>?_
           conv=>whnf
           repeat((first|refine dw ?_|refine qg (qi _) ?_|refine bct (qC hl1 hi1) ?_|refine bct (qc am1) ?_|refine bct (andt (qc am1) rfl) ?_|refine qe (qf am1) ?_|refine bct (andt (qc (qd am1)) rfl) ?_|refine qe (qf (qd am1)) ?_|refine bct (qc a11) ?_|refine bct (andt (qc a11) rfl) ?_|refine qe (qf a11) ?_|refine bct (andt (qc (qd a11)) rfl) ?_|refine qe (qf (qd a11)) ?_);conv=>whnf)
           revert h
           refine brk (fun c12 h=>?_) (fun c12 h=>?_)
           ·conv=>whnf
            repeat((first|refine dw ?_|refine bct c12 ?_);conv=>whnf)
            exact K _ h
           ·conv=>whnf
            repeat((first|refine dw ?_|refine bcf c12 ?_|refine bct (qc am1) ?_|refine bct (andt (qc am1) rfl) ?_|refine qe (qf am1) ?_|refine bct (andt (qc (qd am1)) rfl) ?_|refine qe (qf (qd am1)) ?_|refine bct (qc a11) ?_|refine bct (andt (qc a11) rfl) ?_|refine qe (qf a11) ?_|refine bct (andt (qc (qd a11)) rfl) ?_|refine qe (qf (qd a11)) ?_);conv=>whnf)
            revert h
            refine brk (fun c13 h=>?_) (fun c13 h=>?_)
            ·conv=>whnf
             repeat((first|refine dw ?_|refine bct c13 ?_);conv=>whnf)
             exact K _ h
            ·conv=>whnf
             repeat((first|refine dw ?_|refine bcf c13 ?_|refine bct (qc am1) ?_|refine bct (andt (qc am1) rfl) ?_|refine qe (qf am1) ?_|refine bct (andt (qc (qd am1)) rfl) ?_|refine qe (qf (qd am1)) ?_|refine bct (qc a11) ?_|refine bct (andt (qc a11) rfl) ?_|refine qe (qf a11) ?_|refine bct (andt (qc (qd a11)) rfl) ?_|refine qe (qf (qd a11)) ?_);conv=>whnf)
             revert h
             refine brk (fun c14 h=>?_) (fun c14 h=>?_)
             ·conv=>whnf
              repeat((first|refine dw ?_|refine bct c14 ?_);conv=>whnf)
              exact K _ h
             ·conv=>whnf
              repeat((first|refine dw ?_|refine bcf c14 ?_);conv=>whnf)
              exact ih1 _  (wrL hs1 hl1 hi1) h
          ·rw [qaf] at h
           refine qa hX ?_
           revert h
           refine bndk fun y15 e16 h=>?_
           conv=>whnf
           repeat((first|refine dw ?_|refine qg (qi _) ?_|refine bcf (qD hi1) ?_);conv=>whnf)
           refine qhL hX e16 ?_
           revert h
           refine bndk fun y17 e18 h=>?_
           conv=>whnf
           repeat((first|refine dw ?_);conv=>whnf)
           refine qem hX e18 ?_
           revert h
           refine bndk fun y19 e20 h=>?_
           conv=>whnf
           repeat((first|refine dw ?_);conv=>whnf)
           refine qeB hX e20 ?_
           conv=>whnf
           repeat((first|refine dw ?_);conv=>whnf)
           revert h
           refine brk (fun c21 h=>?_) (fun c21 h=>?_)
           ·conv=>whnf
            repeat((first|refine dw ?_|refine bct c21 ?_);conv=>whnf)
            revert h
            refine brk (fun c22 h=>?_) (fun c22 h=>?_)
            ·conv=>whnf
             repeat((first|refine dw ?_|refine bct c22 ?_);conv=>whnf)
             exact K _ h
            ·conv=>whnf
             repeat((first|refine dw ?_|refine bcf c22 ?_);conv=>whnf)
             exact K _ h
           ·conv=>whnf
            repeat((first|refine dw ?_|refine bcf c21 ?_);conv=>whnf)
            exact K _ h
end
end Go.Proofs.YtidkmoohgadjkaaGreat
set_option maxHeartbeats 4000000
namespace Go.Proofs.YtidkmoohgadjkaaGreat
open Go.Shelf Go.RowKit Go.Maps Go.Sort
def qmC:Go.Shelf.Ren:=⟨fun | 7=>201 | 10=>231 | n=>n,fun | 23=>228 | 26=>9 | 3=>28 | 28=>232 | 0=>0 | 27=>231 | 33=>141 | 4=>4 | n=>n,fun | n=>n⟩
theorem qBY:SlLaysZ.n7 Tryz.prog qmC:={
 mixed:=by kernel_rfl
 f7:=⟨Tryz.f201.name,by decide,Tryz.func201.trans (congrArg some (by kernel_rfl))⟩
 f10:=⟨Tryz.f231.name,by decide,Tryz.func231.trans (congrArg some (by kernel_rfl))⟩
 t0:=Tryz.underlying0
 a0:=Tryz.isAgg0
 z0:=Tryz.sizeOf0
 v0:=Tryz.zeroValue0
 t4:=Tryz.underlying4
 a4:=Tryz.isAgg4
 z4:=Tryz.sizeOf4
 v4:=Tryz.zeroValue4
 t23:=Tryz.underlying228
 a23:=Tryz.isAgg228
 z23:=Tryz.sizeOf228
 v23:=Tryz.zeroValue228
 t26:=Tryz.underlying9
 a26:=Tryz.isAgg9
 z26:=Tryz.sizeOf9
 v26:=Tryz.zeroValue9
 t27:=Tryz.underlying231
 a27:=Tryz.isAgg231
 z27:=Tryz.sizeOf231
 v27:=Tryz.zeroValue231
 t28:=Tryz.underlying232
 a28:=Tryz.isAgg232
 z28:=Tryz.sizeOf232
 v28:=Tryz.zeroValue232
 t33:=Tryz.underlying141
 a33:=Tryz.isAgg141
 z33:=Tryz.sizeOf141
 v33:=Tryz.zeroValue141 }
def qiW:Go.Shelf.Ren:=⟨fun | 6=>200 | 8=>229 | 9=>230 | 11=>244 | 13=>246 | 12=>245 | 23=>260 | 24=>261 | 14=>251 | 15=>252 | 16=>253 | 17=>254 | 18=>255 | 19=>256 | 20=>257 | 21=>258 | 22=>259 | 25=>266 | 26=>267 | 27=>268 | 28=>269 | 29=>270 | 30=>240 | 31=>271 | n=>n,fun | 26=>9 | 28=>232 | 24=>151 | 0=>0 | 3=>3 | 37=>246 | 48=>268 | 50=>270 | 4=>4 | 40=>262 | 39=>261 | 45=>204 | 5=>5 | 9=>9 | 51=>274 | 55=>193 | 57=>279 | 58=>280 | 33=>141 | n=>n,fun | n=>n⟩
theorem qyb:SlLaysZ.n6 Tryz.prog qiW:={
 mixed:=by kernel_rfl
 f6:=⟨Tryz.f200.name,by decide,Tryz.func200.trans (congrArg some (by kernel_rfl))⟩
 f8:=⟨Tryz.f229.name,by decide,Tryz.func229.trans (congrArg some (by kernel_rfl))⟩
 f11:=⟨Tryz.f244.name,by decide,Tryz.func244.trans (congrArg some (by kernel_rfl))⟩
 t0:=Tryz.underlying0
 a0:=Tryz.isAgg0
 z0:=Tryz.sizeOf0
 v0:=Tryz.zeroValue0
 t24:=Tryz.underlying151
 a24:=Tryz.isAgg151
 z24:=Tryz.sizeOf151
 v24:=Tryz.zeroValue151
 t26:=Tryz.underlying9
 a26:=Tryz.isAgg9
 z26:=Tryz.sizeOf9
 v26:=Tryz.zeroValue9
 t28:=Tryz.underlying232
 a28:=Tryz.isAgg232
 z28:=Tryz.sizeOf232
 v28:=Tryz.zeroValue232
 i26:=by kernel_rfl }
def qsU:Go.Shelf.Ren:=⟨fun | 6=>230 | 8=>246 | 9=>245 | 19=>260 | 20=>261 | 21=>251 | 22=>252 | 23=>253 | 24=>254 | 25=>255 | 26=>256 | 27=>257 | 28=>258 | 29=>259 | 36=>266 | 31=>267 | 32=>268 | 37=>269 | 38=>270 | 39=>240 | 41=>271 | n=>n,fun | 27=>151 | 29=>9 | 3=>3 | 32=>246 | 26=>151 | 0=>0 | 44=>268 | 46=>270 | 4=>4 | 36=>262 | 35=>261 | 41=>204 | 5=>5 | 9=>9 | 53=>274 | 57=>193 | 63=>279 | 64=>280 | n=>n,fun | n=>n⟩
theorem qAb:SlLaysM.n6 Tryz.prog qsU:={
 mixed:=by kernel_rfl
 f6:=⟨Tryz.f230.name,by decide,Tryz.func230.trans (congrArg some (by kernel_rfl))⟩
 f8:=Tryz.func246.trans (congrArg some (by kernel_rfl))
 f9:=⟨Tryz.f245.name,by decide,Tryz.func245.trans (congrArg some (by kernel_rfl))⟩
 f19:=Tryz.func260.trans (congrArg some (by kernel_rfl))
 f20:=Tryz.func261.trans (congrArg some (by kernel_rfl))
 f21:=⟨Tryz.f251.name,by decide,Tryz.func251.trans (congrArg some (by kernel_rfl))⟩
 f22:=⟨Tryz.f252.name,by decide,Tryz.func252.trans (congrArg some (by kernel_rfl))⟩
 f23:=⟨Tryz.f253.name,by decide,Tryz.func253.trans (congrArg some (by kernel_rfl))⟩
 f24:=⟨Tryz.f254.name,by decide,Tryz.func254.trans (congrArg some (by kernel_rfl))⟩
 f25:=⟨Tryz.f255.name,by decide,Tryz.func255.trans (congrArg some (by kernel_rfl))⟩
 f26:=⟨Tryz.f256.name,by decide,Tryz.func256.trans (congrArg some (by kernel_rfl))⟩
 f27:=⟨Tryz.f257.name,by decide,Tryz.func257.trans (congrArg some (by kernel_rfl))⟩
 f28:=⟨Tryz.f258.name,by decide,Tryz.func258.trans (congrArg some (by kernel_rfl))⟩
 f29:=⟨Tryz.f259.name,by decide,Tryz.func259.trans (congrArg some (by kernel_rfl))⟩
 f31:=Tryz.func267.trans (congrArg some (by kernel_rfl))
 f32:=Tryz.func268.trans (congrArg some (by kernel_rfl))
 f36:=⟨Tryz.f266.name,by decide,Tryz.func266.trans (congrArg some (by kernel_rfl))⟩
 f37:=⟨Tryz.f269.name,by decide,Tryz.func269.trans (congrArg some (by kernel_rfl))⟩
 f38:=⟨Tryz.f270.name,by decide,Tryz.func270.trans (congrArg some (by kernel_rfl))⟩
 f39:=⟨Tryz.f240.name,by decide,Tryz.func240.trans (congrArg some (by kernel_rfl))⟩
 f41:=⟨Tryz.f271.name,by decide,Tryz.func271.trans (congrArg some (by kernel_rfl))⟩
 t0:=Tryz.underlying0
 a0:=Tryz.isAgg0
 z0:=Tryz.sizeOf0
 v0:=Tryz.zeroValue0
 t3:=Tryz.underlying3
 a3:=Tryz.isAgg3
 z3:=Tryz.sizeOf3
 v3:=Tryz.zeroValue3
 t4:=Tryz.underlying4
 a4:=Tryz.isAgg4
 z4:=Tryz.sizeOf4
 v4:=Tryz.zeroValue4
 t5:=Tryz.underlying5
 a5:=Tryz.isAgg5
 z5:=Tryz.sizeOf5
 v5:=Tryz.zeroValue5
 t9:=Tryz.underlying9
 a9:=Tryz.isAgg9
 z9:=Tryz.sizeOf9
 v9:=Tryz.zeroValue9
 t26:=Tryz.underlying151
 a26:=Tryz.isAgg151
 z26:=Tryz.sizeOf151
 v26:=Tryz.zeroValue151
 t27:=Tryz.underlying151
 a27:=Tryz.isAgg151
 z27:=Tryz.sizeOf151
 v27:=Tryz.zeroValue151
 t29:=Tryz.underlying9
 a29:=Tryz.isAgg9
 z29:=Tryz.sizeOf9
 v29:=Tryz.zeroValue9
 t32:=Tryz.underlying246
 a32:=Tryz.isAgg246
 z32:=Tryz.sizeOf246
 v32:=Tryz.zeroValue246
 t35:=Tryz.underlying261
 a35:=Tryz.isAgg261
 z35:=Tryz.sizeOf261
 v35:=Tryz.zeroValue261
 t36:=Tryz.underlying262
 a36:=Tryz.isAgg262
 z36:=Tryz.sizeOf262
 v36:=Tryz.zeroValue262
 t41:=Tryz.underlying204
 a41:=Tryz.isAgg204
 z41:=Tryz.sizeOf204
 v41:=Tryz.zeroValue204
 t44:=Tryz.underlying268
 a44:=Tryz.isAgg268
 z44:=Tryz.sizeOf268
 v44:=Tryz.zeroValue268
 t46:=Tryz.underlying270
 a46:=Tryz.isAgg270
 z46:=Tryz.sizeOf270
 v46:=Tryz.zeroValue270
 t53:=Tryz.underlying274
 a53:=Tryz.isAgg274
 z53:=Tryz.sizeOf274
 v53:=Tryz.zeroValue274
 t57:=Tryz.underlying193
 a57:=Tryz.isAgg193
 z57:=Tryz.sizeOf193
 v57:=Tryz.zeroValue193
 t63:=Tryz.underlying279
 a63:=Tryz.isAgg279
 z63:=Tryz.sizeOf279
 v63:=Tryz.zeroValue279
 t64:=Tryz.underlying280
 a64:=Tryz.isAgg280
 z64:=Tryz.sizeOf280
 v64:=Tryz.zeroValue280 }
theorem qAc (m:Nat):AnyZ.SortsIn Tryz.prog qiW Fence.wide m :=
 ⟨fun blk off cap ss W hH hblk hsz=>callsIn_wide.2 (AnyM.slices_Sort_string qAb blk off cap ss W hH hblk hsz),fun p cap W=>callsIn_wide.2 (AnyM.slices_Sort_string_none qAb p cap W)⟩
theorem qk6 {H:Type} (Bm b nn:Nat) (D0:DataW H) (R:Value→Option (DataW H × List MemPlace)) (w:World) (hBm:Bm < w.heap.size) (hm:w.cell? ⟨Bm,0,none⟩=some (.map (some b))) (hown:w.ownsMap Tryz.prog 9 R b nn D0) (hmax:Maps.size D0≤maxLen) (hbytes:Maps.size D0 * 16≤140737488355328) :
  Calls Tryz.prog 200 #[.func (.func 231) #[] #[.pointer (some ⟨Bm,0,none⟩)]] w fun e w'=>∃ (v:Value) (ss:List (List UInt8)),e=.returned v∧ss.Perm (strKeys D0) ∧
   w'.ownsRow w.heap.size 9 1 v ss.length ((ss.mergeSort (fun x y=>decide (x≤y))).map encStr)∧(v=.slice none 0 0↔ss=[])∧Below w.heap.size w w':=by
 have hseq:SeqGives Fence.wide 2 Tryz.prog 231 #[.pointer (some ⟨Bm,0,none⟩)] encStr (fun ss=>ss.Perm (strKeys D0)) (Maps.size D0) w :=
  AnyZ.keys_gives (ρ:=qmC) { qBY with } Fence.wide _ trivial rfl (by omega) Bm b nn D0 _ hBm hm hown
 exact (callsIn_wide (n:=5)).1 (AnyZ.sorted_in qyb Fence.wide 5 trivial trivial trivial trivial rfl (by omega) (qAc _) (enters_of Tryz.func230 (by kernel_rfl) rfl) 231 #[.pointer (some ⟨Bm,0,none⟩)] trivial (enters_of Tryz.func231 (by kernel_rfl) rfl) _ _ hmax hbytes _ hseq)
end Go.Proofs.YtidkmoohgadjkaaGreat
namespace Go.Proofs.YtidkmoohgadjkaaGreat.E
open Go Go.Shelf Go.RowKit Go.Maps Go.Sort Go.Lib
def qgN (l:List ByteArray):List ByteArray:=((l.map fun s=>s.data.toList).mergeSort leB).map fun b=>⟨b.toArray⟩
theorem qk7 {ν:Type} {g:ν→List PC} {va:Bool} {l:List (ByteArray × ν)} (hn:l.length≤1000000) (hk:∀ e∈l,e.1.size≤maxLen) :
  qcS Tryz.prog 200 [.one (.fn 231 [0])] [.box [.mp 1],.mp .str va (l.map fun e=>([.v (.string e.1)],g e.2))] (.one (.own 2))
   [.box [.mp 1],.mp .str va (l.map fun e=>([.v (.string e.1)],g e.2)),.rows 1 ((qgN (l.map (·.1))).map fun s=>[.v (.string s)])]:=by
 refine ⟨⟨_,_,Tryz.func200,rfl,rfl⟩,fun w S inj vs hv hI hfree=>?_⟩
 have hfr:∀ b,2≤b→inj b=.free:=fun b h=>hfree b h
 cases hv with
 | cons h0 hv =>
 cases hv
 obtain ⟨Bm,cs,ee,hB0,hBS,hBh,hBc⟩:=hI.live 0
 obtain ⟨b,es,clock,hM0,hMS,hMh,hMst,hMe⟩:=hI.live 1
 obtain ⟨mv,rfl⟩:∃ mv,cs=[mv]:=by
  cases hBc with
  | cons _ hr=>cases hr; exact ⟨_,rfl⟩
 have hm0:VR w S inj (.mp 1) mv:=by
  cases hBc with
  | cons h _=>exact h
 have hmv:mv=.map (some b):=by
  cases hm0 with
  | mp h =>
   rcases h with h | ⟨g',h,rfl⟩
   ·rw [hM0] at h; cases h
   ·rw [hM0] at h; injection h with h; rw [h]
 subst hmv
 have hfn:=h0.cellv (by simp)
 cases hfn with
 | fn hf =>
 cases hf with
 | cons hp hr =>
 cases hr
 obtain ⟨a,rfl,hp⟩:=hp
 obtain rfl:a=some ⟨Bm,0,none⟩:=by
  rcases hp with h | ⟨g',h,rfl⟩
  ·rw [hB0] at h; cases h
  ·rw [hB0] at h; injection h with h; rw [h]
 have hBw:Bm < w.heap.size:=(Array.getElem?_eq_some_iff.1 hBh).1
 have hcell:w.cell? ⟨Bm,0,none⟩=some (.map (some b)):=by simp [World.cell?,hBh]
 let R:Value→Option (DataW Unit × List MemPlace):=fun _=>some (.nil,[])
 have hkeys:F2 (fun (e:ByteArray × ν) (m:MapEntry)=>m.key=.string e.1) l es.toList:=by
  have:∀ {l:List (ByteArray × ν)} {ms:List MapEntry},F2 (fun (x:List PC × List PC) (m:MapEntry)=>KeyV .str x.1 m.key∧ValV w S va x.2 m.val) (l.map fun e=>([.v (.string e.1)],g e.2)) ms→F2 (fun (e:ByteArray × ν) (m:MapEntry)=>m.key=.string e.1) l ms:=by
   intro l
   induction l with
   | nil=>intro ms h; cases h; exact .nil
   | cons e l ih =>
    intro ms h
    cases h with
    | cons h1 h2 =>
     refine .cons ?_ (ih h2)
     obtain ⟨s,hs1,hs2⟩:=h1.1
     injection hs1 with hs1 _
     injection hs1 with hs1
     injection hs1 with hs1
     rw [hs2,hs1]
  exact this hMe
 have hlen:l.length=es.size:=by have:=hkeys.len; simpa using this
 have hrd:∀ {l:List (ByteArray × ν)} {ms:List MapEntry},F2 (fun (e:ByteArray × ν) (m:MapEntry)=>m.key=.string e.1) l ms→(∀ e∈l,e.1.size≤maxLen)→(∀ x∈ms,∃ y,Go.WideElems.rd Tryz.prog 9 R x=some y)∧ms.map (Go.WideElems.rg Tryz.prog 9 R)=l.map fun e=>(Lit.string e.1.data.toList,DataW.nil):=by
  intro l ms h
  induction h with
  | nil=>intro _; exact ⟨by simp,rfl⟩
  | @cons e m l ms h1 _ ih =>
   intro hk
   obtain ⟨i1,i2⟩:=ih fun e he=>hk e (by simp [he])
   have hy:Go.WideElems.rd Tryz.prog 9 R m=some (.string e.1.data.toList,.nil):=by
    unfold Go.WideElems.rd
    rw [h1,Go.WideMaps.keyOf_string_mk Tryz.underlying9 (hk e (by simp))]; rfl
   refine ⟨fun x hx=>?_,?_⟩
   ·rcases List.mem_cons.1 hx with rfl | hx
    ·exact ⟨_,hy⟩
    ·exact i1 x hx
   ·rw [List.map_cons,List.map_cons,i2,Go.WideElems.rg_of hy]
 obtain ⟨r1,r2⟩:=hrd hkeys hk
 have hsz:es.size≤maxLen:=by rw [←hlen]; unfold maxLen; omega
 have hown:w.ownsMap Tryz.prog 9 R b es.size (.map ((es.toList.map (Go.WideElems.rg Tryz.prog 9 R)).foldr DataW.insert [])):=⟨es,clock,hMh,⟨hsz,hMst,r1⟩,Nat.le_refl _,rfl⟩
 have hD:Maps.size (.map ((es.toList.map (Go.WideElems.rg Tryz.prog 9 R)).foldr DataW.insert []))=l.length:=by
  rw [Maps.size_eq,DataW.length_sorted,List.length_map,Array.length_toList,hlen]
 refine (qk6 Bm b es.size _ R w hBw hcell hown (by rw [hD,hlen]; exact hsz) (by rw [hD]; omega)).mono ?_
 rintro e w' ⟨v',ss,rfl,hperm,hrow,hnil,hbel⟩
 have hks:ss.mergeSort leB=(l.map fun e=>e.1.data.toList).mergeSort leB:=by
  refine mergeSort_of_perm (hperm.trans ?_)
  rw [r2]
  show (List.map _ (List.foldr DataW.insert [] _)).Perm _
  refine ((Go.WideShapes.sorted_perm _).map _).trans ?_
  rw [List.map_map]
  exact List.Perm.refl _
 have hG:=qho (S:=S) hI.lt hbel
 have hsl:ss.length=(qgN (l.map (·.1))).length:=by
  unfold qgN
  rw [List.length_map,List.map_map]
  have:=congrArg List.length hks
  simpa using this
 have hrows:F2 (PR w' S) ((qgN (l.map (·.1))).map fun s=>[PC.v (.string s)]).flatten ((ss.mergeSort (fun x y=>decide (x≤y))).map encStr):=by
  have e1:ss.mergeSort (fun x y=>decide (x≤y))=(l.map fun e=>e.1.data.toList).mergeSort leB:=hks
  rw [e1]
  have e2:(l.map (·.1)).map (fun s=>s.data.toList)=l.map fun e=>e.1.data.toList:=by rw [List.map_map]; rfl
  unfold qgN
  rw [e2,List.map_map]
  generalize (l.map fun e=>e.1.data.toList).mergeSort leB=q
  induction q with
  | nil=>exact .nil
  | cons x q ih=>exact .cons (.v rfl) ih
 obtain ⟨a',c',g',rfl,hR,hg⟩:=qnF (S:=S) (l:=(qgN (l.map (·.1))).map fun s=>[PC.v (.string s)]) hI.lt hrow (by rw [List.length_map,hsl]) (by simp) (by decide) hrows
 have hle:=qa7 (l:=.row (.slice a' ss.length c') g') (hfr 2 (Nat.le_refl _))
 refine ⟨_,S,qbG inj 2 (.row (.slice a' ss.length c') g'),rfl,hG,hle,fun b' hb' h=>?_,.ofc (.own (.inr ⟨g',by rw [qA]; rfl⟩)),?_⟩
 ·rw [qu (by rcases h with h | h<;>simp at h<;>omega)]; exact hb'
 ·have e:E.look [.box [.mp 1],.mp .str va (l.map fun e=>([.v (.string e.1)],g e.2)),.rows 1 ((qgN (l.map (·.1))).map fun s=>[.v (.string s)])]=setB (E.look [.box [.mp 1],.mp .str va (l.map fun e=>([.v (.string e.1)],g e.2))]) 2 (.rows 1 ((qgN (l.map (·.1))).map fun s=>[.v (.string s)])):=by
   funext b'
   unfold setB
   split
   ·next h=>subst h; rfl
   ·next h=>rw [qai,qai]; match b',h with | 0,_=>rfl | 1,_=>rfl | 2,h=>exact absurd rfl h | b' + 3,_=>rfl
  rw [e]
  refine hI.set hG hle (fun _ h=>qu h) qA (fun b' x _ hd hx=>?_) ⟨_,_,rfl,hR⟩ (fun _ b' x _ hd h1 h2=>?_) (fun x h=>Nat.lt_of_lt_of_le (hI.lt x h) hG.size)
  ·obtain ⟨h1,h2⟩:=(hI.live b').blk hd hx
   exact ⟨hbel.block x h2,h1⟩
  ·have:=((hI.live b').blk hd h2).2
   have:=hg x h1
   omega
end Go.Proofs.YtidkmoohgadjkaaGreat.E
namespace Go.Proofs.YtidkmoohgadjkaaGreat
open Go E
def qgp {ν:Type} (l:List (ByteArray × ν)):Option (List ByteArray):=chk (decide (l.length≤1000000)&&l.all fun e=>decide (e.1.size≤maxLen)) (some (qgN (l.map (·.1))))
theorem qvy {ν:Type} {g:ν→List PC} {va:Bool} {X:Task→Prop} (hX:qk X) {l:List (ByteArray × ν)} {r:List ByteArray} {Q:A→List Blk→Prop} (h:qgp l=some r) (hQ:Q (.one (.own 2)) [.box [.mp 1],.mp .str va (l.map fun e=>(srw e.1,g e.2)),.rows 1 (r.map srw)]) :
  X (.call 200 [.one (.fn 231 [0])] [.box [.mp 1],.mp .str va (l.map fun e=>(srw e.1,g e.2))] Q):=by
 unfold qgp at h
 obtain ⟨d,h⟩:=qq h
 injection h with h; subst h
 rw [Bool.and_eq_true,List.all_eq_true] at d
 exact qe3 hX (qk7 (of_decide_eq_true d.1) fun e he=>of_decide_eq_true (d.2 e he)) hQ
end Go.Proofs.YtidkmoohgadjkaaGreat
set_option maxHeartbeats 0
namespace Go.Proofs.YtidkmoohgadjkaaGreat
open Go E
noncomputable section
open Pred
def qaq (p0:List Item) (p1:ByteArray):Nat→Int→Int→Option (Int × Bool)
  | 0,_,_=>none
  | fl1 + 1,v1,v2 =>
  (br (ltI v2 v1)
   (bnd (atL p0 (wr .i64 (shrI .u64 (wr .u64 (wr .i64 (v2 + v1))) 1))) fun x4 =>
    (br (!eqS x4.id x4.id)
     (br (!eqS p1 p1)
      (qaq p0 p1 fl1 (wr .i64 (shrI .u64 (wr .u64 (wr .i64 (v2 + v1))) 1)) v2)
      (qaq p0 p1 fl1 v1 (wr .i64 ((wr .i64 (shrI .u64 (wr .u64 (wr .i64 (v2 + v1))) 1)) + 1))))
     (br (!eqS p1 p1)
      (qaq p0 p1 fl1 (wr .i64 (shrI .u64 (wr .u64 (wr .i64 (v2 + v1))) 1)) v2)
      (br (ltS x4.id p1)
       (qaq p0 p1 fl1 v1 (wr .i64 ((wr .i64 (shrI .u64 (wr .u64 (wr .i64 (v2 + v1))) 1)) + 1)))
       (br (!(ltS x4.id p1 || eqS x4.id p1))
        (qaq p0 p1 fl1 (wr .i64 (shrI .u64 (wr .u64 (wr .i64 (v2 + v1))) 1)) v2)
        (qaq p0 p1 fl1 (wr .i64 (shrI .u64 (wr .u64 (wr .i64 (v2 + v1))) 1)) v2))))))
   (br (ltI v2 (p0.length:Int))
    (bnd (atL p0 v2) fun x12 =>
     (br (!eqS x12.id x12.id)
      (br (!eqS p1 p1)
       (some (v2,true))
       (some (v2,false)))
      (br (!eqS p1 p1)
       (some (v2,false))
       (br (ltS x12.id p1)
        (some (v2,false))
        (br (!(ltS x12.id p1 || eqS x12.id p1))
         (some (v2,false))
         (some (v2,true)))))))
    (some (v2,false))))
def qdc (p0:List Item) (p1:ByteArray):Option (Int × Bool) :=
 ((qaq p0 p1) qdC (p0.length:Int) 0)
def qeo (p0:List Item) (p1:ByteArray):Option (Item × Bool) :=
 (bnd (qdc p0 p1) fun y1 =>
  (br y1.2
   (bnd (atL p0 y1.1) fun x4 =>
    some (x4,true))
   (some ((Item.mk ⟨#[]⟩ 0 0 0 ⟨#[]⟩ 0 0 0 false),false))))
def qep (p0:List Item) (p1:Item):Option ((List Item)) :=
 (bnd (qdc p0 p1.id) fun y1 =>
  (bnd (qaz p0) fun y3 =>
   (br y1.2
    (bnd (atL y3 y1.1) fun x6 =>
     some (y3.set y1.1.toNat p1))
    (bnd (qsQ y3 y1.1 p1) fun y8 =>
     some y8))))
def qbv (p0:List Item) (p1:ByteArray):Option ((List Item)) :=
 (bnd (qaz p0) fun y1 =>
  (bnd (qdc p0 p1) fun y3 =>
   (br y3.2
    (bnd (qsR y1 y3.1) fun y6 =>
     some y6)
    (some y1))))
def qar:Nat→(List Item)→(List Item)→(List Item)→Option ((List Item))
  | 0,_,_,_=>none
  | fl1 + 1,v1,v2,v3 =>
  (br (ltI 0 (v1.length:Int))
   (br (ltI 0 (v3.length:Int))
    (bnd (atL v1 0) fun x6 =>
     (bnd (atL v3 0) fun x8 =>
      (br (ltS x6.id x8.id)
       (chk (qT v2.length 1)
        (chk (leI 1 (v1.length:Int))
         (qar fl1 (v1.drop 1) (v2++[x6]) v3)))
       (br (!(ltS x6.id x8.id || eqS x6.id x8.id))
        (chk (qT v2.length 1)
         (chk (leI 1 (v3.length:Int))
          (qar fl1 v1 (v2++[x8]) (v3.drop 1))))
        (bnd (qbP x8 x6) fun y16 =>
         (br (ltI 0 y16)
          (chk (leI 1 (v1.length:Int))
           (qar fl1 (v1.drop 1) v2 v3))
          (chk (leI 1 (v3.length:Int))
           (qar fl1 v1 v2 (v3.drop 1)))))))))
    (chk (qT v2.length v1.length)
     (chk (qT (v2++v1).length v3.length)
      (some ((v2++v1)++v3)))))
   (chk (qT v2.length v1.length)
    (chk (qT (v2++v1).length v3.length)
     (some ((v2++v1)++v3)))))
def qeC (p0:List Item) (p1:List Item):Option ((List Item)) :=
 ((qar) qdC p0 ([]:List Item) p1)
variable {X:Task→Prop} (hX:qk X) {Q:A→List Blk→Prop}
include hX
theorem qgO  {p0:List Item} {p1:ByteArray} {r:Int × Bool} (h:qdc p0 p1=some r) (hQ:Q (.tup [iv r.1,.one (.p (.v (.bool r.2)))]) []):X (.call 166 [.one (.p (.sl (p0.map Item.row))),.one (.p (.v (.string p1)))] [] Q):=by
  have K:=fun a (e:some a=some r)=>qm (f:=fun y=>.tup [iv y.1,.one (.p (.v (.bool y.2)))]) (g:=fun y=>[]) e hQ
  unfold qdc at h
  refine qb hX Tryz.func166 rfl rfl ?_
  conv=>whnf
  repeat((first|refine dw ?_);conv=>whnf)
  refine qb hX Tryz.func211 rfl rfl ?_
  conv=>whnf
  repeat((first|refine dw ?_|refine qg (qi _) ?_);conv=>whnf)
  refine qhs (fun (v1:Int) (v2:Int)=>pad [(0,.one (.p (.sl (p0.map Item.row)))),(0,.one (.p (.v (.string p1)))),(0,.one (.fn 212 [])),(5,iv (p0.length:Int)),(0,iv v2),(0,iv v1)] 38) (fun (v1:Int) (v2:Int)=>[]) _ (fun _ _ h=>?_) (fun fl1 v1 v2 h ih1=>?_) qdC (p0.length:Int) 0 h
  ·rw [qaq] at h
   cases h
  ·rw [qaq] at h
   refine qa hX ?_
   conv=>whnf
   repeat((first|refine dw ?_);conv=>whnf)
   revert h
   refine brk (fun c3 h=>?_) (fun c3 h=>?_)
   ·revert h
    refine bndk fun x4 a5 h=>?_
    conv=>whnf
    repeat((first|refine dw ?_|refine bct c3 ?_|refine bct (qc a5) ?_|refine bct (andt (qc a5) rfl) ?_|refine qe (qf a5) ?_|refine bct (andt (qc (qd a5)) rfl) ?_|refine qe (qf (qd a5)) ?_);conv=>whnf)
    refine qb hX Tryz.func212 rfl rfl ?_
    conv=>whnf
    repeat((first|refine dw ?_);conv=>whnf)
    refine qb hX Tryz.func213 rfl rfl ?_
    conv=>whnf
    repeat((first|refine dw ?_);conv=>whnf)
    refine qb hX Tryz.func240 rfl rfl ?_
    conv=>whnf
    repeat((first|refine dw ?_);conv=>whnf)
    refine qb hX Tryz.func240 rfl rfl ?_
    conv=>whnf
    repeat((first|refine dw ?_);conv=>whnf)
    revert h
    refine brk (fun c6 h=>?_) (fun c6 h=>?_)
    ·conv=>whnf
     repeat((first|refine dw ?_|refine bct c6 ?_);conv=>whnf)
     revert h
     refine brk (fun c7 h=>?_) (fun c7 h=>?_)
     ·conv=>whnf
      repeat((first|refine dw ?_|refine bct c7 ?_);conv=>whnf)
      exact ih1 (wr .i64 (shrI .u64 (wr .u64 (wr .i64 (v2 + v1))) 1)) v2 h
     ·conv=>whnf
      repeat((first|refine dw ?_|refine bcf c7 ?_);conv=>whnf)
      exact ih1 v1 (wr .i64 ((wr .i64 (shrI .u64 (wr .u64 (wr .i64 (v2 + v1))) 1)) + 1)) h
    ·conv=>whnf
     repeat((first|refine dw ?_|refine bcf c6 ?_);conv=>whnf)
     revert h
     refine brk (fun c8 h=>?_) (fun c8 h=>?_)
     ·conv=>whnf
      repeat((first|refine dw ?_|refine bct c8 ?_);conv=>whnf)
      exact ih1 (wr .i64 (shrI .u64 (wr .u64 (wr .i64 (v2 + v1))) 1)) v2 h
     ·conv=>whnf
      repeat((first|refine dw ?_|refine bcf c8 ?_);conv=>whnf)
      revert h
      refine brk (fun c9 h=>?_) (fun c9 h=>?_)
      ·conv=>whnf
       repeat((first|refine dw ?_|refine bct c9 ?_);conv=>whnf)
       exact ih1 v1 (wr .i64 ((wr .i64 (shrI .u64 (wr .u64 (wr .i64 (v2 + v1))) 1)) + 1)) h
      ·conv=>whnf
       repeat((first|refine dw ?_|refine bcf c9 ?_);conv=>whnf)
       revert h
       refine brk (fun c10 h=>?_) (fun c10 h=>?_)
       ·conv=>whnf
        repeat((first|refine dw ?_|refine bct c10 ?_);conv=>whnf)
        exact ih1 (wr .i64 (shrI .u64 (wr .u64 (wr .i64 (v2 + v1))) 1)) v2 h
       ·conv=>whnf
        repeat((first|refine dw ?_|refine bcf c10 ?_);conv=>whnf)
        exact ih1 (wr .i64 (shrI .u64 (wr .u64 (wr .i64 (v2 + v1))) 1)) v2 h
   ·conv=>whnf
    repeat((first|refine dw ?_|refine bcf c3 ?_);conv=>whnf)
    revert h
    refine brk (fun c11 h=>?_) (fun c11 h=>?_)
    ·revert h
     refine bndk fun x12 a13 h=>?_
     conv=>whnf
     repeat((first|refine dw ?_|refine bct c11 ?_|refine bct (qc a13) ?_|refine bct (andt (qc a13) rfl) ?_|refine qe (qf a13) ?_|refine bct (andt (qc (qd a13)) rfl) ?_|refine qe (qf (qd a13)) ?_);conv=>whnf)
     refine qb hX Tryz.func212 rfl rfl ?_
     conv=>whnf
     repeat((first|refine dw ?_);conv=>whnf)
     refine qb hX Tryz.func213 rfl rfl ?_
     conv=>whnf
     repeat((first|refine dw ?_);conv=>whnf)
     refine qb hX Tryz.func240 rfl rfl ?_
     conv=>whnf
     repeat((first|refine dw ?_);conv=>whnf)
     refine qb hX Tryz.func240 rfl rfl ?_
     conv=>whnf
     repeat((first|refine dw ?_);conv=>whnf)
     revert h
     refine brk (fun c14 h=>?_) (fun c14 h=>?_)
     ·conv=>whnf
      repeat((first|refine dw ?_|refine bct c14 ?_);conv=>whnf)
      revert h
      refine brk (fun c15 h=>?_) (fun c15 h=>?_)
      ·conv=>whnf
       repeat((first|refine dw ?_|refine bct c15 ?_|refine bct c11 ?_);conv=>whnf)
       exact K _ h
      ·conv=>whnf
       repeat((first|refine dw ?_|refine bcf c15 ?_|refine bct c11 ?_);conv=>whnf)
       exact K _ h
     ·conv=>whnf
      repeat((first|refine dw ?_|refine bcf c14 ?_);conv=>whnf)
      revert h
      refine brk (fun c16 h=>?_) (fun c16 h=>?_)
      ·conv=>whnf
       repeat((first|refine dw ?_|refine bct c16 ?_|refine bct c11 ?_);conv=>whnf)
       exact K _ h
      ·conv=>whnf
       repeat((first|refine dw ?_|refine bcf c16 ?_);conv=>whnf)
       revert h
       refine brk (fun c17 h=>?_) (fun c17 h=>?_)
       ·conv=>whnf
        repeat((first|refine dw ?_|refine bct c17 ?_|refine bct c11 ?_);conv=>whnf)
        exact K _ h
       ·conv=>whnf
        repeat((first|refine dw ?_|refine bcf c17 ?_);conv=>whnf)
        revert h
        refine brk (fun c18 h=>?_) (fun c18 h=>?_)
        ·conv=>whnf
         repeat((first|refine dw ?_|refine bct c18 ?_|refine bct c11 ?_);conv=>whnf)
         exact K _ h
        ·conv=>whnf
         repeat((first|refine dw ?_|refine bcf c18 ?_|refine bct c11 ?_);conv=>whnf)
         exact K _ h
    ·conv=>whnf
     repeat((first|refine dw ?_|refine bcf c11 ?_);conv=>whnf)
     exact K _ h
theorem qjW  {p0:List Item} {p1:ByteArray} {r:Item × Bool} (h:qeo p0 p1=some r) (hQ:Q (.tup [.agg (Item.cs r.1),.one (.p (.v (.bool r.2)))]) []):X (.call 95 [.one (.p (.sl (p0.map Item.row))),.one (.p (.v (.string p1)))] [] Q):=by
  have K:=fun a (e:some a=some r)=>qm (f:=fun y=>.tup [.agg (Item.cs y.1),.one (.p (.v (.bool y.2)))]) (g:=fun y=>[]) e hQ
  unfold qeo at h
  refine qb hX Tryz.func95 rfl rfl ?_
  revert h
  refine bndk fun y1 e2 h=>?_
  conv=>whnf
  repeat((first|refine dw ?_);conv=>whnf)
  refine qgO hX e2 ?_
  conv=>whnf
  repeat((first|refine dw ?_);conv=>whnf)
  revert h
  refine brk (fun c3 h=>?_) (fun c3 h=>?_)
  ·revert h
   refine bndk fun x4 a5 h=>?_
   conv=>whnf
   repeat((first|refine dw ?_|refine bct c3 ?_|refine bct (qc a5) ?_|refine bct (andt (qc a5) rfl) ?_|refine qe (qf a5) ?_|refine bct (andt (qc (qd a5)) rfl) ?_|refine qe (qf (qd a5)) ?_);conv=>whnf)
   exact K _ h
  ·conv=>whnf
   repeat((first|refine dw ?_|refine bcf c3 ?_);conv=>whnf)
   exact K _ h
theorem qjX  {p0:List Item} {p1:Item} {r:(List Item)} (h:qep p0 p1=some r) (hQ:Q (.one (.p (.sl (r.map Item.row)))) []):X (.call 99 [.one (.p (.sl (p0.map Item.row))),.agg (Item.cs p1)] [] Q):=by
  have K:=fun a (e:some a=some r)=>qm (f:=fun y=>.one (.p (.sl (y.map Item.row)))) (g:=fun y=>[]) e hQ
  unfold qep at h
  refine qJ hX ?_
  conv=>whnf
  refine qb hX Tryz.func99 rfl rfl ?_
  revert h
  refine bndk fun y1 e2 h=>?_
  conv=>whnf
  repeat((first|refine dw ?_);conv=>whnf)
  refine qgO hX e2 ?_
  revert h
  refine bndk fun y3 e4 h=>?_
  conv=>whnf
  repeat((first|refine dw ?_);conv=>whnf)
  refine qfx (f:=Item.row) (k:=8) (fun _=>rfl) (by decide) hX e4 ?_
  conv=>whnf
  repeat((first|refine dw ?_);conv=>whnf)
  revert h
  refine brk (fun c5 h=>?_) (fun c5 h=>?_)
  ·revert h
   refine bndk fun x6 a7 h=>?_
   conv=>whnf
   repeat((first|refine dw ?_|refine bct c5 ?_|refine bct (qc a7) ?_|refine bct (andt (qc a7) rfl) ?_|refine qe (qf a7) ?_|refine bct (andt (qc (qd a7)) rfl) ?_|refine qe (qf (qd a7)) ?_|refine qg (qew (f:=Item.row) y3 y1.1.toNat p1) ?_);conv=>whnf)
   exact K _ h
  ·revert h
   refine bndk fun y8 e9 h=>?_
   conv=>whnf
   repeat((first|refine dw ?_|refine bcf c5 ?_);conv=>whnf)
   refine Or.inr (Or.inr ?_)
   conv=>whnf
   refine qBW hX (l:=y3) (i:=y1.1) (x:=p1) e9 ?_
   conv=>whnf
   repeat((first|refine dw ?_);conv=>whnf)
   exact K _ h
theorem qeD  {p0:List Item} {p1:ByteArray} {r:(List Item)} (h:qbv p0 p1=some r) (hQ:Q (.one (.p (.sl (r.map Item.row)))) []):X (.call 98 [.one (.p (.sl (p0.map Item.row))),.one (.p (.v (.string p1)))] [] Q):=by
  have K:=fun a (e:some a=some r)=>qm (f:=fun y=>.one (.p (.sl (y.map Item.row)))) (g:=fun y=>[]) e hQ
  unfold qbv at h
  refine qJ hX ?_
  conv=>whnf
  refine qb hX Tryz.func98 rfl rfl ?_
  revert h
  refine bndk fun y1 e2 h=>?_
  conv=>whnf
  repeat((first|refine dw ?_);conv=>whnf)
  refine qfx (f:=Item.row) (k:=8) (fun _=>rfl) (by decide) hX e2 ?_
  revert h
  refine bndk fun y3 e4 h=>?_
  conv=>whnf
  repeat((first|refine dw ?_);conv=>whnf)
  refine qgO hX e4 ?_
  conv=>whnf
  repeat((first|refine dw ?_);conv=>whnf)
  revert h
  refine brk (fun c5 h=>?_) (fun c5 h=>?_)
  ·revert h
   refine bndk fun y6 e7 h=>?_
   conv=>whnf
   repeat((first|refine dw ?_|refine bct c5 ?_);conv=>whnf)
   refine Or.inr (Or.inr ?_)
   conv=>whnf
   refine qBX hX (l:=y1) (i:=y3.1) e7 ?_
   conv=>whnf
   repeat((first|refine dw ?_);conv=>whnf)
   exact K _ h
  ·conv=>whnf
   repeat((first|refine dw ?_|refine bcf c5 ?_);conv=>whnf)
   exact K _ h
theorem qnW  {p0:List Item} {p1:List Item} {r:(List Item)} (h:qeC p0 p1=some r) (hQ:Q (.one (.p (.sl (r.map Item.row)))) []):X (.call 84 [.one (.p (.sl (p0.map Item.row))),.one (.p (.sl (p1.map Item.row)))] [] Q):=by
  have K:=fun a (e:some a=some r)=>qm (f:=fun y=>.one (.p (.sl (y.map Item.row)))) (g:=fun y=>[]) e hQ
  unfold qeC at h
  refine qJ hX ?_
  conv=>whnf
  refine qb hX Tryz.func84 rfl rfl ?_
  conv=>whnf
  repeat((first|refine dw ?_);conv=>whnf)
  refine qeP hX [8] ?_
  conv=>whnf
  refine qqH (fun (v1:List Item) (v2:List Item) (v3:List Item)=>pad [(0,.one (.p (.sl (v1.map Item.row)))),(0,.one (.p (.sl (v3.map Item.row)))),(3,.one (.own 0))] 62) (fun (v1:List Item) (v2:List Item) (v3:List Item)=>[.rows 8 (v2.map Item.row)]) _ (fun _ _ _ h=>?_) (fun fl1 v1 v2 v3 h ih1=>?_) qdC p0 ([]:List Item) p1 h
  ·rw [qar] at h
   cases h
  ·rw [qar] at h
   refine qa hX ?_
   conv=>whnf
   repeat((first|refine dw ?_|refine qg (qi _) ?_);conv=>whnf)
   revert h
   refine brk (fun c4 h=>?_) (fun c4 h=>?_)
   ·conv=>whnf
    repeat((first|refine dw ?_|refine bct c4 ?_|refine qg (qi _) ?_);conv=>whnf)
    revert h
    refine brk (fun c5 h=>?_) (fun c5 h=>?_)
    ·revert h
     refine bndk fun x6 a7 h=>?_
     revert h
     refine bndk fun x8 a9 h=>?_
     conv=>whnf
     repeat((first|refine dw ?_|refine bct c5 ?_|refine bct (qc a7) ?_|refine bct (andt (qc a7) rfl) ?_|refine qe (qf a7) ?_|refine bct (andt (qc (qd a7)) rfl) ?_|refine qe (qf (qd a7)) ?_|refine bct (qc a9) ?_|refine bct (andt (qc a9) rfl) ?_|refine qe (qf a9) ?_|refine bct (andt (qc (qd a9)) rfl) ?_|refine qe (qf (qd a9)) ?_);conv=>whnf)
     revert h
     refine brk (fun c10 h=>?_) (fun c10 h=>?_)
     ·revert h
      refine chkk fun c11 h=>?_
      revert h
      refine chkk fun c12 h=>?_
      conv=>whnf
      repeat((first|refine dw ?_|refine bct c10 ?_|refine bct (qc a7) ?_|refine bct (andt (qc a7) rfl) ?_|refine qe (qf a7) ?_|refine bct (andt (qc (qd a7)) rfl) ?_|refine qe (qf (qd a7)) ?_|refine bct (qx c11 rfl rfl rfl rfl) ?_|refine qg (qH (f:=Item.row) v2 x6) ?_|refine bct (qkM (f:=Item.row) 1 (sz:=8) c12 (fun _=>rfl)) ?_|refine qg (qkL (f:=Item.row) v1 1) ?_);conv=>whnf)
      exact ih1 (v1.drop 1) (v2++[x6]) v3 h
     ·conv=>whnf
      repeat((first|refine dw ?_|refine bcf c10 ?_|refine bct (qc a7) ?_|refine bct (andt (qc a7) rfl) ?_|refine qe (qf a7) ?_|refine bct (andt (qc (qd a7)) rfl) ?_|refine qe (qf (qd a7)) ?_|refine bct (qc a9) ?_|refine bct (andt (qc a9) rfl) ?_|refine qe (qf a9) ?_|refine bct (andt (qc (qd a9)) rfl) ?_|refine qe (qf (qd a9)) ?_);conv=>whnf)
      revert h
      refine brk (fun c13 h=>?_) (fun c13 h=>?_)
      ·revert h
       refine chkk fun c14 h=>?_
       revert h
       refine chkk fun c15 h=>?_
       conv=>whnf
       repeat((first|refine dw ?_|refine bct c13 ?_|refine bct (qc a9) ?_|refine bct (andt (qc a9) rfl) ?_|refine qe (qf a9) ?_|refine bct (andt (qc (qd a9)) rfl) ?_|refine qe (qf (qd a9)) ?_|refine bct (qx c14 rfl rfl rfl rfl) ?_|refine qg (qH (f:=Item.row) v2 x8) ?_|refine bct (qkM (f:=Item.row) 1 (sz:=8) c15 (fun _=>rfl)) ?_|refine qg (qkL (f:=Item.row) v3 1) ?_);conv=>whnf)
       exact ih1 v1 (v2++[x8]) (v3.drop 1) h
      ·revert h
       refine bndk fun y16 e17 h=>?_
       conv=>whnf
       repeat((first|refine dw ?_|refine bcf c13 ?_|refine bct (qc a9) ?_|refine bct (andt (qc a9) rfl) ?_|refine qe (qf a9) ?_|refine bct (andt (qc (qd a9)) rfl) ?_|refine qe (qf (qd a9)) ?_|refine bct (qc a7) ?_|refine bct (andt (qc a7) rfl) ?_|refine qe (qf a7) ?_|refine bct (andt (qc (qd a7)) rfl) ?_|refine qe (qf (qd a7)) ?_);conv=>whnf)
       refine qgz hX e17 ?_
       conv=>whnf
       repeat((first|refine dw ?_);conv=>whnf)
       revert h
       refine brk (fun c18 h=>?_) (fun c18 h=>?_)
       ·revert h
        refine chkk fun c19 h=>?_
        conv=>whnf
        repeat((first|refine dw ?_|refine bct c18 ?_|refine bct (qkM (f:=Item.row) 1 (sz:=8) c19 (fun _=>rfl)) ?_|refine qg (qkL (f:=Item.row) v1 1) ?_);conv=>whnf)
        exact ih1 (v1.drop 1) v2 v3 h
       ·revert h
        refine chkk fun c20 h=>?_
        conv=>whnf
        repeat((first|refine dw ?_|refine bcf c18 ?_|refine bct (qkM (f:=Item.row) 1 (sz:=8) c20 (fun _=>rfl)) ?_|refine qg (qkL (f:=Item.row) v3 1) ?_);conv=>whnf)
        exact ih1 v1 v2 (v3.drop 1) h
    ·revert h
     refine chkk fun c21 h=>?_
     revert h
     refine chkk fun c22 h=>?_
     conv=>whnf
     repeat((first|refine dw ?_|refine bcf c5 ?_|refine bct (qx c21 (List.length_map ..) rfl (qas (f:=Item.row) (sz:=8) (fun _=>rfl) _) rfl) ?_|refine qg (qgK (f:=Item.row) v2 _) ?_|refine bct (qx c22 (List.length_map ..) rfl (qas (f:=Item.row) (sz:=8) (fun _=>rfl) _) rfl) ?_|refine qg (qgK (f:=Item.row) (v2++v1) _) ?_);conv=>whnf)
     exact K _ h
   ·revert h
    refine chkk fun c23 h=>?_
    revert h
    refine chkk fun c24 h=>?_
    conv=>whnf
    repeat((first|refine dw ?_|refine bcf c4 ?_|refine bct (qx c23 (List.length_map ..) rfl (qas (f:=Item.row) (sz:=8) (fun _=>rfl) _) rfl) ?_|refine qg (qgK (f:=Item.row) v2 _) ?_|refine bct (qx c24 (List.length_map ..) rfl (qas (f:=Item.row) (sz:=8) (fun _=>rfl) _) rfl) ?_|refine qg (qgK (f:=Item.row) (v2++v1) _) ?_);conv=>whnf)
    exact K _ h
end
end Go.Proofs.YtidkmoohgadjkaaGreat
set_option maxHeartbeats 0
namespace Go.Proofs.YtidkmoohgadjkaaGreat
open Go E
noncomputable section
open Pred
def qcY (v1:Int) (v2:Int) (v3:Int) (v4:Int) (v5:Int) (v6:Int) (v7:Int) (v8:Int):Option (V8) :=
 some (V8.mk v1 v2 v3 v4 v5 v6 v7 v8)
def qbS (p0:V8) (p1:V8) (v1:Int) (v2:Int) (v3:Int) (v4:Int) (v5:Int) (v6:Int) (v7:Int):Option (V8) :=
 (br (leI p0.x7 p1.x7)
  (qcY v1 v2 v3 v4 v5 v6 v7 0)
  (br (leI p0.x7 0)
   (qcY v1 v2 v3 v4 v5 v6 v7 0)
   (qcY v1 v2 v3 v4 v5 v6 v7 p0.x7)))
def qbT (p0:V8) (p1:V8) (v1:Int) (v2:Int) (v3:Int) (v4:Int) (v5:Int) (v6:Int):Option (V8) :=
 (br (leI p0.x6 p1.x6)
  (qbS p0 p1 v1 v2 v3 v4 v5 v6 0)
  (br (leI p0.x6 0)
   (qbS p0 p1 v1 v2 v3 v4 v5 v6 0)
   (qbS p0 p1 v1 v2 v3 v4 v5 v6 p0.x6)))
def qbU (p0:V8) (p1:V8) (v1:Int) (v2:Int) (v3:Int) (v4:Int) (v5:Int):Option (V8) :=
 (br (leI p0.x5 p1.x5)
  (qbT p0 p1 v1 v2 v3 v4 v5 0)
  (br (leI p0.x5 0)
   (qbT p0 p1 v1 v2 v3 v4 v5 0)
   (qbT p0 p1 v1 v2 v3 v4 v5 p0.x5)))
def qbV (p0:V8) (p1:V8) (v1:Int) (v2:Int) (v3:Int) (v4:Int):Option (V8) :=
 (br (leI p0.x4 p1.x4)
  (qbU p0 p1 v1 v2 v3 v4 0)
  (br (leI p0.x4 0)
   (qbU p0 p1 v1 v2 v3 v4 0)
   (qbU p0 p1 v1 v2 v3 v4 p0.x4)))
def qbW (p0:V8) (p1:V8) (v1:Int) (v2:Int) (v3:Int):Option (V8) :=
 (br (leI p0.x3 p1.x3)
  (qbV p0 p1 v1 v2 v3 0)
  (br (leI p0.x3 0)
   (qbV p0 p1 v1 v2 v3 0)
   (qbV p0 p1 v1 v2 v3 p0.x3)))
def qbX (p0:V8) (p1:V8) (v1:Int) (v2:Int):Option (V8) :=
 (br (leI p0.x2 p1.x2)
  (qbW p0 p1 v1 v2 0)
  (br (leI p0.x2 0)
   (qbW p0 p1 v1 v2 0)
   (qbW p0 p1 v1 v2 p0.x2)))
def qbY (p0:V8) (p1:V8) (v1:Int):Option (V8) :=
 (br (leI p0.x1 p1.x1)
  (qbX p0 p1 v1 0)
  (br (leI p0.x1 0)
   (qbX p0 p1 v1 0)
   (qbX p0 p1 v1 p0.x1)))
def qW (p0:V8) (p1:V8):Option (V8) :=
 (br (leI p0.x0 p1.x0)
  (qbY p0 p1 0)
  (br (leI p0.x0 0)
   (qbY p0 p1 0)
   (qbY p0 p1 p0.x0)))
def qbw (x4:Frag) (k1:Option (Bool)):List ByteArray→Int→Option (Bool)
  | [],v8 =>
  (k1 )
  | x2e::xs2,v8 =>
  (bnd (atL x4.ids v8) fun x9 =>
   (br (!eqS x2e x9)
    (some false)
    (qbw x4 k1 xs2 (v8 + 1) )))
def qaP (p1:Know):List Frag→Int→Option (Bool)
  | [],v3 =>
  some true
  | x1e::xs1,v3 =>
  (bnd (atL p1.l v3) fun x4 =>
   (br (eq8 x1e.vec x4.vec)
    (br (!eqI (x1e.ids.length:Int) (x4.ids.length:Int))
     (some false)
     (chk (qz x1e.ids)
       ((qbw x4 (qaP p1 xs1 (v3 + 1))) x1e.ids 0 )))
    (some false)))
def qd4 (p0:Know) (p1:Know):Option (Bool) :=
 (br (eq8 p0.star p1.star)
  (br (!eqI (p0.l.length:Int) (p1.l.length:Int))
   (some false)
   (chk (qz p0.l)
     ((qaP p1) p0.l 0 )))
  (some false))
variable {X:Task→Prop} (hX:qk X) {Q:A→List Blk→Prop}
include hX
theorem qcL  {p0:V8} {p1:V8} {r:V8} (h:qW p0 p1=some r) (hQ:Q (.agg (V8.cs r)) []):X (.call 202 [.agg (V8.cs p0),.agg (V8.cs p1)] [] Q):=by
  unfold qW at h
  refine qb hX Tryz.func202 rfl rfl ?_
  conv=>whnf
  repeat((first|refine dw ?_);conv=>whnf)
  refine qa hX ?_
  apply qfd (X:=X) (r:=r) (fun (v1:Int)=>pad [(2,.one (.ptr 0 0)),(0,.one (.ptr 1 0)),(0,.one (.ptr 2 0)),(2,.agg (V8.cs p0)),(0,iv 0)] 16) (fun (v1:Int)=>[.box [ic v1,ic p0.x1,ic p0.x2,ic p0.x3,ic p0.x4,ic p0.x5,ic p0.x6,ic p0.x7],.box (V8.cs p1),.box [ic 0,ic 0,ic 0,ic 0,ic 0,ic 0,ic 0,ic 0]])
  ·intro tl1
   conv=>whnf
   repeat((first|refine dw ?_);conv=>whnf)
   refine qj h (fun c23 g=>?_) (fun c23 g=>?_)
   ·replace h:=g
    clear g
    conv=>whnf
    repeat((first|refine dw ?_|refine bct c23 ?_);conv=>whnf)
    exact tl1.h 0 h
   ·replace h:=g
    clear g
    conv=>whnf
    repeat((first|refine dw ?_|refine bcf c23 ?_);conv=>whnf)
    refine qj h (fun c24 g=>?_) (fun c24 g=>?_)
    ·replace h:=g
     clear g
     conv=>whnf
     repeat((first|refine dw ?_|refine bct c24 ?_);conv=>whnf)
     exact tl1.h 0 h
    ·replace h:=g
     clear g
     conv=>whnf
     repeat((first|refine dw ?_|refine bcf c24 ?_);conv=>whnf)
     exact tl1.h p0.x0 h
  ·intro v1 h
   unfold qbY at h
   refine qt hX ?_
   conv=>whnf
   repeat((first|refine dw ?_);conv=>whnf)
   refine qa hX ?_
   apply qfd (X:=X) (r:=r) (fun (v2:Int)=>pad [(2,.one (.ptr 0 0)),(0,.one (.ptr 1 0)),(0,.one (.ptr 2 0)),(2,.agg (V8.cs p0)),(0,iv 1)] 16) (fun (v2:Int)=>[.box [ic v1,ic v2,ic p0.x2,ic p0.x3,ic p0.x4,ic p0.x5,ic p0.x6,ic p0.x7],.box (V8.cs p1),.box [ic 0,ic 0,ic 0,ic 0,ic 0,ic 0,ic 0,ic 0]])
   ·intro tl2
    conv=>whnf
    repeat((first|refine dw ?_);conv=>whnf)
    refine qj h (fun c21 g=>?_) (fun c21 g=>?_)
    ·replace h:=g
     clear g
     conv=>whnf
     repeat((first|refine dw ?_|refine bct c21 ?_);conv=>whnf)
     exact tl2.h 0 h
    ·replace h:=g
     clear g
     conv=>whnf
     repeat((first|refine dw ?_|refine bcf c21 ?_);conv=>whnf)
     refine qj h (fun c22 g=>?_) (fun c22 g=>?_)
     ·replace h:=g
      clear g
      conv=>whnf
      repeat((first|refine dw ?_|refine bct c22 ?_);conv=>whnf)
      exact tl2.h 0 h
     ·replace h:=g
      clear g
      conv=>whnf
      repeat((first|refine dw ?_|refine bcf c22 ?_);conv=>whnf)
      exact tl2.h p0.x1 h
   ·intro v2 h
    unfold qbX at h
    refine qt hX ?_
    conv=>whnf
    repeat((first|refine dw ?_);conv=>whnf)
    refine qa hX ?_
    apply qfd (X:=X) (r:=r) (fun (v3:Int)=>pad [(2,.one (.ptr 0 0)),(0,.one (.ptr 1 0)),(0,.one (.ptr 2 0)),(2,.agg (V8.cs p0)),(0,iv 2)] 16) (fun (v3:Int)=>[.box [ic v1,ic v2,ic v3,ic p0.x3,ic p0.x4,ic p0.x5,ic p0.x6,ic p0.x7],.box (V8.cs p1),.box [ic 0,ic 0,ic 0,ic 0,ic 0,ic 0,ic 0,ic 0]])
    ·intro tl3
     conv=>whnf
     repeat((first|refine dw ?_);conv=>whnf)
     refine qj h (fun c19 g=>?_) (fun c19 g=>?_)
     ·replace h:=g
      clear g
      conv=>whnf
      repeat((first|refine dw ?_|refine bct c19 ?_);conv=>whnf)
      exact tl3.h 0 h
     ·replace h:=g
      clear g
      conv=>whnf
      repeat((first|refine dw ?_|refine bcf c19 ?_);conv=>whnf)
      refine qj h (fun c20 g=>?_) (fun c20 g=>?_)
      ·replace h:=g
       clear g
       conv=>whnf
       repeat((first|refine dw ?_|refine bct c20 ?_);conv=>whnf)
       exact tl3.h 0 h
      ·replace h:=g
       clear g
       conv=>whnf
       repeat((first|refine dw ?_|refine bcf c20 ?_);conv=>whnf)
       exact tl3.h p0.x2 h
    ·intro v3 h
     unfold qbW at h
     refine qt hX ?_
     conv=>whnf
     repeat((first|refine dw ?_);conv=>whnf)
     refine qa hX ?_
     apply qfd (X:=X) (r:=r) (fun (v4:Int)=>pad [(2,.one (.ptr 0 0)),(0,.one (.ptr 1 0)),(0,.one (.ptr 2 0)),(2,.agg (V8.cs p0)),(0,iv 3)] 16) (fun (v4:Int)=>[.box [ic v1,ic v2,ic v3,ic v4,ic p0.x4,ic p0.x5,ic p0.x6,ic p0.x7],.box (V8.cs p1),.box [ic 0,ic 0,ic 0,ic 0,ic 0,ic 0,ic 0,ic 0]])
     ·intro tl4
      conv=>whnf
      repeat((first|refine dw ?_);conv=>whnf)
      refine qj h (fun c17 g=>?_) (fun c17 g=>?_)
      ·replace h:=g
       clear g
       conv=>whnf
       repeat((first|refine dw ?_|refine bct c17 ?_);conv=>whnf)
       exact tl4.h 0 h
      ·replace h:=g
       clear g
       conv=>whnf
       repeat((first|refine dw ?_|refine bcf c17 ?_);conv=>whnf)
       refine qj h (fun c18 g=>?_) (fun c18 g=>?_)
       ·replace h:=g
        clear g
        conv=>whnf
        repeat((first|refine dw ?_|refine bct c18 ?_);conv=>whnf)
        exact tl4.h 0 h
       ·replace h:=g
        clear g
        conv=>whnf
        repeat((first|refine dw ?_|refine bcf c18 ?_);conv=>whnf)
        exact tl4.h p0.x3 h
     ·intro v4 h
      unfold qbV at h
      refine qt hX ?_
      conv=>whnf
      repeat((first|refine dw ?_);conv=>whnf)
      refine qa hX ?_
      apply qfd (X:=X) (r:=r) (fun (v5:Int)=>pad [(2,.one (.ptr 0 0)),(0,.one (.ptr 1 0)),(0,.one (.ptr 2 0)),(2,.agg (V8.cs p0)),(0,iv 4)] 16) (fun (v5:Int)=>[.box [ic v1,ic v2,ic v3,ic v4,ic v5,ic p0.x5,ic p0.x6,ic p0.x7],.box (V8.cs p1),.box [ic 0,ic 0,ic 0,ic 0,ic 0,ic 0,ic 0,ic 0]])
      ·intro tl5
       conv=>whnf
       repeat((first|refine dw ?_);conv=>whnf)
       refine qj h (fun c15 g=>?_) (fun c15 g=>?_)
       ·replace h:=g
        clear g
        conv=>whnf
        repeat((first|refine dw ?_|refine bct c15 ?_);conv=>whnf)
        exact tl5.h 0 h
       ·replace h:=g
        clear g
        conv=>whnf
        repeat((first|refine dw ?_|refine bcf c15 ?_);conv=>whnf)
        refine qj h (fun c16 g=>?_) (fun c16 g=>?_)
        ·replace h:=g
         clear g
         conv=>whnf
         repeat((first|refine dw ?_|refine bct c16 ?_);conv=>whnf)
         exact tl5.h 0 h
        ·replace h:=g
         clear g
         conv=>whnf
         repeat((first|refine dw ?_|refine bcf c16 ?_);conv=>whnf)
         exact tl5.h p0.x4 h
      ·intro v5 h
       unfold qbU at h
       refine qt hX ?_
       conv=>whnf
       repeat((first|refine dw ?_);conv=>whnf)
       refine qa hX ?_
       apply qfd (X:=X) (r:=r) (fun (v6:Int)=>pad [(2,.one (.ptr 0 0)),(0,.one (.ptr 1 0)),(0,.one (.ptr 2 0)),(2,.agg (V8.cs p0)),(0,iv 5)] 16) (fun (v6:Int)=>[.box [ic v1,ic v2,ic v3,ic v4,ic v5,ic v6,ic p0.x6,ic p0.x7],.box (V8.cs p1),.box [ic 0,ic 0,ic 0,ic 0,ic 0,ic 0,ic 0,ic 0]])
       ·intro tl6
        conv=>whnf
        repeat((first|refine dw ?_);conv=>whnf)
        refine qj h (fun c13 g=>?_) (fun c13 g=>?_)
        ·replace h:=g
         clear g
         conv=>whnf
         repeat((first|refine dw ?_|refine bct c13 ?_);conv=>whnf)
         exact tl6.h 0 h
        ·replace h:=g
         clear g
         conv=>whnf
         repeat((first|refine dw ?_|refine bcf c13 ?_);conv=>whnf)
         refine qj h (fun c14 g=>?_) (fun c14 g=>?_)
         ·replace h:=g
          clear g
          conv=>whnf
          repeat((first|refine dw ?_|refine bct c14 ?_);conv=>whnf)
          exact tl6.h 0 h
         ·replace h:=g
          clear g
          conv=>whnf
          repeat((first|refine dw ?_|refine bcf c14 ?_);conv=>whnf)
          exact tl6.h p0.x5 h
       ·intro v6 h
        unfold qbT at h
        refine qt hX ?_
        conv=>whnf
        repeat((first|refine dw ?_);conv=>whnf)
        refine qa hX ?_
        apply qfd (X:=X) (r:=r) (fun (v7:Int)=>pad [(2,.one (.ptr 0 0)),(0,.one (.ptr 1 0)),(0,.one (.ptr 2 0)),(2,.agg (V8.cs p0)),(0,iv 6)] 16) (fun (v7:Int)=>[.box [ic v1,ic v2,ic v3,ic v4,ic v5,ic v6,ic v7,ic p0.x7],.box (V8.cs p1),.box [ic 0,ic 0,ic 0,ic 0,ic 0,ic 0,ic 0,ic 0]])
        ·intro tl7
         conv=>whnf
         repeat((first|refine dw ?_);conv=>whnf)
         refine qj h (fun c11 g=>?_) (fun c11 g=>?_)
         ·replace h:=g
          clear g
          conv=>whnf
          repeat((first|refine dw ?_|refine bct c11 ?_);conv=>whnf)
          exact tl7.h 0 h
         ·replace h:=g
          clear g
          conv=>whnf
          repeat((first|refine dw ?_|refine bcf c11 ?_);conv=>whnf)
          refine qj h (fun c12 g=>?_) (fun c12 g=>?_)
          ·replace h:=g
           clear g
           conv=>whnf
           repeat((first|refine dw ?_|refine bct c12 ?_);conv=>whnf)
           exact tl7.h 0 h
          ·replace h:=g
           clear g
           conv=>whnf
           repeat((first|refine dw ?_|refine bcf c12 ?_);conv=>whnf)
           exact tl7.h p0.x6 h
        ·intro v7 h
         unfold qbS at h
         refine qt hX ?_
         conv=>whnf
         repeat((first|refine dw ?_);conv=>whnf)
         refine qa hX ?_
         apply qfd (X:=X) (r:=r) (fun (v8:Int)=>pad [(2,.one (.ptr 0 0)),(0,.one (.ptr 1 0)),(0,.one (.ptr 2 0)),(2,.agg (V8.cs p0)),(0,iv 7)] 16) (fun (v8:Int)=>[.box [ic v1,ic v2,ic v3,ic v4,ic v5,ic v6,ic v7,ic v8],.box (V8.cs p1),.box [ic 0,ic 0,ic 0,ic 0,ic 0,ic 0,ic 0,ic 0]])
         ·intro tl8
          conv=>whnf
          repeat((first|refine dw ?_);conv=>whnf)
          refine qj h (fun c9 g=>?_) (fun c9 g=>?_)
          ·replace h:=g
           clear g
           conv=>whnf
           repeat((first|refine dw ?_|refine bct c9 ?_);conv=>whnf)
           exact tl8.h 0 h
          ·replace h:=g
           clear g
           conv=>whnf
           repeat((first|refine dw ?_|refine bcf c9 ?_);conv=>whnf)
           refine qj h (fun c10 g=>?_) (fun c10 g=>?_)
           ·replace h:=g
            clear g
            conv=>whnf
            repeat((first|refine dw ?_|refine bct c10 ?_);conv=>whnf)
            exact tl8.h 0 h
           ·replace h:=g
            clear g
            conv=>whnf
            repeat((first|refine dw ?_|refine bcf c10 ?_);conv=>whnf)
            exact tl8.h p0.x7 h
         ·intro v8 h
          unfold qcY at h
          refine qt hX ?_
          conv=>whnf
          repeat((first|refine dw ?_);conv=>whnf)
          refine qa hX ?_
          conv=>whnf
          repeat((first|refine dw ?_);conv=>whnf)
          exact qm (f:=fun y=>.agg (V8.cs y)) (g:=fun y=>[]) h hQ
theorem qmD  {p0:Know} {p1:Know} {r:Bool} (h:qd4 p0 p1=some r) (hQ:Q (.one (.p (.v (.bool r)))) []):X (.call 144 [.agg (Know.cs p0),.agg (Know.cs p1)] [] Q):=by
  have K:=fun a (e:some a=some r)=>qm (f:=fun y=>.one (.p (.v (.bool y)))) (g:=fun y=>[]) e hQ
  unfold qd4 at h
  refine qb hX Tryz.func144 rfl rfl ?_
  conv=>whnf
  repeat((first|refine dw ?_);conv=>whnf)
  revert h
  refine brk (fun c1 h=>?_) (fun c1 h=>?_)
  ·conv=>whnf
   repeat((first|refine dw ?_|with_reducible refine bct (qcV c1) ?_|refine bct c1 ?_);conv=>whnf)
   refine qb hX Tryz.func197 rfl rfl ?_
   conv=>whnf
   repeat((first|refine dw ?_|refine qg (qi _) ?_);conv=>whnf)
   revert h
   refine brk (fun c2 h=>?_) (fun c2 h=>?_)
   ·conv=>whnf
    repeat((first|refine dw ?_|refine bct c2 ?_|with_reducible refine bct (qcV c1) ?_|refine bct c1 ?_);conv=>whnf)
    exact K _ h
   ·revert h
    refine chkk fun hs1 h=>?_
    conv=>whnf
    repeat((first|refine dw ?_|refine bcf c2 ?_|refine qg (qi _) ?_);conv=>whnf)
    refine qI (fun (v3:Int)=>pad [(1,.one (.p (.sl (p1.l.map Frag.row)))),(0,.one (.fn 198 [])),(12,.one (.p (.sl (p0.l.map Frag.row)))),(0,iv (p0.l.length:Int)),(0,iv v3)] 14) (fun (v3:Int)=>[]) _ p0.l (fun pre1 x1e xs1 v3  hl1 hi1 h ih1=>?_) (fun v3  hi1 h=>?_)  h
    ·rw [qaP] at h
     have am1:=qB hl1 hi1
     refine qa hX ?_
     revert h
     refine bndk fun x4 a5 h=>?_
     conv=>whnf
     repeat((first|refine dw ?_|refine bct (qC hl1 hi1) ?_|refine bct (qc am1) ?_|refine bct (andt (qc am1) rfl) ?_|refine qe (qf am1) ?_|refine bct (andt (qc (qd am1)) rfl) ?_|refine qe (qf (qd am1)) ?_|refine bct (qc a5) ?_|refine bct (andt (qc a5) rfl) ?_|refine qe (qf a5) ?_|refine bct (andt (qc (qd a5)) rfl) ?_|refine qe (qf (qd a5)) ?_);conv=>whnf)
     refine qb hX Tryz.func198 rfl rfl ?_
     conv=>whnf
     repeat((first|refine dw ?_);conv=>whnf)
     revert h
     refine brk (fun c6 h=>?_) (fun c6 h=>?_)
     ·conv=>whnf
      repeat((first|refine dw ?_|with_reducible refine bct (qcV c6) ?_|refine bct c6 ?_);conv=>whnf)
      refine qb hX Tryz.func199 rfl rfl ?_
      conv=>whnf
      repeat((first|refine dw ?_|refine qg (qi _) ?_);conv=>whnf)
      revert h
      refine brk (fun c7 h=>?_) (fun c7 h=>?_)
      ·conv=>whnf
       repeat((first|refine dw ?_|refine bct c7 ?_|with_reducible refine bct (qcV c6) ?_|with_reducible refine bct (qcV c1) ?_|refine bct c6 ?_|refine bct c1 ?_);conv=>whnf)
       exact K _ h
      ·revert h
       refine chkk fun hs2 h=>?_
       conv=>whnf
       repeat((first|refine dw ?_|refine bcf c7 ?_|refine qg (qi _) ?_);conv=>whnf)
       refine qI (fun (v8:Int)=>pad [(0,.one (.p (.sl (x1e.ids.map srw)))),(0,.one (.p (.sl (x4.ids.map srw)))),(10,iv (x1e.ids.length:Int)),(0,iv v8)] 12) (fun (v8:Int)=>[]) _ x1e.ids (fun pre2 x2e xs2 v8  hl2 hi2 h ih2=>?_) (fun v8  hi2 h=>?_)  h
       ·rw [qbw] at h
        have am2:=qB hl2 hi2
        refine qa hX ?_
        revert h
        refine bndk fun x9 a10 h=>?_
        conv=>whnf
        repeat((first|refine dw ?_|refine bct (qC hl2 hi2) ?_|refine bct (qc am2) ?_|refine bct (andt (qc am2) rfl) ?_|refine qe (qf am2) ?_|refine bct (andt (qc (qd am2)) rfl) ?_|refine qe (qf (qd am2)) ?_|refine bct (qc a10) ?_|refine bct (andt (qc a10) rfl) ?_|refine qe (qf a10) ?_|refine bct (andt (qc (qd a10)) rfl) ?_|refine qe (qf (qd a10)) ?_);conv=>whnf)
        revert h
        refine brk (fun c11 h=>?_) (fun c11 h=>?_)
        ·conv=>whnf
         repeat((first|refine dw ?_|refine bct c11 ?_|with_reducible refine bct (qcV c6) ?_|with_reducible refine bct (qcV c1) ?_|refine bct c6 ?_|refine bct c1 ?_);conv=>whnf)
         exact K _ h
        ·conv=>whnf
         repeat((first|refine dw ?_|refine bcf c11 ?_);conv=>whnf)
         exact ih2 _  (wrL hs2 hl2 hi2) h
       ·rw [qbw] at h
        refine qa hX ?_
        conv=>whnf
        repeat((first|refine dw ?_|refine bcf (qD hi2) ?_|with_reducible refine bct (qcV c6) ?_|refine bct c6 ?_);conv=>whnf)
        exact ih1 _  (wrL hs1 hl1 hi1) h
     ·conv=>whnf
      repeat((first|refine dw ?_|with_reducible refine bcf (qcV c6) ?_|with_reducible refine bct (qcV c1) ?_|refine bcf c6 ?_|refine bct c1 ?_);conv=>whnf)
      exact K _ h
    ·rw [qaP] at h
     refine qa hX ?_
     conv=>whnf
     repeat((first|refine dw ?_|refine bcf (qD hi1) ?_|with_reducible refine bct (qcV c1) ?_|refine bct c1 ?_);conv=>whnf)
     exact K _ h
  ·conv=>whnf
   repeat((first|refine dw ?_|with_reducible refine bcf (qcV c1) ?_|refine bcf c1 ?_);conv=>whnf)
   exact K _ h
end
end Go.Proofs.YtidkmoohgadjkaaGreat
set_option maxHeartbeats 0
namespace Go.Proofs.YtidkmoohgadjkaaGreat
open Go E
noncomputable section
open Pred
def qaQ (x1e:Frag) (k1:(List (ByteArray × V8))→Option (Know)):List ByteArray→(List (ByteArray × V8))→Option (Know)
  | [],v4 =>
  (k1 v4)
  | x2e::xs2,v4 =>
  (opt (mget srw v4 x2e) (fun x5 =>
   (bnd (qdZ x5 x1e.vec) fun y7 =>
    (qaQ x1e k1 xs2  (mset srw v4 x2e y7))))
   (bnd (qdZ (V8.mk 0 0 0 0 0 0 0 0) x1e.vec) fun y9 =>
    (qaQ x1e k1 xs2  (mset srw v4 x2e y9))))
def qP (p0:Know) (v2:List (ByteArray × V8)):List ByteArray→(List Frag)→(List (V8 × Int))→Option (Know)
  | [],v26,v27 =>
  some (Know.mk p0.star v26)
  | x4e::xs4,v26,v27 =>
  (opt (mget srw v2 x4e) (fun x28 =>
   (bnd (qW x28 p0.star) fun y30 =>
    (br (eq8 y30 (V8.mk 0 0 0 0 0 0 0 0))
     (qP p0 v2 xs4  v26 v27)
     (opt (mget V8.row v27 y30) (fun x33 =>
      (bnd (atL v26 x33) fun x35 =>
       (chk (qT x35.ids.length 1)
        (qP p0 v2 xs4  (v26.set x33.toNat (Frag.mk (x35.ids++[x4e]) x35.vec)) v27))))
      (chk (qT v26.length 1)
       (bnd (atL (v26++[(Frag.mk ([]:List ByteArray) y30)]) (v26.length:Int)) fun x40 =>
        (chk (qT x40.ids.length 1)
         (qP p0 v2 xs4  ((v26++[(Frag.mk ([]:List ByteArray) y30)]).set (v26.length:Int).toNat (Frag.mk (x40.ids++[x4e]) x40.vec)) (mset V8.row v27 y30 (v26.length:Int))))))))))
   (bnd (qW (V8.mk 0 0 0 0 0 0 0 0) p0.star) fun y43 =>
    (br (eq8 y43 (V8.mk 0 0 0 0 0 0 0 0))
     (qP p0 v2 xs4  v26 v27)
     (opt (mget V8.row v27 y43) (fun x46 =>
      (bnd (atL v26 x46) fun x48 =>
       (chk (qT x48.ids.length 1)
        (qP p0 v2 xs4  (v26.set x46.toNat (Frag.mk (x48.ids++[x4e]) x48.vec)) v27))))
      (chk (qT v26.length 1)
       (bnd (atL (v26++[(Frag.mk ([]:List ByteArray) y43)]) (v26.length:Int)) fun x53 =>
        (chk (qT x53.ids.length 1)
         (qP p0 v2 xs4  ((v26++[(Frag.mk ([]:List ByteArray) y43)]).set (v26.length:Int).toNat (Frag.mk (x53.ids++[x4e]) x53.vec)) (mset V8.row v27 y43 (v26.length:Int))))))))))
def qaB (p0:Know) (v2:List (ByteArray × V8)):List ByteArray→(List Frag)→(List (V8 × Int))→Option (Know)
  | [],v64,v65 =>
  some (Know.mk p0.star v64)
  | x5e::xs5,v64,v65 =>
  (opt (mget srw v2 x5e) (fun x66 =>
   (bnd (qW x66 p0.star) fun y68 =>
    (br (eq8 y68 (V8.mk 0 0 0 0 0 0 0 0))
     (qaB p0 v2 xs5  v64 v65)
     (opt (mget V8.row v65 y68) (fun x71 =>
      (bnd (atL v64 x71) fun x73 =>
       (chk (qT x73.ids.length 1)
        (qaB p0 v2 xs5  (v64.set x71.toNat (Frag.mk (x73.ids++[x5e]) x73.vec)) v65))))
      (chk (qT v64.length 1)
       (bnd (atL (v64++[(Frag.mk ([]:List ByteArray) y68)]) (v64.length:Int)) fun x78 =>
        (chk (qT x78.ids.length 1)
         (qaB p0 v2 xs5  ((v64++[(Frag.mk ([]:List ByteArray) y68)]).set (v64.length:Int).toNat (Frag.mk (x78.ids++[x5e]) x78.vec)) (mset V8.row v65 y68 (v64.length:Int))))))))))
   (bnd (qW (V8.mk 0 0 0 0 0 0 0 0) p0.star) fun y81 =>
    (br (eq8 y81 (V8.mk 0 0 0 0 0 0 0 0))
     (qaB p0 v2 xs5  v64 v65)
     (opt (mget V8.row v65 y81) (fun x84 =>
      (bnd (atL v64 x84) fun x86 =>
       (chk (qT x86.ids.length 1)
        (qaB p0 v2 xs5  (v64.set x84.toNat (Frag.mk (x86.ids++[x5e]) x86.vec)) v65))))
      (chk (qT v64.length 1)
       (bnd (atL (v64++[(Frag.mk ([]:List ByteArray) y81)]) (v64.length:Int)) fun x91 =>
        (chk (qT x91.ids.length 1)
         (qaB p0 v2 xs5  ((v64++[(Frag.mk ([]:List ByteArray) y81)]).set (v64.length:Int).toNat (Frag.mk (x91.ids++[x5e]) x91.vec)) (mset V8.row v65 y81 (v64.length:Int))))))))))
def qaC (p0:Know) (v2:List (ByteArray × V8)):List ByteArray→Option (Know)
  | [] =>
  some (Know.mk p0.star [])
  | x3e::xs3 =>
  (opt (mget srw v2 x3e) (fun x16 =>
   (bnd (qW x16 p0.star) fun y18 =>
    (br (eq8 y18 (V8.mk 0 0 0 0 0 0 0 0))
     (qaC p0 v2 xs3  )
     (opt (mget V8.row ([]:List (V8 × Int)) y18) (fun x21 =>
      none)
      (chk (qT 0 1)
       ((qP p0 v2) xs3 [(Frag.mk [x3e] y18)] (mset V8.row ([]:List (V8 × Int)) y18 0)))))))
   (bnd (qW (V8.mk 0 0 0 0 0 0 0 0) p0.star) fun y56 =>
    (br (eq8 y56 (V8.mk 0 0 0 0 0 0 0 0))
     (qaC p0 v2 xs3  )
     (opt (mget V8.row ([]:List (V8 × Int)) y56) (fun x59 =>
      none)
      (chk (qT 0 1)
       ((qaB p0 v2) xs3 [(Frag.mk [x3e] y56)] (mset V8.row ([]:List (V8 × Int)) y56 0)))))))
def qbx (p0:Know):List Frag→(List (ByteArray × V8))→Option (Know)
  | [],v2 =>
  (bnd (qgp v2) fun y11 =>
   (chk (qz y11)
     ((qaC p0 v2) y11 )))
  | x1e::xs1,v2 =>
  (chk (qz x1e.ids)
    ((qaQ x1e (fun w0=>qbx p0 xs1  w0)) x1e.ids v2))
def qbl (p0:Know):Option (Know) :=
 (chk (qz p0.l)
   ((qbx p0) p0.l ([]:List (ByteArray × V8))))
variable {X:Task→Prop} (hX:qk X) {Q:A→List Blk→Prop}
include hX
theorem qf4  {p0:Know} {r:Know} (h:qbl p0=some r) (hQ:Q (.agg (Know.cs r)) []):X (.call 145 [.agg (Know.cs p0)] [] Q):=by
  have K:=fun a (e:some a=some r)=>qm (f:=fun y=>.agg (Know.cs y)) (g:=fun y=>[]) e hQ
  unfold qbl at h
  refine qJ hX ?_
  conv=>whnf
  refine qb hX Tryz.func145 rfl rfl ?_
  revert h
  refine chkk fun hs1 h=>?_
  conv=>whnf
  repeat((first|refine dw ?_|refine qg (qi _) ?_);conv=>whnf)
  refine qO (fun (v1:Int) (v2:List (ByteArray × V8))=>pad [(1,.one (.ptr 0 0)),(0,.one (.ptr 1 0)),(0,.one (.mp 3)),(13,.one (.p (.sl (p0.l.map Frag.row)))),(0,iv (p0.l.length:Int)),(0,iv v1)] 78) (fun (v1:Int) (v2:List (ByteArray × V8))=>[.box (Know.cs p0),.box [ic 0,ic 0,ic 0,ic 0,ic 0,ic 0,ic 0,ic 0,.own 2],.rows 0 [],.mp .str true (v2.map fun e=>(srw e.1,V8.row e.2))]) _ p0.l (fun pre1 x1e xs1 v1 v2 hl1 hi1 h ih1=>?_) (fun v1 v2 hi1 h=>?_) ([]:List (ByteArray × V8)) h
  ·rw [qbx] at h
   have am1:=qB hl1 hi1
   refine qa hX ?_
   revert h
   refine chkk fun hs2 h=>?_
   conv=>whnf
   repeat((first|refine dw ?_|refine bct (qC hl1 hi1) ?_|refine bct (qc am1) ?_|refine bct (andt (qc am1) rfl) ?_|refine qe (qf am1) ?_|refine bct (andt (qc (qd am1)) rfl) ?_|refine qe (qf (qd am1)) ?_|refine qg (qi _) ?_);conv=>whnf)
   refine qO (fun (v3:Int) (v4:List (ByteArray × V8))=>pad [(1,.one (.ptr 0 0)),(0,.one (.ptr 1 0)),(0,.one (.mp 3)),(1,.one (.ptr 4 0)),(11,.one (.p (.sl (p0.l.map Frag.row)))),(0,iv (p0.l.length:Int)),(0,iv v1),(4,.one (.p (.sl (x1e.ids.map srw)))),(0,iv (x1e.ids.length:Int)),(0,iv v3)] 71) (fun (v3:Int) (v4:List (ByteArray × V8))=>[.box (Know.cs p0),.box [ic 0,ic 0,ic 0,ic 0,ic 0,ic 0,ic 0,ic 0,.own 2],.rows 0 [],.mp .str true (v4.map fun e=>(srw e.1,V8.row e.2)),.box (Frag.cs x1e)]) _ x1e.ids (fun pre2 x2e xs2 v3 v4 hl2 hi2 h ih2=>?_) (fun v3 v4 hi2 h=>?_) v2 h
   ·rw [qaQ] at h
    have am2:=qB hl2 hi2
    refine qa hX ?_
    conv=>whnf
    repeat((first|refine dw ?_|refine bct (qC hl2 hi2) ?_|refine bct (qc am2) ?_|refine bct (andt (qc am2) rfl) ?_|refine qe (qf am2) ?_|refine bct (andt (qc (qd am2)) rfl) ?_|refine qe (qf (qd am2)) ?_);conv=>whnf)
    refine qdT h (fun x5 e6 h=>?_) (fun e6 h=>?_) (qfV (f:=srw) (g:=V8.row) _ x2e)
    ·revert h
     refine bndk fun y7 e8 h=>?_
     conv=>whnf
     repeat((first|refine dw ?_);conv=>whnf)
     refine qiP hX e8 ?_
     conv=>whnf
     repeat((first|refine dw ?_|refine qg (qhH (f:=srw) (g:=V8.row) v4 x2e y7) ?_);conv=>whnf)
     exact ih2 _ (mset srw v4 x2e y7) (wrL hs2 hl2 hi2) h
    ·revert h
     refine bndk fun y9 e10 h=>?_
     conv=>whnf
     repeat((first|refine dw ?_);conv=>whnf)
     refine qiP hX e10 ?_
     conv=>whnf
     repeat((first|refine dw ?_|refine qg (qhH (f:=srw) (g:=V8.row) v4 x2e y9) ?_);conv=>whnf)
     exact ih2 _ (mset srw v4 x2e y9) (wrL hs2 hl2 hi2) h
   ·rw [qaQ] at h
    refine qa hX ?_
    conv=>whnf
    repeat((first|refine dw ?_|refine bcf (qD hi2) ?_);conv=>whnf)
    exact ih1 _ v4 (wrL hs1 hl1 hi1) h
  ·rw [qbx] at h
   refine qa hX ?_
   conv=>whnf
   repeat((first|refine dw ?_|refine bcf (qD hi1) ?_);conv=>whnf)
   refine qb hX Tryz.func201 rfl rfl ?_
   revert h
   refine bndk fun y11 e12 h=>?_
   conv=>whnf
   repeat((first|refine dw ?_);conv=>whnf)
   refine Or.inl ?_
   conv=>whnf
   refine qvy (g:=V8.row) hX e12 ?_
   revert h
   refine chkk fun hs3 h=>?_
   conv=>whnf
   repeat((first|refine dw ?_|refine qg (qi _) ?_);conv=>whnf)
   refine qfL hX ?_
   conv=>whnf
   refine qal (fun (v15:Int)=>pad [(1,.one (.ptr 0 0)),(0,.one (.ptr 1 0)),(0,.one (.mp 3)),(4,.one (.ptr 4 0)),(0,.one (.mp 6)),(36,.one (.own 7)),(0,iv (y11.length:Int)),(0,iv v15)] 49) (fun (v15:Int)=>[.box (Know.cs p0),.box [ic 0,ic 0,ic 0,ic 0,ic 0,ic 0,ic 0,ic 0,.own 2],.rows 0 [],.mp .str true (v2.map fun e=>(srw e.1,V8.row e.2)),.box [ic p0.star.x0,ic p0.star.x1,ic p0.star.x2,ic p0.star.x3,ic p0.star.x4,ic p0.star.x5,ic p0.star.x6,ic p0.star.x7,.own 5],.rows 0 [],.mp (.ints .i64 8) false (([]:List (V8 × Int)).map fun e=>(V8.row e.1,irw e.2)),.rows 1 (y11.map srw)]) _ y11 (fun pre3 x3e xs3 v15  hl3 hi3 h ih3=>?_) (fun v15  hi3 h=>?_)  h
   ·rw [qaC] at h
    have am3:=qB hl3 hi3
    refine qa hX ?_
    conv=>whnf
    repeat((first|refine dw ?_|refine bct (qC hl3 hi3) ?_|refine bct (qc am3) ?_|refine bct (andt (qc am3) rfl) ?_|refine qe (qf am3) ?_|refine bct (andt (qc (qd am3)) rfl) ?_|refine qe (qf (qd am3)) ?_);conv=>whnf)
    refine qdT h (fun x16 e17 h=>?_) (fun e17 h=>?_) (qfV (f:=srw) (g:=V8.row) _ x3e)
    ·revert h
     refine bndk fun y18 e19 h=>?_
     conv=>whnf
     repeat((first|refine dw ?_);conv=>whnf)
     refine qcL hX e19 ?_
     conv=>whnf
     repeat((first|refine dw ?_);conv=>whnf)
     revert h
     refine brk (fun c20 h=>?_) (fun c20 h=>?_)
     ·conv=>whnf
      repeat((first|refine dw ?_|with_reducible refine bct (qcV c20) ?_|refine bct c20 ?_);conv=>whnf)
      exact ih3 _  (wrL hs3 hl3 hi3) h
     ·conv=>whnf
      repeat((first|refine dw ?_|with_reducible refine bcf (qcV c20) ?_|refine bcf c20 ?_);conv=>whnf)
      refine qdT h (fun x21 e22 h=>?_) (fun e22 h=>?_) (qfV (f:=V8.row) (g:=irw) _ y18)
      ·exact qkK h
      ·revert h
       refine chkk fun c24 h=>?_
       have hs4:=hs3
       conv=>whnf
       repeat((first|refine dw ?_|refine qg (b:=0) rfl ?_|refine qg (qhH (f:=V8.row) (g:=irw) ([]:List (V8 × Int)) y18 0) ?_|refine Two.r ?_|refine bct (by rfl) ?_|refine bct (by decide) ?_|refine bct (qdX c24 rfl rfl rfl rfl) ?_|refine qg (qnL (f:=srw) x3e) ?_|refine qg (b:=([(Frag.mk [x3e] y18)].map Frag.row)) rfl ?_);conv=>whnf)
       refine qfL hX ?_
       conv=>whnf
       refine qjV (fun (v25:Int) (v26:List Frag) (v27:List (V8 × Int))=>pad [(1,.one (.ptr 0 0)),(0,.one (.ptr 1 0)),(0,.one (.mp 3)),(4,.one (.ptr 4 0)),(0,.one (.mp 6)),(36,.one (.own 7)),(0,iv (y11.length:Int)),(0,iv v25)] 49) (fun (v25:Int) (v26:List Frag) (v27:List (V8 × Int))=>[.box (Know.cs p0),.box [ic 0,ic 0,ic 0,ic 0,ic 0,ic 0,ic 0,ic 0,.own 2],.rows 0 [],.mp .str true (v2.map fun e=>(srw e.1,V8.row e.2)),.box [ic p0.star.x0,ic p0.star.x1,ic p0.star.x2,ic p0.star.x3,ic p0.star.x4,ic p0.star.x5,ic p0.star.x6,ic p0.star.x7,.own 5],.nest 9 0 1 (v26.map Frag.row),.mp (.ints .i64 8) false (v27.map fun e=>(V8.row e.1,irw e.2)),.rows 1 (y11.map srw)]) _ y11 _ xs3 _ (qkN hl3) (qkO hs3 hl3 hi3) (fun pre4 x4e xs4 v25 v26 v27 hl4 hi4 h ih4=>?_) (fun v25 v26 v27 hi4 h=>?_) [(Frag.mk [x3e] y18)] (mset V8.row ([]:List (V8 × Int)) y18 0) h
       ·rw [qP] at h
        have am4:=qB hl4 hi4
        refine qa hX ?_
        conv=>whnf
        repeat((first|refine dw ?_|refine bct (qC hl4 hi4) ?_|refine bct (qc am4) ?_|refine bct (andt (qc am4) rfl) ?_|refine qe (qf am4) ?_|refine bct (andt (qc (qd am4)) rfl) ?_|refine qe (qf (qd am4)) ?_);conv=>whnf)
        refine qdT h (fun x28 e29 h=>?_) (fun e29 h=>?_) (qfV (f:=srw) (g:=V8.row) _ x4e)
        ·revert h
         refine bndk fun y30 e31 h=>?_
         conv=>whnf
         repeat((first|refine dw ?_);conv=>whnf)
         refine qcL hX e31 ?_
         conv=>whnf
         repeat((first|refine dw ?_);conv=>whnf)
         revert h
         refine brk (fun c32 h=>?_) (fun c32 h=>?_)
         ·conv=>whnf
          repeat((first|refine dw ?_|with_reducible refine bct (qcV c32) ?_|refine bct c32 ?_);conv=>whnf)
          exact ih4 _ v26 v27 (wrL hs4 hl4 hi4) h
         ·conv=>whnf
          repeat((first|refine dw ?_|with_reducible refine bcf (qcV c32) ?_|refine bcf c32 ?_);conv=>whnf)
          refine qdT h (fun x33 e34 h=>?_) (fun e34 h=>?_) (qfV (f:=V8.row) (g:=irw) _ y30)
          ·revert h
           refine bndk fun x35 a36 h=>?_
           revert h
           refine chkk fun c37 h=>?_
           conv=>whnf
           repeat((first|refine dw ?_|refine bct (qc a36) ?_|refine bct (andt (qc a36) rfl) ?_|refine qe (qf a36) ?_|refine bct (andt (qc (qd a36)) rfl) ?_|refine qe (qf (qd a36)) ?_|refine bct (and3 (qc (qd a36)) rfl rfl) ?_|refine bct (and3 (qc a36) rfl rfl) ?_|refine bct (qx c37 rfl rfl rfl rfl) ?_|refine qg (qH (f:=srw) x35.ids x4e) ?_|refine bct (and4 (qc (qd a36)) rfl rfl (qF _)) ?_|refine bct (and4 (qc a36) rfl rfl (qF _)) ?_|refine qg (qew (f:=Frag.row) v26 x33.toNat (Frag.mk (x35.ids++[x4e]) x35.vec)) ?_);conv=>whnf)
           exact ih4 _ (v26.set x33.toNat (Frag.mk (x35.ids++[x4e]) x35.vec)) v27 (wrL hs4 hl4 hi4) h
          ·revert h
           refine chkk fun c39 h=>?_
           revert h
           refine bndk fun x40 a41 h=>?_
           revert h
           refine chkk fun c42 h=>?_
           conv=>whnf
           repeat((first|refine dw ?_|refine qg (qi _) ?_|refine qg (qhH (f:=V8.row) (g:=irw) v27 y30 (v26.length:Int)) ?_|refine Two.r ?_|refine bct (qfU c39 rfl rfl rfl) ?_|refine qg (qH (f:=Frag.row) v26 (Frag.mk ([]:List ByteArray) y30)) ?_|refine bct (qc a41) ?_|refine bct (andt (qc a41) rfl) ?_|refine qe (qf a41) ?_|refine bct (andt (qc (qd a41)) rfl) ?_|refine qe (qf (qd a41)) ?_|refine bct (and3 (qc (qd a41)) rfl rfl) ?_|refine bct (and3 (qc a41) rfl rfl) ?_|refine bct (qx c42 rfl rfl rfl rfl) ?_|refine qg (qH (f:=srw) x40.ids x4e) ?_|refine bct (and4 (qc (qd a41)) rfl rfl (qF _)) ?_|refine bct (and4 (qc a41) rfl rfl (qF _)) ?_|refine qg (qew (f:=Frag.row) (v26++[(Frag.mk ([]:List ByteArray) y30)]) (v26.length:Int).toNat (Frag.mk (x40.ids++[x4e]) x40.vec)) ?_);conv=>whnf)
           exact ih4 _ ((v26++[(Frag.mk ([]:List ByteArray) y30)]).set (v26.length:Int).toNat (Frag.mk (x40.ids++[x4e]) x40.vec)) (mset V8.row v27 y30 (v26.length:Int)) (wrL hs4 hl4 hi4) h
        ·revert h
         refine bndk fun y43 e44 h=>?_
         conv=>whnf
         repeat((first|refine dw ?_);conv=>whnf)
         refine qcL hX e44 ?_
         conv=>whnf
         repeat((first|refine dw ?_);conv=>whnf)
         revert h
         refine brk (fun c45 h=>?_) (fun c45 h=>?_)
         ·conv=>whnf
          repeat((first|refine dw ?_|with_reducible refine bct (qcV c45) ?_|refine bct c45 ?_);conv=>whnf)
          exact ih4 _ v26 v27 (wrL hs4 hl4 hi4) h
         ·conv=>whnf
          repeat((first|refine dw ?_|with_reducible refine bcf (qcV c45) ?_|refine bcf c45 ?_);conv=>whnf)
          refine qdT h (fun x46 e47 h=>?_) (fun e47 h=>?_) (qfV (f:=V8.row) (g:=irw) _ y43)
          ·revert h
           refine bndk fun x48 a49 h=>?_
           revert h
           refine chkk fun c50 h=>?_
           conv=>whnf
           repeat((first|refine dw ?_|refine bct (qc a49) ?_|refine bct (andt (qc a49) rfl) ?_|refine qe (qf a49) ?_|refine bct (andt (qc (qd a49)) rfl) ?_|refine qe (qf (qd a49)) ?_|refine bct (and3 (qc (qd a49)) rfl rfl) ?_|refine bct (and3 (qc a49) rfl rfl) ?_|refine bct (qx c50 rfl rfl rfl rfl) ?_|refine qg (qH (f:=srw) x48.ids x4e) ?_|refine bct (and4 (qc (qd a49)) rfl rfl (qF _)) ?_|refine bct (and4 (qc a49) rfl rfl (qF _)) ?_|refine qg (qew (f:=Frag.row) v26 x46.toNat (Frag.mk (x48.ids++[x4e]) x48.vec)) ?_);conv=>whnf)
           exact ih4 _ (v26.set x46.toNat (Frag.mk (x48.ids++[x4e]) x48.vec)) v27 (wrL hs4 hl4 hi4) h
          ·revert h
           refine chkk fun c52 h=>?_
           revert h
           refine bndk fun x53 a54 h=>?_
           revert h
           refine chkk fun c55 h=>?_
           conv=>whnf
           repeat((first|refine dw ?_|refine qg (qi _) ?_|refine qg (qhH (f:=V8.row) (g:=irw) v27 y43 (v26.length:Int)) ?_|refine Two.r ?_|refine bct (qfU c52 rfl rfl rfl) ?_|refine qg (qH (f:=Frag.row) v26 (Frag.mk ([]:List ByteArray) y43)) ?_|refine bct (qc a54) ?_|refine bct (andt (qc a54) rfl) ?_|refine qe (qf a54) ?_|refine bct (andt (qc (qd a54)) rfl) ?_|refine qe (qf (qd a54)) ?_|refine bct (and3 (qc (qd a54)) rfl rfl) ?_|refine bct (and3 (qc a54) rfl rfl) ?_|refine bct (qx c55 rfl rfl rfl rfl) ?_|refine qg (qH (f:=srw) x53.ids x4e) ?_|refine bct (and4 (qc (qd a54)) rfl rfl (qF _)) ?_|refine bct (and4 (qc a54) rfl rfl (qF _)) ?_|refine qg (qew (f:=Frag.row) (v26++[(Frag.mk ([]:List ByteArray) y43)]) (v26.length:Int).toNat (Frag.mk (x53.ids++[x4e]) x53.vec)) ?_);conv=>whnf)
           exact ih4 _ ((v26++[(Frag.mk ([]:List ByteArray) y43)]).set (v26.length:Int).toNat (Frag.mk (x53.ids++[x4e]) x53.vec)) (mset V8.row v27 y43 (v26.length:Int)) (wrL hs4 hl4 hi4) h
       ·rw [qP] at h
        refine qa hX ?_
        conv=>whnf
        repeat((first|refine dw ?_|refine bcf (qD hi4) ?_);conv=>whnf)
        exact K _ h
    ·revert h
     refine bndk fun y56 e57 h=>?_
     conv=>whnf
     repeat((first|refine dw ?_);conv=>whnf)
     refine qcL hX e57 ?_
     conv=>whnf
     repeat((first|refine dw ?_);conv=>whnf)
     revert h
     refine brk (fun c58 h=>?_) (fun c58 h=>?_)
     ·conv=>whnf
      repeat((first|refine dw ?_|with_reducible refine bct (qcV c58) ?_|refine bct c58 ?_);conv=>whnf)
      exact ih3 _  (wrL hs3 hl3 hi3) h
     ·conv=>whnf
      repeat((first|refine dw ?_|with_reducible refine bcf (qcV c58) ?_|refine bcf c58 ?_);conv=>whnf)
      refine qdT h (fun x59 e60 h=>?_) (fun e60 h=>?_) (qfV (f:=V8.row) (g:=irw) _ y56)
      ·exact qkK h
      ·revert h
       refine chkk fun c62 h=>?_
       have hs5:=hs3
       conv=>whnf
       repeat((first|refine dw ?_|refine qg (b:=0) rfl ?_|refine qg (qhH (f:=V8.row) (g:=irw) ([]:List (V8 × Int)) y56 0) ?_|refine Two.r ?_|refine bct (by rfl) ?_|refine bct (by decide) ?_|refine bct (qdX c62 rfl rfl rfl rfl) ?_|refine qg (qnL (f:=srw) x3e) ?_|refine qg (b:=([(Frag.mk [x3e] y56)].map Frag.row)) rfl ?_);conv=>whnf)
       refine qfL hX ?_
       conv=>whnf
       refine qjV (fun (v63:Int) (v64:List Frag) (v65:List (V8 × Int))=>pad [(1,.one (.ptr 0 0)),(0,.one (.ptr 1 0)),(0,.one (.mp 3)),(4,.one (.ptr 4 0)),(0,.one (.mp 6)),(36,.one (.own 7)),(0,iv (y11.length:Int)),(0,iv v63)] 49) (fun (v63:Int) (v64:List Frag) (v65:List (V8 × Int))=>[.box (Know.cs p0),.box [ic 0,ic 0,ic 0,ic 0,ic 0,ic 0,ic 0,ic 0,.own 2],.rows 0 [],.mp .str true (v2.map fun e=>(srw e.1,V8.row e.2)),.box [ic p0.star.x0,ic p0.star.x1,ic p0.star.x2,ic p0.star.x3,ic p0.star.x4,ic p0.star.x5,ic p0.star.x6,ic p0.star.x7,.own 5],.nest 9 0 1 (v64.map Frag.row),.mp (.ints .i64 8) false (v65.map fun e=>(V8.row e.1,irw e.2)),.rows 1 (y11.map srw)]) _ y11 _ xs3 _ (qkN hl3) (qkO hs3 hl3 hi3) (fun pre5 x5e xs5 v63 v64 v65 hl5 hi5 h ih5=>?_) (fun v63 v64 v65 hi5 h=>?_) [(Frag.mk [x3e] y56)] (mset V8.row ([]:List (V8 × Int)) y56 0) h
       ·rw [qaB] at h
        have am5:=qB hl5 hi5
        refine qa hX ?_
        conv=>whnf
        repeat((first|refine dw ?_|refine bct (qC hl5 hi5) ?_|refine bct (qc am5) ?_|refine bct (andt (qc am5) rfl) ?_|refine qe (qf am5) ?_|refine bct (andt (qc (qd am5)) rfl) ?_|refine qe (qf (qd am5)) ?_);conv=>whnf)
        refine qdT h (fun x66 e67 h=>?_) (fun e67 h=>?_) (qfV (f:=srw) (g:=V8.row) _ x5e)
        ·revert h
         refine bndk fun y68 e69 h=>?_
         conv=>whnf
         repeat((first|refine dw ?_);conv=>whnf)
         refine qcL hX e69 ?_
         conv=>whnf
         repeat((first|refine dw ?_);conv=>whnf)
         revert h
         refine brk (fun c70 h=>?_) (fun c70 h=>?_)
         ·conv=>whnf
          repeat((first|refine dw ?_|with_reducible refine bct (qcV c70) ?_|refine bct c70 ?_);conv=>whnf)
          exact ih5 _ v64 v65 (wrL hs5 hl5 hi5) h
         ·conv=>whnf
          repeat((first|refine dw ?_|with_reducible refine bcf (qcV c70) ?_|refine bcf c70 ?_);conv=>whnf)
          refine qdT h (fun x71 e72 h=>?_) (fun e72 h=>?_) (qfV (f:=V8.row) (g:=irw) _ y68)
          ·revert h
           refine bndk fun x73 a74 h=>?_
           revert h
           refine chkk fun c75 h=>?_
           conv=>whnf
           repeat((first|refine dw ?_|refine bct (qc a74) ?_|refine bct (andt (qc a74) rfl) ?_|refine qe (qf a74) ?_|refine bct (andt (qc (qd a74)) rfl) ?_|refine qe (qf (qd a74)) ?_|refine bct (and3 (qc (qd a74)) rfl rfl) ?_|refine bct (and3 (qc a74) rfl rfl) ?_|refine bct (qx c75 rfl rfl rfl rfl) ?_|refine qg (qH (f:=srw) x73.ids x5e) ?_|refine bct (and4 (qc (qd a74)) rfl rfl (qF _)) ?_|refine bct (and4 (qc a74) rfl rfl (qF _)) ?_|refine qg (qew (f:=Frag.row) v64 x71.toNat (Frag.mk (x73.ids++[x5e]) x73.vec)) ?_);conv=>whnf)
           exact ih5 _ (v64.set x71.toNat (Frag.mk (x73.ids++[x5e]) x73.vec)) v65 (wrL hs5 hl5 hi5) h
          ·revert h
           refine chkk fun c77 h=>?_
           revert h
           refine bndk fun x78 a79 h=>?_
           revert h
           refine chkk fun c80 h=>?_
           conv=>whnf
           repeat((first|refine dw ?_|refine qg (qi _) ?_|refine qg (qhH (f:=V8.row) (g:=irw) v65 y68 (v64.length:Int)) ?_|refine Two.r ?_|refine bct (qfU c77 rfl rfl rfl) ?_|refine qg (qH (f:=Frag.row) v64 (Frag.mk ([]:List ByteArray) y68)) ?_|refine bct (qc a79) ?_|refine bct (andt (qc a79) rfl) ?_|refine qe (qf a79) ?_|refine bct (andt (qc (qd a79)) rfl) ?_|refine qe (qf (qd a79)) ?_|refine bct (and3 (qc (qd a79)) rfl rfl) ?_|refine bct (and3 (qc a79) rfl rfl) ?_|refine bct (qx c80 rfl rfl rfl rfl) ?_|refine qg (qH (f:=srw) x78.ids x5e) ?_|refine bct (and4 (qc (qd a79)) rfl rfl (qF _)) ?_|refine bct (and4 (qc a79) rfl rfl (qF _)) ?_|refine qg (qew (f:=Frag.row) (v64++[(Frag.mk ([]:List ByteArray) y68)]) (v64.length:Int).toNat (Frag.mk (x78.ids++[x5e]) x78.vec)) ?_);conv=>whnf)
           exact ih5 _ ((v64++[(Frag.mk ([]:List ByteArray) y68)]).set (v64.length:Int).toNat (Frag.mk (x78.ids++[x5e]) x78.vec)) (mset V8.row v65 y68 (v64.length:Int)) (wrL hs5 hl5 hi5) h
        ·revert h
         refine bndk fun y81 e82 h=>?_
         conv=>whnf
         repeat((first|refine dw ?_);conv=>whnf)
         refine qcL hX e82 ?_
         conv=>whnf
         repeat((first|refine dw ?_);conv=>whnf)
         revert h
         refine brk (fun c83 h=>?_) (fun c83 h=>?_)
         ·conv=>whnf
          repeat((first|refine dw ?_|with_reducible refine bct (qcV c83) ?_|refine bct c83 ?_);conv=>whnf)
          exact ih5 _ v64 v65 (wrL hs5 hl5 hi5) h
         ·conv=>whnf
          repeat((first|refine dw ?_|with_reducible refine bcf (qcV c83) ?_|refine bcf c83 ?_);conv=>whnf)
          refine qdT h (fun x84 e85 h=>?_) (fun e85 h=>?_) (qfV (f:=V8.row) (g:=irw) _ y81)
          ·revert h
           refine bndk fun x86 a87 h=>?_
           revert h
           refine chkk fun c88 h=>?_
           conv=>whnf
           repeat((first|refine dw ?_|refine bct (qc a87) ?_|refine bct (andt (qc a87) rfl) ?_|refine qe (qf a87) ?_|refine bct (andt (qc (qd a87)) rfl) ?_|refine qe (qf (qd a87)) ?_|refine bct (and3 (qc (qd a87)) rfl rfl) ?_|refine bct (and3 (qc a87) rfl rfl) ?_|refine bct (qx c88 rfl rfl rfl rfl) ?_|refine qg (qH (f:=srw) x86.ids x5e) ?_|refine bct (and4 (qc (qd a87)) rfl rfl (qF _)) ?_|refine bct (and4 (qc a87) rfl rfl (qF _)) ?_|refine qg (qew (f:=Frag.row) v64 x84.toNat (Frag.mk (x86.ids++[x5e]) x86.vec)) ?_);conv=>whnf)
           exact ih5 _ (v64.set x84.toNat (Frag.mk (x86.ids++[x5e]) x86.vec)) v65 (wrL hs5 hl5 hi5) h
          ·revert h
           refine chkk fun c90 h=>?_
           revert h
           refine bndk fun x91 a92 h=>?_
           revert h
           refine chkk fun c93 h=>?_
           conv=>whnf
           repeat((first|refine dw ?_|refine qg (qi _) ?_|refine qg (qhH (f:=V8.row) (g:=irw) v65 y81 (v64.length:Int)) ?_|refine Two.r ?_|refine bct (qfU c90 rfl rfl rfl) ?_|refine qg (qH (f:=Frag.row) v64 (Frag.mk ([]:List ByteArray) y81)) ?_|refine bct (qc a92) ?_|refine bct (andt (qc a92) rfl) ?_|refine qe (qf a92) ?_|refine bct (andt (qc (qd a92)) rfl) ?_|refine qe (qf (qd a92)) ?_|refine bct (and3 (qc (qd a92)) rfl rfl) ?_|refine bct (and3 (qc a92) rfl rfl) ?_|refine bct (qx c93 rfl rfl rfl rfl) ?_|refine qg (qH (f:=srw) x91.ids x5e) ?_|refine bct (and4 (qc (qd a92)) rfl rfl (qF _)) ?_|refine bct (and4 (qc a92) rfl rfl (qF _)) ?_|refine qg (qew (f:=Frag.row) (v64++[(Frag.mk ([]:List ByteArray) y81)]) (v64.length:Int).toNat (Frag.mk (x91.ids++[x5e]) x91.vec)) ?_);conv=>whnf)
           exact ih5 _ ((v64++[(Frag.mk ([]:List ByteArray) y81)]).set (v64.length:Int).toNat (Frag.mk (x91.ids++[x5e]) x91.vec)) (mset V8.row v65 y81 (v64.length:Int)) (wrL hs5 hl5 hi5) h
       ·rw [qaB] at h
        refine qa hX ?_
        conv=>whnf
        repeat((first|refine dw ?_|refine bcf (qD hi5) ?_);conv=>whnf)
        exact K _ h
   ·rw [qaC] at h
    refine qa hX ?_
    conv=>whnf
    repeat((first|refine dw ?_|refine bcf (qD hi3) ?_);conv=>whnf)
    exact K _ h
end
end Go.Proofs.YtidkmoohgadjkaaGreat
set_option maxHeartbeats 0
namespace Go.Proofs.YtidkmoohgadjkaaGreat
open Go E
noncomputable section
open Pred
def qcm (p0:Know) (p1:ByteArray) (p2:Ver):Option (Know) :=
 (bnd (qgo (V8.mk 0 0 0 0 0 0 0 0) p2) fun y1 =>
  (bnd (qaz p0.l) fun y3 =>
   (chk (qT y3.length 1)
    (bnd (qbl (Know.mk p0.star (y3++[(Frag.mk [p1] y1)]))) fun y6 =>
     some y6))))
variable {X:Task→Prop} (hX:qk X) {Q:A→List Blk→Prop}
include hX
theorem qfD  {p0:Know} {p1:ByteArray} {p2:Ver} {r:Know} (h:qcm p0 p1 p2=some r) (hQ:Q (.agg (Know.cs r)) []):X (.call 97 [.agg (Know.cs p0),.one (.p (.v (.string p1))),.agg (Ver.cs p2)] [] Q):=by
 unfold qcm at h
 refine qJ hX ?_
 conv=>whnf
 refine qb hX Tryz.func97 rfl rfl ?_
 revert h
 refine bndk fun y1 e2 h=>?_
 conv=>whnf
 repeat((first|refine dw ?_);conv=>whnf)
 refine qqC hX e2 ?_
 revert h
 refine bndk fun y3 e4 h=>?_
 conv=>whnf
 repeat((first|refine dw ?_);conv=>whnf)
 refine qfx (f:=Frag.row) (k:=9) (fun _=>rfl) (by decide) hX e4 ?_
 revert h
 refine chkk fun c5 h=>?_
 revert h
 refine bndk fun y6 e7 h=>?_
 conv=>whnf
 repeat((first|refine dw ?_|refine bct (qx c5 rfl rfl rfl rfl) ?_|refine qg (qH (f:=Frag.row) y3 (Frag.mk [p1] y1)) ?_);conv=>whnf)
 refine Or.inl ?_
 conv=>whnf
 refine qf4 hX e7 ?_
 conv=>whnf
 repeat((first|refine dw ?_);conv=>whnf)
 exact qm (f:=fun y=>.agg (Know.cs y)) (g:=fun y=>[]) h hQ
end
end Go.Proofs.YtidkmoohgadjkaaGreat
set_option maxHeartbeats 0
namespace Go.Proofs.YtidkmoohgadjkaaGreat
open Go E
noncomputable section
open Pred
def qcn (y1:V8):List (List Frag)→(List Frag)→Option (Know)
  | [],v9 =>
  (bnd (qbl (Know.mk y1 v9)) fun y11 =>
   some y11)
  | x2e::xs2,v9 =>
  (chk (qT v9.length x2e.length)
   (qcn y1 xs2  (v9++x2e)))
def qco (p0:Know) (p1:Know) (y1:V8):List (List Frag)→Int→Option (Know)
  | [],v3 =>
  (bnd (qmz v3) fun y6 =>
   (chk (qz [p0.l,p1.l])
     ((qcn y1) [p0.l,p1.l] y6)))
  | x1e::xs1,v3 =>
  (br (ltI (wr .i64 (v3 + (x1e.length:Int))) 0)
   none
   (qco p0 p1 y1 xs1  (wr .i64 (v3 + (x1e.length:Int)))))
def qeE (p0:Know) (p1:Know):Option (Know) :=
 (bnd (qdZ p0.star p1.star) fun y1 =>
  (chk (qz [p0.l,p1.l])
    ((qco p0 p1 y1) [p0.l,p1.l] 0)))
def qdd (p1:ByteArray) (p2:Ver) (x1e:Frag) (k1:Option (Bool)):List ByteArray→Int→Option (Bool)
  | [],v5 =>
  (k1 )
  | x2e::xs2,v5 =>
  (br (eqS p1 x2e)
   (br (leI 0 v5)
    (bnd (qe8 x1e.vec p2) fun y8 =>
     (br y8
      (some true)
      (k1 )))
    (k1 ))
   (qdd p1 p2 x1e k1 xs2 (v5 + 1) ))
def qde (p1:ByteArray) (p2:Ver):List Frag→Option (Bool)
 | [] =>
 some false
 | x1e::xs1 =>
 (chk (qz x1e.ids)
  ((qdd p1 p2 x1e (qde p1 p2 xs1 )) x1e.ids 0 ))
def qfh (p0:Know) (p1:ByteArray) (p2:Ver):Option (Bool) :=
 (bnd (qe8 p0.star p2) fun y1 =>
  (br y1
   (some true)
   (chk (qz p0.l)
     ((qde p1 p2) p0.l ))))
def qdf (k1:Option (Bool)):List ByteArray→Int→Option (Bool)
  | [],v13 =>
  (k1 )
  | x2e::xs2,v13 =>
  (bnd (qey x2e) fun y14 =>
   (br (!y14)
    (br (leI 0 v13)
     (some false)
     (k1 ))
    (qdf k1 xs2 (v13 + 1) )))
def qdg:List Frag→Option (Bool)
  | [] =>
  some true
  | x1e::xs1 =>
  (bnd (qe9 x1e.vec) fun y10 =>
   (br (!y10)
    (some false)
    (chk (qz x1e.ids)
      ((qdf (qdg xs1 )) x1e.ids 0 ))))
def qat (p0:Know):Option (Bool) :=
 (bnd (qe9 p0.star) fun y1 =>
  (br (!y1)
   (some false)
   (bnd (qbl p0) fun y4 =>
    (bnd (qd4 p0 y4) fun y6 =>
     (br (!y6)
      (some false)
      (chk (qz p0.l)
        ((qdg) p0.l )))))))
variable {X:Task→Prop} (hX:qk X) {Q:A→List Blk→Prop}
include hX
theorem qnX  {p0:Know} {p1:Know} {r:Know} (h:qeE p0 p1=some r) (hQ:Q (.agg (Know.cs r)) []):X (.call 131 [.agg (Know.cs p0),.agg (Know.cs p1)] [] Q):=by
  unfold qeE at h
  refine qJ hX ?_
  conv=>whnf
  refine qb hX Tryz.func131 rfl rfl ?_
  revert h
  refine bndk fun y1 e2 h=>?_
  conv=>whnf
  repeat((first|refine dw ?_);conv=>whnf)
  refine qiP hX e2 ?_
  conv=>whnf
  repeat((first|refine dw ?_);conv=>whnf)
  refine Or.inl ?_
  conv=>whnf
  refine qb hX Tryz.func190 rfl rfl ?_
  revert h
  refine chkk fun hs1 h=>?_
  conv=>whnf
  repeat((first|refine dw ?_|refine qg (qi (f:=(slrw Frag.row)) [p0.l,p1.l]) ?_);conv=>whnf)
  refine qO (fun (v4:Int) (v3:Int)=>pad [(0,.one (.p (.sl ([p0.l,p1.l].map (slrw Frag.row))))),(2,iv v3),(5,.one (.p (.sl ([p0.l,p1.l].map (slrw Frag.row))))),(0,iv ([p0.l,p1.l].length:Int)),(0,iv v4)] 24) (fun (v4:Int) (v3:Int)=>[]) _ [p0.l,p1.l] (fun pre1 x1e xs1 v4 v3 hl1 hi1 h ih1=>?_) (fun v4 v3 hi1 h=>?_) 0 h
  ·rw [qco] at h
   have am1:=qB hl1 hi1
   refine qa hX ?_
   conv=>whnf
   repeat((first|refine dw ?_|refine bct (qC hl1 hi1) ?_|refine bct (qc am1) ?_|refine bct (andt (qc am1) rfl) ?_|refine qe (qf am1) ?_|refine bct (andt (qc (qd am1)) rfl) ?_|refine qe (qf (qd am1)) ?_|refine qg (qi _) ?_);conv=>whnf)
   revert h
   refine brk (fun c5 h=>?_) (fun c5 h=>?_)
   ·exact qkK h
   ·conv=>whnf
    repeat((first|refine dw ?_|refine bcf c5 ?_);conv=>whnf)
    exact ih1 _ (wr .i64 (v3 + (x1e.length:Int))) (wrL hs1 hl1 hi1) h
  ·rw [qco] at h
   refine qa hX ?_
   revert h
   refine bndk fun y6 e7 h=>?_
   conv=>whnf
   repeat((first|refine dw ?_|refine bcf (qD hi1) ?_);conv=>whnf)
   refine qAa hX e7 ?_
   revert h
   refine chkk fun hs2 h=>?_
   conv=>whnf
   repeat((first|refine dw ?_|refine qg (qi (f:=(slrw Frag.row)) [p0.l,p1.l]) ?_);conv=>whnf)
   refine qO (fun (v8:Int) (v9:List Frag)=>pad [(6,.one (.own 0)),(18,.one (.p (.sl ([p0.l,p1.l].map (slrw Frag.row))))),(0,iv ([p0.l,p1.l].length:Int)),(0,iv v8)] 8) (fun (v8:Int) (v9:List Frag)=>[.rows 9 (v9.map Frag.row)]) _ [p0.l,p1.l] (fun pre2 x2e xs2 v8 v9 hl2 hi2 h ih2=>?_) (fun v8 v9 hi2 h=>?_) y6 h
   ·rw [qcn] at h
    have am2:=qB hl2 hi2
    refine qa hX ?_
    revert h
    refine chkk fun c10 h=>?_
    conv=>whnf
    repeat((first|refine dw ?_|refine bct (qC hl2 hi2) ?_|refine bct (qc am2) ?_|refine bct (andt (qc am2) rfl) ?_|refine qe (qf am2) ?_|refine bct (andt (qc (qd am2)) rfl) ?_|refine qe (qf (qd am2)) ?_|refine bct (qx c10 (List.length_map ..) rfl (qas (f:=Frag.row) (sz:=9) (fun _=>rfl) _) rfl) ?_|refine qg (qgK (f:=Frag.row) v9 _) ?_);conv=>whnf)
    exact ih2 _ (v9++x2e) (wrL hs2 hl2 hi2) h
   ·rw [qcn] at h
    refine qa hX ?_
    revert h
    refine bndk fun y11 e12 h=>?_
    conv=>whnf
    repeat((first|refine dw ?_|refine bcf (qD hi2) ?_);conv=>whnf)
    refine qf4 hX e12 ?_
    conv=>whnf
    repeat((first|refine dw ?_);conv=>whnf)
    exact qm (f:=fun y=>.agg (Know.cs y)) (g:=fun y=>[]) h hQ
theorem qqL  {p0:Know} {p1:ByteArray} {p2:Ver} {r:Bool} (h:qfh p0 p1 p2=some r) (hQ:Q (.one (.p (.v (.bool r)))) []):X (.call 40 [.agg (Know.cs p0),.one (.p (.v (.string p1))),.agg (Ver.cs p2)] [] Q):=by
  have K:=fun a (e:some a=some r)=>qm (f:=fun y=>.one (.p (.v (.bool y)))) (g:=fun y=>[]) e hQ
  unfold qfh at h
  refine qb hX Tryz.func40 rfl rfl ?_
  revert h
  refine bndk fun y1 e2 h=>?_
  conv=>whnf
  repeat((first|refine dw ?_);conv=>whnf)
  refine qmu hX e2 ?_
  conv=>whnf
  repeat((first|refine dw ?_);conv=>whnf)
  revert h
  refine brk (fun c3 h=>?_) (fun c3 h=>?_)
  ·conv=>whnf
   repeat((first|refine dw ?_|refine bct c3 ?_);conv=>whnf)
   exact K _ h
  ·revert h
   refine chkk fun hs1 h=>?_
   conv=>whnf
   repeat((first|refine dw ?_|refine bcf c3 ?_|refine qg (qi _) ?_);conv=>whnf)
   refine qal (fun (v4:Int)=>pad [(1,.one (.p (.v (.string p1)))),(3,.one (.ptr 0 0)),(8,.one (.p (.sl (p0.l.map Frag.row)))),(0,iv (p0.l.length:Int)),(0,iv v4)] 14) (fun (v4:Int)=>[.box (Ver.cs p2)]) _ p0.l (fun pre1 x1e xs1 v4  hl1 hi1 h ih1=>?_) (fun v4  hi1 h=>?_)  h
   ·rw [qde] at h
    have am1:=qB hl1 hi1
    refine qa hX ?_
    conv=>whnf
    repeat((first|refine dw ?_|refine bct (qC hl1 hi1) ?_|refine bct (qc am1) ?_|refine bct (andt (qc am1) rfl) ?_|refine qe (qf am1) ?_|refine bct (andt (qc (qd am1)) rfl) ?_|refine qe (qf (qd am1)) ?_);conv=>whnf)
    refine qb hX Tryz.func110 rfl rfl ?_
    conv=>whnf
    repeat((first|refine dw ?_);conv=>whnf)
    refine qb hX Tryz.func176 rfl rfl ?_
    revert h
    refine chkk fun hs2 h=>?_
    conv=>whnf
    repeat((first|refine dw ?_|refine qg (qi _) ?_);conv=>whnf)
    refine qI (fun (v5:Int)=>pad [(0,.one (.p (.sl (x1e.ids.map srw)))),(0,.one (.p (.v (.string p1)))),(5,iv (x1e.ids.length:Int)),(0,iv v5)] 10) (fun (v5:Int)=>[]) _ x1e.ids (fun pre2 x2e xs2 v5  hl2 hi2 h ih2=>?_) (fun v5  hi2 h=>?_)  h
    ·rw [qdd] at h
     have am2:=qB hl2 hi2
     refine qa hX ?_
     conv=>whnf
     repeat((first|refine dw ?_|refine bct (qC hl2 hi2) ?_|refine bct (qc am2) ?_|refine bct (andt (qc am2) rfl) ?_|refine qe (qf am2) ?_|refine bct (andt (qc (qd am2)) rfl) ?_|refine qe (qf (qd am2)) ?_);conv=>whnf)
     revert h
     refine brk (fun c6 h=>?_) (fun c6 h=>?_)
     ·conv=>whnf
      repeat((first|refine dw ?_|refine bct c6 ?_);conv=>whnf)
      revert h
      refine brk (fun c7 h=>?_) (fun c7 h=>?_)
      ·revert h
       refine bndk fun y8 e9 h=>?_
       conv=>whnf
       repeat((first|refine dw ?_|refine bct c7 ?_);conv=>whnf)
       refine qmu hX e9 ?_
       conv=>whnf
       repeat((first|refine dw ?_|refine bct c7 ?_);conv=>whnf)
       revert h
       refine brk (fun c10 h=>?_) (fun c10 h=>?_)
       ·conv=>whnf
        repeat((first|refine dw ?_|refine bct c10 ?_);conv=>whnf)
        exact K _ h
       ·conv=>whnf
        repeat((first|refine dw ?_|refine bcf c10 ?_);conv=>whnf)
        exact ih1 _  (wrL hs1 hl1 hi1) h
      ·conv=>whnf
       repeat((first|refine dw ?_|refine bcf c7 ?_);conv=>whnf)
       exact ih1 _  (wrL hs1 hl1 hi1) h
     ·conv=>whnf
      repeat((first|refine dw ?_|refine bcf c6 ?_);conv=>whnf)
      exact ih2 _  (wrL hs2 hl2 hi2) h
    ·rw [qdd] at h
     refine qa hX ?_
     conv=>whnf
     repeat((first|refine dw ?_|refine bcf (qD hi2) ?_);conv=>whnf)
     exact ih1 _  (wrL hs1 hl1 hi1) h
   ·rw [qde] at h
    refine qa hX ?_
    conv=>whnf
    repeat((first|refine dw ?_|refine bcf (qD hi1) ?_);conv=>whnf)
    exact K _ h
theorem qcM  {p0:Know} {r:Bool} (h:qat p0=some r) (hQ:Q (.one (.p (.v (.bool r)))) []):X (.call 73 [.agg (Know.cs p0)] [] Q):=by
  have K:=fun a (e:some a=some r)=>qm (f:=fun y=>.one (.p (.v (.bool y)))) (g:=fun y=>[]) e hQ
  unfold qat at h
  refine qb hX Tryz.func73 rfl rfl ?_
  revert h
  refine bndk fun y1 e2 h=>?_
  conv=>whnf
  repeat((first|refine dw ?_);conv=>whnf)
  refine qmv hX e2 ?_
  conv=>whnf
  repeat((first|refine dw ?_);conv=>whnf)
  revert h
  refine brk (fun c3 h=>?_) (fun c3 h=>?_)
  ·conv=>whnf
   repeat((first|refine dw ?_|refine bct c3 ?_);conv=>whnf)
   exact K _ h
  ·revert h
   refine bndk fun y4 e5 h=>?_
   conv=>whnf
   repeat((first|refine dw ?_|refine bcf c3 ?_);conv=>whnf)
   refine qf4 hX e5 ?_
   revert h
   refine bndk fun y6 e7 h=>?_
   conv=>whnf
   repeat((first|refine dw ?_|refine bcf c3 ?_);conv=>whnf)
   refine qmD hX e7 ?_
   conv=>whnf
   repeat((first|refine dw ?_|refine bcf c3 ?_);conv=>whnf)
   revert h
   refine brk (fun c8 h=>?_) (fun c8 h=>?_)
   ·conv=>whnf
    repeat((first|refine dw ?_|refine bct c8 ?_);conv=>whnf)
    exact K _ h
   ·revert h
    refine chkk fun hs1 h=>?_
    conv=>whnf
    repeat((first|refine dw ?_|refine bcf c8 ?_|refine qg (qi _) ?_);conv=>whnf)
    refine qal (fun (v9:Int)=>pad [(18,.one (.p (.sl (p0.l.map Frag.row)))),(0,iv (p0.l.length:Int)),(0,iv v9)] 14) (fun (v9:Int)=>[]) _ p0.l (fun pre1 x1e xs1 v9  hl1 hi1 h ih1=>?_) (fun v9  hi1 h=>?_)  h
    ·rw [qdg] at h
     have am1:=qB hl1 hi1
     refine qa hX ?_
     revert h
     refine bndk fun y10 e11 h=>?_
     conv=>whnf
     repeat((first|refine dw ?_|refine bct (qC hl1 hi1) ?_|refine bct (qc am1) ?_|refine bct (andt (qc am1) rfl) ?_|refine qe (qf am1) ?_|refine bct (andt (qc (qd am1)) rfl) ?_|refine qe (qf (qd am1)) ?_);conv=>whnf)
     refine qmv hX e11 ?_
     conv=>whnf
     repeat((first|refine dw ?_);conv=>whnf)
     revert h
     refine brk (fun c12 h=>?_) (fun c12 h=>?_)
     ·conv=>whnf
      repeat((first|refine dw ?_|refine bct c12 ?_);conv=>whnf)
      exact K _ h
     ·conv=>whnf
      repeat((first|refine dw ?_|refine bcf c12 ?_);conv=>whnf)
      refine qb hX Tryz.func148 rfl rfl ?_
      conv=>whnf
      repeat((first|refine dw ?_);conv=>whnf)
      refine qb hX Tryz.func203 rfl rfl ?_
      revert h
      refine chkk fun hs2 h=>?_
      conv=>whnf
      repeat((first|refine dw ?_|refine qg (qi _) ?_);conv=>whnf)
      refine qI (fun (v13:Int)=>pad [(0,.one (.p (.sl (x1e.ids.map srw)))),(0,.one (.fn 146 [])),(5,iv (x1e.ids.length:Int)),(0,iv v13)] 10) (fun (v13:Int)=>[]) _ x1e.ids (fun pre2 x2e xs2 v13  hl2 hi2 h ih2=>?_) (fun v13  hi2 h=>?_)  h
      ·rw [qdf] at h
       have am2:=qB hl2 hi2
       refine qa hX ?_
       conv=>whnf
       repeat((first|refine dw ?_|refine bct (qC hl2 hi2) ?_|refine bct (qc am2) ?_|refine bct (andt (qc am2) rfl) ?_|refine qe (qf am2) ?_|refine bct (andt (qc (qd am2)) rfl) ?_|refine qe (qf (qd am2)) ?_);conv=>whnf)
       refine qb hX Tryz.func146 rfl rfl ?_
       revert h
       refine bndk fun y14 e15 h=>?_
       conv=>whnf
       repeat((first|refine dw ?_);conv=>whnf)
       refine qnS hX e15 ?_
       conv=>whnf
       repeat((first|refine dw ?_);conv=>whnf)
       revert h
       refine brk (fun c16 h=>?_) (fun c16 h=>?_)
       ·conv=>whnf
        repeat((first|refine dw ?_|refine bct c16 ?_|refine bcf c12 ?_);conv=>whnf)
        revert h
        refine brk (fun c17 h=>?_) (fun c17 h=>?_)
        ·conv=>whnf
         repeat((first|refine dw ?_|refine bct c17 ?_);conv=>whnf)
         exact K _ h
        ·conv=>whnf
         repeat((first|refine dw ?_|refine bcf c17 ?_);conv=>whnf)
         exact ih1 _  (wrL hs1 hl1 hi1) h
       ·conv=>whnf
        repeat((first|refine dw ?_|refine bcf c16 ?_);conv=>whnf)
        exact ih2 _  (wrL hs2 hl2 hi2) h
      ·rw [qdf] at h
       refine qa hX ?_
       conv=>whnf
       repeat((first|refine dw ?_|refine bcf (qD hi2) ?_|refine bcf c12 ?_);conv=>whnf)
       exact ih1 _  (wrL hs1 hl1 hi1) h
    ·rw [qdg] at h
     refine qa hX ?_
     conv=>whnf
     repeat((first|refine dw ?_|refine bcf (qD hi1) ?_);conv=>whnf)
     exact K _ h
end
end Go.Proofs.YtidkmoohgadjkaaGreat
set_option maxHeartbeats 0
namespace Go.Proofs.YtidkmoohgadjkaaGreat
open Go E
noncomputable section
open Pred
def qby (p0:State):Option (State) :=
 (bnd (qbk ql9 p0.f) fun y1 =>
  (bnd (qaF p0.k) fun y3 =>
   (bnd (qaz p0.store) fun y5 =>
    (bnd (qaz p0.out) fun y7 =>
     some (State.mk p0.r y1 y5 y7 y3 p0.count p0.clock p0.epoch)))))
variable {X:Task→Prop} (hX:qk X) {Q:A→List Blk→Prop}
include hX
theorem qfE  {p0:State} {r:State} (h:qby p0=some r) (hQ:Q (.agg (State.cs r)) []):X (.call 93 [.agg (State.cs p0)] [] Q):=by
 unfold qby at h
 refine qJ hX ?_
 conv=>whnf
 refine qb hX Tryz.func93 rfl rfl ?_
 revert h
 refine bndk fun y1 e2 h=>?_
 conv=>whnf
 repeat((first|refine dw ?_);conv=>whnf)
 refine qhO hX ql9 e2 ?_
 revert h
 refine bndk fun y3 e4 h=>?_
 conv=>whnf
 repeat((first|refine dw ?_);conv=>whnf)
 refine qeV hX e4 ?_
 revert h
 refine bndk fun y5 e6 h=>?_
 conv=>whnf
 repeat((first|refine dw ?_);conv=>whnf)
 refine qfx (f:=Item.row) (k:=8) (fun _=>rfl) (by decide) hX e6 ?_
 revert h
 refine bndk fun y7 e8 h=>?_
 conv=>whnf
 repeat((first|refine dw ?_);conv=>whnf)
 refine qfx (f:=Item.row) (k:=8) (fun _=>rfl) (by decide) hX e8 ?_
 conv=>whnf
 repeat((first|refine dw ?_);conv=>whnf)
 exact qm (f:=fun y=>.agg (State.cs y)) (g:=fun y=>[]) h hQ
end
end Go.Proofs.YtidkmoohgadjkaaGreat
set_option maxHeartbeats 0
namespace Go.Proofs.YtidkmoohgadjkaaGreat
open Go E
noncomputable section
open Pred
def qd5 (p1:Item) (y1:State) (y10:Bool):Option (State × Option Int) :=
 (bnd (qcm y1.k p1.id (Ver.mk p1.vr p1.vc)) fun y13 =>
  (bnd (qbv y1.store p1.id) fun y15 =>
   (bnd (qbv y1.out p1.id) fun y17 =>
    (br y10
     (bnd (qep y15 p1) fun y20 =>
      some ((State.mk y1.r y1.f y20 y17 y13 y1.count (maxI y1.clock p1.stamp) y1.epoch),none))
     (some ((State.mk y1.r y1.f y15 y17 y13 y1.count (maxI y1.clock p1.stamp) y1.epoch),none))))))
def qd6 (p1:Item) (y1:State) (y10:Bool) (y24:Int):Option (State × Option Int) :=
 (bnd (qcm y1.k p1.id (Ver.mk p1.vr p1.vc)) fun y26 =>
  (br (!(ltI 0 y24))
   (some ((State.mk y1.r y1.f y1.store y1.out y26 y1.count (maxI y1.clock p1.stamp) y1.epoch),none))
   (bnd (qbv y1.store p1.id) fun y29 =>
    (bnd (qbv y1.out p1.id) fun y31 =>
     (br y10
      (bnd (qep y29 p1) fun y34 =>
       some ((State.mk y1.r y1.f y34 y31 y26 y1.count (maxI y1.clock p1.stamp) y1.epoch),none))
      (some ((State.mk y1.r y1.f y29 y31 y26 y1.count (maxI y1.clock p1.stamp) y1.epoch),none)))))))
def qd7 (p1:Item) (y1:State):Option (State × Option Int) :=
 (bnd (qfh y1.k p1.id (Ver.mk p1.vr p1.vc)) fun y3 =>
  (br y3
   (some (y1,none))
   (bnd (qeC y1.store y1.out) fun y6 =>
    (bnd (qeo y6 p1.id) fun y8 =>
     (bnd (qfb y1.f p1) fun y10 =>
      (br (!y8.2)
       (br y10
        (br (leI 40 (y6.length:Int))
         (some (y1,(some 4)))
         (qd5 p1 y1 y10 ))
        (qd5 p1 y1 y10 ))
       (bnd (qbP p1 y8.1) fun y24 =>
        (br y10
         (qd6 p1 y1 y10 y24 )
         (qd6 p1 y1 y10 y24 )))))))))
def qeF (p0:State) (p1:Item):Option (State × Option Int) :=
 (bnd (qby p0) fun y1 =>
  (bnd (qfa p1) fun y37 =>
   (br (!y37)
    (some (y1,(some 1)))
    (br (eqI p1.vr y1.r)
     (br (ltI y1.count p1.vc)
      (some (y1,(some 1)))
      (qd7 p1 y1 ))
     (qd7 p1 y1 )))))
def qeG (p0:State) (p1:ByteArray) (p2:Ver) (p3:Ver):Option (State) :=
 (bnd (qby p0) fun y1 =>
  (bnd (qeo y1.store p1) fun y3 =>
   (br (!y3.2)
    (some y1)
    (br (!(andB (eqI y3.1.vr p2.r) (andB (eqI y3.1.vc p2.c) true)))
     (some y1)
     (bnd (qbv y1.store p1) fun y7 =>
      (br (leI 1 p3.r)
       (br (leI p3.r 8)
        (br (leI 1 p3.c)
         (br (leI p3.c 1000)
          (br (!eqI p3.r y1.r)
           (bnd (qcm y1.k p1 p3) fun y14 =>
            some (State.mk y1.r y1.f y7 y1.out y14 y1.count y1.clock y1.epoch))
           (br (leI p3.c y1.count)
            (bnd (qcm y1.k p1 p3) fun y17 =>
             some (State.mk y1.r y1.f y7 y1.out y17 y1.count y1.clock y1.epoch))
            (some (State.mk y1.r y1.f y7 y1.out y1.k y1.count y1.clock y1.epoch))))
          (some (State.mk y1.r y1.f y7 y1.out y1.k y1.count y1.clock y1.epoch)))
         (some (State.mk y1.r y1.f y7 y1.out y1.k y1.count y1.clock y1.epoch)))
        (some (State.mk y1.r y1.f y7 y1.out y1.k y1.count y1.clock y1.epoch)))
       (some (State.mk y1.r y1.f y7 y1.out y1.k y1.count y1.clock y1.epoch))))))))
variable {X:Task→Prop} (hX:qk X) {Q:A→List Blk→Prop}
include hX
theorem qiX  {p0:State} {p1:Item} {r:State × Option Int} (h:qeF p0 p1=some r) (hQ:Q (.tup [.agg (State.cs r.1),errA 159 r.2]) []):X (.call 33 [.agg (State.cs p0),.agg (Item.cs p1)] [] Q):=by
  have K:=fun a (e:some a=some r)=>qm (f:=fun y=>.tup [.agg (State.cs y.1),errA 159 y.2]) (g:=fun y=>[]) e hQ
  unfold qeF at h
  refine qJ hX ?_
  conv=>whnf
  refine qb hX Tryz.func33 rfl rfl ?_
  replace h:=qo h
  obtain ⟨y1,e2,h⟩:=h
  conv=>whnf
  repeat((first|refine dw ?_);conv=>whnf)
  refine qfE hX e2 ?_
  apply qmy (X:=X) (r:=r) (pad [(2,.one (.ptr 0 0)),(0,.one (.ptr 1 0)),(0,.one (.ptr 2 0))] 109) ([.box (State.cs y1),.box (Item.cs p1),.box [ic 0,ic 0,.p (.v (.string ⟨#[]⟩)),ic 0,.p (.v (.complex .f64 0 0)),.own 3,.own 4,.own 5,ic 0,ic 0,ic 0,ic 0,ic 0,ic 0,ic 0,ic 0,.own 6,ic 0,ic 0,ic 0],.rows 0 [],.rows 0 [],.rows 0 [],.rows 0 []])
  ·intro tl1
   replace h:=qo h
   obtain ⟨y37,e38,h⟩:=h
   conv=>whnf
   repeat((first|refine dw ?_);conv=>whnf)
   refine qqD hX e38 ?_
   conv=>whnf
   repeat((first|refine dw ?_);conv=>whnf)
   refine qj h (fun c39 g=>?_) (fun c39 g=>?_)
   ·replace h:=g
    clear g
    conv=>whnf
    repeat((first|refine dw ?_|refine bct c39 ?_);conv=>whnf)
    exact K _ h
   ·replace h:=g
    clear g
    conv=>whnf
    repeat((first|refine dw ?_|refine bcf c39 ?_);conv=>whnf)
    refine qj h (fun c40 g=>?_) (fun c40 g=>?_)
    ·replace h:=g
     clear g
     conv=>whnf
     repeat((first|refine dw ?_|refine bct c40 ?_|refine bcf c39 ?_);conv=>whnf)
     refine qj h (fun c41 g=>?_) (fun c41 g=>?_)
     ·replace h:=g
      clear g
      conv=>whnf
      repeat((first|refine dw ?_|refine bct c41 ?_);conv=>whnf)
      exact K _ h
     ·replace h:=g
      clear g
      conv=>whnf
      repeat((first|refine dw ?_|refine bcf c41 ?_);conv=>whnf)
      exact tl1.h  h
    ·replace h:=g
     clear g
     conv=>whnf
     repeat((first|refine dw ?_|refine bcf c40 ?_|refine bcf c39 ?_);conv=>whnf)
     exact tl1.h  h
  ·intro h
   unfold qd7 at h
   refine qt hX ?_
   replace h:=qo h
   obtain ⟨y3,e4,h⟩:=h
   conv=>whnf
   repeat((first|refine dw ?_);conv=>whnf)
   refine qqL hX e4 ?_
   conv=>whnf
   repeat((first|refine dw ?_);conv=>whnf)
   refine qj h (fun c5 g=>?_) (fun c5 g=>?_)
   ·replace h:=g
    clear g
    conv=>whnf
    repeat((first|refine dw ?_|refine bct c5 ?_);conv=>whnf)
    exact K _ h
   ·replace h:=g
    clear g
    replace h:=qo h
    obtain ⟨y6,e7,h⟩:=h
    conv=>whnf
    repeat((first|refine dw ?_|refine bcf c5 ?_);conv=>whnf)
    refine qnW hX e7 ?_
    replace h:=qo h
    obtain ⟨y8,e9,h⟩:=h
    conv=>whnf
    repeat((first|refine dw ?_);conv=>whnf)
    refine qjW hX e9 ?_
    replace h:=qo h
    obtain ⟨y10,e11,h⟩:=h
    conv=>whnf
    repeat((first|refine dw ?_);conv=>whnf)
    refine qqE hX e11 ?_
    conv=>whnf
    repeat((first|refine dw ?_);conv=>whnf)
    refine qj h (fun c12 g=>?_) (fun c12 g=>?_)
    ·replace h:=g
     clear g
     apply qmy (X:=X) (r:=r) (pad [(2,.one (.ptr 0 0)),(0,.one (.ptr 1 0)),(0,.one (.ptr 2 0)),(4,.one (.p (.v (.bool y10)))),(0,.one (.p (.v (.bool true))))] 103) ([.box (State.cs y1),.box (Item.cs p1),.box [ic 0,ic 0,.p (.v (.string ⟨#[]⟩)),ic 0,.p (.v (.complex .f64 0 0)),.own 3,.own 4,.own 5,ic 0,ic 0,ic 0,ic 0,ic 0,ic 0,ic 0,ic 0,.own 6,ic 0,ic 0,ic 0],.rows 0 [],.rows 0 [],.rows 0 [],.rows 0 []])
     ·intro tl2
      conv=>whnf
      repeat((first|refine dw ?_|refine bct c12 ?_);conv=>whnf)
      refine qj h (fun c22 g=>?_) (fun c22 g=>?_)
      ·replace h:=g
       clear g
       conv=>whnf
       repeat((first|refine dw ?_|refine bct c22 ?_|refine bct c12 ?_|refine qg (qi _) ?_);conv=>whnf)
       refine qj h (fun c23 g=>?_) (fun c23 g=>?_)
       ·replace h:=g
        clear g
        conv=>whnf
        repeat((first|refine dw ?_|refine bct c23 ?_);conv=>whnf)
        exact K _ h
       ·replace h:=g
        clear g
        conv=>whnf
        repeat((first|refine dw ?_|refine bcf c23 ?_);conv=>whnf)
        exact tl2.h  h
      ·replace h:=g
       clear g
       conv=>whnf
       repeat((first|refine dw ?_|refine bcf c22 ?_);conv=>whnf)
       exact tl2.h  h
     ·intro h
      unfold qd5 at h
      refine qt hX ?_
      replace h:=qo h
      obtain ⟨y13,e14,h⟩:=h
      conv=>whnf
      repeat((first|refine dw ?_);conv=>whnf)
      refine qfD hX e14 ?_
      replace h:=qo h
      obtain ⟨y15,e16,h⟩:=h
      conv=>whnf
      repeat((first|refine dw ?_);conv=>whnf)
      refine qeD hX e16 ?_
      replace h:=qo h
      obtain ⟨y17,e18,h⟩:=h
      conv=>whnf
      repeat((first|refine dw ?_);conv=>whnf)
      refine qeD hX e18 ?_
      conv=>whnf
      repeat((first|refine dw ?_);conv=>whnf)
      refine qj h (fun c19 g=>?_) (fun c19 g=>?_)
      ·replace h:=g
       clear g
       replace h:=qo h
       obtain ⟨y20,e21,h⟩:=h
       conv=>whnf
       repeat((first|refine dw ?_|refine bct c19 ?_);conv=>whnf)
       refine qjX hX e21 ?_
       conv=>whnf
       repeat((first|refine dw ?_);conv=>whnf)
       exact K _ h
      ·replace h:=g
       clear g
       conv=>whnf
       repeat((first|refine dw ?_|refine bcf c19 ?_);conv=>whnf)
       exact K _ h
    ·replace h:=g
     clear g
     replace h:=qo h
     obtain ⟨y24,e25,h⟩:=h
     conv=>whnf
     repeat((first|refine dw ?_|refine bcf c12 ?_);conv=>whnf)
     refine qgz hX e25 ?_
     apply qmy (X:=X) (r:=r) (pad [(2,.one (.ptr 0 0)),(0,.one (.ptr 1 0)),(0,.one (.ptr 2 0)),(4,.one (.p (.v (.bool y10)))),(0,.one (.p (.v (.bool (ltI 0 y24)))))] 103) ([.box (State.cs y1),.box (Item.cs p1),.box [ic 0,ic 0,.p (.v (.string ⟨#[]⟩)),ic 0,.p (.v (.complex .f64 0 0)),.own 3,.own 4,.own 5,ic 0,ic 0,ic 0,ic 0,ic 0,ic 0,ic 0,ic 0,.own 6,ic 0,ic 0,ic 0],.rows 0 [],.rows 0 [],.rows 0 [],.rows 0 []])
     ·intro tl3
      conv=>whnf
      repeat((first|refine dw ?_|refine bcf c12 ?_);conv=>whnf)
      refine qj h (fun c36 g=>?_) (fun c36 g=>?_)
      ·replace h:=g
       clear g
       conv=>whnf
       repeat((first|refine dw ?_|refine bct c36 ?_|refine bcf c12 ?_);conv=>whnf)
       exact tl3.h  h
      ·replace h:=g
       clear g
       conv=>whnf
       repeat((first|refine dw ?_|refine bcf c36 ?_);conv=>whnf)
       exact tl3.h  h
     ·intro h
      unfold qd6 at h
      refine qt hX ?_
      replace h:=qo h
      obtain ⟨y26,e27,h⟩:=h
      conv=>whnf
      repeat((first|refine dw ?_);conv=>whnf)
      refine qfD hX e27 ?_
      conv=>whnf
      repeat((first|refine dw ?_);conv=>whnf)
      refine qj h (fun c28 g=>?_) (fun c28 g=>?_)
      ·replace h:=g
       clear g
       conv=>whnf
       repeat((first|refine dw ?_|refine bct c28 ?_);conv=>whnf)
       exact K _ h
      ·replace h:=g
       clear g
       replace h:=qo h
       obtain ⟨y29,e30,h⟩:=h
       conv=>whnf
       repeat((first|refine dw ?_|refine bcf c28 ?_);conv=>whnf)
       refine qeD hX e30 ?_
       replace h:=qo h
       obtain ⟨y31,e32,h⟩:=h
       conv=>whnf
       repeat((first|refine dw ?_);conv=>whnf)
       refine qeD hX e32 ?_
       conv=>whnf
       repeat((first|refine dw ?_);conv=>whnf)
       refine qj h (fun c33 g=>?_) (fun c33 g=>?_)
       ·replace h:=g
        clear g
        replace h:=qo h
        obtain ⟨y34,e35,h⟩:=h
        conv=>whnf
        repeat((first|refine dw ?_|refine bct c33 ?_);conv=>whnf)
        refine qjX hX e35 ?_
        conv=>whnf
        repeat((first|refine dw ?_);conv=>whnf)
        exact K _ h
       ·replace h:=g
        clear g
        conv=>whnf
        repeat((first|refine dw ?_|refine bcf c33 ?_);conv=>whnf)
        exact K _ h
theorem qnY  {p0:State} {p1:ByteArray} {p2:Ver} {p3:Ver} {r:State} (h:qeG p0 p1 p2 p3=some r) (hQ:Q (.agg (State.cs r)) []):X (.call 37 [.agg (State.cs p0),.one (.p (.v (.string p1))),.agg (Ver.cs p2),.agg (Ver.cs p3)] [] Q):=by
  have K:=fun a (e:some a=some r)=>qm (f:=fun y=>.agg (State.cs y)) (g:=fun y=>[]) e hQ
  unfold qeG at h
  refine qJ hX ?_
  conv=>whnf
  refine qb hX Tryz.func37 rfl rfl ?_
  revert h
  refine bndk fun y1 e2 h=>?_
  conv=>whnf
  repeat((first|refine dw ?_);conv=>whnf)
  refine qfE hX e2 ?_
  revert h
  refine bndk fun y3 e4 h=>?_
  conv=>whnf
  repeat((first|refine dw ?_);conv=>whnf)
  refine qjW hX e4 ?_
  conv=>whnf
  repeat((first|refine dw ?_);conv=>whnf)
  revert h
  refine brk (fun c5 h=>?_) (fun c5 h=>?_)
  ·conv=>whnf
   repeat((first|refine dw ?_|refine bct c5 ?_);conv=>whnf)
   exact K _ h
  ·conv=>whnf
   repeat((first|refine dw ?_|refine bcf c5 ?_);conv=>whnf)
   revert h
   refine brk (fun c6 h=>?_) (fun c6 h=>?_)
   ·conv=>whnf
    repeat((first|refine dw ?_|refine bct c6 ?_);conv=>whnf)
    exact K _ h
   ·revert h
    refine bndk fun y7 e8 h=>?_
    conv=>whnf
    repeat((first|refine dw ?_|refine bcf c6 ?_);conv=>whnf)
    refine qeD hX e8 ?_
    conv=>whnf
    repeat((first|refine dw ?_);conv=>whnf)
    revert h
    refine brk (fun c9 h=>?_) (fun c9 h=>?_)
    ·conv=>whnf
     repeat((first|refine dw ?_|refine bct c9 ?_);conv=>whnf)
     revert h
     refine brk (fun c10 h=>?_) (fun c10 h=>?_)
     ·conv=>whnf
      repeat((first|refine dw ?_|refine bct c10 ?_);conv=>whnf)
      revert h
      refine brk (fun c11 h=>?_) (fun c11 h=>?_)
      ·conv=>whnf
       repeat((first|refine dw ?_|refine bct c11 ?_);conv=>whnf)
       revert h
       refine brk (fun c12 h=>?_) (fun c12 h=>?_)
       ·conv=>whnf
        repeat((first|refine dw ?_|refine bct c12 ?_);conv=>whnf)
        revert h
        refine brk (fun c13 h=>?_) (fun c13 h=>?_)
        ·revert h
         refine bndk fun y14 e15 h=>?_
         conv=>whnf
         repeat((first|refine dw ?_|refine bct c13 ?_|refine bct c12 ?_);conv=>whnf)
         refine qfD hX e15 ?_
         conv=>whnf
         repeat((first|refine dw ?_);conv=>whnf)
         exact K _ h
        ·conv=>whnf
         repeat((first|refine dw ?_|refine bcf c13 ?_|refine bct c12 ?_);conv=>whnf)
         revert h
         refine brk (fun c16 h=>?_) (fun c16 h=>?_)
         ·revert h
          refine bndk fun y17 e18 h=>?_
          conv=>whnf
          repeat((first|refine dw ?_|refine bct c16 ?_);conv=>whnf)
          refine qfD hX e18 ?_
          conv=>whnf
          repeat((first|refine dw ?_);conv=>whnf)
          exact K _ h
         ·conv=>whnf
          repeat((first|refine dw ?_|refine bcf c16 ?_);conv=>whnf)
          exact K _ h
       ·conv=>whnf
        repeat((first|refine dw ?_|refine bcf c12 ?_);conv=>whnf)
        exact K _ h
      ·conv=>whnf
       repeat((first|refine dw ?_|refine bcf c11 ?_);conv=>whnf)
       exact K _ h
     ·conv=>whnf
      repeat((first|refine dw ?_|refine bcf c10 ?_);conv=>whnf)
      exact K _ h
    ·conv=>whnf
     repeat((first|refine dw ?_|refine bcf c9 ?_);conv=>whnf)
     exact K _ h
end
end Go.Proofs.YtidkmoohgadjkaaGreat
namespace Go.Proofs.YtidkmoohgadjkaaGreat.I1
open Go.Proofs.YtidkmoohgadjkaaGreat
open Go E Go.Lib Go.RowKit
theorem qdU {P:Program} (w:World) (dT sT ty elem:TypeId) {k:Nat} (g o dLen dCap:Nat) (a:Addr) (sLen sCap n:Nat) (cs:List Value) (cur:Array Value) (e:TypeId)
  (hu:P.underlying dT=some (.slice elem)) (hs:∀ w,(Go.sizeOf elem).run P w=.ok k w) (hmin:Nat.min sLen dLen=n) (hn:cs.length=n * k)
  (hsrc:∀ j v,cs[j]?=some v→w.cell? (a.add j)=some v) (hh:w.heap[g]?=some (.cells cur e (0,0))) (hle:o + cs.length≤cur.size) (h1:∀ v∈cs,v.oneCell'=true) :
  (Builtin.copy_ #[dT,sT] ty #[.slice (some ⟨g,o,none⟩) dLen dCap,.slice (some a) sLen sCap]).run P w=.ok (goInt n) (w.setRow g (cur.toList.take o++cs++cur.toList.drop (o + cs.length)).toArray):=by
 have hl:=run_loadCells_list (P:=P) w a cs hsrc
 have hst:=run_storeCells_at P g o e cs 0 cur w hh (by simpa using hle) h1
 simp only [Nat.add_zero] at hst
 simp [Builtin.copy_,run_underlying hu,Builtin.lenOf,Builtin.firstCells,hs,hmin,←hn,hl,hst]
theorem wpList_copy_runI'_i (w:World) {P:Program} {ops:Array Oper} {rest:List Oper} {o:Oper} {a:Act} {Q:Exit→Act→World→Prop} (hgd:o.guard=none) (d s:Operand) (t t':TypeId)
  (ho:o.op=.call { callee:=.builtin .copy,args := #[d,s],argTypes := #[t,t'] }) (v u:Value) (hd:a.eval d=v) (hs:a.eval s=u) {v':Value} {w':World}
  (hr:(Builtin.copy_ #[t,t'] o.type #[v,u]).run P w=.ok v' w') (h:wpList P ops Q rest (a.put o.dst v') w'):wpList P ops Q (o::rest) a w:=by
 refine wpList_plain hgd fun _ hK=>?_
 have hK:=hK _ _ h
 unfold Oper.wp execOp
 simp only [ho,resolve,invoke,builtin,Sem.run_bind,Sem.run_pure,Result.andThen_ok,List.map_toArray,List.map_cons,List.map_nil,hd,hs,hr]
 exact hK
theorem qeH:∀ w,(Go.sizeOf 3).run Tryz.prog w=.ok 1 w:=((T_ok 3).known (of_decide_eq_true (by kernel_rfl))).size
set_option maxHeartbeats 4000000 in
set_option maxRecDepth 100000 in
theorem qnZ (g n c i vb vc:Nat) (cur new:Array Value) (e e2:TypeId) (w:World) (hi:i < n) (hroom:n + 1≤c) (hc63:c≤9223372036854775807) (hvb:vb≠g)
  (hg:w.heap[g]?=some (.cells cur e (0,0))) (hv:w.heap[vb]?=some (.cells new e2 (0,0))) (hcs:cur.size=c * 1) (hnew:1≤new.size)
  (h1:∀ v∈cur.toList.take (n * 1),v.oneCell'=true) (h2:∀ v∈new.toList.take 1,v.oneCell'=true) :
  Calls Tryz.prog 187 #[.slice (some ⟨g,0,none⟩) n c,.int .i64 i,.slice (some ⟨vb,0,none⟩) 1 vc] w fun x w'=>x=.returned (.slice (some ⟨g,0,none⟩) (n + 1) c) ∧
   ∃ w1:World,w1.heap=w.heap∧w1.os=w.os∧w1.tape=w.tape∧w1.output=w.output∧w'=(w1.setRow g (cur.toList.take ((i + 1) * 1)++(cur.toList.take (n * 1)).drop (i * 1)++cur.toList.drop ((n + 1) * 1)).toArray).setRow g
    (cur.toList.take (i * 1)++new.toList.take 1++((cur.toList.take (n * 1)).drop (i * 1)++cur.toList.drop ((n + 1) * 1))).toArray:=by
 have hw1:IntKind.i64.wrap ((i:Int) + (1:Int))=(i:Int) + (1:Int):=by rw [IntKind.wrap_i64]; omega
 have hz2:¬ ((i:Int)=(n:Int)):=by omega
 have hb1:(0:Int)≤(i:Int) + (1:Int):=by omega
 have hin:i≤n:=by omega
 have htn:((i:Int) + (1:Int)).toNat=i + 1:=by omega
 have hb2:¬ (c=i + 1):=by omega
 have hb3:(i:Int)≤(n:Int) + (1:Int):=by omega
 have hb4:¬ (c=i):=by omega
 go_enter Tryz.func187,Tryz.ntmps187
 have hov:∀ (ad:Addr) lb cb,ad.block=g→(callFunc 224 #[.slice (some ⟨vb,0,none⟩) 1 vc,.slice (some ad) lb cb]).run Tryz.prog w=.ok (.value (.bool false)) w:=fun ad lb cb had=>by
  rw [run_callFunc_extern Tryz.func224 (by kernel_rfl) (by kernel_rfl) (by kernel_rfl) (e:=Extern.SlicesOverlaps.overlaps #[59,59] #[4]) (by kernel_rfl),
   Lib.run_overlaps_apart w 59 4 3 Tryz.underlying59 1 qeH ⟨vb,0,none⟩ ad 1 vc lb cb (by rw [had]; exact hvb) e2 e new.size cur.size (by simp [World.shape?,hv]) (by simp [World.shape?,had,hg]) (by rw [hcs]; omega) (by simp [World.frozen?,hv]) (by simp [World.frozen?,hv])]
  rfl
 have hd2:(((cur.toList.take (n * 1)).drop (i * 1)).length)=(n - i) * 1:=by rw [List.length_drop,List.length_take,Array.length_toList,Nat.sub_mul]; omega
 have hcp1:∀ (W:World) ty dc sc,W.heap=w.heap→(Builtin.copy_ #[59,59] ty #[.slice (some ⟨g,(i + 1) * 1,none⟩) (n - i) dc,.slice (some ⟨g,i * 1,none⟩) (n + 1 - i) sc]).run Tryz.prog W=.ok (goInt (n - i:Nat)) (W.setRow g (cur.toList.take ((i + 1) * 1)++(cur.toList.take (n * 1)).drop (i * 1)++cur.toList.drop ((n + 1) * 1)).toArray):=fun W ty dc sc hW=>by
  have:=qdU (P:=Tryz.prog) (ty:=ty) W 59 59 3 g ((i + 1) * 1) (n - i) dc ⟨g,i * 1,none⟩ (n + 1 - i) sc (n - i) ((cur.toList.take (n * 1)).drop (i * 1)) cur e Tryz.underlying59 qeH (by simp only [Nat.min_def]; split<;>omega) hd2 (fun j v hj=>by
    rw [qN,World.cell?,hW,hg]
    rw [List.getElem?_drop,List.getElem?_take] at hj
    split at hj
    ·simpa using hj
    ·cases hj) (by rw [hW]; exact hg) (by rw [hd2,hcs,←Nat.add_mul]; exact Nat.mul_le_mul_right _ (by omega)) (fun v hv=>h1 v (List.mem_of_mem_drop hv))
  rw [this]
  congr 4
  rw [hd2,←Nat.add_mul]
  congr 2
  omega
 obtain ⟨R1,hR1⟩:∃ R1,R1=(cur.toList.take ((i + 1) * 1)++(cur.toList.take (n * 1)).drop (i * 1)++cur.toList.drop ((n + 1) * 1)).toArray:=⟨_,rfl⟩
 obtain ⟨R2,hR2⟩:∃ R2,R2=(cur.toList.take (i * 1)++new.toList.take 1++((cur.toList.take (n * 1)).drop (i * 1)++cur.toList.drop ((n + 1) * 1))).toArray:=⟨_,rfl⟩
 have hcp2:∀ (W:World) ty dc sc,W.heap=(w.setRow g R1).heap→(Builtin.copy_ #[59,59] ty #[.slice (some ⟨g,i * 1,none⟩) (n + 1 - i) dc,.slice (some ⟨vb,0,none⟩) 1 sc]).run Tryz.prog W=.ok (goInt (1:Nat)) (W.setRow g R2):=fun W ty dc sc hW=>by
  have hsz:R1.size=cur.size:=by
   rw [hR1,List.size_toArray,List.length_append,List.length_append,hd2,List.length_take,List.length_drop,Array.length_toList,hcs,Nat.sub_mul,Nat.add_mul,Nat.add_mul]
   have:=Nat.mul_le_mul_right 1 hroom
   have:=Nat.mul_le_mul_right 1 hin
   omega
  have:=qdU (P:=Tryz.prog) (ty:=ty) W 59 59 3 g (i * 1) (n + 1 - i) dc ⟨vb,0,none⟩ 1 sc 1 (new.toList.take 1) R1 e Tryz.underlying59 qeH (by simp only [Nat.min_def]; split<;>omega) (by rw [List.length_take,Array.length_toList]; omega) (fun j v hj=>by
    rw [qN,World.cell?,hW,setRow_other w g vb _ hvb,hv]
    rw [List.getElem?_take] at hj
    split at hj
    ·simpa using hj
    ·cases hj) (by rw [hW]; exact setRow_heap w g _ _ _ _ hg) (by rw [List.length_take,Array.length_toList,hsz,hcs]; have:=Nat.mul_le_mul_right 1 hroom; omega) h2
  rw [this]
  congr 2
  rw [hR2,hR1]
  congr 1
  have hl8:(List.take 1 new.toList).length=1:=by rw [List.length_take,Array.length_toList]; omega
  have hlt:(List.take ((i + 1) * 1) cur.toList).length=(i + 1) * 1:=by rw [List.length_take,Array.length_toList]; omega
  rw [hl8,List.append_assoc,List.append_assoc,List.take_append_of_le_length (by rw [hlt]; omega),List.take_take,Nat.min_eq_left (by omega),show i * 1 + 1=(i + 1) * 1 by omega,List.drop_append_of_le_length (by rw [hlt]; omega),List.drop_of_length_le (by rw [hlt]; omega),List.nil_append,List.append_assoc]
 rw [←hR1] at hcp1
 rw [←hR1,←hR2]
 have hcpD:=fun ty dc sc=>hcp1 w.drew ty dc sc rfl
 have hcpE:=fun ty dc sc=>hcp2 (w.drew.setRow g R1) ty dc sc rfl
 have hcpF:=fun ty dc sc=>hcp2 (w.drew.setRow g R1).drew ty dc sc rfl
 clear hd2 hR1 hR2 hcp1 hcp2
 simp only [Nat.mul_one] at hcpD hcpE hcpF
 go_wp2
 go_region
 go_wp2
 go_ret
 exact ⟨rfl,w.drew,rfl,rfl,rfl,rfl,rfl⟩
theorem qqM {α:Type} {A V Z D Y:List α} {a v d:Nat} (ha:A.length=a) (hv:V.length=v) (hZ:v + d=Z.length) (hd:D.length=d) :
  (A++Z++Y).take a++V++(A++Z++Y).drop (a + v)=A++V++Z.drop v++Y∧(A++V++Z.drop v++Y).take (a + v)++D++(A++V++Z.drop v++Y).drop (a + v + d)=A++V++D++Y:=by
 subst ha; subst hv; subst hd
 constructor
 ·have h:A++Z++Y=A++(Z++Y):=by simp
  rw [h,List.take_left,←List.drop_drop,List.drop_left,List.drop_append_of_le_length (by omega)]
  simp
 ·have h:A++V++Z.drop V.length++Y=(A++V)++(Z.drop V.length++Y):=by simp
  have hl:A.length + V.length=(A++V).length:=by simp
  have hz:(Z.drop V.length).length=D.length:=by rw [List.length_drop]; omega
  rw [h,hl,List.take_left,←List.drop_drop,List.drop_left,←hz,List.drop_left]
theorem qfI (w:World) (o:Obj):(w.alloc o).heap[w.heap.size]?=some o:=han w o
theorem qfJ (w:World) (o:Obj) {k:Nat} (hk:k < w.heap.size):(w.alloc o).heap[k]?=w.heap[k]?:=hao w o k hk
set_option maxHeartbeats 4000000 in
set_option maxRecDepth 100000 in
theorem qqN (g n c i vb vc:Nat) (cur new:Array Value) (e e2:TypeId) (w:World) (hi:i < n) (hnc:n≤c) (hroom:c < n + 1) (hbig:n≤1000000)
  (hg:w.heap[g]?=some (.cells cur e (0,0))) (hv:w.heap[vb]?=some (.cells new e2 (0,0))) (hcs:cur.size=c * 1) (hnew:1≤new.size)
  (h1:∀ v∈cur.toList.take (n * 1),v.oneCell'=true) (h2:∀ v∈new.toList.take 1,v.oneCell'=true) :
  Calls Tryz.prog 187 #[.slice (some ⟨g,0,none⟩) n c,.int .i64 i,.slice (some ⟨vb,0,none⟩) 1 vc] w fun x w'=>∃ (G:Nat) (R0 R1:Array Value) (rest:List Value),n + 1≤G∧G≤maxLen∧rest.length=(G - (n + 1)) * 1∧x=.returned (.slice (some ⟨w.heap.size,0,none⟩) (n + 1) G) ∧
   ∃ w1:World,w1.heap=w.heap∧w1.os=w.os∧w1.tape=w.tape∧w1.output=w.output∧w'=((w1.alloc (.cells R0 3)).setRow w.heap.size R1).setRow w.heap.size
    (cur.toList.take (i * 1)++new.toList.take 1++(cur.toList.take (n * 1)).drop (i * 1)++rest).toArray:=by
 have hI:=(T_ok 3).known (of_decide_eq_true (by kernel_rfl))
 obtain ⟨i0,z,hi0,hzs,hzb,hz0,hzc,_⟩:=hI.info
 have hzs:i0.size=1:=hzs
 have hzl:z.cells.size=1:=by
  have:=hI.z
  rw [←Array.length_toList,hzc]; rfl
 have hzb:i0.bytes≤1000:=by rw [hzb]; exact of_decide_eq_true (by kernel_rfl)
 have hbb:(n + 1) * i0.bytes≤140737488355328:=by
  have:=Nat.mul_le_mul (show n + 1≤1000001 by omega) hzb
  omega
 have hkk:(n:Int) + (1:Int) - (i:Int)=((n + 1 - i:Nat):Int):=by omega
 have hik:i + (n + 1 - i)=n + 1:=by omega
 have hold:(Builtin.firstCells i0.size i (.slice (some ⟨g,0,none⟩) i c)).run Tryz.prog w.drew=.ok (cur.toList.take (i * 1)).toArray w.drew:=by
  rw [hzs]
  exact run_firstCells_some w.drew 1 i ⟨g,0,none⟩ i c (cur.toList.take (i * 1)) (by rw [List.length_take,Array.length_toList]; omega) (fun j v hj=>by
   rw [qN,Nat.zero_add,World.cell?_drew,World.cell?,hg]
   rw [List.getElem?_take] at hj
   split at hj
   ·simpa using hj
   ·cases hj)
 obtain ⟨G,hG⟩:∃ G,G=grownCap w (n + 1) c 3:=⟨_,rfl⟩
 have hGn:n + 1≤G:=by rw [hG]; exact grownCap_ge w _ _ _
 have hG63:G≤maxLen:=by rw [hG]; exact grownCap_le_maxLen w (n + 1) c _ (by unfold maxLen; omega)
 obtain ⟨R0,hR0⟩:∃ R0:Array Value,R0=(cur.toList.take (i * 1)).toArray++Builtin.zeroCells z.cells (n + 1 - i)++Builtin.zeroCells z.cells (G - (n + 1)):=⟨_,rfl⟩
 have hrz:∀ ty,(Builtin.append_ #[59,3] ty #[.slice (some ⟨g,0,none⟩) i c,.int .i64 ((n:Int) + (1:Int) - (i:Int))]).run Tryz.prog w=.ok (.slice (some ⟨w.heap.size,0,none⟩) (n + 1) G) (w.drew.alloc (.cells R0 3)):=fun ty=>by
  have h:=Lib.run_append_grow_zeros w 59 3 ty 3 i0 z .i64 .i64 Tryz.underlying59 Tryz.underlying3 hi0 hz0 (some ⟨g,0,none⟩) i c (cur.toList.take (i * 1)) hold (n + 1 - i) (by omega) (by omega) (by omega) (by omega)
   (by have:=Nat.mul_le_mul_right i0.bytes (show n + 1 - i≤n + 1 by omega); omega) (by rw [hik]; exact growslice_fits hroom hbb)
  rw [hik,←hG] at h
  rw [hkk,hR0]
  exact h
 obtain ⟨A,hA⟩:∃ A,A=cur.toList.take (i * 1):=⟨_,rfl⟩
 obtain ⟨V,hV⟩:∃ V,V=new.toList.take 1:=⟨_,rfl⟩
 obtain ⟨D,hD⟩:∃ D,D=(cur.toList.take (n * 1)).drop (i * 1):=⟨_,rfl⟩
 obtain ⟨Z,hZ⟩:∃ Z,Z=(Builtin.zeroCells z.cells (n + 1 - i)).toList:=⟨_,rfl⟩
 obtain ⟨Y,hY⟩:∃ Y,Y=(Builtin.zeroCells z.cells (G - (n + 1))).toList:=⟨_,rfl⟩
 have lA:A.length=i * 1:=by rw [hA,List.length_take,Array.length_toList]; omega
 have lV:V.length=1:=by rw [hV,List.length_take,Array.length_toList]; omega
 have lD:D.length=(n - i) * 1:=by rw [hD,List.length_drop,List.length_take,Array.length_toList,Nat.sub_mul]; omega
 have lZ:1 + (n - i) * 1=Z.length:=by rw [hZ,Array.length_toList,size_zeroCells,hzl]; omega
 have lY:Y.length=(G - (n + 1)) * 1:=by rw [hY,Array.length_toList,size_zeroCells,hzl]
 have eR0:R0.toList=A++Z++Y:=by rw [hR0,hA,hZ,hY]; simp
 obtain ⟨m1,m2⟩:=qqM (A:=A) (V:=V) (Z:=Z) (D:=D) (Y:=Y) lA lV lZ lD
 have sR0:R0.size=G * 1:=by
  rw [←Array.length_toList,eR0,List.length_append,List.length_append,lA,←lZ,lY,Nat.sub_mul,Nat.sub_mul]
  have:=Nat.mul_le_mul_right 1 hGn
  omega
 obtain ⟨R1,hR1⟩:∃ R1:Array Value,R1=(A++V++Z.drop 1++Y).toArray:=⟨_,rfl⟩
 have sR1:R1.size=G * 1:=by
  rw [hR1,List.size_toArray,List.length_append,List.length_append,List.length_append,lA,lV,List.length_drop,←lZ,lY,Nat.sub_mul,Nat.sub_mul]
  have:=Nat.mul_le_mul_right 1 hGn
  omega
 obtain ⟨R2,hR2⟩:∃ R2:Array Value,R2=(A++V++D++Y).toArray:=⟨_,rfl⟩
 have hgw:g < w.heap.size:=(Array.getElem?_eq_some_iff.1 hg).1
 have hvw:vb < w.heap.size:=(Array.getElem?_eq_some_iff.1 hv).1
 have hcpA:∀ (W:World) ty dc sc,W.heap=(w.alloc (.cells R0 3)).heap→(Builtin.copy_ #[59,59] ty #[.slice (some ⟨w.heap.size,i * 1,none⟩) (n + 1 - i) dc,.slice (some ⟨vb,0,none⟩) 1 sc]).run Tryz.prog W=.ok (goInt (1:Nat)) (W.setRow w.heap.size R1):=fun W ty dc sc hW=>by
  have:=qdU (P:=Tryz.prog) (ty:=ty) W 59 59 3 w.heap.size (i * 1) (n + 1 - i) dc ⟨vb,0,none⟩ 1 sc 1 V R0 3 Tryz.underlying59 qeH (by simp only [Nat.min_def]; split<;>omega) (by rw [lV]) (fun j v hj=>by
    rw [qN,World.cell?,hW,qfJ _ _ hvw,hv]
    rw [hV,List.getElem?_take] at hj
    split at hj
    ·simpa using hj
    ·cases hj) (by rw [hW]; exact qfI _ _) (by rw [lV,sR0]; have:=Nat.mul_le_mul_right 1 hGn; omega) (by rw [hV]; exact h2)
  rw [this,eR0,lV,m1,hR1]
 have hcpB:∀ (W:World) ty dc sc,W.heap=((w.alloc (.cells R0 3)).setRow w.heap.size R1).heap→(Builtin.copy_ #[59,59] ty #[.slice (some ⟨w.heap.size,(i + 1) * 1,none⟩) (n - i) dc,.slice (some ⟨g,i * 1,none⟩) (n - i) sc]).run Tryz.prog W=.ok (goInt (n - i:Nat)) (W.setRow w.heap.size R2):=fun W ty dc sc hW=>by
  have:=qdU (P:=Tryz.prog) (ty:=ty) W 59 59 3 w.heap.size ((i + 1) * 1) (n - i) dc ⟨g,i * 1,none⟩ (n - i) sc (n - i) D R1 3 Tryz.underlying59 qeH (by simp) lD (fun j v hj=>by
    rw [qN,World.cell?,hW,setRow_other _ _ _ _ (Nat.ne_of_lt hgw),qfJ _ _ hgw,hg]
    rw [hD,List.getElem?_drop,List.getElem?_take] at hj
    split at hj
    ·simpa using hj
    ·cases hj) (by rw [hW]; exact setRow_heap _ _ _ _ _ _ (qfI _ _)) (by rw [lD,sR1,←Nat.add_mul]; exact Nat.mul_le_mul_right 1 (by omega)) (by rw [hD]; exact fun v hv=>h1 v (List.mem_of_mem_drop hv))
  rw [this,lD,show (i + 1) * 1=i * 1 + 1 by omega,hR1,List.toList_toArray,m2,hR2]
 have hres:Hold (R2=(A++V++D++Y).toArray):=⟨hR2⟩
 have hcA1:=fun ty dc sc=>hcpA (w.drew.alloc (.cells R0 3)) ty dc sc rfl
 have hcA2:=fun ty dc sc=>hcpA (w.alloc (.cells R0 3)).drew ty dc sc rfl
 have hcB1:=fun ty dc sc=>hcpB (((w.alloc (.cells R0 3)).drew.setRow w.heap.size R1).drew) ty dc sc rfl
 have hcB2:=fun ty dc sc=>hcpB (((w.drew.alloc (.cells R0 3)).setRow w.heap.size R1).drew) ty dc sc rfl
 have hz2:¬ ((i:Int)=(n:Int)):=by omega
 have hz3:(c:Int) < (n:Int) + (1:Int):=by omega
 have hw1:IntKind.i64.wrap ((i:Int) + (1:Int))=(i:Int) + (1:Int):=by rw [IntKind.wrap_i64]; omega
 have hb1:(0:Int)≤(i:Int) + (1:Int):=by omega
 have hin:i≤n:=by omega
 have htn:((i:Int) + (1:Int)).toNat=i + 1:=by omega
 have hb3:(i:Int)≤(n:Int):=by omega
 have hGi:¬ (G=i):=by omega
 have hGim:¬ (G=i + 1):=by omega
 have hci:¬ (c=i):=by omega
 have hG6:G≤9223372036854775807:=hG63
 rw [←hA,←hV,←hD]
 simp only [Nat.mul_one] at hcA1 hcA2 hcB1 hcB2 hrz
 clear hR0 hR1 hR2 hA hV hD hZ hY hcpA hcpB hkk hik hold hG sR0 sR1 m1 m2 eR0 hI hi0 hzs hzl hzb hz0 hzc hbb hG63
 go_enter Tryz.func187,Tryz.ntmps187
 go_wp2_with (first
  | (at_builtin; refine Lib.wpList_append_run _ rfl _ _ _ _ rfl _ _ rfl rfl _ _ (hrz _) ?_)
  | (at_builtin; refine wpList_copy_runI'_i _ rfl _ _ 59 59 rfl _ _ rfl rfl (hcA1 _ _ _) ?_)
  | (at_builtin; refine wpList_copy_runI'_i _ rfl _ _ 59 59 rfl _ _ rfl rfl (hcA2 _ _ _) ?_))
 go_region
 go_wp2
 go_ret
 exact ⟨G,R0,R1,Y,hGn,hG6,lY,rfl,w.drew.drew,rfl,rfl,rfl,rfl,by rw [←hres.h]; rfl⟩
set_option maxHeartbeats 4000000 in
set_option maxRecDepth 100000 in
theorem qiY (n c vc:Nat) (base:Option Addr) (vb:Nat) (w w2:World) (v2:Value)
  (hr:(Builtin.append_ #[59,59] 59 #[.slice base n c,.slice (some ⟨vb,0,none⟩) 1 vc]).run Tryz.prog w=.ok v2 w2) :
  Calls Tryz.prog 187 #[.slice base n c,.int .i64 n,.slice (some ⟨vb,0,none⟩) 1 vc] w fun x w'=>x=.returned v2∧w'=w2:=by
 go_enter Tryz.func187,Tryz.ntmps187
 cases base with
 | none =>
  go_wp2_with (at_builtin; refine Lib.wpList_append_run _ rfl _ _ _ _ rfl _ _ rfl rfl _ _ hr ?_)
  all_goals (go_ret; exact ⟨rfl,rfl⟩)
 | some a =>
  obtain ⟨ab,ao,asp⟩:=a
  go_wp2_with (at_builtin; refine Lib.wpList_append_run _ rfl _ _ _ _ rfl _ _ rfl rfl _ _ hr ?_)
  all_goals (go_ret; exact ⟨rfl,rfl⟩)
end Go.Proofs.YtidkmoohgadjkaaGreat.I1
set_option maxHeartbeats 4000000
namespace Go.Proofs.YtidkmoohgadjkaaGreat.E.I1
open Go.Proofs.YtidkmoohgadjkaaGreat Go.Proofs.YtidkmoohgadjkaaGreat.I1 Go.Proofs.YtidkmoohgadjkaaGreat.E
open Go Go.Lib Go.RowKit
noncomputable section
open Classical
theorem qsV {w w' : World} {S : Zone} {inj : Nat → Loc} {σ : List Blk} {n k : Nat} {l : List (List PC)} {ad : Option Addr} {m c : Nat} {g : Option Nat} (hI : Inv w S inj (look σ)) (hn : σ.length = n) (hfree : ∀ b, n ≤ b → inj b = .free)
    (hG : Grow w S w' S) (hR : RowOk w' S k l (.slice ad m c) g) : ∃ inj', Done w S inj n (.one (.own n)) (List.replicate n .dead ++ [.rows k l]) (.slice ad m c) w' S inj' := by
  refine ⟨fun b => if b = n then .row (.slice ad m c) g else if inj b = .free then .free else .dead, hG, fun b => ?_, fun b hb hc => ?_, .ofc (.own (.inr ⟨g, ?_⟩)), fun b => ?_, fun b b' g' hb hb' h1 h2 => ?_, fun g' hg' => Nat.lt_of_lt_of_le (hI.lt g' hg') hG.size, hI.dj⟩
  · by_cases hf : inj b = .free
    · exact .inl hf
    · refine .inr (.inr ?_)
      have : b ≠ n := by rintro rfl; exact hf (hfree b (Nat.le_refl _))
      simp [this, hf]
  · have : b ≠ n := by rintro rfl; simp only [List.length_append, List.length_replicate, List.length_singleton] at hc; omega
    simp [this, hb]
  · simp [Loc.val]
  · by_cases hb : b = n
    · subst hb
      have : look (List.replicate b .dead ++ [.rows k l]) b = .rows k l := by rw [qai]; simp [List.getD_eq_getElem?_getD]
      rw [this]
      exact ⟨_, _, by simp, hR⟩
    · have : look (List.replicate n .dead ++ [.rows k l]) b = .dead := by
        rw [qai, List.getD_eq_getElem?_getD]
        by_cases h : b < n
        · rw [List.getElem?_append_left (by simpa using h)]; simp [h]
        · rw [List.getElem?_append_right (by simp; omega)]
          rw [List.getElem?_eq_none (by simp; omega)]; rfl
      rw [this]; trivial
  · have key : ∀ b, look (List.replicate n .dead ++ [.rows k l]) b ≠ .dead → b = n := fun b hb => Classical.byContradiction fun h => hb (by
        rw [qai, List.getD_eq_getElem?_getD]
        by_cases h' : b < n
        · rw [List.getElem?_append_left (by simpa using h')]; simp [h']
        · rw [List.getElem?_append_right (by simp; omega)]
          rw [List.getElem?_eq_none (by simp; omega)]; rfl)
    rw [key b hb, key b' hb']
theorem qn0 {l:List (List PC)} {k:Nat} (hl:∀ r∈l,r.length=k) (i:Nat):(l.take i).flatten=l.flatten.take (i * k)∧(l.drop i).flatten=l.flatten.drop (i * k):=by
 induction l generalizing i with
 | nil=>simp
 | cons r l ih =>
  have hr:=hl r (by simp)
  cases i with
  | zero=>simp
  | succ i =>
   obtain ⟨h1,h2⟩:=ih (fun r hr=>hl r (by simp [hr])) i
   have e:(i + 1) * k=r.length + i * k:=by rw [hr,Nat.succ_mul]; omega
   rw [List.take_succ_cons,List.drop_succ_cons,List.flatten_cons,List.flatten_cons,h1,h2,e]
   constructor
   ·rw [List.take_append,List.take_of_length_le (show r.length≤r.length + i * k by omega),Nat.add_sub_cancel_left]
   ·rw [List.drop_append,List.drop_of_length_le (show r.length≤r.length + i * k by omega),Nat.add_sub_cancel_left]; rfl
theorem qqO {l:List (List PC)} {x:List PC} {i:Nat} (hl:∀ r∈l,r.length=1) (hi:i≤l.length):(l.take i++x::l.drop i).flatten=l.flatten.take (i * 1)++x++l.flatten.drop (i * 1):=by
 obtain ⟨h1,h2⟩:=qn0 hl i
 rw [List.flatten_append,List.flatten_cons,h1,h2]; simp
theorem qiZ {l:List (List PC)} {x:List PC} {i:Nat} (hi:i≤l.length):(l.take i++x::l.drop i).length=l.length + 1:=by simp; omega
theorem qyc {l:List (List PC)} {x:List PC} {i:Nat} (hl:∀ r∈l,r.length=1) (hx:x.length=1):∀ r∈l.take i++x::l.drop i,r.length=1:=by
 intro r hr
 rcases List.mem_append.1 hr with hr | hr
 ·exact hl r (List.mem_of_mem_take hr)
 ·rcases List.mem_cons.1 hr with rfl | hr
  ·exact hx
  ·exact hl r (List.mem_of_mem_drop hr)
theorem qeI {w':World} {S:Zone} {l:List (List PC)} {x:List PC} {i g cap:Nat} {e:TypeId} {A V D Y:List Value} (hl:∀ r∈l,r.length=1) (hx:x.length=1) (hi:i≤l.length) (hS:¬ S.all g) (hg:w'.heap[g]?=some (.cells (A++V++D++Y).toArray e (0,0)))
  (hc:l.length + 1≤cap) (hm:cap≤maxLen) (hsz:(A++V++D++Y).length=cap * 1) (hA:F2 (PR w' S) (l.flatten.take (i * 1)) A) (hV:F2 (PR w' S) x V) (hD:F2 (PR w' S) (l.flatten.drop (i * 1)) D) :
  RowOk w' S 1 (l.take i++x::l.drop i) (.slice (some ⟨g,0,none⟩) (l.length + 1) cap) (some g):=by
 refine .inr ⟨g,cap,_,e,by decide,rfl,by rw [qiZ hi],hS,hg,by rw [qiZ hi]; exact hc,hm,by simpa using hsz,qyc hl hx,?_⟩
 rw [qiZ hi,qqO hl hi]
 have hh:F2 (PR w' S) (l.flatten.take (i * 1)++x++l.flatten.drop (i * 1)) (A++V++D):=(hA.app hV).app hD
 have hlen:(A++V++D).length=(l.length + 1) * 1:=by
  rw [←hh.len,List.length_append,List.length_append,hx,List.length_take,List.length_drop]
  have:l.flatten.length=l.length * 1:=qaG hl
  have:=Nat.mul_le_mul_right 1 hi
  omega
 rw [show (A++V++D++Y).toArray.toList=(A++V++D)++Y by simp,←hlen,List.take_left]
 exact hh
theorem insert_callOk_i {l:List (List PC)} {x:List PC} {i:Nat} (hl:∀ r∈l,r.length=1) (hx:x.length=1) (hi:i≤l.length) (hn:l.length≤1000000) :
  qcS Tryz.prog 187 [.one (.own 0),iv i,.one (.own 1)] [.rows 1 l,.rows 1 [x]] (.one (.own 2)) [.dead,.dead,.rows 1 (l.take i++x::l.drop i)]:=by
 refine ⟨⟨_,_,Tryz.func187,rfl,rfl⟩,fun w S inj vs hv hI hfree=>?_⟩
 have hIt:=(T_ok 3).known (of_decide_eq_true (by kernel_rfl))
 cases hv with
 | cons h0 hv =>
 cases hv with
 | cons h1 hv =>
 cases hv with
 | cons h2 hv =>
 cases hv
 obtain ⟨v0,g0,hg0,hro0⟩:=hI.rows (b:=0) (k:=1) (l:=l) rfl
 obtain ⟨v1,g1,hg1,hro1⟩:=hI.rows (b:=1) (k:=1) (l:=[x]) rfl
 have e0:=(h0.cellv (by simp)).ownv hg0
 have e1:=h1.flatv.1
 have e2:=(h2.cellv (by simp)).ownv hg1
 subst e0 e1 e2
 rcases hro1 with ⟨h,_⟩ | ⟨vb,vc,new,en,_,rfl,rfl,hnS,hnh,hnc,hnm,hns,_,hnf⟩
 ·cases h
 have hnew:1≤new.size:=by rw [hns]; simp at hnc; omega
 have hV:F2 (PR w S) x (new.toList.take 1):=by simpa using hnf
 have hV1:∀ v∈new.toList.take 1,v.oneCell'=true:=fun v hv=>by
  obtain ⟨j,hj⟩:=List.getElem?_of_mem hv
  obtain ⟨c,_,hc⟩:=hV.getR hj
  exact hc.one
 have hvw:vb < w.heap.size:=(Array.getElem?_eq_some_iff.1 hnh).1
 have fin:∀ {w':World} {cap g:Nat},Grow w S w' S→RowOk w' S 1 (l.take i++x::l.drop i) (.slice (some ⟨g,0,none⟩) (l.length + 1) cap) (some g) →
   ∃ v S' inj',(Ending.returned (.slice (some ⟨g,0,none⟩) (l.length + 1) cap):Ending)=.returned v∧Done w S inj 2 (.one (.own 2)) [.dead,.dead,.rows 1 (l.take i++x::l.drop i)] v w' S' inj':=fun hG hR=>by
  obtain ⟨inj',hd⟩:=qsV (n:=2) hI rfl hfree hG hR
  exact ⟨_,S,inj',rfl,hd⟩
 have hsrc:Src Tryz.prog w 1 1 (.slice (some ⟨vb,0,none⟩) 1 vc) (new.toList.take 1):=by
  have hc:∀ j v,(new.toList.take 1)[j]?=some v→w.cell? ((⟨vb,0,none⟩:Addr).add j)=some v:=fun j v hj=>by
   rw [qN,Nat.zero_add,World.cell?,hnh]
   rw [List.getElem?_take] at hj
   split at hj
   ·simpa using hj
   ·cases hj
  have hl8:(new.toList.take 1).length=1 * 1:=by rw [List.length_take,Array.length_toList]; omega
  exact ⟨fun w'=>by simp [Builtin.lenOf],run_firstCells_some w _ _ _ _ _ _ hl8 hc,run_firstCells_some w.drew _ _ _ _ _ _ hl8 (by simpa using hc),hl8,hV1⟩
 have h8:(ty T 3).sz=1:=by kernel_rfl
 have hbytes:(ty T 3).bytes≤1000:=of_decide_eq_true (by kernel_rfl)
 have hroom:∀ m,m≤1000001→m * (ty T 3).bytes≤140737488355328:=fun m hm=>by have:=Nat.mul_le_mul hm hbytes; omega
 rcases hro0 with ⟨rfl,rfl,ad,rfl⟩ | ⟨g,cap,cur,e,_,rfl,rfl,hS,hh,hcap,hmax,hcs,_,hf⟩
 ·
  obtain rfl:i=0:=by simpa using hi
  have ho0:(Builtin.firstCells 1 0 (.slice ad 0 0)).run Tryz.prog w.drew=.ok ([]:List Value).toArray w.drew:=by
   cases ad<;>simp [Builtin.firstCells,loadCells,loadCellsFrom]
  obtain ⟨zs,hzl,hr⟩:=qbm (ty:=59) (x:=ty T 3) Tryz.underlying59 Tryz.underlying59 (.inr ⟨_,rfl⟩) hIt hsrc ho0 (by omega) (hroom _ (by omega)) (by omega)
  simp only [h8] at hr hzl
  refine (qiY 0 0 vc ad vb w _ _ hr).mono ?_
  rintro e' w' ⟨rfl,rfl⟩
  have hge:=grownCap_ge w (0 + 1) 0 3
  have hgm:=grownCap_le_maxLen w (0 + 1) 0 3 (by simp only [maxLen]; omega)
  have hG:Grow w S (w.drew.alloc (.cells ([]++new.toList.take 1++zs).toArray 3)) S:=⟨rfl,rfl,rfl,by simp,fun g' hg'=>hao w.drew _ g' (hI.lt g' hg'),fun _ h=>h,rfl⟩
  refine fin hG (qeI (A:=[]) (V:=new.toList.take 1) (D:=[]) (Y:=zs) hl hx hi (fun h=>absurd (hI.lt _ h) (by omega)) (e:=3) ?_ (by simpa using hge) hgm ?_ .nil (hV.mono' fun _ _ h=>h.grow hG) .nil)
  ·have:=han w.drew (.cells ([]++new.toList.take 1++zs).toArray 3)
   simpa using this
  ·rw [List.append_nil,List.nil_append,List.length_append,hsrc.l,hzl,←Nat.add_mul]; congr 1; omega
 ·have hne:vb≠g:=by
   rintro rfl
   have:=hI.sep 0 1 vb (by intro h; cases h) (by intro h; cases h) (by rw [hg0]; rfl) (by rw [hg1]; rfl)
   cases this
  have hgw:g < w.heap.size:=(Array.getElem?_eq_some_iff.1 hh).1
  have hnc':l.length * 1≤cap * 1:=Nat.mul_le_mul_right 1 hcap
  have hold:(cur.toList.take (l.length * 1)).length=l.length * 1:=by rw [List.length_take,Array.length_toList (xs:=cur)]; omega
  have hC1:∀ v∈cur.toList.take (l.length * 1),v.oneCell'=true:=fun v hv=>by
   obtain ⟨j,hj⟩:=List.getElem?_of_mem hv
   obtain ⟨c,_,hc⟩:=hf.getR hj
   exact hc.one
  have hil:i * 1≤l.length * 1:=Nat.mul_le_mul_right 1 hi
  have hA:F2 (PR w S) (l.flatten.take (i * 1)) (cur.toList.take (i * 1)):=by
   have:=hf.take (i * 1)
   rwa [List.take_take,Nat.min_eq_left hil] at this
  have hD:=hf.drop (i * 1)
  by_cases hend:i=l.length
  ·
   subst hend
   have hDe:F2 (PR w S) (l.flatten.drop (l.length * 1)) []:=by
    have e1:l.flatten.length=l.length * 1:=qaG hl
    rw [←e1,List.drop_length]; exact .nil
   by_cases hm:l.length + 1≤cap
   ·have hr:=qeu (ty:=59) (x:=ty T 3) Tryz.underlying59 Tryz.underlying59 (.inr ⟨_,rfl⟩) hIt hsrc hh hm (by
     show l.length * 1 + _≤_
     rw [hsrc.l,hcs]; have:=Nat.mul_le_mul_right 1 hm; omega)
    simp only [h8] at hr
    refine (qiY l.length cap vc _ vb w _ _ hr).mono ?_
    rintro e' w' ⟨rfl,rfl⟩
    have hG:Grow w S (w.setRow g (cur.toList.take (l.length * 1)++new.toList.take 1++cur.toList.drop (l.length * 1 + (new.toList.take 1).length)).toArray) S:=.setRow hS
    refine fin hG (qeI (A:=cur.toList.take (l.length * 1)) (V:=new.toList.take 1) (D:=[]) (Y:=cur.toList.drop (l.length * 1 + (new.toList.take 1).length)) hl hx hi hS (e:=e) ?_ hm hmax ?_ (hA.mono' fun _ _ h=>h.grow hG) (hV.mono' fun _ _ h=>h.grow hG) (hDe.mono' fun _ _ h=>h.grow hG))
    ·refine (setRow_heap w g cur _ e (0,0) hh).trans ?_
     rw [List.append_nil]
    ·rw [List.append_nil,List.length_append,List.length_append,hsrc.l,List.length_drop,hold,Array.length_toList (xs:=cur),hcs]
     have:=Nat.mul_le_mul_right 1 hm; omega
   ·have ho0:(Builtin.firstCells 1 l.length (.slice (some ⟨g,0,none⟩) l.length cap)).run Tryz.prog w.drew=.ok (cur.toList.take (l.length * 1)).toArray w.drew:=by
     refine run_firstCells_some w.drew _ _ _ _ _ _ hold (fun j v hj=>?_)
     rw [List.getElem?_take] at hj
     split at hj
     ·rw [qN,Nat.zero_add,World.cell?_drew]
      simpa [World.cell?,hh] using hj
     ·cases hj
    obtain ⟨zs,hzl,hr⟩:=qbm (ty:=59) (x:=ty T 3) Tryz.underlying59 Tryz.underlying59 (.inr ⟨_,rfl⟩) hIt hsrc ho0 (by omega) (hroom _ (by omega)) (by omega)
    simp only [h8] at hr hzl
    refine (qiY l.length cap vc _ vb w _ _ hr).mono ?_
    rintro e' w' ⟨rfl,rfl⟩
    have hge:=grownCap_ge w (l.length + 1) cap 3
    have hgm:=grownCap_le_maxLen w (l.length + 1) cap 3 (by simp only [maxLen]; omega)
    have hG:Grow w S (w.drew.alloc (.cells (cur.toList.take (l.length * 1)++new.toList.take 1++zs).toArray 3)) S:=⟨rfl,rfl,rfl,by simp,fun g' hg'=>hao w.drew _ g' (hI.lt g' hg'),fun _ h=>h,rfl⟩
    refine fin hG (qeI (A:=cur.toList.take (l.length * 1)) (V:=new.toList.take 1) (D:=[]) (Y:=zs) hl hx hi (fun h=>absurd (hI.lt _ h) (by omega)) (e:=3) ?_ hge hgm ?_ (hA.mono' fun _ _ h=>h.grow hG) (hV.mono' fun _ _ h=>h.grow hG) (hDe.mono' fun _ _ h=>h.grow hG))
    ·have:=han w.drew (.cells (cur.toList.take (l.length * 1)++new.toList.take 1++zs).toArray 3)
     simpa using this
    ·rw [List.append_nil,List.length_append,List.length_append,hold,hsrc.l,hzl,←Nat.add_mul,←Nat.add_mul]; congr 1; omega
  ·have hi':i < l.length:=by omega
   by_cases hm:l.length + 1≤cap
   ·
    refine (qnZ g l.length cap i vb vc cur new e en w hi' hm hmax hne hh hnh hcs hnew hC1 hV1).mono ?_
    rintro e' w' ⟨rfl,w1,hw1,hos,htape,hout,rfl⟩
    have hG1:Grow w S w1 S:=⟨hos,htape,hout,by rw [hw1]; exact Nat.le_refl _,fun g' _=>by rw [hw1],fun _ h=>h,rfl⟩
    have hh1:w1.heap[g]?=some (.cells cur e (0,0)):=by rw [hw1]; exact hh
    have hh2:=setRow_heap w1 g cur (cur.toList.take ((i + 1) * 1)++(cur.toList.take (l.length * 1)).drop (i * 1)++cur.toList.drop ((l.length + 1) * 1)).toArray e (0,0) hh1
    have hG:=(hG1.trans (.setRow hS)).trans (Grow.setRow (w:=w1.setRow g (cur.toList.take ((i + 1) * 1)++(cur.toList.take (l.length * 1)).drop (i * 1)++cur.toList.drop ((l.length + 1) * 1)).toArray) (cs:=(cur.toList.take (i * 1)++new.toList.take 1++((cur.toList.take (l.length * 1)).drop (i * 1)++cur.toList.drop ((l.length + 1) * 1))).toArray) hS)
    refine fin hG (qeI (A:=cur.toList.take (i * 1)) (V:=new.toList.take 1) (D:=(cur.toList.take (l.length * 1)).drop (i * 1)) (Y:=cur.toList.drop ((l.length + 1) * 1)) hl hx hi hS (e:=e) ?_ hm hmax ?_ (hA.mono' fun _ _ h=>h.grow hG) (hV.mono' fun _ _ h=>h.grow hG) (hD.mono' fun _ _ h=>h.grow hG))
    ·refine (setRow_heap _ g _ _ e (0,0) hh2).trans ?_
     rw [List.append_assoc (cur.toList.take (i * 1)++new.toList.take 1)]
    ·rw [List.length_append,List.length_append,List.length_append,hsrc.l,List.length_drop,List.length_drop,hold,List.length_take,Array.length_toList (xs:=cur),hcs]
     have:=Nat.mul_le_mul_right 1 hm; omega
   ·
    refine (qqN g l.length cap i vb vc cur new e en w hi' hcap (by omega) hn hh hnh hcs hnew hC1 hV1).mono ?_
    rintro e' w' ⟨G,R0,R1,rest,hGn,hGm,hrl,rfl,w1,hw1,hos,htape,hout,rfl⟩
    have hz:w1.heap.size=w.heap.size:=by rw [hw1]
    have hnS':¬ S.all w.heap.size:=fun h=>absurd (hI.lt _ h) (by omega)
    have hG1:Grow w S (w1.alloc (.cells R0 3)) S:=⟨hos,htape,hout,by simp [hz],fun g' hg'=>by rw [hao _ _ _ (by rw [hz]; exact hI.lt g' hg'),hw1],fun _ h=>h,rfl⟩
    have hh1:(w1.alloc (.cells R0 3)).heap[w.heap.size]?=some (.cells R0 3 (0,0)):=by have:=han w1 (.cells R0 3); rwa [hz] at this
    have hh2:=setRow_heap _ w.heap.size _ R1 _ (0,0) hh1
    have hG:=(hG1.trans (.setRow (cs:=R1) hnS')).trans (Grow.setRow (w:=(w1.alloc (.cells R0 3)).setRow w.heap.size R1) (cs:=(cur.toList.take (i * 1)++new.toList.take 1++(cur.toList.take (l.length * 1)).drop (i * 1)++rest).toArray) hnS')
    refine fin hG (qeI (A:=cur.toList.take (i * 1)) (V:=new.toList.take 1) (D:=(cur.toList.take (l.length * 1)).drop (i * 1)) (Y:=rest) hl hx hi hnS' (e:=3) ?_ hGn hGm ?_ (hA.mono' fun _ _ h=>h.grow hG) (hV.mono' fun _ _ h=>h.grow hG) (hD.mono' fun _ _ h=>h.grow hG))
    ·exact setRow_heap _ w.heap.size _ _ _ (0,0) hh2
    ·rw [List.length_append,List.length_append,List.length_append,hsrc.l,List.length_drop,hold,List.length_take,Array.length_toList (xs:=cur),hrl,Nat.sub_mul]
     have:=Nat.mul_le_mul_right 1 hGn; omega
end
end Go.Proofs.YtidkmoohgadjkaaGreat.E.I1
namespace Go.Proofs.YtidkmoohgadjkaaGreat
open Go E
def qjY (l:List Int) (i:Int) (x:Int):Option (List Int):=chk (decide (0≤i∧i≤(l.length:Int)∧l.length≤1000000)) (some (l.take i.toNat++x::l.drop i.toNat))
theorem qAd {X:Task→Prop} (hX:qk X) {l r:List Int} {i:Int} {x:Int} {Q:A→List Blk→Prop} (h:qjY l i x=some r) (hQ:Q (.one (.own 2)) [.dead,.dead,.rows 1 (r.map irw)]) :
  X (.call 187 [.one (.own 0),iv i,.one (.own 1)] [.rows 1 (l.map irw),.rows 1 [irw x]] Q):=by
 unfold qjY at h
 obtain ⟨d,h⟩:=qq h
 injection h with h; subst h
 obtain ⟨h0,h1,h2⟩:=of_decide_eq_true d
 obtain ⟨n,rfl⟩:=Int.eq_ofNat_of_zero_le h0
 have hc:=E.I1.insert_callOk_i (l:=l.map irw) (x:=irw x) (i:=n) (fun r hr=>by obtain ⟨y,_,rfl⟩:=List.mem_map.1 hr; rfl) rfl (by rw [List.length_map]; omega) (by rw [List.length_map]; exact h2)
 rw [Int.toNat_natCast,List.map_append,List.map_cons,List.map_take,List.map_drop] at hQ
 exact qe3 hX hc hQ
end Go.Proofs.YtidkmoohgadjkaaGreat
set_option maxHeartbeats 0
namespace Go.Proofs.YtidkmoohgadjkaaGreat
open Go E
noncomputable section
open Pred
def qp (p0:List Int) (p1:Int):Nat→Int→Int→Option (Int × Bool)
  | 0,_,_=>none
  | fl1 + 1,v1,v2 =>
  (br (ltI v1 v2)
   (bnd (atL p0 (wr .i64 (shrI .u64 (wr .u64 (wr .i64 (v1 + v2))) 1))) fun x4 =>
    (br (!eqI x4 x4)
     (br (!(!eqI p1 p1))
      (qp p0 p1 fl1 (wr .i64 ((wr .i64 (shrI .u64 (wr .u64 (wr .i64 (v1 + v2))) 1)) + 1)) v2)
      (br (ltI x4 p1)
       (qp p0 p1 fl1 (wr .i64 ((wr .i64 (shrI .u64 (wr .u64 (wr .i64 (v1 + v2))) 1)) + 1)) v2)
       (qp p0 p1 fl1 v1 (wr .i64 (shrI .u64 (wr .u64 (wr .i64 (v1 + v2))) 1)))))
     (br (ltI x4 p1)
      (qp p0 p1 fl1 (wr .i64 ((wr .i64 (shrI .u64 (wr .u64 (wr .i64 (v1 + v2))) 1)) + 1)) v2)
      (qp p0 p1 fl1 v1 (wr .i64 (shrI .u64 (wr .u64 (wr .i64 (v1 + v2))) 1))))))
   (br (ltI v1 (p0.length:Int))
    (bnd (atL p0 v1) fun x11 =>
     (br (eqI x11 p1)
      (some (v1,true))
      (br (!eqI x11 x11)
       (some (v1,(!eqI p1 p1)))
       (some (v1,false)))))
    (some (v1,false))))
def qy (p0:List Int) (p1:Int):Option (Int × Bool) :=
 ((qp p0 p1) qdC 0 (p0.length:Int))
def qf5 (p0:State) (p1:Sess) (p2:Msg):Option (Bool) :=
 (br (eqI p2.kind 2)
  (br (leI 1 p2.turn)
   (br (eqI p1.turn 0)
    (br (eqI p2.src p1.with_)
     (br (eqI p2.dst p0.r)
      (some (eqI p2.sid p1.sid))
      (some false))
     (some false))
    (br (eqI p1.turn p2.turn)
     (br (eqI p2.src p1.with_)
      (br (eqI p2.dst p0.r)
       (some (eqI p2.sid p1.sid))
       (some false))
      (some false))
     (some false)))
   (some false))
  (br (leI 1 p2.turn)
   (br (eqI p1.turn 0)
    (br (eqI p2.kind 3)
     (br (eqI p2.src p1.with_)
      (br (eqI p2.dst p0.r)
       (some (eqI p2.sid p1.sid))
       (some false))
      (some false))
     (some false))
    (br (eqI p2.kind 3)
     (br (eqI p1.turn p2.turn)
      (br (eqI p2.src p1.with_)
       (br (eqI p2.dst p0.r)
        (some (eqI p2.sid p1.sid))
        (some false))
       (some false))
      (some false))
     (some false)))
   (br (eqI p2.kind 3)
    (some false)
    (some false))))
def qcp (p0_count:Int):List Frag→Int→Option (Bool)
  | [],v105 =>
  some true
  | x1e::xs1,v105 =>
  (br (ltI p0_count x1e.vec.x0)
   (some (!(leI 0 v105)))
   (qcp p0_count xs1 (v105 + 1) ))
def qcq (p0_count:Int):List Frag→Int→Option (Bool)
  | [],v211 =>
  some true
  | x2e::xs2,v211 =>
  (br (ltI p0_count x2e.vec.x1)
   (some (!(leI 0 v211)))
   (qcq p0_count xs2 (v211 + 1) ))
def qcr (p0_count:Int):List Frag→Int→Option (Bool)
  | [],v317 =>
  some true
  | x3e::xs3,v317 =>
  (br (ltI p0_count x3e.vec.x2)
   (some (!(leI 0 v317)))
   (qcr p0_count xs3 (v317 + 1) ))
def qcs (p0_count:Int):List Frag→Int→Option (Bool)
  | [],v423 =>
  some true
  | x4e::xs4,v423 =>
  (br (ltI p0_count x4e.vec.x3)
   (some (!(leI 0 v423)))
   (qcs p0_count xs4 (v423 + 1) ))
def qct (p0_count:Int):List Frag→Int→Option (Bool)
  | [],v529 =>
  some true
  | x5e::xs5,v529 =>
  (br (ltI p0_count x5e.vec.x4)
   (some (!(leI 0 v529)))
   (qct p0_count xs5 (v529 + 1) ))
def qcu (p0_count:Int):List Frag→Int→Option (Bool)
  | [],v635 =>
  some true
  | x6e::xs6,v635 =>
  (br (ltI p0_count x6e.vec.x5)
   (some (!(leI 0 v635)))
   (qcu p0_count xs6 (v635 + 1) ))
def qcv (p0_count:Int):List Frag→Int→Option (Bool)
  | [],v741 =>
  some true
  | x7e::xs7,v741 =>
  (br (ltI p0_count x7e.vec.x6)
   (some (!(leI 0 v741)))
   (qcv p0_count xs7 (v741 + 1) ))
def qcw (p0_count:Int):List Frag→Int→Option (Bool)
  | [],v847 =>
  some true
  | x8e::xs8,v847 =>
  (br (ltI p0_count x8e.vec.x7)
   (some (!(leI 0 v847)))
   (qcw p0_count xs8 (v847 + 1) ))
def qdO (p0:State) (p1:Know):Option (Bool) :=
 match p0 with
 | ⟨p0_r,p0_f,p0_store,p0_out,p0_k,p0_count,p0_clock,p0_epoch⟩ =>
  (br (eqI p0_r 1)
   (bnd (qat p1) fun y101 =>
    (br (!y101)
     (some false)
     (br (ltI p0_count p1.star.x0)
      (some false)
      (chk (qz p1.l)
        ((qcp p0_count) p1.l 0 )))))
   (br (eqI p0_r 2)
    (bnd (qat p1) fun y207 =>
     (br (!y207)
      (some false)
      (br (ltI p0_count p1.star.x1)
       (some false)
       (chk (qz p1.l)
         ((qcq p0_count) p1.l 0 )))))
    (br (eqI p0_r 3)
     (bnd (qat p1) fun y313 =>
      (br (!y313)
       (some false)
       (br (ltI p0_count p1.star.x2)
        (some false)
        (chk (qz p1.l)
          ((qcr p0_count) p1.l 0 )))))
     (br (eqI p0_r 4)
      (bnd (qat p1) fun y419 =>
       (br (!y419)
        (some false)
        (br (ltI p0_count p1.star.x3)
         (some false)
         (chk (qz p1.l)
           ((qcs p0_count) p1.l 0 )))))
      (br (eqI p0_r 5)
       (bnd (qat p1) fun y525 =>
        (br (!y525)
         (some false)
         (br (ltI p0_count p1.star.x4)
          (some false)
          (chk (qz p1.l)
            ((qct p0_count) p1.l 0 )))))
       (br (eqI p0_r 6)
        (bnd (qat p1) fun y631 =>
         (br (!y631)
          (some false)
          (br (ltI p0_count p1.star.x5)
           (some false)
           (chk (qz p1.l)
             ((qcu p0_count) p1.l 0 )))))
        (br (eqI p0_r 7)
         (bnd (qat p1) fun y737 =>
          (br (!y737)
           (some false)
           (br (ltI p0_count p1.star.x6)
            (some false)
            (chk (qz p1.l)
              ((qcv p0_count) p1.l 0 )))))
         (br (eqI p0_r 8)
          (bnd (qat p1) fun y843 =>
           (br (!y843)
            (some false)
            (br (ltI p0_count p1.star.x7)
             (some false)
             (chk (qz p1.l)
               ((qcw p0_count) p1.l 0 )))))
          (br (ltI p0_r 1)
           (some false)
           (br (ltI 8 p0_r)
            (some false)
            (bnd (qat p1) fun y951 =>
             (br (!y951)
              (some false)
              none))))))))))))
def qbz (p0:State) (p1:Msg):List Entry→Int→Option (Bool)
  | [],v5 =>
  (bnd (qdO p0 p1.k) fun y10 =>
   some y10)
  | x1e::xs1,v5 =>
  (br (!x1e.goes)
   (br (!(leI 0 v5))
    (bnd (qdO p0 p1.k) fun y8 =>
     some y8)
    (some false))
   (qbz p0 p1 xs1 (v5 + 1) ))
def qd8 (p0:State) (p1:Msg):Option (Bool) :=
 (br (ltI p1.n 0)
  (some false)
  (br (ltI 40 p1.n)
   (some false)
   (br (eqI p1.kind 2)
    (some (leI (p1.l.length:Int) 4))
    (br (leI (p1.l.length:Int) 40)
     (chk (qz p1.l)
       ((qbz p0 p1) p1.l 0 ))
     (some false)))))
def qdP (p0:State) (p1:Entry):Option (State) :=
 (bnd (qeG p0 p1.item.id (Ver.mk p1.item.vr p1.item.vc) (Ver.mk p1.nr p1.nc)) fun y1 =>
  some y1)
def qdQ (p0:Sess):Nat→Int→Option (Bool)
  | 0,_=>none
  | fl1 + 1,v1 =>
  (br (ltI v1 p0.n)
   (bnd (qy p0.got v1) fun y3 =>
    (br (!y3.2)
     (some false)
     (qdQ p0 fl1 (wr .i64 (v1 + 1)))))
   (some true))
def qfi (p0:Sess):Option (Bool) :=
 ((qdQ p0) qdC 0)
def qdh (p1:Sess) (p2:Msg) (v38:Bool) (v39:Bool) (v40:Int) (v53:Know) (v50:List Int) (v51:List Entry):List Entry→State→Option ((State × Sess) × Option Int)
  | [],v81 =>
  (bnd (qeE v81.k v53) fun y84 =>
   some (((State.mk v81.r v81.f v81.store v81.out y84 v81.count v81.clock v81.epoch),(Sess.mk p1.sid p1.with_ p1.epoch p2.turn v50 v38 v39 true v40 v53 v51)),none))
  | x2e::xs2,v81 =>
  (bnd (qdP v81 x2e) fun y82 =>
   (qdh p1 p2 v38 v39 v40 v53 v50 v51 xs2  y82))
def qbA (p1:Sess) (p2:Msg) (v52:State) (v38:Bool) (v39:Bool) (v40:Int) (v53:Know) (v50:List Int) (v51:List Entry):Option ((State × Sess) × Option Int) :=
 (br (!v39)
  (some ((v52,(Sess.mk p1.sid p1.with_ p1.epoch p2.turn v50 v38 v39 p1.over v40 v53 v51)),none))
  (br v38
   (some ((v52,(Sess.mk p1.sid p1.with_ p1.epoch p2.turn v50 v38 v39 p1.over v40 v53 v51)),none))
   (bnd (qfi (Sess.mk p1.sid p1.with_ p1.epoch p2.turn v50 v38 v39 p1.over v40 v53 v51)) fun y56 =>
    (br (!y56)
     (some ((v52,(Sess.mk p1.sid p1.with_ p1.epoch p2.turn v50 v38 v39 p1.over v40 v53 v51)),none))
     (chk (qz v51)
       ((qdh p1 p2 v38 v39 v40 v53 v50 v51) v51 v52))))))
def qbB (p1:Sess) (p2:Msg) (y3:(List Int)) (y5:Know) (y7:(List Entry)):List Entry→State→Bool→Option ((State × Sess) × Option Int)
  | [],v110,v109 =>
  (bnd (qy y3 p2.n) fun y117 =>
   (br (!y117.2)
    (bnd (qjY y3 y117.1 p2.n) fun y120 =>
     (qbA p1 p2 v110 v109 p1.told p1.n y5 y120 y7))
    (qbA p1 p2 v110 v109 p1.told p1.n y5 y3 y7)))
  | x3e::xs3,v110,v109 =>
  (br x3e.goes
   (bnd (qdP v110 x3e) fun y112 =>
    (qbB p1 p2 y3 y5 y7 xs3  y112 v109))
   (bndE (qeF v110 x3e.item) (fun y114 n116 =>
    (qbB p1 p2 y3 y5 y7 xs3  v110 true))
     (fun y114 =>
    (qbB p1 p2 y3 y5 y7 xs3  y114 v109))))
def qbZ (p0:State) (p1:Sess) (p2:Msg):Option ((State × Sess) × Option Int) :=
 (bnd (qby p0) fun y1 =>
  (bnd (qaz p1.got) fun y3 =>
   (bnd (qaF p1.k) fun y5 =>
    (bnd (qaz p1.l) fun y7 =>
     (bnd (qf5 y1 (Sess.mk p1.sid p1.with_ p1.epoch p1.turn y3 p1.bad p1.told p1.over p1.n y5 y7) p2) fun y9 =>
      (br (!y9)
       (some ((y1,(Sess.mk p1.sid p1.with_ p1.epoch p1.turn y3 p1.bad p1.told p1.over p1.n y5 y7)),(some 1)))
       (br p1.over
        (some ((y1,(Sess.mk p1.sid p1.with_ p1.epoch p1.turn y3 p1.bad p1.told p1.over p1.n y5 y7)),(some 9)))
        (br (!eqI p1.epoch y1.epoch)
         (some ((y1,(Sess.mk p1.sid p1.with_ p1.epoch p1.turn y3 p1.bad p1.told p1.over p1.n y5 y7)),(some 9)))
         (bnd (qd8 y1 p2) fun y14 =>
          (br (!y14)
           (some ((y1,(Sess.mk p1.sid p1.with_ p1.epoch p1.turn y3 p1.bad p1.told p1.over p1.n y5 y7)),(some 1)))
           (br (eqI p2.kind 2)
            (chk (qz p2.l)
              ((qbB p1 p2 y3 y5 y7) p2.l y1 p1.bad))
            (br (!p1.told)
             (bnd (qaF p2.k) fun y123 =>
              (bnd (qaz p2.l) fun y125 =>
               (qbA p1 p2 y1 p1.bad true p2.n y123 y3 y125)))
             (qbA p1 p2 y1 p1.bad p1.told p1.n y5 y3 y7)))))))))))))
variable {X:Task→Prop} (hX:qk X) {Q:A→List Blk→Prop}
include hX
theorem qbI  {p0:List Int} {p1:Int} {r:Int × Bool} (h:qy p0 p1=some r) (hQ:Q (.tup [iv r.1,.one (.p (.v (.bool r.2)))]) []):X (.call 186 [.one (.p (.sl (p0.map irw))),iv p1] [] Q):=by
  have K:=fun a (e:some a=some r)=>qm (f:=fun y=>.tup [iv y.1,.one (.p (.v (.bool y.2)))]) (g:=fun y=>[]) e hQ
  unfold qy at h
  refine qb hX Tryz.func186 rfl rfl ?_
  conv=>whnf
  repeat((first|refine dw ?_|refine qg (qi _) ?_);conv=>whnf)
  refine qhs (fun (v1:Int) (v2:Int)=>pad [(0,.one (.p (.sl (p0.map irw)))),(0,iv p1),(4,iv (p0.length:Int)),(0,iv v1),(0,iv v2)] 45) (fun (v1:Int) (v2:Int)=>[]) _ (fun _ _ h=>?_) (fun fl1 v1 v2 h ih1=>?_) qdC 0 (p0.length:Int) h
  ·rw [qp] at h
   cases h
  ·rw [qp] at h
   refine qa hX ?_
   conv=>whnf
   repeat((first|refine dw ?_);conv=>whnf)
   revert h
   refine brk (fun c3 h=>?_) (fun c3 h=>?_)
   ·revert h
    refine bndk fun x4 a5 h=>?_
    conv=>whnf
    repeat((first|refine dw ?_|refine bct c3 ?_|refine bct (qc a5) ?_|refine bct (andt (qc a5) rfl) ?_|refine qe (qf a5) ?_|refine bct (andt (qc (qd a5)) rfl) ?_|refine qe (qf (qd a5)) ?_);conv=>whnf)
    refine qb hX Tryz.func222 rfl rfl ?_
    conv=>whnf
    repeat((first|refine dw ?_);conv=>whnf)
    refine qb hX Tryz.func214 rfl rfl ?_
    conv=>whnf
    repeat((first|refine dw ?_);conv=>whnf)
    revert h
    refine brk (fun c6 h=>?_) (fun c6 h=>?_)
    ·conv=>whnf
     repeat((first|refine dw ?_|refine bct c6 ?_);conv=>whnf)
     refine qb hX Tryz.func214 rfl rfl ?_
     conv=>whnf
     repeat((first|refine dw ?_|refine bct c6 ?_);conv=>whnf)
     revert h
     refine brk (fun c7 h=>?_) (fun c7 h=>?_)
     ·conv=>whnf
      repeat((first|refine dw ?_|refine bct c7 ?_);conv=>whnf)
      exact ih1 (wr .i64 ((wr .i64 (shrI .u64 (wr .u64 (wr .i64 (v1 + v2))) 1)) + 1)) v2 h
     ·conv=>whnf
      repeat((first|refine dw ?_|refine bcf c7 ?_);conv=>whnf)
      revert h
      refine brk (fun c8 h=>?_) (fun c8 h=>?_)
      ·conv=>whnf
       repeat((first|refine dw ?_|refine bct c8 ?_);conv=>whnf)
       exact ih1 (wr .i64 ((wr .i64 (shrI .u64 (wr .u64 (wr .i64 (v1 + v2))) 1)) + 1)) v2 h
      ·conv=>whnf
       repeat((first|refine dw ?_|refine bcf c8 ?_);conv=>whnf)
       exact ih1 v1 (wr .i64 (shrI .u64 (wr .u64 (wr .i64 (v1 + v2))) 1)) h
    ·conv=>whnf
     repeat((first|refine dw ?_|refine bcf c6 ?_);conv=>whnf)
     revert h
     refine brk (fun c9 h=>?_) (fun c9 h=>?_)
     ·conv=>whnf
      repeat((first|refine dw ?_|refine bct c9 ?_);conv=>whnf)
      exact ih1 (wr .i64 ((wr .i64 (shrI .u64 (wr .u64 (wr .i64 (v1 + v2))) 1)) + 1)) v2 h
     ·conv=>whnf
      repeat((first|refine dw ?_|refine bcf c9 ?_);conv=>whnf)
      exact ih1 v1 (wr .i64 (shrI .u64 (wr .u64 (wr .i64 (v1 + v2))) 1)) h
   ·conv=>whnf
    repeat((first|refine dw ?_|refine bcf c3 ?_);conv=>whnf)
    revert h
    refine brk (fun c10 h=>?_) (fun c10 h=>?_)
    ·revert h
     refine bndk fun x11 a12 h=>?_
     conv=>whnf
     repeat((first|refine dw ?_|refine bct c10 ?_|refine bct (qc a12) ?_|refine bct (andt (qc a12) rfl) ?_|refine qe (qf a12) ?_|refine bct (andt (qc (qd a12)) rfl) ?_|refine qe (qf (qd a12)) ?_);conv=>whnf)
     revert h
     refine brk (fun c13 h=>?_) (fun c13 h=>?_)
     ·conv=>whnf
      repeat((first|refine dw ?_|refine bct c13 ?_|refine bct c10 ?_);conv=>whnf)
      exact K _ h
     ·conv=>whnf
      repeat((first|refine dw ?_|refine bcf c13 ?_|refine bct (qc a12) ?_|refine bct (andt (qc a12) rfl) ?_|refine qe (qf a12) ?_|refine bct (andt (qc (qd a12)) rfl) ?_|refine qe (qf (qd a12)) ?_);conv=>whnf)
      refine qb hX Tryz.func223 rfl rfl ?_
      conv=>whnf
      repeat((first|refine dw ?_|refine bcf c13 ?_);conv=>whnf)
      revert h
      refine brk (fun c14 h=>?_) (fun c14 h=>?_)
      ·conv=>whnf
       repeat((first|refine dw ?_|refine bct c14 ?_);conv=>whnf)
       refine qb hX Tryz.func223 rfl rfl ?_
       conv=>whnf
       repeat((first|refine dw ?_|refine bcf c13 ?_|refine bct c14 ?_|refine bct c10 ?_);conv=>whnf)
       exact K _ h
      ·conv=>whnf
       repeat((first|refine dw ?_|refine bcf c14 ?_|refine bcf c13 ?_|refine bct c10 ?_);conv=>whnf)
       exact K _ h
    ·conv=>whnf
     repeat((first|refine dw ?_|refine bcf c10 ?_);conv=>whnf)
     exact K _ h
theorem qsW  {p0:State} {p1:Sess} {p2:Msg} {r:Bool} (h:qf5 p0 p1 p2=some r) (hQ:Q (.one (.p (.v (.bool r)))) []):X (.call 124 [.agg (State.cs p0),.agg (Sess.cs p1),.agg (Msg.cs p2)] [] Q):=by
  have K:=fun a (e:some a=some r)=>qm (f:=fun y=>.one (.p (.v (.bool y)))) (g:=fun y=>[]) e hQ
  unfold qf5 at h
  refine qb hX Tryz.func124 rfl rfl ?_
  conv=>whnf
  repeat((first|refine dw ?_);conv=>whnf)
  revert h
  refine brk (fun c1 h=>?_) (fun c1 h=>?_)
  ·conv=>whnf
   repeat((first|refine dw ?_|refine bct c1 ?_);conv=>whnf)
   revert h
   refine brk (fun c2 h=>?_) (fun c2 h=>?_)
   ·conv=>whnf
    repeat((first|refine dw ?_|refine bct c2 ?_);conv=>whnf)
    revert h
    refine brk (fun c3 h=>?_) (fun c3 h=>?_)
    ·conv=>whnf
     repeat((first|refine dw ?_|refine bct c3 ?_|refine bct c2 ?_);conv=>whnf)
     revert h
     refine brk (fun c4 h=>?_) (fun c4 h=>?_)
     ·conv=>whnf
      repeat((first|refine dw ?_|refine bct c4 ?_);conv=>whnf)
      revert h
      refine brk (fun c5 h=>?_) (fun c5 h=>?_)
      ·conv=>whnf
       repeat((first|refine dw ?_|refine bct c5 ?_);conv=>whnf)
       exact K _ h
      ·conv=>whnf
       repeat((first|refine dw ?_|refine bcf c5 ?_);conv=>whnf)
       exact K _ h
     ·conv=>whnf
      repeat((first|refine dw ?_|refine bcf c4 ?_);conv=>whnf)
      exact K _ h
    ·conv=>whnf
     repeat((first|refine dw ?_|refine bcf c3 ?_|refine bct c2 ?_);conv=>whnf)
     revert h
     refine brk (fun c6 h=>?_) (fun c6 h=>?_)
     ·conv=>whnf
      repeat((first|refine dw ?_|refine bct c6 ?_);conv=>whnf)
      revert h
      refine brk (fun c7 h=>?_) (fun c7 h=>?_)
      ·conv=>whnf
       repeat((first|refine dw ?_|refine bct c7 ?_);conv=>whnf)
       revert h
       refine brk (fun c8 h=>?_) (fun c8 h=>?_)
       ·conv=>whnf
        repeat((first|refine dw ?_|refine bct c8 ?_);conv=>whnf)
        exact K _ h
       ·conv=>whnf
        repeat((first|refine dw ?_|refine bcf c8 ?_);conv=>whnf)
        exact K _ h
      ·conv=>whnf
       repeat((first|refine dw ?_|refine bcf c7 ?_);conv=>whnf)
       exact K _ h
     ·conv=>whnf
      repeat((first|refine dw ?_|refine bcf c6 ?_);conv=>whnf)
      exact K _ h
   ·conv=>whnf
    repeat((first|refine dw ?_|refine bcf c2 ?_);conv=>whnf)
    exact K _ h
  ·conv=>whnf
   repeat((first|refine dw ?_|refine bcf c1 ?_);conv=>whnf)
   revert h
   refine brk (fun c9 h=>?_) (fun c9 h=>?_)
   ·conv=>whnf
    repeat((first|refine dw ?_|refine bct c9 ?_);conv=>whnf)
    revert h
    refine brk (fun c10 h=>?_) (fun c10 h=>?_)
    ·conv=>whnf
     repeat((first|refine dw ?_|refine bct c10 ?_|refine bct c9 ?_);conv=>whnf)
     revert h
     refine brk (fun c11 h=>?_) (fun c11 h=>?_)
     ·conv=>whnf
      repeat((first|refine dw ?_|refine bct c11 ?_);conv=>whnf)
      revert h
      refine brk (fun c12 h=>?_) (fun c12 h=>?_)
      ·conv=>whnf
       repeat((first|refine dw ?_|refine bct c12 ?_);conv=>whnf)
       revert h
       refine brk (fun c13 h=>?_) (fun c13 h=>?_)
       ·conv=>whnf
        repeat((first|refine dw ?_|refine bct c13 ?_);conv=>whnf)
        exact K _ h
       ·conv=>whnf
        repeat((first|refine dw ?_|refine bcf c13 ?_);conv=>whnf)
        exact K _ h
      ·conv=>whnf
       repeat((first|refine dw ?_|refine bcf c12 ?_);conv=>whnf)
       exact K _ h
     ·conv=>whnf
      repeat((first|refine dw ?_|refine bcf c11 ?_);conv=>whnf)
      exact K _ h
    ·conv=>whnf
     repeat((first|refine dw ?_|refine bcf c10 ?_|refine bct c9 ?_);conv=>whnf)
     revert h
     refine brk (fun c14 h=>?_) (fun c14 h=>?_)
     ·conv=>whnf
      repeat((first|refine dw ?_|refine bct c14 ?_);conv=>whnf)
      revert h
      refine brk (fun c15 h=>?_) (fun c15 h=>?_)
      ·conv=>whnf
       repeat((first|refine dw ?_|refine bct c15 ?_);conv=>whnf)
       revert h
       refine brk (fun c16 h=>?_) (fun c16 h=>?_)
       ·conv=>whnf
        repeat((first|refine dw ?_|refine bct c16 ?_);conv=>whnf)
        revert h
        refine brk (fun c17 h=>?_) (fun c17 h=>?_)
        ·conv=>whnf
         repeat((first|refine dw ?_|refine bct c17 ?_);conv=>whnf)
         exact K _ h
        ·conv=>whnf
         repeat((first|refine dw ?_|refine bcf c17 ?_);conv=>whnf)
         exact K _ h
       ·conv=>whnf
        repeat((first|refine dw ?_|refine bcf c16 ?_);conv=>whnf)
        exact K _ h
      ·conv=>whnf
       repeat((first|refine dw ?_|refine bcf c15 ?_);conv=>whnf)
       exact K _ h
     ·conv=>whnf
      repeat((first|refine dw ?_|refine bcf c14 ?_);conv=>whnf)
      exact K _ h
   ·conv=>whnf
    repeat((first|refine dw ?_|refine bcf c9 ?_);conv=>whnf)
    revert h
    refine brk (fun c18 h=>?_) (fun c18 h=>?_)
    ·conv=>whnf
     repeat((first|refine dw ?_|refine bct c18 ?_);conv=>whnf)
     exact K _ h
    ·conv=>whnf
     repeat((first|refine dw ?_|refine bcf c18 ?_);conv=>whnf)
     exact K _ h
theorem qi0  {p0:State} {p1:Know} {r:Bool} (h:qdO p0 p1=some r) (hQ:Q (.one (.p (.v (.bool r)))) []):X (.call 185 [.agg (State.cs p0),.agg (Know.cs p1)] [] Q):=by
  have K:=fun a (e:some a=some r)=>qm (f:=fun y=>.one (.p (.v (.bool y)))) (g:=fun y=>[]) e hQ
  obtain ⟨p0_r,p0_f,p0_store,p0_out,p0_k,p0_count,p0_clock,p0_epoch⟩:=p0
  unfold qdO at h
  dsimp only at h
  refine qfW h (fun c g=>?_) (fun c g=>?_)
  ·replace h:=g
   clear g
   obtain rfl:=qdB.1 c
   clear c
   refine qb hX Tryz.func185 rfl rfl ?_
   revert h
   refine bndk fun y101 e102 h=>?_
   conv=>whnf
   repeat((first|refine dw ?_);conv=>whnf)
   refine qcM hX e102 ?_
   conv=>whnf
   repeat((first|refine dw ?_);conv=>whnf)
   revert h
   refine brk (fun c103 h=>?_) (fun c103 h=>?_)
   ·conv=>whnf
    repeat((first|refine dw ?_|refine bct c103 ?_);conv=>whnf)
    exact K _ h
   ·conv=>whnf
    repeat((first|refine dw ?_|refine bcf c103 ?_);conv=>whnf)
    revert h
    refine brk (fun c104 h=>?_) (fun c104 h=>?_)
    ·conv=>whnf
     repeat((first|refine dw ?_|refine bct c104 ?_);conv=>whnf)
     exact K _ h
    ·conv=>whnf
     repeat((first|refine dw ?_|refine bcf c104 ?_);conv=>whnf)
     refine Or.inl ?_
     conv=>whnf
     refine qb hX Tryz.func221 rfl rfl ?_
     conv=>whnf
     repeat((first|refine dw ?_);conv=>whnf)
     refine Or.inl ?_
     conv=>whnf
     refine qb hX Tryz.func242 rfl rfl ?_
     revert h
     refine chkk fun hs1 h=>?_
     conv=>whnf
     repeat((first|refine dw ?_|refine qg (qi _) ?_);conv=>whnf)
     refine qI (fun (v105:Int)=>pad [(0,.one (.p (.sl (p1.l.map Frag.row)))),(0,.one (.fn 220 [0])),(5,iv (p1.l.length:Int)),(0,iv v105)] 10) (fun (v105:Int)=>[.box [ic 1,ic p0_f.op,.p (.v (.string p0_f.text)),ic p0_f.n,.p (.v (.complex .f64 p0_f.re p0_f.im)),.p (.sl (Pred.rows p0_f.kids)),.p (.sl (p0_store.map Item.row)),.p (.sl (p0_out.map Item.row)),ic p0_k.star.x0,ic p0_k.star.x1,ic p0_k.star.x2,ic p0_k.star.x3,ic p0_k.star.x4,ic p0_k.star.x5,ic p0_k.star.x6,ic p0_k.star.x7,.p (.sl (p0_k.l.map Frag.row)),ic p0_count,ic p0_clock,ic p0_epoch]]) _ p1.l (fun pre1 x1e xs1 v105  hl1 hi1 h ih1=>?_) (fun v105  hi1 h=>?_)  h
     ·rw [qcp] at h
      have am1:=qB hl1 hi1
      refine qa hX ?_
      conv=>whnf
      repeat((first|refine dw ?_|refine bct (qC hl1 hi1) ?_|refine bct (qc am1) ?_|refine bct (andt (qc am1) rfl) ?_|refine qe (qf am1) ?_|refine bct (andt (qc (qd am1)) rfl) ?_|refine qe (qf (qd am1)) ?_);conv=>whnf)
      refine qb hX Tryz.func220 rfl rfl ?_
      conv=>whnf
      repeat((first|refine dw ?_);conv=>whnf)
      revert h
      refine brk (fun c106 h=>?_) (fun c106 h=>?_)
      ·conv=>whnf
       repeat((first|refine dw ?_|refine bct c106 ?_);conv=>whnf)
       exact K _ h
      ·conv=>whnf
       repeat((first|refine dw ?_|refine bcf c106 ?_);conv=>whnf)
       exact ih1 _  (wrL hs1 hl1 hi1) h
     ·rw [qcp] at h
      refine qa hX ?_
      conv=>whnf
      repeat((first|refine dw ?_|refine bcf (qD hi1) ?_);conv=>whnf)
      exact K _ h
  ·replace h:=g
   clear g c
   refine qfW h (fun c g=>?_) (fun c g=>?_)
   ·replace h:=g
    clear g
    obtain rfl:=qdB.1 c
    clear c
    refine qb hX Tryz.func185 rfl rfl ?_
    revert h
    refine bndk fun y207 e208 h=>?_
    conv=>whnf
    repeat((first|refine dw ?_);conv=>whnf)
    refine qcM hX e208 ?_
    conv=>whnf
    repeat((first|refine dw ?_);conv=>whnf)
    revert h
    refine brk (fun c209 h=>?_) (fun c209 h=>?_)
    ·conv=>whnf
     repeat((first|refine dw ?_|refine bct c209 ?_);conv=>whnf)
     exact K _ h
    ·conv=>whnf
     repeat((first|refine dw ?_|refine bcf c209 ?_);conv=>whnf)
     revert h
     refine brk (fun c210 h=>?_) (fun c210 h=>?_)
     ·conv=>whnf
      repeat((first|refine dw ?_|refine bct c210 ?_);conv=>whnf)
      exact K _ h
     ·conv=>whnf
      repeat((first|refine dw ?_|refine bcf c210 ?_);conv=>whnf)
      refine Or.inl ?_
      conv=>whnf
      refine qb hX Tryz.func221 rfl rfl ?_
      conv=>whnf
      repeat((first|refine dw ?_);conv=>whnf)
      refine Or.inl ?_
      conv=>whnf
      refine qb hX Tryz.func242 rfl rfl ?_
      revert h
      refine chkk fun hs2 h=>?_
      conv=>whnf
      repeat((first|refine dw ?_|refine qg (qi _) ?_);conv=>whnf)
      refine qI (fun (v211:Int)=>pad [(0,.one (.p (.sl (p1.l.map Frag.row)))),(0,.one (.fn 220 [0])),(5,iv (p1.l.length:Int)),(0,iv v211)] 10) (fun (v211:Int)=>[.box [ic 2,ic p0_f.op,.p (.v (.string p0_f.text)),ic p0_f.n,.p (.v (.complex .f64 p0_f.re p0_f.im)),.p (.sl (Pred.rows p0_f.kids)),.p (.sl (p0_store.map Item.row)),.p (.sl (p0_out.map Item.row)),ic p0_k.star.x0,ic p0_k.star.x1,ic p0_k.star.x2,ic p0_k.star.x3,ic p0_k.star.x4,ic p0_k.star.x5,ic p0_k.star.x6,ic p0_k.star.x7,.p (.sl (p0_k.l.map Frag.row)),ic p0_count,ic p0_clock,ic p0_epoch]]) _ p1.l (fun pre2 x2e xs2 v211  hl2 hi2 h ih2=>?_) (fun v211  hi2 h=>?_)  h
      ·rw [qcq] at h
       have am2:=qB hl2 hi2
       refine qa hX ?_
       conv=>whnf
       repeat((first|refine dw ?_|refine bct (qC hl2 hi2) ?_|refine bct (qc am2) ?_|refine bct (andt (qc am2) rfl) ?_|refine qe (qf am2) ?_|refine bct (andt (qc (qd am2)) rfl) ?_|refine qe (qf (qd am2)) ?_);conv=>whnf)
       refine qb hX Tryz.func220 rfl rfl ?_
       conv=>whnf
       repeat((first|refine dw ?_);conv=>whnf)
       revert h
       refine brk (fun c212 h=>?_) (fun c212 h=>?_)
       ·conv=>whnf
        repeat((first|refine dw ?_|refine bct c212 ?_);conv=>whnf)
        exact K _ h
       ·conv=>whnf
        repeat((first|refine dw ?_|refine bcf c212 ?_);conv=>whnf)
        exact ih2 _  (wrL hs2 hl2 hi2) h
      ·rw [qcq] at h
       refine qa hX ?_
       conv=>whnf
       repeat((first|refine dw ?_|refine bcf (qD hi2) ?_);conv=>whnf)
       exact K _ h
   ·replace h:=g
    clear g c
    refine qfW h (fun c g=>?_) (fun c g=>?_)
    ·replace h:=g
     clear g
     obtain rfl:=qdB.1 c
     clear c
     refine qb hX Tryz.func185 rfl rfl ?_
     revert h
     refine bndk fun y313 e314 h=>?_
     conv=>whnf
     repeat((first|refine dw ?_);conv=>whnf)
     refine qcM hX e314 ?_
     conv=>whnf
     repeat((first|refine dw ?_);conv=>whnf)
     revert h
     refine brk (fun c315 h=>?_) (fun c315 h=>?_)
     ·conv=>whnf
      repeat((first|refine dw ?_|refine bct c315 ?_);conv=>whnf)
      exact K _ h
     ·conv=>whnf
      repeat((first|refine dw ?_|refine bcf c315 ?_);conv=>whnf)
      revert h
      refine brk (fun c316 h=>?_) (fun c316 h=>?_)
      ·conv=>whnf
       repeat((first|refine dw ?_|refine bct c316 ?_);conv=>whnf)
       exact K _ h
      ·conv=>whnf
       repeat((first|refine dw ?_|refine bcf c316 ?_);conv=>whnf)
       refine Or.inl ?_
       conv=>whnf
       refine qb hX Tryz.func221 rfl rfl ?_
       conv=>whnf
       repeat((first|refine dw ?_);conv=>whnf)
       refine Or.inl ?_
       conv=>whnf
       refine qb hX Tryz.func242 rfl rfl ?_
       revert h
       refine chkk fun hs3 h=>?_
       conv=>whnf
       repeat((first|refine dw ?_|refine qg (qi _) ?_);conv=>whnf)
       refine qI (fun (v317:Int)=>pad [(0,.one (.p (.sl (p1.l.map Frag.row)))),(0,.one (.fn 220 [0])),(5,iv (p1.l.length:Int)),(0,iv v317)] 10) (fun (v317:Int)=>[.box [ic 3,ic p0_f.op,.p (.v (.string p0_f.text)),ic p0_f.n,.p (.v (.complex .f64 p0_f.re p0_f.im)),.p (.sl (Pred.rows p0_f.kids)),.p (.sl (p0_store.map Item.row)),.p (.sl (p0_out.map Item.row)),ic p0_k.star.x0,ic p0_k.star.x1,ic p0_k.star.x2,ic p0_k.star.x3,ic p0_k.star.x4,ic p0_k.star.x5,ic p0_k.star.x6,ic p0_k.star.x7,.p (.sl (p0_k.l.map Frag.row)),ic p0_count,ic p0_clock,ic p0_epoch]]) _ p1.l (fun pre3 x3e xs3 v317  hl3 hi3 h ih3=>?_) (fun v317  hi3 h=>?_)  h
       ·rw [qcr] at h
        have am3:=qB hl3 hi3
        refine qa hX ?_
        conv=>whnf
        repeat((first|refine dw ?_|refine bct (qC hl3 hi3) ?_|refine bct (qc am3) ?_|refine bct (andt (qc am3) rfl) ?_|refine qe (qf am3) ?_|refine bct (andt (qc (qd am3)) rfl) ?_|refine qe (qf (qd am3)) ?_);conv=>whnf)
        refine qb hX Tryz.func220 rfl rfl ?_
        conv=>whnf
        repeat((first|refine dw ?_);conv=>whnf)
        revert h
        refine brk (fun c318 h=>?_) (fun c318 h=>?_)
        ·conv=>whnf
         repeat((first|refine dw ?_|refine bct c318 ?_);conv=>whnf)
         exact K _ h
        ·conv=>whnf
         repeat((first|refine dw ?_|refine bcf c318 ?_);conv=>whnf)
         exact ih3 _  (wrL hs3 hl3 hi3) h
       ·rw [qcr] at h
        refine qa hX ?_
        conv=>whnf
        repeat((first|refine dw ?_|refine bcf (qD hi3) ?_);conv=>whnf)
        exact K _ h
    ·replace h:=g
     clear g c
     refine qfW h (fun c g=>?_) (fun c g=>?_)
     ·replace h:=g
      clear g
      obtain rfl:=qdB.1 c
      clear c
      refine qb hX Tryz.func185 rfl rfl ?_
      revert h
      refine bndk fun y419 e420 h=>?_
      conv=>whnf
      repeat((first|refine dw ?_);conv=>whnf)
      refine qcM hX e420 ?_
      conv=>whnf
      repeat((first|refine dw ?_);conv=>whnf)
      revert h
      refine brk (fun c421 h=>?_) (fun c421 h=>?_)
      ·conv=>whnf
       repeat((first|refine dw ?_|refine bct c421 ?_);conv=>whnf)
       exact K _ h
      ·conv=>whnf
       repeat((first|refine dw ?_|refine bcf c421 ?_);conv=>whnf)
       revert h
       refine brk (fun c422 h=>?_) (fun c422 h=>?_)
       ·conv=>whnf
        repeat((first|refine dw ?_|refine bct c422 ?_);conv=>whnf)
        exact K _ h
       ·conv=>whnf
        repeat((first|refine dw ?_|refine bcf c422 ?_);conv=>whnf)
        refine Or.inl ?_
        conv=>whnf
        refine qb hX Tryz.func221 rfl rfl ?_
        conv=>whnf
        repeat((first|refine dw ?_);conv=>whnf)
        refine Or.inl ?_
        conv=>whnf
        refine qb hX Tryz.func242 rfl rfl ?_
        revert h
        refine chkk fun hs4 h=>?_
        conv=>whnf
        repeat((first|refine dw ?_|refine qg (qi _) ?_);conv=>whnf)
        refine qI (fun (v423:Int)=>pad [(0,.one (.p (.sl (p1.l.map Frag.row)))),(0,.one (.fn 220 [0])),(5,iv (p1.l.length:Int)),(0,iv v423)] 10) (fun (v423:Int)=>[.box [ic 4,ic p0_f.op,.p (.v (.string p0_f.text)),ic p0_f.n,.p (.v (.complex .f64 p0_f.re p0_f.im)),.p (.sl (Pred.rows p0_f.kids)),.p (.sl (p0_store.map Item.row)),.p (.sl (p0_out.map Item.row)),ic p0_k.star.x0,ic p0_k.star.x1,ic p0_k.star.x2,ic p0_k.star.x3,ic p0_k.star.x4,ic p0_k.star.x5,ic p0_k.star.x6,ic p0_k.star.x7,.p (.sl (p0_k.l.map Frag.row)),ic p0_count,ic p0_clock,ic p0_epoch]]) _ p1.l (fun pre4 x4e xs4 v423  hl4 hi4 h ih4=>?_) (fun v423  hi4 h=>?_)  h
        ·rw [qcs] at h
         have am4:=qB hl4 hi4
         refine qa hX ?_
         conv=>whnf
         repeat((first|refine dw ?_|refine bct (qC hl4 hi4) ?_|refine bct (qc am4) ?_|refine bct (andt (qc am4) rfl) ?_|refine qe (qf am4) ?_|refine bct (andt (qc (qd am4)) rfl) ?_|refine qe (qf (qd am4)) ?_);conv=>whnf)
         refine qb hX Tryz.func220 rfl rfl ?_
         conv=>whnf
         repeat((first|refine dw ?_);conv=>whnf)
         revert h
         refine brk (fun c424 h=>?_) (fun c424 h=>?_)
         ·conv=>whnf
          repeat((first|refine dw ?_|refine bct c424 ?_);conv=>whnf)
          exact K _ h
         ·conv=>whnf
          repeat((first|refine dw ?_|refine bcf c424 ?_);conv=>whnf)
          exact ih4 _  (wrL hs4 hl4 hi4) h
        ·rw [qcs] at h
         refine qa hX ?_
         conv=>whnf
         repeat((first|refine dw ?_|refine bcf (qD hi4) ?_);conv=>whnf)
         exact K _ h
     ·replace h:=g
      clear g c
      refine qfW h (fun c g=>?_) (fun c g=>?_)
      ·replace h:=g
       clear g
       obtain rfl:=qdB.1 c
       clear c
       refine qb hX Tryz.func185 rfl rfl ?_
       revert h
       refine bndk fun y525 e526 h=>?_
       conv=>whnf
       repeat((first|refine dw ?_);conv=>whnf)
       refine qcM hX e526 ?_
       conv=>whnf
       repeat((first|refine dw ?_);conv=>whnf)
       revert h
       refine brk (fun c527 h=>?_) (fun c527 h=>?_)
       ·conv=>whnf
        repeat((first|refine dw ?_|refine bct c527 ?_);conv=>whnf)
        exact K _ h
       ·conv=>whnf
        repeat((first|refine dw ?_|refine bcf c527 ?_);conv=>whnf)
        revert h
        refine brk (fun c528 h=>?_) (fun c528 h=>?_)
        ·conv=>whnf
         repeat((first|refine dw ?_|refine bct c528 ?_);conv=>whnf)
         exact K _ h
        ·conv=>whnf
         repeat((first|refine dw ?_|refine bcf c528 ?_);conv=>whnf)
         refine Or.inl ?_
         conv=>whnf
         refine qb hX Tryz.func221 rfl rfl ?_
         conv=>whnf
         repeat((first|refine dw ?_);conv=>whnf)
         refine Or.inl ?_
         conv=>whnf
         refine qb hX Tryz.func242 rfl rfl ?_
         revert h
         refine chkk fun hs5 h=>?_
         conv=>whnf
         repeat((first|refine dw ?_|refine qg (qi _) ?_);conv=>whnf)
         refine qI (fun (v529:Int)=>pad [(0,.one (.p (.sl (p1.l.map Frag.row)))),(0,.one (.fn 220 [0])),(5,iv (p1.l.length:Int)),(0,iv v529)] 10) (fun (v529:Int)=>[.box [ic 5,ic p0_f.op,.p (.v (.string p0_f.text)),ic p0_f.n,.p (.v (.complex .f64 p0_f.re p0_f.im)),.p (.sl (Pred.rows p0_f.kids)),.p (.sl (p0_store.map Item.row)),.p (.sl (p0_out.map Item.row)),ic p0_k.star.x0,ic p0_k.star.x1,ic p0_k.star.x2,ic p0_k.star.x3,ic p0_k.star.x4,ic p0_k.star.x5,ic p0_k.star.x6,ic p0_k.star.x7,.p (.sl (p0_k.l.map Frag.row)),ic p0_count,ic p0_clock,ic p0_epoch]]) _ p1.l (fun pre5 x5e xs5 v529  hl5 hi5 h ih5=>?_) (fun v529  hi5 h=>?_)  h
         ·rw [qct] at h
          have am5:=qB hl5 hi5
          refine qa hX ?_
          conv=>whnf
          repeat((first|refine dw ?_|refine bct (qC hl5 hi5) ?_|refine bct (qc am5) ?_|refine bct (andt (qc am5) rfl) ?_|refine qe (qf am5) ?_|refine bct (andt (qc (qd am5)) rfl) ?_|refine qe (qf (qd am5)) ?_);conv=>whnf)
          refine qb hX Tryz.func220 rfl rfl ?_
          conv=>whnf
          repeat((first|refine dw ?_);conv=>whnf)
          revert h
          refine brk (fun c530 h=>?_) (fun c530 h=>?_)
          ·conv=>whnf
           repeat((first|refine dw ?_|refine bct c530 ?_);conv=>whnf)
           exact K _ h
          ·conv=>whnf
           repeat((first|refine dw ?_|refine bcf c530 ?_);conv=>whnf)
           exact ih5 _  (wrL hs5 hl5 hi5) h
         ·rw [qct] at h
          refine qa hX ?_
          conv=>whnf
          repeat((first|refine dw ?_|refine bcf (qD hi5) ?_);conv=>whnf)
          exact K _ h
      ·replace h:=g
       clear g c
       refine qfW h (fun c g=>?_) (fun c g=>?_)
       ·replace h:=g
        clear g
        obtain rfl:=qdB.1 c
        clear c
        refine qb hX Tryz.func185 rfl rfl ?_
        revert h
        refine bndk fun y631 e632 h=>?_
        conv=>whnf
        repeat((first|refine dw ?_);conv=>whnf)
        refine qcM hX e632 ?_
        conv=>whnf
        repeat((first|refine dw ?_);conv=>whnf)
        revert h
        refine brk (fun c633 h=>?_) (fun c633 h=>?_)
        ·conv=>whnf
         repeat((first|refine dw ?_|refine bct c633 ?_);conv=>whnf)
         exact K _ h
        ·conv=>whnf
         repeat((first|refine dw ?_|refine bcf c633 ?_);conv=>whnf)
         revert h
         refine brk (fun c634 h=>?_) (fun c634 h=>?_)
         ·conv=>whnf
          repeat((first|refine dw ?_|refine bct c634 ?_);conv=>whnf)
          exact K _ h
         ·conv=>whnf
          repeat((first|refine dw ?_|refine bcf c634 ?_);conv=>whnf)
          refine Or.inl ?_
          conv=>whnf
          refine qb hX Tryz.func221 rfl rfl ?_
          conv=>whnf
          repeat((first|refine dw ?_);conv=>whnf)
          refine Or.inl ?_
          conv=>whnf
          refine qb hX Tryz.func242 rfl rfl ?_
          revert h
          refine chkk fun hs6 h=>?_
          conv=>whnf
          repeat((first|refine dw ?_|refine qg (qi _) ?_);conv=>whnf)
          refine qI (fun (v635:Int)=>pad [(0,.one (.p (.sl (p1.l.map Frag.row)))),(0,.one (.fn 220 [0])),(5,iv (p1.l.length:Int)),(0,iv v635)] 10) (fun (v635:Int)=>[.box [ic 6,ic p0_f.op,.p (.v (.string p0_f.text)),ic p0_f.n,.p (.v (.complex .f64 p0_f.re p0_f.im)),.p (.sl (Pred.rows p0_f.kids)),.p (.sl (p0_store.map Item.row)),.p (.sl (p0_out.map Item.row)),ic p0_k.star.x0,ic p0_k.star.x1,ic p0_k.star.x2,ic p0_k.star.x3,ic p0_k.star.x4,ic p0_k.star.x5,ic p0_k.star.x6,ic p0_k.star.x7,.p (.sl (p0_k.l.map Frag.row)),ic p0_count,ic p0_clock,ic p0_epoch]]) _ p1.l (fun pre6 x6e xs6 v635  hl6 hi6 h ih6=>?_) (fun v635  hi6 h=>?_)  h
          ·rw [qcu] at h
           have am6:=qB hl6 hi6
           refine qa hX ?_
           conv=>whnf
           repeat((first|refine dw ?_|refine bct (qC hl6 hi6) ?_|refine bct (qc am6) ?_|refine bct (andt (qc am6) rfl) ?_|refine qe (qf am6) ?_|refine bct (andt (qc (qd am6)) rfl) ?_|refine qe (qf (qd am6)) ?_);conv=>whnf)
           refine qb hX Tryz.func220 rfl rfl ?_
           conv=>whnf
           repeat((first|refine dw ?_);conv=>whnf)
           revert h
           refine brk (fun c636 h=>?_) (fun c636 h=>?_)
           ·conv=>whnf
            repeat((first|refine dw ?_|refine bct c636 ?_);conv=>whnf)
            exact K _ h
           ·conv=>whnf
            repeat((first|refine dw ?_|refine bcf c636 ?_);conv=>whnf)
            exact ih6 _  (wrL hs6 hl6 hi6) h
          ·rw [qcu] at h
           refine qa hX ?_
           conv=>whnf
           repeat((first|refine dw ?_|refine bcf (qD hi6) ?_);conv=>whnf)
           exact K _ h
       ·replace h:=g
        clear g c
        refine qfW h (fun c g=>?_) (fun c g=>?_)
        ·replace h:=g
         clear g
         obtain rfl:=qdB.1 c
         clear c
         refine qb hX Tryz.func185 rfl rfl ?_
         revert h
         refine bndk fun y737 e738 h=>?_
         conv=>whnf
         repeat((first|refine dw ?_);conv=>whnf)
         refine qcM hX e738 ?_
         conv=>whnf
         repeat((first|refine dw ?_);conv=>whnf)
         revert h
         refine brk (fun c739 h=>?_) (fun c739 h=>?_)
         ·conv=>whnf
          repeat((first|refine dw ?_|refine bct c739 ?_);conv=>whnf)
          exact K _ h
         ·conv=>whnf
          repeat((first|refine dw ?_|refine bcf c739 ?_);conv=>whnf)
          revert h
          refine brk (fun c740 h=>?_) (fun c740 h=>?_)
          ·conv=>whnf
           repeat((first|refine dw ?_|refine bct c740 ?_);conv=>whnf)
           exact K _ h
          ·conv=>whnf
           repeat((first|refine dw ?_|refine bcf c740 ?_);conv=>whnf)
           refine Or.inl ?_
           conv=>whnf
           refine qb hX Tryz.func221 rfl rfl ?_
           conv=>whnf
           repeat((first|refine dw ?_);conv=>whnf)
           refine Or.inl ?_
           conv=>whnf
           refine qb hX Tryz.func242 rfl rfl ?_
           revert h
           refine chkk fun hs7 h=>?_
           conv=>whnf
           repeat((first|refine dw ?_|refine qg (qi _) ?_);conv=>whnf)
           refine qI (fun (v741:Int)=>pad [(0,.one (.p (.sl (p1.l.map Frag.row)))),(0,.one (.fn 220 [0])),(5,iv (p1.l.length:Int)),(0,iv v741)] 10) (fun (v741:Int)=>[.box [ic 7,ic p0_f.op,.p (.v (.string p0_f.text)),ic p0_f.n,.p (.v (.complex .f64 p0_f.re p0_f.im)),.p (.sl (Pred.rows p0_f.kids)),.p (.sl (p0_store.map Item.row)),.p (.sl (p0_out.map Item.row)),ic p0_k.star.x0,ic p0_k.star.x1,ic p0_k.star.x2,ic p0_k.star.x3,ic p0_k.star.x4,ic p0_k.star.x5,ic p0_k.star.x6,ic p0_k.star.x7,.p (.sl (p0_k.l.map Frag.row)),ic p0_count,ic p0_clock,ic p0_epoch]]) _ p1.l (fun pre7 x7e xs7 v741  hl7 hi7 h ih7=>?_) (fun v741  hi7 h=>?_)  h
           ·rw [qcv] at h
            have am7:=qB hl7 hi7
            refine qa hX ?_
            conv=>whnf
            repeat((first|refine dw ?_|refine bct (qC hl7 hi7) ?_|refine bct (qc am7) ?_|refine bct (andt (qc am7) rfl) ?_|refine qe (qf am7) ?_|refine bct (andt (qc (qd am7)) rfl) ?_|refine qe (qf (qd am7)) ?_);conv=>whnf)
            refine qb hX Tryz.func220 rfl rfl ?_
            conv=>whnf
            repeat((first|refine dw ?_);conv=>whnf)
            revert h
            refine brk (fun c742 h=>?_) (fun c742 h=>?_)
            ·conv=>whnf
             repeat((first|refine dw ?_|refine bct c742 ?_);conv=>whnf)
             exact K _ h
            ·conv=>whnf
             repeat((first|refine dw ?_|refine bcf c742 ?_);conv=>whnf)
             exact ih7 _  (wrL hs7 hl7 hi7) h
           ·rw [qcv] at h
            refine qa hX ?_
            conv=>whnf
            repeat((first|refine dw ?_|refine bcf (qD hi7) ?_);conv=>whnf)
            exact K _ h
        ·replace h:=g
         clear g c
         refine qfW h (fun c g=>?_) (fun c g=>?_)
         ·replace h:=g
          clear g
          obtain rfl:=qdB.1 c
          clear c
          refine qb hX Tryz.func185 rfl rfl ?_
          revert h
          refine bndk fun y843 e844 h=>?_
          conv=>whnf
          repeat((first|refine dw ?_);conv=>whnf)
          refine qcM hX e844 ?_
          conv=>whnf
          repeat((first|refine dw ?_);conv=>whnf)
          revert h
          refine brk (fun c845 h=>?_) (fun c845 h=>?_)
          ·conv=>whnf
           repeat((first|refine dw ?_|refine bct c845 ?_);conv=>whnf)
           exact K _ h
          ·conv=>whnf
           repeat((first|refine dw ?_|refine bcf c845 ?_);conv=>whnf)
           revert h
           refine brk (fun c846 h=>?_) (fun c846 h=>?_)
           ·conv=>whnf
            repeat((first|refine dw ?_|refine bct c846 ?_);conv=>whnf)
            exact K _ h
           ·conv=>whnf
            repeat((first|refine dw ?_|refine bcf c846 ?_);conv=>whnf)
            refine Or.inl ?_
            conv=>whnf
            refine qb hX Tryz.func221 rfl rfl ?_
            conv=>whnf
            repeat((first|refine dw ?_);conv=>whnf)
            refine Or.inl ?_
            conv=>whnf
            refine qb hX Tryz.func242 rfl rfl ?_
            revert h
            refine chkk fun hs8 h=>?_
            conv=>whnf
            repeat((first|refine dw ?_|refine qg (qi _) ?_);conv=>whnf)
            refine qI (fun (v847:Int)=>pad [(0,.one (.p (.sl (p1.l.map Frag.row)))),(0,.one (.fn 220 [0])),(5,iv (p1.l.length:Int)),(0,iv v847)] 10) (fun (v847:Int)=>[.box [ic 8,ic p0_f.op,.p (.v (.string p0_f.text)),ic p0_f.n,.p (.v (.complex .f64 p0_f.re p0_f.im)),.p (.sl (Pred.rows p0_f.kids)),.p (.sl (p0_store.map Item.row)),.p (.sl (p0_out.map Item.row)),ic p0_k.star.x0,ic p0_k.star.x1,ic p0_k.star.x2,ic p0_k.star.x3,ic p0_k.star.x4,ic p0_k.star.x5,ic p0_k.star.x6,ic p0_k.star.x7,.p (.sl (p0_k.l.map Frag.row)),ic p0_count,ic p0_clock,ic p0_epoch]]) _ p1.l (fun pre8 x8e xs8 v847  hl8 hi8 h ih8=>?_) (fun v847  hi8 h=>?_)  h
            ·rw [qcw] at h
             have am8:=qB hl8 hi8
             refine qa hX ?_
             conv=>whnf
             repeat((first|refine dw ?_|refine bct (qC hl8 hi8) ?_|refine bct (qc am8) ?_|refine bct (andt (qc am8) rfl) ?_|refine qe (qf am8) ?_|refine bct (andt (qc (qd am8)) rfl) ?_|refine qe (qf (qd am8)) ?_);conv=>whnf)
             refine qb hX Tryz.func220 rfl rfl ?_
             conv=>whnf
             repeat((first|refine dw ?_);conv=>whnf)
             revert h
             refine brk (fun c848 h=>?_) (fun c848 h=>?_)
             ·conv=>whnf
              repeat((first|refine dw ?_|refine bct c848 ?_);conv=>whnf)
              exact K _ h
             ·conv=>whnf
              repeat((first|refine dw ?_|refine bcf c848 ?_);conv=>whnf)
              exact ih8 _  (wrL hs8 hl8 hi8) h
            ·rw [qcw] at h
             refine qa hX ?_
             conv=>whnf
             repeat((first|refine dw ?_|refine bcf (qD hi8) ?_);conv=>whnf)
             exact K _ h
         ·replace h:=g
          clear g c
          refine qb hX Tryz.func185 rfl rfl ?_
          conv=>whnf
          repeat((first|refine dw ?_);conv=>whnf)
          revert h
          refine brk (fun c949 h=>?_) (fun c949 h=>?_)
          ·conv=>whnf
           repeat((first|refine dw ?_|refine bct c949 ?_);conv=>whnf)
           exact K _ h
          ·conv=>whnf
           repeat((first|refine dw ?_|refine bcf c949 ?_);conv=>whnf)
           revert h
           refine brk (fun c950 h=>?_) (fun c950 h=>?_)
           ·conv=>whnf
            repeat((first|refine dw ?_|refine bct c950 ?_);conv=>whnf)
            exact K _ h
           ·revert h
            refine bndk fun y951 e952 h=>?_
            conv=>whnf
            repeat((first|refine dw ?_|refine bcf c950 ?_);conv=>whnf)
            refine qcM hX e952 ?_
            conv=>whnf
            repeat((first|refine dw ?_|refine bcf c950 ?_);conv=>whnf)
            revert h
            refine brk (fun c953 h=>?_) (fun c953 h=>?_)
            ·conv=>whnf
             repeat((first|refine dw ?_|refine bct c953 ?_);conv=>whnf)
             exact K _ h
            ·exact qkK h
theorem qmE  {p0:State} {p1:Msg} {r:Bool} (h:qd8 p0 p1=some r) (hQ:Q (.one (.p (.v (.bool r)))) []):X (.call 125 [.agg (State.cs p0),.agg (Msg.cs p1)] [] Q):=by
  have K:=fun a (e:some a=some r)=>qm (f:=fun y=>.one (.p (.v (.bool y)))) (g:=fun y=>[]) e hQ
  unfold qd8 at h
  refine qb hX Tryz.func125 rfl rfl ?_
  conv=>whnf
  repeat((first|refine dw ?_);conv=>whnf)
  revert h
  refine brk (fun c1 h=>?_) (fun c1 h=>?_)
  ·conv=>whnf
   repeat((first|refine dw ?_|refine bct c1 ?_);conv=>whnf)
   exact K _ h
  ·conv=>whnf
   repeat((first|refine dw ?_|refine bcf c1 ?_);conv=>whnf)
   revert h
   refine brk (fun c2 h=>?_) (fun c2 h=>?_)
   ·conv=>whnf
    repeat((first|refine dw ?_|refine bct c2 ?_);conv=>whnf)
    exact K _ h
   ·conv=>whnf
    repeat((first|refine dw ?_|refine bcf c2 ?_);conv=>whnf)
    revert h
    refine brk (fun c3 h=>?_) (fun c3 h=>?_)
    ·conv=>whnf
     repeat((first|refine dw ?_|refine bct c3 ?_|refine qg (qi _) ?_);conv=>whnf)
     exact K _ h
    ·conv=>whnf
     repeat((first|refine dw ?_|refine bcf c3 ?_|refine qg (qi _) ?_);conv=>whnf)
     revert h
     refine brk (fun c4 h=>?_) (fun c4 h=>?_)
     ·conv=>whnf
      repeat((first|refine dw ?_|refine bct c4 ?_);conv=>whnf)
      refine qb hX Tryz.func184 rfl rfl ?_
      conv=>whnf
      repeat((first|refine dw ?_);conv=>whnf)
      refine qb hX Tryz.func219 rfl rfl ?_
      revert h
      refine chkk fun hs1 h=>?_
      conv=>whnf
      repeat((first|refine dw ?_|refine qg (qi _) ?_);conv=>whnf)
      refine qI (fun (v5:Int)=>pad [(0,.one (.p (.sl (p1.l.map Entry.row)))),(0,.one (.fn 183 [])),(5,iv (p1.l.length:Int)),(0,iv v5)] 10) (fun (v5:Int)=>[]) _ p1.l (fun pre1 x1e xs1 v5  hl1 hi1 h ih1=>?_) (fun v5  hi1 h=>?_)  h
      ·rw [qbz] at h
       have am1:=qB hl1 hi1
       refine qa hX ?_
       conv=>whnf
       repeat((first|refine dw ?_|refine bct (qC hl1 hi1) ?_|refine bct (qc am1) ?_|refine bct (andt (qc am1) rfl) ?_|refine qe (qf am1) ?_|refine bct (andt (qc (qd am1)) rfl) ?_|refine qe (qf (qd am1)) ?_);conv=>whnf)
       refine qb hX Tryz.func183 rfl rfl ?_
       conv=>whnf
       repeat((first|refine dw ?_);conv=>whnf)
       revert h
       refine brk (fun c6 h=>?_) (fun c6 h=>?_)
       ·conv=>whnf
        repeat((first|refine dw ?_|refine bct c6 ?_|refine bct c4 ?_);conv=>whnf)
        revert h
        refine brk (fun c7 h=>?_) (fun c7 h=>?_)
        ·revert h
         refine bndk fun y8 e9 h=>?_
         conv=>whnf
         repeat((first|refine dw ?_|refine bct c7 ?_);conv=>whnf)
         refine qi0 hX e9 ?_
         conv=>whnf
         repeat((first|refine dw ?_|refine bct c7 ?_);conv=>whnf)
         exact K _ h
        ·conv=>whnf
         repeat((first|refine dw ?_|refine bcf c7 ?_);conv=>whnf)
         exact K _ h
       ·conv=>whnf
        repeat((first|refine dw ?_|refine bcf c6 ?_);conv=>whnf)
        exact ih1 _  (wrL hs1 hl1 hi1) h
      ·rw [qbz] at h
       refine qa hX ?_
       revert h
       refine bndk fun y10 e11 h=>?_
       conv=>whnf
       repeat((first|refine dw ?_|refine bcf (qD hi1) ?_|refine bct c4 ?_);conv=>whnf)
       refine qi0 hX e11 ?_
       conv=>whnf
       repeat((first|refine dw ?_);conv=>whnf)
       exact K _ h
     ·conv=>whnf
      repeat((first|refine dw ?_|refine bcf c4 ?_);conv=>whnf)
      exact K _ h
theorem qi1  {p0:State} {p1:Entry} {r:State} (h:qdP p0 p1=some r) (hQ:Q (.agg (State.cs r)) []):X (.call 130 [.agg (State.cs p0),.agg (Entry.cs p1)] [] Q):=by
 unfold qdP at h
 refine qJ hX ?_
 conv=>whnf
 refine qb hX Tryz.func130 rfl rfl ?_
 revert h
 refine bndk fun y1 e2 h=>?_
 conv=>whnf
 repeat((first|refine dw ?_);conv=>whnf)
 refine qnY hX e2 ?_
 conv=>whnf
 repeat((first|refine dw ?_);conv=>whnf)
 exact qm (f:=fun y=>.agg (State.cs y)) (g:=fun y=>[]) h hQ
theorem qqP  {p0:Sess} {r:Bool} (h:qfi p0=some r) (hQ:Q (.one (.p (.v (.bool r)))) []):X (.call 129 [.agg (Sess.cs p0)] [] Q):=by
  have K:=fun a (e:some a=some r)=>qm (f:=fun y=>.one (.p (.v (.bool y)))) (g:=fun y=>[]) e hQ
  unfold qfi at h
  refine qb hX Tryz.func129 rfl rfl ?_
  conv=>whnf
  repeat((first|refine dw ?_);conv=>whnf)
  refine qhr (fun (v1:Int)=>pad [(1,.one (.ptr 0 0)),(5,iv p0.n),(0,iv v1)] 12) (fun (v1:Int)=>[.box (Sess.cs p0)]) _ (fun _ h=>?_) (fun fl1 v1 h ih1=>?_) qdC 0 h
  ·rw [qdQ] at h
   cases h
  ·rw [qdQ] at h
   refine qa hX ?_
   conv=>whnf
   repeat((first|refine dw ?_);conv=>whnf)
   revert h
   refine brk (fun c2 h=>?_) (fun c2 h=>?_)
   ·revert h
    refine bndk fun y3 e4 h=>?_
    conv=>whnf
    repeat((first|refine dw ?_|refine bct c2 ?_);conv=>whnf)
    refine qbI hX e4 ?_
    conv=>whnf
    repeat((first|refine dw ?_);conv=>whnf)
    revert h
    refine brk (fun c5 h=>?_) (fun c5 h=>?_)
    ·conv=>whnf
     repeat((first|refine dw ?_|refine bct c5 ?_);conv=>whnf)
     exact K _ h
    ·conv=>whnf
     repeat((first|refine dw ?_|refine bcf c5 ?_);conv=>whnf)
     exact ih1 (wr .i64 (v1 + 1)) h
   ·conv=>whnf
    repeat((first|refine dw ?_|refine bcf c2 ?_);conv=>whnf)
    exact K _ h
theorem qdo  {p0:State} {p1:Sess} {p2:Msg} {r:(State × Sess) × Option Int} (h:qbZ p0 p1 p2=some r) (hQ:Q (.tup [.agg (State.cs r.1.1),.agg (Sess.cs r.1.2),errA 159 r.2]) []):X (.call 58 [.agg (State.cs p0),.agg (Sess.cs p1),.agg (Msg.cs p2)] [] Q):=by
  have K:=fun a (e:some a=some r)=>qm (f:=fun y=>.tup [.agg (State.cs y.1.1),.agg (Sess.cs y.1.2),errA 159 y.2]) (g:=fun y=>[]) e hQ
  unfold qbZ at h
  refine qJ hX ?_
  conv=>whnf
  refine qb hX Tryz.func58 rfl rfl ?_
  replace h:=qo h
  obtain ⟨y1,e2,h⟩:=h
  conv=>whnf
  repeat((first|refine dw ?_);conv=>whnf)
  refine qfE hX e2 ?_
  conv=>whnf
  repeat((first|refine dw ?_);conv=>whnf)
  refine qb hX Tryz.func123 rfl rfl ?_
  replace h:=qo h
  obtain ⟨y3,e4,h⟩:=h
  conv=>whnf
  repeat((first|refine dw ?_);conv=>whnf)
  refine qfx (f:=irw) (k:=1) (fun _=>rfl) (by decide) hX e4 ?_
  replace h:=qo h
  obtain ⟨y5,e6,h⟩:=h
  conv=>whnf
  repeat((first|refine dw ?_);conv=>whnf)
  refine qeV hX e6 ?_
  replace h:=qo h
  obtain ⟨y7,e8,h⟩:=h
  conv=>whnf
  repeat((first|refine dw ?_);conv=>whnf)
  refine qfx (f:=Entry.row) (k:=11) (fun _=>rfl) (by decide) hX e8 ?_
  replace h:=qo h
  obtain ⟨y9,e10,h⟩:=h
  conv=>whnf
  repeat((first|refine dw ?_);conv=>whnf)
  refine Or.inl ?_
  conv=>whnf
  refine qsW hX e10 ?_
  conv=>whnf
  repeat((first|refine dw ?_);conv=>whnf)
  refine qj h (fun c11 g=>?_) (fun c11 g=>?_)
  ·replace h:=g
   clear g
   conv=>whnf
   repeat((first|refine dw ?_|refine bct c11 ?_);conv=>whnf)
   exact K _ h
  ·replace h:=g
   clear g
   conv=>whnf
   repeat((first|refine dw ?_|refine bcf c11 ?_);conv=>whnf)
   refine qj h (fun c12 g=>?_) (fun c12 g=>?_)
   ·replace h:=g
    clear g
    conv=>whnf
    repeat((first|refine dw ?_|refine bct c12 ?_);conv=>whnf)
    exact K _ h
   ·replace h:=g
    clear g
    conv=>whnf
    repeat((first|refine dw ?_|refine bcf c12 ?_);conv=>whnf)
    refine qj h (fun c13 g=>?_) (fun c13 g=>?_)
    ·replace h:=g
     clear g
     conv=>whnf
     repeat((first|refine dw ?_|refine bct c13 ?_);conv=>whnf)
     exact K _ h
    ·replace h:=g
     clear g
     replace h:=qo h
     obtain ⟨y14,e15,h⟩:=h
     conv=>whnf
     repeat((first|refine dw ?_|refine bcf c13 ?_);conv=>whnf)
     refine qmE hX e15 ?_
     conv=>whnf
     repeat((first|refine dw ?_);conv=>whnf)
     refine qj h (fun c16 g=>?_) (fun c16 g=>?_)
     ·replace h:=g
      clear g
      conv=>whnf
      repeat((first|refine dw ?_|refine bct c16 ?_);conv=>whnf)
      exact K _ h
     ·replace h:=g
      clear g
      apply qz9 (X:=X) (r:=r) (fun (v52:State) (v38:Bool) (v39:Bool) (v40:Int) (v53:Know) (v50:List Int) (v51:List Entry)=>pad [(3,.one (.ptr 0 0)),(0,.one (.ptr 1 0)),(1,.one (.ptr 4 0)),(0,.one (.ptr 9 0))] 99) (fun (v52:State) (v38:Bool) (v39:Bool) (v40:Int) (v53:Know) (v50:List Int) (v51:List Entry)=>[.box (State.cs v52),.box [ic p1.sid,ic p1.with_,ic p1.epoch,ic p2.turn,.own 2,.p (.v (.bool v38)),.p (.v (.bool v39)),.p (.v (.bool p1.over)),ic v40,ic v53.star.x0,ic v53.star.x1,ic v53.star.x2,ic v53.star.x3,ic v53.star.x4,ic v53.star.x5,ic v53.star.x6,ic v53.star.x7,.p (.sl (v53.l.map Frag.row)),.own 3],.rows 1 (v50.map irw),.rows 11 (v51.map Entry.row),.box [ic 0,ic 0,.p (.v (.string ⟨#[]⟩)),ic 0,.p (.v (.complex .f64 0 0)),.own 5,.own 6,.own 7,ic 0,ic 0,ic 0,ic 0,ic 0,ic 0,ic 0,ic 0,.own 8,ic 0,ic 0,ic 0],.rows 0 [],.rows 0 [],.rows 0 [],.rows 0 [],.box [ic 0,ic 0,ic 0,ic 0,.own 10,.p (.v (.bool false)),.p (.v (.bool false)),.p (.v (.bool false)),ic 0,ic 0,ic 0,ic 0,ic 0,ic 0,ic 0,ic 0,ic 0,.own 11,.own 12],.rows 0 [],.rows 0 [],.rows 0 []])
      ·intro tl1
       conv=>whnf
       repeat((first|refine dw ?_|refine bcf c16 ?_);conv=>whnf)
       refine qj h (fun c86 g=>?_) (fun c86 g=>?_)
       ·replace h:=g
        clear g
        conv=>whnf
        repeat((first|refine dw ?_|refine bct c86 ?_);conv=>whnf)
        refine Or.inr (Or.inr ?_)
        conv=>whnf
        refine qb hX Tryz.func126 rfl rfl ?_
        replace h:=qq h
        obtain ⟨hs3,h⟩:=h
        conv=>whnf
        repeat((first|refine dw ?_|refine qg (qi _) ?_);conv=>whnf)
        refine qfe (fun (v87:Int) (v110:State) (v109:Bool)=>pad [(3,.one (.ptr 2 0)),(0,.one (.ptr 3 0)),(0,.one (.ptr 4 0)),(0,.one (.ptr 5 0)),(0,.one (.ptr 10 0)),(7,.one (.p (.sl (p2.l.map Entry.row)))),(0,iv (p2.l.length:Int)),(0,iv v87)] 40) (fun (v87:Int) (v110:State) (v109:Bool)=>[.rows 1 (y3.map irw),.rows 11 (y7.map Entry.row),.box (State.cs v110),.box [ic p1.sid,ic p1.with_,ic p1.epoch,ic p2.turn,.own 0,.p (.v (.bool v109)),.p (.v (.bool p1.told)),.p (.v (.bool p1.over)),ic p1.n,ic y5.star.x0,ic y5.star.x1,ic y5.star.x2,ic y5.star.x3,ic y5.star.x4,ic y5.star.x5,ic y5.star.x6,ic y5.star.x7,.p (.sl (y5.l.map Frag.row)),.own 1],.box (Msg.cs p2),.box [ic 0,ic 0,.p (.v (.string ⟨#[]⟩)),ic 0,.p (.v (.complex .f64 0 0)),.own 6,.own 7,.own 8,ic 0,ic 0,ic 0,ic 0,ic 0,ic 0,ic 0,ic 0,.own 9,ic 0,ic 0,ic 0],.rows 0 [],.rows 0 [],.rows 0 [],.rows 0 [],.box [ic 0,ic 0,ic 0,ic 0,.own 11,.p (.v (.bool false)),.p (.v (.bool false)),.p (.v (.bool false)),ic 0,ic 0,ic 0,ic 0,ic 0,ic 0,ic 0,ic 0,ic 0,.own 12,.own 13],.rows 0 [],.rows 0 [],.rows 0 []]) _ p2.l (fun pre3 x3e xs3 v87 v110 v109 hl3 hi3 h ih3=>?_) (fun v87 v110 v109 hi3 h=>?_) y1 p1.bad h
        ·rw [qbB] at h
         have am3:=qB hl3 hi3
         refine qa hX ?_
         conv=>whnf
         repeat((first|refine dw ?_|refine bct (qC hl3 hi3) ?_|refine bct (qc am3) ?_|refine bct (andt (qc am3) rfl) ?_|refine qe (qf am3) ?_|refine bct (andt (qc (qd am3)) rfl) ?_|refine qe (qf (qd am3)) ?_);conv=>whnf)
         refine qj h (fun c111 g=>?_) (fun c111 g=>?_)
         ·replace h:=g
          clear g
          replace h:=qo h
          obtain ⟨y112,e113,h⟩:=h
          conv=>whnf
          repeat((first|refine dw ?_|refine bct c111 ?_);conv=>whnf)
          refine qi1 hX e113 ?_
          conv=>whnf
          repeat((first|refine dw ?_);conv=>whnf)
          exact ih3 _ y112 v109 (wrL hs3 hl3 hi3) h
         ·replace h:=g
          clear g
          refine qma h (fun y114 n116 e115 g=>?_) (fun y114 e115 g=>?_)
          ·replace h:=g
           clear g
           conv=>whnf
           repeat((first|refine dw ?_|refine bcf c111 ?_);conv=>whnf)
           refine qiX hX e115 ?_
           conv=>whnf
           repeat((first|refine dw ?_);conv=>whnf)
           exact ih3 _ v110 true (wrL hs3 hl3 hi3) h
          ·replace h:=g
           clear g
           conv=>whnf
           repeat((first|refine dw ?_|refine bcf c111 ?_);conv=>whnf)
           refine qiX hX e115 ?_
           conv=>whnf
           repeat((first|refine dw ?_);conv=>whnf)
           exact ih3 _ y114 v109 (wrL hs3 hl3 hi3) h
        ·rw [qbB] at h
         refine qa hX ?_
         replace h:=qo h
         obtain ⟨y117,e118,h⟩:=h
         conv=>whnf
         repeat((first|refine dw ?_|refine bcf (qD hi3) ?_);conv=>whnf)
         refine Or.inl ?_
         conv=>whnf
         refine qbI hX e118 ?_
         conv=>whnf
         repeat((first|refine dw ?_);conv=>whnf)
         refine qj h (fun c119 g=>?_) (fun c119 g=>?_)
         ·replace h:=g
          clear g
          replace h:=qo h
          obtain ⟨y120,e121,h⟩:=h
          conv=>whnf
          repeat((first|refine dw ?_|refine bct c119 ?_);conv=>whnf)
          refine Or.inr (Or.inr ?_)
          conv=>whnf
          refine qAd hX (l:=y3) (i:=y117.1) (x:=p2.n) e121 ?_
          conv=>whnf
          repeat((first|refine dw ?_);conv=>whnf)
          exact tl1.h v110 v109 p1.told p1.n y5 y120 y7 h
         ·replace h:=g
          clear g
          conv=>whnf
          repeat((first|refine dw ?_|refine bcf c119 ?_);conv=>whnf)
          exact tl1.h v110 v109 p1.told p1.n y5 y3 y7 h
       ·replace h:=g
        clear g
        conv=>whnf
        repeat((first|refine dw ?_|refine bcf c86 ?_);conv=>whnf)
        refine qj h (fun c122 g=>?_) (fun c122 g=>?_)
        ·replace h:=g
         clear g
         replace h:=qo h
         obtain ⟨y123,e124,h⟩:=h
         conv=>whnf
         repeat((first|refine dw ?_|refine bct c122 ?_);conv=>whnf)
         refine qeV hX e124 ?_
         replace h:=qo h
         obtain ⟨y125,e126,h⟩:=h
         conv=>whnf
         repeat((first|refine dw ?_);conv=>whnf)
         refine qfx (f:=Entry.row) (k:=11) (fun _=>rfl) (by decide) hX e126 ?_
         conv=>whnf
         repeat((first|refine dw ?_);conv=>whnf)
         exact tl1.h y1 p1.bad true p2.n y123 y3 y125 h
        ·replace h:=g
         clear g
         conv=>whnf
         repeat((first|refine dw ?_|refine bcf c122 ?_);conv=>whnf)
         exact tl1.h y1 p1.bad p1.told p1.n y5 y3 y7 h
      ·intro v52 v38 v39 v40 v53 v50 v51 h
       unfold qbA at h
       refine qt hX ?_
       conv=>whnf
       repeat((first|refine dw ?_);conv=>whnf)
       refine qj h (fun c54 g=>?_) (fun c54 g=>?_)
       ·replace h:=g
        clear g
        conv=>whnf
        repeat((first|refine dw ?_|refine bct c54 ?_);conv=>whnf)
        exact K _ h
       ·replace h:=g
        clear g
        conv=>whnf
        repeat((first|refine dw ?_|refine bcf c54 ?_);conv=>whnf)
        refine qj h (fun c55 g=>?_) (fun c55 g=>?_)
        ·replace h:=g
         clear g
         conv=>whnf
         repeat((first|refine dw ?_|refine bct c55 ?_);conv=>whnf)
         exact K _ h
        ·replace h:=g
         clear g
         replace h:=qo h
         obtain ⟨y56,e57,h⟩:=h
         conv=>whnf
         repeat((first|refine dw ?_|refine bcf c55 ?_);conv=>whnf)
         refine Or.inl ?_
         conv=>whnf
         refine qqP hX e57 ?_
         conv=>whnf
         repeat((first|refine dw ?_|refine bcf c55 ?_);conv=>whnf)
         refine qj h (fun c58 g=>?_) (fun c58 g=>?_)
         ·replace h:=g
          clear g
          conv=>whnf
          repeat((first|refine dw ?_|refine bct c58 ?_);conv=>whnf)
          exact K _ h
         ·replace h:=g
          clear g
          replace h:=qq h
          obtain ⟨hs2,h⟩:=h
          conv=>whnf
          repeat((first|refine dw ?_|refine bcf c58 ?_|refine qg (qi _) ?_);conv=>whnf)
          refine qO (fun (v59:Int) (v81:State)=>pad [(3,.one (.ptr 0 0)),(0,.one (.ptr 1 0)),(1,.one (.ptr 4 0)),(0,.one (.ptr 9 0)),(80,.one (.own 3)),(0,iv (v51.length:Int)),(0,iv v59)] 16) (fun (v59:Int) (v81:State)=>[.box (State.cs v81),.box [ic p1.sid,ic p1.with_,ic p1.epoch,ic p2.turn,.own 2,.p (.v (.bool v38)),.p (.v (.bool v39)),.p (.v (.bool p1.over)),ic v40,ic v53.star.x0,ic v53.star.x1,ic v53.star.x2,ic v53.star.x3,ic v53.star.x4,ic v53.star.x5,ic v53.star.x6,ic v53.star.x7,.p (.sl (v53.l.map Frag.row)),.own 3],.rows 1 (v50.map irw),.rows 11 (v51.map Entry.row),.box [ic 0,ic 0,.p (.v (.string ⟨#[]⟩)),ic 0,.p (.v (.complex .f64 0 0)),.own 5,.own 6,.own 7,ic 0,ic 0,ic 0,ic 0,ic 0,ic 0,ic 0,ic 0,.own 8,ic 0,ic 0,ic 0],.rows 0 [],.rows 0 [],.rows 0 [],.rows 0 [],.box [ic 0,ic 0,ic 0,ic 0,.own 10,.p (.v (.bool false)),.p (.v (.bool false)),.p (.v (.bool false)),ic 0,ic 0,ic 0,ic 0,ic 0,ic 0,ic 0,ic 0,ic 0,.own 11,.own 12],.rows 0 [],.rows 0 [],.rows 0 []]) _ v51 (fun pre2 x2e xs2 v59 v81 hl2 hi2 h ih2=>?_) (fun v59 v81 hi2 h=>?_) v52 h
          ·rw [qdh] at h
           have am2:=qB hl2 hi2
           refine qa hX ?_
           replace h:=qo h
           obtain ⟨y82,e83,h⟩:=h
           conv=>whnf
           repeat((first|refine dw ?_|refine bct (qC hl2 hi2) ?_|refine bct (qc am2) ?_|refine bct (andt (qc am2) rfl) ?_|refine qe (qf am2) ?_|refine bct (andt (qc (qd am2)) rfl) ?_|refine qe (qf (qd am2)) ?_);conv=>whnf)
           refine qi1 hX e83 ?_
           conv=>whnf
           repeat((first|refine dw ?_);conv=>whnf)
           exact ih2 _ y82 (wrL hs2 hl2 hi2) h
          ·rw [qdh] at h
           refine qa hX ?_
           replace h:=qo h
           obtain ⟨y84,e85,h⟩:=h
           conv=>whnf
           repeat((first|refine dw ?_|refine bcf (qD hi2) ?_);conv=>whnf)
           refine qnX hX e85 ?_
           conv=>whnf
           repeat((first|refine dw ?_);conv=>whnf)
           exact K _ h
end
end Go.Proofs.YtidkmoohgadjkaaGreat
set_option maxHeartbeats 0
namespace Go.Proofs.YtidkmoohgadjkaaGreat
open Go E
noncomputable section
open Pred
def qcx (p0:State) (p1:State):Option (Bool) :=
 (br (!eqI p0.r p1.r)
  (some false)
  (br (!eqI p0.count p1.count)
   (some false)
   (br (!eqI p0.clock p1.clock)
    (some false)
    (br (!eqI p0.epoch p1.epoch)
     (some false)
     (bnd (qbg p0.f p1.f) fun y5 =>
      (bnd (qaL p0.store p1.store) fun y7 =>
       (bnd (qaL p0.out p1.out) fun y9 =>
        (bnd (qaN p0.k p1.k) fun y11 =>
         (br y5
          (br y7
           (br y9
            (some y11)
            (some false))
           (some false))
          (some false))))))))))
def qcZ (p0:State) (p1:ByteArray):Option (Item × Bool) :=
 (bnd (qdl p0.store p0.out) fun y1 =>
  (bnd (qbq y1 p1) fun y3 =>
   some (y3.1,y3.2)))
def qd9 (p0:State) (p1:Item) (p2:Bool):Option (State) :=
 (bnd (qci p0.store p1.id) fun y1 =>
  (bnd (qci p0.out p1.id) fun y3 =>
   (bnd (qbp p0.f p1) fun y5 =>
    (br y5
     (bnd (qcj y1 p1) fun y8 =>
      some (State.mk p0.r p0.f y8 y3 p0.k p0.count p0.clock p0.epoch))
     (br p2
      (bnd (qcj y3 p1) fun y11 =>
       some (State.mk p0.r p0.f y1 y11 p0.k p0.count p0.clock p0.epoch))
      (some (State.mk p0.r p0.f y1 y3 p0.k p0.count p0.clock p0.epoch)))))))
def qdz (p0:State) (p1:Item) (v8:Bool) (y11:Know) (v13:Int):Option (State × Int) :=
 (br v8
  (some ((State.mk p0.r p0.f p0.store p0.out y11 p0.count v13 p0.epoch),0))
  (bnd (qd9 (State.mk p0.r p0.f p0.store p0.out y11 p0.count v13 p0.epoch) p1 false) fun y15 =>
   some (y15,0)))
def qbC (p0:State) (p1:Item) (v8:Bool):Option (State × Int) :=
 (bnd (qch p0.k p1.id (Ver.mk p1.vr p1.vc)) fun y11 =>
  (br (ltI p0.clock p1.stamp)
   (qdz p0 p1 v8 y11 p1.stamp)
   (qdz p0 p1 v8 y11 p0.clock)))
def qcN (p0:State) (p1:Item) (y6:Item × Bool) (v8:Bool):Option (State × Int) :=
 (bnd (qbp p0.f p1) fun y9 =>
  (br (!v8)
   (br y9
    (br (!y6.2)
     (br (eqI (wr .i64 ((p0.store.length:Int) + (p0.out.length:Int))) 40)
      (some (p0,4))
      (qbC p0 p1 v8 ))
     (qbC p0 p1 v8 ))
    (qbC p0 p1 v8 ))
   (qbC p0 p1 v8 )))
def qdA (p0:State) (p1:Item):Option (State × Int) :=
 (bnd (qb6 p0.k p1.id (Ver.mk p1.vr p1.vc)) fun y3 =>
  (br y3
   (some (p0,0))
   (bnd (qcZ p0 p1.id) fun y6 =>
    (br y6.2
     (bnd (qan p1 y6.1) fun y23 =>
      (br y23
       (qcN p0 p1 y6 false)
       (qcN p0 p1 y6 y6.2)))
     (qcN p0 p1 y6 y6.2)))))
def qea (p0:State) (p1:Item):Option (State × Int) :=
 (bnd (qb5 p1) fun y1 =>
  (br (!y1)
   (some (p0,1))
   (br (eqI p1.vr p0.r)
    (br (ltI p0.count p1.vc)
     (some (p0,1))
     (qdA p0 p1 ))
    (qdA p0 p1 ))))
def qdp (p0:State) (p1:ByteArray) (p2:Ver) (p3:Ver):Option (State) :=
 (bnd (qbq p0.store p1) fun y1 =>
  (br (!y1.2)
   (some p0)
   (br (!(andB (eqI y1.1.vr p2.r) (andB (eqI y1.1.vc p2.c) true)))
    (some p0)
    (bnd (qci p0.store p1) fun y5 =>
     (bnd (qdL p3) fun y7 =>
      (br y7
       (br (!eqI p3.r p0.r)
        (bnd (qch p0.k p1 p3) fun y11 =>
         some (State.mk p0.r p0.f y5 p0.out y11 p0.count p0.clock p0.epoch))
        (br (leI p3.c p0.count)
         (bnd (qch p0.k p1 p3) fun y14 =>
          some (State.mk p0.r p0.f y5 p0.out y14 p0.count p0.clock p0.epoch))
         (some (State.mk p0.r p0.f y5 p0.out p0.k p0.count p0.clock p0.epoch))))
       (some (State.mk p0.r p0.f y5 p0.out p0.k p0.count p0.clock p0.epoch))))))))
variable {X:Task→Prop} (hX:qk X) {Q:A→List Blk→Prop}
include hX
theorem qhR  {p0:State} {p1:State} {r:Bool} (h:qcx p0 p1=some r) (hQ:Q (.one (.p (.v (.bool r)))) []):X (.call 35 [.agg (State.cs p0),.agg (State.cs p1)] [] Q):=by
  have K:=fun a (e:some a=some r)=>qm (f:=fun y=>.one (.p (.v (.bool y)))) (g:=fun y=>[]) e hQ
  unfold qcx at h
  refine qb hX Tryz.func35 rfl rfl ?_
  conv=>whnf
  repeat((first|refine dw ?_);conv=>whnf)
  revert h
  refine brk (fun c1 h=>?_) (fun c1 h=>?_)
  ·conv=>whnf
   repeat((first|refine dw ?_|refine bct c1 ?_);conv=>whnf)
   exact K _ h
  ·conv=>whnf
   repeat((first|refine dw ?_|refine bcf c1 ?_);conv=>whnf)
   revert h
   refine brk (fun c2 h=>?_) (fun c2 h=>?_)
   ·conv=>whnf
    repeat((first|refine dw ?_|refine bct c2 ?_);conv=>whnf)
    exact K _ h
   ·conv=>whnf
    repeat((first|refine dw ?_|refine bcf c2 ?_);conv=>whnf)
    revert h
    refine brk (fun c3 h=>?_) (fun c3 h=>?_)
    ·conv=>whnf
     repeat((first|refine dw ?_|refine bct c3 ?_);conv=>whnf)
     exact K _ h
    ·conv=>whnf
     repeat((first|refine dw ?_|refine bcf c3 ?_);conv=>whnf)
     revert h
     refine brk (fun c4 h=>?_) (fun c4 h=>?_)
     ·conv=>whnf
      repeat((first|refine dw ?_|refine bct c4 ?_);conv=>whnf)
      exact K _ h
     ·revert h
      refine bndk fun y5 e6 h=>?_
      conv=>whnf
      repeat((first|refine dw ?_|refine bcf c4 ?_);conv=>whnf)
      refine qhL hX e6 ?_
      revert h
      refine bndk fun y7 e8 h=>?_
      conv=>whnf
      repeat((first|refine dw ?_);conv=>whnf)
      refine qfH hX e8 ?_
      revert h
      refine bndk fun y9 e10 h=>?_
      conv=>whnf
      repeat((first|refine dw ?_);conv=>whnf)
      refine qfH hX e10 ?_
      revert h
      refine bndk fun y11 e12 h=>?_
      conv=>whnf
      repeat((first|refine dw ?_);conv=>whnf)
      refine qem hX e12 ?_
      conv=>whnf
      repeat((first|refine dw ?_);conv=>whnf)
      revert h
      refine brk (fun c13 h=>?_) (fun c13 h=>?_)
      ·conv=>whnf
       repeat((first|refine dw ?_|refine bct c13 ?_);conv=>whnf)
       revert h
       refine brk (fun c14 h=>?_) (fun c14 h=>?_)
       ·conv=>whnf
        repeat((first|refine dw ?_|refine bct c14 ?_);conv=>whnf)
        revert h
        refine brk (fun c15 h=>?_) (fun c15 h=>?_)
        ·conv=>whnf
         repeat((first|refine dw ?_|refine bct c15 ?_);conv=>whnf)
         exact K _ h
        ·conv=>whnf
         repeat((first|refine dw ?_|refine bcf c15 ?_);conv=>whnf)
         exact K _ h
       ·conv=>whnf
        repeat((first|refine dw ?_|refine bcf c14 ?_);conv=>whnf)
        exact K _ h
      ·conv=>whnf
       repeat((first|refine dw ?_|refine bcf c13 ?_);conv=>whnf)
       exact K _ h
theorem qjw  {p0:State} {p1:ByteArray} {r:Item × Bool} (h:qcZ p0 p1=some r) (hQ:Q (.tup [.agg (Item.cs r.1),.one (.p (.v (.bool r.2)))]) []):X (.call 41 [.agg (State.cs p0),.one (.p (.v (.string p1)))] [] Q):=by
 unfold qcZ at h
 refine qb hX Tryz.func41 rfl rfl ?_
 revert h
 refine bndk fun y1 e2 h=>?_
 conv=>whnf
 repeat((first|refine dw ?_);conv=>whnf)
 refine qhM hX e2 ?_
 revert h
 refine bndk fun y3 e4 h=>?_
 conv=>whnf
 repeat((first|refine dw ?_);conv=>whnf)
 refine qeA hX e4 ?_
 conv=>whnf
 repeat((first|refine dw ?_);conv=>whnf)
 exact qm (f:=fun y=>.tup [.agg (Item.cs y.1),.one (.p (.v (.bool y.2)))]) (g:=fun y=>[]) h hQ
theorem qmF  {p0:State} {p1:Item} {p2:Bool} {r:State} (h:qd9 p0 p1 p2=some r) (hQ:Q (.agg (State.cs r)) []):X (.call 102 [.agg (State.cs p0),.agg (Item.cs p1),.one (.p (.v (.bool p2)))] [] Q):=by
  have K:=fun a (e:some a=some r)=>qm (f:=fun y=>.agg (State.cs y)) (g:=fun y=>[]) e hQ
  unfold qd9 at h
  refine qJ hX ?_
  conv=>whnf
  refine qb hX Tryz.func102 rfl rfl ?_
  revert h
  refine bndk fun y1 e2 h=>?_
  conv=>whnf
  repeat((first|refine dw ?_);conv=>whnf)
  refine qf3 hX e2 ?_
  revert h
  refine bndk fun y3 e4 h=>?_
  conv=>whnf
  repeat((first|refine dw ?_);conv=>whnf)
  refine qf3 hX e4 ?_
  revert h
  refine bndk fun y5 e6 h=>?_
  conv=>whnf
  repeat((first|refine dw ?_);conv=>whnf)
  refine qez hX e6 ?_
  conv=>whnf
  repeat((first|refine dw ?_);conv=>whnf)
  revert h
  refine brk (fun c7 h=>?_) (fun c7 h=>?_)
  ·revert h
   refine bndk fun y8 e9 h=>?_
   conv=>whnf
   repeat((first|refine dw ?_|refine bct c7 ?_);conv=>whnf)
   refine Or.inl ?_
   conv=>whnf
   refine qfC hX e9 ?_
   conv=>whnf
   repeat((first|refine dw ?_);conv=>whnf)
   exact K _ h
  ·conv=>whnf
   repeat((first|refine dw ?_|refine bcf c7 ?_);conv=>whnf)
   revert h
   refine brk (fun c10 h=>?_) (fun c10 h=>?_)
   ·revert h
    refine bndk fun y11 e12 h=>?_
    conv=>whnf
    repeat((first|refine dw ?_|refine bct c10 ?_);conv=>whnf)
    refine Or.inl ?_
    conv=>whnf
    refine qfC hX e12 ?_
    conv=>whnf
    repeat((first|refine dw ?_);conv=>whnf)
    exact K _ h
   ·conv=>whnf
    repeat((first|refine dw ?_|refine bcf c10 ?_);conv=>whnf)
    exact K _ h
theorem qmG  {p0:State} {p1:Item} {r:State × Int} (h:qea p0 p1=some r) (hQ:Q (.tup [.agg (State.cs r.1),iv r.2]) []):X (.call 34 [.agg (State.cs p0),.agg (Item.cs p1)] [] Q):=by
  have K:=fun a (e:some a=some r)=>qm (f:=fun y=>.tup [.agg (State.cs y.1),iv y.2]) (g:=fun y=>[]) e hQ
  unfold qea at h
  refine qJ hX ?_
  conv=>whnf
  refine qb hX Tryz.func34 rfl rfl ?_
  replace h:=qo h
  obtain ⟨y1,e2,h⟩:=h
  conv=>whnf
  repeat((first|refine dw ?_);conv=>whnf)
  refine qiR hX e2 ?_
  apply qmy (X:=X) (r:=r) (pad [(2,.one (.ptr 0 0)),(0,.one (.ptr 1 0)),(0,.one (.ptr 2 0))] 94) ([.box (State.cs p0),.box (Item.cs p1),.box [ic 0,ic 0,.p (.v (.string ⟨#[]⟩)),ic 0,.p (.v (.complex .f64 0 0)),.own 3,.own 4,.own 5,ic 0,ic 0,ic 0,ic 0,ic 0,ic 0,ic 0,ic 0,.own 6,ic 0,ic 0,ic 0],.rows 0 [],.rows 0 [],.rows 0 [],.rows 0 []])
  ·intro tl1
   conv=>whnf
   repeat((first|refine dw ?_);conv=>whnf)
   refine qj h (fun c26 g=>?_) (fun c26 g=>?_)
   ·replace h:=g
    clear g
    conv=>whnf
    repeat((first|refine dw ?_|refine bct c26 ?_);conv=>whnf)
    exact K _ h
   ·replace h:=g
    clear g
    conv=>whnf
    repeat((first|refine dw ?_|refine bcf c26 ?_);conv=>whnf)
    refine qj h (fun c27 g=>?_) (fun c27 g=>?_)
    ·replace h:=g
     clear g
     conv=>whnf
     repeat((first|refine dw ?_|refine bct c27 ?_|refine bcf c26 ?_);conv=>whnf)
     refine qj h (fun c28 g=>?_) (fun c28 g=>?_)
     ·replace h:=g
      clear g
      conv=>whnf
      repeat((first|refine dw ?_|refine bct c28 ?_);conv=>whnf)
      exact K _ h
     ·replace h:=g
      clear g
      conv=>whnf
      repeat((first|refine dw ?_|refine bcf c28 ?_);conv=>whnf)
      exact tl1.h  h
    ·replace h:=g
     clear g
     conv=>whnf
     repeat((first|refine dw ?_|refine bcf c27 ?_|refine bcf c26 ?_);conv=>whnf)
     exact tl1.h  h
  ·intro h
   unfold qdA at h
   refine qt hX ?_
   replace h:=qo h
   obtain ⟨y3,e4,h⟩:=h
   conv=>whnf
   repeat((first|refine dw ?_);conv=>whnf)
   refine qfA hX e4 ?_
   conv=>whnf
   repeat((first|refine dw ?_);conv=>whnf)
   refine qj h (fun c5 g=>?_) (fun c5 g=>?_)
   ·replace h:=g
    clear g
    conv=>whnf
    repeat((first|refine dw ?_|refine bct c5 ?_);conv=>whnf)
    exact K _ h
   ·replace h:=g
    clear g
    replace h:=qo h
    obtain ⟨y6,e7,h⟩:=h
    conv=>whnf
    repeat((first|refine dw ?_|refine bcf c5 ?_);conv=>whnf)
    refine qjw hX e7 ?_
    apply qfd (X:=X) (r:=r) (fun (v8:Bool)=>pad [(2,.one (.ptr 0 0)),(0,.one (.ptr 1 0)),(0,.one (.ptr 2 0)),(3,.one (.p (.v (.bool y6.2)))),(0,.one (.p (.v (.bool v8))))] 89) (fun (v8:Bool)=>[.box (State.cs p0),.box (Item.cs p1),.box [ic 0,ic 0,.p (.v (.string ⟨#[]⟩)),ic 0,.p (.v (.complex .f64 0 0)),.own 3,.own 4,.own 5,ic 0,ic 0,ic 0,ic 0,ic 0,ic 0,ic 0,ic 0,.own 6,ic 0,ic 0,ic 0],.rows 0 [],.rows 0 [],.rows 0 [],.rows 0 []])
    ·intro tl2
     conv=>whnf
     repeat((first|refine dw ?_);conv=>whnf)
     refine qj h (fun c22 g=>?_) (fun c22 g=>?_)
     ·replace h:=g
      clear g
      replace h:=qo h
      obtain ⟨y23,e24,h⟩:=h
      conv=>whnf
      repeat((first|refine dw ?_|refine bct c22 ?_);conv=>whnf)
      refine qe0 hX e24 ?_
      conv=>whnf
      repeat((first|refine dw ?_|refine bct c22 ?_);conv=>whnf)
      refine qj h (fun c25 g=>?_) (fun c25 g=>?_)
      ·replace h:=g
       clear g
       conv=>whnf
       repeat((first|refine dw ?_|refine bct c25 ?_);conv=>whnf)
       exact tl2.h false h
      ·replace h:=g
       clear g
       conv=>whnf
       repeat((first|refine dw ?_|refine bcf c25 ?_);conv=>whnf)
       exact tl2.h y6.2 h
     ·replace h:=g
      clear g
      conv=>whnf
      repeat((first|refine dw ?_|refine bcf c22 ?_);conv=>whnf)
      exact tl2.h y6.2 h
    ·intro v8 h
     unfold qcN at h
     refine qt hX ?_
     replace h:=qo h
     obtain ⟨y9,e10,h⟩:=h
     conv=>whnf
     repeat((first|refine dw ?_);conv=>whnf)
     refine qez hX e10 ?_
     apply qmy (X:=X) (r:=r) (pad [(2,.one (.ptr 0 0)),(0,.one (.ptr 1 0)),(0,.one (.ptr 2 0)),(4,.one (.p (.v (.bool v8))))] 89) ([.box (State.cs p0),.box (Item.cs p1),.box [ic 0,ic 0,.p (.v (.string ⟨#[]⟩)),ic 0,.p (.v (.complex .f64 0 0)),.own 3,.own 4,.own 5,ic 0,ic 0,ic 0,ic 0,ic 0,ic 0,ic 0,ic 0,.own 6,ic 0,ic 0,ic 0],.rows 0 [],.rows 0 [],.rows 0 [],.rows 0 []])
     ·intro tl3
      conv=>whnf
      repeat((first|refine dw ?_);conv=>whnf)
      refine qj h (fun c18 g=>?_) (fun c18 g=>?_)
      ·replace h:=g
       clear g
       conv=>whnf
       repeat((first|refine dw ?_|refine bct c18 ?_);conv=>whnf)
       refine qj h (fun c19 g=>?_) (fun c19 g=>?_)
       ·replace h:=g
        clear g
        conv=>whnf
        repeat((first|refine dw ?_|refine bct c19 ?_);conv=>whnf)
        refine qj h (fun c20 g=>?_) (fun c20 g=>?_)
        ·replace h:=g
         clear g
         conv=>whnf
         repeat((first|refine dw ?_|refine bct c20 ?_|refine qg (qi _) ?_);conv=>whnf)
         refine qj h (fun c21 g=>?_) (fun c21 g=>?_)
         ·replace h:=g
          clear g
          conv=>whnf
          repeat((first|refine dw ?_|refine bct c21 ?_);conv=>whnf)
          exact K _ h
         ·replace h:=g
          clear g
          conv=>whnf
          repeat((first|refine dw ?_|refine bcf c21 ?_);conv=>whnf)
          exact tl3.h  h
        ·replace h:=g
         clear g
         conv=>whnf
         repeat((first|refine dw ?_|refine bcf c20 ?_);conv=>whnf)
         exact tl3.h  h
       ·replace h:=g
        clear g
        conv=>whnf
        repeat((first|refine dw ?_|refine bcf c19 ?_);conv=>whnf)
        exact tl3.h  h
      ·replace h:=g
       clear g
       conv=>whnf
       repeat((first|refine dw ?_|refine bcf c18 ?_);conv=>whnf)
       exact tl3.h  h
     ·intro h
      unfold qbC at h
      refine qt hX ?_
      replace h:=qo h
      obtain ⟨y11,e12,h⟩:=h
      conv=>whnf
      repeat((first|refine dw ?_);conv=>whnf)
      refine qf2 hX e12 ?_
      apply qfd (X:=X) (r:=r) (fun (v13:Int)=>pad [(2,.one (.ptr 0 0)),(0,.one (.ptr 1 0)),(0,.one (.ptr 2 0)),(4,.one (.p (.v (.bool v8))))] 89) (fun (v13:Int)=>[.box [ic p0.r,ic p0.f.op,.p (.v (.string p0.f.text)),ic p0.f.n,.p (.v (.complex .f64 p0.f.re p0.f.im)),.p (.sl (Pred.rows p0.f.kids)),.p (.sl (p0.store.map Item.row)),.p (.sl (p0.out.map Item.row)),ic y11.star.x0,ic y11.star.x1,ic y11.star.x2,ic y11.star.x3,ic y11.star.x4,ic y11.star.x5,ic y11.star.x6,ic y11.star.x7,.p (.sl (y11.l.map Frag.row)),ic p0.count,ic v13,ic p0.epoch],.box (Item.cs p1),.box [ic 0,ic 0,.p (.v (.string ⟨#[]⟩)),ic 0,.p (.v (.complex .f64 0 0)),.own 3,.own 4,.own 5,ic 0,ic 0,ic 0,ic 0,ic 0,ic 0,ic 0,ic 0,.own 6,ic 0,ic 0,ic 0],.rows 0 [],.rows 0 [],.rows 0 [],.rows 0 []])
      ·intro tl4
       conv=>whnf
       repeat((first|refine dw ?_);conv=>whnf)
       refine qj h (fun c17 g=>?_) (fun c17 g=>?_)
       ·replace h:=g
        clear g
        conv=>whnf
        repeat((first|refine dw ?_|refine bct c17 ?_);conv=>whnf)
        exact tl4.h p1.stamp h
       ·replace h:=g
        clear g
        conv=>whnf
        repeat((first|refine dw ?_|refine bcf c17 ?_);conv=>whnf)
        exact tl4.h p0.clock h
      ·intro v13 h
       unfold qdz at h
       refine qt hX ?_
       conv=>whnf
       repeat((first|refine dw ?_);conv=>whnf)
       refine qj h (fun c14 g=>?_) (fun c14 g=>?_)
       ·replace h:=g
        clear g
        conv=>whnf
        repeat((first|refine dw ?_|refine bct c14 ?_);conv=>whnf)
        exact K _ h
       ·replace h:=g
        clear g
        replace h:=qo h
        obtain ⟨y15,e16,h⟩:=h
        conv=>whnf
        repeat((first|refine dw ?_|refine bcf c14 ?_);conv=>whnf)
        refine qmF hX e16 ?_
        conv=>whnf
        repeat((first|refine dw ?_);conv=>whnf)
        exact K _ h
theorem qhS  {p0:State} {p1:ByteArray} {p2:Ver} {p3:Ver} {r:State} (h:qdp p0 p1 p2 p3=some r) (hQ:Q (.agg (State.cs r)) []):X (.call 38 [.agg (State.cs p0),.one (.p (.v (.string p1))),.agg (Ver.cs p2),.agg (Ver.cs p3)] [] Q):=by
  have K:=fun a (e:some a=some r)=>qm (f:=fun y=>.agg (State.cs y)) (g:=fun y=>[]) e hQ
  unfold qdp at h
  refine qJ hX ?_
  conv=>whnf
  refine qb hX Tryz.func38 rfl rfl ?_
  revert h
  refine bndk fun y1 e2 h=>?_
  conv=>whnf
  repeat((first|refine dw ?_);conv=>whnf)
  refine qeA hX e2 ?_
  conv=>whnf
  repeat((first|refine dw ?_);conv=>whnf)
  revert h
  refine brk (fun c3 h=>?_) (fun c3 h=>?_)
  ·conv=>whnf
   repeat((first|refine dw ?_|refine bct c3 ?_);conv=>whnf)
   exact K _ h
  ·conv=>whnf
   repeat((first|refine dw ?_|refine bcf c3 ?_);conv=>whnf)
   revert h
   refine brk (fun c4 h=>?_) (fun c4 h=>?_)
   ·conv=>whnf
    repeat((first|refine dw ?_|refine bct c4 ?_);conv=>whnf)
    exact K _ h
   ·revert h
    refine bndk fun y5 e6 h=>?_
    conv=>whnf
    repeat((first|refine dw ?_|refine bcf c4 ?_);conv=>whnf)
    refine qf3 hX e6 ?_
    revert h
    refine bndk fun y7 e8 h=>?_
    conv=>whnf
    repeat((first|refine dw ?_);conv=>whnf)
    refine qiQ hX e8 ?_
    conv=>whnf
    repeat((first|refine dw ?_);conv=>whnf)
    revert h
    refine brk (fun c9 h=>?_) (fun c9 h=>?_)
    ·conv=>whnf
     repeat((first|refine dw ?_|refine bct c9 ?_);conv=>whnf)
     revert h
     refine brk (fun c10 h=>?_) (fun c10 h=>?_)
     ·revert h
      refine bndk fun y11 e12 h=>?_
      conv=>whnf
      repeat((first|refine dw ?_|refine bct c10 ?_|refine bct c9 ?_);conv=>whnf)
      refine qf2 hX e12 ?_
      conv=>whnf
      repeat((first|refine dw ?_);conv=>whnf)
      exact K _ h
     ·conv=>whnf
      repeat((first|refine dw ?_|refine bcf c10 ?_|refine bct c9 ?_);conv=>whnf)
      revert h
      refine brk (fun c13 h=>?_) (fun c13 h=>?_)
      ·revert h
       refine bndk fun y14 e15 h=>?_
       conv=>whnf
       repeat((first|refine dw ?_|refine bct c13 ?_);conv=>whnf)
       refine qf2 hX e15 ?_
       conv=>whnf
       repeat((first|refine dw ?_);conv=>whnf)
       exact K _ h
      ·conv=>whnf
       repeat((first|refine dw ?_|refine bcf c13 ?_);conv=>whnf)
       exact K _ h
    ·conv=>whnf
     repeat((first|refine dw ?_|refine bcf c9 ?_);conv=>whnf)
     exact K _ h
end
end Go.Proofs.YtidkmoohgadjkaaGreat
