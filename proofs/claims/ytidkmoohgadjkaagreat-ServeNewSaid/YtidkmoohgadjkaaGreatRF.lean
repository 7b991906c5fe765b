/- The laws of layer 12. Written by decomp.py. Filters as arguments of laws. States as arguments of laws. The statements ServeTells, ServeAsks, out of what their code computes. Messages and sessions as arguments of laws. The statement ServeTells, out of what its code computes. The statement ServeNew, out of what its code computes. -/
import Derived.Test.YtidkmoohgadjkaaGreatRE
import Derived.Test.YtidkmoohgadjkaaGreatRD
set_option linter.unusedVariables false
set_option linter.unusedSimpArgs false
set_option maxRecDepth 100000
set_option maxHeartbeats 0
namespace Go.Proofs.YtidkmoohgadjkaaGreat
open Go E
noncomputable section
open Pred
def law12_up_s:Option (Bool) :=
 (bnd (serve_Answer_s (State.mk 2 (Pred.mk 1 ⟨#[]⟩ 0 0 0 ([]:List Pred)) ([]:List Item) ([]:List Item) (Know.mk (V8.mk 0 0 0 0 0 0 0 0) ([]:List Frag)) 0 0 0) (Msg.mk 1 1 2 3 0 (Pred.mk 1 ⟨#[]⟩ 0 0 0 ([]:List Pred)) (Know.mk (V8.mk 0 0 0 0 0 0 0 0) ([]:List Frag)) ([]:List Has) 0 ([]:List Entry) false) 9) fun y1 =>
  (bnd (serve_May_s (Msg.mk 1 1 2 3 0 (Pred.mk 1 ⟨#[]⟩ 0 0 0 ([]:List Pred)) (Know.mk (V8.mk 0 0 0 0 0 0 0 0) ([]:List Frag)) ([]:List Has) 0 ([]:List Entry) false)) fun y3 =>
   (br (!y3)
    (some false)
    (br (!eqI (y1.length:Int) 1)
     (some false)
     (bnd (atL y1 0) fun x7 =>
      (br (eqI x7.kind 3)
       (br (eqI x7.n 0)
        (br (eqI x7.src 2)
         (br (eqI x7.dst 1)
          (br (eqI x7.sid 3)
           (some (eqI x7.turn 9))
           (some false))
          (some false))
         (some false))
        (some false))
       (some false)))))))
def law12_found_l2 (p1:Item) (k1:Int→Option (Int)):List Entry→Int→Option (Int)
  | [],v3 =>
  (k1 v3)
  | x2e::xs2,v3 =>
  (br (!x2e.goes)
   (br (eqS x2e.item.id p1.id)
    (br (andB (eqI x2e.item.vr p1.vr) (andB (eqI x2e.item.vc p1.vc) true))
     (law12_found_l2 p1 k1 xs2  (wr .i64 (v3 + 1)))
     (law12_found_l2 p1 k1 xs2  v3))
    (law12_found_l2 p1 k1 xs2  v3))
   (law12_found_l2 p1 k1 xs2  v3))
def law12_found_l1 (p1:Item):List Msg→Int→Option (Int)
 | [],v1 =>
 some v1
 | x1e::xs1,v1 =>
 (chk (smallL x1e.l)
  ((law12_found_l2 p1 (fun w0=>law12_found_l1 p1 xs1  w0)) x1e.l v1))
def law12_found_s (p0:List Msg) (p1:Item):Option (Int) :=
 (chk (smallL p0)
   ((law12_found_l1 p1) p0 0))
def law12_ServeNew_l4 (y19:(List Msg)) (v26:Int) (x3e:Entry) (y29:Bool) (y31:Bool) (k3:Option (Bool)):List Has→Bool→Option (Bool)
  | [],v33 =>
  (br x3e.goes
   (br (!v33)
    (some false)
    (br (!x3e.goes)
     (br y29
      (some false)
      (br (!y31)
       (some false)
       (br (eqI v26 (wr .i64 ((y19.length:Int) - 1)))
        (some false)
        (k3 ))))
     (k3 )))
   (br (!x3e.goes)
    (br y29
     (some false)
     (br (!y31)
      (some false)
      (br (eqI v26 (wr .i64 ((y19.length:Int) - 1)))
       (some false)
       (k3 ))))
    (k3 )))
  | x4e::xs4,v33 =>
  (br v33
   (law12_ServeNew_l4 y19 v26 x3e y29 y31 k3 xs4  true)
   (br (eqS x4e.id x3e.item.id)
    (law12_ServeNew_l4 y19 v26 x3e y29 y31 k3 xs4  (andB (eqI x4e.vr x3e.item.vr) (andB (eqI x4e.vc x3e.item.vc) true)))
    (law12_ServeNew_l4 y19 v26 x3e y29 y31 k3 xs4  false)))
def law12_ServeNew_l3 (y8:Msg) (y19:(List Msg)) (v26:Int) (k1:Option (Bool)):List Entry→Option (Bool)
  | [] =>
  (k1 )
  | x3e::xs3 =>
  (bnd (ref06_Has_s y8.k x3e.item.id (Ver.mk x3e.item.vr x3e.item.vc)) fun y29 =>
   (bnd (ref03_Has_s y8.f x3e.item) fun y31 =>
    (chk (smallL y8.have_)
      ((law12_ServeNew_l4 y19 v26 x3e y29 y31 (law12_ServeNew_l3 y8 y19 v26 k1 xs3 )) y8.have_ false))))
def law12_ServeNew_j2 (y8:Msg) (y19:(List Msg)) (x1e:Msg) (v26:Int) (k1:Option (Bool)):Option (Bool) :=
 (chk (smallL x1e.l)
   ((law12_ServeNew_l3 y8 y19 v26 k1) x1e.l ))
def law12_ServeNew_l7 (y19:(List Msg)) (v26:Int) (x6e:Entry) (y59:Bool) (y61:Bool) (k6:Option (Bool)):List Has→Bool→Option (Bool)
  | [],v63 =>
  (br x6e.goes
   (br (!v63)
    (some false)
    (br (!x6e.goes)
     (br y59
      (some false)
      (br (!y61)
       (some false)
       (br (eqI v26 (wr .i64 ((y19.length:Int) - 1)))
        (some false)
        (k6 ))))
     (k6 )))
   (br (!x6e.goes)
    (br y59
     (some false)
     (br (!y61)
      (some false)
      (br (eqI v26 (wr .i64 ((y19.length:Int) - 1)))
       (some false)
       (k6 ))))
    (k6 )))
  | x7e::xs7,v63 =>
  (br v63
   (law12_ServeNew_l7 y19 v26 x6e y59 y61 k6 xs7  true)
   (br (eqS x7e.id x6e.item.id)
    (law12_ServeNew_l7 y19 v26 x6e y59 y61 k6 xs7  (andB (eqI x7e.vr x6e.item.vr) (andB (eqI x7e.vc x6e.item.vc) true)))
    (law12_ServeNew_l7 y19 v26 x6e y59 y61 k6 xs7  false)))
def law12_ServeNew_l6 (y8:Msg) (y19:(List Msg)) (v26:Int) (k1:Option (Bool)):List Entry→Option (Bool)
  | [] =>
  (k1 )
  | x6e::xs6 =>
  (bnd (ref06_Has_s y8.k x6e.item.id (Ver.mk x6e.item.vr x6e.item.vc)) fun y59 =>
   (bnd (ref03_Has_s y8.f x6e.item) fun y61 =>
    (chk (smallL y8.have_)
      ((law12_ServeNew_l7 y19 v26 x6e y59 y61 (law12_ServeNew_l6 y8 y19 v26 k1 xs6 )) y8.have_ false))))
def law12_ServeNew_j5 (y8:Msg) (y19:(List Msg)) (x1e:Msg) (v26:Int) (k1:Option (Bool)):Option (Bool) :=
 (chk (smallL x1e.l)
   ((law12_ServeNew_l6 y8 y19 v26 k1) x1e.l ))
def law12_ServeNew_l8 (k1:Option (Bool)):Nat→Option (Bool)
 | 0=>none
 | fl8 + 1 =>
 (k1 )
def law12_ServeNew_l10 (y19:(List Msg)) (v26:Int) (x9e:Entry) (y100:Bool) (y102:Bool) (k9:Option (Bool)):List Has→Bool→Option (Bool)
  | [],v104 =>
  (br x9e.goes
   (br (!v104)
    (some false)
    (br (!x9e.goes)
     (br y100
      (some false)
      (br (!y102)
       (some false)
       (br (eqI v26 (wr .i64 ((y19.length:Int) - 1)))
        (some false)
        (k9 ))))
     (k9 )))
   (br (!x9e.goes)
    (br y100
     (some false)
     (br (!y102)
      (some false)
      (br (eqI v26 (wr .i64 ((y19.length:Int) - 1)))
       (some false)
       (k9 ))))
    (k9 )))
  | x10e::xs10,v104 =>
  (br v104
   (law12_ServeNew_l10 y19 v26 x9e y100 y102 k9 xs10  true)
   (br (eqS x10e.id x9e.item.id)
    (law12_ServeNew_l10 y19 v26 x9e y100 y102 k9 xs10  (andB (eqI x10e.vr x9e.item.vr) (andB (eqI x10e.vc x9e.item.vc) true)))
    (law12_ServeNew_l10 y19 v26 x9e y100 y102 k9 xs10  false)))
def law12_ServeNew_l9 (y8:Msg) (y19:(List Msg)) (v26:Int) (k1:Option (Bool)):List Entry→Option (Bool)
  | [] =>
  (k1 )
  | x9e::xs9 =>
  (bnd (ref06_Has_s y8.k x9e.item.id (Ver.mk x9e.item.vr x9e.item.vc)) fun y100 =>
   (bnd (ref03_Has_s y8.f x9e.item) fun y102 =>
    (chk (smallL y8.have_)
      ((law12_ServeNew_l10 y19 v26 x9e y100 y102 (law12_ServeNew_l9 y8 y19 v26 k1 xs9 )) y8.have_ false))))
def law12_ServeNew_j12 (y19:(List Msg)) (x11e:Item) (k11:Option (Bool)) (v125:Int):Option (Bool) :=
 (bnd (law12_found_s y19 x11e) fun y126 =>
  (br (!eqI y126 v125)
   (some false)
   (k11 )))
def law12_ServeNew_l11 (y1:Bool) (y8:Msg) (y19:(List Msg)):List Item→Option (Bool)
  | [] =>
  some y1
  | x11e::xs11 =>
  (bnd (ref06_Has_s y8.k x11e.id (Ver.mk x11e.vr x11e.vc)) fun y121 =>
   (bnd (ref03_Has_s y8.f x11e) fun y123 =>
    (br y123
     (br (!y121)
      (law12_ServeNew_j12 y19 x11e (law12_ServeNew_l11 y1 y8 y19 xs11 ) 1)
      (law12_ServeNew_j12 y19 x11e (law12_ServeNew_l11 y1 y8 y19 xs11 ) 0))
     (law12_ServeNew_j12 y19 x11e (law12_ServeNew_l11 y1 y8 y19 xs11 ) 0))))
def law12_ServeNew_l1 (p2:Int) (y1:Bool) (y8:Msg) (y10:State) (y19:(List Msg)):List Msg→Int→Option (Bool)
  | [],v26 =>
  (bnd (ref06_Both_s y10.store y10.out) fun y118 =>
   (chk (smallL y118)
     ((law12_ServeNew_l11 y1 y8 y19) y118 )))
  | x1e::xs1,v26 =>
  (br (eqI (x1e.l.length:Int) 4)
   (br (ltI v26 (wr .i64 ((y19.length:Int) - 1)))
    (br (!eqI x1e.kind 2)
     (some false)
     (br (!eqI x1e.n v26)
      (some false)
      (br (!eqI x1e.turn p2)
       (some false)
       (br (!eqI x1e.sid y8.sid)
        (some false)
        (br (!eqI x1e.dst y8.src)
         (some false)
         (law12_ServeNew_j2 y8 y19 x1e v26 (law12_ServeNew_l1 p2 y1 y8 y10 y19 xs1 (v26 + 1)) ))))))
    (br (!eqI x1e.turn p2)
     (some false)
     (br (!eqI x1e.sid y8.sid)
      (some false)
      (br (!eqI x1e.dst y8.src)
       (some false)
       (law12_ServeNew_j2 y8 y19 x1e v26 (law12_ServeNew_l1 p2 y1 y8 y10 y19 xs1 (v26 + 1)) )))))
   (br (eqI v26 (wr .i64 ((wr .i64 ((y19.length:Int) - 1)) - 1)))
    (br (ltI 0 (x1e.l.length:Int))
     (br (ltI v26 (wr .i64 ((y19.length:Int) - 1)))
      (br (!eqI x1e.kind 2)
       (some false)
       (br (!eqI x1e.n v26)
        (some false)
        (br (!(ltI (x1e.l.length:Int) 4))
         (some false)
         (br (!eqI x1e.turn p2)
          (some false)
          (br (!eqI x1e.sid y8.sid)
           (some false)
           (br (!eqI x1e.dst y8.src)
            (some false)
            (law12_ServeNew_j5 y8 y19 x1e v26 (law12_ServeNew_l1 p2 y1 y8 y10 y19 xs1 (v26 + 1)) )))))))
      (br (!eqI x1e.turn p2)
       (some false)
       (br (!eqI x1e.sid y8.sid)
        (some false)
        (br (!eqI x1e.dst y8.src)
         (some false)
         (law12_ServeNew_j5 y8 y19 x1e v26 (law12_ServeNew_l1 p2 y1 y8 y10 y19 xs1 (v26 + 1)) )))))
     (br (ltI v26 (wr .i64 ((y19.length:Int) - 1)))
      (br (!eqI x1e.kind 2)
       (some false)
       (br (!eqI x1e.n v26)
        (some false)
        (some false)))
      (br (!eqI x1e.turn p2)
       (some false)
       (br (!eqI x1e.sid y8.sid)
        (some false)
        (br (!eqI x1e.dst y8.src)
         (some false)
         ((law12_ServeNew_l8 (law12_ServeNew_l1 p2 y1 y8 y10 y19 xs1 (v26 + 1))) fuelN ))))))
    (br (ltI v26 (wr .i64 ((y19.length:Int) - 1)))
     (br (!eqI x1e.kind 2)
      (some false)
      (br (!eqI x1e.n v26)
       (some false)
       (some false)))
     (br (!eqI x1e.turn p2)
      (some false)
      (br (!eqI x1e.sid y8.sid)
       (some false)
       (br (!eqI x1e.dst y8.src)
        (some false)
        (chk (smallL x1e.l)
          ((law12_ServeNew_l9 y8 y19 v26 (law12_ServeNew_l1 p2 y1 y8 y10 y19 xs1 (v26 + 1))) x1e.l ))))))))
def law12_ServeNew_s (p0:Sit) (p1:Note) (p2:Int):Option (Bool) :=
 (bnd (law12_up_s ) fun y1 =>
  (bnd (law00_Fits_s p0) fun y3 =>
   (bnd (law00_Short_s p1) fun y5 =>
    (br (eqI (wr .i64 (y3 * y5)) 0)
     (some y1)
     (bnd (law00_Msg_s p1) fun y8 =>
      (bnd (law00_State_s p0) fun y10 =>
       (bnd (ref09_May_s y10) fun y12 =>
        (br (!y12)
         (some y1)
         (bnd (serve_May_s y8) fun y15 =>
          (br (!y15)
           (some y1)
           (br (!eqI y8.dst y10.r)
            (some y1)
            (bnd (serve_Answer_s y10 y8 p2) fun y19 =>
             (br (eqI (y19.length:Int) 0)
              (some false)
              (bnd (atL y19 (wr .i64 ((y19.length:Int) - 1))) fun x22 =>
               (br (!eqI x22.kind 3)
                (some false)
                (br (!eqI x22.n (wr .i64 ((y19.length:Int) - 1)))
                 (some false)
                 (chk (smallL y19)
                   ((law12_ServeNew_l1 p2 y1 y8 y10 y19) y19 0 ))))))))))))))))))
variable {X:Task→Prop} (hX:Closed X) {Q:A→List Blk→Prop}
include hX
theorem law12_up_c  {r:Bool} (h:law12_up_s  = some r) (hQ:Q (.one (.p (.v (.bool r)))) []):X (.call 15 [] [] Q):=by
  have K:=fun a (e:some a=some r)=>ret_some (f:=fun y=>.one (.p (.v (.bool y)))) (g:=fun y=>[]) e hQ
  unfold law12_up_s at h
  refine call_intro hX Tryz.func15 rfl rfl ?_
  revert h
  refine bndk fun y1 e2 h=>?_
  conv=>whnf
  repeat((first|refine dw ?_);conv=>whnf)
  refine call_nz hX ?_
  conv=>whnf
  refine serve_Answer_c hX e2 ?_
  revert h
  refine bndk fun y3 e4 h=>?_
  conv=>whnf
  repeat((first|refine dw ?_);conv=>whnf)
  refine call_nz hX ?_
  conv=>whnf
  refine serve_May_c hX e4 ?_
  conv=>whnf
  repeat((first|refine dw ?_);conv=>whnf)
  revert h
  refine brk (fun c5 h=>?_) (fun c5 h=>?_)
  ·conv=>whnf
   repeat((first|refine dw ?_|refine bct c5 ?_);conv=>whnf)
   exact K _ h
  ·conv=>whnf
   repeat((first|refine dw ?_|refine bcf c5 ?_|refine eqv_to (map_len _) ?_);conv=>whnf)
   revert h
   refine brk (fun c6 h=>?_) (fun c6 h=>?_)
   ·conv=>whnf
    repeat((first|refine dw ?_|refine bct c6 ?_);conv=>whnf)
    exact K _ h
   ·revert h
    refine bndk fun x7 a8 h=>?_
    conv=>whnf
    repeat((first|refine dw ?_|refine bcf c6 ?_|refine bct (at_in a8) ?_|refine bct (andt (at_in a8) rfl) ?_|refine row_in (at_row a8) ?_|refine bct (andt (at_in (at_nat a8)) rfl) ?_|refine row_in (at_row (at_nat a8)) ?_);conv=>whnf)
    revert h
    refine brk (fun c9 h=>?_) (fun c9 h=>?_)
    ·conv=>whnf
     repeat((first|refine dw ?_|refine bct c9 ?_|refine bct (at_in a8) ?_|refine bct (andt (at_in a8) rfl) ?_|refine row_in (at_row a8) ?_|refine bct (andt (at_in (at_nat a8)) rfl) ?_|refine row_in (at_row (at_nat a8)) ?_);conv=>whnf)
     revert h
     refine brk (fun c10 h=>?_) (fun c10 h=>?_)
     ·conv=>whnf
      repeat((first|refine dw ?_|refine bct c10 ?_|refine bct (at_in a8) ?_|refine bct (andt (at_in a8) rfl) ?_|refine row_in (at_row a8) ?_|refine bct (andt (at_in (at_nat a8)) rfl) ?_|refine row_in (at_row (at_nat a8)) ?_);conv=>whnf)
      revert h
      refine brk (fun c11 h=>?_) (fun c11 h=>?_)
      ·conv=>whnf
       repeat((first|refine dw ?_|refine bct c11 ?_|refine bct (at_in a8) ?_|refine bct (andt (at_in a8) rfl) ?_|refine row_in (at_row a8) ?_|refine bct (andt (at_in (at_nat a8)) rfl) ?_|refine row_in (at_row (at_nat a8)) ?_);conv=>whnf)
       revert h
       refine brk (fun c12 h=>?_) (fun c12 h=>?_)
       ·conv=>whnf
        repeat((first|refine dw ?_|refine bct c12 ?_|refine bct (at_in a8) ?_|refine bct (andt (at_in a8) rfl) ?_|refine row_in (at_row a8) ?_|refine bct (andt (at_in (at_nat a8)) rfl) ?_|refine row_in (at_row (at_nat a8)) ?_);conv=>whnf)
        revert h
        refine brk (fun c13 h=>?_) (fun c13 h=>?_)
        ·conv=>whnf
         repeat((first|refine dw ?_|refine bct c13 ?_|refine bct (at_in a8) ?_|refine bct (andt (at_in a8) rfl) ?_|refine row_in (at_row a8) ?_|refine bct (andt (at_in (at_nat a8)) rfl) ?_|refine row_in (at_row (at_nat a8)) ?_);conv=>whnf)
         exact K _ h
        ·conv=>whnf
         repeat((first|refine dw ?_|refine bcf c13 ?_);conv=>whnf)
         exact K _ h
       ·conv=>whnf
        repeat((first|refine dw ?_|refine bcf c12 ?_);conv=>whnf)
        exact K _ h
      ·conv=>whnf
       repeat((first|refine dw ?_|refine bcf c11 ?_);conv=>whnf)
       exact K _ h
     ·conv=>whnf
      repeat((first|refine dw ?_|refine bcf c10 ?_);conv=>whnf)
      exact K _ h
    ·conv=>whnf
     repeat((first|refine dw ?_|refine bcf c9 ?_);conv=>whnf)
     exact K _ h
theorem law12_found_c  {p0:List Msg} {p1:Item} {r:Int} (h:law12_found_s p0 p1=some r) (hQ:Q (iv r) []):X (.call 30 [.one (.p (.sl (p0.map Msg.row))),.agg (Item.cs p1)] [] Q):=by
  unfold law12_found_s at h
  refine call_intro hX Tryz.func30 rfl rfl ?_
  revert h
  refine chkk fun hs1 h=>?_
  conv=>whnf
  repeat((first|refine dw ?_);conv=>whnf)
  refine loop_lisx1 (fun (v2:Int) (v1:Int)=>pad [(0,.one (.p (.sl (p0.map Msg.row)))),(2,.one (.ptr 0 0)),(1,iv v1),(0,iv v2)] 60) (fun (v2:Int) (v1:Int)=>[.box (Item.cs p1)]) _ p0 (fun pre1 x1e xs1 v2 v1 hl1 hi1 h ih1=>?_) (fun v2 v1 hi1 h=>?_) 0 h
  ·rw [law12_found_l1] at h
   have am1:=at_mid hl1 hi1
   refine loop_intro hX ?_
   revert h
   refine chkk fun hs2 h=>?_
   conv=>whnf
   repeat((first|refine dw ?_|refine eqv_to (map_len _) ?_|refine bct (lt_mid hl1 hi1) ?_);conv=>whnf)
   refine loop_lisx1 (fun (v4:Int) (v3:Int)=>pad [(0,.one (.p (.sl (p0.map Msg.row)))),(2,.one (.ptr 0 0)),(1,iv v3),(0,iv v2),(0,iv v4)] 59) (fun (v4:Int) (v3:Int)=>[.box (Item.cs p1)]) _ x1e.l (fun pre2 x2e xs2 v4 v3 hl2 hi2 h ih2=>?_) (fun v4 v3 hi2 h=>?_) v1 h
   ·rw [law12_found_l2] at h
    have am2:=at_mid hl2 hi2
    refine loop_intro hX ?_
    conv=>whnf
    repeat((first|refine dw ?_|refine bct (at_in am1) ?_|refine bct (andt (at_in am1) rfl) ?_|refine row_in (at_row am1) ?_|refine bct (andt (at_in (at_nat am1)) rfl) ?_|refine row_in (at_row (at_nat am1)) ?_|refine eqv_to (map_len _) ?_|refine bct (lt_mid hl2 hi2) ?_|refine bct (at_in am2) ?_|refine bct (andt (at_in am2) rfl) ?_|refine row_in (at_row am2) ?_|refine bct (andt (at_in (at_nat am2)) rfl) ?_|refine row_in (at_row (at_nat am2)) ?_);conv=>whnf)
    revert h
    refine brk (fun c5 h=>?_) (fun c5 h=>?_)
    ·conv=>whnf
     repeat((first|refine dw ?_|refine bct c5 ?_|refine bct (at_in am1) ?_|refine bct (andt (at_in am1) rfl) ?_|refine row_in (at_row am1) ?_|refine bct (andt (at_in (at_nat am1)) rfl) ?_|refine row_in (at_row (at_nat am1)) ?_|refine bct (at_in am2) ?_|refine bct (andt (at_in am2) rfl) ?_|refine row_in (at_row am2) ?_|refine bct (andt (at_in (at_nat am2)) rfl) ?_|refine row_in (at_row (at_nat am2)) ?_);conv=>whnf)
     revert h
     refine brk (fun c6 h=>?_) (fun c6 h=>?_)
     ·conv=>whnf
      repeat((first|refine dw ?_|refine bct c6 ?_|refine bct (at_in am1) ?_|refine bct (andt (at_in am1) rfl) ?_|refine row_in (at_row am1) ?_|refine bct (andt (at_in (at_nat am1)) rfl) ?_|refine row_in (at_row (at_nat am1)) ?_|refine bct (at_in am2) ?_|refine bct (andt (at_in am2) rfl) ?_|refine row_in (at_row am2) ?_|refine bct (andt (at_in (at_nat am2)) rfl) ?_|refine row_in (at_row (at_nat am2)) ?_);conv=>whnf)
      revert h
      refine brk (fun c7 h=>?_) (fun c7 h=>?_)
      ·conv=>whnf
       repeat((first|refine dw ?_|refine bct c7 ?_);conv=>whnf)
       exact ih2 _ (wr .i64 (v3 + 1)) (wrL hs2 hl2 hi2) h
      ·conv=>whnf
       repeat((first|refine dw ?_|refine bcf c7 ?_);conv=>whnf)
       exact ih2 _ v3 (wrL hs2 hl2 hi2) h
     ·conv=>whnf
      repeat((first|refine dw ?_|refine bcf c6 ?_);conv=>whnf)
      exact ih2 _ v3 (wrL hs2 hl2 hi2) h
    ·conv=>whnf
     repeat((first|refine dw ?_|refine bcf c5 ?_);conv=>whnf)
     exact ih2 _ v3 (wrL hs2 hl2 hi2) h
   ·rw [law12_found_l2] at h
    refine loop_intro hX ?_
    conv=>whnf
    repeat((first|refine dw ?_|refine bct (at_in am1) ?_|refine bct (andt (at_in am1) rfl) ?_|refine row_in (at_row am1) ?_|refine bct (andt (at_in (at_nat am1)) rfl) ?_|refine row_in (at_row (at_nat am1)) ?_|refine eqv_to (map_len _) ?_|refine bcf (lt_end hi2) ?_);conv=>whnf)
    exact ih1 _ v3 (wrL hs1 hl1 hi1) h
  ·rw [law12_found_l1] at h
   refine loop_intro hX ?_
   conv=>whnf
   repeat((first|refine dw ?_|refine eqv_to (map_len _) ?_|refine bcf (lt_end hi1) ?_);conv=>whnf)
   exact ret_some (f:=fun y=>iv y) (g:=fun y=>[]) h hQ
theorem law12_ServeNew_c  {p0:Sit} {p1:Note} {p2:Int} {r:Bool} (h:law12_ServeNew_s p0 p1 p2=some r) (hQ:Q (.one (.p (.v (.bool r)))) []):X (.call 5 [.agg [ic p0.r,ic p0.f.op,.p (.v (.string p0.f.text)),ic p0.f.n,.p (.v (.float .f64 p0.f.re)),.p (.v (.float .f64 p0.f.im)),.p (.sl (Pred.lrows p0.f.kids)),.p (.sl (p0.store.map Item.lrow)),.p (.sl (p0.out.map Item.lrow)),ic p0.k.star.x0,ic p0.k.star.x1,ic p0.k.star.x2,ic p0.k.star.x3,ic p0.k.star.x4,ic p0.k.star.x5,ic p0.k.star.x6,ic p0.k.star.x7,.p (.sl (p0.k.l.map Frag.row)),ic p0.count,ic p0.clock,ic p0.epoch],.agg [ic p1.kind,ic p1.src,ic p1.dst,ic p1.sid,ic p1.turn,ic p1.f.op,.p (.v (.string p1.f.text)),ic p1.f.n,.p (.v (.float .f64 p1.f.re)),.p (.v (.float .f64 p1.f.im)),.p (.sl (Pred.lrows p1.f.kids)),ic p1.k.star.x0,ic p1.k.star.x1,ic p1.k.star.x2,ic p1.k.star.x3,ic p1.k.star.x4,ic p1.k.star.x5,ic p1.k.star.x6,ic p1.k.star.x7,.p (.sl (p1.k.l.map Frag.row)),.p (.sl (p1.have_.map Has.row)),ic p1.n,.p (.sl (p1.l.map Line.row)),.p (.v (.bool p1.star))],iv p2] [] Q):=by
  have K:=fun a (e:some a=some r)=>ret_some (f:=fun y=>.one (.p (.v (.bool y)))) (g:=fun y=>[]) e hQ
  unfold law12_ServeNew_s at h
  refine call_intro hX Tryz.func5 rfl rfl ?_
  replace h:=bnd_some h
  obtain ⟨y1,e2,h⟩:=h
  conv=>whnf
  repeat((first|refine dw ?_);conv=>whnf)
  refine law12_up_c hX e2 ?_
  replace h:=bnd_some h
  obtain ⟨y3,e4,h⟩:=h
  conv=>whnf
  repeat((first|refine dw ?_);conv=>whnf)
  refine law00_Fits_c hX e4 ?_
  replace h:=bnd_some h
  obtain ⟨y5,e6,h⟩:=h
  conv=>whnf
  repeat((first|refine dw ?_);conv=>whnf)
  refine law00_Short_c hX e6 ?_
  conv=>whnf
  repeat((first|refine dw ?_);conv=>whnf)
  refine br_some h (fun c7 g=>?_) (fun c7 g=>?_)
  ·replace h:=g
   clear g
   conv=>whnf
   repeat((first|refine dw ?_|refine bct c7 ?_);conv=>whnf)
   exact K _ h
  ·replace h:=g
   clear g
   replace h:=bnd_some h
   obtain ⟨y8,e9,h⟩:=h
   conv=>whnf
   repeat((first|refine dw ?_|refine bcf c7 ?_);conv=>whnf)
   refine law00_Msg_c hX e9 ?_
   replace h:=bnd_some h
   obtain ⟨y10,e11,h⟩:=h
   conv=>whnf
   repeat((first|refine dw ?_);conv=>whnf)
   refine law00_State_c hX e11 ?_
   replace h:=bnd_some h
   obtain ⟨y12,e13,h⟩:=h
   conv=>whnf
   repeat((first|refine dw ?_);conv=>whnf)
   refine ref09_May_c hX e13 ?_
   conv=>whnf
   repeat((first|refine dw ?_);conv=>whnf)
   refine br_some h (fun c14 g=>?_) (fun c14 g=>?_)
   ·replace h:=g
    clear g
    conv=>whnf
    repeat((first|refine dw ?_|refine bct c14 ?_);conv=>whnf)
    exact K _ h
   ·replace h:=g
    clear g
    replace h:=bnd_some h
    obtain ⟨y15,e16,h⟩:=h
    conv=>whnf
    repeat((first|refine dw ?_|refine bcf c14 ?_);conv=>whnf)
    refine serve_May_c hX e16 ?_
    conv=>whnf
    repeat((first|refine dw ?_|refine bcf c14 ?_);conv=>whnf)
    refine br_some h (fun c17 g=>?_) (fun c17 g=>?_)
    ·replace h:=g
     clear g
     conv=>whnf
     repeat((first|refine dw ?_|refine bct c17 ?_);conv=>whnf)
     exact K _ h
    ·replace h:=g
     clear g
     conv=>whnf
     repeat((first|refine dw ?_|refine bcf c17 ?_);conv=>whnf)
     refine br_some h (fun c18 g=>?_) (fun c18 g=>?_)
     ·replace h:=g
      clear g
      conv=>whnf
      repeat((first|refine dw ?_|refine bct c18 ?_);conv=>whnf)
      exact K _ h
     ·replace h:=g
      clear g
      replace h:=bnd_some h
      obtain ⟨y19,e20,h⟩:=h
      conv=>whnf
      repeat((first|refine dw ?_|refine bcf c18 ?_);conv=>whnf)
      refine serve_Answer_c hX e20 ?_
      conv=>whnf
      repeat((first|refine dw ?_|refine eqv_to (map_len _) ?_);conv=>whnf)
      refine br_some h (fun c21 g=>?_) (fun c21 g=>?_)
      ·replace h:=g
       clear g
       conv=>whnf
       repeat((first|refine dw ?_|refine bct c21 ?_);conv=>whnf)
       exact K _ h
      ·replace h:=g
       clear g
       replace h:=bnd_some h
       obtain ⟨x22,a23,h⟩:=h
       conv=>whnf
       repeat((first|refine dw ?_|refine bcf c21 ?_|refine eqv_to (map_len _) ?_|refine bct (at_in a23) ?_|refine bct (andt (at_in a23) rfl) ?_|refine row_in (at_row a23) ?_|refine bct (andt (at_in (at_nat a23)) rfl) ?_|refine row_in (at_row (at_nat a23)) ?_);conv=>whnf)
       refine br_some h (fun c24 g=>?_) (fun c24 g=>?_)
       ·replace h:=g
        clear g
        conv=>whnf
        repeat((first|refine dw ?_|refine bct c24 ?_);conv=>whnf)
        exact K _ h
       ·replace h:=g
        clear g
        conv=>whnf
        repeat((first|refine dw ?_|refine bcf c24 ?_|refine bct (at_in a23) ?_|refine bct (andt (at_in a23) rfl) ?_|refine row_in (at_row a23) ?_|refine bct (andt (at_in (at_nat a23)) rfl) ?_|refine row_in (at_row (at_nat a23)) ?_);conv=>whnf)
        refine br_some h (fun c25 g=>?_) (fun c25 g=>?_)
        ·replace h:=g
         clear g
         conv=>whnf
         repeat((first|refine dw ?_|refine bct c25 ?_);conv=>whnf)
         exact K _ h
        ·replace h:=g
         clear g
         replace h:=chk_some h
         obtain ⟨hs1,h⟩:=h
         conv=>whnf
         repeat((first|refine dw ?_|refine bcf c25 ?_);conv=>whnf)
         refine loop_list0 (fun (v26:Int)=>pad [(2,iv p2),(4,.one (.p (.v (.bool y1)))),(0,.one (.ptr 0 0)),(0,.one (.ptr 1 0)),(1,.one (.p (.sl (y19.map Msg.row)))),(0,iv (wr .i64 ((y19.length:Int) - 1))),(0,iv v26)] 288) (fun (v26:Int)=>[.box (Msg.cs y8),.box (State.cs y10)]) _ y19 (fun pre1 x1e xs1 v26  hl1 hi1 h ih1=>?_) (fun v26  hi1 h=>?_)  h
         ·rw [law12_ServeNew_l1] at h
          have am1:=at_mid hl1 hi1
          refine loop_intro hX ?_
          conv=>whnf
          repeat((first|refine dw ?_|refine eqv_to (map_len _) ?_|refine bct (lt_mid hl1 hi1) ?_|refine bct (at_in am1) ?_|refine bct (andt (at_in am1) rfl) ?_|refine row_in (at_row am1) ?_|refine bct (andt (at_in (at_nat am1)) rfl) ?_|refine row_in (at_row (at_nat am1)) ?_);conv=>whnf)
          refine br_some h (fun c27 g=>?_) (fun c27 g=>?_)
          ·replace h:=g
           clear g
           apply join0 (X:=X) (r:=r) (pad [(2,iv p2),(4,.one (.p (.v (.bool y1)))),(0,.one (.ptr 0 0)),(0,.one (.ptr 1 0)),(1,.one (.p (.sl (y19.map Msg.row)))),(0,iv (wr .i64 ((y19.length:Int) - 1))),(0,iv v26)] 288) ([.box (Msg.cs y8),.box (State.cs y10)])
           ·intro tl2
            conv=>whnf
            repeat((first|refine dw ?_|refine bct c27 ?_);conv=>whnf)
            refine br_some h (fun c47 g=>?_) (fun c47 g=>?_)
            ·replace h:=g
             clear g
             conv=>whnf
             repeat((first|refine dw ?_|refine bct c47 ?_|refine bct (at_in am1) ?_|refine bct (andt (at_in am1) rfl) ?_|refine row_in (at_row am1) ?_|refine bct (andt (at_in (at_nat am1)) rfl) ?_|refine row_in (at_row (at_nat am1)) ?_);conv=>whnf)
             refine br_some h (fun c48 g=>?_) (fun c48 g=>?_)
             ·replace h:=g
              clear g
              conv=>whnf
              repeat((first|refine dw ?_|refine bct c48 ?_|refine bct c47 ?_);conv=>whnf)
              exact K _ h
             ·replace h:=g
              clear g
              conv=>whnf
              repeat((first|refine dw ?_|refine bcf c48 ?_|refine bct (at_in am1) ?_|refine bct (andt (at_in am1) rfl) ?_|refine row_in (at_row am1) ?_|refine bct (andt (at_in (at_nat am1)) rfl) ?_|refine row_in (at_row (at_nat am1)) ?_|refine bct c47 ?_);conv=>whnf)
              refine br_some h (fun c49 g=>?_) (fun c49 g=>?_)
              ·replace h:=g
               clear g
               conv=>whnf
               repeat((first|refine dw ?_|refine bct c49 ?_|refine bct c47 ?_);conv=>whnf)
               exact K _ h
              ·replace h:=g
               clear g
               conv=>whnf
               repeat((first|refine dw ?_|refine bcf c49 ?_|refine bct c47 ?_|refine bct (at_in am1) ?_|refine bct (andt (at_in am1) rfl) ?_|refine row_in (at_row am1) ?_|refine bct (andt (at_in (at_nat am1)) rfl) ?_|refine row_in (at_row (at_nat am1)) ?_);conv=>whnf)
               refine br_some h (fun c50 g=>?_) (fun c50 g=>?_)
               ·replace h:=g
                clear g
                conv=>whnf
                repeat((first|refine dw ?_|refine bct c50 ?_);conv=>whnf)
                exact K _ h
               ·replace h:=g
                clear g
                conv=>whnf
                repeat((first|refine dw ?_|refine bcf c50 ?_|refine bct (at_in am1) ?_|refine bct (andt (at_in am1) rfl) ?_|refine row_in (at_row am1) ?_|refine bct (andt (at_in (at_nat am1)) rfl) ?_|refine row_in (at_row (at_nat am1)) ?_);conv=>whnf)
                refine br_some h (fun c51 g=>?_) (fun c51 g=>?_)
                ·replace h:=g
                 clear g
                 conv=>whnf
                 repeat((first|refine dw ?_|refine bct c51 ?_);conv=>whnf)
                 exact K _ h
                ·replace h:=g
                 clear g
                 conv=>whnf
                 repeat((first|refine dw ?_|refine bcf c51 ?_|refine bct (at_in am1) ?_|refine bct (andt (at_in am1) rfl) ?_|refine row_in (at_row am1) ?_|refine bct (andt (at_in (at_nat am1)) rfl) ?_|refine row_in (at_row (at_nat am1)) ?_);conv=>whnf)
                 refine br_some h (fun c52 g=>?_) (fun c52 g=>?_)
                 ·replace h:=g
                  clear g
                  conv=>whnf
                  repeat((first|refine dw ?_|refine bct c52 ?_);conv=>whnf)
                  exact K _ h
                 ·replace h:=g
                  clear g
                  conv=>whnf
                  repeat((first|refine dw ?_|refine bcf c52 ?_);conv=>whnf)
                  exact tl2.h  h
            ·replace h:=g
             clear g
             conv=>whnf
             repeat((first|refine dw ?_|refine bcf c47 ?_|refine bct (at_in am1) ?_|refine bct (andt (at_in am1) rfl) ?_|refine row_in (at_row am1) ?_|refine bct (andt (at_in (at_nat am1)) rfl) ?_|refine row_in (at_row (at_nat am1)) ?_);conv=>whnf)
             refine br_some h (fun c53 g=>?_) (fun c53 g=>?_)
             ·replace h:=g
              clear g
              conv=>whnf
              repeat((first|refine dw ?_|refine bct c53 ?_);conv=>whnf)
              exact K _ h
             ·replace h:=g
              clear g
              conv=>whnf
              repeat((first|refine dw ?_|refine bcf c53 ?_|refine bct (at_in am1) ?_|refine bct (andt (at_in am1) rfl) ?_|refine row_in (at_row am1) ?_|refine bct (andt (at_in (at_nat am1)) rfl) ?_|refine row_in (at_row (at_nat am1)) ?_);conv=>whnf)
              refine br_some h (fun c54 g=>?_) (fun c54 g=>?_)
              ·replace h:=g
               clear g
               conv=>whnf
               repeat((first|refine dw ?_|refine bct c54 ?_);conv=>whnf)
               exact K _ h
              ·replace h:=g
               clear g
               conv=>whnf
               repeat((first|refine dw ?_|refine bcf c54 ?_|refine bct (at_in am1) ?_|refine bct (andt (at_in am1) rfl) ?_|refine row_in (at_row am1) ?_|refine bct (andt (at_in (at_nat am1)) rfl) ?_|refine row_in (at_row (at_nat am1)) ?_);conv=>whnf)
               refine br_some h (fun c55 g=>?_) (fun c55 g=>?_)
               ·replace h:=g
                clear g
                conv=>whnf
                repeat((first|refine dw ?_|refine bct c55 ?_);conv=>whnf)
                exact K _ h
               ·replace h:=g
                clear g
                conv=>whnf
                repeat((first|refine dw ?_|refine bcf c55 ?_);conv=>whnf)
                exact tl2.h  h
           ·intro h
            unfold law12_ServeNew_j2 at h
            refine rest_intro hX ?_
            replace h:=chk_some h
            obtain ⟨hs3,h⟩:=h
            conv=>whnf
            repeat((first|refine dw ?_);conv=>whnf)
            refine loop_lisx0 (fun (v28:Int)=>pad [(2,iv p2),(4,.one (.p (.v (.bool y1)))),(0,.one (.ptr 0 0)),(0,.one (.ptr 1 0)),(1,.one (.p (.sl (y19.map Msg.row)))),(0,iv (wr .i64 ((y19.length:Int) - 1))),(0,iv v26),(1,iv v28)] 286) (fun (v28:Int)=>[.box (Msg.cs y8),.box (State.cs y10)]) _ x1e.l (fun pre3 x3e xs3 v28  hl3 hi3 h ih3=>?_) (fun v28  hi3 h=>?_)  h
            ·rw [law12_ServeNew_l3] at h
             have am3:=at_mid hl3 hi3
             refine loop_intro hX ?_
             replace h:=bnd_some h
             obtain ⟨y29,e30,h⟩:=h
             conv=>whnf
             repeat((first|refine dw ?_|refine bct (at_in am1) ?_|refine bct (andt (at_in am1) rfl) ?_|refine row_in (at_row am1) ?_|refine bct (andt (at_in (at_nat am1)) rfl) ?_|refine row_in (at_row (at_nat am1)) ?_|refine eqv_to (map_len _) ?_|refine bct (lt_mid hl3 hi3) ?_|refine bct (at_in am3) ?_|refine bct (andt (at_in am3) rfl) ?_|refine row_in (at_row am3) ?_|refine bct (andt (at_in (at_nat am3)) rfl) ?_|refine row_in (at_row (at_nat am3)) ?_);conv=>whnf)
             refine ref06_Has_c hX e30 ?_
             replace h:=bnd_some h
             obtain ⟨y31,e32,h⟩:=h
             conv=>whnf
             repeat((first|refine dw ?_);conv=>whnf)
             refine ref03_Has_c hX e32 ?_
             replace h:=chk_some h
             obtain ⟨hs4,h⟩:=h
             conv=>whnf
             repeat((first|refine dw ?_);conv=>whnf)
             refine loop_lisx1 (fun (v34:Int) (v33:Bool)=>pad [(2,iv p2),(4,.one (.p (.v (.bool y1)))),(0,.one (.ptr 0 0)),(0,.one (.ptr 1 0)),(1,.one (.p (.sl (y19.map Msg.row)))),(0,iv (wr .i64 ((y19.length:Int) - 1))),(0,iv v26),(1,iv v28),(0,.one (.ptr 2 0)),(0,.one (.p (.v (.bool y29)))),(0,.one (.p (.v (.bool y31)))),(0,.one (.p (.v (.bool v33)))),(0,iv v34)] 281) (fun (v34:Int) (v33:Bool)=>[.box (Msg.cs y8),.box (State.cs y10),.box (Entry.cs x3e)]) _ y8.have_ (fun pre4 x4e xs4 v34 v33 hl4 hi4 h ih4=>?_) (fun v34 v33 hi4 h=>?_) false h
             ·rw [law12_ServeNew_l4] at h
              have am4:=at_mid hl4 hi4
              refine loop_intro hX ?_
              conv=>whnf
              repeat((first|refine dw ?_|refine eqv_to (map_len _) ?_|refine bct (lt_mid hl4 hi4) ?_);conv=>whnf)
              refine br_some h (fun c35 g=>?_) (fun c35 g=>?_)
              ·replace h:=g
               clear g
               conv=>whnf
               repeat((first|refine dw ?_|refine bct c35 ?_);conv=>whnf)
               exact ih4 _ true (wrL hs4 hl4 hi4) h
              ·replace h:=g
               clear g
               conv=>whnf
               repeat((first|refine dw ?_|refine bcf c35 ?_|refine bct (at_in am4) ?_|refine bct (andt (at_in am4) rfl) ?_|refine row_in (at_row am4) ?_|refine bct (andt (at_in (at_nat am4)) rfl) ?_|refine row_in (at_row (at_nat am4)) ?_);conv=>whnf)
               refine br_some h (fun c36 g=>?_) (fun c36 g=>?_)
               ·replace h:=g
                clear g
                conv=>whnf
                repeat((first|refine dw ?_|refine bct c36 ?_|refine bct (at_in am4) ?_|refine bct (andt (at_in am4) rfl) ?_|refine row_in (at_row am4) ?_|refine bct (andt (at_in (at_nat am4)) rfl) ?_|refine row_in (at_row (at_nat am4)) ?_|refine bcf c35 ?_);conv=>whnf)
                exact ih4 _ (andB (eqI x4e.vr x3e.item.vr) (andB (eqI x4e.vc x3e.item.vc) true)) (wrL hs4 hl4 hi4) h
               ·replace h:=g
                clear g
                conv=>whnf
                repeat((first|refine dw ?_|refine bcf c36 ?_|refine bcf c35 ?_);conv=>whnf)
                exact ih4 _ false (wrL hs4 hl4 hi4) h
             ·rw [law12_ServeNew_l4] at h
              refine loop_intro hX ?_
              conv=>whnf
              repeat((first|refine dw ?_|refine eqv_to (map_len _) ?_|refine bcf (lt_end hi4) ?_);conv=>whnf)
              refine br_some h (fun c37 g=>?_) (fun c37 g=>?_)
              ·replace h:=g
               clear g
               conv=>whnf
               repeat((first|refine dw ?_|refine bct c37 ?_);conv=>whnf)
               refine br_some h (fun c38 g=>?_) (fun c38 g=>?_)
               ·replace h:=g
                clear g
                conv=>whnf
                repeat((first|refine dw ?_|refine bct c38 ?_);conv=>whnf)
                exact K _ h
               ·replace h:=g
                clear g
                conv=>whnf
                repeat((first|refine dw ?_|refine bcf c38 ?_);conv=>whnf)
                refine br_some h (fun c39 g=>?_) (fun c39 g=>?_)
                ·replace h:=g
                 clear g
                 conv=>whnf
                 repeat((first|refine dw ?_|refine bct c39 ?_);conv=>whnf)
                 refine br_some h (fun c40 g=>?_) (fun c40 g=>?_)
                 ·replace h:=g
                  clear g
                  conv=>whnf
                  repeat((first|refine dw ?_|refine bct c40 ?_|refine bct c39 ?_|refine bcf c38 ?_);conv=>whnf)
                  exact K _ h
                 ·replace h:=g
                  clear g
                  conv=>whnf
                  repeat((first|refine dw ?_|refine bcf c40 ?_|refine bct c39 ?_);conv=>whnf)
                  refine br_some h (fun c41 g=>?_) (fun c41 g=>?_)
                  ·replace h:=g
                   clear g
                   conv=>whnf
                   repeat((first|refine dw ?_|refine bct c41 ?_|refine bct c39 ?_|refine bcf c38 ?_);conv=>whnf)
                   exact K _ h
                  ·replace h:=g
                   clear g
                   conv=>whnf
                   repeat((first|refine dw ?_|refine bcf c41 ?_|refine bct c39 ?_|refine bcf c38 ?_);conv=>whnf)
                   refine br_some h (fun c42 g=>?_) (fun c42 g=>?_)
                   ·replace h:=g
                    clear g
                    conv=>whnf
                    repeat((first|refine dw ?_|refine bct c42 ?_);conv=>whnf)
                    exact K _ h
                   ·replace h:=g
                    clear g
                    conv=>whnf
                    repeat((first|refine dw ?_|refine bcf c42 ?_);conv=>whnf)
                    exact ih3 _  (wrL hs3 hl3 hi3) h
                ·replace h:=g
                 clear g
                 conv=>whnf
                 repeat((first|refine dw ?_|refine bcf c39 ?_|refine bcf c38 ?_);conv=>whnf)
                 exact ih3 _  (wrL hs3 hl3 hi3) h
              ·replace h:=g
               clear g
               conv=>whnf
               repeat((first|refine dw ?_|refine bcf c37 ?_);conv=>whnf)
               refine br_some h (fun c43 g=>?_) (fun c43 g=>?_)
               ·replace h:=g
                clear g
                conv=>whnf
                repeat((first|refine dw ?_|refine bct c43 ?_);conv=>whnf)
                refine br_some h (fun c44 g=>?_) (fun c44 g=>?_)
                ·replace h:=g
                 clear g
                 conv=>whnf
                 repeat((first|refine dw ?_|refine bct c44 ?_|refine bct c43 ?_);conv=>whnf)
                 exact K _ h
                ·replace h:=g
                 clear g
                 conv=>whnf
                 repeat((first|refine dw ?_|refine bcf c44 ?_|refine bct c43 ?_);conv=>whnf)
                 refine br_some h (fun c45 g=>?_) (fun c45 g=>?_)
                 ·replace h:=g
                  clear g
                  conv=>whnf
                  repeat((first|refine dw ?_|refine bct c45 ?_|refine bct c43 ?_);conv=>whnf)
                  exact K _ h
                 ·replace h:=g
                  clear g
                  conv=>whnf
                  repeat((first|refine dw ?_|refine bcf c45 ?_|refine bct c43 ?_);conv=>whnf)
                  refine br_some h (fun c46 g=>?_) (fun c46 g=>?_)
                  ·replace h:=g
                   clear g
                   conv=>whnf
                   repeat((first|refine dw ?_|refine bct c46 ?_);conv=>whnf)
                   exact K _ h
                  ·replace h:=g
                   clear g
                   conv=>whnf
                   repeat((first|refine dw ?_|refine bcf c46 ?_);conv=>whnf)
                   exact ih3 _  (wrL hs3 hl3 hi3) h
               ·replace h:=g
                clear g
                conv=>whnf
                repeat((first|refine dw ?_|refine bcf c43 ?_);conv=>whnf)
                exact ih3 _  (wrL hs3 hl3 hi3) h
            ·rw [law12_ServeNew_l3] at h
             refine loop_intro hX ?_
             conv=>whnf
             repeat((first|refine dw ?_|refine bct (at_in am1) ?_|refine bct (andt (at_in am1) rfl) ?_|refine row_in (at_row am1) ?_|refine bct (andt (at_in (at_nat am1)) rfl) ?_|refine row_in (at_row (at_nat am1)) ?_|refine eqv_to (map_len _) ?_|refine bcf (lt_end hi3) ?_);conv=>whnf)
             exact ih1 _  (wrL hs1 hl1 hi1) h
          ·replace h:=g
           clear g
           conv=>whnf
           repeat((first|refine dw ?_|refine bcf c27 ?_);conv=>whnf)
           refine br_some h (fun c56 g=>?_) (fun c56 g=>?_)
           ·replace h:=g
            clear g
            conv=>whnf
            repeat((first|refine dw ?_|refine bct c56 ?_|refine bct (at_in am1) ?_|refine bct (andt (at_in am1) rfl) ?_|refine row_in (at_row am1) ?_|refine bct (andt (at_in (at_nat am1)) rfl) ?_|refine row_in (at_row (at_nat am1)) ?_|refine eqv_to (map_len _) ?_|refine bcf c27 ?_);conv=>whnf)
            refine br_some h (fun c57 g=>?_) (fun c57 g=>?_)
            ·replace h:=g
             clear g
             apply join0 (X:=X) (r:=r) (pad [(2,iv p2),(4,.one (.p (.v (.bool y1)))),(0,.one (.ptr 0 0)),(0,.one (.ptr 1 0)),(1,.one (.p (.sl (y19.map Msg.row)))),(0,iv (wr .i64 ((y19.length:Int) - 1))),(0,iv v26)] 288) ([.box (Msg.cs y8),.box (State.cs y10)])
             ·intro tl5
              conv=>whnf
              repeat((first|refine dw ?_|refine bct c57 ?_|refine bct (at_in am1) ?_|refine bct (andt (at_in am1) rfl) ?_|refine row_in (at_row am1) ?_|refine bct (andt (at_in (at_nat am1)) rfl) ?_|refine row_in (at_row (at_nat am1)) ?_|refine eqv_to (map_len _) ?_|refine bcf c27 ?_);conv=>whnf)
              refine br_some h (fun c77 g=>?_) (fun c77 g=>?_)
              ·replace h:=g
               clear g
               conv=>whnf
               repeat((first|refine dw ?_|refine bct c77 ?_|refine bct (at_in am1) ?_|refine bct (andt (at_in am1) rfl) ?_|refine row_in (at_row am1) ?_|refine bct (andt (at_in (at_nat am1)) rfl) ?_|refine row_in (at_row (at_nat am1)) ?_);conv=>whnf)
               refine br_some h (fun c78 g=>?_) (fun c78 g=>?_)
               ·replace h:=g
                clear g
                conv=>whnf
                repeat((first|refine dw ?_|refine bct c78 ?_|refine bct c77 ?_);conv=>whnf)
                exact K _ h
               ·replace h:=g
                clear g
                conv=>whnf
                repeat((first|refine dw ?_|refine bcf c78 ?_|refine bct (at_in am1) ?_|refine bct (andt (at_in am1) rfl) ?_|refine row_in (at_row am1) ?_|refine bct (andt (at_in (at_nat am1)) rfl) ?_|refine row_in (at_row (at_nat am1)) ?_|refine bct c77 ?_);conv=>whnf)
                refine br_some h (fun c79 g=>?_) (fun c79 g=>?_)
                ·replace h:=g
                 clear g
                 conv=>whnf
                 repeat((first|refine dw ?_|refine bct c79 ?_|refine bct c77 ?_);conv=>whnf)
                 exact K _ h
                ·replace h:=g
                 clear g
                 conv=>whnf
                 repeat((first|refine dw ?_|refine bcf c79 ?_|refine bct c77 ?_);conv=>whnf)
                 refine br_some h (fun c80 g=>?_) (fun c80 g=>?_)
                 ·replace h:=g
                  clear g
                  conv=>whnf
                  repeat((first|refine dw ?_|refine bct c80 ?_);conv=>whnf)
                  exact K _ h
                 ·replace h:=g
                  clear g
                  conv=>whnf
                  repeat((first|refine dw ?_|refine bcf c80 ?_|refine bct (at_in am1) ?_|refine bct (andt (at_in am1) rfl) ?_|refine row_in (at_row am1) ?_|refine bct (andt (at_in (at_nat am1)) rfl) ?_|refine row_in (at_row (at_nat am1)) ?_);conv=>whnf)
                  refine br_some h (fun c81 g=>?_) (fun c81 g=>?_)
                  ·replace h:=g
                   clear g
                   conv=>whnf
                   repeat((first|refine dw ?_|refine bct c81 ?_);conv=>whnf)
                   exact K _ h
                  ·replace h:=g
                   clear g
                   conv=>whnf
                   repeat((first|refine dw ?_|refine bcf c81 ?_|refine bct (at_in am1) ?_|refine bct (andt (at_in am1) rfl) ?_|refine row_in (at_row am1) ?_|refine bct (andt (at_in (at_nat am1)) rfl) ?_|refine row_in (at_row (at_nat am1)) ?_);conv=>whnf)
                   refine br_some h (fun c82 g=>?_) (fun c82 g=>?_)
                   ·replace h:=g
                    clear g
                    conv=>whnf
                    repeat((first|refine dw ?_|refine bct c82 ?_);conv=>whnf)
                    exact K _ h
                   ·replace h:=g
                    clear g
                    conv=>whnf
                    repeat((first|refine dw ?_|refine bcf c82 ?_|refine bct (at_in am1) ?_|refine bct (andt (at_in am1) rfl) ?_|refine row_in (at_row am1) ?_|refine bct (andt (at_in (at_nat am1)) rfl) ?_|refine row_in (at_row (at_nat am1)) ?_);conv=>whnf)
                    refine br_some h (fun c83 g=>?_) (fun c83 g=>?_)
                    ·replace h:=g
                     clear g
                     conv=>whnf
                     repeat((first|refine dw ?_|refine bct c83 ?_);conv=>whnf)
                     exact K _ h
                    ·replace h:=g
                     clear g
                     conv=>whnf
                     repeat((first|refine dw ?_|refine bcf c83 ?_);conv=>whnf)
                     exact tl5.h  h
              ·replace h:=g
               clear g
               conv=>whnf
               repeat((first|refine dw ?_|refine bcf c77 ?_|refine bct (at_in am1) ?_|refine bct (andt (at_in am1) rfl) ?_|refine row_in (at_row am1) ?_|refine bct (andt (at_in (at_nat am1)) rfl) ?_|refine row_in (at_row (at_nat am1)) ?_);conv=>whnf)
               refine br_some h (fun c84 g=>?_) (fun c84 g=>?_)
               ·replace h:=g
                clear g
                conv=>whnf
                repeat((first|refine dw ?_|refine bct c84 ?_);conv=>whnf)
                exact K _ h
               ·replace h:=g
                clear g
                conv=>whnf
                repeat((first|refine dw ?_|refine bcf c84 ?_|refine bct (at_in am1) ?_|refine bct (andt (at_in am1) rfl) ?_|refine row_in (at_row am1) ?_|refine bct (andt (at_in (at_nat am1)) rfl) ?_|refine row_in (at_row (at_nat am1)) ?_);conv=>whnf)
                refine br_some h (fun c85 g=>?_) (fun c85 g=>?_)
                ·replace h:=g
                 clear g
                 conv=>whnf
                 repeat((first|refine dw ?_|refine bct c85 ?_);conv=>whnf)
                 exact K _ h
                ·replace h:=g
                 clear g
                 conv=>whnf
                 repeat((first|refine dw ?_|refine bcf c85 ?_|refine bct (at_in am1) ?_|refine bct (andt (at_in am1) rfl) ?_|refine row_in (at_row am1) ?_|refine bct (andt (at_in (at_nat am1)) rfl) ?_|refine row_in (at_row (at_nat am1)) ?_);conv=>whnf)
                 refine br_some h (fun c86 g=>?_) (fun c86 g=>?_)
                 ·replace h:=g
                  clear g
                  conv=>whnf
                  repeat((first|refine dw ?_|refine bct c86 ?_);conv=>whnf)
                  exact K _ h
                 ·replace h:=g
                  clear g
                  conv=>whnf
                  repeat((first|refine dw ?_|refine bcf c86 ?_);conv=>whnf)
                  exact tl5.h  h
             ·intro h
              unfold law12_ServeNew_j5 at h
              refine rest_intro hX ?_
              replace h:=chk_some h
              obtain ⟨hs6,h⟩:=h
              conv=>whnf
              repeat((first|refine dw ?_);conv=>whnf)
              refine loop_lisx0 (fun (v58:Int)=>pad [(2,iv p2),(4,.one (.p (.v (.bool y1)))),(0,.one (.ptr 0 0)),(0,.one (.ptr 1 0)),(1,.one (.p (.sl (y19.map Msg.row)))),(0,iv (wr .i64 ((y19.length:Int) - 1))),(0,iv v26),(1,iv v58)] 286) (fun (v58:Int)=>[.box (Msg.cs y8),.box (State.cs y10)]) _ x1e.l (fun pre6 x6e xs6 v58  hl6 hi6 h ih6=>?_) (fun v58  hi6 h=>?_)  h
              ·rw [law12_ServeNew_l6] at h
               have am6:=at_mid hl6 hi6
               refine loop_intro hX ?_
               replace h:=bnd_some h
               obtain ⟨y59,e60,h⟩:=h
               conv=>whnf
               repeat((first|refine dw ?_|refine bct (at_in am1) ?_|refine bct (andt (at_in am1) rfl) ?_|refine row_in (at_row am1) ?_|refine bct (andt (at_in (at_nat am1)) rfl) ?_|refine row_in (at_row (at_nat am1)) ?_|refine eqv_to (map_len _) ?_|refine bct (lt_mid hl6 hi6) ?_|refine bct (at_in am6) ?_|refine bct (andt (at_in am6) rfl) ?_|refine row_in (at_row am6) ?_|refine bct (andt (at_in (at_nat am6)) rfl) ?_|refine row_in (at_row (at_nat am6)) ?_);conv=>whnf)
               refine ref06_Has_c hX e60 ?_
               replace h:=bnd_some h
               obtain ⟨y61,e62,h⟩:=h
               conv=>whnf
               repeat((first|refine dw ?_);conv=>whnf)
               refine ref03_Has_c hX e62 ?_
               replace h:=chk_some h
               obtain ⟨hs7,h⟩:=h
               conv=>whnf
               repeat((first|refine dw ?_);conv=>whnf)
               refine loop_lisx1 (fun (v64:Int) (v63:Bool)=>pad [(2,iv p2),(4,.one (.p (.v (.bool y1)))),(0,.one (.ptr 0 0)),(0,.one (.ptr 1 0)),(1,.one (.p (.sl (y19.map Msg.row)))),(0,iv (wr .i64 ((y19.length:Int) - 1))),(0,iv v26),(1,iv v58),(0,.one (.ptr 2 0)),(0,.one (.p (.v (.bool y59)))),(0,.one (.p (.v (.bool y61)))),(0,.one (.p (.v (.bool v63)))),(0,iv v64)] 281) (fun (v64:Int) (v63:Bool)=>[.box (Msg.cs y8),.box (State.cs y10),.box (Entry.cs x6e)]) _ y8.have_ (fun pre7 x7e xs7 v64 v63 hl7 hi7 h ih7=>?_) (fun v64 v63 hi7 h=>?_) false h
               ·rw [law12_ServeNew_l7] at h
                have am7:=at_mid hl7 hi7
                refine loop_intro hX ?_
                conv=>whnf
                repeat((first|refine dw ?_|refine eqv_to (map_len _) ?_|refine bct (lt_mid hl7 hi7) ?_);conv=>whnf)
                refine br_some h (fun c65 g=>?_) (fun c65 g=>?_)
                ·replace h:=g
                 clear g
                 conv=>whnf
                 repeat((first|refine dw ?_|refine bct c65 ?_);conv=>whnf)
                 exact ih7 _ true (wrL hs7 hl7 hi7) h
                ·replace h:=g
                 clear g
                 conv=>whnf
                 repeat((first|refine dw ?_|refine bcf c65 ?_|refine bct (at_in am7) ?_|refine bct (andt (at_in am7) rfl) ?_|refine row_in (at_row am7) ?_|refine bct (andt (at_in (at_nat am7)) rfl) ?_|refine row_in (at_row (at_nat am7)) ?_);conv=>whnf)
                 refine br_some h (fun c66 g=>?_) (fun c66 g=>?_)
                 ·replace h:=g
                  clear g
                  conv=>whnf
                  repeat((first|refine dw ?_|refine bct c66 ?_|refine bct (at_in am7) ?_|refine bct (andt (at_in am7) rfl) ?_|refine row_in (at_row am7) ?_|refine bct (andt (at_in (at_nat am7)) rfl) ?_|refine row_in (at_row (at_nat am7)) ?_|refine bcf c65 ?_);conv=>whnf)
                  exact ih7 _ (andB (eqI x7e.vr x6e.item.vr) (andB (eqI x7e.vc x6e.item.vc) true)) (wrL hs7 hl7 hi7) h
                 ·replace h:=g
                  clear g
                  conv=>whnf
                  repeat((first|refine dw ?_|refine bcf c66 ?_|refine bcf c65 ?_);conv=>whnf)
                  exact ih7 _ false (wrL hs7 hl7 hi7) h
               ·rw [law12_ServeNew_l7] at h
                refine loop_intro hX ?_
                conv=>whnf
                repeat((first|refine dw ?_|refine eqv_to (map_len _) ?_|refine bcf (lt_end hi7) ?_);conv=>whnf)
                refine br_some h (fun c67 g=>?_) (fun c67 g=>?_)
                ·replace h:=g
                 clear g
                 conv=>whnf
                 repeat((first|refine dw ?_|refine bct c67 ?_);conv=>whnf)
                 refine br_some h (fun c68 g=>?_) (fun c68 g=>?_)
                 ·replace h:=g
                  clear g
                  conv=>whnf
                  repeat((first|refine dw ?_|refine bct c68 ?_);conv=>whnf)
                  exact K _ h
                 ·replace h:=g
                  clear g
                  conv=>whnf
                  repeat((first|refine dw ?_|refine bcf c68 ?_);conv=>whnf)
                  refine br_some h (fun c69 g=>?_) (fun c69 g=>?_)
                  ·replace h:=g
                   clear g
                   conv=>whnf
                   repeat((first|refine dw ?_|refine bct c69 ?_);conv=>whnf)
                   refine br_some h (fun c70 g=>?_) (fun c70 g=>?_)
                   ·replace h:=g
                    clear g
                    conv=>whnf
                    repeat((first|refine dw ?_|refine bct c70 ?_|refine bct c69 ?_|refine bcf c68 ?_);conv=>whnf)
                    exact K _ h
                   ·replace h:=g
                    clear g
                    conv=>whnf
                    repeat((first|refine dw ?_|refine bcf c70 ?_|refine bct c69 ?_);conv=>whnf)
                    refine br_some h (fun c71 g=>?_) (fun c71 g=>?_)
                    ·replace h:=g
                     clear g
                     conv=>whnf
                     repeat((first|refine dw ?_|refine bct c71 ?_|refine bct c69 ?_|refine bcf c68 ?_);conv=>whnf)
                     exact K _ h
                    ·replace h:=g
                     clear g
                     conv=>whnf
                     repeat((first|refine dw ?_|refine bcf c71 ?_|refine bct c69 ?_|refine bcf c68 ?_);conv=>whnf)
                     refine br_some h (fun c72 g=>?_) (fun c72 g=>?_)
                     ·replace h:=g
                      clear g
                      conv=>whnf
                      repeat((first|refine dw ?_|refine bct c72 ?_);conv=>whnf)
                      exact K _ h
                     ·replace h:=g
                      clear g
                      conv=>whnf
                      repeat((first|refine dw ?_|refine bcf c72 ?_);conv=>whnf)
                      exact ih6 _  (wrL hs6 hl6 hi6) h
                  ·replace h:=g
                   clear g
                   conv=>whnf
                   repeat((first|refine dw ?_|refine bcf c69 ?_|refine bcf c68 ?_);conv=>whnf)
                   exact ih6 _  (wrL hs6 hl6 hi6) h
                ·replace h:=g
                 clear g
                 conv=>whnf
                 repeat((first|refine dw ?_|refine bcf c67 ?_);conv=>whnf)
                 refine br_some h (fun c73 g=>?_) (fun c73 g=>?_)
                 ·replace h:=g
                  clear g
                  conv=>whnf
                  repeat((first|refine dw ?_|refine bct c73 ?_);conv=>whnf)
                  refine br_some h (fun c74 g=>?_) (fun c74 g=>?_)
                  ·replace h:=g
                   clear g
                   conv=>whnf
                   repeat((first|refine dw ?_|refine bct c74 ?_|refine bct c73 ?_);conv=>whnf)
                   exact K _ h
                  ·replace h:=g
                   clear g
                   conv=>whnf
                   repeat((first|refine dw ?_|refine bcf c74 ?_|refine bct c73 ?_);conv=>whnf)
                   refine br_some h (fun c75 g=>?_) (fun c75 g=>?_)
                   ·replace h:=g
                    clear g
                    conv=>whnf
                    repeat((first|refine dw ?_|refine bct c75 ?_|refine bct c73 ?_);conv=>whnf)
                    exact K _ h
                   ·replace h:=g
                    clear g
                    conv=>whnf
                    repeat((first|refine dw ?_|refine bcf c75 ?_|refine bct c73 ?_);conv=>whnf)
                    refine br_some h (fun c76 g=>?_) (fun c76 g=>?_)
                    ·replace h:=g
                     clear g
                     conv=>whnf
                     repeat((first|refine dw ?_|refine bct c76 ?_);conv=>whnf)
                     exact K _ h
                    ·replace h:=g
                     clear g
                     conv=>whnf
                     repeat((first|refine dw ?_|refine bcf c76 ?_);conv=>whnf)
                     exact ih6 _  (wrL hs6 hl6 hi6) h
                 ·replace h:=g
                  clear g
                  conv=>whnf
                  repeat((first|refine dw ?_|refine bcf c73 ?_);conv=>whnf)
                  exact ih6 _  (wrL hs6 hl6 hi6) h
              ·rw [law12_ServeNew_l6] at h
               refine loop_intro hX ?_
               conv=>whnf
               repeat((first|refine dw ?_|refine bct (at_in am1) ?_|refine bct (andt (at_in am1) rfl) ?_|refine row_in (at_row am1) ?_|refine bct (andt (at_in (at_nat am1)) rfl) ?_|refine row_in (at_row (at_nat am1)) ?_|refine eqv_to (map_len _) ?_|refine bcf (lt_end hi6) ?_);conv=>whnf)
               exact ih1 _  (wrL hs1 hl1 hi1) h
            ·replace h:=g
             clear g
             conv=>whnf
             repeat((first|refine dw ?_|refine bcf c57 ?_|refine bcf c27 ?_);conv=>whnf)
             refine br_some h (fun c87 g=>?_) (fun c87 g=>?_)
             ·replace h:=g
              clear g
              conv=>whnf
              repeat((first|refine dw ?_|refine bct c87 ?_|refine bct (at_in am1) ?_|refine bct (andt (at_in am1) rfl) ?_|refine row_in (at_row am1) ?_|refine bct (andt (at_in (at_nat am1)) rfl) ?_|refine row_in (at_row (at_nat am1)) ?_);conv=>whnf)
              refine br_some h (fun c88 g=>?_) (fun c88 g=>?_)
              ·replace h:=g
               clear g
               conv=>whnf
               repeat((first|refine dw ?_|refine bct c88 ?_|refine bct c87 ?_);conv=>whnf)
               exact K _ h
              ·replace h:=g
               clear g
               conv=>whnf
               repeat((first|refine dw ?_|refine bcf c88 ?_|refine bct (at_in am1) ?_|refine bct (andt (at_in am1) rfl) ?_|refine row_in (at_row am1) ?_|refine bct (andt (at_in (at_nat am1)) rfl) ?_|refine row_in (at_row (at_nat am1)) ?_|refine bct c87 ?_);conv=>whnf)
               refine br_some h (fun c89 g=>?_) (fun c89 g=>?_)
               ·replace h:=g
                clear g
                conv=>whnf
                repeat((first|refine dw ?_|refine bct c89 ?_|refine bct c87 ?_);conv=>whnf)
                exact K _ h
               ·replace h:=g
                clear g
                conv=>whnf
                repeat((first|refine dw ?_|refine bcf c89 ?_|refine bct c87 ?_);conv=>whnf)
                exact K _ h
             ·replace h:=g
              clear g
              conv=>whnf
              repeat((first|refine dw ?_|refine bcf c87 ?_|refine bct (at_in am1) ?_|refine bct (andt (at_in am1) rfl) ?_|refine row_in (at_row am1) ?_|refine bct (andt (at_in (at_nat am1)) rfl) ?_|refine row_in (at_row (at_nat am1)) ?_);conv=>whnf)
              refine br_some h (fun c90 g=>?_) (fun c90 g=>?_)
              ·replace h:=g
               clear g
               conv=>whnf
               repeat((first|refine dw ?_|refine bct c90 ?_);conv=>whnf)
               exact K _ h
              ·replace h:=g
               clear g
               conv=>whnf
               repeat((first|refine dw ?_|refine bcf c90 ?_|refine bct (at_in am1) ?_|refine bct (andt (at_in am1) rfl) ?_|refine row_in (at_row am1) ?_|refine bct (andt (at_in (at_nat am1)) rfl) ?_|refine row_in (at_row (at_nat am1)) ?_);conv=>whnf)
               refine br_some h (fun c91 g=>?_) (fun c91 g=>?_)
               ·replace h:=g
                clear g
                conv=>whnf
                repeat((first|refine dw ?_|refine bct c91 ?_);conv=>whnf)
                exact K _ h
               ·replace h:=g
                clear g
                conv=>whnf
                repeat((first|refine dw ?_|refine bcf c91 ?_|refine bct (at_in am1) ?_|refine bct (andt (at_in am1) rfl) ?_|refine row_in (at_row am1) ?_|refine bct (andt (at_in (at_nat am1)) rfl) ?_|refine row_in (at_row (at_nat am1)) ?_);conv=>whnf)
                refine br_some h (fun c92 g=>?_) (fun c92 g=>?_)
                ·replace h:=g
                 clear g
                 conv=>whnf
                 repeat((first|refine dw ?_|refine bct c92 ?_);conv=>whnf)
                 exact K _ h
                ·replace h:=g
                 clear g
                 conv=>whnf
                 repeat((first|refine dw ?_|refine bcf c92 ?_);conv=>whnf)
                 refine rest_intro hX ?_
                 conv=>whnf
                 repeat((first|refine dw ?_);conv=>whnf)
                 refine loop_fuel0 (pad [(2,iv p2),(4,.one (.p (.v (.bool y1)))),(0,.one (.ptr 0 0)),(0,.one (.ptr 1 0)),(1,.one (.p (.sl (y19.map Msg.row)))),(0,iv (wr .i64 ((y19.length:Int) - 1))),(0,iv v26),(1,iv 0)] 286) [.box (Msg.cs y8),.box (State.cs y10)] _ (fun _ h=>?_) (fun fl8  h ih8=>?_) fuelN  h
                 ·rw [law12_ServeNew_l8] at h
                  cases h
                 ·rw [law12_ServeNew_l8] at h
                  refine loop_intro hX ?_
                  conv=>whnf
                  repeat((first|refine dw ?_|refine bct (at_in am1) ?_|refine bct (andt (at_in am1) rfl) ?_|refine row_in (at_row am1) ?_|refine bct (andt (at_in (at_nat am1)) rfl) ?_|refine row_in (at_row (at_nat am1)) ?_|refine eqv_to (map_len _) ?_|refine bcf c57 ?_);conv=>whnf)
                  exact ih1 _  (wrL hs1 hl1 hi1) h
           ·replace h:=g
            clear g
            conv=>whnf
            repeat((first|refine dw ?_|refine bcf c56 ?_|refine bcf c27 ?_);conv=>whnf)
            refine br_some h (fun c93 g=>?_) (fun c93 g=>?_)
            ·replace h:=g
             clear g
             conv=>whnf
             repeat((first|refine dw ?_|refine bct c93 ?_|refine bct (at_in am1) ?_|refine bct (andt (at_in am1) rfl) ?_|refine row_in (at_row am1) ?_|refine bct (andt (at_in (at_nat am1)) rfl) ?_|refine row_in (at_row (at_nat am1)) ?_);conv=>whnf)
             refine br_some h (fun c94 g=>?_) (fun c94 g=>?_)
             ·replace h:=g
              clear g
              conv=>whnf
              repeat((first|refine dw ?_|refine bct c94 ?_|refine bct c93 ?_);conv=>whnf)
              exact K _ h
             ·replace h:=g
              clear g
              conv=>whnf
              repeat((first|refine dw ?_|refine bcf c94 ?_|refine bct (at_in am1) ?_|refine bct (andt (at_in am1) rfl) ?_|refine row_in (at_row am1) ?_|refine bct (andt (at_in (at_nat am1)) rfl) ?_|refine row_in (at_row (at_nat am1)) ?_|refine bct c93 ?_);conv=>whnf)
              refine br_some h (fun c95 g=>?_) (fun c95 g=>?_)
              ·replace h:=g
               clear g
               conv=>whnf
               repeat((first|refine dw ?_|refine bct c95 ?_|refine bct c93 ?_);conv=>whnf)
               exact K _ h
              ·replace h:=g
               clear g
               conv=>whnf
               repeat((first|refine dw ?_|refine bcf c95 ?_|refine bct c93 ?_);conv=>whnf)
               exact K _ h
            ·replace h:=g
             clear g
             conv=>whnf
             repeat((first|refine dw ?_|refine bcf c93 ?_|refine bct (at_in am1) ?_|refine bct (andt (at_in am1) rfl) ?_|refine row_in (at_row am1) ?_|refine bct (andt (at_in (at_nat am1)) rfl) ?_|refine row_in (at_row (at_nat am1)) ?_);conv=>whnf)
             refine br_some h (fun c96 g=>?_) (fun c96 g=>?_)
             ·replace h:=g
              clear g
              conv=>whnf
              repeat((first|refine dw ?_|refine bct c96 ?_);conv=>whnf)
              exact K _ h
             ·replace h:=g
              clear g
              conv=>whnf
              repeat((first|refine dw ?_|refine bcf c96 ?_|refine bct (at_in am1) ?_|refine bct (andt (at_in am1) rfl) ?_|refine row_in (at_row am1) ?_|refine bct (andt (at_in (at_nat am1)) rfl) ?_|refine row_in (at_row (at_nat am1)) ?_);conv=>whnf)
              refine br_some h (fun c97 g=>?_) (fun c97 g=>?_)
              ·replace h:=g
               clear g
               conv=>whnf
               repeat((first|refine dw ?_|refine bct c97 ?_);conv=>whnf)
               exact K _ h
              ·replace h:=g
               clear g
               conv=>whnf
               repeat((first|refine dw ?_|refine bcf c97 ?_|refine bct (at_in am1) ?_|refine bct (andt (at_in am1) rfl) ?_|refine row_in (at_row am1) ?_|refine bct (andt (at_in (at_nat am1)) rfl) ?_|refine row_in (at_row (at_nat am1)) ?_);conv=>whnf)
               refine br_some h (fun c98 g=>?_) (fun c98 g=>?_)
               ·replace h:=g
                clear g
                conv=>whnf
                repeat((first|refine dw ?_|refine bct c98 ?_);conv=>whnf)
                exact K _ h
               ·replace h:=g
                clear g
                conv=>whnf
                repeat((first|refine dw ?_|refine bcf c98 ?_);conv=>whnf)
                refine rest_intro hX ?_
                replace h:=chk_some h
                obtain ⟨hs9,h⟩:=h
                conv=>whnf
                repeat((first|refine dw ?_);conv=>whnf)
                refine loop_lisx0 (fun (v99:Int)=>pad [(2,iv p2),(4,.one (.p (.v (.bool y1)))),(0,.one (.ptr 0 0)),(0,.one (.ptr 1 0)),(1,.one (.p (.sl (y19.map Msg.row)))),(0,iv (wr .i64 ((y19.length:Int) - 1))),(0,iv v26),(1,iv v99)] 286) (fun (v99:Int)=>[.box (Msg.cs y8),.box (State.cs y10)]) _ x1e.l (fun pre9 x9e xs9 v99  hl9 hi9 h ih9=>?_) (fun v99  hi9 h=>?_)  h
                ·rw [law12_ServeNew_l9] at h
                 have am9:=at_mid hl9 hi9
                 refine loop_intro hX ?_
                 replace h:=bnd_some h
                 obtain ⟨y100,e101,h⟩:=h
                 conv=>whnf
                 repeat((first|refine dw ?_|refine bct (at_in am1) ?_|refine bct (andt (at_in am1) rfl) ?_|refine row_in (at_row am1) ?_|refine bct (andt (at_in (at_nat am1)) rfl) ?_|refine row_in (at_row (at_nat am1)) ?_|refine eqv_to (map_len _) ?_|refine bct (lt_mid hl9 hi9) ?_|refine bct (at_in am9) ?_|refine bct (andt (at_in am9) rfl) ?_|refine row_in (at_row am9) ?_|refine bct (andt (at_in (at_nat am9)) rfl) ?_|refine row_in (at_row (at_nat am9)) ?_);conv=>whnf)
                 refine ref06_Has_c hX e101 ?_
                 replace h:=bnd_some h
                 obtain ⟨y102,e103,h⟩:=h
                 conv=>whnf
                 repeat((first|refine dw ?_);conv=>whnf)
                 refine ref03_Has_c hX e103 ?_
                 replace h:=chk_some h
                 obtain ⟨hs10,h⟩:=h
                 conv=>whnf
                 repeat((first|refine dw ?_);conv=>whnf)
                 refine loop_lisx1 (fun (v105:Int) (v104:Bool)=>pad [(2,iv p2),(4,.one (.p (.v (.bool y1)))),(0,.one (.ptr 0 0)),(0,.one (.ptr 1 0)),(1,.one (.p (.sl (y19.map Msg.row)))),(0,iv (wr .i64 ((y19.length:Int) - 1))),(0,iv v26),(1,iv v99),(0,.one (.ptr 2 0)),(0,.one (.p (.v (.bool y100)))),(0,.one (.p (.v (.bool y102)))),(0,.one (.p (.v (.bool v104)))),(0,iv v105)] 281) (fun (v105:Int) (v104:Bool)=>[.box (Msg.cs y8),.box (State.cs y10),.box (Entry.cs x9e)]) _ y8.have_ (fun pre10 x10e xs10 v105 v104 hl10 hi10 h ih10=>?_) (fun v105 v104 hi10 h=>?_) false h
                 ·rw [law12_ServeNew_l10] at h
                  have am10:=at_mid hl10 hi10
                  refine loop_intro hX ?_
                  conv=>whnf
                  repeat((first|refine dw ?_|refine eqv_to (map_len _) ?_|refine bct (lt_mid hl10 hi10) ?_);conv=>whnf)
                  refine br_some h (fun c106 g=>?_) (fun c106 g=>?_)
                  ·replace h:=g
                   clear g
                   conv=>whnf
                   repeat((first|refine dw ?_|refine bct c106 ?_);conv=>whnf)
                   exact ih10 _ true (wrL hs10 hl10 hi10) h
                  ·replace h:=g
                   clear g
                   conv=>whnf
                   repeat((first|refine dw ?_|refine bcf c106 ?_|refine bct (at_in am10) ?_|refine bct (andt (at_in am10) rfl) ?_|refine row_in (at_row am10) ?_|refine bct (andt (at_in (at_nat am10)) rfl) ?_|refine row_in (at_row (at_nat am10)) ?_);conv=>whnf)
                   refine br_some h (fun c107 g=>?_) (fun c107 g=>?_)
                   ·replace h:=g
                    clear g
                    conv=>whnf
                    repeat((first|refine dw ?_|refine bct c107 ?_|refine bct (at_in am10) ?_|refine bct (andt (at_in am10) rfl) ?_|refine row_in (at_row am10) ?_|refine bct (andt (at_in (at_nat am10)) rfl) ?_|refine row_in (at_row (at_nat am10)) ?_|refine bcf c106 ?_);conv=>whnf)
                    exact ih10 _ (andB (eqI x10e.vr x9e.item.vr) (andB (eqI x10e.vc x9e.item.vc) true)) (wrL hs10 hl10 hi10) h
                   ·replace h:=g
                    clear g
                    conv=>whnf
                    repeat((first|refine dw ?_|refine bcf c107 ?_|refine bcf c106 ?_);conv=>whnf)
                    exact ih10 _ false (wrL hs10 hl10 hi10) h
                 ·rw [law12_ServeNew_l10] at h
                  refine loop_intro hX ?_
                  conv=>whnf
                  repeat((first|refine dw ?_|refine eqv_to (map_len _) ?_|refine bcf (lt_end hi10) ?_);conv=>whnf)
                  refine br_some h (fun c108 g=>?_) (fun c108 g=>?_)
                  ·replace h:=g
                   clear g
                   conv=>whnf
                   repeat((first|refine dw ?_|refine bct c108 ?_);conv=>whnf)
                   refine br_some h (fun c109 g=>?_) (fun c109 g=>?_)
                   ·replace h:=g
                    clear g
                    conv=>whnf
                    repeat((first|refine dw ?_|refine bct c109 ?_);conv=>whnf)
                    exact K _ h
                   ·replace h:=g
                    clear g
                    conv=>whnf
                    repeat((first|refine dw ?_|refine bcf c109 ?_);conv=>whnf)
                    refine br_some h (fun c110 g=>?_) (fun c110 g=>?_)
                    ·replace h:=g
                     clear g
                     conv=>whnf
                     repeat((first|refine dw ?_|refine bct c110 ?_);conv=>whnf)
                     refine br_some h (fun c111 g=>?_) (fun c111 g=>?_)
                     ·replace h:=g
                      clear g
                      conv=>whnf
                      repeat((first|refine dw ?_|refine bct c111 ?_|refine bct c110 ?_|refine bcf c109 ?_);conv=>whnf)
                      exact K _ h
                     ·replace h:=g
                      clear g
                      conv=>whnf
                      repeat((first|refine dw ?_|refine bcf c111 ?_|refine bct c110 ?_);conv=>whnf)
                      refine br_some h (fun c112 g=>?_) (fun c112 g=>?_)
                      ·replace h:=g
                       clear g
                       conv=>whnf
                       repeat((first|refine dw ?_|refine bct c112 ?_|refine bct c110 ?_|refine bcf c109 ?_);conv=>whnf)
                       exact K _ h
                      ·replace h:=g
                       clear g
                       conv=>whnf
                       repeat((first|refine dw ?_|refine bcf c112 ?_|refine bct c110 ?_|refine bcf c109 ?_);conv=>whnf)
                       refine br_some h (fun c113 g=>?_) (fun c113 g=>?_)
                       ·replace h:=g
                        clear g
                        conv=>whnf
                        repeat((first|refine dw ?_|refine bct c113 ?_);conv=>whnf)
                        exact K _ h
                       ·replace h:=g
                        clear g
                        conv=>whnf
                        repeat((first|refine dw ?_|refine bcf c113 ?_);conv=>whnf)
                        exact ih9 _  (wrL hs9 hl9 hi9) h
                    ·replace h:=g
                     clear g
                     conv=>whnf
                     repeat((first|refine dw ?_|refine bcf c110 ?_|refine bcf c109 ?_);conv=>whnf)
                     exact ih9 _  (wrL hs9 hl9 hi9) h
                  ·replace h:=g
                   clear g
                   conv=>whnf
                   repeat((first|refine dw ?_|refine bcf c108 ?_);conv=>whnf)
                   refine br_some h (fun c114 g=>?_) (fun c114 g=>?_)
                   ·replace h:=g
                    clear g
                    conv=>whnf
                    repeat((first|refine dw ?_|refine bct c114 ?_);conv=>whnf)
                    refine br_some h (fun c115 g=>?_) (fun c115 g=>?_)
                    ·replace h:=g
                     clear g
                     conv=>whnf
                     repeat((first|refine dw ?_|refine bct c115 ?_|refine bct c114 ?_);conv=>whnf)
                     exact K _ h
                    ·replace h:=g
                     clear g
                     conv=>whnf
                     repeat((first|refine dw ?_|refine bcf c115 ?_|refine bct c114 ?_);conv=>whnf)
                     refine br_some h (fun c116 g=>?_) (fun c116 g=>?_)
                     ·replace h:=g
                      clear g
                      conv=>whnf
                      repeat((first|refine dw ?_|refine bct c116 ?_|refine bct c114 ?_);conv=>whnf)
                      exact K _ h
                     ·replace h:=g
                      clear g
                      conv=>whnf
                      repeat((first|refine dw ?_|refine bcf c116 ?_|refine bct c114 ?_);conv=>whnf)
                      refine br_some h (fun c117 g=>?_) (fun c117 g=>?_)
                      ·replace h:=g
                       clear g
                       conv=>whnf
                       repeat((first|refine dw ?_|refine bct c117 ?_);conv=>whnf)
                       exact K _ h
                      ·replace h:=g
                       clear g
                       conv=>whnf
                       repeat((first|refine dw ?_|refine bcf c117 ?_);conv=>whnf)
                       exact ih9 _  (wrL hs9 hl9 hi9) h
                   ·replace h:=g
                    clear g
                    conv=>whnf
                    repeat((first|refine dw ?_|refine bcf c114 ?_);conv=>whnf)
                    exact ih9 _  (wrL hs9 hl9 hi9) h
                ·rw [law12_ServeNew_l9] at h
                 refine loop_intro hX ?_
                 conv=>whnf
                 repeat((first|refine dw ?_|refine bct (at_in am1) ?_|refine bct (andt (at_in am1) rfl) ?_|refine row_in (at_row am1) ?_|refine bct (andt (at_in (at_nat am1)) rfl) ?_|refine row_in (at_row (at_nat am1)) ?_|refine eqv_to (map_len _) ?_|refine bcf (lt_end hi9) ?_);conv=>whnf)
                 exact ih1 _  (wrL hs1 hl1 hi1) h
         ·rw [law12_ServeNew_l1] at h
          refine loop_intro hX ?_
          replace h:=bnd_some h
          obtain ⟨y118,e119,h⟩:=h
          conv=>whnf
          repeat((first|refine dw ?_|refine eqv_to (map_len _) ?_|refine bcf (lt_end hi1) ?_);conv=>whnf)
          refine ref06_Both_c hX e119 ?_
          replace h:=chk_some h
          obtain ⟨hs11,h⟩:=h
          conv=>whnf
          repeat((first|refine dw ?_);conv=>whnf)
          refine loop_lisx0 (fun (v120:Int)=>pad [(7,.one (.p (.v (.bool y1)))),(0,.one (.ptr 0 0)),(2,.one (.p (.sl (y19.map Msg.row)))),(9,.one (.p (.sl (y118.map Item.row)))),(0,iv v120)] 279) (fun (v120:Int)=>[.box (Msg.cs y8)]) _ y118 (fun pre11 x11e xs11 v120  hl11 hi11 h ih11=>?_) (fun v120  hi11 h=>?_)  h
          ·rw [law12_ServeNew_l11] at h
           have am11:=at_mid hl11 hi11
           refine loop_intro hX ?_
           replace h:=bnd_some h
           obtain ⟨y121,e122,h⟩:=h
           conv=>whnf
           repeat((first|refine dw ?_|refine eqv_to (map_len _) ?_|refine bct (lt_mid hl11 hi11) ?_|refine bct (at_in am11) ?_|refine bct (andt (at_in am11) rfl) ?_|refine row_in (at_row am11) ?_|refine bct (andt (at_in (at_nat am11)) rfl) ?_|refine row_in (at_row (at_nat am11)) ?_);conv=>whnf)
           refine ref06_Has_c hX e122 ?_
           replace h:=bnd_some h
           obtain ⟨y123,e124,h⟩:=h
           conv=>whnf
           repeat((first|refine dw ?_|refine bct (at_in am11) ?_|refine bct (andt (at_in am11) rfl) ?_|refine row_in (at_row am11) ?_|refine bct (andt (at_in (at_nat am11)) rfl) ?_|refine row_in (at_row (at_nat am11)) ?_);conv=>whnf)
           refine ref03_Has_c hX e124 ?_
           apply join1 (X:=X) (r:=r) (fun (v125:Int)=>pad [(7,.one (.p (.v (.bool y1)))),(0,.one (.ptr 0 0)),(2,.one (.p (.sl (y19.map Msg.row)))),(9,.one (.p (.sl (y118.map Item.row)))),(0,iv v120),(2,iv v125)] 276) (fun (v125:Int)=>[.box (Msg.cs y8)])
           ·intro tl12
            conv=>whnf
            repeat((first|refine dw ?_);conv=>whnf)
            refine br_some h (fun c129 g=>?_) (fun c129 g=>?_)
            ·replace h:=g
             clear g
             conv=>whnf
             repeat((first|refine dw ?_|refine bct c129 ?_);conv=>whnf)
             refine br_some h (fun c130 g=>?_) (fun c130 g=>?_)
             ·replace h:=g
              clear g
              conv=>whnf
              repeat((first|refine dw ?_|refine bct c130 ?_);conv=>whnf)
              exact tl12.h 1 h
             ·replace h:=g
              clear g
              conv=>whnf
              repeat((first|refine dw ?_|refine bcf c130 ?_);conv=>whnf)
              exact tl12.h 0 h
            ·replace h:=g
             clear g
             conv=>whnf
             repeat((first|refine dw ?_|refine bcf c129 ?_);conv=>whnf)
             exact tl12.h 0 h
           ·intro v125 h
            unfold law12_ServeNew_j12 at h
            refine rest_intro hX ?_
            replace h:=bnd_some h
            obtain ⟨y126,e127,h⟩:=h
            conv=>whnf
            repeat((first|refine dw ?_|refine bct (at_in am11) ?_|refine bct (andt (at_in am11) rfl) ?_|refine row_in (at_row am11) ?_|refine bct (andt (at_in (at_nat am11)) rfl) ?_|refine row_in (at_row (at_nat am11)) ?_);conv=>whnf)
            refine law12_found_c hX e127 ?_
            conv=>whnf
            repeat((first|refine dw ?_);conv=>whnf)
            refine br_some h (fun c128 g=>?_) (fun c128 g=>?_)
            ·replace h:=g
             clear g
             conv=>whnf
             repeat((first|refine dw ?_|refine bct c128 ?_);conv=>whnf)
             exact K _ h
            ·replace h:=g
             clear g
             conv=>whnf
             repeat((first|refine dw ?_|refine bcf c128 ?_);conv=>whnf)
             exact ih11 _  (wrL hs11 hl11 hi11) h
          ·rw [law12_ServeNew_l11] at h
           refine loop_intro hX ?_
           conv=>whnf
           repeat((first|refine dw ?_|refine eqv_to (map_len _) ?_|refine bcf (lt_end hi11) ?_);conv=>whnf)
           exact K _ h
end
end Go.Proofs.YtidkmoohgadjkaaGreat
set_option maxHeartbeats 4000000
namespace Go.Proofs.YtidkmoohgadjkaaGreat
open Go E Go.ChangeShapes Go.WideShapes Go.ChangeAt Go.RowKit
theorem cellsTree:Tryz.prog.cellsOf 25=6:=by kernel_rfl
theorem cellsTrees:Tryz.prog.cellsOf 23=1:=by kernel_rfl
abbrev nodeSh (s:Sh):Sh:=.cat (.int .i64) (.cat .str (.cat (.int .i64) (.cat (.flt .f64) (.cat (.flt .f64) (.cat (.sl s) .nil)))))
def treeSh:Nat→Sh
 | 0=>.no 6
 | 1=>nodeSh (.no 6)
 | n + 2=>nodeSh (treeSh n)
theorem tree_size:∀ n,(treeSh n).size=6
 | 0=>rfl
 | 1=>rfl
 | n + 2=>rfl
theorem node_ok {n:Nat} {s:Sh} (hs:s.size=6) (hk:ShOk Tryz.prog n 23 (.sl s)):ShOk Tryz.prog (n + 1) 25 (nodeSh s) :=
 .struct Tryz.underlying25 cellsTree (.cons rfl cellsInt (shInt n) (.cons rfl cellsStr (shStr n) (.cons rfl cellsInt (shInt n) (.cons rfl cellsFlt (shFlt n) (.cons rfl cellsFlt (shFlt n) (.cons rfl cellsTrees hk .nil))))))
theorem shTree:∀ n,ShOk Tryz.prog n 25 (treeSh n)
 | 0=>.zero
 | 1=>node_ok rfl .zero
 | n + 2=>node_ok (tree_size n) (.sl Tryz.underlying23 (by rw [tree_size]; exact cellsTree) (by rw [tree_size]; decide) (shTree n))
theorem rows_of {P:List PC→Prop} {Ok:Pred→Prop} (h:∀ r,P r→∃ p:Pred,Ok p∧r=p.lrow):∀ (l:List (List PC)),(∀ r∈l,P r)→∃ ps:List Pred,(∀ p∈ps,Ok p)∧l=ps.map Pred.lrow
 | [],_=>⟨[],by simp,rfl⟩
 | r::l,hl=>by
  obtain ⟨p,hp,rfl⟩:=h r (hl r (by simp))
  obtain ⟨ps,hps,rfl⟩:=rows_of h l fun r hr=>hl r (by simp [hr])
  exact ⟨p::ps,by simpa using ⟨hp,hps⟩,rfl⟩
theorem node_fits {s:Sh} {l:List PC} (hk:∀ r,Fits s r→∃ p:Pred,p.Ok∧r=p.lrow) (h:Fits (nodeSh s) l):∃ p:Pred,p.Ok∧l=p.lrow:=by
 obtain ⟨_,_,rfl,⟨x0,rfl,w0⟩,_,_,rfl,⟨x1,rfl,w1⟩,_,_,rfl,⟨x2,rfl,w2⟩,_,_,rfl,⟨x3,rfl,w3⟩,_,_,rfl,⟨x4,rfl,w4⟩,_,_,rfl,⟨rs,rfl,w5,w6⟩,rfl⟩:=h
 obtain ⟨ps,h1,rfl⟩:=rows_of (P:=Fits s) (Ok:=Pred.Ok) hk rs w6
 refine ⟨.mk x0 x1 x2 x3 x4 ps,?_,?_⟩
 ·unfold Pred.Ok
  exact ⟨i64_of w0,Nat.le_trans w1 (by decide),i64_of w2,by rw [List.length_map] at w5; exact Nat.le_trans w5 (by decide),Pred.Oks_of h1⟩
 ·rw [Pred.lrow_eq]; simp only [Pred.lrows_eq]; rfl
theorem tree_fits:∀ n {l:List PC},Fits (treeSh n) l→∃ p:Pred,p.Ok∧l=p.lrow
 | 0,l,h=>False.elim h
 | 1,l,h=>node_fits (s:=.no 6) (fun r h=>False.elim h) h
 | n + 2,l,h=>node_fits (fun r h=>tree_fits n h) h
section
variable {H:Type} {enc:TypeId × Value→H} {W:World} {v:Value} {d:DataW H} {ps:List MemPlace} {b0:Nat}
end
end Go.Proofs.YtidkmoohgadjkaaGreat
set_option maxHeartbeats 4000000
namespace Go.Proofs.YtidkmoohgadjkaaGreat
open Go E Go.ChangeShapes Go.WideShapes Go.ChangeAt Go.RowKit
theorem cellsSit:Tryz.prog.cellsOf 33=21:=by kernel_rfl
def sitSh (n:Nat):Sh:=.cat (.int .i64) (.cat (treeSh (n - 1)) (.cat (.sl rowSh) (.cat (.sl rowSh) (.cat knowSh (.cat (.int .i64) (.cat (.int .i64) (.cat (.int .i64) .nil)))))))
theorem sit_size (n:Nat):(sitSh n).size=21:=by unfold sitSh; simp only [Sh.size,tree_size]; rfl
theorem shSit:∀ n,ShOk Tryz.prog n 33 (sitSh n)
 | 0=>.zero
 | n + 1=>.struct Tryz.underlying33 (by rw [sit_size]; exact cellsSit) (.cons rfl cellsInt (shInt n) (.cons rfl (by rw [show n + 1 - 1=n from rfl,tree_size]; exact cellsTree) (shTree n)
   (.cons (by rw [show n + 1 - 1=n from rfl,tree_size]; rfl) cellsRows (shRows n) (.cons (by rw [show n + 1 - 1=n from rfl,tree_size]; rfl) cellsRows (shRows n) (.cons (by rw [show n + 1 - 1=n from rfl,tree_size]; rfl) cellsKnow (shKnow n)
   (.cons (by rw [show n + 1 - 1=n from rfl,tree_size]; rfl) cellsInt (shInt n) (.cons (by rw [show n + 1 - 1=n from rfl,tree_size]; rfl) cellsInt (shInt n) (.cons (by rw [show n + 1 - 1=n from rfl,tree_size]; rfl) cellsInt (shInt n) .nil))))))))
abbrev Sit.la (s:Sit):A:=.agg [ic s.r,ic s.f.op,.p (.v (.string s.f.text)),ic s.f.n,.p (.v (.float .f64 s.f.re)),.p (.v (.float .f64 s.f.im)),.p (.sl (Pred.lrows s.f.kids)),.p (.sl (s.store.map Item.lrow)),.p (.sl (s.out.map Item.lrow)),
 ic s.k.star.x0,ic s.k.star.x1,ic s.k.star.x2,ic s.k.star.x3,ic s.k.star.x4,ic s.k.star.x5,ic s.k.star.x6,ic s.k.star.x7,.p (.sl (s.k.l.map Frag.row)),ic s.count,ic s.clock,ic s.epoch]
section
variable {H:Type} {enc:TypeId × Value→H} {W:World} {v:Value} {d:DataW H} {ps:List MemPlace} {b0:Nat}
theorem arg_sit (hv:Value.okWide Tryz.prog W .any b0 33 v) (h:DataW.Trod enc Tryz.prog W 0 (fun _=>true) true 33 v d ps):∃ s:Sit,s.Ok∧VA W (zoneOf W) noLoc s.la v:=by
 obtain ⟨n,l,h1,h2⟩:=arg_agg shSit (.inl ⟨_,Tryz.underlying33⟩) hv h
 obtain ⟨_,_,rfl,⟨x0,rfl,w0⟩,_,_,rfl,hf,_,_,rfl,hs,_,_,rfl,ho,_,_,rfl,hk,_,_,rfl,⟨x1,rfl,w1⟩,_,_,rfl,⟨x2,rfl,w2⟩,_,_,rfl,⟨x3,rfl,w3⟩,rfl⟩:=h1
 obtain ⟨p,op,rfl⟩:=tree_fits _ hf
 obtain ⟨xs,hx,rfl⟩:=fits_rows hs
 obtain ⟨ys,hy,rfl⟩:=fits_rows ho
 obtain ⟨k,hi,rfl⟩:=fits_know hk
 rw [Pred.lrow_eq] at h2
 exact ⟨⟨x0,p,xs,ys,k,x1,x2,x3⟩,⟨op,hx,hy,hi⟩,h2⟩
end
end Go.Proofs.YtidkmoohgadjkaaGreat
namespace Go.Proofs.YtidkmoohgadjkaaGreat
open Go E Pred
noncomputable section
open Classical
def RealE (l:List Entry):Prop:=∀ e∈l,sameI e.item e.item=true
theorem sameEnts_l {L:List Entry}:∀ (xs pre:List Entry),L=pre++xs→RealE xs→ref11_SameEntries_l1 L xs (pre.length:Int)=some true
 | [],pre,_,_=>by rw [ref11_SameEntries_l1]
 | x::xs,pre,h,hr=>by
  have ih:=sameEnts_l (L:=L) xs (pre++[x]) (by rw [h]; simp) fun e he=>hr e (List.mem_cons_of_mem _ he)
  rw [List.length_append] at ih
  have e1:ref11_SameEntry_s x x=some true:=by
   unfold ref11_SameEntry_s
   rw [bnd_of (show ref01_Same_s x.item x.item=some (sameI x.item x.item) from rfl),hr x (List.mem_cons_self ..),eqI_self,eqI_self]
   cases x.goes<;>rfl
  rw [ref11_SameEntries_l1,bnd_of (show atL L (pre.length:Int)=some x by rw [h]; exact at_app pre x xs),bnd_of e1]
  exact ih
theorem sameEnts_s {l:List Entry} (hn:l.length≤1000000000) (h:RealE l):ref11_SameEntries_s l l=some true:=by
 unfold ref11_SameEntries_s
 rw [eqI_self,br_f (by rfl),chk_t (smallL_of hn)]
 exact sameEnts_l l [] rfl h
theorem selfMsg_s {m:Msg} {N:Nat} (hN:N≤1000000000) (hf:m.f.Ok) (hs:sameP m.f m.f=true) (hk:KB m.k N) (hl:m.l.length≤1000000000) (hr:RealE m.l) (hh:m.have_=[]):ref11_SameMsg_s m m=some true:=by
 have e:ref03_Same_s m.f m.f=some true:=by rw [rsame_s hf,hs]
 have hb:(@Bool.rec (fun _=>Bool) m.star (!m.star) m.star)=false:=by cases m.star<;>rfl
 unfold ref11_SameMsg_s
 rw [eqI_self,eqI_self,eqI_self,eqI_self,eqI_self,eqI_self,eqI_self,hb,hh,chk_t (smallL_of (by simp)),ref11_SameMsg_l1,bnd_of e,bnd_of (alike_s hN hk),alikeK_refl,bnd_of (sameEnts_s hl hr)]; rfl
structure AnsM (m:Msg):Prop where
 f:m.f=.mk 0 ⟨#[]⟩ 0 0 0 []
 k:KT m.k 90000
 l:m.l.length≤10000
 r:RealE m.l
 h:m.have_=[]
theorem ok_bare0:(Pred.mk 0 ⟨#[]⟩ 0 0 0 []).Ok:=by unfold Pred.Ok; exact ⟨by decide,by decide,by decide,by decide,by unfold Pred.Oks; trivial⟩
theorem AnsM.same {m:Msg} (h:AnsM m):ref11_SameMsg_s m m=some true:=by
 refine selfMsg_s (N:=90000) (by decide) ?_ ?_ h.k.kb (by have:=h.l; omega) h.r h.h
 ·rw [h.f]; exact ok_bare0
 ·rw [h.f]; exact bare_self 0
def state12:State:=⟨2,star1,[],[],⟨zero8,[]⟩,0,0,0⟩
def msg12:Msg:=⟨1,1,2,3,0,star1,⟨zero8,[]⟩,[],0,[],false⟩
theorem msg12_b:MsgB msg12:=⟨star_ok,star_size,⟨Nat.zero_le _,Nat.zero_le _⟩,fun f hf=>(by cases hf),fun x hx=>(by cases hx),by show 0≤1000; decide,by show 0≤1000; decide⟩
theorem up12:law12_up_s=some true:=by
 have hs:SOk state12 0:=sok_new (r:=2) star_ok star_size
 have e1:=serve_s (turn:=9) hs (by decide) msg12_b
 have e2:=smay_s msg12_b
 have v1:answerV state12 msg12 9=[⟨3,2,1,3,9,.mk 0 ⟨#[]⟩ 0 0 0 [],⟨zero8,[]⟩,[],0,[],false⟩]:=by kernel_rfl
 have v2:mayM msg12=true:=by kernel_rfl
 rw [v1] at e1
 rw [v2] at e2
 have e1':serve_Answer_s (State.mk 2 (Pred.mk 1 ⟨#[]⟩ 0 0 0 ([]:List Pred)) ([]:List Item) ([]:List Item) (Know.mk (V8.mk 0 0 0 0 0 0 0 0) ([]:List Frag)) 0 0 0) (Msg.mk 1 1 2 3 0 (Pred.mk 1 ⟨#[]⟩ 0 0 0 ([]:List Pred)) (Know.mk (V8.mk 0 0 0 0 0 0 0 0) ([]:List Frag)) ([]:List Has) 0 ([]:List Entry) false) 9=_:=e1
 have e2':serve_May_s (Msg.mk 1 1 2 3 0 (Pred.mk 1 ⟨#[]⟩ 0 0 0 ([]:List Pred)) (Know.mk (V8.mk 0 0 0 0 0 0 0 0) ([]:List Frag)) ([]:List Has) 0 ([]:List Entry) false)=some true:=e2
 unfold law12_up_s
 rw [bnd_of e1',bnd_of e2']
 rfl
end
end Go.Proofs.YtidkmoohgadjkaaGreat
set_option maxHeartbeats 4000000
namespace Go.Proofs.YtidkmoohgadjkaaGreat
open Go E Go.ChangeShapes Go.WideShapes Go.ChangeAt Go.RowKit
theorem cellsHas:Tryz.prog.cellsOf 74=4:=by kernel_rfl
theorem cellsHass:Tryz.prog.cellsOf 34=1:=by kernel_rfl
theorem cellsLine:Tryz.prog.cellsOf 175=12:=by kernel_rfl
theorem cellsLines:Tryz.prog.cellsOf 35=1:=by kernel_rfl
theorem cellsNote:Tryz.prog.cellsOf 37=24:=by kernel_rfl
abbrev hasSh:Sh:=.cat .str (.cat verSh (.cat (.int .i64) .nil))
theorem shHas:∀ n,ShOk Tryz.prog n 74 hasSh
 | 0=>.zero
 | n + 1=>.struct Tryz.underlying74 cellsHas (.cons rfl cellsStr (shStr n) (.cons rfl cellsVer (shVer n) (.cons rfl cellsInt (shInt n) .nil)))
theorem shHass:∀ n,ShOk Tryz.prog n 34 (.sl hasSh)
 | 0=>.zero
 | n + 1=>.sl Tryz.underlying34 cellsHas (by decide) (shHas n)
abbrev lineSh:Sh:=.cat rowSh (.cat .bool (.cat (.int .i64) (.cat (.int .i64) .nil)))
theorem shLine:∀ n,ShOk Tryz.prog n 175 lineSh
 | 0=>.zero
 | n + 1=>.struct Tryz.underlying175 cellsLine (.cons rfl cellsRow (shRow n) (.cons rfl cellsBool (shBool n) (.cons rfl cellsInt (shInt n) (.cons rfl cellsInt (shInt n) .nil))))
theorem shLines:∀ n,ShOk Tryz.prog n 35 (.sl lineSh)
 | 0=>.zero
 | n + 1=>.sl Tryz.underlying35 cellsLine (by decide) (shLine n)
theorem fits_has {l:List PC} (h:Fits hasSh l):∃ x:Has,x.Ok∧l=x.row:=by
 obtain ⟨_,_,rfl,⟨x0,rfl,w0⟩,_,_,rfl,⟨_,_,rfl,⟨x1,rfl,w1⟩,_,_,rfl,⟨x2,rfl,w2⟩,rfl⟩,_,_,rfl,⟨x3,rfl,w3⟩,rfl⟩:=h
 exact ⟨⟨x0,x1,x2,x3⟩,⟨Nat.le_trans w0 (by decide),i64_of w1,i64_of w2,i64_of w3⟩,rfl⟩
theorem fits_hass {l:List PC} (h:Fits (.sl hasSh) l):∃ xs:List Has,(∀ x∈xs,x.Ok)∧l=[.sl (xs.map Has.row)]:=by
 obtain ⟨rows,rfl,_,hr⟩:=h
 obtain ⟨xs,hx,rfl⟩:=list_of (P:=Fits hasSh) (Ok:=Has.Ok) (f:=Has.row) (fun r h=>fits_has h) rows hr
 exact ⟨xs,hx,rfl⟩
theorem fits_line {l:List PC} (h:Fits lineSh l):∃ x:Line,x.item.Ok∧l=x.row:=by
 obtain ⟨_,_,rfl,hx,_,_,rfl,⟨b,rfl⟩,_,_,rfl,⟨x1,rfl,w1⟩,_,_,rfl,⟨x2,rfl,w2⟩,rfl⟩:=h
 obtain ⟨x,ox,rfl⟩:=fits_row hx
 exact ⟨⟨x,b,x1,x2⟩,ox,rfl⟩
theorem fits_lines {l:List PC} (h:Fits (.sl lineSh) l):∃ xs:List Line,(∀ x∈xs,x.item.Ok)∧l=[.sl (xs.map Line.row)]:=by
 obtain ⟨rows,rfl,_,hr⟩:=h
 obtain ⟨xs,hx,rfl⟩:=list_of (P:=Fits lineSh) (Ok:=fun x:Line=>x.item.Ok) (f:=Line.row) (fun r h=>fits_line h) rows hr
 exact ⟨xs,hx,rfl⟩
structure Note.Ok (x:Note):Prop where
 f:x.f.Ok
 ids:IdsOk x.k
 h:∀ y∈x.have_,y.Ok
 l:∀ y∈x.l,y.item.Ok
def noteSh (n:Nat):Sh:=.cat (.int .i64) (.cat (.int .i64) (.cat (.int .i64) (.cat (.int .i64) (.cat (.int .i64) (.cat (treeSh (n - 1)) (.cat knowSh (.cat (.sl hasSh) (.cat (.int .i64) (.cat (.sl lineSh) (.cat .bool .nil))))))))))
theorem note_size (n:Nat):(noteSh n).size=24:=by unfold noteSh; simp only [Sh.size,tree_size]; rfl
theorem shNote:∀ n,ShOk Tryz.prog n 37 (noteSh n)
 | 0=>.zero
 | n + 1=>.struct Tryz.underlying37 (by rw [note_size]; exact cellsNote) (.cons rfl cellsInt (shInt n) (.cons rfl cellsInt (shInt n) (.cons rfl cellsInt (shInt n) (.cons rfl cellsInt (shInt n) (.cons rfl cellsInt (shInt n)
   (.cons rfl (by rw [show n + 1 - 1=n from rfl,tree_size]; exact cellsTree) (shTree n)
   (.cons (by rw [show n + 1 - 1=n from rfl,tree_size]; rfl) cellsKnow (shKnow n) (.cons (by rw [show n + 1 - 1=n from rfl,tree_size]; rfl) cellsHass (shHass n) (.cons (by rw [show n + 1 - 1=n from rfl,tree_size]; rfl) cellsInt (shInt n)
   (.cons (by rw [show n + 1 - 1=n from rfl,tree_size]; rfl) cellsLines (shLines n) (.cons (by rw [show n + 1 - 1=n from rfl,tree_size]; rfl) cellsBool (shBool n) .nil)))))))))))
abbrev Note.la (x:Note):A:=.agg [ic x.kind,ic x.src,ic x.dst,ic x.sid,ic x.turn,ic x.f.op,.p (.v (.string x.f.text)),ic x.f.n,.p (.v (.float .f64 x.f.re)),.p (.v (.float .f64 x.f.im)),.p (.sl (Pred.lrows x.f.kids)),
 ic x.k.star.x0,ic x.k.star.x1,ic x.k.star.x2,ic x.k.star.x3,ic x.k.star.x4,ic x.k.star.x5,ic x.k.star.x6,ic x.k.star.x7,.p (.sl (x.k.l.map Frag.row)),.p (.sl (x.have_.map Has.row)),ic x.n,.p (.sl (x.l.map Line.row)),.p (.v (.bool x.star))]
section
variable {H:Type} {enc:TypeId × Value→H} {W:World} {v:Value} {d:DataW H} {ps:List MemPlace} {b0:Nat}
theorem arg_note (hv:Value.okWide Tryz.prog W .any b0 37 v) (h:DataW.Trod enc Tryz.prog W 0 (fun _=>true) true 37 v d ps):∃ x:Note,x.Ok∧VA W (zoneOf W) noLoc x.la v:=by
 obtain ⟨n,l,h1,h2⟩:=arg_agg shNote (.inl ⟨_,Tryz.underlying37⟩) hv h
 obtain ⟨_,_,rfl,⟨x0,rfl,w0⟩,_,_,rfl,⟨x1,rfl,w1⟩,_,_,rfl,⟨x2,rfl,w2⟩,_,_,rfl,⟨x3,rfl,w3⟩,_,_,rfl,⟨x4,rfl,w4⟩,_,_,rfl,hf,_,_,rfl,hk,_,_,rfl,hh,_,_,rfl,⟨x5,rfl,w5⟩,_,_,rfl,hl,_,_,rfl,⟨b,rfl⟩,rfl⟩:=h1
 obtain ⟨p,op,rfl⟩:=tree_fits _ hf
 obtain ⟨k,hi,rfl⟩:=fits_know hk
 obtain ⟨hs,oh,rfl⟩:=fits_hass hh
 obtain ⟨ls,ol,rfl⟩:=fits_lines hl
 rw [Pred.lrow_eq] at h2
 exact ⟨⟨x0,x1,x2,x3,x4,p,k,hs,x5,ls,b⟩,⟨op,hi,oh,ol⟩,h2⟩
end
end Go.Proofs.YtidkmoohgadjkaaGreat
namespace Go.Proofs.YtidkmoohgadjkaaGreat
open Go E Pred
noncomputable section
open Classical
def lineE (x:Line):Entry:=⟨x.item,x.goes,x.r,x.c⟩
def noteM (x:Note):Msg:=⟨x.kind,x.src,x.dst,x.sid,x.turn,x.f,x.k,x.have_,x.n,x.l.map lineE,x.star⟩
theorem entries_l:∀ (xs:List Line) (acc:List Entry),acc.length + xs.length≤900000→law00_Entries_l1 xs acc=some (acc++xs.map lineE)
 | [],acc,_=>by rw [law00_Entries_l1]; simp
 | x::xs,acc,h=>by
  rw [List.length_cons] at h
  rw [law00_Entries_l1,bnd_of (show law00_Item_s x.item=some x.item from rfl),chk_t (roomL_of (by omega)),entries_l xs _ (by simp; omega)]
  simp [lineE]
theorem entries_s {l:List Line} (h:l.length≤1000):law00_Entries_s l=some (l.map lineE):=by
 unfold law00_Entries_s
 rw [chk_t (smallL_of (by omega)),entries_l l [] (by simp; omega)]; rfl
theorem msg_s {x:Note} (ok:x.Ok) (hf:x.f.size≤1000) (hl:x.l.length≤1000):law00_Msg_s x=some (noteM x):=by
 unfold law00_Msg_s
 rw [bnd_of (lpred_s ok.f hf),bnd_of (entries_s hl)]; rfl
structure ShortN (x:Note):Prop where
 h:x.have_.length≤60
 l:x.l.length≤60
 f:x.f.size≤60
 k:KB x.k 60
theorem short_s {x:Note} (ok:x.Ok):∃ b,law00_Short_s x=some b∧(b=0∨(b=1∧ShortN x)):=by
 unfold law00_Short_s
 by_cases h1:x.have_.length≤60
 ·by_cases h2:x.l.length≤60
  ·obtain ⟨b,hb,hk⟩:=known_s x.k
   rw [br_f (ltI_f.2 (by omega)),br_f (ltI_f.2 (by omega))]
   by_cases h3:x.f.size≤60
   ·rw [bnd_of (lsmall_t ok.f h3),bnd_of hb]
    rcases hk with rfl | ⟨rfl,hk⟩
    ·exact ⟨_,rfl,.inl rfl⟩
    ·exact ⟨_,rfl,.inr ⟨rfl,⟨h1,h2,h3,hk⟩⟩⟩
   ·rw [bnd_of (lsmall_f ok.f h3),bnd_of hb]
    exact ⟨_,rfl,.inl (by rw [Int.zero_mul]; rfl)⟩
  ·exact ⟨0,by rw [br_f (ltI_f.2 (by omega)),br_t (ltI_t.2 (by omega))],.inl rfl⟩
 ·exact ⟨0,by rw [br_t (ltI_t.2 (by omega))],.inl rfl⟩
theorem note_b {x:Note} (ok:x.Ok) (h:ShortN x):MsgB (noteM x) :=
 ⟨ok.f,by have:=h.f; show x.f.size≤_; omega,h.k.kt.mono (by decide),ok.ids,ok.h,by have:=h.h; show x.have_.length≤_; omega,by have:=h.l; show (x.l.map lineE).length≤_; rw [List.length_map]; omega⟩
end
end Go.Proofs.YtidkmoohgadjkaaGreat
namespace Go.Proofs.YtidkmoohgadjkaaGreat
open Go E Pred
noncomputable section
open Classical
theorem and2 (a b:Bool):andB a (andB b true)=(a&&b):=by unfold andB; rw [Bool.and_true]
def mtE (p:Item) (e:Entry):Bool:=!e.goes&&(eqS e.item.id p.id&&(eqI e.item.vr p.vr&&eqI e.item.vc p.vc))
theorem found_l2 {p:Item} {k1:Int→Option Int}:∀ (es:List Entry) (v:Nat),v + es.length≤1000000→law12_found_l2 p k1 es (v:Int)=k1 ((v + es.countP (mtE p):Nat):Int)
 | [],v,_=>by rw [law12_found_l2,List.countP_nil]; rfl
 | e::es,v,h=>by
  rw [List.length_cons] at h
  have i0:=found_l2 (p:=p) (k1:=k1) es v (by omega)
  have i1:=found_l2 (p:=p) (k1:=k1) es (v + 1) (by omega)
  have ew:wr .i64 ((v:Int) + 1)=((v + 1:Nat):Int):=by rw [wr64 (by omega) (by omega)]; rfl
  have em:mtE p e=(!e.goes&&(eqS e.item.id p.id&&(eqI e.item.vr p.vr&&eqI e.item.vc p.vc))):=rfl
  rw [law12_found_l2,ew,i0,i1,and2,List.countP_cons,em]
  cases e.goes with
  | true=>simp [br]
  | false=>cases eqS e.item.id p.id with
   | false=>simp [br]
   | true=>cases (eqI e.item.vr p.vr&&eqI e.item.vc p.vc) with
    | false=>simp [br]
    | true=>simp only [br,Bool.not_false,Bool.true_and,if_true]; congr 1; omega
def lsOf (l:List Msg):List Entry:=l.flatMap fun m=>m.l
theorem ls_cons (m:Msg) (l:List Msg):lsOf (m::l)=m.l++lsOf l:=by unfold lsOf; rw [List.flatMap_cons]
theorem found_l1 {p:Item}:∀ (ms:List Msg) (v:Nat),v + (lsOf ms).length≤1000000→law12_found_l1 p ms (v:Int)=some ((v + (lsOf ms).countP (mtE p):Nat):Int)
 | [],v,_=>by rw [law12_found_l1]; rfl
 | m::ms,v,h=>by
  rw [ls_cons,List.length_append] at h
  have hc:=List.countP_le_length (p:=mtE p) (l:=m.l)
  rw [law12_found_l1,chk_t (smallL_of (by omega)),found_l2 _ _ (by omega),found_l1 ms _ (by omega),ls_cons,List.countP_append,Nat.add_assoc]
theorem found_s {p:Item} {ms:List Msg} (h:(lsOf ms).length≤1000000) (hn:ms.length≤1000000):law12_found_s ms p=some (((lsOf ms).countP (mtE p):Nat):Int):=by
 unfold law12_found_s
 have:=found_l1 (p:=p) ms 0 (by omega)
 rw [Nat.zero_add] at this
 rw [chk_t (smallL_of (by omega))]
 exact this
theorem ls_bat {m:Msg} {turn:Int}:∀ (k:Nat) (l:List Entry) (n:Int),l.length < k→lsOf (batV m turn k l n)=l
 | 0,_,_,h=>by omega
 | k + 1,[],_,_=>rfl
 | k + 1,e::l,n,h=>by
  rw [show batV m turn (k + 1) (e::l) n=batM m turn n ((e::l).take 4)::batV m turn k ((e::l).drop 4) (n + 1) from rfl,ls_cons,ls_bat k _ _ (by rw [List.length_drop]; simp only [List.length_cons] at h ⊢; omega)]
  exact List.take_append_drop 4 (e::l)
def mtI (p y:Item):Bool:=eqS y.id p.id&&(eqI y.vr p.vr&&eqI y.vc p.vc)
theorem mt_self (p:Item):mtI p p=true:=by unfold mtI; rw [eqS_self,eqI_self,eqI_self]; rfl
theorem count_none {p:Item} {q:Item→Bool}:∀ (l:List Item),(∀ y∈l,eqS y.id p.id=false)→(l.filter q).countP (mtI p)=0:=fun l h=>by
 rw [List.countP_eq_zero]
 intro y hy
 unfold mtI
 rw [h y (List.mem_filter.1 hy).1]; simp
theorem count_one {p:Item} {q:Item→Bool}:∀ {l:List Item},Ris l→p∈l→(l.filter q).countP (mtI p)=if q p=true then 1 else 0
 | y::l,hr,hp=>by
  obtain ⟨h1,h2⟩:=ris_cons.1 hr
  rw [List.filter_cons]
  rcases List.mem_cons.1 hp with rfl | hp
  ·have e:=count_none (p:=p) (q:=q) l fun z hz=>by rw [eqS_comm']; exact ltS_ne (h1 z hz)
   split
   ·rw [List.countP_cons,e,mt_self]; rfl
   ·exact e
  ·have ih:=count_one (q:=q) h2 hp
   have ne:mtI p y=false:=by unfold mtI; rw [ltS_ne (h1 p hp)]; rfl
   split
   ·rw [List.countP_cons,ih,ne]; simp
   ·exact ih
theorem goes_go (all:List Item) (f:Pred) (h:Has) (e:Entry) (he:goF all f h=some e):∃ r c,e=goE h r c:=by
 unfold goF at he
 split at he
 ·cases he
 ·split at he
  ·injection he with he; exact ⟨_,_,he.symm⟩
  ·cases he
theorem goes_done (all:List Item) (k:Know) (h:Has) (e:Entry) (he:gone0 all k h=some e):∃ r c,e=goE h r c:=by
 unfold gone0 at he
 split at he
 ·injection he with he; exact ⟨_,_,he.symm⟩
 ·cases he
theorem count_fm {f:Has→Option Entry} (hf:∀ h e,f h=some e→∃ r c,e=goE h r c) (p:Item) (l:List Has):(l.filterMap f).countP (mtE p)=0:=by
 rw [List.countP_eq_zero]
 intro e he
 obtain ⟨h, -, e2⟩:=List.mem_filterMap.1 he
 obtain ⟨r,c,rfl⟩:=hf h e e2
 simp [mtE,goE]
theorem count_new (p:Item):∀ l:List Item,(l.map newE).countP (mtE p)=l.countP (mtI p)
 | []=>rfl
 | x::l=>by rw [List.map_cons,List.countP_cons,List.countP_cons,count_new p l]; rfl
theorem count_ans {s:State} {m:Msg} {turn:Int} {N:Nat} {n:Int} {p:Item} (h:SOk s N) (hp:p∈bothV s.store s.out):(lsOf (batV m turn ((entV (bothV s.store s.out) m).length + 1) (entV (bothV s.store s.out) m) 0++[doneM s m turn n])).countP (mtE p)=if newF m.k m.f p=true then 1 else 0:=by
 have e:lsOf (batV m turn ((entV (bothV s.store s.out) m).length + 1) (entV (bothV s.store s.out) m) 0++[doneM s m turn n])=entV (bothV s.store s.out) m++doneL (bothV s.store s.out) s m:=by
  unfold lsOf
  rw [List.flatMap_append]
  have:=ls_bat (m:=m) (turn:=turn) ((entV (bothV s.store s.out) m).length + 1) (entV (bothV s.store s.out) m) 0 (by omega)
  unfold lsOf at this
  rw [this]
  simp [doneM]
 have ed:(doneL (bothV s.store s.out) s m).countP (mtE p)=0:=by
  unfold doneL
  split
  ·exact count_fm (goes_done _ _) p _
  ·rfl
 rw [e,List.countP_append,ed]
 unfold entV
 rw [List.countP_append,count_fm (goes_go _ _) p,count_new,count_one (ris_both h.rs h.ro) hp,Nat.add_zero]
def hadB (l:List Has) (e:Entry):Bool:=l.any fun h=>eqS h.id e.item.id&&(eqI h.vr e.item.vr&&eqI h.vc e.item.vc)
structure Good (m:Msg) (last:Bool) (e:Entry):Prop where
 g:e.goes=true→hadB m.have_ e=true
 n:e.goes=false→hasK m.k e.item.id e.item.vr e.item.vc=false∧hasP m.f e.item=true∧last=false
 ok:e.item.Ok
theorem new_l4 {L:List Msg} {i:Int} {e:Entry} {y29 y31:Bool} {k:Option Bool}:∀ (xs:List Has) (v:Bool),(e.goes=true→(v || hadB xs e)=true)→(e.goes=false→y29=false∧y31=true∧eqI i (wr .i64 ((L.length:Int) - 1))=false)→law12_ServeNew_l4 L i e y29 y31 k xs v=k
 | [],v,h1,h2=>by
  rw [law12_ServeNew_l4]
  cases hg:e.goes with
  | true =>
   have:=h1 hg
   unfold hadB at this
   rw [List.any_nil,Bool.or_false] at this
   rw [this]; rfl
  | false =>
   obtain ⟨a,b,c⟩:=h2 hg
   rw [a,b,c]; rfl
 | x::xs,v,h1,h2=>by
  have ih:=fun w (hw:e.goes=true→(w || hadB xs e)=true)=>new_l4 (L:=L) (i:=i) (y29:=y29) (y31:=y31) (k:=k) xs w hw h2
  have ec:hadB (x::xs) e=((eqS x.id e.item.id&&(eqI x.vr e.item.vr&&eqI x.vc e.item.vc)) || hadB xs e):=by unfold hadB; rw [List.any_cons]
  rw [ec] at h1
  rw [law12_ServeNew_l4,and2]
  cases v with
  | true=>exact ih true fun _=>by rw [Bool.true_or]
  | false =>
   rw [br_f rfl]
   cases h3:eqS x.id e.item.id with
   | true =>
    rw [br_t rfl]
    refine ih _ fun hg=>?_
    have:=h1 hg
    rw [h3,Bool.false_or,Bool.true_and] at this
    exact this
   | false =>
    rw [br_f rfl]
    refine ih _ fun hg=>?_
    have:=h1 hg
    rw [h3,Bool.false_or,Bool.false_and] at this
    exact this
theorem new_l3 {m:Msg} {L:List Msg} {i:Int} {k:Option Bool} (hm:MsgB m) {last:Bool} (hi:eqI i (wr .i64 ((L.length:Int) - 1))=last):∀ es:List Entry,(∀ e∈es,Good m last e)→law12_ServeNew_l3 m L i k es=k
 | [],_=>by rw [law12_ServeNew_l3]
 | e::es,h=>by
  have g:=h e (List.mem_cons_self ..)
  have hl:=hm.hl
  rw [law12_ServeNew_l3,bnd_of (hasK_s (N:=90000) (by decide) hm.k.kb),bnd_of (has3_s hm.f g.ok),chk_t (smallL_of (by omega)),new_l4 _ _ (fun hg=>by rw [g.g hg]; rfl) (fun hg=>?_),new_l3 hm hi es fun x hx=>h x (List.mem_cons_of_mem _ hx)]
  obtain ⟨a,b,c⟩:=g.n hg
  exact ⟨a,b,hi.trans c⟩
theorem new_l7 {L:List Msg} {i:Int} {e:Entry} {y29 y31:Bool} {k:Option Bool}:∀ (xs:List Has) (v:Bool),(e.goes=true→(v || hadB xs e)=true)→(e.goes=false→y29=false∧y31=true∧eqI i (wr .i64 ((L.length:Int) - 1))=false)→law12_ServeNew_l7 L i e y29 y31 k xs v=k
 | [],v,h1,h2=>by
  rw [law12_ServeNew_l7]
  cases hg:e.goes with
  | true =>
   have:=h1 hg
   unfold hadB at this
   rw [List.any_nil,Bool.or_false] at this
   rw [this]; rfl
  | false =>
   obtain ⟨a,b,c⟩:=h2 hg
   rw [a,b,c]; rfl
 | x::xs,v,h1,h2=>by
  have ih:=fun w (hw:e.goes=true→(w || hadB xs e)=true)=>new_l7 (L:=L) (i:=i) (y29:=y29) (y31:=y31) (k:=k) xs w hw h2
  have ec:hadB (x::xs) e=((eqS x.id e.item.id&&(eqI x.vr e.item.vr&&eqI x.vc e.item.vc)) || hadB xs e):=by unfold hadB; rw [List.any_cons]
  rw [ec] at h1
  rw [law12_ServeNew_l7,and2]
  cases v with
  | true=>exact ih true fun _=>by rw [Bool.true_or]
  | false =>
   rw [br_f rfl]
   cases h3:eqS x.id e.item.id with
   | true =>
    rw [br_t rfl]
    refine ih _ fun hg=>?_
    have:=h1 hg
    rw [h3,Bool.false_or,Bool.true_and] at this
    exact this
   | false =>
    rw [br_f rfl]
    refine ih _ fun hg=>?_
    have:=h1 hg
    rw [h3,Bool.false_or,Bool.false_and] at this
    exact this
theorem new_l6 {m:Msg} {L:List Msg} {i:Int} {k:Option Bool} (hm:MsgB m) {last:Bool} (hi:eqI i (wr .i64 ((L.length:Int) - 1))=last):∀ es:List Entry,(∀ e∈es,Good m last e)→law12_ServeNew_l6 m L i k es=k
 | [],_=>by rw [law12_ServeNew_l6]
 | e::es,h=>by
  have g:=h e (List.mem_cons_self ..)
  have hl:=hm.hl
  rw [law12_ServeNew_l6,bnd_of (hasK_s (N:=90000) (by decide) hm.k.kb),bnd_of (has3_s hm.f g.ok),chk_t (smallL_of (by omega)),new_l7 _ _ (fun hg=>by rw [g.g hg]; rfl) (fun hg=>?_),new_l6 hm hi es fun x hx=>h x (List.mem_cons_of_mem _ hx)]
  obtain ⟨a,b,c⟩:=g.n hg
  exact ⟨a,b,hi.trans c⟩
theorem new_l10 {L:List Msg} {i:Int} {e:Entry} {y29 y31:Bool} {k:Option Bool}:∀ (xs:List Has) (v:Bool),(e.goes=true→(v || hadB xs e)=true)→(e.goes=false→y29=false∧y31=true∧eqI i (wr .i64 ((L.length:Int) - 1))=false)→law12_ServeNew_l10 L i e y29 y31 k xs v=k
 | [],v,h1,h2=>by
  rw [law12_ServeNew_l10]
  cases hg:e.goes with
  | true =>
   have:=h1 hg
   unfold hadB at this
   rw [List.any_nil,Bool.or_false] at this
   rw [this]; rfl
  | false =>
   obtain ⟨a,b,c⟩:=h2 hg
   rw [a,b,c]; rfl
 | x::xs,v,h1,h2=>by
  have ih:=fun w (hw:e.goes=true→(w || hadB xs e)=true)=>new_l10 (L:=L) (i:=i) (y29:=y29) (y31:=y31) (k:=k) xs w hw h2
  have ec:hadB (x::xs) e=((eqS x.id e.item.id&&(eqI x.vr e.item.vr&&eqI x.vc e.item.vc)) || hadB xs e):=by unfold hadB; rw [List.any_cons]
  rw [ec] at h1
  rw [law12_ServeNew_l10,and2]
  cases v with
  | true=>exact ih true fun _=>by rw [Bool.true_or]
  | false =>
   rw [br_f rfl]
   cases h3:eqS x.id e.item.id with
   | true =>
    rw [br_t rfl]
    refine ih _ fun hg=>?_
    have:=h1 hg
    rw [h3,Bool.false_or,Bool.true_and] at this
    exact this
   | false =>
    rw [br_f rfl]
    refine ih _ fun hg=>?_
    have:=h1 hg
    rw [h3,Bool.false_or,Bool.false_and] at this
    exact this
theorem new_l9 {m:Msg} {L:List Msg} {i:Int} {k:Option Bool} (hm:MsgB m) {last:Bool} (hi:eqI i (wr .i64 ((L.length:Int) - 1))=last):∀ es:List Entry,(∀ e∈es,Good m last e)→law12_ServeNew_l9 m L i k es=k
 | [],_=>by rw [law12_ServeNew_l9]
 | e::es,h=>by
  have g:=h e (List.mem_cons_self ..)
  have hl:=hm.hl
  rw [law12_ServeNew_l9,bnd_of (hasK_s (N:=90000) (by decide) hm.k.kb),bnd_of (has3_s hm.f g.ok),chk_t (smallL_of (by omega)),new_l10 _ _ (fun hg=>by rw [g.g hg]; rfl) (fun hg=>?_),new_l9 hm hi es fun x hx=>h x (List.mem_cons_of_mem _ hx)]
  obtain ⟨a,b,c⟩:=g.n hg
  exact ⟨a,b,hi.trans c⟩
theorem new_done {s:State} {m:Msg} {turn:Int} {L:List Msg} {x:Msg} {i:Int} (hm:MsgB m) (hi:i=wr .i64 ((L.length:Int) - 1)) (hL:1≤L.length∧L.length≤100000) (h1:x.turn=turn) (h2:x.sid=m.sid) (h3:x.dst=m.src) (hl:x.l.length≤100000) (hg:∀ e∈x.l,Good m true e) :
  law12_ServeNew_l1 turn true m s L [x] i=law12_ServeNew_l1 turn true m s L [] (i + 1):=by
 have e1:ltI i (wr .i64 ((L.length:Int) - 1))=false:=by rw [hi]; exact ltI_f.2 (Int.le_refl _)
 have e2:eqI i (wr .i64 (wr .i64 ((L.length:Int) - 1) - 1))=false:=by
  rw [hi,wr64 (n:=(L.length:Int) - 1) (by omega) (by omega),wr64 (by omega) (by omega)]; exact eqI_f.2 (by omega)
 have e3:eqI i (wr .i64 ((L.length:Int) - 1))=true:=by rw [hi,eqI_self]
 have j2:∀ k,law12_ServeNew_j2 m L x i k=k:=fun k=>by unfold law12_ServeNew_j2; rw [chk_t (smallL_of (by omega)),new_l3 hm e3 _ hg]
 conv=>lhs; rw [law12_ServeNew_l1]
 rw [e1,e2,h1,h2,h3,eqI_self,eqI_self,eqI_self,j2,chk_t (smallL_of (by omega)),new_l9 hm e3 _ hg]
 cases eqI (x.l.length:Int) 4<;>rfl
theorem new_bat {s:State} {m:Msg} {turn:Int} {L:List Msg} {l:List Entry} {i:Nat} {xs:List Msg} (hm:MsgB m) (hL:L.length≤100000) (hi:i + 1 < L.length) (hl:l.length=4∨(i + 2=L.length∧0 < l.length∧l.length < 4)) (hg:∀ e∈l,Good m false e) :
  law12_ServeNew_l1 turn true m s L (batM m turn (i:Int) l::xs) (i:Int)=law12_ServeNew_l1 turn true m s L xs ((i:Int) + 1):=by
 have ew:wr .i64 ((L.length:Int) - 1)=(L.length:Int) - 1:=wr64 (by omega) (by omega)
 have e1:ltI (i:Int) (wr .i64 ((L.length:Int) - 1))=true:=by rw [ew]; exact ltI_t.2 (by omega)
 have e3:eqI (i:Int) (wr .i64 ((L.length:Int) - 1))=false:=by rw [ew]; exact eqI_f.2 (by omega)
 have j2:∀ k,law12_ServeNew_j2 m L (batM m turn (i:Int) l) (i:Int) k=k:=fun k=>by unfold law12_ServeNew_j2; rw [show (batM m turn (i:Int) l).l=l from rfl,chk_t (smallL_of (by omega)),new_l3 hm e3 l hg]
 have j5:∀ k,law12_ServeNew_j5 m L (batM m turn (i:Int) l) (i:Int) k=k:=fun k=>by unfold law12_ServeNew_j5; rw [show (batM m turn (i:Int) l).l=l from rfl,chk_t (smallL_of (by omega)),new_l6 hm e3 l hg]
 conv=>lhs; rw [law12_ServeNew_l1]
 rw [e1,j2,j5,show (batM m turn (i:Int) l).kind=2 from rfl,show (batM m turn (i:Int) l).n=(i:Int) from rfl,show (batM m turn (i:Int) l).turn=turn from rfl,show (batM m turn (i:Int) l).sid=m.sid from rfl,show (batM m turn (i:Int) l).dst=m.src from rfl,show (batM m turn (i:Int) l).l=l from rfl,eqI_self,eqI_self,eqI_self,eqI_self,eqI_self]
 rcases hl with h4 | ⟨h1,h2,h3⟩
 ·rw [eqI_t.2 (by omega),br_t rfl]; rfl
 ·rw [eqI_f.2 (by omega),br_f rfl,ew,wr64 (by omega) (by omega),eqI_t.2 (by omega),br_t rfl,ltI_t.2 (by omega),br_t rfl,ltI_t.2 (by omega)]; rfl
theorem new_l1 {s:State} {m:Msg} {turn n:Int} {L:List Msg} (hm:MsgB m) (hL:L.length≤100000) (hd:(doneM s m turn n).l.length≤100000) (hgd:∀ e∈(doneM s m turn n).l,Good m true e):∀ (k:Nat) (l:List Entry) (i:Nat),l.length < k→L.length=i + (batV m turn k l (i:Int)).length + 1→(∀ e∈l,Good m false e) →
  ∃ j,law12_ServeNew_l1 turn true m s L (batV m turn k l (i:Int)++[doneM s m turn n]) (i:Int)=law12_ServeNew_l1 turn true m s L [] j
 | 0,_,_,h,_,_=>by omega
 | k + 1,[],i,_,he,_=>by
  rw [batV,List.length_nil] at he
  rw [batV,List.nil_append]
  exact ⟨_,new_done hm (by rw [wr64 (by omega) (by omega)]; omega) ⟨by omega,hL⟩ rfl rfl rfl hd hgd⟩
 | k + 1,e::l,i,h,he,hg=>by
  have hdl:((e::l).drop 4).length=(e::l).length - 4:=List.length_drop
  have htl:((e::l).take 4).length=min 4 (e::l).length:=List.length_take
  have h1:1≤(e::l).length:=by simp
  have eb:batV m turn (k + 1) (e::l) (i:Int)=batM m turn (i:Int) ((e::l).take 4)::batV m turn k ((e::l).drop 4) ((i + 1:Nat):Int):=rfl
  rw [eb,List.length_cons] at he
  rw [eb,List.cons_append]
  have hb:(batV m turn k ((e::l).drop 4) ((i + 1:Nat):Int)).length=0∨4 < (e::l).length:=by
   by_cases h4:4 < (e::l).length
   ·exact .inr h4
   ·left
    rw [List.drop_eq_nil_of_le (by omega)]
    cases k with
    | zero=>rfl
    | succ k=>rfl
  rw [new_bat hm hL (by omega) (by omega) fun x hx=>hg x (List.mem_of_mem_take hx)]
  exact new_l1 hm hL hd hgd k _ (i + 1) (by omega) (by omega) fun x hx=>hg x (List.mem_of_mem_drop hx)
theorem good_ent {all:List Item} {m:Msg} (hm:MsgB m) (ha:∀ i∈all,i.Ok∧mayI i=true):∀ e∈entV all m,Good m false e:=fun e he=>by
 unfold entV at he
 rcases List.mem_append.1 he with he | he
 ·obtain ⟨x,hx,rfl⟩:=List.mem_map.1 he
  obtain ⟨hx,hn⟩:=List.mem_filter.1 hx
  unfold newF at hn
  rw [Bool.and_eq_true,Bool.not_eq_true'] at hn
  exact ⟨fun h=>(by cases h),fun _=>⟨hn.1,hn.2,rfl⟩,(ha x hx).1⟩
 ·obtain ⟨h,hh,e2⟩:=List.mem_filterMap.1 he
  obtain ⟨r,c,rfl⟩:=goes_go _ _ _ _ e2
  have ok:=hm.h h hh
  exact ⟨fun _=>List.any_eq_true.2 ⟨h,hh,by show (eqS h.id h.id&&(eqI h.vr h.vr&&eqI h.vc h.vc))=true; rw [eqS_self,eqI_self,eqI_self]; rfl⟩,fun h=>(by cases h),⟨ok.id,by show (0:Nat)≤_; decide,ok.vr,ok.vc,by show _≤(0:Int)∧(0:Int)≤_; decide,by show _≤(0:Int)∧(0:Int)≤_; decide⟩⟩
theorem good_done {all:List Item} {s:State} {m:Msg} (hm:MsgB m):∀ e∈doneL all s m,Good m true e:=fun e he=>by
 unfold doneL at he
 split at he
 ·obtain ⟨h,hh,e2⟩:=List.mem_filterMap.1 he
  obtain ⟨r,c,rfl⟩:=goes_done _ _ _ _ e2
  have ok:=hm.h h hh
  exact ⟨fun _=>List.any_eq_true.2 ⟨h,hh,by show (eqS h.id h.id&&(eqI h.vr h.vr&&eqI h.vc h.vc))=true; rw [eqS_self,eqI_self,eqI_self]; rfl⟩,fun h=>(by cases h),⟨ok.id,by show (0:Nat)≤_; decide,ok.vr,ok.vc,by show _≤(0:Int)∧(0:Int)≤_; decide,by show _≤(0:Int)∧(0:Int)≤_; decide⟩⟩
 ·cases he
theorem new_l11 {m:Msg} {L:List Msg} (hm:MsgB m) (hl:(lsOf L).length≤1000000) (hn:L.length≤1000000):∀ xs:List Item,(∀ x∈xs,x.Ok∧(lsOf L).countP (mtE x)=if newF m.k m.f x=true then 1 else 0)→law12_ServeNew_l11 true m L xs=some true
 | [],_=>by rw [law12_ServeNew_l11]
 | x::xs,h=>by
  obtain ⟨ok,hc⟩:=h x (List.mem_cons_self ..)
  have ih:=new_l11 hm hl hn xs fun y hy=>h y (List.mem_cons_of_mem _ hy)
  have e:newF m.k m.f x=(!hasK m.k x.id x.vr x.vc&&hasP m.f x):=rfl
  rw [e] at hc
  have j12:∀ v:Int,law12_ServeNew_j12 L x (some true) v=if eqI (((lsOf L).countP (mtE x):Nat):Int) v=true then some true else some false:=fun v=>by
   unfold law12_ServeNew_j12
   rw [bnd_of (found_s hl hn)]
   cases eqI (((lsOf L).countP (mtE x):Nat):Int) v<;>rfl
  rw [law12_ServeNew_l11,bnd_of (hasK_s (N:=90000) (by decide) hm.k.kb),bnd_of (has3_s hm.f ok),ih,j12,j12,hc,show (Ver.mk x.vr x.vc).r=x.vr from rfl,show (Ver.mk x.vr x.vc).c=x.vc from rfl]
  cases hasP m.f x<;>cases hasK m.k x.id x.vr x.vc<;>rfl
theorem serveNew_s {s:Sit} {x:Note} {turn:Int} (ok:s.Ok) (ok2:x.Ok):law12_ServeNew_s s x turn=some true:=by
 obtain ⟨a,ha,h1⟩:=fits_sit ok
 obtain ⟨b,hb,h2⟩:=short_s ok2
 unfold law12_ServeNew_s
 rw [bnd_of up12,bnd_of ha,bnd_of hb]
 rcases mul01 (h1.imp (fun h=>h) And.left) (h2.imp (fun h=>h) And.left) with h | ⟨rfl,rfl⟩
 ·rw [br_t h]
 ·obtain ⟨-, hst, -, -, -, hk⟩:=h1.resolve_left (by decide)
  obtain ⟨-, sn⟩:=h2.resolve_left (by decide)
  have sb:=hst.b hk
  have mb:=note_b ok2 sn
  have sn1:=sn.f
  have sn2:=sn.l
  rw [br_f (by rfl),bnd_of (msg_s ok2 (by omega) (by omega)),bnd_of (state_s ok hst),bnd_of (rmay_s sb)]
  cases hm:mayS s.st with
  | false=>rfl
  | true =>
   have so:=may_sok hm hst.f hst.store hst.out hk.kt hst.ids
   generalize noteM x=m at *
   generalize s.st=t at *
   rw [br_f (by rfl),bnd_of (smay_s mb)]
   cases hmm:mayM m with
   | false=>rfl
   | true =>
    rw [br_f (by rfl)]
    cases hd:eqI m.dst t.r with
    | false=>rfl
    | true =>
     have hlen:=both_len so
     have hle:=so.le
     have hen:=ent_len (bothV t.store t.out) m
     have hhl:=mb.hl
     have hbl:=bat_len m turn ((entV (bothV t.store t.out) m).length + 1) (entV (bothV t.store t.out) m) 0
     have hdl:(doneL (bothV t.store t.out) t m).length≤1000:=by
      unfold doneL
      split
      ·have:=len_fm (gone0 (bothV t.store t.out) t.k) m.have_; omega
      ·exact Nat.zero_le _
     have ea:answerV t m turn=batV m turn ((entV (bothV t.store t.out) m).length + 1) (entV (bothV t.store t.out) m) 0++[doneM t m turn ((batV m turn ((entV (bothV t.store t.out) m).length + 1) (entV (bothV t.store t.out) m) 0).length:Int)]:=by
      unfold answerV; rw [hmm,hd]; rfl
     have hcount:=fun p (hp:p∈bothV t.store t.out)=>count_ans (m:=m) (turn:=turn) (n:=((batV m turn ((entV (bothV t.store t.out) m).length + 1) (entV (bothV t.store t.out) m) 0).length:Int)) so hp
     have els:(lsOf (answerV t m turn)).length≤10000:=by
      rw [ea]
      unfold lsOf
      rw [List.flatMap_append,List.length_append]
      have:=ls_bat (m:=m) (turn:=turn) ((entV (bothV t.store t.out) m).length + 1) (entV (bothV t.store t.out) m) 0 (by omega)
      unfold lsOf at this
      rw [this]
      simp only [List.flatMap_cons,List.flatMap_nil,List.append_nil]
      show _ + (doneL (bothV t.store t.out) t m).length≤_
      omega
     rw [←ea] at hcount
     have hlenL:(answerV t m turn).length=(batV m turn ((entV (bothV t.store t.out) m).length + 1) (entV (bothV t.store t.out) m) 0).length + 1:=by rw [ea,List.length_append]; rfl
     have ew:wr .i64 (((answerV t m turn).length:Int) - 1)=((batV m turn ((entV (bothV t.store t.out) m).length + 1) (entV (bothV t.store t.out) m) 0).length:Int):=by rw [hlenL,wr64 (by omega) (by omega)]; omega
     rw [br_f (by rfl),bnd_of (serve_s (turn:=turn) so (by decide) mb),br_f (eqI_f.2 (by omega)),ew,bnd_of (show atL (answerV t m turn) _=some (doneM t m turn _) by rw [ea]; exact at_app _ _ []),show (doneM t m turn ((batV m turn ((entV (bothV t.store t.out) m).length + 1) (entV (bothV t.store t.out) m) 0).length:Int)).kind=3 from rfl,show (doneM t m turn ((batV m turn ((entV (bothV t.store t.out) m).length + 1) (entV (bothV t.store t.out) m) 0).length:Int)).n=((batV m turn ((entV (bothV t.store t.out) m).length + 1) (entV (bothV t.store t.out) m) 0).length:Int) from rfl,eqI_self,eqI_self,br_f (by rfl),br_f (by rfl),chk_t (smallL_of (by omega))]
     obtain ⟨j,hj⟩:=new_l1 (s:=t) (m:=m) (turn:=turn) (n:=((batV m turn ((entV (bothV t.store t.out) m).length + 1) (entV (bothV t.store t.out) m) 0).length:Int)) (L:=answerV t m turn) mb (by omega) (by show (doneL (bothV t.store t.out) t m).length≤_; omega) (good_done mb) ((entV (bothV t.store t.out) m).length + 1) (entV (bothV t.store t.out) m) 0 (by omega) (by rw [hlenL]; simp only [show ((0:Nat):Int)=0 from rfl]; omega) (good_ent mb (both_ok so))
     rw [show ((0:Nat):Int)=0 from rfl,←ea] at hj
     rw [hj,law12_ServeNew_l1,bnd_of (rboth_s so.rs so.ro (by omega)),chk_t (smallL_of (by omega)),new_l11 mb (by omega) (by omega) _ fun p hp=>⟨(both_ok so p hp).1,hcount p hp⟩]
theorem law_serveNew {X:Task→Prop} (hX:Closed X) {s:Sit} {x:Note} {turn:Int} (ok:s.Ok) (ok2:x.Ok) {Q:A→List Blk→Prop} (hQ:Q (bv true) []):X (.call 5 [s.la,x.la,iv turn] [] Q):=law12_ServeNew_c hX (serveNew_s ok ok2) hQ
end
end Go.Proofs.YtidkmoohgadjkaaGreat
