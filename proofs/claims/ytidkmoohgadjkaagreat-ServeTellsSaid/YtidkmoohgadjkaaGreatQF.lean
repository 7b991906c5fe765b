/- The document: layers 11 to 15. Written by decomp.py. What a replica answers: by both functions. What a replica answers: by both functions: the batches, and what is behind them. What a replica answers: by both functions: the batches, and what is behind them. What a replica answers: by both functions: the batches, and what is behind them. What a replica answers: by both functions: the batches, and what is behind them. The laws of layer 12. Written by decomp.py. Filters as arguments of laws. States as arguments of laws. The statements ServeTells, ServeAsks, out of what their code computes. -/
import Derived.Test.YtidkmoohgadjkaaGreatQE
import Derived.Test.YtidkmoohgadjkaaGreatQD
set_option linter.unusedVariables false
set_option linter.unusedSimpArgs false
set_option maxRecDepth 100000
set_option maxHeartbeats 0
namespace Go.Proofs.YtidkmoohgadjkaaGreat
open Go E
noncomputable section
open Pred
def ref11_Ends_s (p0:Int) (p1:Int):Option (Bool) :=
 (br (leI 1 p0)
  (br (leI p0 8)
   (br (leI 1 p1)
    (br (leI p1 8)
     (some (!eqI p0 p1))
     (some false))
    (some false))
   (some false))
  (some false))
def ref11_May_l1 (p0:Msg):List Has→Int→Option (Bool)
  | [],v18 =>
  some true
  | x1e::xs1,v18 =>
  (bnd (ref01_Name_s x1e.id) fun y19 =>
   (bnd (ref01_Ver_s (Ver.mk x1e.vr x1e.vc)) fun y21 =>
    (br (!y19)
     (some false)
     (br (!y21)
      (some false)
      (br (ltI x1e.stamp 1)
       (some false)
       (br (ltI 1000000 x1e.stamp)
        (some false)
        (br (ltI 0 v18)
         (bnd (atL p0.have_ (wr .i64 (v18 - 1))) fun x28 =>
          (br (ltS x1e.id x28.id || eqS x1e.id x28.id)
           (some false)
           (ref11_May_l1 p0 xs1 (v18 + 1) )))
         (ref11_May_l1 p0 xs1 (v18 + 1) ))))))))
def ref11_May_s (p0:Msg):Option (Bool) :=
 (bnd (ref11_Ends_s p0.src p0.dst) fun y1 =>
  (bnd (ref03_May_s p0.f) fun y3 =>
   (bnd (ref06_May_s p0.k) fun y5 =>
    (br (!eqI p0.kind 1)
     (some false)
     (br (!y1)
      (some false)
      (br (!y3)
       (some false)
       (br (!y5)
        (some false)
        (br (ltI p0.sid 0)
         (some false)
         (br (ltI 1000000 p0.sid)
          (some false)
          (br (ltI 40 (p0.have_.length:Int))
           (some false)
           (br (!eqI p0.turn 0)
            (some false)
            (br (!eqI p0.n 0)
             (some false)
             (br (!eqI (p0.l.length:Int) 0)
              (some false)
              (br p0.star
               (some false)
               (chk (smallL p0.have_)
                 ((ref11_May_l1 p0) p0.have_ 0 ))))))))))))))))
def ref11_Answer_l4 (p1:Msg) (p2:Int) (v27:Know) (v29:List Entry) (v30:List Entry):Nat→Int→(List Msg)→Option ((List Msg))
  | 0,_,_=>none
  | fl4 + 1,v46,v47 =>
  (br (ltI v46 (v30.length:Int))
   (br (ltI (v30.length:Int) (wr .i64 (v46 + 4)))
    (chk (leI 0 v46&&(leI v46 (v30.length:Int)&&leI (v30.length:Int) (v30.length:Int)))
     (chk (roomL 0 (subL v30 v46 (v30.length:Int)).length)
      (chk (roomL v47.length 1)
       (ref11_Answer_l4 p1 p2 v27 v29 v30 fl4 (wr .i64 (v46 + 4)) (v47++[(Msg.mk 2 p1.dst p1.src p1.sid p2 (Pred.mk 0 ⟨#[]⟩ 0 0 0 ([]:List Pred)) (Know.mk (V8.mk 0 0 0 0 0 0 0 0) ([]:List Frag)) ([]:List Has) (wr .i64 (tdivI v46 4)) (subL v30 v46 (v30.length:Int)) false)])))))
    (chk (leI 0 v46&&(leI v46 (wr .i64 (v46 + 4))&&leI (wr .i64 (v46 + 4)) (v30.length:Int)))
     (chk (roomL 0 (subL v30 v46 (wr .i64 (v46 + 4))).length)
      (chk (roomL v47.length 1)
       (ref11_Answer_l4 p1 p2 v27 v29 v30 fl4 (wr .i64 (v46 + 4)) (v47++[(Msg.mk 2 p1.dst p1.src p1.sid p2 (Pred.mk 0 ⟨#[]⟩ 0 0 0 ([]:List Pred)) (Know.mk (V8.mk 0 0 0 0 0 0 0 0) ([]:List Frag)) ([]:List Has) (wr .i64 (tdivI v46 4)) (subL v30 v46 (wr .i64 (v46 + 4))) false)]))))))
   (chk (roomL v47.length 1)
    (some (v47++[(Msg.mk 3 p1.dst p1.src p1.sid p2 (Pred.mk 0 ⟨#[]⟩ 0 0 0 ([]:List Pred)) v27 ([]:List Has) (v47.length:Int) v29 false)]))))
def ref11_Answer_l3 (p0:State) (p1:Msg) (p2:Int) (y5:(List Item)) (y16:Bool) (v27:Know):List Has→(List Entry)→(List Entry)→Option ((List Msg))
  | [],v29,v30 =>
  ((ref11_Answer_l4 p1 p2 v27 v29 v30) fuelN 0 ([]:List Msg))
  | x3e::xs3,v29,v30 =>
  (bnd (ref06_Get_s y5 x3e.id) fun y31 =>
   (br (!y31.2)
    (br y16
     (bnd (ref06_Has_s p0.k x3e.id (Ver.mk x3e.vr x3e.vc)) fun y35 =>
      (br y35
       (chk (roomL v29.length 1)
        (ref11_Answer_l3 p0 p1 p2 y5 y16 v27 xs3  (v29++[(Entry.mk (Item.mk x3e.id x3e.vr x3e.vc 0 ⟨#[]⟩ 0 0 0 false) true 0 0)]) v30))
       (ref11_Answer_l3 p0 p1 p2 y5 y16 v27 xs3  v29 v30)))
     (ref11_Answer_l3 p0 p1 p2 y5 y16 v27 xs3  v29 v30))
    (bnd (ref03_Has_s p1.f y31.1) fun y39 =>
     (br (!y39)
      (bnd (ref01_Behind_s y31.1 (Item.mk ⟨#[]⟩ x3e.vr x3e.vc x3e.stamp ⟨#[]⟩ 0 0 0 false)) fun y42 =>
       (br y42
        (chk (roomL v30.length 1)
         (ref11_Answer_l3 p0 p1 p2 y5 y16 v27 xs3  v29 (v30++[(Entry.mk (Item.mk x3e.id x3e.vr x3e.vc 0 ⟨#[]⟩ 0 0 0 false) true y31.1.vr y31.1.vc)])))
        (ref11_Answer_l3 p0 p1 p2 y5 y16 v27 xs3  v29 v30)))
      (ref11_Answer_l3 p0 p1 p2 y5 y16 v27 xs3  v29 v30)))))
def ref11_Answer_j2 (p0:State) (p1:Msg) (p2:Int) (y5:(List Item)) (v8:List Entry) (y16:Bool) (v27:Know):Option ((List Msg)) :=
 (chk (smallL p1.have_)
   ((ref11_Answer_l3 p0 p1 p2 y5 y16 v27) p1.have_ ([]:List Entry) v8))
def ref11_Answer_l1 (p0:State) (p1:Msg) (p2:Int) (y5:(List Item)):List Item→(List Entry)→Option ((List Msg))
  | [],v8 =>
  (bnd (ref03_In_s p1.f p0.f) fun y16 =>
   (br y16
    (ref11_Answer_j2 p0 p1 p2 y5 v8 y16 p0.k)
    (ref11_Answer_j2 p0 p1 p2 y5 v8 y16 (Know.mk (V8.mk 0 0 0 0 0 0 0 0) ([]:List Frag)))))
  | x1e::xs1,v8 =>
  (bnd (ref06_Has_s p1.k x1e.id (Ver.mk x1e.vr x1e.vc)) fun y9 =>
   (bnd (ref03_Has_s p1.f x1e) fun y11 =>
    (br (!y9)
     (br y11
      (chk (roomL v8.length 1)
       (ref11_Answer_l1 p0 p1 p2 y5 xs1  (v8++[(Entry.mk x1e false 0 0)])))
      (ref11_Answer_l1 p0 p1 p2 y5 xs1  v8))
     (ref11_Answer_l1 p0 p1 p2 y5 xs1  v8))))
def ref11_Answer_s (p0:State) (p1:Msg) (p2:Int):Option ((List Msg)) :=
 (bnd (ref11_May_s p1) fun y1 =>
  (br (!y1)
   (some [])
   (br (!eqI p1.dst p0.r)
    (some [])
    (bnd (ref06_Both_s p0.store p0.out) fun y5 =>
     (chk (smallL y5)
       ((ref11_Answer_l1 p0 p1 p2 y5) y5 ([]:List Entry)))))))
variable {X:Task→Prop} (hX:Closed X) {Q:A→List Blk→Prop}
include hX
theorem ref11_Ends_c  {p0:Int} {p1:Int} {r:Bool} (h:ref11_Ends_s p0 p1=some r) (hQ:Q (.one (.p (.v (.bool r)))) []):X (.call 75 [iv p0,iv p1] [] Q):=by
  have K:=fun a (e:some a=some r)=>ret_some (f:=fun y=>.one (.p (.v (.bool y)))) (g:=fun y=>[]) e hQ
  unfold ref11_Ends_s at h
  refine call_intro hX Tryz.func75 rfl rfl ?_
  conv=>whnf
  repeat((first|refine dw ?_);conv=>whnf)
  revert h
  refine brk (fun c1 h=>?_) (fun c1 h=>?_)
  ·conv=>whnf
   repeat((first|refine dw ?_|refine bct c1 ?_);conv=>whnf)
   revert h
   refine brk (fun c2 h=>?_) (fun c2 h=>?_)
   ·conv=>whnf
    repeat((first|refine dw ?_|refine bct c2 ?_);conv=>whnf)
    revert h
    refine brk (fun c3 h=>?_) (fun c3 h=>?_)
    ·conv=>whnf
     repeat((first|refine dw ?_|refine bct c3 ?_);conv=>whnf)
     revert h
     refine brk (fun c4 h=>?_) (fun c4 h=>?_)
     ·conv=>whnf
      repeat((first|refine dw ?_|refine bct c4 ?_);conv=>whnf)
      exact K _ h
     ·conv=>whnf
      repeat((first|refine dw ?_|refine bcf c4 ?_);conv=>whnf)
      exact K _ h
    ·conv=>whnf
     repeat((first|refine dw ?_|refine bcf c3 ?_);conv=>whnf)
     exact K _ h
   ·conv=>whnf
    repeat((first|refine dw ?_|refine bcf c2 ?_);conv=>whnf)
    exact K _ h
  ·conv=>whnf
   repeat((first|refine dw ?_|refine bcf c1 ?_);conv=>whnf)
   exact K _ h
theorem ref11_May_c  {p0:Msg} {r:Bool} (h:ref11_May_s p0=some r) (hQ:Q (.one (.p (.v (.bool r)))) []):X (.call 20 [.agg (Msg.cs p0)] [] Q):=by
  have K:=fun a (e:some a=some r)=>ret_some (f:=fun y=>.one (.p (.v (.bool y)))) (g:=fun y=>[]) e hQ
  unfold ref11_May_s at h
  refine call_intro hX Tryz.func20 rfl rfl ?_
  revert h
  refine bndk fun y1 e2 h=>?_
  conv=>whnf
  repeat((first|refine dw ?_);conv=>whnf)
  refine ref11_Ends_c hX e2 ?_
  revert h
  refine bndk fun y3 e4 h=>?_
  conv=>whnf
  repeat((first|refine dw ?_);conv=>whnf)
  refine ref03_May_c hX e4 ?_
  revert h
  refine bndk fun y5 e6 h=>?_
  conv=>whnf
  repeat((first|refine dw ?_);conv=>whnf)
  refine ref06_May_c hX e6 ?_
  conv=>whnf
  repeat((first|refine dw ?_);conv=>whnf)
  revert h
  refine brk (fun c7 h=>?_) (fun c7 h=>?_)
  ·conv=>whnf
   repeat((first|refine dw ?_|refine bct c7 ?_);conv=>whnf)
   exact K _ h
  ·conv=>whnf
   repeat((first|refine dw ?_|refine bcf c7 ?_);conv=>whnf)
   revert h
   refine brk (fun c8 h=>?_) (fun c8 h=>?_)
   ·conv=>whnf
    repeat((first|refine dw ?_|refine bct c8 ?_);conv=>whnf)
    exact K _ h
   ·conv=>whnf
    repeat((first|refine dw ?_|refine bcf c8 ?_);conv=>whnf)
    revert h
    refine brk (fun c9 h=>?_) (fun c9 h=>?_)
    ·conv=>whnf
     repeat((first|refine dw ?_|refine bct c9 ?_);conv=>whnf)
     exact K _ h
    ·conv=>whnf
     repeat((first|refine dw ?_|refine bcf c9 ?_);conv=>whnf)
     revert h
     refine brk (fun c10 h=>?_) (fun c10 h=>?_)
     ·conv=>whnf
      repeat((first|refine dw ?_|refine bct c10 ?_);conv=>whnf)
      exact K _ h
     ·conv=>whnf
      repeat((first|refine dw ?_|refine bcf c10 ?_);conv=>whnf)
      revert h
      refine brk (fun c11 h=>?_) (fun c11 h=>?_)
      ·conv=>whnf
       repeat((first|refine dw ?_|refine bct c11 ?_);conv=>whnf)
       exact K _ h
      ·conv=>whnf
       repeat((first|refine dw ?_|refine bcf c11 ?_);conv=>whnf)
       revert h
       refine brk (fun c12 h=>?_) (fun c12 h=>?_)
       ·conv=>whnf
        repeat((first|refine dw ?_|refine bct c12 ?_);conv=>whnf)
        exact K _ h
       ·conv=>whnf
        repeat((first|refine dw ?_|refine bcf c12 ?_|refine eqv_to (map_len _) ?_);conv=>whnf)
        revert h
        refine brk (fun c13 h=>?_) (fun c13 h=>?_)
        ·conv=>whnf
         repeat((first|refine dw ?_|refine bct c13 ?_);conv=>whnf)
         exact K _ h
        ·conv=>whnf
         repeat((first|refine dw ?_|refine bcf c13 ?_);conv=>whnf)
         revert h
         refine brk (fun c14 h=>?_) (fun c14 h=>?_)
         ·conv=>whnf
          repeat((first|refine dw ?_|refine bct c14 ?_);conv=>whnf)
          exact K _ h
         ·conv=>whnf
          repeat((first|refine dw ?_|refine bcf c14 ?_);conv=>whnf)
          revert h
          refine brk (fun c15 h=>?_) (fun c15 h=>?_)
          ·conv=>whnf
           repeat((first|refine dw ?_|refine bct c15 ?_);conv=>whnf)
           exact K _ h
          ·conv=>whnf
           repeat((first|refine dw ?_|refine bcf c15 ?_|refine eqv_to (map_len _) ?_);conv=>whnf)
           revert h
           refine brk (fun c16 h=>?_) (fun c16 h=>?_)
           ·conv=>whnf
            repeat((first|refine dw ?_|refine bct c16 ?_);conv=>whnf)
            exact K _ h
           ·conv=>whnf
            repeat((first|refine dw ?_|refine bcf c16 ?_);conv=>whnf)
            revert h
            refine brk (fun c17 h=>?_) (fun c17 h=>?_)
            ·conv=>whnf
             repeat((first|refine dw ?_|refine bct c17 ?_);conv=>whnf)
             exact K _ h
            ·revert h
             refine chkk fun hs1 h=>?_
             conv=>whnf
             repeat((first|refine dw ?_|refine bcf c17 ?_);conv=>whnf)
             refine loop_list0 (fun (v18:Int)=>pad [(1,.one (.ptr 0 0)),(4,iv v18)] 125) (fun (v18:Int)=>[.box (Msg.cs p0)]) _ p0.have_ (fun pre1 x1e xs1 v18  hl1 hi1 h ih1=>?_) (fun v18  hi1 h=>?_)  h
             ·rw [ref11_May_l1] at h
              have am1:=at_mid hl1 hi1
              refine loop_intro hX ?_
              revert h
              refine bndk fun y19 e20 h=>?_
              conv=>whnf
              repeat((first|refine dw ?_|refine eqv_to (map_len _) ?_|refine bct (lt_mid hl1 hi1) ?_|refine bct (at_in am1) ?_|refine bct (andt (at_in am1) rfl) ?_|refine row_in (at_row am1) ?_|refine bct (andt (at_in (at_nat am1)) rfl) ?_|refine row_in (at_row (at_nat am1)) ?_);conv=>whnf)
              refine ref01_Name_c hX e20 ?_
              revert h
              refine bndk fun y21 e22 h=>?_
              conv=>whnf
              repeat((first|refine dw ?_|refine bct (at_in am1) ?_|refine bct (andt (at_in am1) rfl) ?_|refine row_in (at_row am1) ?_|refine bct (andt (at_in (at_nat am1)) rfl) ?_|refine row_in (at_row (at_nat am1)) ?_);conv=>whnf)
              refine ref01_Ver_c hX e22 ?_
              conv=>whnf
              repeat((first|refine dw ?_);conv=>whnf)
              revert h
              refine brk (fun c23 h=>?_) (fun c23 h=>?_)
              ·conv=>whnf
               repeat((first|refine dw ?_|refine bct c23 ?_);conv=>whnf)
               exact K _ h
              ·conv=>whnf
               repeat((first|refine dw ?_|refine bcf c23 ?_);conv=>whnf)
               revert h
               refine brk (fun c24 h=>?_) (fun c24 h=>?_)
               ·conv=>whnf
                repeat((first|refine dw ?_|refine bct c24 ?_);conv=>whnf)
                exact K _ h
               ·conv=>whnf
                repeat((first|refine dw ?_|refine bcf c24 ?_|refine bct (at_in am1) ?_|refine bct (andt (at_in am1) rfl) ?_|refine row_in (at_row am1) ?_|refine bct (andt (at_in (at_nat am1)) rfl) ?_|refine row_in (at_row (at_nat am1)) ?_);conv=>whnf)
                revert h
                refine brk (fun c25 h=>?_) (fun c25 h=>?_)
                ·conv=>whnf
                 repeat((first|refine dw ?_|refine bct c25 ?_);conv=>whnf)
                 exact K _ h
                ·conv=>whnf
                 repeat((first|refine dw ?_|refine bcf c25 ?_|refine bct (at_in am1) ?_|refine bct (andt (at_in am1) rfl) ?_|refine row_in (at_row am1) ?_|refine bct (andt (at_in (at_nat am1)) rfl) ?_|refine row_in (at_row (at_nat am1)) ?_);conv=>whnf)
                 revert h
                 refine brk (fun c26 h=>?_) (fun c26 h=>?_)
                 ·conv=>whnf
                  repeat((first|refine dw ?_|refine bct c26 ?_);conv=>whnf)
                  exact K _ h
                 ·conv=>whnf
                  repeat((first|refine dw ?_|refine bcf c26 ?_);conv=>whnf)
                  revert h
                  refine brk (fun c27 h=>?_) (fun c27 h=>?_)
                  ·revert h
                   refine bndk fun x28 a29 h=>?_
                   conv=>whnf
                   repeat((first|refine dw ?_|refine bct c27 ?_|refine bct (at_in am1) ?_|refine bct (andt (at_in am1) rfl) ?_|refine row_in (at_row am1) ?_|refine bct (andt (at_in (at_nat am1)) rfl) ?_|refine row_in (at_row (at_nat am1)) ?_|refine bct (at_in a29) ?_|refine bct (andt (at_in a29) rfl) ?_|refine row_in (at_row a29) ?_|refine bct (andt (at_in (at_nat a29)) rfl) ?_|refine row_in (at_row (at_nat a29)) ?_);conv=>whnf)
                   revert h
                   refine brk (fun c30 h=>?_) (fun c30 h=>?_)
                   ·conv=>whnf
                    repeat((first|refine dw ?_|refine bct c30 ?_);conv=>whnf)
                    exact K _ h
                   ·conv=>whnf
                    repeat((first|refine dw ?_|refine bcf c30 ?_);conv=>whnf)
                    exact ih1 _  (wrL hs1 hl1 hi1) h
                  ·conv=>whnf
                   repeat((first|refine dw ?_|refine bcf c27 ?_);conv=>whnf)
                   exact ih1 _  (wrL hs1 hl1 hi1) h
             ·rw [ref11_May_l1] at h
              refine loop_intro hX ?_
              conv=>whnf
              repeat((first|refine dw ?_|refine eqv_to (map_len _) ?_|refine bcf (lt_end hi1) ?_);conv=>whnf)
              exact K _ h
theorem ref11_Answer_c  {p0:State} {p1:Msg} {p2:Int} {r:(List Msg)} (h:ref11_Answer_s p0 p1 p2=some r) (hQ:Q (.one (.p (.sl (r.map Msg.row)))) []):X (.call 25 [.agg (State.cs p0),.agg (Msg.cs p1),iv p2] [] Q):=by
  have K:=fun a (e:some a=some r)=>ret_some (f:=fun y=>.one (.p (.sl (y.map Msg.row)))) (g:=fun y=>[]) e hQ
  unfold ref11_Answer_s at h
  refine call_nz hX ?_
  conv=>whnf
  refine call_intro hX Tryz.func25 rfl rfl ?_
  replace h:=bnd_some h
  obtain ⟨y1,e2,h⟩:=h
  conv=>whnf
  repeat((first|refine dw ?_);conv=>whnf)
  refine ref11_May_c hX e2 ?_
  conv=>whnf
  repeat((first|refine dw ?_);conv=>whnf)
  refine br_some h (fun c3 g=>?_) (fun c3 g=>?_)
  ·replace h:=g
   clear g
   conv=>whnf
   repeat((first|refine dw ?_|refine bct c3 ?_);conv=>whnf)
   exact K _ h
  ·replace h:=g
   clear g
   conv=>whnf
   repeat((first|refine dw ?_|refine bcf c3 ?_);conv=>whnf)
   refine br_some h (fun c4 g=>?_) (fun c4 g=>?_)
   ·replace h:=g
    clear g
    conv=>whnf
    repeat((first|refine dw ?_|refine bct c4 ?_);conv=>whnf)
    exact K _ h
   ·replace h:=g
    clear g
    replace h:=bnd_some h
    obtain ⟨y5,e6,h⟩:=h
    conv=>whnf
    repeat((first|refine dw ?_|refine bcf c4 ?_);conv=>whnf)
    refine ref06_Both_c hX e6 ?_
    replace h:=chk_some h
    obtain ⟨hs1,h⟩:=h
    conv=>whnf
    repeat((first|refine dw ?_);conv=>whnf)
    refine loop_k hX [11] ?_
    conv=>whnf
    refine loop_lisx1 (fun (v7:Int) (v8:List Entry)=>pad [(2,iv p2),(0,.one (.ptr 0 0)),(0,.one (.ptr 1 0)),(3,.one (.p (.sl (y5.map Item.row)))),(0,.one (.own 2)),(0,iv v7)] 190) (fun (v7:Int) (v8:List Entry)=>[.box (State.cs p0),.box (Msg.cs p1),.rows 11 (v8.map Entry.row)]) _ y5 (fun pre1 x1e xs1 v7 v8 hl1 hi1 h ih1=>?_) (fun v7 v8 hi1 h=>?_) ([]:List Entry) h
    ·rw [ref11_Answer_l1] at h
     have am1:=at_mid hl1 hi1
     refine loop_intro hX ?_
     replace h:=bnd_some h
     obtain ⟨y9,e10,h⟩:=h
     conv=>whnf
     repeat((first|refine dw ?_|refine eqv_to (map_len _) ?_|refine bct (lt_mid hl1 hi1) ?_|refine bct (at_in am1) ?_|refine bct (andt (at_in am1) rfl) ?_|refine row_in (at_row am1) ?_|refine bct (andt (at_in (at_nat am1)) rfl) ?_|refine row_in (at_row (at_nat am1)) ?_);conv=>whnf)
     refine ref06_Has_c hX e10 ?_
     replace h:=bnd_some h
     obtain ⟨y11,e12,h⟩:=h
     conv=>whnf
     repeat((first|refine dw ?_|refine bct (at_in am1) ?_|refine bct (andt (at_in am1) rfl) ?_|refine row_in (at_row am1) ?_|refine bct (andt (at_in (at_nat am1)) rfl) ?_|refine row_in (at_row (at_nat am1)) ?_);conv=>whnf)
     refine ref03_Has_c hX e12 ?_
     conv=>whnf
     repeat((first|refine dw ?_);conv=>whnf)
     refine br_some h (fun c13 g=>?_) (fun c13 g=>?_)
     ·replace h:=g
      clear g
      conv=>whnf
      repeat((first|refine dw ?_|refine bct c13 ?_);conv=>whnf)
      refine br_some h (fun c14 g=>?_) (fun c14 g=>?_)
      ·replace h:=g
       clear g
       replace h:=chk_some h
       obtain ⟨c15,h⟩:=h
       conv=>whnf
       repeat((first|refine dw ?_|refine bct c14 ?_|refine bct (at_in am1) ?_|refine bct (andt (at_in am1) rfl) ?_|refine row_in (at_row am1) ?_|refine bct (andt (at_in (at_nat am1)) rfl) ?_|refine row_in (at_row (at_nat am1)) ?_|refine bct (room_map c15 rfl rfl rfl rfl) ?_|refine eqv_to (cat_one (f:=Entry.row) v8 (Entry.mk x1e false 0 0)) ?_);conv=>whnf)
       exact ih1 _ (v8++[(Entry.mk x1e false 0 0)]) (wrL hs1 hl1 hi1) h
      ·replace h:=g
       clear g
       conv=>whnf
       repeat((first|refine dw ?_|refine bcf c14 ?_);conv=>whnf)
       exact ih1 _ v8 (wrL hs1 hl1 hi1) h
     ·replace h:=g
      clear g
      conv=>whnf
      repeat((first|refine dw ?_|refine bcf c13 ?_);conv=>whnf)
      exact ih1 _ v8 (wrL hs1 hl1 hi1) h
    ·rw [ref11_Answer_l1] at h
     refine loop_intro hX ?_
     replace h:=bnd_some h
     obtain ⟨y16,e17,h⟩:=h
     conv=>whnf
     repeat((first|refine dw ?_|refine eqv_to (map_len _) ?_|refine bcf (lt_end hi1) ?_);conv=>whnf)
     refine ref03_In_c hX e17 ?_
     apply join1 (X:=X) (r:=r) (fun (v27:Know)=>pad [(2,iv p2),(0,.one (.ptr 0 0)),(0,.one (.ptr 1 0)),(3,.one (.p (.sl (y5.map Item.row)))),(0,.one (.own 2)),(3,.one (.ptr 3 0)),(0,.one (.p (.v (.bool y16))))] 186) (fun (v27:Know)=>[.box (State.cs p0),.box (Msg.cs p1),.rows 11 (v8.map Entry.row),.box [ic 3,ic p1.dst,ic p1.src,ic p1.sid,ic p2,ic 0,.p (.v (.string ⟨#[]⟩)),ic 0,.p (.v (.complex .f64 0 0)),.p (.v (.slice Option.none 0 0)),ic v27.star.x0,ic v27.star.x1,ic v27.star.x2,ic v27.star.x3,ic v27.star.x4,ic v27.star.x5,ic v27.star.x6,ic v27.star.x7,.p (.sl (v27.l.map Frag.row)),.p (.v (.slice Option.none 0 0)),ic 0,.p (.v (.slice Option.none 0 0)),.p (.v (.bool false))]])
     ·intro tl2
      conv=>whnf
      repeat((first|refine dw ?_);conv=>whnf)
      refine br_some h (fun c57 g=>?_) (fun c57 g=>?_)
      ·replace h:=g
       clear g
       conv=>whnf
       repeat((first|refine dw ?_|refine bct c57 ?_);conv=>whnf)
       refine rest_nk hX ?_
       conv=>whnf
       refine Two.r (Two.l ?_)
       conv=>whnf
       refine Two.r (Two.l ?_)
       conv=>whnf
       refine Two.r (Two.l ?_)
       conv=>whnf
       exact tl2.h p0.k h
      ·replace h:=g
       clear g
       conv=>whnf
       repeat((first|refine dw ?_|refine bcf c57 ?_);conv=>whnf)
       refine rest_nk hX ?_
       conv=>whnf
       refine Two.r (Two.l ?_)
       conv=>whnf
       refine Two.r (Two.r ?_)
       conv=>whnf
       refine Two.r (Two.l ?_)
       conv=>whnf
       refine Two.r (Two.l ?_)
       conv=>whnf
       exact tl2.h (Know.mk (V8.mk 0 0 0 0 0 0 0 0) ([]:List Frag)) h
     ·intro v27 h
      unfold ref11_Answer_j2 at h
      refine rest_intro hX ?_
      replace h:=chk_some h
      obtain ⟨hs3,h⟩:=h
      conv=>whnf
      repeat((first|refine dw ?_);conv=>whnf)
      refine loop_nk hX ?_
      conv=>whnf
      refine Two.r (Two.l ?_)
      conv=>whnf
      refine Two.r (Two.l ?_)
      conv=>whnf
      refine Two.l ?_
      conv=>whnf
      refine loop_k hX [11] ?_
      conv=>whnf
      refine loop_lisx2 (fun (v28:Int) (v29:List Entry) (v30:List Entry)=>pad [(2,iv p2),(0,.one (.ptr 0 0)),(0,.one (.ptr 1 0)),(3,.one (.p (.sl (y5.map Item.row)))),(0,.one (.own 2)),(3,.one (.ptr 3 0)),(0,.one (.p (.v (.bool y16)))),(0,iv v28)] 185) (fun (v28:Int) (v29:List Entry) (v30:List Entry)=>[.box (State.cs p0),.box (Msg.cs p1),.rows 11 (v30.map Entry.row),.box [ic 3,ic p1.dst,ic p1.src,ic p1.sid,ic p2,ic 0,.p (.v (.string ⟨#[]⟩)),ic 0,.p (.v (.complex .f64 0 0)),.p (.v (.slice Option.none 0 0)),ic v27.star.x0,ic v27.star.x1,ic v27.star.x2,ic v27.star.x3,ic v27.star.x4,ic v27.star.x5,ic v27.star.x6,ic v27.star.x7,.p (.sl (v27.l.map Frag.row)),.p (.v (.slice Option.none 0 0)),ic 0,.own 4,.p (.v (.bool false))],.rows 11 (v29.map Entry.row)]) _ p1.have_ (fun pre3 x3e xs3 v28 v29 v30 hl3 hi3 h ih3=>?_) (fun v28 v29 v30 hi3 h=>?_) ([]:List Entry) v8 h
      ·rw [ref11_Answer_l3] at h
       have am3:=at_mid hl3 hi3
       refine loop_intro hX ?_
       replace h:=bnd_some h
       obtain ⟨y31,e32,h⟩:=h
       conv=>whnf
       repeat((first|refine dw ?_|refine eqv_to (map_len _) ?_|refine bct (lt_mid hl3 hi3) ?_|refine bct (at_in am3) ?_|refine bct (andt (at_in am3) rfl) ?_|refine row_in (at_row am3) ?_|refine bct (andt (at_in (at_nat am3)) rfl) ?_|refine row_in (at_row (at_nat am3)) ?_);conv=>whnf)
       refine ref06_Get_c hX e32 ?_
       conv=>whnf
       repeat((first|refine dw ?_);conv=>whnf)
       refine br_some h (fun c33 g=>?_) (fun c33 g=>?_)
       ·replace h:=g
        clear g
        conv=>whnf
        repeat((first|refine dw ?_|refine bct c33 ?_);conv=>whnf)
        refine br_some h (fun c34 g=>?_) (fun c34 g=>?_)
        ·replace h:=g
         clear g
         replace h:=bnd_some h
         obtain ⟨y35,e36,h⟩:=h
         conv=>whnf
         repeat((first|refine dw ?_|refine bct c34 ?_);conv=>whnf)
         refine ref06_Has_c hX e36 ?_
         conv=>whnf
         repeat((first|refine dw ?_|refine bct c34 ?_);conv=>whnf)
         refine br_some h (fun c37 g=>?_) (fun c37 g=>?_)
         ·replace h:=g
          clear g
          replace h:=chk_some h
          obtain ⟨c38,h⟩:=h
          conv=>whnf
          repeat((first|refine dw ?_|refine bct c37 ?_|refine bct (room_map c38 rfl rfl rfl rfl) ?_|refine eqv_to (cat_one (f:=Entry.row) v29 (Entry.mk (Item.mk x3e.id x3e.vr x3e.vc 0 ⟨#[]⟩ 0 0 0 false) true 0 0)) ?_);conv=>whnf)
          exact ih3 _ (v29++[(Entry.mk (Item.mk x3e.id x3e.vr x3e.vc 0 ⟨#[]⟩ 0 0 0 false) true 0 0)]) v30 (wrL hs3 hl3 hi3) h
         ·replace h:=g
          clear g
          conv=>whnf
          repeat((first|refine dw ?_|refine bcf c37 ?_);conv=>whnf)
          exact ih3 _ v29 v30 (wrL hs3 hl3 hi3) h
        ·replace h:=g
         clear g
         conv=>whnf
         repeat((first|refine dw ?_|refine bcf c34 ?_);conv=>whnf)
         exact ih3 _ v29 v30 (wrL hs3 hl3 hi3) h
       ·replace h:=g
        clear g
        replace h:=bnd_some h
        obtain ⟨y39,e40,h⟩:=h
        conv=>whnf
        repeat((first|refine dw ?_|refine bcf c33 ?_);conv=>whnf)
        refine ref03_Has_c hX e40 ?_
        conv=>whnf
        repeat((first|refine dw ?_);conv=>whnf)
        refine br_some h (fun c41 g=>?_) (fun c41 g=>?_)
        ·replace h:=g
         clear g
         replace h:=bnd_some h
         obtain ⟨y42,e43,h⟩:=h
         conv=>whnf
         repeat((first|refine dw ?_|refine bct c41 ?_);conv=>whnf)
         refine ref01_Behind_c hX e43 ?_
         conv=>whnf
         repeat((first|refine dw ?_|refine bct c41 ?_);conv=>whnf)
         refine br_some h (fun c44 g=>?_) (fun c44 g=>?_)
         ·replace h:=g
          clear g
          replace h:=chk_some h
          obtain ⟨c45,h⟩:=h
          conv=>whnf
          repeat((first|refine dw ?_|refine bct c44 ?_|refine bct (room_map c45 rfl rfl rfl rfl) ?_|refine eqv_to (cat_one (f:=Entry.row) v30 (Entry.mk (Item.mk x3e.id x3e.vr x3e.vc 0 ⟨#[]⟩ 0 0 0 false) true y31.1.vr y31.1.vc)) ?_);conv=>whnf)
          exact ih3 _ v29 (v30++[(Entry.mk (Item.mk x3e.id x3e.vr x3e.vc 0 ⟨#[]⟩ 0 0 0 false) true y31.1.vr y31.1.vc)]) (wrL hs3 hl3 hi3) h
         ·replace h:=g
          clear g
          conv=>whnf
          repeat((first|refine dw ?_|refine bcf c44 ?_);conv=>whnf)
          exact ih3 _ v29 v30 (wrL hs3 hl3 hi3) h
        ·replace h:=g
         clear g
         conv=>whnf
         repeat((first|refine dw ?_|refine bcf c41 ?_);conv=>whnf)
         exact ih3 _ v29 v30 (wrL hs3 hl3 hi3) h
      ·rw [ref11_Answer_l3] at h
       refine loop_intro hX ?_
       conv=>whnf
       repeat((first|refine dw ?_|refine eqv_to (map_len _) ?_|refine bcf (lt_end hi3) ?_);conv=>whnf)
       refine loop_fz hX [1] ?_
       conv=>whnf
       conv=>whnf
       repeat((first|refine dw ?_);conv=>whnf)
       refine loop_k hX [23] ?_
       conv=>whnf
       refine loop_fuel2 (fun (v46:Int) (v47:List Msg)=>pad [(2,iv p2),(1,.one (.ptr 0 0)),(4,.one (.p (.sl (v30.map Entry.row)))),(3,.one (.ptr 1 0)),(7,.one (.own 3)),(0,iv v46)] 178) (fun (v46:Int) (v47:List Msg)=>[.box (Msg.cs p1),.box [ic 3,ic p1.dst,ic p1.src,ic p1.sid,ic p2,ic 0,.p (.v (.string ⟨#[]⟩)),ic 0,.p (.v (.complex .f64 0 0)),.p (.v (.slice Option.none 0 0)),ic v27.star.x0,ic v27.star.x1,ic v27.star.x2,ic v27.star.x3,ic v27.star.x4,ic v27.star.x5,ic v27.star.x6,ic v27.star.x7,.p (.sl (v27.l.map Frag.row)),.p (.v (.slice Option.none 0 0)),ic 0,.own 2,.p (.v (.bool false))],.rows 11 (v29.map Entry.row),.rows 23 (v47.map Msg.row)]) _ (fun _ _ h=>?_) (fun fl4 v46 v47 h ih4=>?_) fuelN 0 ([]:List Msg) h
       ·rw [ref11_Answer_l4] at h
        cases h
       ·rw [ref11_Answer_l4] at h
        refine loop_intro hX ?_
        conv=>whnf
        repeat((first|refine dw ?_|refine eqv_to (map_len _) ?_);conv=>whnf)
        refine br_some h (fun c48 g=>?_) (fun c48 g=>?_)
        ·replace h:=g
         clear g
         conv=>whnf
         repeat((first|refine dw ?_|refine bct c48 ?_|refine eqv_to (map_len _) ?_);conv=>whnf)
         refine br_some h (fun c49 g=>?_) (fun c49 g=>?_)
         ·replace h:=g
          clear g
          replace h:=chk_some h
          obtain ⟨c50,h⟩:=h
          replace h:=chk_some h
          obtain ⟨c51,h⟩:=h
          replace h:=chk_some h
          obtain ⟨c52,h⟩:=h
          conv=>whnf
          repeat((first|refine dw ?_|refine bct c49 ?_|refine eqv_to (map_len _) ?_|refine bct (slice_ok (f:=Entry.row) (a:=v46) (sz:=11) c50 (fun _=>rfl)) ?_|refine eqv_to (in_map (f:=Entry.row) v30 v46 (v30.length:Int)) ?_|refine bct (room_zero c51 (List.length_map ..) rfl (rowsOk_map (f:=Entry.row) (sz:=11) (fun _=>rfl) _) rfl) ?_|refine eqv_to (nil_map (f:=Entry.row) _) ?_|refine bct (room_map c52 rfl rfl rfl rfl) ?_|refine eqv_to (cat_one (f:=Msg.row) v47 (Msg.mk 2 p1.dst p1.src p1.sid p2 (Pred.mk 0 ⟨#[]⟩ 0 0 0 ([]:List Pred)) (Know.mk (V8.mk 0 0 0 0 0 0 0 0) ([]:List Frag)) ([]:List Has) (wr .i64 (tdivI v46 4)) (subL v30 v46 (v30.length:Int)) false)) ?_);conv=>whnf)
          exact ih4 (wr .i64 (v46 + 4)) (v47++[(Msg.mk 2 p1.dst p1.src p1.sid p2 (Pred.mk 0 ⟨#[]⟩ 0 0 0 ([]:List Pred)) (Know.mk (V8.mk 0 0 0 0 0 0 0 0) ([]:List Frag)) ([]:List Has) (wr .i64 (tdivI v46 4)) (subL v30 v46 (v30.length:Int)) false)]) h
         ·replace h:=g
          clear g
          replace h:=chk_some h
          obtain ⟨c53,h⟩:=h
          replace h:=chk_some h
          obtain ⟨c54,h⟩:=h
          replace h:=chk_some h
          obtain ⟨c55,h⟩:=h
          conv=>whnf
          repeat((first|refine dw ?_|refine bcf c49 ?_|refine bct (slice_ok (f:=Entry.row) (a:=v46) (sz:=11) c53 (fun _=>rfl)) ?_|refine eqv_to (in_map (f:=Entry.row) v30 v46 (wr .i64 (v46 + 4))) ?_|refine bct (room_zero c54 (List.length_map ..) rfl (rowsOk_map (f:=Entry.row) (sz:=11) (fun _=>rfl) _) rfl) ?_|refine eqv_to (nil_map (f:=Entry.row) _) ?_|refine bct (room_map c55 rfl rfl rfl rfl) ?_|refine eqv_to (cat_one (f:=Msg.row) v47 (Msg.mk 2 p1.dst p1.src p1.sid p2 (Pred.mk 0 ⟨#[]⟩ 0 0 0 ([]:List Pred)) (Know.mk (V8.mk 0 0 0 0 0 0 0 0) ([]:List Frag)) ([]:List Has) (wr .i64 (tdivI v46 4)) (subL v30 v46 (wr .i64 (v46 + 4))) false)) ?_);conv=>whnf)
          exact ih4 (wr .i64 (v46 + 4)) (v47++[(Msg.mk 2 p1.dst p1.src p1.sid p2 (Pred.mk 0 ⟨#[]⟩ 0 0 0 ([]:List Pred)) (Know.mk (V8.mk 0 0 0 0 0 0 0 0) ([]:List Frag)) ([]:List Has) (wr .i64 (tdivI v46 4)) (subL v30 v46 (wr .i64 (v46 + 4))) false)]) h
        ·replace h:=g
         clear g
         replace h:=chk_some h
         obtain ⟨c56,h⟩:=h
         conv=>whnf
         repeat((first|refine dw ?_|refine bcf c48 ?_|refine eqv_to (map_len _) ?_|refine bct (room_map c56 rfl rfl rfl rfl) ?_|refine eqv_to (cat_one (f:=Msg.row) v47 (Msg.mk 3 p1.dst p1.src p1.sid p2 (Pred.mk 0 ⟨#[]⟩ 0 0 0 ([]:List Pred)) v27 ([]:List Has) (v47.length:Int) v29 false)) ?_);conv=>whnf)
         exact K _ h
end
end Go.Proofs.YtidkmoohgadjkaaGreat
namespace Go.Proofs.YtidkmoohgadjkaaGreat
open Go E Pred
noncomputable section
open Classical
def hasI (h:Has):Item:=⟨h.id,h.vr,h.vc,h.stamp,⟨#[]⟩,0,0,0,false⟩
structure Has.Ok (x:Has):Prop where
 id:x.id.size≤9223372036854775807
 vr : -9223372036854775808≤x.vr∧x.vr≤9223372036854775807
 vc : -9223372036854775808≤x.vc∧x.vc≤9223372036854775807
 stamp : -9223372036854775808≤x.stamp∧x.stamp≤9223372036854775807
theorem hasI_ok {h:Has} (ok:h.Ok):(hasI h).Ok:=⟨ok.id,by show (0:Nat)≤_; decide,ok.vr,ok.vc,ok.stamp,by show _≤(0:Int)∧(0:Int)≤_; decide⟩
theorem mayI_has (h:Has):mayI (hasI h)=(lettersB h.id 1&&(verB h.vr h.vc&&inN h.stamp 1 1000000)):=by
 have e1:lettersB ⟨#[]⟩ 0=true:=by kernel_rfl
 have e2:inN 0 (-1000000) 1000000=true:=by kernel_rfl
 have e3:placeB 0 0=true:=by kernel_rfl
 unfold mayI hasI
 simp only [e1,e2,e3,Bool.and_true]
def haveG:Option Has→List Has→Bool
 | _,[]=>true
 | none,x::xs=>mayI (hasI x)&&haveG (some x) xs
 | some p,x::xs=>mayI (hasI x)&&(ltS p.id x.id&&haveG (some x) xs)
def haveB (l:List Has):Bool:=haveG none l&&decide (l.length≤40)
theorem wr_pred {n:Nat} (h:n≤1000000):wr .i64 (((n + 1:Nat):Int) - 1)=(n:Int):=by rw [wr64 (by omega) (by omega)]; omega
theorem shave_l {L:List Has} (hn:L.length≤1000):∀ (xs pre:List Has) (o:Option Has),L=pre++xs→(o=none∧pre=[]∨∃ pre' p,pre=pre'++[p]∧o=some p)→(∀ h∈xs,h.Ok)→serve_have_l1 L xs (pre.length:Int)=some (haveG o xs&&decide (L.length≤40))
 | [],pre,o,_,_,_=>by
  rw [serve_have_l1]
  have e:leI (L.length:Int) 40=decide (L.length≤40):=by
   by_cases h:L.length≤40
   ·rw [decide_eq_true h]; exact leI_t.2 (by omega)
   ·rw [decide_eq_false h]; exact leI_f.2 (by omega)
  rw [e]; cases o<;>rfl
 | x::xs,pre,o,h,ho,hx=>by
  have ih:=shave_l hn xs (pre++[x]) (some x) (by rw [h]; simp) (.inr ⟨pre,x,rfl,rfl⟩) fun y hy=>hx y (List.mem_cons_of_mem _ hy)
  rw [List.length_append] at ih
  have ih':serve_have_l1 L xs ((pre.length:Int) + 1)=some (haveG (some x) xs&&decide (L.length≤40)):=ih
  rw [serve_have_l1,bnd_of (show serve_as_s (Has.mk x.id x.vr x.vc x.stamp)=some (hasI x) from rfl),bnd_of (imay_s (hasI_ok (hx x (List.mem_cons_self ..)))),ih']
  rcases ho with ⟨rfl,rfl⟩ | ⟨pre',p,rfl,rfl⟩
  ·rw [haveG]
   cases mayI (hasI x) with
   | false=>rfl
   | true=>rfl
  ·rw [haveG]
   cases mayI (hasI x) with
   | false=>rfl
   | true =>
    have hl:pre'.length + 1≤1000:=by rw [h] at hn; simp at hn; omega
    have ea:atL L (wr .i64 (((pre'++[p]).length:Int) - 1))=some p:=by
     rw [List.length_append,show ((pre'.length + [p].length:Nat):Int)=((pre'.length + 1:Nat):Int) from rfl,wr_pred (by omega),h,List.append_assoc]
     exact at_app pre' p ([]++x::xs)
    rw [br_f (by rfl),br_t (ltI_t.2 (by rw [List.length_append]; simp)),bnd_of ea]
    cases ltS p.id x.id<;>rfl
theorem shave_s {L:List Has} (hn:L.length≤1000) (h:∀ x∈L,x.Ok):serve_have_s L=some (haveB L):=by
 unfold serve_have_s
 rw [chk_t (smallL_of (by omega))]
 exact shave_l hn L [] none rfl (.inl ⟨rfl,rfl⟩) h
theorem le_str (a b:ByteArray):(ltS a b || eqS a b)=!ltS b a:=by
 cases h1:ltS b a with
 | true =>
  have h2:ltS a b=false:=by
   cases h3:ltS a b with
   | false=>rfl
   | true =>
    have:=ltS_ne (ltS_tr h1 h3)
    rw [eqS_self] at this; cases this
  have h4:=ltS_ne h1
  rw [eqS_comm'] at h4
  rw [h2,h4]; rfl
 | false =>
  cases h2:ltS a b with
  | true=>rfl
  | false=>rw [ltS_tri h2 h1,eqS_self]; rfl
theorem rhave_l {m:Msg} (hn:m.have_.length≤1000):∀ (xs pre:List Has) (o:Option Has),m.have_=pre++xs→(o=none∧pre=[]∨∃ pre' p,pre=pre'++[p]∧o=some p)→(∀ h∈xs,h.Ok)→ref11_May_l1 m xs (pre.length:Int)=some (haveG o xs)
 | [],pre,o,_,_,_=>by rw [ref11_May_l1]; cases o<;>rfl
 | x::xs,pre,o,h,ho,hx=>by
  have ih:=rhave_l hn xs (pre++[x]) (some x) (by rw [h]; simp) (.inr ⟨pre,x,rfl,rfl⟩) fun y hy=>hx y (List.mem_cons_of_mem _ hy)
  rw [List.length_append] at ih
  have ih':ref11_May_l1 m xs ((pre.length:Int) + 1)=some (haveG (some x) xs):=ih
  have ok:=hx x (List.mem_cons_self ..)
  have en:ref01_Name_s x.id=some (lettersB x.id 1):=by unfold ref01_Name_s; rw [chk_t (decide_eq_true ok.id)]
  have hm:=mayI_has x
  unfold inN at hm
  rw [ltle 1 x.stamp,ltle x.stamp 1000000] at hm
  have core:∀ (b:Bool),(br (!lettersB x.id 1) (some false) (br (!verB x.vr x.vc) (some false) (br (ltI x.stamp 1) (some false) (br (ltI 1000000 x.stamp) (some false) (some b)))))=some (mayI (hasI x)&&b):=fun b=>by
   rw [hm]
   cases lettersB x.id 1<;>cases verB x.vr x.vc<;>cases ltI x.stamp 1<;>cases ltI 1000000 x.stamp<;>rfl
  rw [ref11_May_l1,bnd_of en,bnd_of (show ref01_Ver_s ⟨x.vr,x.vc⟩=some (verB x.vr x.vc) from rfl),ih']
  rcases ho with ⟨rfl,rfl⟩ | ⟨pre',p,rfl,rfl⟩
  ·rw [haveG]
   exact core _
  ·rw [haveG]
   have hl:pre'.length + 1≤1000:=by rw [h] at hn; simp at hn; omega
   have ea:atL m.have_ (wr .i64 (((pre'++[p]).length:Int) - 1))=some p:=by
    rw [List.length_append,show ((pre'.length + [p].length:Nat):Int)=((pre'.length + 1:Nat):Int) from rfl,wr_pred (by omega),h,List.append_assoc]
    exact at_app pre' p ([]++x::xs)
   rw [br_t (ltI_t.2 (by rw [List.length_append]; simp):ltI 0 (((pre'++[p]).length:Nat):Int)=true),bnd_of ea,le_str]
   have:br (!ltS p.id x.id) (some false) (some (haveG (some x) xs))=some (ltS p.id x.id&&haveG (some x) xs):=by cases ltS p.id x.id<;>rfl
   rw [this]
   exact core _
structure MsgB (m:Msg):Prop where
 f:m.f.Ok
 fs:m.f.size≤1000
 k:KT m.k 90000
 ids:IdsOk m.k
 h:∀ x∈m.have_,x.Ok
 hl:m.have_.length≤1000
 l:m.l.length≤1000
def endsB (a b:Int):Bool:=inN a 1 8&&(inN b 1 8&&!eqI a b)
def mayM (m:Msg):Bool:=eqI m.kind 1&&(eqI m.turn 0&&(eqI m.n 0&&(decide (m.l.length=0)&&(!m.star&&(endsB m.src m.dst&&(inN m.sid 0 1000000&&(mayP m.f&&(mayK m.k&&haveB m.have_))))))))
theorem smay_s {m:Msg} (h:MsgB m):serve_May_s m=some (mayM m):=by
 have e:ltI 0 (m.l.length:Int)=!decide (m.l.length=0):=by
  by_cases hl:m.l.length=0
  ·rw [decide_eq_true hl]; exact ltI_f.2 (by omega)
  ·rw [decide_eq_false hl]; exact ltI_t.2 (by omega)
 have er:∀ n:Int,serve_rep_s n=some (inN n 1 8):=fun n=>by unfold serve_rep_s inN; cases leI 1 n<;>rfl
 unfold serve_May_s mayM endsB
 rw [e,bnd_of (er m.src),bnd_of (er m.dst),bnd_of (pmay_s h.f),bnd_of (kmay_s (h.k.mono (by decide)) h.ids),bnd_of (shave_s h.hl h.h)]
 have e2:inN m.sid 0 1000000=(leI 0 m.sid&&leI m.sid 1000000):=by unfold inN; rfl
 rw [e2]
 cases eqI m.kind 1 with
 | false=>rfl
 | true=>cases eqI m.turn 0 with
  | false=>rfl
  | true=>cases eqI m.n 0 with
   | false=>rfl
   | true=>cases decide (m.l.length=0) with
    | false=>rfl
    | true=>cases m.star with
     | true=>rfl
     | false=>cases inN m.src 1 8 with
      | false=>rfl
      | true=>cases inN m.dst 1 8 with
       | false=>rfl
       | true=>cases eqI m.src m.dst with
        | true=>rfl
        | false=>cases leI 0 m.sid with
         | false=>rfl
         | true=>cases leI m.sid 1000000 with
          | false=>rfl
          | true=>cases mayP m.f with
           | false=>rfl
           | true=>cases mayK m.k<;>rfl
theorem rmay11_s {m:Msg} (h:MsgB m):ref11_May_s m=some (mayM m):=by
 have e:eqI (m.l.length:Int) 0=decide (m.l.length=0):=by
  by_cases hl:m.l.length=0
  ·rw [decide_eq_true hl]; exact eqI_t.2 (by omega)
  ·rw [decide_eq_false hl]; exact eqI_f.2 (by omega)
 have e40:ltI 40 (m.have_.length:Int)=!decide (m.have_.length≤40):=by
  by_cases hl:m.have_.length≤40
  ·rw [decide_eq_true hl]; exact ltI_f.2 (by omega)
  ·rw [decide_eq_false hl]; exact ltI_t.2 (by omega)
 have ee:ref11_Ends_s m.src m.dst=some (endsB m.src m.dst):=by
  unfold ref11_Ends_s endsB inN
  cases leI 1 m.src<;>cases leI m.src 8<;>cases leI 1 m.dst<;>cases leI m.dst 8<;>rfl
 have el:=rhave_l h.hl m.have_ [] none rfl (.inl ⟨rfl,rfl⟩) h.h
 rw [show (([]:List Has).length:Int)=0 from rfl] at el
 have hhl:=h.hl
 unfold ref11_May_s mayM haveB
 rw [bnd_of ee,bnd_of (may3_s h.f h.fs),bnd_of (rmayK_t h.k (by decide) h.ids),e,e40,chk_t (smallL_of (by omega)),el]
 have e2:inN m.sid 0 1000000=(!ltI m.sid 0&&!ltI 1000000 m.sid):=by unfold inN; rw [ltle,ltle]
 rw [e2]
 cases eqI m.kind 1 with
 | false=>rfl
 | true=>cases endsB m.src m.dst with
  | false=>simp [br]
  | true=>cases mayP m.f with
   | false=>simp [br]
   | true=>cases mayK m.k with
    | false=>simp [br]
    | true=>cases ltI m.sid 0 with
     | true=>simp [br]
     | false=>cases ltI 1000000 m.sid with
      | true=>simp [br]
      | false=>cases decide (m.have_.length≤40) with
       | false=>simp [br]
       | true=>cases eqI m.turn 0 with
        | false=>rfl
        | true=>cases eqI m.n 0 with
         | false=>rfl
         | true=>cases decide (m.l.length=0) with
          | false=>rfl
          | true=>cases m.star with
           | true=>rfl
           | false=>cases haveG none m.have_<;>rfl
def goE (h:Has) (r c:Int):Entry:=⟨⟨h.id,h.vr,h.vc,0,⟨#[]⟩,0,0,0,false⟩,true,r,c⟩
def goF (all:List Item) (f:Pred) (h:Has):Option Entry:=match lk all h.id with
 | none=>none
 | some x=>if (!hasP f x&&behindB x (hasI h))=true then some (goE h x.vr x.vc) else none
def newF (k:Know) (f:Pred) (x:Item):Bool:=!hasK k x.id x.vr x.vc&&hasP f x
def newE (x:Item):Entry:=⟨x,false,0,0⟩
def entV (all:List Item) (m:Msg):List Entry:=(all.filter (newF m.k m.f)).map newE++m.have_.filterMap (goF all m.f)
def gone0 (all:List Item) (k:Know) (h:Has):Option Entry:=if ((lk all h.id).isNone&&hasK k h.id h.vr h.vc)=true then some (goE h 0 0) else none
def doneL (all:List Item) (s:State) (m:Msg):List Entry:=if inP m.f s.f=true then m.have_.filterMap (gone0 all s.k) else []
def doneM (s:State) (m:Msg) (turn n:Int):Msg:=⟨3,m.dst,m.src,m.sid,turn,.mk 0 ⟨#[]⟩ 0 0 0 [],if inP m.f s.f=true then s.k else ⟨zero8,[]⟩,[],n,doneL (bothV s.store s.out) s m,false⟩
def batM (m:Msg) (turn n:Int) (l:List Entry):Msg:=⟨2,m.dst,m.src,m.sid,turn,.mk 0 ⟨#[]⟩ 0 0 0 [],⟨zero8,[]⟩,[],n,l,false⟩
def batV (m:Msg) (turn:Int):Nat→List Entry→Int→List Msg
 | 0,_,_=>[]
 | _ + 1,[],_=>[]
 | k + 1,x::l,n=>batM m turn n ((x::l).take 4)::batV m turn k ((x::l).drop 4) (n + 1)
def answerV (s:State) (m:Msg) (turn:Int):List Msg :=
 if (mayM m&&eqI m.dst s.r)=true then
  let b:=batV m turn ((entV (bothV s.store s.out) m).length + 1) (entV (bothV s.store s.out) m) 0
  b++[doneM s m turn (b.length:Int)]
 else []
end
end Go.Proofs.YtidkmoohgadjkaaGreat
namespace Go.Proofs.YtidkmoohgadjkaaGreat
open Go E Pred
noncomputable section
open Classical
theorem sub_take' {α:Type} (l:List α) (n:Nat):subL l 0 (n:Int)=l.take n:=by unfold subL; simp
theorem sub_drop' {α:Type} (l:List α) (n:Nat):subL l (n:Int) (l.length:Int)=l.drop n:=by unfold subL; simp
theorem sub_mid {α:Type} (l:List α) (a b:Nat):subL l (a:Int) (b:Int)=(l.take b).drop a:=by unfold subL; simp
theorem min4 (n:Nat):minI (n:Int) 4=((min n 4:Nat):Int):=by unfold minI; split<;>omega
theorem filterMap_cons' {α β:Type} (f:α→Option β) (x:α) (l:List α):(x::l).filterMap f=(match f x with | none=>l.filterMap f | some y=>y::l.filterMap f):=by rw [List.filterMap_cons]; cases f x<;>rfl
theorem len_fm {α β:Type} (f:α→Option β) (l:List α):(l.filterMap f).length≤l.length:=List.length_filterMap_le ..
theorem goF_n {all:List Item} {f:Pred} {h:Has} (e:lk all h.id=none):goF all f h=none:=by unfold goF; rw [e]
theorem goF_s {all:List Item} {f:Pred} {h:Has} {x:Item} (e:lk all h.id=some x):goF all f h=if (!hasP f x&&behindB x (hasI h))=true then some (goE h x.vr x.vc) else none:=by unfold goF; rw [e]
structure AllB (all:List Item):Prop where
 r:Ris all
 l:all.length≤1000
 i:∀ i∈all,i.Ok∧mayI i=true
theorem sent_l2 {all:List Item} {m:Msg} (ha:AllB all) (hm:MsgB m):∀ (xs:List Has) (acc:List Entry),acc.length + xs.length≤900000→serve_entries_l2 all m xs acc=some (acc++xs.filterMap (goF all m.f))
 | [],acc,_=>by rw [serve_entries_l2]; simp
 | h::xs,acc,hn=>by
  rw [List.length_cons] at hn
  have ih:=fun a (e:List.length a≤acc.length + 1)=>sent_l2 ha hm xs a (by omega)
  have hal:=ha.l
  rw [serve_entries_l2,bnd_of (lget_s ha.r (by omega)),filterMap_cons']
  cases hg:lk all h.id with
  | none =>
   rw [getI_f hg,goF_n hg,br_f (by rfl),ih acc (by omega)]
  | some x =>
   rw [getI_t hg,goF_s hg,br_t (by rfl),bnd_of (has_s hm.f (ha.i x (lk_some hg).1).1),bnd_of (show serve_as_s (Has.mk h.id h.vr h.vc h.stamp)=some (hasI h) from rfl),bnd_of (show item_Compare_s x (hasI h)=some (compareV x (hasI h)) from rfl),cmp_pos,
    bnd_of (show serve_goes_s (Has.mk h.id h.vr h.vc h.stamp) (Ver.mk x.vr x.vc)=some (goE h x.vr x.vc) from rfl),chk_t (roomL_of (by omega)),ih (acc++[_]) (by simp),ih acc (by omega)]
   cases hasP m.f x with
   | true=>rfl
   | false=>cases behindB x (hasI h) with
    | false=>rfl
    | true=>simp [br]
theorem sent_l1 {all:List Item} {m:Msg} (ha:AllB all) (hm:MsgB m):∀ (xs:List Item) (acc:List Entry),acc.length + xs.length≤800000→(∀ i∈xs,i.Ok)→serve_entries_l1 all m xs acc=some (acc++((xs.filter (newF m.k m.f)).map newE++m.have_.filterMap (goF all m.f)))
 | [],acc,hn,_=>by
  have:=hm.hl
  rw [List.length_nil] at hn
  rw [serve_entries_l1,chk_t (smallL_of (by omega)),sent_l2 ha hm _ _ (by omega)]; rfl
 | x::xs,acc,hn,hx=>by
  rw [List.length_cons] at hn
  have ih:=fun a (e:List.length a≤acc.length + 1)=>sent_l1 ha hm xs a (by omega) fun y hy=>hx y (List.mem_cons_of_mem _ hy)
  rw [serve_entries_l1,bnd_of (khas_s (N:=90000) (by decide) hm.k.kb),bnd_of (has_s hm.f (hx x (List.mem_cons_self ..))),chk_t (roomL_of (by omega)),ih (acc++[_]) (by simp),ih acc (by omega),List.filter_cons]
  have e:newF m.k m.f x=(!hasK m.k x.id x.vr x.vc&&hasP m.f x):=rfl
  rw [e,show (Ver.mk x.vr x.vc).r=x.vr from rfl,show (Ver.mk x.vr x.vc).c=x.vc from rfl]
  cases hasK m.k x.id x.vr x.vc with
  | true=>rfl
  | false=>cases hasP m.f x with
   | false=>rfl
   | true=>simp [br,newE]
theorem sent_s {all:List Item} {m:Msg} (ha:AllB all) (hm:MsgB m):serve_entries_s all m=some (entV all m):=by
 have:=ha.l
 unfold serve_entries_s
 rw [chk_t (smallL_of (by omega)),sent_l1 ha hm all [] (by simp; omega) fun i hi=>(ha.i i hi).1]; rfl
theorem ent_len (all:List Item) (m:Msg):(entV all m).length≤all.length + m.have_.length:=by
 unfold entV
 rw [List.length_append,List.length_map]
 have:=List.length_filter_le (newF m.k m.f) all
 have:=len_fm (goF all m.f) m.have_
 omega
theorem bat_len (m:Msg) (turn:Int):∀ (k:Nat) (l:List Entry) (n:Int),(batV m turn k l n).length≤l.length
 | 0,_,_=>Nat.zero_le _
 | k + 1,[],_=>Nat.zero_le _
 | k + 1,x::l,n=>by
  rw [batV,List.length_cons,List.length_cons]
  have:=bat_len m turn k ((x::l).drop 4) (n + 1)
  rw [List.length_drop,List.length_cons] at this
  omega
theorem gone_l2 {s:State} {m:Msg} {turn v10:Int} {v11:List Msg} {k0:Know} {all:List Item} (hk:KT s.k 90000) (ha:AllB all) (hv:v11.length≤900000):∀ (xs:List Has) (acc:List Entry),acc.length + xs.length≤900000 →
  serve_Answer_l2 s m turn all v10 v11 k0 xs acc=some (v11++[⟨3,m.dst,m.src,m.sid,turn,.mk 0 ⟨#[]⟩ 0 0 0 [],k0,[],v10,acc++xs.filterMap (gone0 all s.k),false⟩])
 | [],acc,_=>by rw [serve_Answer_l2,chk_t (roomL_of (by omega))]; simp
 | h::xs,acc,hn=>by
  rw [List.length_cons] at hn
  have ih:=fun a (e:List.length a≤acc.length + 1)=>gone_l2 (turn:=turn) (v10:=v10) (k0:=k0) (m:=m) hk ha hv xs a (by omega)
  have hal:=ha.l
  rw [serve_Answer_l2,bnd_of (lget_s ha.r (by omega)),bnd_of (khas_s (N:=90000) (by decide) hk.kb),bnd_of (show serve_goes_s (Has.mk h.id h.vr h.vc h.stamp) (Ver.mk 0 0)=some (goE h 0 0) from rfl),chk_t (roomL_of (by omega)),ih (acc++[_]) (by simp),ih acc (by omega),filterMap_cons']
  have e:gone0 all s.k h=if ((lk all h.id).isNone&&hasK s.k h.id h.vr h.vc)=true then some (goE h 0 0) else none:=rfl
  rw [e,getI_snd,show (Ver.mk h.vr h.vc).r=h.vr from rfl,show (Ver.mk h.vr h.vc).c=h.vc from rfl]
  cases lk all h.id with
  | some y=>rfl
  | none=>cases hasK s.k h.id h.vr h.vc with
   | false=>rfl
   | true=>simp [br]
theorem sans_l1 {s:State} {m:Msg} {turn:Int} {N:Nat} (h:SOk s N) (hN:N≤90000) (hm:MsgB m):∀ (fl k:Nat) (l:List Entry) (n:Int) (acc:List Msg),l.length < fl→l.length < k→acc.length + l.length≤900000→0≤n∧n + (l.length:Int)≤1000000 →
  serve_Answer_l1 s m turn (bothV s.store s.out) fl l n acc=some (acc++(batV m turn k l n++[doneM s m turn (n + ((batV m turn k l n).length:Int))]))
 | 0,_,_,_,_,h0,_,_,_=>by omega
 | _,0,_,_,_,_,h0,_,_=>by omega
 | fl + 1,k + 1,[],n,acc,_,_,hn,hc=>by
  rw [List.length_nil] at hn
  have hm2:=hm.hl
  have hal:AllB (bothV s.store s.out):=⟨ris_both h.rs h.ro,by have:=both_len h; have:=h.le; omega,both_ok h⟩
  rw [serve_Answer_l1,br_f (by rfl),bnd_of (show contain_In_s m.f s.f=some (inP m.f s.f) by unfold contain_In_s; rw [chk_t (decide_eq_true hm.f),chk_t (decide_eq_true h.f)]),bnd_of (fresh_know_t h.kt (by omega)),chk_t (smallL_of (by omega)),chk_t (roomL_of (by omega)),gone_l2 (h.kt.mono hN) hal (by omega) _ _ (by simp; omega),batV]
  unfold doneM doneL
  rw [show ((([]:List Msg).length:Nat):Int)=0 from rfl,Int.add_zero]
  cases inP m.f s.f<;>rfl
 | fl + 1,k + 1,x::l,n,acc,hf,hk,hn,hc=>by
  have e4:min (x::l).length 4=min (l.length + 1) 4:=rfl
  have hd:((x::l).drop 4).length=(x::l).length - 4:=List.length_drop
  have h1:1≤(x::l).length:=by simp
  have ih:=sans_l1 (turn:=turn) h hN hm fl k ((x::l).drop 4) (n + 1) (acc++[batM m turn n ((x::l).take 4)]) (by rw [hd]; omega) (by rw [hd]; omega) (by rw [hd,List.length_append]; simp only [List.length_cons,List.length_nil] at hn h1 ⊢; omega) (by rw [hd]; omega)
  have etake:(x::l).take (min (x::l).length 4)=(x::l).take 4:=by
   by_cases h4:4≤(x::l).length
   ·rw [Nat.min_eq_right h4]
   ·rw [Nat.min_eq_left (by omega),List.take_of_length_le (by omega),List.take_of_length_le (by omega)]
  have edrop:(x::l).drop (min (x::l).length 4)=(x::l).drop 4:=by
   by_cases h4:4≤(x::l).length
   ·rw [Nat.min_eq_right h4]
   ·rw [Nat.min_eq_left (by omega),List.drop_eq_nil_of_le (by omega),List.drop_eq_nil_of_le (by omega)]
  have hmin:0 < min (x::l).length 4:=by omega
  rw [serve_Answer_l1,min4,sub_take',sub_drop',etake,edrop,br_t (ltI_t.2 (by omega)),chk_t (by simp only [Bool.and_eq_true,leI_t]; omega),br_f (eqI_f.2 (by omega)),chk_t (roomL_of (by omega)),chk_t (by simp only [Bool.and_eq_true,leI_t]; omega),wr64 (by omega) (by omega)]
  refine ih.trans ?_
  rw [show batV m turn (k + 1) (x::l) n=batM m turn n ((x::l).take 4)::batV m turn k ((x::l).drop 4) (n + 1) from rfl]
  rw [List.length_cons,List.append_assoc]
  have en:n + 1 + ((batV m turn k ((x::l).drop 4) (n + 1)).length:Int)=n + (((batV m turn k ((x::l).drop 4) (n + 1)).length + 1:Nat):Int):=by omega
  rw [en]; rfl
theorem serve_s {s:State} {m:Msg} {turn:Int} {N:Nat} (h:SOk s N) (hN:N≤90000) (hm:MsgB m):serve_Answer_s s m turn=some (answerV s m turn):=by
 have hl:=h.le
 have hal:AllB (bothV s.store s.out):=⟨ris_both h.rs h.ro,by have:=both_len h; omega,both_ok h⟩
 have hen:=ent_len (bothV s.store s.out) m
 have hhl:=hm.hl
 have hal2:=hal.l
 unfold serve_Answer_s answerV
 rw [bnd_of (smay_s hm),bnd_of (lboth_s (by omega)),bnd_of (sent_s hal hm),sans_l1 h hN hm fuelN ((entV (bothV s.store s.out) m).length + 1) (entV (bothV s.store s.out) m) 0 [] (by unfold fuelN; omega) (by omega) (by simp; omega) (by omega)]
 cases mayM m with
 | false=>rfl
 | true=>cases eqI m.dst s.r with
  | false=>rfl
  | true=>simp only [Int.zero_add]; rfl
end
end Go.Proofs.YtidkmoohgadjkaaGreat
namespace Go.Proofs.YtidkmoohgadjkaaGreat
open Go E Pred
noncomputable section
open Classical
theorem rans_l4 {s:State} {m:Msg} {turn:Int} {k0:Know} {dl:List Entry} {L:List Entry} (hL:L.length≤10000):∀ (fl k:Nat) (l:List Entry) (j:Nat) (acc:List Msg),L.drop (4 * j)=l→4 * j≤L.length + 3→l.length < fl→l.length < k→acc.length=j →
  ref11_Answer_l4 m turn k0 dl L fl ((4 * j:Nat):Int) acc=some (acc++(batV m turn k l (j:Int)++[⟨3,m.dst,m.src,m.sid,turn,.mk 0 ⟨#[]⟩ 0 0 0 [],k0,[],(j:Int) + ((batV m turn k l (j:Int)).length:Int),dl,false⟩]))
 | 0,_,_,_,_,_,_,h0,_,_=>by omega
 | _,0,_,_,_,_,_,_,h0,_=>by omega
 | fl + 1,k + 1,[],j,acc,hd,hj,_,_,ha=>by
  have h0:L.length≤4 * j:=by
   have:=congrArg List.length hd
   rw [List.length_drop,List.length_nil] at this
   omega
  rw [ref11_Answer_l4,br_f (ltI_f.2 (by omega)),chk_t (roomL_of (by omega)),batV,ha]
  simp
 | fl + 1,k + 1,x::l,j,acc,hd,hj,hf,hk,ha=>by
  have hlen:(x::l).length=L.length - 4 * j:=by rw [←hd,List.length_drop]
  have hx:1≤(x::l).length:=by simp
  have hd2:L.drop (4 * (j + 1))=(x::l).drop 4:=by rw [←hd,List.drop_drop]; rfl
  have hdl:((x::l).drop 4).length=(x::l).length - 4:=List.length_drop
  have ih:=rans_l4 (s:=s) (turn:=turn) (m:=m) (k0:=k0) (dl:=dl) hL fl k ((x::l).drop 4) (j + 1) (acc++[batM m turn (j:Int) ((x::l).take 4)]) hd2 (by omega) (by omega) (by omega) (by rw [List.length_append,ha]; rfl)
  have ew:wr .i64 (((4 * j:Nat):Int) + 4)=((4 * (j + 1):Nat):Int):=by rw [wr64 (by omega) (by omega)]; omega
  have et:wr .i64 (tdivI ((4 * j:Nat):Int) 4)=(j:Int):=by
   unfold tdivI
   rw [Int.tdiv_eq_ediv_of_nonneg (by omega),wr64 (by omega) (by omega)]; omega
  have fin:ref11_Answer_l4 m turn k0 dl L fl ((4 * (j + 1):Nat):Int) (acc++[batM m turn (j:Int) ((x::l).take 4)])=some (acc++(batV m turn (k + 1) (x::l) (j:Int)++[⟨3,m.dst,m.src,m.sid,turn,.mk 0 ⟨#[]⟩ 0 0 0 [],k0,[],(j:Int) + ((batV m turn (k + 1) (x::l) (j:Int)).length:Int),dl,false⟩])):=by
   refine ih.trans ?_
   rw [show batV m turn (k + 1) (x::l) (j:Int)=batM m turn (j:Int) ((x::l).take 4)::batV m turn k ((x::l).drop 4) ((j:Int) + 1) from rfl]
   rw [List.length_cons,List.append_assoc,show (((j + 1:Nat)):Int)=(j:Int) + 1 from rfl]
   have en:(j:Int) + 1 + ((batV m turn k ((x::l).drop 4) ((j:Int) + 1)).length:Int)=(j:Int) + (((batV m turn k ((x::l).drop 4) ((j:Int) + 1)).length + 1:Nat):Int):=by omega
   rw [en]; rfl
  rw [ref11_Answer_l4,ew,et,br_t (ltI_t.2 (by omega)),sub_mid,sub_mid]
  have ex:∀ b:Nat,4 * j≤b→(L.take b).drop (4 * j)=(x::l).take (b - 4 * j):=fun b hb=>by rw [←hd,List.drop_take]
  by_cases h4:L.length < 4 * (j + 1)
  ·have e:(L.take L.length).drop (4 * j)=(x::l).take 4:=by
    rw [ex _ (by omega),List.take_of_length_le (by omega),List.take_of_length_le (by omega)]
   rw [br_t (ltI_t.2 (by omega)),e,chk_t (by simp only [Bool.and_eq_true,leI_t]; omega),chk_t (roomL_of (by rw [List.length_take]; omega)),chk_t (roomL_of (by omega))]
   exact fin
  ·have e:(L.take (4 * (j + 1))).drop (4 * j)=(x::l).take 4:=by
    rw [ex _ (by omega)]; congr 1; omega
   rw [br_f (ltI_f.2 (by omega)),e,chk_t (by simp only [Bool.and_eq_true,leI_t]; omega),chk_t (roomL_of (by rw [List.length_take]; omega)),chk_t (roomL_of (by omega))]
   exact fin
end
end Go.Proofs.YtidkmoohgadjkaaGreat
namespace Go.Proofs.YtidkmoohgadjkaaGreat
open Go E Pred
noncomputable section
open Classical
theorem rans_l3 {s:State} {m:Msg} {turn:Int} {all:List Item} {b:Bool} {k0:Know} (hk:KT s.k 90000) (ha:AllB all) (hm:MsgB m):∀ (xs:List Has) (dl L:List Entry),dl.length + xs.length≤8000→L.length + xs.length≤8000 →
  ref11_Answer_l3 s m turn all b k0 xs dl L=ref11_Answer_l3 s m turn all b k0 [] (dl++if b=true then xs.filterMap (gone0 all s.k) else []) (L++xs.filterMap (goF all m.f))
 | [],dl,L,_,_=>by cases b<;>simp
 | h::xs,dl,L,h1,h2=>by
  rw [List.length_cons] at h1 h2
  have ih:=fun a c (e:List.length a≤dl.length + 1) (e':List.length c≤L.length + 1)=>rans_l3 (turn:=turn) (b:=b) (k0:=k0) hk ha hm xs a c (by omega) (by omega)
  have hal:=ha.l
  conv=>lhs; rw [ref11_Answer_l3]
  rw [bnd_of (get_s (by omega)),bnd_of (hasK_s (N:=90000) (by decide) hk.kb),chk_t (roomL_of (by omega)),chk_t (roomL_of (by omega))]
  rw [ih (dl++[_]) L (by simp) (by omega),ih dl L (by omega) (by omega),ih dl (L++[_]) (by omega) (by simp)]
  rw [filterMap_cons',filterMap_cons',show (Ver.mk h.vr h.vc).r=h.vr from rfl,show (Ver.mk h.vr h.vc).c=h.vc from rfl]
  have eg:gone0 all s.k h=if ((lk all h.id).isNone&&hasK s.k h.id h.vr h.vc)=true then some (goE h 0 0) else none:=rfl
  rw [eg]
  cases hg:lk all h.id with
  | none =>
   rw [getI_f hg,goF_n hg,br_t (by rfl)]
   cases b with
   | false=>simp [br]
   | true=>cases hasK s.k h.id h.vr h.vc with
    | false=>simp [br]
    | true=>simp [br,goE]
  | some x =>
   rw [getI_t hg,goF_s hg,br_f (by rfl),bnd_of (has3_s hm.f (ha.i x (lk_some hg).1).1),bnd_of (show ref01_Behind_s x (Item.mk ⟨#[]⟩ h.vr h.vc h.stamp ⟨#[]⟩ 0 0 0 false)=some (behindB x (hasI h)) by unfold ref01_Behind_s behindB; rfl)]
   cases hasP m.f x with
   | true=>simp [br]
   | false=>cases behindB x (hasI h) with
    | false=>simp [br]
    | true=>simp [br,goE]
end
end Go.Proofs.YtidkmoohgadjkaaGreat
namespace Go.Proofs.YtidkmoohgadjkaaGreat
open Go E Pred
noncomputable section
open Classical
theorem rans_l1 {s:State} {m:Msg} {turn:Int} {all:List Item} (hf:s.f.Ok) (hfs:s.f.size≤1000) (hm:MsgB m):∀ (xs:List Item) (acc:List Entry),acc.length + xs.length≤8000→(∀ i∈xs,i.Ok) →
  ref11_Answer_l1 s m turn all xs acc=ref11_Answer_j2 s m turn all (acc++(xs.filter (newF m.k m.f)).map newE) (inP m.f s.f) (if inP m.f s.f=true then s.k else ⟨zero8,[]⟩)
 | [],acc,_,_=>by
  rw [ref11_Answer_l1,bnd_of (show ref03_In_s m.f s.f=some (inP m.f s.f) by unfold ref03_In_s; rw [chk_t (decide_eq_true hm.f),chk_t (decide_eq_true hf),chk_t (decide_eq_true hm.fs),chk_t (decide_eq_true hfs)])]
  rw [List.filter_nil,List.map_nil,List.append_nil]
  cases inP m.f s.f<;>rfl
 | x::xs,acc,hn,hx=>by
  rw [List.length_cons] at hn
  have ih:=fun a (e:List.length a≤acc.length + 1)=>rans_l1 (turn:=turn) (all:=all) hf hfs hm xs a (by omega) fun y hy=>hx y (List.mem_cons_of_mem _ hy)
  rw [ref11_Answer_l1,bnd_of (hasK_s (N:=90000) (by decide) hm.k.kb),bnd_of (has3_s hm.f (hx x (List.mem_cons_self ..))),chk_t (roomL_of (by omega)),ih (acc++[_]) (by simp),ih acc (by omega),List.filter_cons]
  have e:newF m.k m.f x=(!hasK m.k x.id x.vr x.vc&&hasP m.f x):=rfl
  rw [e,show (Ver.mk x.vr x.vc).r=x.vr from rfl,show (Ver.mk x.vr x.vc).c=x.vc from rfl]
  cases hasK m.k x.id x.vr x.vc with
  | true=>rfl
  | false=>cases hasP m.f x with
   | false=>rfl
   | true=>simp [br,newE]
theorem ranswer_s {s:State} {m:Msg} {turn:Int} {N:Nat} (h:SOk s N) (hN:N≤90000) (hm:MsgB m):ref11_Answer_s s m turn=some (answerV s m turn):=by
 have hl:=h.le
 have hal:AllB (bothV s.store s.out):=⟨ris_both h.rs h.ro,by have:=both_len h; omega,both_ok h⟩
 have hen:=ent_len (bothV s.store s.out) m
 have hhl:=hm.hl
 have hal2:=hal.l
 have hf1:=List.length_filter_le (newF m.k m.f) (bothV s.store s.out)
 unfold ref11_Answer_s answerV
 rw [bnd_of (rmay11_s hm),bnd_of (rboth_s h.rs h.ro (by omega)),chk_t (smallL_of (by omega)),rans_l1 h.f h.fs hm _ _ (by simp; omega) fun i hi=>(both_ok h i hi).1,List.nil_append]
 unfold ref11_Answer_j2
 rw [chk_t (smallL_of (by omega)),rans_l3 (h.kt.mono hN) hal hm _ _ _ (by simp; omega) (by rw [List.length_map]; omega),ref11_Answer_l3]
 have hgo:=len_fm (goF (bothV s.store s.out) m.f) m.have_
 have key:∀ fl:Nat,10000≤fl→ref11_Answer_l4 m turn (if inP m.f s.f=true then s.k else ⟨zero8,[]⟩) ([]++if inP m.f s.f=true then m.have_.filterMap (gone0 (bothV s.store s.out) s.k) else []) (((bothV s.store s.out).filter (newF m.k m.f)).map newE++m.have_.filterMap (goF (bothV s.store s.out) m.f)) fl 0 []=some (let b:=batV m turn ((entV (bothV s.store s.out) m).length + 1) (entV (bothV s.store s.out) m) 0; b++[doneM s m turn (b.length:Int)]):=fun fl hfl=>by
  have e:=rans_l4 (s:=s) (turn:=turn) (m:=m) (k0:=if inP m.f s.f=true then s.k else ⟨zero8,[]⟩) (dl:=doneL (bothV s.store s.out) s m) (L:=entV (bothV s.store s.out) m) (by omega) fl ((entV (bothV s.store s.out) m).length + 1) (entV (bothV s.store s.out) m) 0 [] rfl (by omega) (by omega) (by omega) rfl
  rw [show ((4 * 0:Nat):Int)=0 from rfl,Int.zero_add,List.nil_append] at e
  rw [List.nil_append]
  exact e
 rw [key fuelN (by unfold fuelN; omega)]
 cases mayM m with
 | false=>rfl
 | true=>cases eqI m.dst s.r with
  | false=>rfl
  | true=>rfl
end
end Go.Proofs.YtidkmoohgadjkaaGreat
set_option maxHeartbeats 0
namespace Go.Proofs.YtidkmoohgadjkaaGreat
open Go E
noncomputable section
open Pred
def law12_up_s:Option (Bool) :=
 (bnd (serve_Answer_s (State.mk 2 (Pred.mk 1 ⟨#[]⟩ 0 0 0 ([]:List Pred)) ([]:List Item) ([]:List Item) (Know.mk (V8.mk 0 0 0 0 0 0 0 0) ([]:List Frag)) 0 0 0) (Msg.mk 1 1 2 3 0 (Pred.mk 1 ⟨#[]⟩ 0 0 0 ([]:List Pred)) (Know.mk (V8.mk 0 0 0 0 0 0 0 0) ([]:List Frag)) ([]:List Has) 0 ([]:List Entry) false) 9) fun y1 =>
  (bnd (serve_May_s (Msg.mk 1 1 2 3 0 (Pred.mk 1 ⟨#[]⟩ 0 0 0 ([]:List Pred)) (Know.mk (V8.mk 0 0 0 0 0 0 0 0) ([]:List Frag)) ([]:List Has) 0 ([]:List Entry) false)) fun y3 =>
   (br (!y3)
    (some false)
    (br (!eqI (y1.length:Int) 1)
     (some false)
     (bnd (atL y1 0) fun x7 =>
      (br (eqI x7.kind 3)
       (br (eqI x7.n 0)
        (br (eqI x7.src 2)
         (br (eqI x7.dst 1)
          (br (eqI x7.sid 3)
           (some (eqI x7.turn 9))
           (some false))
          (some false))
         (some false))
        (some false))
       (some false)))))))
def law12_All_l1 (p1:List Msg):List Msg→Int→Option (Int)
  | [],v2 =>
  some 1
  | x1e::xs1,v2 =>
  (bnd (atL p1 v2) fun x3 =>
   (bnd (ref11_SameMsg_s x1e x3) fun y5 =>
    (br (!y5)
     (some 0)
     (law12_All_l1 p1 xs1 (v2 + 1) ))))
def law12_All_s (p0:List Msg) (p1:List Msg):Option (Int) :=
 (br (!eqI (p0.length:Int) (p1.length:Int))
  (some 0)
  (chk (smallL p0)
    ((law12_All_l1 p1) p0 0 )))
def law12_ServeTells_s (p0:Sit) (p1:Note) (p2:Int):Option (Bool) :=
 (bnd (law12_up_s ) fun y1 =>
  (bnd (law00_Fits_s p0) fun y3 =>
   (bnd (law00_Short_s p1) fun y5 =>
    (br (eqI (wr .i64 (y3 * y5)) 0)
     (some y1)
     (bnd (law00_Msg_s p1) fun y8 =>
      (bnd (serve_May_s y8) fun y10 =>
       (bnd (ref11_May_s y8) fun y12 =>
        (br (@Bool.rec (fun _=>Bool) y12 (!y12) y10)
         (some false)
         (bnd (law00_State_s p0) fun y15 =>
          (bnd (ref09_May_s y15) fun y17 =>
           (br (!y17)
            (some y1)
            (br y1
             (bnd (serve_Answer_s y15 y8 p2) fun y21 =>
              (bnd (ref11_Answer_s y15 y8 p2) fun y23 =>
               (bnd (law12_All_s y21 y23) fun y25 =>
                some (eqI y25 1))))
             (some false)))))))))))))
def law12_ServeAsks_s (p0:Sit) (p1:Sit) (p2:Int):Option (Bool) :=
 (bnd (law12_up_s ) fun y1 =>
  (bnd (law00_Fits_s p0) fun y3 =>
   (bnd (law00_Fits_s p1) fun y5 =>
    (br (eqI (wr .i64 (y3 * y5)) 0)
     (some y1)
     (bnd (law00_State_s p0) fun y8 =>
      (bnd (law00_State_s p1) fun y10 =>
       (bnd (ref09_May_s y8) fun y12 =>
        (br y12
         (bnd (ref09_May_s y10) fun y15 =>
          (br (!y15)
           (some y1)
           (bnd (ref11_Open_s y8 y10.r 5) fun y18 =>
            (br y1
             (bnd (serve_Answer_s y10 y18.2 p2) fun y21 =>
              (bnd (ref11_Answer_s y10 y18.2 p2) fun y23 =>
               (bnd (law12_All_s y21 y23) fun y25 =>
                some (eqI y25 1))))
             (some false)))))
         (some y1)))))))))
variable {X:Task→Prop} (hX:Closed X) {Q:A→List Blk→Prop}
include hX
theorem law12_up_c  {r:Bool} (h:law12_up_s  = some r) (hQ:Q (.one (.p (.v (.bool r)))) []):X (.call 15 [] [] Q):=by
  have K:=fun a (e:some a=some r)=>ret_some (f:=fun y=>.one (.p (.v (.bool y)))) (g:=fun y=>[]) e hQ
  unfold law12_up_s at h
  refine call_intro hX Tryz.func15 rfl rfl ?_
  revert h
  refine bndk fun y1 e2 h=>?_
  conv=>whnf
  repeat((first|refine dw ?_);conv=>whnf)
  refine call_nz hX ?_
  conv=>whnf
  refine serve_Answer_c hX e2 ?_
  revert h
  refine bndk fun y3 e4 h=>?_
  conv=>whnf
  repeat((first|refine dw ?_);conv=>whnf)
  refine call_nz hX ?_
  conv=>whnf
  refine serve_May_c hX e4 ?_
  conv=>whnf
  repeat((first|refine dw ?_);conv=>whnf)
  revert h
  refine brk (fun c5 h=>?_) (fun c5 h=>?_)
  ·conv=>whnf
   repeat((first|refine dw ?_|refine bct c5 ?_);conv=>whnf)
   exact K _ h
  ·conv=>whnf
   repeat((first|refine dw ?_|refine bcf c5 ?_|refine eqv_to (map_len _) ?_);conv=>whnf)
   revert h
   refine brk (fun c6 h=>?_) (fun c6 h=>?_)
   ·conv=>whnf
    repeat((first|refine dw ?_|refine bct c6 ?_);conv=>whnf)
    exact K _ h
   ·revert h
    refine bndk fun x7 a8 h=>?_
    conv=>whnf
    repeat((first|refine dw ?_|refine bcf c6 ?_|refine bct (at_in a8) ?_|refine bct (andt (at_in a8) rfl) ?_|refine row_in (at_row a8) ?_|refine bct (andt (at_in (at_nat a8)) rfl) ?_|refine row_in (at_row (at_nat a8)) ?_);conv=>whnf)
    revert h
    refine brk (fun c9 h=>?_) (fun c9 h=>?_)
    ·conv=>whnf
     repeat((first|refine dw ?_|refine bct c9 ?_|refine bct (at_in a8) ?_|refine bct (andt (at_in a8) rfl) ?_|refine row_in (at_row a8) ?_|refine bct (andt (at_in (at_nat a8)) rfl) ?_|refine row_in (at_row (at_nat a8)) ?_);conv=>whnf)
     revert h
     refine brk (fun c10 h=>?_) (fun c10 h=>?_)
     ·conv=>whnf
      repeat((first|refine dw ?_|refine bct c10 ?_|refine bct (at_in a8) ?_|refine bct (andt (at_in a8) rfl) ?_|refine row_in (at_row a8) ?_|refine bct (andt (at_in (at_nat a8)) rfl) ?_|refine row_in (at_row (at_nat a8)) ?_);conv=>whnf)
      revert h
      refine brk (fun c11 h=>?_) (fun c11 h=>?_)
      ·conv=>whnf
       repeat((first|refine dw ?_|refine bct c11 ?_|refine bct (at_in a8) ?_|refine bct (andt (at_in a8) rfl) ?_|refine row_in (at_row a8) ?_|refine bct (andt (at_in (at_nat a8)) rfl) ?_|refine row_in (at_row (at_nat a8)) ?_);conv=>whnf)
       revert h
       refine brk (fun c12 h=>?_) (fun c12 h=>?_)
       ·conv=>whnf
        repeat((first|refine dw ?_|refine bct c12 ?_|refine bct (at_in a8) ?_|refine bct (andt (at_in a8) rfl) ?_|refine row_in (at_row a8) ?_|refine bct (andt (at_in (at_nat a8)) rfl) ?_|refine row_in (at_row (at_nat a8)) ?_);conv=>whnf)
        revert h
        refine brk (fun c13 h=>?_) (fun c13 h=>?_)
        ·conv=>whnf
         repeat((first|refine dw ?_|refine bct c13 ?_|refine bct (at_in a8) ?_|refine bct (andt (at_in a8) rfl) ?_|refine row_in (at_row a8) ?_|refine bct (andt (at_in (at_nat a8)) rfl) ?_|refine row_in (at_row (at_nat a8)) ?_);conv=>whnf)
         exact K _ h
        ·conv=>whnf
         repeat((first|refine dw ?_|refine bcf c13 ?_);conv=>whnf)
         exact K _ h
       ·conv=>whnf
        repeat((first|refine dw ?_|refine bcf c12 ?_);conv=>whnf)
        exact K _ h
      ·conv=>whnf
       repeat((first|refine dw ?_|refine bcf c11 ?_);conv=>whnf)
       exact K _ h
     ·conv=>whnf
      repeat((first|refine dw ?_|refine bcf c10 ?_);conv=>whnf)
      exact K _ h
    ·conv=>whnf
     repeat((first|refine dw ?_|refine bcf c9 ?_);conv=>whnf)
     exact K _ h
theorem law12_All_c  {p0:List Msg} {p1:List Msg} {r:Int} (h:law12_All_s p0 p1=some r) (hQ:Q (iv r) []):X (.call 23 [.one (.p (.sl (p0.map Msg.row))),.one (.p (.sl (p1.map Msg.row)))] [] Q):=by
  have K:=fun a (e:some a=some r)=>ret_some (f:=fun y=>iv y) (g:=fun y=>[]) e hQ
  unfold law12_All_s at h
  refine call_intro hX Tryz.func23 rfl rfl ?_
  conv=>whnf
  repeat((first|refine dw ?_|refine eqv_to (map_len _) ?_);conv=>whnf)
  revert h
  refine brk (fun c1 h=>?_) (fun c1 h=>?_)
  ·conv=>whnf
   repeat((first|refine dw ?_|refine bct c1 ?_);conv=>whnf)
   exact K _ h
  ·revert h
   refine chkk fun hs1 h=>?_
   conv=>whnf
   repeat((first|refine dw ?_|refine bcf c1 ?_);conv=>whnf)
   refine loop_list0 (fun (v2:Int)=>pad [(0,.one (.p (.sl (p0.map Msg.row)))),(0,.one (.p (.sl (p1.map Msg.row)))),(3,iv v2)] 23) (fun (v2:Int)=>[]) _ p0 (fun pre1 x1e xs1 v2  hl1 hi1 h ih1=>?_) (fun v2  hi1 h=>?_)  h
   ·rw [law12_All_l1] at h
    have am1:=at_mid hl1 hi1
    refine loop_intro hX ?_
    revert h
    refine bndk fun x3 a4 h=>?_
    revert h
    refine bndk fun y5 e6 h=>?_
    conv=>whnf
    repeat((first|refine dw ?_|refine eqv_to (map_len _) ?_|refine bct (lt_mid hl1 hi1) ?_|refine bct (at_in am1) ?_|refine bct (andt (at_in am1) rfl) ?_|refine row_in (at_row am1) ?_|refine bct (andt (at_in (at_nat am1)) rfl) ?_|refine row_in (at_row (at_nat am1)) ?_|refine bct (at_in a4) ?_|refine bct (andt (at_in a4) rfl) ?_|refine row_in (at_row a4) ?_|refine bct (andt (at_in (at_nat a4)) rfl) ?_|refine row_in (at_row (at_nat a4)) ?_);conv=>whnf)
    refine ref11_SameMsg_c hX e6 ?_
    conv=>whnf
    repeat((first|refine dw ?_);conv=>whnf)
    revert h
    refine brk (fun c7 h=>?_) (fun c7 h=>?_)
    ·conv=>whnf
     repeat((first|refine dw ?_|refine bct c7 ?_);conv=>whnf)
     exact K _ h
    ·conv=>whnf
     repeat((first|refine dw ?_|refine bcf c7 ?_);conv=>whnf)
     exact ih1 _  (wrL hs1 hl1 hi1) h
   ·rw [law12_All_l1] at h
    refine loop_intro hX ?_
    conv=>whnf
    repeat((first|refine dw ?_|refine eqv_to (map_len _) ?_|refine bcf (lt_end hi1) ?_);conv=>whnf)
    exact K _ h
theorem law12_ServeTells_c  {p0:Sit} {p1:Note} {p2:Int} {r:Bool} (h:law12_ServeTells_s p0 p1 p2=some r) (hQ:Q (.one (.p (.v (.bool r)))) []):X (.call 3 [.agg [ic p0.r,ic p0.f.op,.p (.v (.string p0.f.text)),ic p0.f.n,.p (.v (.float .f64 p0.f.re)),.p (.v (.float .f64 p0.f.im)),.p (.sl (Pred.lrows p0.f.kids)),.p (.sl (p0.store.map Item.lrow)),.p (.sl (p0.out.map Item.lrow)),ic p0.k.star.x0,ic p0.k.star.x1,ic p0.k.star.x2,ic p0.k.star.x3,ic p0.k.star.x4,ic p0.k.star.x5,ic p0.k.star.x6,ic p0.k.star.x7,.p (.sl (p0.k.l.map Frag.row)),ic p0.count,ic p0.clock,ic p0.epoch],.agg [ic p1.kind,ic p1.src,ic p1.dst,ic p1.sid,ic p1.turn,ic p1.f.op,.p (.v (.string p1.f.text)),ic p1.f.n,.p (.v (.float .f64 p1.f.re)),.p (.v (.float .f64 p1.f.im)),.p (.sl (Pred.lrows p1.f.kids)),ic p1.k.star.x0,ic p1.k.star.x1,ic p1.k.star.x2,ic p1.k.star.x3,ic p1.k.star.x4,ic p1.k.star.x5,ic p1.k.star.x6,ic p1.k.star.x7,.p (.sl (p1.k.l.map Frag.row)),.p (.sl (p1.have_.map Has.row)),ic p1.n,.p (.sl (p1.l.map Line.row)),.p (.v (.bool p1.star))],iv p2] [] Q):=by
  have K:=fun a (e:some a=some r)=>ret_some (f:=fun y=>.one (.p (.v (.bool y)))) (g:=fun y=>[]) e hQ
  unfold law12_ServeTells_s at h
  refine call_intro hX Tryz.func3 rfl rfl ?_
  revert h
  refine bndk fun y1 e2 h=>?_
  conv=>whnf
  repeat((first|refine dw ?_);conv=>whnf)
  refine law12_up_c hX e2 ?_
  revert h
  refine bndk fun y3 e4 h=>?_
  conv=>whnf
  repeat((first|refine dw ?_);conv=>whnf)
  refine law00_Fits_c hX e4 ?_
  revert h
  refine bndk fun y5 e6 h=>?_
  conv=>whnf
  repeat((first|refine dw ?_);conv=>whnf)
  refine law00_Short_c hX e6 ?_
  conv=>whnf
  repeat((first|refine dw ?_);conv=>whnf)
  revert h
  refine brk (fun c7 h=>?_) (fun c7 h=>?_)
  ·conv=>whnf
   repeat((first|refine dw ?_|refine bct c7 ?_);conv=>whnf)
   exact K _ h
  ·revert h
   refine bndk fun y8 e9 h=>?_
   conv=>whnf
   repeat((first|refine dw ?_|refine bcf c7 ?_);conv=>whnf)
   refine law00_Msg_c hX e9 ?_
   revert h
   refine bndk fun y10 e11 h=>?_
   conv=>whnf
   repeat((first|refine dw ?_);conv=>whnf)
   refine serve_May_c hX e11 ?_
   revert h
   refine bndk fun y12 e13 h=>?_
   conv=>whnf
   repeat((first|refine dw ?_);conv=>whnf)
   refine ref11_May_c hX e13 ?_
   conv=>whnf
   repeat((first|refine dw ?_);conv=>whnf)
   revert h
   refine brk (fun c14 h=>?_) (fun c14 h=>?_)
   ·conv=>whnf
    repeat((first|refine dw ?_|refine bct c14 ?_);conv=>whnf)
    exact K _ h
   ·revert h
    refine bndk fun y15 e16 h=>?_
    conv=>whnf
    repeat((first|refine dw ?_|refine bcf c14 ?_);conv=>whnf)
    refine law00_State_c hX e16 ?_
    revert h
    refine bndk fun y17 e18 h=>?_
    conv=>whnf
    repeat((first|refine dw ?_);conv=>whnf)
    refine ref09_May_c hX e18 ?_
    conv=>whnf
    repeat((first|refine dw ?_);conv=>whnf)
    revert h
    refine brk (fun c19 h=>?_) (fun c19 h=>?_)
    ·conv=>whnf
     repeat((first|refine dw ?_|refine bct c19 ?_);conv=>whnf)
     exact K _ h
    ·conv=>whnf
     repeat((first|refine dw ?_|refine bcf c19 ?_);conv=>whnf)
     revert h
     refine brk (fun c20 h=>?_) (fun c20 h=>?_)
     ·revert h
      refine bndk fun y21 e22 h=>?_
      conv=>whnf
      repeat((first|refine dw ?_|refine bct c20 ?_);conv=>whnf)
      refine serve_Answer_c hX e22 ?_
      revert h
      refine bndk fun y23 e24 h=>?_
      conv=>whnf
      repeat((first|refine dw ?_|refine bct c20 ?_);conv=>whnf)
      refine ref11_Answer_c hX e24 ?_
      revert h
      refine bndk fun y25 e26 h=>?_
      conv=>whnf
      repeat((first|refine dw ?_|refine bct c20 ?_);conv=>whnf)
      refine law12_All_c hX e26 ?_
      conv=>whnf
      repeat((first|refine dw ?_|refine bct c20 ?_);conv=>whnf)
      exact K _ h
     ·conv=>whnf
      repeat((first|refine dw ?_|refine bcf c20 ?_);conv=>whnf)
      exact K _ h
theorem law12_ServeAsks_c  {p0:Sit} {p1:Sit} {p2:Int} {r:Bool} (h:law12_ServeAsks_s p0 p1 p2=some r) (hQ:Q (.one (.p (.v (.bool r)))) []):X (.call 4 [.agg [ic p0.r,ic p0.f.op,.p (.v (.string p0.f.text)),ic p0.f.n,.p (.v (.float .f64 p0.f.re)),.p (.v (.float .f64 p0.f.im)),.p (.sl (Pred.lrows p0.f.kids)),.p (.sl (p0.store.map Item.lrow)),.p (.sl (p0.out.map Item.lrow)),ic p0.k.star.x0,ic p0.k.star.x1,ic p0.k.star.x2,ic p0.k.star.x3,ic p0.k.star.x4,ic p0.k.star.x5,ic p0.k.star.x6,ic p0.k.star.x7,.p (.sl (p0.k.l.map Frag.row)),ic p0.count,ic p0.clock,ic p0.epoch],.agg [ic p1.r,ic p1.f.op,.p (.v (.string p1.f.text)),ic p1.f.n,.p (.v (.float .f64 p1.f.re)),.p (.v (.float .f64 p1.f.im)),.p (.sl (Pred.lrows p1.f.kids)),.p (.sl (p1.store.map Item.lrow)),.p (.sl (p1.out.map Item.lrow)),ic p1.k.star.x0,ic p1.k.star.x1,ic p1.k.star.x2,ic p1.k.star.x3,ic p1.k.star.x4,ic p1.k.star.x5,ic p1.k.star.x6,ic p1.k.star.x7,.p (.sl (p1.k.l.map Frag.row)),ic p1.count,ic p1.clock,ic p1.epoch],iv p2] [] Q):=by
  have K:=fun a (e:some a=some r)=>ret_some (f:=fun y=>.one (.p (.v (.bool y)))) (g:=fun y=>[]) e hQ
  unfold law12_ServeAsks_s at h
  refine call_intro hX Tryz.func4 rfl rfl ?_
  revert h
  refine bndk fun y1 e2 h=>?_
  conv=>whnf
  repeat((first|refine dw ?_);conv=>whnf)
  refine law12_up_c hX e2 ?_
  revert h
  refine bndk fun y3 e4 h=>?_
  conv=>whnf
  repeat((first|refine dw ?_);conv=>whnf)
  refine law00_Fits_c hX e4 ?_
  revert h
  refine bndk fun y5 e6 h=>?_
  conv=>whnf
  repeat((first|refine dw ?_);conv=>whnf)
  refine law00_Fits_c hX e6 ?_
  conv=>whnf
  repeat((first|refine dw ?_);conv=>whnf)
  revert h
  refine brk (fun c7 h=>?_) (fun c7 h=>?_)
  ·conv=>whnf
   repeat((first|refine dw ?_|refine bct c7 ?_);conv=>whnf)
   exact K _ h
  ·revert h
   refine bndk fun y8 e9 h=>?_
   conv=>whnf
   repeat((first|refine dw ?_|refine bcf c7 ?_);conv=>whnf)
   refine law00_State_c hX e9 ?_
   revert h
   refine bndk fun y10 e11 h=>?_
   conv=>whnf
   repeat((first|refine dw ?_);conv=>whnf)
   refine law00_State_c hX e11 ?_
   revert h
   refine bndk fun y12 e13 h=>?_
   conv=>whnf
   repeat((first|refine dw ?_);conv=>whnf)
   refine ref09_May_c hX e13 ?_
   conv=>whnf
   repeat((first|refine dw ?_);conv=>whnf)
   revert h
   refine brk (fun c14 h=>?_) (fun c14 h=>?_)
   ·revert h
    refine bndk fun y15 e16 h=>?_
    conv=>whnf
    repeat((first|refine dw ?_|refine bct c14 ?_);conv=>whnf)
    refine ref09_May_c hX e16 ?_
    conv=>whnf
    repeat((first|refine dw ?_|refine bct c14 ?_);conv=>whnf)
    revert h
    refine brk (fun c17 h=>?_) (fun c17 h=>?_)
    ·conv=>whnf
     repeat((first|refine dw ?_|refine bct c17 ?_);conv=>whnf)
     exact K _ h
    ·revert h
     refine bndk fun y18 e19 h=>?_
     conv=>whnf
     repeat((first|refine dw ?_|refine bcf c17 ?_);conv=>whnf)
     refine ref11_Open_c hX e19 ?_
     conv=>whnf
     repeat((first|refine dw ?_);conv=>whnf)
     revert h
     refine brk (fun c20 h=>?_) (fun c20 h=>?_)
     ·revert h
      refine bndk fun y21 e22 h=>?_
      conv=>whnf
      repeat((first|refine dw ?_|refine bct c20 ?_);conv=>whnf)
      refine serve_Answer_c hX e22 ?_
      revert h
      refine bndk fun y23 e24 h=>?_
      conv=>whnf
      repeat((first|refine dw ?_|refine bct c20 ?_);conv=>whnf)
      refine ref11_Answer_c hX e24 ?_
      revert h
      refine bndk fun y25 e26 h=>?_
      conv=>whnf
      repeat((first|refine dw ?_|refine bct c20 ?_);conv=>whnf)
      refine law12_All_c hX e26 ?_
      conv=>whnf
      repeat((first|refine dw ?_|refine bct c20 ?_);conv=>whnf)
      exact K _ h
     ·conv=>whnf
      repeat((first|refine dw ?_|refine bcf c20 ?_);conv=>whnf)
      exact K _ h
   ·conv=>whnf
    repeat((first|refine dw ?_|refine bcf c14 ?_);conv=>whnf)
    exact K _ h
end
end Go.Proofs.YtidkmoohgadjkaaGreat
set_option maxHeartbeats 4000000
namespace Go.Proofs.YtidkmoohgadjkaaGreat
open Go E Go.ChangeShapes Go.WideShapes Go.ChangeAt Go.RowKit
theorem cellsTree:Tryz.prog.cellsOf 25=6:=by kernel_rfl
theorem cellsTrees:Tryz.prog.cellsOf 23=1:=by kernel_rfl
abbrev nodeSh (s:Sh):Sh:=.cat (.int .i64) (.cat .str (.cat (.int .i64) (.cat (.flt .f64) (.cat (.flt .f64) (.cat (.sl s) .nil)))))
def treeSh:Nat→Sh
 | 0=>.no 6
 | 1=>nodeSh (.no 6)
 | n + 2=>nodeSh (treeSh n)
theorem tree_size:∀ n,(treeSh n).size=6
 | 0=>rfl
 | 1=>rfl
 | n + 2=>rfl
theorem node_ok {n:Nat} {s:Sh} (hs:s.size=6) (hk:ShOk Tryz.prog n 23 (.sl s)):ShOk Tryz.prog (n + 1) 25 (nodeSh s) :=
 .struct Tryz.underlying25 cellsTree (.cons rfl cellsInt (shInt n) (.cons rfl cellsStr (shStr n) (.cons rfl cellsInt (shInt n) (.cons rfl cellsFlt (shFlt n) (.cons rfl cellsFlt (shFlt n) (.cons rfl cellsTrees hk .nil))))))
theorem shTree:∀ n,ShOk Tryz.prog n 25 (treeSh n)
 | 0=>.zero
 | 1=>node_ok rfl .zero
 | n + 2=>node_ok (tree_size n) (.sl Tryz.underlying23 (by rw [tree_size]; exact cellsTree) (by rw [tree_size]; decide) (shTree n))
theorem rows_of {P:List PC→Prop} {Ok:Pred→Prop} (h:∀ r,P r→∃ p:Pred,Ok p∧r=p.lrow):∀ (l:List (List PC)),(∀ r∈l,P r)→∃ ps:List Pred,(∀ p∈ps,Ok p)∧l=ps.map Pred.lrow
 | [],_=>⟨[],by simp,rfl⟩
 | r::l,hl=>by
  obtain ⟨p,hp,rfl⟩:=h r (hl r (by simp))
  obtain ⟨ps,hps,rfl⟩:=rows_of h l fun r hr=>hl r (by simp [hr])
  exact ⟨p::ps,by simpa using ⟨hp,hps⟩,rfl⟩
theorem node_fits {s:Sh} {l:List PC} (hk:∀ r,Fits s r→∃ p:Pred,p.Ok∧r=p.lrow) (h:Fits (nodeSh s) l):∃ p:Pred,p.Ok∧l=p.lrow:=by
 obtain ⟨_,_,rfl,⟨x0,rfl,w0⟩,_,_,rfl,⟨x1,rfl,w1⟩,_,_,rfl,⟨x2,rfl,w2⟩,_,_,rfl,⟨x3,rfl,w3⟩,_,_,rfl,⟨x4,rfl,w4⟩,_,_,rfl,⟨rs,rfl,w5,w6⟩,rfl⟩:=h
 obtain ⟨ps,h1,rfl⟩:=rows_of (P:=Fits s) (Ok:=Pred.Ok) hk rs w6
 refine ⟨.mk x0 x1 x2 x3 x4 ps,?_,?_⟩
 ·unfold Pred.Ok
  exact ⟨i64_of w0,Nat.le_trans w1 (by decide),i64_of w2,by rw [List.length_map] at w5; exact Nat.le_trans w5 (by decide),Pred.Oks_of h1⟩
 ·rw [Pred.lrow_eq]; simp only [Pred.lrows_eq]; rfl
theorem tree_fits:∀ n {l:List PC},Fits (treeSh n) l→∃ p:Pred,p.Ok∧l=p.lrow
 | 0,l,h=>False.elim h
 | 1,l,h=>node_fits (s:=.no 6) (fun r h=>False.elim h) h
 | n + 2,l,h=>node_fits (fun r h=>tree_fits n h) h
section
variable {H:Type} {enc:TypeId × Value→H} {W:World} {v:Value} {d:DataW H} {ps:List MemPlace} {b0:Nat}
end
end Go.Proofs.YtidkmoohgadjkaaGreat
set_option maxHeartbeats 4000000
namespace Go.Proofs.YtidkmoohgadjkaaGreat
open Go E Go.ChangeShapes Go.WideShapes Go.ChangeAt Go.RowKit
theorem cellsSit:Tryz.prog.cellsOf 33=21:=by kernel_rfl
def sitSh (n:Nat):Sh:=.cat (.int .i64) (.cat (treeSh (n - 1)) (.cat (.sl rowSh) (.cat (.sl rowSh) (.cat knowSh (.cat (.int .i64) (.cat (.int .i64) (.cat (.int .i64) .nil)))))))
theorem sit_size (n:Nat):(sitSh n).size=21:=by unfold sitSh; simp only [Sh.size,tree_size]; rfl
theorem shSit:∀ n,ShOk Tryz.prog n 33 (sitSh n)
 | 0=>.zero
 | n + 1=>.struct Tryz.underlying33 (by rw [sit_size]; exact cellsSit) (.cons rfl cellsInt (shInt n) (.cons rfl (by rw [show n + 1 - 1=n from rfl,tree_size]; exact cellsTree) (shTree n)
   (.cons (by rw [show n + 1 - 1=n from rfl,tree_size]; rfl) cellsRows (shRows n) (.cons (by rw [show n + 1 - 1=n from rfl,tree_size]; rfl) cellsRows (shRows n) (.cons (by rw [show n + 1 - 1=n from rfl,tree_size]; rfl) cellsKnow (shKnow n)
   (.cons (by rw [show n + 1 - 1=n from rfl,tree_size]; rfl) cellsInt (shInt n) (.cons (by rw [show n + 1 - 1=n from rfl,tree_size]; rfl) cellsInt (shInt n) (.cons (by rw [show n + 1 - 1=n from rfl,tree_size]; rfl) cellsInt (shInt n) .nil))))))))
abbrev Sit.la (s:Sit):A:=.agg [ic s.r,ic s.f.op,.p (.v (.string s.f.text)),ic s.f.n,.p (.v (.float .f64 s.f.re)),.p (.v (.float .f64 s.f.im)),.p (.sl (Pred.lrows s.f.kids)),.p (.sl (s.store.map Item.lrow)),.p (.sl (s.out.map Item.lrow)),
 ic s.k.star.x0,ic s.k.star.x1,ic s.k.star.x2,ic s.k.star.x3,ic s.k.star.x4,ic s.k.star.x5,ic s.k.star.x6,ic s.k.star.x7,.p (.sl (s.k.l.map Frag.row)),ic s.count,ic s.clock,ic s.epoch]
section
variable {H:Type} {enc:TypeId × Value→H} {W:World} {v:Value} {d:DataW H} {ps:List MemPlace} {b0:Nat}
theorem arg_sit (hv:Value.okWide Tryz.prog W .any b0 33 v) (h:DataW.Trod enc Tryz.prog W 0 (fun _=>true) true 33 v d ps):∃ s:Sit,s.Ok∧VA W (zoneOf W) noLoc s.la v:=by
 obtain ⟨n,l,h1,h2⟩:=arg_agg shSit (.inl ⟨_,Tryz.underlying33⟩) hv h
 obtain ⟨_,_,rfl,⟨x0,rfl,w0⟩,_,_,rfl,hf,_,_,rfl,hs,_,_,rfl,ho,_,_,rfl,hk,_,_,rfl,⟨x1,rfl,w1⟩,_,_,rfl,⟨x2,rfl,w2⟩,_,_,rfl,⟨x3,rfl,w3⟩,rfl⟩:=h1
 obtain ⟨p,op,rfl⟩:=tree_fits _ hf
 obtain ⟨xs,hx,rfl⟩:=fits_rows hs
 obtain ⟨ys,hy,rfl⟩:=fits_rows ho
 obtain ⟨k,hi,rfl⟩:=fits_know hk
 rw [Pred.lrow_eq] at h2
 exact ⟨⟨x0,p,xs,ys,k,x1,x2,x3⟩,⟨op,hx,hy,hi⟩,h2⟩
end
end Go.Proofs.YtidkmoohgadjkaaGreat
namespace Go.Proofs.YtidkmoohgadjkaaGreat
open Go E Pred
noncomputable section
open Classical
def RealE (l:List Entry):Prop:=∀ e∈l,sameI e.item e.item=true
theorem sameEnts_l {L:List Entry}:∀ (xs pre:List Entry),L=pre++xs→RealE xs→ref11_SameEntries_l1 L xs (pre.length:Int)=some true
 | [],pre,_,_=>by rw [ref11_SameEntries_l1]
 | x::xs,pre,h,hr=>by
  have ih:=sameEnts_l (L:=L) xs (pre++[x]) (by rw [h]; simp) fun e he=>hr e (List.mem_cons_of_mem _ he)
  rw [List.length_append] at ih
  have e1:ref11_SameEntry_s x x=some true:=by
   unfold ref11_SameEntry_s
   rw [bnd_of (show ref01_Same_s x.item x.item=some (sameI x.item x.item) from rfl),hr x (List.mem_cons_self ..),eqI_self,eqI_self]
   cases x.goes<;>rfl
  rw [ref11_SameEntries_l1,bnd_of (show atL L (pre.length:Int)=some x by rw [h]; exact at_app pre x xs),bnd_of e1]
  exact ih
theorem sameEnts_s {l:List Entry} (hn:l.length≤1000000000) (h:RealE l):ref11_SameEntries_s l l=some true:=by
 unfold ref11_SameEntries_s
 rw [eqI_self,br_f (by rfl),chk_t (smallL_of hn)]
 exact sameEnts_l l [] rfl h
theorem selfMsg_s {m:Msg} {N:Nat} (hN:N≤1000000000) (hf:m.f.Ok) (hs:sameP m.f m.f=true) (hk:KB m.k N) (hl:m.l.length≤1000000000) (hr:RealE m.l) (hh:m.have_=[]):ref11_SameMsg_s m m=some true:=by
 have e:ref03_Same_s m.f m.f=some true:=by rw [rsame_s hf,hs]
 have hb:(@Bool.rec (fun _=>Bool) m.star (!m.star) m.star)=false:=by cases m.star<;>rfl
 unfold ref11_SameMsg_s
 rw [eqI_self,eqI_self,eqI_self,eqI_self,eqI_self,eqI_self,eqI_self,hb,hh,chk_t (smallL_of (by simp)),ref11_SameMsg_l1,bnd_of e,bnd_of (alike_s hN hk),alikeK_refl,bnd_of (sameEnts_s hl hr)]; rfl
structure AnsM (m:Msg):Prop where
 f:m.f=.mk 0 ⟨#[]⟩ 0 0 0 []
 k:KT m.k 90000
 l:m.l.length≤10000
 r:RealE m.l
 h:m.have_=[]
theorem ok_bare0:(Pred.mk 0 ⟨#[]⟩ 0 0 0 []).Ok:=by unfold Pred.Ok; exact ⟨by decide,by decide,by decide,by decide,by unfold Pred.Oks; trivial⟩
theorem AnsM.same {m:Msg} (h:AnsM m):ref11_SameMsg_s m m=some true:=by
 refine selfMsg_s (N:=90000) (by decide) ?_ ?_ h.k.kb (by have:=h.l; omega) h.r h.h
 ·rw [h.f]; exact ok_bare0
 ·rw [h.f]; exact bare_self 0
theorem all_l {L:List Msg}:∀ (xs pre:List Msg),L=pre++xs→(∀ m∈xs,AnsM m)→law12_All_l1 L xs (pre.length:Int)=some 1
 | [],pre,_,_=>by rw [law12_All_l1]
 | x::xs,pre,h,hr=>by
  have ih:=all_l (L:=L) xs (pre++[x]) (by rw [h]; simp) fun e he=>hr e (List.mem_cons_of_mem _ he)
  rw [List.length_append] at ih
  rw [law12_All_l1,bnd_of (show atL L (pre.length:Int)=some x by rw [h]; exact at_app pre x xs),bnd_of (hr x (List.mem_cons_self ..)).same]
  exact ih
theorem all_s {l:List Msg} (hn:l.length≤1000000000) (h:∀ m∈l,AnsM m):law12_All_s l l=some 1:=by
 unfold law12_All_s
 rw [eqI_self,br_f (by rfl),chk_t (smallL_of hn)]
 exact all_l l [] rfl h
theorem real_go (h:Has) (r c:Int):sameI (goE h r c).item (goE h r c).item=true:=sameI_real ⟨by kernel_rfl,by kernel_rfl⟩
theorem real_ent {all:List Item} {m:Msg} (ha:∀ i∈all,i.Ok∧mayI i=true):RealE (entV all m):=fun e he=>by
 unfold entV at he
 rcases List.mem_append.1 he with he | he
 ·obtain ⟨x,hx,rfl⟩:=List.mem_map.1 he
  exact sameI_real (real_may (ha x (List.mem_filter.1 hx).1).2)
 ·obtain ⟨h, -, e2⟩:=List.mem_filterMap.1 he
  unfold goF at e2
  split at e2
  ·cases e2
  ·split at e2
   ·injection e2 with e2
    rw [←e2]; exact real_go ..
   ·cases e2
theorem real_done {all:List Item} {s:State} {m:Msg}:RealE (doneL all s m):=fun e he=>by
 unfold doneL at he
 split at he
 ·obtain ⟨h, -, e2⟩:=List.mem_filterMap.1 he
  unfold gone0 at e2
  split at e2
  ·injection e2 with e2
   rw [←e2]; exact real_go ..
  ·cases e2
 ·cases he
theorem bat_ans {m:Msg} {turn:Int}:∀ (k:Nat) (l:List Entry) (n:Int),RealE l→∀ x∈batV m turn k l n,AnsM x
 | 0,_,_,_,x,hx=>by cases hx
 | k + 1,[],_,_,x,hx=>by cases hx
 | k + 1,e::l,n,hr,x,hx=>by
  rw [batV] at hx
  rcases List.mem_cons.1 hx with rfl | hx
  ·exact ⟨rfl,⟨Nat.zero_le _,Nat.zero_le _⟩,by show ((e::l).take 4).length≤_; rw [List.length_take]; omega,fun y hy=>hr y (List.mem_of_mem_take hy),rfl⟩
  ·exact bat_ans k _ _ (fun y hy=>hr y (List.mem_of_mem_drop hy)) x hx
theorem answer_ans {s:State} {m:Msg} {turn:Int} {N:Nat} (h:SOk s N) (hN:N≤90000) (hm:MsgB m):(answerV s m turn).length≤2000∧∀ x∈answerV s m turn,AnsM x:=by
 have hl:=h.le
 have hlen:=both_len h
 have hen:=ent_len (bothV s.store s.out) m
 have hhl:=hm.hl
 unfold answerV
 split
 ·have hb:=bat_len m turn ((entV (bothV s.store s.out) m).length + 1) (entV (bothV s.store s.out) m) 0
  refine ⟨by simp only [List.length_append,List.length_singleton]; omega,fun x hx=>?_⟩
  rcases List.mem_append.1 hx with hx | hx
  ·exact bat_ans _ _ _ (real_ent (both_ok h)) x hx
  ·rw [List.mem_singleton.1 hx]
   refine ⟨rfl,?_,?_,real_done,rfl⟩
   ·show KT (if inP m.f s.f=true then s.k else ⟨zero8,[]⟩) 90000
    split
    ·exact h.kt.mono hN
    ·exact ⟨Nat.zero_le _,Nat.zero_le _⟩
   ·show (doneL (bothV s.store s.out) s m).length≤_
    unfold doneL
    split
    ·have:=len_fm (gone0 (bothV s.store s.out) s.k) m.have_
     omega
    ·exact Nat.zero_le _
 ·exact ⟨Nat.zero_le _,fun x hx=>by cases hx⟩
def state12:State:=⟨2,star1,[],[],⟨zero8,[]⟩,0,0,0⟩
def msg12:Msg:=⟨1,1,2,3,0,star1,⟨zero8,[]⟩,[],0,[],false⟩
theorem msg12_b:MsgB msg12:=⟨star_ok,star_size,⟨Nat.zero_le _,Nat.zero_le _⟩,fun f hf=>(by cases hf),fun x hx=>(by cases hx),by show 0≤1000; decide,by show 0≤1000; decide⟩
theorem up12:law12_up_s=some true:=by
 have hs:SOk state12 0:=sok_new (r:=2) star_ok star_size
 have e1:=serve_s (turn:=9) hs (by decide) msg12_b
 have e2:=smay_s msg12_b
 have v1:answerV state12 msg12 9=[⟨3,2,1,3,9,.mk 0 ⟨#[]⟩ 0 0 0 [],⟨zero8,[]⟩,[],0,[],false⟩]:=by kernel_rfl
 have v2:mayM msg12=true:=by kernel_rfl
 rw [v1] at e1
 rw [v2] at e2
 have e1':serve_Answer_s (State.mk 2 (Pred.mk 1 ⟨#[]⟩ 0 0 0 ([]:List Pred)) ([]:List Item) ([]:List Item) (Know.mk (V8.mk 0 0 0 0 0 0 0 0) ([]:List Frag)) 0 0 0) (Msg.mk 1 1 2 3 0 (Pred.mk 1 ⟨#[]⟩ 0 0 0 ([]:List Pred)) (Know.mk (V8.mk 0 0 0 0 0 0 0 0) ([]:List Frag)) ([]:List Has) 0 ([]:List Entry) false) 9=_:=e1
 have e2':serve_May_s (Msg.mk 1 1 2 3 0 (Pred.mk 1 ⟨#[]⟩ 0 0 0 ([]:List Pred)) (Know.mk (V8.mk 0 0 0 0 0 0 0 0) ([]:List Frag)) ([]:List Has) 0 ([]:List Entry) false)=some true:=e2
 unfold law12_up_s
 rw [bnd_of e1',bnd_of e2']
 rfl
theorem ask_b {a:State} {w sid:Int} (hf:a.f.Ok) (hfs:a.f.size≤1000) (hk:KT a.k 90000) (hi:IdsOk a.k) (hs:∀ i∈a.store,i.Ok) (hl:a.store.length≤1000):MsgB (ask0 a w sid) :=
 ⟨hf,hfs,hk,hi,fun x hx=>by
  obtain ⟨i,hi,rfl⟩:=List.mem_map.1 hx
  have:=hs i hi
  exact ⟨this.id,this.vr,this.vc,this.stamp⟩,by show (a.store.map hasOf).length≤_; rw [List.length_map]; exact hl,by show 0≤1000; decide⟩
theorem serveAsks_s {s t:Sit} {turn:Int} (ok:s.Ok) (ok2:t.Ok):law12_ServeAsks_s s t turn=some true:=by
 obtain ⟨a,ha,h1⟩:=fits_sit ok
 obtain ⟨b,hb,h2⟩:=fits_sit ok2
 unfold law12_ServeAsks_s
 rw [bnd_of up12,bnd_of ha,bnd_of hb]
 rcases mul01 (h1.imp (fun h=>h) And.left) (h2.imp (fun h=>h) And.left) with h | ⟨rfl,rfl⟩
 ·rw [br_t h]
 ·obtain ⟨-, hst, -, -, -, hk⟩:=h1.resolve_left (by decide)
  obtain ⟨-, hst2, -, -, -, hk2⟩:=h2.resolve_left (by decide)
  have sb:=hst.b hk
  have sb2:=hst2.b hk2
  rw [br_f (by rfl),bnd_of (state_s ok hst),bnd_of (state_s ok2 hst2),bnd_of (rmay_s sb),bnd_of (rmay_s sb2)]
  cases hm:mayS s.st with
  | false=>rfl
  | true =>
   cases hm2:mayS t.st with
   | false=>rfl
   | true =>
    have so:=may_sok hm2 hst2.f hst2.store hst2.out hk2.kt hst2.ids
    have mb:MsgB (ask0 s.st t.st.r 5):=ask_b sb.f sb.fs sb.k sb.ids sb.store sb.sl
    obtain ⟨hl,hr⟩:=answer_ans (turn:=turn) so (by decide) mb
    rw [br_t rfl,br_f (by rfl),bnd_of (rask_s hst.sl),br_t rfl,bnd_of (serve_s (turn:=turn) so (by decide) mb),bnd_of (ranswer_s (turn:=turn) so (by decide) mb),bnd_of (all_s (by omega) hr)]; rfl
theorem law_serveAsks {X:Task→Prop} (hX:Closed X) {s t:Sit} {turn:Int} (ok:s.Ok) (ok2:t.Ok) {Q:A→List Blk→Prop} (hQ:Q (bv true) []):X (.call 4 [s.la,t.la,iv turn] [] Q):=law12_ServeAsks_c hX (serveAsks_s ok ok2) hQ
end
end Go.Proofs.YtidkmoohgadjkaaGreat
