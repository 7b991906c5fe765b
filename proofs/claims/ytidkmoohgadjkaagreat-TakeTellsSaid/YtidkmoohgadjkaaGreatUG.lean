/- The laws of layer 13. Written by decomp.py. The statements TakeTells, TakePlays, out of what their code computes. -/
import Derived.Test.YtidkmoohgadjkaaGreatUE
import Derived.Test.YtidkmoohgadjkaaGreatUF
import Derived.Test.YtidkmoohgadjkaaGreatUD
set_option linter.unusedVariables false
set_option linter.unusedSimpArgs false
set_option maxRecDepth 100000
set_option maxHeartbeats 0
namespace Go.Proofs.YtidkmoohgadjkaaGreat
open Go E
noncomputable section
open Pred
def law13_Sess_s (p0:Talk):Option (Sess) :=
 (bnd (law00_Entries_s p0.l) fun y1 =>
  some (Sess.mk p0.sid p0.with_ p0.epoch p0.turn p0.got p0.bad p0.told p0.over p0.n p0.k y1))
def law13_up_s:Option (Bool) :=
 (bndE (take_Msg_s (State.mk 1 (Pred.mk 1 ⟨#[]⟩ 0 0 0 ([]:List Pred)) ([]:List Item) ([]:List Item) (Know.mk (V8.mk 0 0 0 0 0 0 0 0) ([]:List Frag)) 0 0 0) (Sess.mk 3 2 0 0 ([]:List Int) false false false 0 (Know.mk (V8.mk 0 0 0 0 0 0 0 0) ([]:List Frag)) ([]:List Entry)) (Msg.mk 3 2 1 3 4 (Pred.mk 0 ⟨#[]⟩ 0 0 0 ([]:List Pred)) (Know.mk (V8.mk 0 7 0 0 0 0 0 0) ([]:List Frag)) ([]:List Has) 0 ([]:List Entry) false)) (fun y1 n3 =>
  (bndE (take_Msg_s (State.mk 1 (Pred.mk 1 ⟨#[]⟩ 0 0 0 ([]:List Pred)) ([]:List Item) ([]:List Item) (Know.mk (V8.mk 0 0 0 0 0 0 0 0) ([]:List Frag)) 0 0 0) (Sess.mk 3 2 0 0 ([]:List Int) false false false 0 (Know.mk (V8.mk 0 0 0 0 0 0 0 0) ([]:List Frag)) ([]:List Entry)) (Msg.mk 3 2 1 3 0 (Pred.mk 0 ⟨#[]⟩ 0 0 0 ([]:List Pred)) (Know.mk (V8.mk 0 0 0 0 0 0 0 0) ([]:List Frag)) ([]:List Has) 0 ([]:List Entry) false)) (fun y4 n6 =>
   some false)
    (fun y4 =>
   some false)))
   (fun y1 =>
  (bndE (take_Msg_s (State.mk 1 (Pred.mk 1 ⟨#[]⟩ 0 0 0 ([]:List Pred)) ([]:List Item) ([]:List Item) (Know.mk (V8.mk 0 0 0 0 0 0 0 0) ([]:List Frag)) 0 0 0) (Sess.mk 3 2 0 0 ([]:List Int) false false false 0 (Know.mk (V8.mk 0 0 0 0 0 0 0 0) ([]:List Frag)) ([]:List Entry)) (Msg.mk 3 2 1 3 0 (Pred.mk 0 ⟨#[]⟩ 0 0 0 ([]:List Pred)) (Know.mk (V8.mk 0 0 0 0 0 0 0 0) ([]:List Frag)) ([]:List Has) 0 ([]:List Entry) false)) (fun y7 n9 =>
   (br y1.2.over
    (br (eqI y1.2.turn 4)
     (br (eq8 y1.1.k.star (V8.mk 0 7 0 0 0 0 0 0))
      (some (eqI n9 1))
      (some false))
     (some false))
    (some false)))
    (fun y7 =>
   (br y1.2.over
    (br (eqI y1.2.turn 4)
     (br (eq8 y1.1.k.star (V8.mk 0 7 0 0 0 0 0 0))
      (some false)
      (some false))
     (some false))
    (some false))))))
def law13_rises_l1 (p0:List Int):List Int→Int→Option (Int)
  | [],v1 =>
  some 1
  | x1e::xs1,v1 =>
  (br (ltI x1e 0)
   (some 0)
   (br (ltI 40 x1e)
    (some 0)
    (br (ltI 0 v1)
     (bnd (atL p0 (wr .i64 (v1 - 1))) fun x5 =>
      (br (leI x1e x5)
       (some 0)
       (law13_rises_l1 p0 xs1 (v1 + 1) )))
     (law13_rises_l1 p0 xs1 (v1 + 1) ))))
def law13_rises_s (p0:List Int):Option (Int) :=
 (chk (smallL p0)
   ((law13_rises_l1 p0) p0 0 ))
def law13_TakeTells_s (p0:Sit) (p1:Talk) (p2:Note):Option (Bool) :=
 (bnd (law13_up_s ) fun y1 =>
  (bnd (law00_Fits_s p0) fun y3 =>
   (bnd (law00_Short_s p2) fun y5 =>
    (bnd (law00_Known_s p1.k) fun y7 =>
     (bnd (law00_Told_s p1.l) fun y9 =>
      (bnd (law00_Told_s p2.l) fun y11 =>
       (br (eqI (wr .i64 ((wr .i64 ((wr .i64 ((wr .i64 (y3 * y5)) * y7)) * y9)) * y11)) 0)
        (some y1)
        (br (ltI 60 (p1.l.length:Int))
         (some y1)
         (bnd (law13_rises_s p1.got) fun y15 =>
          (br (eqI y15 0)
           (some y1)
           (br (ltI 1000 p1.n)
            (some y1)
            (bnd (law00_State_s p0) fun y19 =>
             (bnd (ref09_May_s y19) fun y21 =>
              (br (!y21)
               (some y1)
               (bnd (law13_Sess_s p1) fun y24 =>
                (bnd (law00_Msg_s p2) fun y26 =>
                 (bndE (take_Msg_s y19 y24 y26) (fun y28 n30 =>
                  (bnd (law11_Sess_s y24) fun y31 =>
                   (bnd (ref11_Take_s y19 y31 y26) fun y33 =>
                    (bnd (ref09_Same_s y28.1 y33.1) fun y35 =>
                     (bnd (law11_Sess_s y28.2) fun y37 =>
                      (bnd (ref11_Same_s y37 y33.2.1) fun y39 =>
                       (br y1
                        (br y35
                         (br y39
                          (bnd (law00_Code_s (some n30)) fun y44 =>
                           some (eqI y44 y33.2.2))
                          (some false))
                         (some false))
                        (some false))))))))
                   (fun y28 =>
                  (bnd (law11_Sess_s y24) fun y46 =>
                   (bnd (ref11_Take_s y19 y46 y26) fun y48 =>
                    (bnd (ref09_Same_s y28.1 y48.1) fun y50 =>
                     (bnd (law11_Sess_s y28.2) fun y52 =>
                      (bnd (ref11_Same_s y52 y48.2.1) fun y54 =>
                       (br y1
                        (br y50
                         (br y54
                          (bnd (law00_Code_s none) fun y59 =>
                           some (eqI y59 y48.2.2))
                          (some false))
                         (some false))
                        (some false)))))))))))))))))))))))))
variable {X:Task→Prop} (hX:Closed X) {Q:A→List Blk→Prop}
include hX
theorem law13_Sess_c  {p0:Talk} {r:Sess} (h:law13_Sess_s p0=some r) (hQ:Q (.agg (Sess.cs r)) []):X (.call 57 [.agg [ic p0.sid,ic p0.with_,ic p0.epoch,ic p0.turn,.p (.sl (p0.got.map irw)),.p (.v (.bool p0.bad)),.p (.v (.bool p0.told)),.p (.v (.bool p0.over)),ic p0.n,ic p0.k.star.x0,ic p0.k.star.x1,ic p0.k.star.x2,ic p0.k.star.x3,ic p0.k.star.x4,ic p0.k.star.x5,ic p0.k.star.x6,ic p0.k.star.x7,.p (.sl (p0.k.l.map Frag.row)),.p (.sl (p0.l.map Line.row))]] [] Q):=by
 unfold law13_Sess_s at h
 refine call_nz hX ?_
 conv=>whnf
 refine call_intro hX Tryz.func57 rfl rfl ?_
 revert h
 refine bndk fun y1 e2 h=>?_
 conv=>whnf
 repeat((first|refine dw ?_);conv=>whnf)
 refine law00_Entries_c hX e2 ?_
 conv=>whnf
 repeat((first|refine dw ?_);conv=>whnf)
 exact ret_some (f:=fun y=>.agg (Sess.cs y)) (g:=fun y=>[]) h hQ
theorem law13_up_c  {r:Bool} (h:law13_up_s  = some r) (hQ:Q (.one (.p (.v (.bool r)))) []):X (.call 53 [] [] Q):=by
  have K:=fun a (e:some a=some r)=>ret_some (f:=fun y=>.one (.p (.v (.bool y)))) (g:=fun y=>[]) e hQ
  unfold law13_up_s at h
  refine call_intro hX Tryz.func53 rfl rfl ?_
  revert h
  refine bndEk (fun y1 n3 e2 h=>?_) (fun y1 e2 h=>?_)
  ·conv=>whnf
   repeat((first|refine dw ?_);conv=>whnf)
   refine call_nz hX ?_
   conv=>whnf
   refine take_Msg_c hX e2 ?_
   revert h
   refine bndEk (fun y4 n6 e5 h=>?_) (fun y4 e5 h=>?_)
   ·conv=>whnf
    repeat((first|refine dw ?_);conv=>whnf)
    refine call_nz hX ?_
    conv=>whnf
    refine take_Msg_c hX e5 ?_
    conv=>whnf
    repeat((first|refine dw ?_);conv=>whnf)
    exact K _ h
   ·conv=>whnf
    repeat((first|refine dw ?_);conv=>whnf)
    refine call_nz hX ?_
    conv=>whnf
    refine take_Msg_c hX e5 ?_
    conv=>whnf
    repeat((first|refine dw ?_);conv=>whnf)
    exact K _ h
  ·conv=>whnf
   repeat((first|refine dw ?_);conv=>whnf)
   refine call_nz hX ?_
   conv=>whnf
   refine take_Msg_c hX e2 ?_
   revert h
   refine bndEk (fun y7 n9 e8 h=>?_) (fun y7 e8 h=>?_)
   ·conv=>whnf
    repeat((first|refine dw ?_);conv=>whnf)
    refine call_nz hX ?_
    conv=>whnf
    refine take_Msg_c hX e8 ?_
    conv=>whnf
    repeat((first|refine dw ?_);conv=>whnf)
    revert h
    refine brk (fun c10 h=>?_) (fun c10 h=>?_)
    ·conv=>whnf
     repeat((first|refine dw ?_|refine bct c10 ?_);conv=>whnf)
     revert h
     refine brk (fun c11 h=>?_) (fun c11 h=>?_)
     ·conv=>whnf
      repeat((first|refine dw ?_|refine bct c11 ?_);conv=>whnf)
      revert h
      refine brk (fun c12 h=>?_) (fun c12 h=>?_)
      ·conv=>whnf
       repeat((first|refine dw ?_|with_reducible refine bct (eq8_b c12) ?_|refine bct c12 ?_);conv=>whnf)
       exact K _ h
      ·conv=>whnf
       repeat((first|refine dw ?_|with_reducible refine bcf (eq8_b c12) ?_|refine bcf c12 ?_);conv=>whnf)
       exact K _ h
     ·conv=>whnf
      repeat((first|refine dw ?_|refine bcf c11 ?_);conv=>whnf)
      exact K _ h
    ·conv=>whnf
     repeat((first|refine dw ?_|refine bcf c10 ?_);conv=>whnf)
     exact K _ h
   ·conv=>whnf
    repeat((first|refine dw ?_);conv=>whnf)
    refine call_nz hX ?_
    conv=>whnf
    refine take_Msg_c hX e8 ?_
    conv=>whnf
    repeat((first|refine dw ?_);conv=>whnf)
    revert h
    refine brk (fun c13 h=>?_) (fun c13 h=>?_)
    ·conv=>whnf
     repeat((first|refine dw ?_|refine bct c13 ?_);conv=>whnf)
     revert h
     refine brk (fun c14 h=>?_) (fun c14 h=>?_)
     ·conv=>whnf
      repeat((first|refine dw ?_|refine bct c14 ?_);conv=>whnf)
      revert h
      refine brk (fun c15 h=>?_) (fun c15 h=>?_)
      ·conv=>whnf
       repeat((first|refine dw ?_|with_reducible refine bct (eq8_b c15) ?_|refine bct c15 ?_);conv=>whnf)
       exact K _ h
      ·conv=>whnf
       repeat((first|refine dw ?_|with_reducible refine bcf (eq8_b c15) ?_|refine bcf c15 ?_);conv=>whnf)
       exact K _ h
     ·conv=>whnf
      repeat((first|refine dw ?_|refine bcf c14 ?_);conv=>whnf)
      exact K _ h
    ·conv=>whnf
     repeat((first|refine dw ?_|refine bcf c13 ?_);conv=>whnf)
     exact K _ h
theorem law13_rises_c  {p0:List Int} {r:Int} (h:law13_rises_s p0=some r) (hQ:Q (iv r) []):X (.call 56 [.one (.p (.sl (p0.map irw)))] [] Q):=by
  have K:=fun a (e:some a=some r)=>ret_some (f:=fun y=>iv y) (g:=fun y=>[]) e hQ
  unfold law13_rises_s at h
  refine call_intro hX Tryz.func56 rfl rfl ?_
  revert h
  refine chkk fun hs1 h=>?_
  conv=>whnf
  repeat((first|refine dw ?_);conv=>whnf)
  refine loop_list0 (fun (v1:Int)=>pad [(0,.one (.p (.sl (p0.map irw)))),(2,iv v1)] 34) (fun (v1:Int)=>[]) _ p0 (fun pre1 x1e xs1 v1  hl1 hi1 h ih1=>?_) (fun v1  hi1 h=>?_)  h
  ·rw [law13_rises_l1] at h
   have am1:=at_mid hl1 hi1
   refine loop_intro hX ?_
   conv=>whnf
   repeat((first|refine dw ?_|refine eqv_to (map_len _) ?_|refine bct (lt_mid hl1 hi1) ?_|refine bct (at_in am1) ?_|refine bct (andt (at_in am1) rfl) ?_|refine row_in (at_row am1) ?_|refine bct (andt (at_in (at_nat am1)) rfl) ?_|refine row_in (at_row (at_nat am1)) ?_);conv=>whnf)
   revert h
   refine brk (fun c2 h=>?_) (fun c2 h=>?_)
   ·conv=>whnf
    repeat((first|refine dw ?_|refine bct c2 ?_);conv=>whnf)
    exact K _ h
   ·conv=>whnf
    repeat((first|refine dw ?_|refine bcf c2 ?_|refine bct (at_in am1) ?_|refine bct (andt (at_in am1) rfl) ?_|refine row_in (at_row am1) ?_|refine bct (andt (at_in (at_nat am1)) rfl) ?_|refine row_in (at_row (at_nat am1)) ?_);conv=>whnf)
    revert h
    refine brk (fun c3 h=>?_) (fun c3 h=>?_)
    ·conv=>whnf
     repeat((first|refine dw ?_|refine bct c3 ?_);conv=>whnf)
     exact K _ h
    ·conv=>whnf
     repeat((first|refine dw ?_|refine bcf c3 ?_);conv=>whnf)
     revert h
     refine brk (fun c4 h=>?_) (fun c4 h=>?_)
     ·revert h
      refine bndk fun x5 a6 h=>?_
      conv=>whnf
      repeat((first|refine dw ?_|refine bct c4 ?_|refine bct (at_in am1) ?_|refine bct (andt (at_in am1) rfl) ?_|refine row_in (at_row am1) ?_|refine bct (andt (at_in (at_nat am1)) rfl) ?_|refine row_in (at_row (at_nat am1)) ?_|refine bct (at_in a6) ?_|refine bct (andt (at_in a6) rfl) ?_|refine row_in (at_row a6) ?_|refine bct (andt (at_in (at_nat a6)) rfl) ?_|refine row_in (at_row (at_nat a6)) ?_|refine bcf c3 ?_);conv=>whnf)
      revert h
      refine brk (fun c7 h=>?_) (fun c7 h=>?_)
      ·conv=>whnf
       repeat((first|refine dw ?_|refine bct c7 ?_);conv=>whnf)
       exact K _ h
      ·conv=>whnf
       repeat((first|refine dw ?_|refine bcf c7 ?_);conv=>whnf)
       exact ih1 _  (wrL hs1 hl1 hi1) h
     ·conv=>whnf
      repeat((first|refine dw ?_|refine bcf c4 ?_|refine bcf c3 ?_);conv=>whnf)
      exact ih1 _  (wrL hs1 hl1 hi1) h
  ·rw [law13_rises_l1] at h
   refine loop_intro hX ?_
   conv=>whnf
   repeat((first|refine dw ?_|refine eqv_to (map_len _) ?_|refine bcf (lt_end hi1) ?_);conv=>whnf)
   exact K _ h
theorem law13_TakeTells_c  {p0:Sit} {p1:Talk} {p2:Note} {r:Bool} (h:law13_TakeTells_s p0 p1 p2=some r) (hQ:Q (.one (.p (.v (.bool r)))) []):X (.call 10 [.agg [ic p0.r,ic p0.f.op,.p (.v (.string p0.f.text)),ic p0.f.n,.p (.v (.float .f64 p0.f.re)),.p (.v (.float .f64 p0.f.im)),.p (.sl (Pred.lrows p0.f.kids)),.p (.sl (p0.store.map Item.lrow)),.p (.sl (p0.out.map Item.lrow)),ic p0.k.star.x0,ic p0.k.star.x1,ic p0.k.star.x2,ic p0.k.star.x3,ic p0.k.star.x4,ic p0.k.star.x5,ic p0.k.star.x6,ic p0.k.star.x7,.p (.sl (p0.k.l.map Frag.row)),ic p0.count,ic p0.clock,ic p0.epoch],.agg [ic p1.sid,ic p1.with_,ic p1.epoch,ic p1.turn,.p (.sl (p1.got.map irw)),.p (.v (.bool p1.bad)),.p (.v (.bool p1.told)),.p (.v (.bool p1.over)),ic p1.n,ic p1.k.star.x0,ic p1.k.star.x1,ic p1.k.star.x2,ic p1.k.star.x3,ic p1.k.star.x4,ic p1.k.star.x5,ic p1.k.star.x6,ic p1.k.star.x7,.p (.sl (p1.k.l.map Frag.row)),.p (.sl (p1.l.map Line.row))],.agg [ic p2.kind,ic p2.src,ic p2.dst,ic p2.sid,ic p2.turn,ic p2.f.op,.p (.v (.string p2.f.text)),ic p2.f.n,.p (.v (.float .f64 p2.f.re)),.p (.v (.float .f64 p2.f.im)),.p (.sl (Pred.lrows p2.f.kids)),ic p2.k.star.x0,ic p2.k.star.x1,ic p2.k.star.x2,ic p2.k.star.x3,ic p2.k.star.x4,ic p2.k.star.x5,ic p2.k.star.x6,ic p2.k.star.x7,.p (.sl (p2.k.l.map Frag.row)),.p (.sl (p2.have_.map Has.row)),ic p2.n,.p (.sl (p2.l.map Line.row)),.p (.v (.bool p2.star))]] [] Q):=by
  have K:=fun a (e:some a=some r)=>ret_some (f:=fun y=>.one (.p (.v (.bool y)))) (g:=fun y=>[]) e hQ
  unfold law13_TakeTells_s at h
  refine call_intro hX Tryz.func10 rfl rfl ?_
  revert h
  refine bndk fun y1 e2 h=>?_
  conv=>whnf
  repeat((first|refine dw ?_);conv=>whnf)
  refine law13_up_c hX e2 ?_
  revert h
  refine bndk fun y3 e4 h=>?_
  conv=>whnf
  repeat((first|refine dw ?_);conv=>whnf)
  refine law00_Fits_c hX e4 ?_
  revert h
  refine bndk fun y5 e6 h=>?_
  conv=>whnf
  repeat((first|refine dw ?_);conv=>whnf)
  refine law00_Short_c hX e6 ?_
  revert h
  refine bndk fun y7 e8 h=>?_
  conv=>whnf
  repeat((first|refine dw ?_);conv=>whnf)
  refine law00_Known_c hX e8 ?_
  revert h
  refine bndk fun y9 e10 h=>?_
  conv=>whnf
  repeat((first|refine dw ?_);conv=>whnf)
  refine law00_Told_c hX e10 ?_
  revert h
  refine bndk fun y11 e12 h=>?_
  conv=>whnf
  repeat((first|refine dw ?_);conv=>whnf)
  refine law00_Told_c hX e12 ?_
  conv=>whnf
  repeat((first|refine dw ?_);conv=>whnf)
  revert h
  refine brk (fun c13 h=>?_) (fun c13 h=>?_)
  ·conv=>whnf
   repeat((first|refine dw ?_|refine bct c13 ?_);conv=>whnf)
   exact K _ h
  ·conv=>whnf
   repeat((first|refine dw ?_|refine bcf c13 ?_|refine eqv_to (map_len _) ?_);conv=>whnf)
   revert h
   refine brk (fun c14 h=>?_) (fun c14 h=>?_)
   ·conv=>whnf
    repeat((first|refine dw ?_|refine bct c14 ?_);conv=>whnf)
    exact K _ h
   ·revert h
    refine bndk fun y15 e16 h=>?_
    conv=>whnf
    repeat((first|refine dw ?_|refine bcf c14 ?_);conv=>whnf)
    refine law13_rises_c hX e16 ?_
    conv=>whnf
    repeat((first|refine dw ?_|refine bcf c14 ?_);conv=>whnf)
    revert h
    refine brk (fun c17 h=>?_) (fun c17 h=>?_)
    ·conv=>whnf
     repeat((first|refine dw ?_|refine bct c17 ?_);conv=>whnf)
     exact K _ h
    ·conv=>whnf
     repeat((first|refine dw ?_|refine bcf c17 ?_);conv=>whnf)
     revert h
     refine brk (fun c18 h=>?_) (fun c18 h=>?_)
     ·conv=>whnf
      repeat((first|refine dw ?_|refine bct c18 ?_);conv=>whnf)
      exact K _ h
     ·revert h
      refine bndk fun y19 e20 h=>?_
      conv=>whnf
      repeat((first|refine dw ?_|refine bcf c18 ?_);conv=>whnf)
      refine law00_State_c hX e20 ?_
      revert h
      refine bndk fun y21 e22 h=>?_
      conv=>whnf
      repeat((first|refine dw ?_);conv=>whnf)
      refine ref09_May_c hX e22 ?_
      conv=>whnf
      repeat((first|refine dw ?_);conv=>whnf)
      revert h
      refine brk (fun c23 h=>?_) (fun c23 h=>?_)
      ·conv=>whnf
       repeat((first|refine dw ?_|refine bct c23 ?_);conv=>whnf)
       exact K _ h
      ·revert h
       refine bndk fun y24 e25 h=>?_
       conv=>whnf
       repeat((first|refine dw ?_|refine bcf c23 ?_);conv=>whnf)
       refine law13_Sess_c hX e25 ?_
       revert h
       refine bndk fun y26 e27 h=>?_
       conv=>whnf
       repeat((first|refine dw ?_);conv=>whnf)
       refine law00_Msg_c hX e27 ?_
       revert h
       refine bndEk (fun y28 n30 e29 h=>?_) (fun y28 e29 h=>?_)
       ·conv=>whnf
        repeat((first|refine dw ?_);conv=>whnf)
        refine take_Msg_c hX e29 ?_
        revert h
        refine bndk fun y31 e32 h=>?_
        conv=>whnf
        repeat((first|refine dw ?_);conv=>whnf)
        refine law11_Sess_c hX e32 ?_
        revert h
        refine bndk fun y33 e34 h=>?_
        conv=>whnf
        repeat((first|refine dw ?_);conv=>whnf)
        refine ref11_Take_c hX e34 ?_
        revert h
        refine bndk fun y35 e36 h=>?_
        conv=>whnf
        repeat((first|refine dw ?_);conv=>whnf)
        refine ref09_Same_c hX e36 ?_
        revert h
        refine bndk fun y37 e38 h=>?_
        conv=>whnf
        repeat((first|refine dw ?_);conv=>whnf)
        refine law11_Sess_c hX e38 ?_
        revert h
        refine bndk fun y39 e40 h=>?_
        conv=>whnf
        repeat((first|refine dw ?_);conv=>whnf)
        refine ref11_Same_c hX e40 ?_
        conv=>whnf
        repeat((first|refine dw ?_);conv=>whnf)
        revert h
        refine brk (fun c41 h=>?_) (fun c41 h=>?_)
        ·conv=>whnf
         repeat((first|refine dw ?_|refine bct c41 ?_);conv=>whnf)
         revert h
         refine brk (fun c42 h=>?_) (fun c42 h=>?_)
         ·conv=>whnf
          repeat((first|refine dw ?_|refine bct c42 ?_);conv=>whnf)
          revert h
          refine brk (fun c43 h=>?_) (fun c43 h=>?_)
          ·revert h
           refine bndk fun y44 e45 h=>?_
           conv=>whnf
           repeat((first|refine dw ?_|refine bct c43 ?_);conv=>whnf)
           refine law00_Code_c hX e45 ?_
           conv=>whnf
           repeat((first|refine dw ?_|refine bct c43 ?_);conv=>whnf)
           exact K _ h
          ·conv=>whnf
           repeat((first|refine dw ?_|refine bcf c43 ?_);conv=>whnf)
           exact K _ h
         ·conv=>whnf
          repeat((first|refine dw ?_|refine bcf c42 ?_);conv=>whnf)
          exact K _ h
        ·conv=>whnf
         repeat((first|refine dw ?_|refine bcf c41 ?_);conv=>whnf)
         exact K _ h
       ·conv=>whnf
        repeat((first|refine dw ?_);conv=>whnf)
        refine take_Msg_c hX e29 ?_
        revert h
        refine bndk fun y46 e47 h=>?_
        conv=>whnf
        repeat((first|refine dw ?_);conv=>whnf)
        refine law11_Sess_c hX e47 ?_
        revert h
        refine bndk fun y48 e49 h=>?_
        conv=>whnf
        repeat((first|refine dw ?_);conv=>whnf)
        refine ref11_Take_c hX e49 ?_
        revert h
        refine bndk fun y50 e51 h=>?_
        conv=>whnf
        repeat((first|refine dw ?_);conv=>whnf)
        refine ref09_Same_c hX e51 ?_
        revert h
        refine bndk fun y52 e53 h=>?_
        conv=>whnf
        repeat((first|refine dw ?_);conv=>whnf)
        refine law11_Sess_c hX e53 ?_
        revert h
        refine bndk fun y54 e55 h=>?_
        conv=>whnf
        repeat((first|refine dw ?_);conv=>whnf)
        refine ref11_Same_c hX e55 ?_
        conv=>whnf
        repeat((first|refine dw ?_);conv=>whnf)
        revert h
        refine brk (fun c56 h=>?_) (fun c56 h=>?_)
        ·conv=>whnf
         repeat((first|refine dw ?_|refine bct c56 ?_);conv=>whnf)
         revert h
         refine brk (fun c57 h=>?_) (fun c57 h=>?_)
         ·conv=>whnf
          repeat((first|refine dw ?_|refine bct c57 ?_);conv=>whnf)
          revert h
          refine brk (fun c58 h=>?_) (fun c58 h=>?_)
          ·revert h
           refine bndk fun y59 e60 h=>?_
           conv=>whnf
           repeat((first|refine dw ?_|refine bct c58 ?_);conv=>whnf)
           refine law00_Code_c hX e60 ?_
           conv=>whnf
           repeat((first|refine dw ?_|refine bct c58 ?_);conv=>whnf)
           exact K _ h
          ·conv=>whnf
           repeat((first|refine dw ?_|refine bcf c58 ?_);conv=>whnf)
           exact K _ h
         ·conv=>whnf
          repeat((first|refine dw ?_|refine bcf c57 ?_);conv=>whnf)
          exact K _ h
        ·conv=>whnf
         repeat((first|refine dw ?_|refine bcf c56 ?_);conv=>whnf)
         exact K _ h
end
end Go.Proofs.YtidkmoohgadjkaaGreat
namespace Go.Proofs.YtidkmoohgadjkaaGreat
open Go E Pred
noncomputable section
open Classical
def GotOk (l:List Int):Prop:=RisI l∧∀ x∈l,0≤x∧x≤40
theorem risI_len:∀ {l:List Int} {a b:Int},RisI l→(∀ x∈l,a≤x∧x≤b)→(l.length:Int)≤b - a + 1∨l=[]
 | [],_,_,_,_=>.inr rfl
 | x::l,a,b,h,hx=>by
  obtain ⟨h1,h2⟩:=risI_cons.1 h
  have hb:=hx x (List.mem_cons_self ..)
  left
  rw [List.length_cons]
  rcases risI_len (a:=x + 1) (b:=b) h2 fun y hy=>⟨by have:=h1 y hy; omega,(hx y (List.mem_cons_of_mem _ hy)).2⟩ with h3 | rfl
  ·omega
  ·rw [List.length_nil]; omega
theorem got_len {l:List Int} (h:GotOk l):l.length≤41:=by
 rcases risI_len h.1 h.2 with h1 | rfl
 ·omega
 ·exact Nat.zero_le _
theorem rises_lI {L:List Int} (hn:L.length≤9223372036854775807):∀ (xs pre:List Int) (o:Option Int),L=pre++xs→(o=none∧pre=[]∨∃ pre' p,pre=pre'++[p]∧o=some p) →
  ∃ b,law13_rises_l1 L xs (pre.length:Int)=some b∧(b=0∨(b=1∧GotOk xs∧∀ p,o=some p→∀ x∈xs,p < x))
 | [],pre,o,_,_=>⟨1,by rw [law13_rises_l1],.inr ⟨rfl,⟨.nil,fun x hx=>(by cases hx)⟩,fun p _ x hx=>by cases hx⟩⟩
 | x::xs,pre,o,h,ho=>by
  obtain ⟨b,hb,h2⟩:=rises_lI hn xs (pre++[x]) (some x) (by rw [h]; simp) (.inr ⟨pre,x,rfl,rfl⟩)
  rw [List.length_append] at hb
  have hb':law13_rises_l1 L xs ((pre.length:Int) + 1)=some b:=hb
  have hlen:pre.length + 1≤9223372036854775807:=by rw [h,List.length_append,List.length_cons] at hn; omega
  rw [law13_rises_l1,hb']
  by_cases c1:x < 0
  ·exact ⟨0,by rw [br_t (ltI_t.2 c1)],.inl rfl⟩
  ·rw [br_f (ltI_f.2 (by omega))]
   by_cases c2:40 < x
   ·exact ⟨0,by rw [br_t (ltI_t.2 c2)],.inl rfl⟩
   ·rw [br_f (ltI_f.2 (by omega))]
    have good:(∀ p,o=some p→p < x)→b=0∨(b=1∧GotOk (x::xs)∧∀ p,o=some p→∀ y∈x::xs,p < y):=fun hp=>by
     rcases h2 with h2 | ⟨h2,h3,h4⟩
     ·exact .inl h2
     ·refine .inr ⟨h2,⟨risI_cons.2 ⟨h4 x rfl,h3.1⟩,fun y hy=>?_⟩,fun p hpo y hy=>?_⟩
      ·rcases List.mem_cons.1 hy with rfl | hy
       ·omega
       ·exact h3.2 y hy
      ·have h5:=hp p hpo
       rcases List.mem_cons.1 hy with rfl | hy
       ·exact h5
       ·have:=h4 x rfl y hy; omega
    rcases ho with ⟨rfl,rfl⟩ | ⟨pre',p,rfl,rfl⟩
    ·exact ⟨b,by rw [br_f (by rfl)],good fun p hp=>by cases hp⟩
    ·rw [List.length_append,List.length_singleton] at hlen
     have ea:atL L (wr .i64 (((pre'++[p]).length:Int) - 1))=some p:=by
      rw [List.length_append,show ((pre'.length + [p].length:Nat):Int) - 1=(pre'.length:Int) by simp,wr64 (by omega) (by omega),h,List.append_assoc]
      exact at_app pre' p ([]++x::xs)
     rw [br_t (ltI_t.2 (by rw [List.length_append]; simp):ltI 0 (((pre'++[p]).length:Nat):Int)=true),bnd_of ea]
     by_cases c3:x≤p
     ·exact ⟨0,by rw [br_t (leI_t.2 c3)],.inl rfl⟩
     ·exact ⟨b,by rw [br_f (leI_f.2 (by omega))],good fun q hq=>by injection hq with hq; omega⟩
theorem rises_sI {l:List Int} (hn:l.length≤9223372036854775807):∃ b,law13_rises_s l=some b∧(b=0∨(b=1∧GotOk l)):=by
 obtain ⟨b,hb,h⟩:=rises_lI hn l [] none rfl (.inl ⟨rfl,rfl⟩)
 exact ⟨b,by unfold law13_rises_s; rw [chk_t (smallM_of hn)]; exact hb,h.imp id fun h=>⟨h.1,h.2.1⟩⟩
theorem told_lI:∀ l:List Line,∃ b,law00_Told_l1 l=some b∧(b=0∨(b=1∧∀ x∈l,realI x.item))
 | []=>⟨1,by rw [law00_Told_l1],.inr ⟨rfl,fun x hx=>by cases hx⟩⟩
 | x::l=>by
  obtain ⟨b,hb,h⟩:=told_lI l
  obtain ⟨r,hr,h2⟩:=real_s (l:=[x.item]) (by simp)
  rw [law00_Told_l1,bnd_of hr,hb]
  rcases h2 with rfl | ⟨rfl,h2⟩
  ·exact ⟨0,rfl,.inl rfl⟩
  ·refine ⟨b,rfl,h.imp id fun ⟨h3,h4⟩=>⟨h3,fun y hy=>?_⟩⟩
   rcases List.mem_cons.1 hy with rfl | hy
   ·exact h2 _ (List.mem_cons_self ..)
   ·exact h4 y hy
theorem told_sI {l:List Line} (hn:l.length≤9223372036854775807):∃ b,law00_Told_s l=some b∧(b=0∨(b=1∧∀ x∈l,realI x.item)):=by
 unfold law00_Told_s
 rw [chk_t (smallM_of hn)]
 exact told_lI l
theorem sess_l {x:Sess} {N:Nat} (hN:N≤1000000000) (hk:KB x.k N) (hl:x.l.length≤1000000000) (hr:RealE x.l):∀ (xs pre:List Int),x.got=pre++xs→ref11_Same_l1 x x xs (pre.length:Int)=some true
 | [],pre,_=>by rw [ref11_Same_l1,bnd_of (alike_s hN hk),alikeK_refl,bnd_of (sameEnts_s hl hr)]; rfl
 | y::xs,pre,h=>by
  have ih:=sess_l hN hk hl hr xs (pre++[y]) (by rw [h]; simp)
  rw [List.length_append] at ih
  rw [ref11_Same_l1,bnd_of (show atL x.got (pre.length:Int)=some y by rw [h]; exact at_app pre y xs),eqI_self]
  exact ih
theorem sess_s {x:Sess} {N:Nat} (hN:N≤1000000000) (hk:KB x.k N) (hl:x.l.length≤1000000000) (hg:x.got.length≤1000000000) (hr:RealE x.l):ref11_Same_s x x=some true:=by
 have hb:∀ b:Bool,(@Bool.rec (fun _=>Bool) b (!b) b)=false:=fun b=>by cases b<;>rfl
 unfold ref11_Same_s
 rw [eqI_self,eqI_self,eqI_self,eqI_self,eqI_self,eqI_self,hb,hb,hb,chk_t (smallL_of hg)]
 exact sess_l hN hk hl hr x.got [] rfl
structure SessG (x:Sess) (M:Nat):Prop where
 b:SessB x M
 g:GotOk x.got
 r:RealE x.l
theorem SessG.same {x:Sess} {M:Nat} (h:SessG x M) (hM:M≤600000):ref11_Same_s x x=some true:=sess_s (N:=M) (by omega) h.b.k.kb (by have:=h.b.l; omega) (by have:=got_len h.g; omega) h.r
theorem foldT_f:∀ (l:List Entry) (y:State × Bool),(l.foldl stepT y).1.f=y.1.f∧(l.foldl stepT y).1.r=y.1.r
 | [],y=>⟨rfl,rfl⟩
 | e::l,y=>by
  rw [List.foldl_cons]
  have h:=foldT_f l (stepT y e)
  have h1:(stepT y e).1.f=y.1.f∧(stepT y e).1.r=y.1.r:=by
   unfold stepT
   split
   ·exact ⟨goes_f .., goes_r ..⟩
   ·split
    ·exact ⟨item_f .., item_r ..⟩
    ·exact ⟨rfl,rfl⟩
  exact ⟨h.1.trans h1.1,h.2.trans h1.2⟩
theorem goesT_f:∀ (l:List Entry) (s:State),(l.foldl goesT s).f=s.f∧(l.foldl goesT s).r=s.r
 | [],s=>⟨rfl,rfl⟩
 | e::l,s=>by
  rw [List.foldl_cons]
  have h:=goesT_f l (goesT s e)
  exact ⟨h.1.trans (goes_f ..),h.2.trans (goes_r ..)⟩
theorem end_ok {s:State} {x:Sess} {N M:Nat} (h:SOk s N) (hx:SessG x M):SOk (endV s x).1 (N + 60 + if (endV s x).2.over=true∧x.over=false then M else 0)∧(endV s x).1.f=s.f∧(endV s x).1.r=s.r∧SessG (endV s x).2 M∧(x.over=true→(endV s x).2.over=true)∨x.over=true:=by
 cases hov:x.over with
 | true=>exact .inr rfl
 | false =>
  left
  have hl:=hx.b.l
  unfold endV
  split
  ·have hg:=ok_goesT x.l h hx.b.e
   have hf:=goesT_f x.l s
   refine ⟨?_,hf.1,hf.2,⟨⟨hx.b.k,hx.b.ids,hx.b.r,hx.b.gl,hx.b.n,hx.b.l,hx.b.e⟩,hx.g,hx.r⟩,fun _=>rfl⟩
   rw [if_pos ⟨rfl,rfl⟩]
   have hg2:=hg.mono (M:=N + 60) (by omega)
   exact ⟨hg2.f,hg2.fs,hg2.rs,hg2.ro,hg2.le,hg2.dj,hg2.is,hg2.io,kt_joinK hg2.kt hx.b.k,ids_joinK hg2.ids hx.b.ids,hg2.cn,hg2.cl,hg2.ep⟩
  ·rw [if_neg (by rw [hov]; simp)]
   exact ⟨h.mono (by omega),rfl,rfl,hx,fun h=>by cases h⟩
theorem take_over {s:State} {x:Sess} {m:Msg} (h:x.over=true):(takeV s x m).1=s∧(takeV s x m).2.1=x:=by
 have:refV s x m≠0:=by
  unfold refV
  rw [h]
  split
  ·simp
  ·simp
 unfold takeV
 rw [if_pos this]
 exact ⟨rfl,rfl⟩
theorem take_ok {s:State} {x:Sess} {m:Msg} {N M:Nat} (h:SOk s N) (hx:SessG x M) (hov:x.over=false) (hm:AnsB m M) (hr:RealE m.l) :
  SOk (takeV s x m).1 (N + 120 + if (takeV s x m).2.1.over=true then M else 0)∧(takeV s x m).1.f=s.f∧(takeV s x m).1.r=s.r∧SessG (takeV s x m).2.1 M:=by
 have hgl:=got_len hx.g
 have hml:=hm.l
 by_cases h0:refV s x m=0
 ·have hmn:0≤m.n∧m.n≤40:=by
   have h0:=h0
   unfold refV at h0
   split at h0
   ·cases h0
   ·split at h0
    ·cases h0
    ·split at h0
     ·cases h0
     ·rename_i h3
      have h3:rightB s m=true:=by simpa using h3
      unfold rightB at h3
      rw [Bool.and_eq_true,inN_iff] at h3
      exact h3.1
  have fin:∀ (t:State) (y:Sess),SOk t (N + 60)→t.f=s.f→t.r=s.r→SessG y M→y.over=false→SOk (endV t y).1 (N + 120 + if (endV t y).2.over=true then M else 0)∧(endV t y).1.f=s.f∧(endV t y).1.r=s.r∧SessG (endV t y).2 M:=fun t y ht hf hr' hy ho=>by
   rcases end_ok ht hy with ⟨e1,e2,e3,e4, -⟩ | e
   ·refine ⟨e1.mono ?_,e2.trans hf,e3.trans hr',e4⟩
    rw [ho]
    split<;>split<;>simp_all
   ·rw [ho] at e; cases e
  unfold takeV
  rw [if_neg (by rw [h0]; simp)]
  split
  ·have hf:=foldT_f m.l (s,x.bad)
   have hw:=withI_len x.got m.n
   refine fin _ _ ((ok_fold m.l (y:=(s,x.bad)) h hm.e).mono (by omega)) hf.1 hf.2 ⟨⟨hx.b.k,hx.b.ids,withI_ris hx.b.r _,by show (withI x.got m.n).length≤_; omega,hx.b.n,hx.b.l,hx.b.e⟩,⟨withI_ris hx.b.r _,fun y hy=>?_⟩,hx.r⟩ hov
   rcases withI_mem hy with rfl | hy
   ·exact hmn
   ·exact hx.g.2 y hy
  ·split
   ·exact fin _ _ (h.mono (by omega)) rfl rfl ⟨⟨hx.b.k,hx.b.ids,hx.b.r,hx.b.gl,hx.b.n,hx.b.l,hx.b.e⟩,hx.g,hx.r⟩ hov
   ·exact fin _ _ (h.mono (by omega)) rfl rfl ⟨⟨hm.k,hm.ids,hx.b.r,hx.b.gl,by show m.n≤1000; omega,hm.l,hm.e⟩,hx.g,hr⟩ hov
 ·unfold takeV
  rw [if_pos h0]
  exact ⟨h.mono (by omega),rfl,rfl,hx⟩
theorem take_err (s:State) (x:Sess) (m:Msg):0≤(takeV s x m).2.2∧(takeV s x m).2.2≤10:=by
 unfold takeV
 split
 ·rcases refV_of (s:=s) (x:=x) (m:=m) with h | h | h<;>rw [h]<;>exact ⟨by simp,by simp⟩
 ·split
  ·exact ⟨by simp,by simp⟩
  ·split<;>exact ⟨by simp,by simp⟩
def st13:State:=⟨1,star1,[],[],⟨zero8,[]⟩,0,0,0⟩
def ss13:Sess:=⟨3,2,0,0,[],false,false,false,0,⟨zero8,[]⟩,[]⟩
def ms13 (turn:Int) (k:Know):Msg:=⟨3,2,1,3,turn,.mk 0 ⟨#[]⟩ 0 0 0 [],k,[],0,[],false⟩
def kn13:Know:=⟨⟨0,7,0,0,0,0,0,0⟩,[]⟩
theorem ss13_b:SessB ss13 0:=⟨⟨Nat.le_refl _,Nat.le_refl _⟩,fun f hf=>(by cases hf),.nil,by show 0≤400; decide,by show (0:Int)≤1000; decide,by show 0≤60; decide,fun e he=>by cases he⟩
theorem ms13_b (turn:Int) (s:V8):AnsB (ms13 turn ⟨s,[]⟩) 0:=⟨⟨Nat.le_refl _,Nat.le_refl _⟩,fun f hf=>(by cases hf),by show 0≤60; decide,fun e he=>by cases he⟩
theorem up13:law13_up_s=some true:=by
 have hs:SOk st13 0:=sok_new (r:=1) star_ok star_size
 have e1:=take_s (m:=ms13 4 kn13) hs (by decide) (by decide) ⟨by decide,by decide⟩ ss13_b (by show 0≤100; decide) (ms13_b 4 _)
 have e2:=take_s (m:=ms13 0 ⟨zero8,[]⟩) hs (by decide) (by decide) ⟨by decide,by decide⟩ ss13_b (by show 0≤100; decide) (ms13_b 0 _)
 have r1:refV st13 ss13 (ms13 4 kn13)=0:=by kernel_rfl
 have r2:refV st13 ss13 (ms13 0 ⟨zero8,[]⟩)=1:=by kernel_rfl
 have c0:cameB [] 0=true:=decide_eq_true fun i h1 h2=>by omega
 have v1:takeV st13 ss13 (ms13 4 kn13)=((⟨1,star1,[],[],joinK ⟨zero8,[]⟩ kn13,0,0,0⟩,⟨3,2,0,4,[],false,true,true,0,kn13,[]⟩,0):State × Sess × Int):=by
  unfold takeV
  rw [r1,if_neg (by simp),if_neg (by show ¬ eqI 3 2=true; decide),if_neg (by show ¬ false=true; simp)]
  have:endV st13 ⟨ss13.sid,ss13.with_,ss13.epoch,(ms13 4 kn13).turn,ss13.got,ss13.bad,true,ss13.over,(ms13 4 kn13).n,(ms13 4 kn13).k,(ms13 4 kn13).l⟩=(⟨1,star1,[],[],joinK ⟨zero8,[]⟩ kn13,0,0,0⟩,⟨3,2,0,4,[],false,true,true,0,kn13,[]⟩):=by
   unfold endV
   rw [if_pos (by show (true&&(!false&&cameB [] 0))=true; rw [c0]; rfl)]; rfl
  rw [this]
 have v2:(takeV st13 ss13 (ms13 0 ⟨zero8,[]⟩)).2.2=1:=by unfold takeV; rw [r2,if_pos (by simp)]
 rw [v1] at e1
 rw [v2] at e2
 have e1':take_Msg_s (State.mk 1 (Pred.mk 1 ⟨#[]⟩ 0 0 0 ([]:List Pred)) ([]:List Item) ([]:List Item) (Know.mk (V8.mk 0 0 0 0 0 0 0 0) ([]:List Frag)) 0 0 0) (Sess.mk 3 2 0 0 ([]:List Int) false false false 0 (Know.mk (V8.mk 0 0 0 0 0 0 0 0) ([]:List Frag)) ([]:List Entry)) (Msg.mk 3 2 1 3 4 (Pred.mk 0 ⟨#[]⟩ 0 0 0 ([]:List Pred)) (Know.mk (V8.mk 0 7 0 0 0 0 0 0) ([]:List Frag)) ([]:List Has) 0 ([]:List Entry) false)=_:=e1
 have e2':take_Msg_s (State.mk 1 (Pred.mk 1 ⟨#[]⟩ 0 0 0 ([]:List Pred)) ([]:List Item) ([]:List Item) (Know.mk (V8.mk 0 0 0 0 0 0 0 0) ([]:List Frag)) 0 0 0) (Sess.mk 3 2 0 0 ([]:List Int) false false false 0 (Know.mk (V8.mk 0 0 0 0 0 0 0 0) ([]:List Frag)) ([]:List Entry)) (Msg.mk 3 2 1 3 0 (Pred.mk 0 ⟨#[]⟩ 0 0 0 ([]:List Pred)) (Know.mk (V8.mk 0 0 0 0 0 0 0 0) ([]:List Frag)) ([]:List Has) 0 ([]:List Entry) false)=_:=e2
 have hj:eq8 (joinK ⟨zero8,[]⟩ kn13).star ⟨0,7,0,0,0,0,0,0⟩=true:=by kernel_rfl
 unfold law13_up_s
 rw [bndE_n (show _=some (_,none) from e1'),bndE_e (show _=some (_,some 1) from e2')]
 show br true (br (eqI 4 4) (br (eq8 (joinK ⟨zero8,[]⟩ kn13).star ⟨0,7,0,0,0,0,0,0⟩) (some (eqI 1 1)) (some false)) (some false)) (some false)=some true
 rw [hj]; rfl
theorem mul5 {a b c d e:Int} (ha:a=0∨a=1) (hb:b=0∨b=1) (hc:c=0∨c=1) (hd:d=0∨d=1) (he:e=0∨e=1):eqI (wr .i64 ((wr .i64 ((wr .i64 ((wr .i64 (a * b)) * c)) * d)) * e)) 0=true∨(a=1∧b=1∧c=1∧d=1∧e=1):=by
 rcases ha with rfl | rfl<;>rcases hb with rfl | rfl<;>rcases hc with rfl | rfl<;>rcases hd with rfl | rfl<;>rcases he with rfl | rfl<;>first | (left; rfl) | exact .inr ⟨rfl,rfl,rfl,rfl,rfl⟩
theorem real_lines {l:List Line} (h:∀ x∈l,realI x.item):RealE (l.map lineE):=fun e he=>by
 obtain ⟨x,hx,rfl⟩:=List.mem_map.1 he
 exact sameI_real (h x hx)
theorem takeTells_s {s:Sit} {y:Talk} {x:Note} (ok:s.Ok) (oy:y.Ok) (ox:x.Ok):law13_TakeTells_s s y x=some true:=by
 obtain ⟨a,ha,h1⟩:=fits_sit ok
 obtain ⟨b,hb,h2⟩:=short_s ox
 obtain ⟨c,hc,h3⟩:=known_s y.k
 obtain ⟨d,hd,h4⟩:=told_sI (l:=y.l) oy.ll
 obtain ⟨e,he,h5⟩:=told_sI (l:=x.l) ox.ll
 unfold law13_TakeTells_s
 rw [bnd_of up13,bnd_of ha,bnd_of hb,bnd_of hc,bnd_of hd,bnd_of he]
 rcases mul5 (h1.imp (fun h=>h) And.left) (h2.imp (fun h=>h) And.left) (h3.imp (fun h=>h) And.left) (h4.imp (fun h=>h) And.left) (h5.imp (fun h=>h) And.left) with h | ⟨rfl,rfl,rfl,rfl,rfl⟩
 ·rw [br_t h]
 ·obtain ⟨-, hst, -, -, -, hk⟩:=h1.resolve_left (by decide)
  obtain ⟨-, sn⟩:=h2.resolve_left (by decide)
  obtain ⟨-, yk⟩:=h3.resolve_left (by decide)
  obtain ⟨-, yr⟩:=h4.resolve_left (by decide)
  obtain ⟨-, xr⟩:=h5.resolve_left (by decide)
  rw [br_f (by rfl)]
  by_cases hyl:y.l.length≤60
  ·rw [br_f (ltI_f.2 (by omega))]
   obtain ⟨g,hg,h6⟩:=rises_sI oy.gl
   rw [bnd_of hg]
   rcases h6 with rfl | ⟨rfl,h6⟩
   ·rfl
   ·rw [br_f (by rfl)]
    by_cases hyn:y.n≤1000
    ·rw [br_f (ltI_f.2 (by omega)),bnd_of (state_s ok hst),bnd_of (rmay_s (hst.b hk))]
     cases hm:mayS s.st with
     | false=>rfl
     | true =>
      have so:=may_sok hm hst.f hst.store hst.out hk.kt hst.ids
      have mi:=mayS_iff.1 hm
      have sn1:=sn.f
      have sn2:=sn.l
      have es:law13_Sess_s y=some ⟨y.sid,y.with_,y.epoch,y.turn,y.got,y.bad,y.told,y.over,y.n,y.k,y.l.map lineE⟩:=by
       unfold law13_Sess_s
       rw [bnd_of (entries_s (by omega))]
      rw [br_f (by rfl),bnd_of es,bnd_of (msg_s ox (by omega) (by omega))]
      have gl:=got_len h6
      have sb:SessG ⟨y.sid,y.with_,y.epoch,y.turn,y.got,y.bad,y.told,y.over,y.n,y.k,y.l.map lineE⟩ 3660:=⟨⟨yk.kt,oy.ids,h6.1,by show y.got.length≤_; omega,hyn,by show (y.l.map lineE).length≤_; rw [List.length_map]; omega,fun e he=>by obtain ⟨z,hz,rfl⟩:=List.mem_map.1 he; exact oy.l z hz⟩,h6,real_lines yr⟩
      have ab:AnsB (noteM x) 3660:=⟨sn.k.kt,ox.ids,by show (x.l.map lineE).length≤_; rw [List.length_map]; omega,fun e he=>by obtain ⟨z,hz,rfl⟩:=List.mem_map.1 he; exact ox.l z hz⟩
      have ar:RealE (noteM x).l:=real_lines xr
      generalize (⟨y.sid,y.with_,y.epoch,y.turn,y.got,y.bad,y.told,y.over,y.n,y.k,y.l.map lineE⟩:Sess)=w at *
      generalize noteM x=m at *
      have gw:=got_len sb.g
      have e1:=take_s (m:=m) so (by decide) (by decide) mi.2.2.2.2.1 sb.b (by omega) ab
      have e2:=rtake_s (m:=m) so (by decide) (by decide) sb.b (by omega) ab
      have e4:=code_s (take_err s.st w m)
      have fin:ref09_Same_s (takeV s.st w m).1 (takeV s.st w m).1=some true∧ref11_Same_s (takeV s.st w m).2.1 (takeV s.st w m).2.1=some true:=by
       cases hov:w.over with
       | true =>
        obtain ⟨t1,t2⟩:=take_over (s:=s.st) (m:=m) hov
        rw [t1,t2]
        exact ⟨same9_s so (by decide) (may_pf mi.1),sb.same (by decide)⟩
       | false =>
        obtain ⟨t1,t2,t3,t4⟩:=take_ok so sb hov ab ar
        exact ⟨same9_s (t1.mono (M:=90000) (by split<;>decide)) (by decide) (by rw [t2]; exact may_pf mi.1),t4.same (by decide)⟩
      cases hc:errO (takeV s.st w m).2.2 with
      | none =>
       rw [hc] at e1 e4
       rw [bndE_n e1,bnd_of (show law11_Sess_s w=some w from rfl),bnd_of e2,bnd_of fin.1,bnd_of (show law11_Sess_s (takeV s.st w m).2.1=some (takeV s.st w m).2.1 from rfl),bnd_of fin.2,br_t rfl,br_t rfl,br_t rfl,bnd_of e4,eqI_self]
      | some n =>
       rw [hc] at e1 e4
       rw [bndE_e e1,bnd_of (show law11_Sess_s w=some w from rfl),bnd_of e2,bnd_of fin.1,bnd_of (show law11_Sess_s (takeV s.st w m).2.1=some (takeV s.st w m).2.1 from rfl),bnd_of fin.2,br_t rfl,br_t rfl,br_t rfl,bnd_of e4,eqI_self]
    ·rw [br_t (ltI_t.2 (by omega))]
  ·rw [br_t (ltI_t.2 (by omega))]
theorem law_takeTells {X:Task→Prop} (hX:Closed X) {s:Sit} {y:Talk} {x:Note} (ok:s.Ok) (oy:y.Ok) (ox:x.Ok) {Q:A→List Blk→Prop} (hQ:Q (bv true) []):X (.call 10 [s.la,y.la,x.la] [] Q):=law13_TakeTells_c hX (takeTells_s ok oy ox) hQ
end
end Go.Proofs.YtidkmoohgadjkaaGreat
