/- The statements ServeTells, ServeAsks, out of what their code computes. The statement ServeTells, out of what its code computes. Sessions as arguments of laws. The laws of layer 13. Written by decomp.py. The statements TakeTells, TakePlays, out of what their code computes. -/
import Derived.Test.YtidkmoohgadjkaaGreatVF
import Derived.Test.YtidkmoohgadjkaaGreatVE
import Derived.Test.YtidkmoohgadjkaaGreatVD
set_option linter.unusedVariables false
set_option linter.unusedSimpArgs false
set_option maxRecDepth 100000
namespace Go.Proofs.YtidkmoohgadjkaaGreat
open Go E Pred
noncomputable section
open Classical
def RealE (l:List Entry):Prop:=∀ e∈l,qh1 e.item e.item=true
theorem qkd {L:List Entry}:∀ (xs pre:List Entry),L=pre++xs→RealE xs→qR L xs (pre.length:Int)=some true
 | [],pre,_,_=>by rw [qR]
 | x::xs,pre,h,hr=>by
  have ih:=qkd (L:=L) xs (pre++[x]) (by rw [h]; simp) fun e he=>hr e (List.mem_cons_of_mem _ he)
  rw [List.length_append] at ih
  have e1:qbd x x=some true:=by
   unfold qbd
   rw [qh (show qdk x.item x.item=some (qh1 x.item x.item) from rfl),hr x (List.mem_cons_self ..),qE,qE]
   cases x.goes<;>rfl
  rw [qR,qh (show atL L (pre.length:Int)=some x by rw [h]; exact qee pre x xs),qh e1]
  exact ih
theorem qke {l:List Entry} (hn:l.length≤1000000000) (h:RealE l):qY l l=some true:=by
 unfold qY
 rw [qE,br_f (by rfl),qr (qn hn)]
 exact qkd l [] rfl h
theorem qul {m:Msg} {N:Nat} (hN:N≤1000000000) (hf:m.f.Ok) (hs:qei m.f m.f=true) (hk:KB m.k N) (hl:m.l.length≤1000000000) (hr:RealE m.l) (hh:m.have_=[]):qac m m=some true:=by
 have e:qbg m.f m.f=some true:=by rw [qn2 hf,hs]
 have hb:(@Bool.rec (fun _=>Bool) m.star (!m.star) m.star)=false:=by cases m.star<;>rfl
 unfold qac
 rw [qE,qE,qE,qE,qE,qE,qE,hb,hh,qr (qn (by simp)),qaf,qh e,qh (qi4 hN hk),qgP,qh (qke hl hr)]; rfl
structure AnsM (m:Msg):Prop where
 f:m.f=.mk 0 ⟨#[]⟩ 0 0 0 []
 k:KT m.k 90000
 l:m.l.length≤10000
 r:RealE m.l
 h:m.have_=[]
theorem qv2:(Pred.mk 0 ⟨#[]⟩ 0 0 0 []).Ok:=by unfold Pred.Ok; exact ⟨by decide,by decide,by decide,by decide,by unfold Pred.Oks; trivial⟩
theorem AnsM.same {m:Msg} (h:AnsM m):qac m m=some true:=by
 refine qul (N:=90000) (by decide) ?_ ?_ h.k.kb (by have:=h.l; omega) h.r h.h
 ·rw [h.f]; exact qv2
 ·rw [h.f]; exact qsO 0
theorem qum (h:Has) (r c:Int):qh1 (goE h r c).item (goE h r c).item=true:=qgt ⟨by kernel_rfl,by kernel_rfl⟩
theorem qv3 {all:List Item} {m:Msg} (ha:∀ i∈all,i.Ok∧mayI i=true):RealE (entV all m):=fun e he=>by
 unfold entV at he
 rcases List.mem_append.1 he with he | he
 ·obtain ⟨x,hx,rfl⟩:=List.mem_map.1 he
  exact qgt (qlr (ha x (List.mem_filter.1 hx).1).2)
 ·obtain ⟨h, -, e2⟩:=List.mem_filterMap.1 he
  unfold goF at e2
  split at e2
  ·cases e2
  ·split at e2
   ·injection e2 with e2
    rw [←e2]; exact qum ..
   ·cases e2
theorem qun {all:List Item} {s:State} {m:Msg}:RealE (qjB all s m):=fun e he=>by
 unfold qjB at he
 split at he
 ·obtain ⟨h, -, e2⟩:=List.mem_filterMap.1 he
  unfold qnh at e2
  split at e2
  ·injection e2 with e2
   rw [←e2]; exact qum ..
  ·cases e2
 ·cases he
theorem qup {m:Msg} {turn:Int}:∀ (k:Nat) (l:List Entry) (n:Int),RealE l→∀ x∈batV m turn k l n,AnsM x
 | 0,_,_,_,x,hx=>by cases hx
 | k + 1,[],_,_,x,hx=>by cases hx
 | k + 1,e::l,n,hr,x,hx=>by
  rw [batV] at hx
  rcases List.mem_cons.1 hx with rfl | hx
  ·exact ⟨rfl,⟨Nat.zero_le _,Nat.zero_le _⟩,by show ((e::l).take 4).length≤_; rw [List.length_take]; omega,fun y hy=>hr y (List.mem_of_mem_take hy),rfl⟩
  ·exact qup k _ _ (fun y hy=>hr y (List.mem_of_mem_drop hy)) x hx
theorem qkf {s:State} {m:Msg} {turn:Int} {N:Nat} (h:SOk s N) (hN:N≤90000) (hm:MsgB m):(qgc s m turn).length≤2000∧∀ x∈qgc s m turn,AnsM x:=by
 have hl:=h.le
 have hlen:=qim h
 have hen:=quf (qaT s.store s.out) m
 have hhl:=hm.hl
 unfold qgc
 split
 ·have hb:=qug m turn ((entV (qaT s.store s.out) m).length + 1) (entV (qaT s.store s.out) m) 0
  refine ⟨by simp only [List.length_append,List.length_singleton]; omega,fun x hx=>?_⟩
  rcases List.mem_append.1 hx with hx | hx
  ·exact qup _ _ _ (qv3 (qlu h)) x hx
  ·rw [List.mem_singleton.1 hx]
   refine ⟨rfl,?_,?_,qun,rfl⟩
   ·show KT (if inP m.f s.f=true then s.k else ⟨zero8,[]⟩) 90000
    split
    ·exact h.kt.mono hN
    ·exact ⟨Nat.zero_le _,Nat.zero_le _⟩
   ·show (qjB (qaT s.store s.out) s m).length≤_
    unfold qjB
    split
    ·have:=qpY (qnh (qaT s.store s.out) s.k) m.have_
     omega
    ·exact Nat.zero_le _
 ·exact ⟨Nat.zero_le _,fun x hx=>by cases hx⟩
theorem qCa {a:State} {w sid:Int} (hf:a.f.Ok) (hfs:a.f.size≤1000) (hk:KT a.k 90000) (hi:IdsOk a.k) (hs:∀ i∈a.store,i.Ok) (hl:a.store.length≤1000):MsgB (ask0 a w sid) :=
 ⟨hf,hfs,hk,hi,fun x hx=>by
  obtain ⟨i,hi,rfl⟩:=List.mem_map.1 hx
  have:=hs i hi
  exact ⟨this.id,this.vr,this.vc,this.stamp⟩,by show (a.store.map qqW).length≤_; rw [List.length_map]; exact hl,by show 0≤1000; decide⟩
end
end Go.Proofs.YtidkmoohgadjkaaGreat
namespace Go.Proofs.YtidkmoohgadjkaaGreat
open Go E Pred
noncomputable section
open Classical
structure ShortN (x:Note):Prop where
 h:x.have_.length≤60
 l:x.l.length≤60
 f:x.f.size≤60
 k:KB x.k 60
end
end Go.Proofs.YtidkmoohgadjkaaGreat
set_option maxHeartbeats 4000000
namespace Go.Proofs.YtidkmoohgadjkaaGreat
open Go E Go.ChangeShapes Go.WideShapes Go.ChangeAt Go.RowKit
structure Talk.Ok (x:Talk):Prop where
 ids:IdsOk x.k
 l:∀ y∈x.l,y.item.Ok
 ll:x.l.length≤9223372036854775807
 gl:x.got.length≤9223372036854775807
abbrev qCb:Sh:=.cat (.int .i64) (.cat (.int .i64) (.cat (.int .i64) (.cat (.int .i64) (.cat (.sl (.int .i64)) (.cat .bool (.cat .bool (.cat .bool (.cat (.int .i64) (.cat qpD (.cat (.sl qAH) .nil))))))))))
abbrev Talk.la (x:Talk):A:=.agg [ic x.sid,ic x.with_,ic x.epoch,ic x.turn,.p (.sl (x.got.map irw)),.p (.v (.bool x.bad)),.p (.v (.bool x.told)),.p (.v (.bool x.over)),ic x.n,
 ic x.k.star.x0,ic x.k.star.x1,ic x.k.star.x2,ic x.k.star.x3,ic x.k.star.x4,ic x.k.star.x5,ic x.k.star.x6,ic x.k.star.x7,.p (.sl (x.k.l.map Frag.row)),.p (.sl (x.l.map Line.row))]
section
variable {H:Type} {enc:TypeId × Value→H} {W:World} {v:Value} {d:DataW H} {ps:List MemPlace} {b0:Nat}
end
end Go.Proofs.YtidkmoohgadjkaaGreat
set_option maxHeartbeats 0
namespace Go.Proofs.YtidkmoohgadjkaaGreat
open Go E
noncomputable section
open Pred
def qfp:Option (Bool) :=
 (bndE (qbZ (State.mk 1 (Pred.mk 1 ⟨#[]⟩ 0 0 0 ([]:List Pred)) ([]:List Item) ([]:List Item) (Know.mk (V8.mk 0 0 0 0 0 0 0 0) ([]:List Frag)) 0 0 0) (Sess.mk 3 2 0 0 ([]:List Int) false false false 0 (Know.mk (V8.mk 0 0 0 0 0 0 0 0) ([]:List Frag)) ([]:List Entry)) (Msg.mk 3 2 1 3 4 (Pred.mk 0 ⟨#[]⟩ 0 0 0 ([]:List Pred)) (Know.mk (V8.mk 0 7 0 0 0 0 0 0) ([]:List Frag)) ([]:List Has) 0 ([]:List Entry) false)) (fun y1 n3 =>
  (bndE (qbZ (State.mk 1 (Pred.mk 1 ⟨#[]⟩ 0 0 0 ([]:List Pred)) ([]:List Item) ([]:List Item) (Know.mk (V8.mk 0 0 0 0 0 0 0 0) ([]:List Frag)) 0 0 0) (Sess.mk 3 2 0 0 ([]:List Int) false false false 0 (Know.mk (V8.mk 0 0 0 0 0 0 0 0) ([]:List Frag)) ([]:List Entry)) (Msg.mk 3 2 1 3 0 (Pred.mk 0 ⟨#[]⟩ 0 0 0 ([]:List Pred)) (Know.mk (V8.mk 0 0 0 0 0 0 0 0) ([]:List Frag)) ([]:List Has) 0 ([]:List Entry) false)) (fun y4 n6 =>
   some false)
    (fun y4 =>
   some false)))
   (fun y1 =>
  (bndE (qbZ (State.mk 1 (Pred.mk 1 ⟨#[]⟩ 0 0 0 ([]:List Pred)) ([]:List Item) ([]:List Item) (Know.mk (V8.mk 0 0 0 0 0 0 0 0) ([]:List Frag)) 0 0 0) (Sess.mk 3 2 0 0 ([]:List Int) false false false 0 (Know.mk (V8.mk 0 0 0 0 0 0 0 0) ([]:List Frag)) ([]:List Entry)) (Msg.mk 3 2 1 3 0 (Pred.mk 0 ⟨#[]⟩ 0 0 0 ([]:List Pred)) (Know.mk (V8.mk 0 0 0 0 0 0 0 0) ([]:List Frag)) ([]:List Has) 0 ([]:List Entry) false)) (fun y7 n9 =>
   (br y1.2.over
    (br (eqI y1.2.turn 4)
     (br (eq8 y1.1.k.star (V8.mk 0 7 0 0 0 0 0 0))
      (some (eqI n9 1))
      (some false))
     (some false))
    (some false)))
    (fun y7 =>
   (br y1.2.over
    (br (eqI y1.2.turn 4)
     (br (eq8 y1.1.k.star (V8.mk 0 7 0 0 0 0 0 0))
      (some false)
      (some false))
     (some false))
    (some false))))))
def qS (y1:Bool) (y25:(List Msg)):List Int→State→Sess→Sess→State→Option (Bool)
  | [],v112,v113,v114,v115 =>
  some y1
  | x1e::xs1,v112,v113,v114,v115 =>
  (bnd (qeg x1e (y25.length:Int)) fun y116 =>
   (bnd (atL y25 y116) fun x118 =>
    (bndE (qbZ v112 v113 x118) (fun y120 n122 =>
     (bnd (qdq v115 v114 x118) fun y123 =>
      (bnd (qcx y120.1 y123.1) fun y125 =>
       (bnd (qdn y120.2) fun y127 =>
        (bnd (qcl y127 y123.2.1) fun y129 =>
         (br (!y125)
          (some false)
          (br (!y129)
           (some false)
           (bnd (qef (some n122)) fun y133 =>
            (br (!eqI y133 y123.2.2)
             (some false)
             (qS y1 y25 xs1  y120.1 y120.2 y123.2.1 y123.1))))))))))
      (fun y120 =>
     (bnd (qdq v115 v114 x118) fun y136 =>
      (bnd (qcx y120.1 y136.1) fun y138 =>
       (bnd (qdn y120.2) fun y140 =>
        (bnd (qcl y140 y136.2.1) fun y142 =>
         (br (!y138)
          (some false)
          (br (!y142)
           (some false)
           (bnd (qef none) fun y146 =>
            (br (!eqI y146 y136.2.2)
             (some false)
             (qS y1 y25 xs1  y120.1 y120.2 y136.2.1 y136.1)))))))))))))
def qcR (p0:Sit) (p1:Sit) (p2:List Int):Option (Bool) :=
 (bnd (qfp ) fun y1 =>
  (bnd (qdm p0) fun y3 =>
   (bnd (qdm p1) fun y5 =>
    (br (eqI (wr .i64 (y3 * y5)) 0)
     (some y1)
     (br (ltI 60 (p2.length:Int))
      (some y1)
      (bnd (qcJ p0) fun y9 =>
       (bnd (qcJ p1) fun y11 =>
        (bnd (qdN y9) fun y13 =>
         (br y13
          (bnd (qdN y11) fun y16 =>
           (br (!y16)
            (some y1)
            (bnd (qfg y9 y11.r 5) fun y19 =>
             (bnd (qd3 y9 y11.r 5) fun y21 =>
              (bnd (qac y19.2 y21.2) fun y23 =>
               (bnd (qc0 y11 y21.2 1) fun y25 =>
                (br (!y23)
                 (br y1
                  (some y23)
                  (some false))
                 (br (eqI (y25.length:Int) 0)
                  (br y1
                   (some y23)
                   (some false))
                  (chk (qz p2)
                    ((qS y1 y25) p2 y9 y19.1 y21.1 y9))))))))))
          (some y1))))))))))
variable {X:Task→Prop} (hX:qk X) {Q:A→List Blk→Prop}
include hX
theorem qq0  {r:Bool} (h:qfp  = some r) (hQ:Q (.one (.p (.v (.bool r)))) []):X (.call 53 [] [] Q):=by
  have K:=fun a (e:some a=some r)=>qm (f:=fun y=>.one (.p (.v (.bool y)))) (g:=fun y=>[]) e hQ
  unfold qfp at h
  refine qb hX Tryz.func53 rfl rfl ?_
  revert h
  refine qvh (fun y1 n3 e2 h=>?_) (fun y1 e2 h=>?_)
  ·conv=>whnf
   repeat((first|refine dw ?_);conv=>whnf)
   refine qJ hX ?_
   conv=>whnf
   refine qdo hX e2 ?_
   revert h
   refine qvh (fun y4 n6 e5 h=>?_) (fun y4 e5 h=>?_)
   ·conv=>whnf
    repeat((first|refine dw ?_);conv=>whnf)
    refine qJ hX ?_
    conv=>whnf
    refine qdo hX e5 ?_
    conv=>whnf
    repeat((first|refine dw ?_);conv=>whnf)
    exact K _ h
   ·conv=>whnf
    repeat((first|refine dw ?_);conv=>whnf)
    refine qJ hX ?_
    conv=>whnf
    refine qdo hX e5 ?_
    conv=>whnf
    repeat((first|refine dw ?_);conv=>whnf)
    exact K _ h
  ·conv=>whnf
   repeat((first|refine dw ?_);conv=>whnf)
   refine qJ hX ?_
   conv=>whnf
   refine qdo hX e2 ?_
   revert h
   refine qvh (fun y7 n9 e8 h=>?_) (fun y7 e8 h=>?_)
   ·conv=>whnf
    repeat((first|refine dw ?_);conv=>whnf)
    refine qJ hX ?_
    conv=>whnf
    refine qdo hX e8 ?_
    conv=>whnf
    repeat((first|refine dw ?_);conv=>whnf)
    revert h
    refine brk (fun c10 h=>?_) (fun c10 h=>?_)
    ·conv=>whnf
     repeat((first|refine dw ?_|refine bct c10 ?_);conv=>whnf)
     revert h
     refine brk (fun c11 h=>?_) (fun c11 h=>?_)
     ·conv=>whnf
      repeat((first|refine dw ?_|refine bct c11 ?_);conv=>whnf)
      revert h
      refine brk (fun c12 h=>?_) (fun c12 h=>?_)
      ·conv=>whnf
       repeat((first|refine dw ?_|with_reducible refine bct (qcV c12) ?_|refine bct c12 ?_);conv=>whnf)
       exact K _ h
      ·conv=>whnf
       repeat((first|refine dw ?_|with_reducible refine bcf (qcV c12) ?_|refine bcf c12 ?_);conv=>whnf)
       exact K _ h
     ·conv=>whnf
      repeat((first|refine dw ?_|refine bcf c11 ?_);conv=>whnf)
      exact K _ h
    ·conv=>whnf
     repeat((first|refine dw ?_|refine bcf c10 ?_);conv=>whnf)
     exact K _ h
   ·conv=>whnf
    repeat((first|refine dw ?_);conv=>whnf)
    refine qJ hX ?_
    conv=>whnf
    refine qdo hX e8 ?_
    conv=>whnf
    repeat((first|refine dw ?_);conv=>whnf)
    revert h
    refine brk (fun c13 h=>?_) (fun c13 h=>?_)
    ·conv=>whnf
     repeat((first|refine dw ?_|refine bct c13 ?_);conv=>whnf)
     revert h
     refine brk (fun c14 h=>?_) (fun c14 h=>?_)
     ·conv=>whnf
      repeat((first|refine dw ?_|refine bct c14 ?_);conv=>whnf)
      revert h
      refine brk (fun c15 h=>?_) (fun c15 h=>?_)
      ·conv=>whnf
       repeat((first|refine dw ?_|with_reducible refine bct (qcV c15) ?_|refine bct c15 ?_);conv=>whnf)
       exact K _ h
      ·conv=>whnf
       repeat((first|refine dw ?_|with_reducible refine bcf (qcV c15) ?_|refine bcf c15 ?_);conv=>whnf)
       exact K _ h
     ·conv=>whnf
      repeat((first|refine dw ?_|refine bcf c14 ?_);conv=>whnf)
      exact K _ h
    ·conv=>whnf
     repeat((first|refine dw ?_|refine bcf c13 ?_);conv=>whnf)
     exact K _ h
theorem qhB  {p0:Sit} {p1:Sit} {p2:List Int} {r:Bool} (h:qcR p0 p1 p2=some r) (hQ:Q (.one (.p (.v (.bool r)))) []):X (.call 11 [.agg [ic p0.r,ic p0.f.op,.p (.v (.string p0.f.text)),ic p0.f.n,.p (.v (.float .f64 p0.f.re)),.p (.v (.float .f64 p0.f.im)),.p (.sl (Pred.lrows p0.f.kids)),.p (.sl (p0.store.map Item.lrow)),.p (.sl (p0.out.map Item.lrow)),ic p0.k.star.x0,ic p0.k.star.x1,ic p0.k.star.x2,ic p0.k.star.x3,ic p0.k.star.x4,ic p0.k.star.x5,ic p0.k.star.x6,ic p0.k.star.x7,.p (.sl (p0.k.l.map Frag.row)),ic p0.count,ic p0.clock,ic p0.epoch],.agg [ic p1.r,ic p1.f.op,.p (.v (.string p1.f.text)),ic p1.f.n,.p (.v (.float .f64 p1.f.re)),.p (.v (.float .f64 p1.f.im)),.p (.sl (Pred.lrows p1.f.kids)),.p (.sl (p1.store.map Item.lrow)),.p (.sl (p1.out.map Item.lrow)),ic p1.k.star.x0,ic p1.k.star.x1,ic p1.k.star.x2,ic p1.k.star.x3,ic p1.k.star.x4,ic p1.k.star.x5,ic p1.k.star.x6,ic p1.k.star.x7,.p (.sl (p1.k.l.map Frag.row)),ic p1.count,ic p1.clock,ic p1.epoch],.one (.p (.sl (p2.map irw)))] [] Q):=by
  have K:=fun a (e:some a=some r)=>qm (f:=fun y=>.one (.p (.v (.bool y)))) (g:=fun y=>[]) e hQ
  unfold qcR at h
  refine qb hX Tryz.func11 rfl rfl ?_
  revert h
  refine bndk fun y1 e2 h=>?_
  conv=>whnf
  repeat((first|refine dw ?_);conv=>whnf)
  refine qq0 hX e2 ?_
  revert h
  refine bndk fun y3 e4 h=>?_
  conv=>whnf
  repeat((first|refine dw ?_);conv=>whnf)
  refine qhN hX e4 ?_
  revert h
  refine bndk fun y5 e6 h=>?_
  conv=>whnf
  repeat((first|refine dw ?_);conv=>whnf)
  refine qhN hX e6 ?_
  conv=>whnf
  repeat((first|refine dw ?_);conv=>whnf)
  revert h
  refine brk (fun c7 h=>?_) (fun c7 h=>?_)
  ·conv=>whnf
   repeat((first|refine dw ?_|refine bct c7 ?_);conv=>whnf)
   exact K _ h
  ·conv=>whnf
   repeat((first|refine dw ?_|refine bcf c7 ?_|refine qg (qi _) ?_);conv=>whnf)
   revert h
   refine brk (fun c8 h=>?_) (fun c8 h=>?_)
   ·conv=>whnf
    repeat((first|refine dw ?_|refine bct c8 ?_);conv=>whnf)
    exact K _ h
   ·revert h
    refine bndk fun y9 e10 h=>?_
    conv=>whnf
    repeat((first|refine dw ?_|refine bcf c8 ?_);conv=>whnf)
    refine qhb hX e10 ?_
    revert h
    refine bndk fun y11 e12 h=>?_
    conv=>whnf
    repeat((first|refine dw ?_);conv=>whnf)
    refine qhb hX e12 ?_
    revert h
    refine bndk fun y13 e14 h=>?_
    conv=>whnf
    repeat((first|refine dw ?_);conv=>whnf)
    refine qiU hX e14 ?_
    conv=>whnf
    repeat((first|refine dw ?_);conv=>whnf)
    revert h
    refine brk (fun c15 h=>?_) (fun c15 h=>?_)
    ·revert h
     refine bndk fun y16 e17 h=>?_
     conv=>whnf
     repeat((first|refine dw ?_|refine bct c15 ?_);conv=>whnf)
     refine qiU hX e17 ?_
     conv=>whnf
     repeat((first|refine dw ?_|refine bct c15 ?_);conv=>whnf)
     revert h
     refine brk (fun c18 h=>?_) (fun c18 h=>?_)
     ·conv=>whnf
      repeat((first|refine dw ?_|refine bct c18 ?_);conv=>whnf)
      exact K _ h
     ·revert h
      refine bndk fun y19 e20 h=>?_
      conv=>whnf
      repeat((first|refine dw ?_|refine bcf c18 ?_);conv=>whnf)
      refine qqK hX e20 ?_
      revert h
      refine bndk fun y21 e22 h=>?_
      conv=>whnf
      repeat((first|refine dw ?_);conv=>whnf)
      refine qmB hX e22 ?_
      revert h
      refine bndk fun y23 e24 h=>?_
      conv=>whnf
      repeat((first|refine dw ?_);conv=>whnf)
      refine qiV hX e24 ?_
      revert h
      refine bndk fun y25 e26 h=>?_
      conv=>whnf
      repeat((first|refine dw ?_);conv=>whnf)
      refine qjx hX e26 ?_
      conv=>whnf
      repeat((first|refine dw ?_);conv=>whnf)
      revert h
      refine brk (fun c27 h=>?_) (fun c27 h=>?_)
      ·conv=>whnf
       repeat((first|refine dw ?_|refine bct c27 ?_);conv=>whnf)
       revert h
       refine brk (fun c28 h=>?_) (fun c28 h=>?_)
       ·conv=>whnf
        repeat((first|refine dw ?_|refine bct c28 ?_);conv=>whnf)
        exact K _ h
       ·conv=>whnf
        repeat((first|refine dw ?_|refine bcf c28 ?_);conv=>whnf)
        exact K _ h
      ·conv=>whnf
       repeat((first|refine dw ?_|refine bcf c27 ?_|refine qg (qi _) ?_);conv=>whnf)
       revert h
       refine brk (fun c29 h=>?_) (fun c29 h=>?_)
       ·conv=>whnf
        repeat((first|refine dw ?_|refine bct c29 ?_);conv=>whnf)
        revert h
        refine brk (fun c30 h=>?_) (fun c30 h=>?_)
        ·conv=>whnf
         repeat((first|refine dw ?_|refine bct c30 ?_);conv=>whnf)
         exact K _ h
        ·conv=>whnf
         repeat((first|refine dw ?_|refine bcf c30 ?_);conv=>whnf)
         exact K _ h
       ·revert h
        refine chkk fun hs1 h=>?_
        conv=>whnf
        repeat((first|refine dw ?_|refine bcf c29 ?_);conv=>whnf)
        refine qqI (fun (v31:Int) (v112:State) (v113:Sess) (v114:Sess) (v115:State)=>pad [(2,.one (.p (.sl (p2.map irw)))),(4,.one (.p (.v (.bool y1)))),(0,.one (.ptr 0 0)),(2,.one (.ptr 1 0)),(1,.one (.ptr 2 0)),(2,.one (.p (.sl (y25.map Msg.row)))),(0,.one (.ptr 3 0)),(0,iv v31)] 119) (fun (v31:Int) (v112:State) (v113:Sess) (v114:Sess) (v115:State)=>[.box (State.cs v112),.box (Sess.cs v113),.box (Sess.cs v114),.box (State.cs v115)]) _ p2 (fun pre1 x1e xs1 v31 v112 v113 v114 v115 hl1 hi1 h ih1=>?_) (fun v31 v112 v113 v114 v115 hi1 h=>?_) y9 y19.1 y21.1 y9 h
        ·rw [qS] at h
         have am1:=qB hl1 hi1
         refine qa hX ?_
         revert h
         refine bndk fun y116 e117 h=>?_
         conv=>whnf
         repeat((first|refine dw ?_|refine qg (qi _) ?_|refine bct (qC hl1 hi1) ?_|refine bct (qc am1) ?_|refine bct (andt (qc am1) rfl) ?_|refine qe (qf am1) ?_|refine bct (andt (qc (qd am1)) rfl) ?_|refine qe (qf (qd am1)) ?_);conv=>whnf)
         refine qna hX e117 ?_
         revert h
         refine bndk fun x118 a119 h=>?_
         revert h
         refine qvh (fun y120 n122 e121 h=>?_) (fun y120 e121 h=>?_)
         ·conv=>whnf
          repeat((first|refine dw ?_|refine bct (qc a119) ?_|refine bct (andt (qc a119) rfl) ?_|refine qe (qf a119) ?_|refine bct (andt (qc (qd a119)) rfl) ?_|refine qe (qf (qd a119)) ?_);conv=>whnf)
          refine qdo hX e121 ?_
          revert h
          refine bndk fun y123 e124 h=>?_
          conv=>whnf
          repeat((first|refine dw ?_);conv=>whnf)
          refine qhT hX e124 ?_
          revert h
          refine bndk fun y125 e126 h=>?_
          conv=>whnf
          repeat((first|refine dw ?_);conv=>whnf)
          refine qhR hX e126 ?_
          revert h
          refine bndk fun y127 e128 h=>?_
          conv=>whnf
          repeat((first|refine dw ?_);conv=>whnf)
          refine qhQ hX e128 ?_
          revert h
          refine bndk fun y129 e130 h=>?_
          conv=>whnf
          repeat((first|refine dw ?_);conv=>whnf)
          refine qhP hX e130 ?_
          conv=>whnf
          repeat((first|refine dw ?_);conv=>whnf)
          revert h
          refine brk (fun c131 h=>?_) (fun c131 h=>?_)
          ·conv=>whnf
           repeat((first|refine dw ?_|refine bct c131 ?_);conv=>whnf)
           exact K _ h
          ·conv=>whnf
           repeat((first|refine dw ?_|refine bcf c131 ?_);conv=>whnf)
           revert h
           refine brk (fun c132 h=>?_) (fun c132 h=>?_)
           ·conv=>whnf
            repeat((first|refine dw ?_|refine bct c132 ?_);conv=>whnf)
            exact K _ h
           ·revert h
            refine bndk fun y133 e134 h=>?_
            conv=>whnf
            repeat((first|refine dw ?_|refine bcf c132 ?_);conv=>whnf)
            refine qhZ hX e134 ?_
            conv=>whnf
            repeat((first|refine dw ?_|refine bcf c132 ?_);conv=>whnf)
            revert h
            refine brk (fun c135 h=>?_) (fun c135 h=>?_)
            ·conv=>whnf
             repeat((first|refine dw ?_|refine bct c135 ?_);conv=>whnf)
             exact K _ h
            ·conv=>whnf
             repeat((first|refine dw ?_|refine bcf c135 ?_);conv=>whnf)
             exact ih1 _ y120.1 y120.2 y123.2.1 y123.1 (wrL hs1 hl1 hi1) h
         ·conv=>whnf
          repeat((first|refine dw ?_|refine bct (qc a119) ?_|refine bct (andt (qc a119) rfl) ?_|refine qe (qf a119) ?_|refine bct (andt (qc (qd a119)) rfl) ?_|refine qe (qf (qd a119)) ?_);conv=>whnf)
          refine qdo hX e121 ?_
          revert h
          refine bndk fun y136 e137 h=>?_
          conv=>whnf
          repeat((first|refine dw ?_);conv=>whnf)
          refine qhT hX e137 ?_
          revert h
          refine bndk fun y138 e139 h=>?_
          conv=>whnf
          repeat((first|refine dw ?_);conv=>whnf)
          refine qhR hX e139 ?_
          revert h
          refine bndk fun y140 e141 h=>?_
          conv=>whnf
          repeat((first|refine dw ?_);conv=>whnf)
          refine qhQ hX e141 ?_
          revert h
          refine bndk fun y142 e143 h=>?_
          conv=>whnf
          repeat((first|refine dw ?_);conv=>whnf)
          refine qhP hX e143 ?_
          conv=>whnf
          repeat((first|refine dw ?_);conv=>whnf)
          revert h
          refine brk (fun c144 h=>?_) (fun c144 h=>?_)
          ·conv=>whnf
           repeat((first|refine dw ?_|refine bct c144 ?_);conv=>whnf)
           exact K _ h
          ·conv=>whnf
           repeat((first|refine dw ?_|refine bcf c144 ?_);conv=>whnf)
           revert h
           refine brk (fun c145 h=>?_) (fun c145 h=>?_)
           ·conv=>whnf
            repeat((first|refine dw ?_|refine bct c145 ?_);conv=>whnf)
            exact K _ h
           ·revert h
            refine bndk fun y146 e147 h=>?_
            conv=>whnf
            repeat((first|refine dw ?_|refine bcf c145 ?_);conv=>whnf)
            refine qhZ hX e147 ?_
            conv=>whnf
            repeat((first|refine dw ?_|refine bcf c145 ?_);conv=>whnf)
            revert h
            refine brk (fun c148 h=>?_) (fun c148 h=>?_)
            ·conv=>whnf
             repeat((first|refine dw ?_|refine bct c148 ?_);conv=>whnf)
             exact K _ h
            ·conv=>whnf
             repeat((first|refine dw ?_|refine bcf c148 ?_);conv=>whnf)
             exact ih1 _ y120.1 y120.2 y136.2.1 y136.1 (wrL hs1 hl1 hi1) h
        ·rw [qS] at h
         refine qa hX ?_
         conv=>whnf
         repeat((first|refine dw ?_|refine qg (qi _) ?_|refine bcf (qD hi1) ?_);conv=>whnf)
         exact K _ h
    ·conv=>whnf
     repeat((first|refine dw ?_|refine bcf c15 ?_);conv=>whnf)
     exact K _ h
end
end Go.Proofs.YtidkmoohgadjkaaGreat
namespace Go.Proofs.YtidkmoohgadjkaaGreat
open Go E Pred
noncomputable section
open Classical
def GotOk (l:List Int):Prop:=RisI l∧∀ x∈l,0≤x∧x≤40
theorem qpZ:∀ {l:List Int} {a b:Int},RisI l→(∀ x∈l,a≤x∧x≤b)→(l.length:Int)≤b - a + 1∨l=[]
 | [],_,_,_,_=>.inr rfl
 | x::l,a,b,h,hx=>by
  obtain ⟨h1,h2⟩:=qjl.1 h
  have hb:=hx x (List.mem_cons_self ..)
  left
  rw [List.length_cons]
  rcases qpZ (a:=x + 1) (b:=b) h2 fun y hy=>⟨by have:=h1 y hy; omega,(hx y (List.mem_cons_of_mem _ hy)).2⟩ with h3 | rfl
  ·omega
  ·rw [List.length_nil]; omega
theorem qoo {l:List Int} (h:GotOk l):l.length≤41:=by
 rcases qpZ h.1 h.2 with h1 | rfl
 ·omega
 ·exact Nat.zero_le _
theorem qwY {x:Sess} {N:Nat} (hN:N≤1000000000) (hk:KB x.k N) (hl:x.l.length≤1000000000) (hr:RealE x.l):∀ (xs pre:List Int),x.got=pre++xs→qbu x x xs (pre.length:Int)=some true
 | [],pre,_=>by rw [qbu,qh (qi4 hN hk),qgP,qh (qke hl hr)]; rfl
 | y::xs,pre,h=>by
  have ih:=qwY hN hk hl hr xs (pre++[y]) (by rw [h]; simp)
  rw [List.length_append] at ih
  rw [qbu,qh (show atL x.got (pre.length:Int)=some y by rw [h]; exact qee pre y xs),qE]
  exact ih
theorem qAK {x:Sess} {N:Nat} (hN:N≤1000000000) (hk:KB x.k N) (hl:x.l.length≤1000000000) (hg:x.got.length≤1000000000) (hr:RealE x.l):qcl x x=some true:=by
 have hb:∀ b:Bool,(@Bool.rec (fun _=>Bool) b (!b) b)=false:=fun b=>by cases b<;>rfl
 unfold qcl
 rw [qE,qE,qE,qE,qE,qE,hb,hb,hb,qr (qn hg)]
 exact qwY hN hk hl hr x.got [] rfl
structure SessG (x:Sess) (M:Nat):Prop where
 b:SessB x M
 g:GotOk x.got
 r:RealE x.l
theorem SessG.same {x:Sess} {M:Nat} (h:SessG x M) (hM:M≤600000):qcl x x=some true:=qAK (N:=M) (by omega) h.b.k.kb (by have:=h.b.l; omega) (by have:=qoo h.g; omega) h.r
theorem quq:∀ (l:List Entry) (y:State × Bool),(l.foldl qdE y).1.f=y.1.f∧(l.foldl qdE y).1.r=y.1.r
 | [],y=>⟨rfl,rfl⟩
 | e::l,y=>by
  rw [List.foldl_cons]
  have h:=quq l (qdE y e)
  have h1:(qdE y e).1.f=y.1.f∧(qdE y e).1.r=y.1.r:=by
   unfold qdE
   split
   ·exact ⟨qwI .., qwJ ..⟩
   ·split
    ·exact ⟨qAz .., qAA ..⟩
    ·exact ⟨rfl,rfl⟩
  exact ⟨h.1.trans h1.1,h.2.trans h1.2⟩
theorem qur:∀ (l:List Entry) (s:State),(l.foldl qdR s).f=s.f∧(l.foldl qdR s).r=s.r
 | [],s=>⟨rfl,rfl⟩
 | e::l,s=>by
  rw [List.foldl_cons]
  have h:=qur l (qdR s e)
  exact ⟨h.1.trans (qwI ..),h.2.trans (qwJ ..)⟩
theorem qAL {s:State} {x:Sess} {N M:Nat} (h:SOk s N) (hx:SessG x M):SOk (endV s x).1 (N + 60 + if (endV s x).2.over=true∧x.over=false then M else 0)∧(endV s x).1.f=s.f∧(endV s x).1.r=s.r∧SessG (endV s x).2 M∧(x.over=true→(endV s x).2.over=true)∨x.over=true:=by
 cases hov:x.over with
 | true=>exact .inr rfl
 | false =>
  left
  have hl:=hx.b.l
  unfold endV
  split
  ·have hg:=qpV x.l h hx.b.e
   have hf:=qur x.l s
   refine ⟨?_,hf.1,hf.2,⟨⟨hx.b.k,hx.b.ids,hx.b.r,hx.b.gl,hx.b.n,hx.b.l,hx.b.e⟩,hx.g,hx.r⟩,fun _=>rfl⟩
   rw [if_pos ⟨rfl,rfl⟩]
   have hg2:=hg.mono (M:=N + 60) (by omega)
   exact ⟨hg2.f,hg2.fs,hg2.rs,hg2.ro,hg2.le,hg2.dj,hg2.is,hg2.io,qvK hg2.kt hx.b.k,qtz hg2.ids hx.b.ids,hg2.cn,hg2.cl,hg2.ep⟩
  ·rw [if_neg (by rw [hov]; simp)]
   exact ⟨h.mono (by omega),rfl,rfl,hx,fun h=>by cases h⟩
theorem qus {s:State} {x:Sess} {m:Msg} (h:x.over=true):(qbM s x m).1=s∧(qbM s x m).2.1=x:=by
 have:refV s x m≠0:=by
  unfold refV
  rw [h]
  split
  ·simp
  ·simp
 unfold qbM
 rw [if_pos this]
 exact ⟨rfl,rfl⟩
theorem qyJ {s:State} {x:Sess} {m:Msg} {N M:Nat} (h:SOk s N) (hx:SessG x M) (hov:x.over=false) (hm:AnsB m M) (hr:RealE m.l) :
  SOk (qbM s x m).1 (N + 120 + if (qbM s x m).2.1.over=true then M else 0)∧(qbM s x m).1.f=s.f∧(qbM s x m).1.r=s.r∧SessG (qbM s x m).2.1 M:=by
 have hgl:=qoo hx.g
 have hml:=hm.l
 by_cases h0:refV s x m=0
 ·have hmn:0≤m.n∧m.n≤40:=by
   have h0:=h0
   unfold refV at h0
   split at h0
   ·cases h0
   ·split at h0
    ·cases h0
    ·split at h0
     ·cases h0
     ·rename_i h3
      have h3:qeZ s m=true:=by simpa using h3
      unfold qeZ at h3
      rw [Bool.and_eq_true,qhz] at h3
      exact h3.1
  have fin:∀ (t:State) (y:Sess),SOk t (N + 60)→t.f=s.f→t.r=s.r→SessG y M→y.over=false→SOk (endV t y).1 (N + 120 + if (endV t y).2.over=true then M else 0)∧(endV t y).1.f=s.f∧(endV t y).1.r=s.r∧SessG (endV t y).2 M:=fun t y ht hf hr' hy ho=>by
   rcases qAL ht hy with ⟨e1,e2,e3,e4, -⟩ | e
   ·refine ⟨e1.mono ?_,e2.trans hf,e3.trans hr',e4⟩
    rw [ho]
    split<;>split<;>simp_all
   ·rw [ho] at e; cases e
  unfold qbM
  rw [if_neg (by rw [h0]; simp)]
  split
  ·have hf:=quq m.l (s,x.bad)
   have hw:=qjn x.got m.n
   refine fin _ _ ((qua m.l (y:=(s,x.bad)) h hm.e).mono (by omega)) hf.1 hf.2 ⟨⟨hx.b.k,hx.b.ids,qhg hx.b.r _,by show (qeO x.got m.n).length≤_; omega,hx.b.n,hx.b.l,hx.b.e⟩,⟨qhg hx.b.r _,fun y hy=>?_⟩,hx.r⟩ hov
   rcases qt4 hy with rfl | hy
   ·exact hmn
   ·exact hx.g.2 y hy
  ·split
   ·exact fin _ _ (h.mono (by omega)) rfl rfl ⟨⟨hx.b.k,hx.b.ids,hx.b.r,hx.b.gl,hx.b.n,hx.b.l,hx.b.e⟩,hx.g,hx.r⟩ hov
   ·exact fin _ _ (h.mono (by omega)) rfl rfl ⟨⟨hm.k,hm.ids,hx.b.r,hx.b.gl,by show m.n≤1000; omega,hm.l,hm.e⟩,hx.g,hr⟩ hov
 ·unfold qbM
  rw [if_pos h0]
  exact ⟨h.mono (by omega),rfl,rfl,hx⟩
theorem qv4 (s:State) (x:Sess) (m:Msg):0≤(qbM s x m).2.2∧(qbM s x m).2.2≤10:=by
 unfold qbM
 split
 ·rcases qyH (s:=s) (x:=x) (m:=m) with h | h | h<;>rw [h]<;>exact ⟨by simp,by simp⟩
 ·split
  ·exact ⟨by simp,by simp⟩
  ·split<;>exact ⟨by simp,by simp⟩
def st13:State:=⟨1,qok,[],[],⟨zero8,[]⟩,0,0,0⟩
def ss13:Sess:=⟨3,2,0,0,[],false,false,false,0,⟨zero8,[]⟩,[]⟩
def ms13 (turn:Int) (k:Know):Msg:=⟨3,2,1,3,turn,.mk 0 ⟨#[]⟩ 0 0 0 [],k,[],0,[],false⟩
def kn13:Know:=⟨⟨0,7,0,0,0,0,0,0⟩,[]⟩
theorem qwZ:SessB ss13 0:=⟨⟨Nat.le_refl _,Nat.le_refl _⟩,fun f hf=>(by cases hf),.nil,by show 0≤400; decide,by show (0:Int)≤1000; decide,by show 0≤60; decide,fun e he=>by cases he⟩
theorem qw0 (turn:Int) (s:V8):AnsB (ms13 turn ⟨s,[]⟩) 0:=⟨⟨Nat.le_refl _,Nat.le_refl _⟩,fun f hf=>(by cases hf),by show 0≤60; decide,fun e he=>by cases he⟩
theorem up13:qfp=some true:=by
 have hs:SOk st13 0:=qyA (r:=1) qyz qt2
 have e1:=qud (m:=ms13 4 kn13) hs (by decide) (by decide) ⟨by decide,by decide⟩ qwZ (by show 0≤100; decide) (qw0 4 _)
 have e2:=qud (m:=ms13 0 ⟨zero8,[]⟩) hs (by decide) (by decide) ⟨by decide,by decide⟩ qwZ (by show 0≤100; decide) (qw0 0 _)
 have r1:refV st13 ss13 (ms13 4 kn13)=0:=by kernel_rfl
 have r2:refV st13 ss13 (ms13 0 ⟨zero8,[]⟩)=1:=by kernel_rfl
 have c0:qol [] 0=true:=decide_eq_true fun i h1 h2=>by omega
 have v1:qbM st13 ss13 (ms13 4 kn13)=((⟨1,qok,[],[],qi9 ⟨zero8,[]⟩ kn13,0,0,0⟩,⟨3,2,0,4,[],false,true,true,0,kn13,[]⟩,0):State × Sess × Int):=by
  unfold qbM
  rw [r1,if_neg (by simp),if_neg (by show ¬ eqI 3 2=true; decide),if_neg (by show ¬ false=true; simp)]
  have:endV st13 ⟨ss13.sid,ss13.with_,ss13.epoch,(ms13 4 kn13).turn,ss13.got,ss13.bad,true,ss13.over,(ms13 4 kn13).n,(ms13 4 kn13).k,(ms13 4 kn13).l⟩=(⟨1,qok,[],[],qi9 ⟨zero8,[]⟩ kn13,0,0,0⟩,⟨3,2,0,4,[],false,true,true,0,kn13,[]⟩):=by
   unfold endV
   rw [if_pos (by show (true&&(!false&&qol [] 0))=true; rw [c0]; rfl)]; rfl
  rw [this]
 have v2:(qbM st13 ss13 (ms13 0 ⟨zero8,[]⟩)).2.2=1:=by unfold qbM; rw [r2,if_pos (by simp)]
 rw [v1] at e1
 rw [v2] at e2
 have e1':qbZ (State.mk 1 (Pred.mk 1 ⟨#[]⟩ 0 0 0 ([]:List Pred)) ([]:List Item) ([]:List Item) (Know.mk (V8.mk 0 0 0 0 0 0 0 0) ([]:List Frag)) 0 0 0) (Sess.mk 3 2 0 0 ([]:List Int) false false false 0 (Know.mk (V8.mk 0 0 0 0 0 0 0 0) ([]:List Frag)) ([]:List Entry)) (Msg.mk 3 2 1 3 4 (Pred.mk 0 ⟨#[]⟩ 0 0 0 ([]:List Pred)) (Know.mk (V8.mk 0 7 0 0 0 0 0 0) ([]:List Frag)) ([]:List Has) 0 ([]:List Entry) false)=_:=e1
 have e2':qbZ (State.mk 1 (Pred.mk 1 ⟨#[]⟩ 0 0 0 ([]:List Pred)) ([]:List Item) ([]:List Item) (Know.mk (V8.mk 0 0 0 0 0 0 0 0) ([]:List Frag)) 0 0 0) (Sess.mk 3 2 0 0 ([]:List Int) false false false 0 (Know.mk (V8.mk 0 0 0 0 0 0 0 0) ([]:List Frag)) ([]:List Entry)) (Msg.mk 3 2 1 3 0 (Pred.mk 0 ⟨#[]⟩ 0 0 0 ([]:List Pred)) (Know.mk (V8.mk 0 0 0 0 0 0 0 0) ([]:List Frag)) ([]:List Has) 0 ([]:List Entry) false)=_:=e2
 have hj:eq8 (qi9 ⟨zero8,[]⟩ kn13).star ⟨0,7,0,0,0,0,0,0⟩=true:=by kernel_rfl
 unfold qfp
 rw [qsb (show _=some (_,none) from e1'),qsa (show _=some (_,some 1) from e2')]
 show br true (br (eqI 4 4) (br (eq8 (qi9 ⟨zero8,[]⟩ kn13).star ⟨0,7,0,0,0,0,0,0⟩) (some (eqI 1 1)) (some false)) (some false)) (some false)=some true
 rw [hj]; rfl
theorem qv5 {s:State} {m:Msg} {turn:Int} {N:Nat} (h:SOk s N) (hN:N≤90000) (hm:MsgB m) (hh:m.have_.length≤60):∀ x∈qgc s m turn,AnsB x N∧RealE x.l:=fun x hx=>by
 have hr:=(qkf (turn:=turn) h hN hm).2 x hx
 refine ⟨?_,hr.r⟩
 unfold qgc at hx
 split at hx
 ·rcases List.mem_append.1 hx with hx | hx
  ·have key:∀ (k:Nat) (l:List Entry) (n:Int),(∀ e∈l,e.item.Ok)→∀ x∈batV m turn k l n,AnsB x N:=fun k=>by
    induction k with
    | zero=>intro l n _ x hx; cases hx
    | succ k ih =>
     intro l n hl x hx
     cases l with
     | nil=>cases hx
     | cons e l =>
      rw [batV] at hx
      rcases List.mem_cons.1 hx with rfl | hx
      ·exact ⟨⟨Nat.zero_le _,Nat.zero_le _⟩,fun f hf=>(by cases hf),by show ((e::l).take 4).length≤_; rw [List.length_take]; omega,fun y hy=>hl y (List.mem_of_mem_take hy)⟩
      ·exact ih _ _ (fun y hy=>hl y (List.mem_of_mem_drop hy)) x hx
   refine key _ _ _ (fun e he=>?_) x hx
   unfold entV at he
   rcases List.mem_append.1 he with he | he
   ·obtain ⟨z,hz,rfl⟩:=List.mem_map.1 he
    exact (qlu h z (List.mem_filter.1 hz).1).1
   ·obtain ⟨z,hz,e2⟩:=List.mem_filterMap.1 he
    have oz:=hm.h z hz
    unfold goF at e2
    split at e2
    ·cases e2
    ·split at e2
     ·injection e2 with e2
      rw [←e2]
      exact ⟨oz.id,by show (0:Nat)≤_; decide,oz.vr,oz.vc,by show _≤(0:Int)∧(0:Int)≤_; decide,by show _≤(0:Int)∧(0:Int)≤_; decide⟩
     ·cases e2
  ·rw [List.mem_singleton.1 hx]
   refine ⟨?_,?_,?_,fun e he=>?_⟩
   ·show KT (if inP m.f s.f=true then s.k else ⟨zero8,[]⟩) N
    split
    ·exact h.kt
    ·exact ⟨Nat.zero_le _,Nat.zero_le _⟩
   ·show IdsOk (if inP m.f s.f=true then s.k else ⟨zero8,[]⟩)
    split
    ·exact h.ids
    ·exact fun f hf=>by cases hf
   ·show (qjB (qaT s.store s.out) s m).length≤_
    unfold qjB
    split
    ·have:=qpY (qnh (qaT s.store s.out) s.k) m.have_; omega
    ·exact Nat.zero_le _
   ·have he:e∈qjB (qaT s.store s.out) s m:=he
    unfold qjB at he
    split at he
    ·obtain ⟨z,hz,e2⟩:=List.mem_filterMap.1 he
     have oz:=hm.h z hz
     unfold qnh at e2
     split at e2
     ·injection e2 with e2
      rw [←e2]
      exact ⟨oz.id,by show (0:Nat)≤_; decide,oz.vr,oz.vc,by show _≤(0:Int)∧(0:Int)≤_; decide,by show _≤(0:Int)∧(0:Int)≤_; decide⟩
     ·cases e2
    ·cases he
 ·cases hx
theorem qyK (n:Int) {k:Nat} (hk:1≤k∧k≤1000000):∃ j:Nat,j < k∧qeg n (k:Int)=some (j:Int):=by
 have h1:=Int.tmod_lt_of_pos n (b:=(k:Int)) (by omega)
 have h2:=Int.lt_tmod_of_pos n (b:=(k:Int)) (by omega)
 unfold qeg
 rw [qr (by rw [qav.2 (by omega)]; rfl)]
 unfold qp1
 by_cases h:n.tmod k < 0
 ·rw [br_t (q9.2 h),wr64 (by omega) (by omega)]
  exact ⟨(n.tmod k + k).toNat,by omega,by congr 1; omega⟩
 ·rw [br_f (qag.2 (by omega))]
  exact ⟨(n.tmod k).toNat,by omega,by congr 1; omega⟩
theorem qp0 {L:List Msg} {M:Nat} (hM:M≤5000) (hL:∀ x∈L,AnsB x M∧RealE x.l) (hn:1≤L.length∧L.length≤1000000):∀ (l:List Int) (s:State) (x:Sess) (N:Nat),SOk s N→N + 120 * l.length + (if x.over=true then 0 else M)≤50000→1≤s.r∧s.r≤8→mayP s.f=true→SessG x M→qS true L l s x x s=some true
 | [],s,x,N,_,_,_,_,_=>by rw [qS]
 | o::l,s,x,N,h,hN,hr,hf,hx=>by
  rw [List.length_cons] at hN
  obtain ⟨j,hj,ej⟩:=qyK o hn
  have hgl:=qoo hx.g
  obtain ⟨ab,ar⟩:=hL L[j] (List.getElem_mem hj)
  have e1:=qud (m:=L[j]) h (by omega) (by omega) hr hx.b (by omega) ab
  have e2:=qyI (m:=L[j]) h (by omega) (by omega) hx.b (by omega) ab
  have e4:=qAx (qv4 s x L[j])
  have inv:∃ N',SOk (qbM s x L[j]).1 N'∧N' + 120 * l.length + (if (qbM s x L[j]).2.1.over=true then 0 else M)≤50000∧(qbM s x L[j]).1.f=s.f∧(qbM s x L[j]).1.r=s.r∧SessG (qbM s x L[j]).2.1 M:=by
   cases hov:x.over with
   | true =>
    obtain ⟨t1,t2⟩:=qus (s:=s) (m:=L[j]) hov
    rw [t1,t2,hov]
    rw [hov] at hN
    exact ⟨N,h,by simp only [if_true] at hN ⊢; omega,rfl,rfl,hx⟩
   | false =>
    obtain ⟨t1,t2,t3,t4⟩:=qyJ h hx hov ab ar
    rw [hov] at hN
    refine ⟨_,t1,?_,t2,t3,t4⟩
    cases (qbM s x L[j]).2.1.over<;>simp only [if_true,Bool.false_eq_true,if_false] at hN ⊢ <;> omega
  obtain ⟨N',i1,i2,i3,i4,i5⟩:=inv
  have f1:qcx (qbM s x L[j]).1 (qbM s x L[j]).1=some true:=qyy i1 (by omega) (by rw [i3]; exact qAy hf)
  have f2:=i5.same (by omega)
  have ih:=qp0 hM hL hn l (qbM s x L[j]).1 (qbM s x L[j]).2.1 N' i1 i2 (by rw [i4]; exact hr) (by rw [i3]; exact hf) i5
  rw [qS,qh ej,qh (qmK hj)]
  cases hc:errO (qbM s x L[j]).2.2 with
  | none =>
   rw [hc] at e1 e4
   rw [qsb e1,qh e2,qh f1,qh (show qdn (qbM s x L[j]).2.1=some (qbM s x L[j]).2.1 from rfl),qh f2,br_f (by rfl),br_f (by rfl),qh e4,qE,br_f (by rfl)]
   exact ih
  | some n =>
   rw [hc] at e1 e4
   rw [qsa e1,qh e2,qh f1,qh (show qdn (qbM s x L[j]).2.1=some (qbM s x L[j]).2.1 from rfl),qh f2,br_f (by rfl),br_f (by rfl),qh e4,qE,br_f (by rfl)]
   exact ih
theorem qop {s t:Sit} {l:List Int} (ok:s.Ok) (ok2:t.Ok):qcR s t l=some true:=by
 obtain ⟨a,ha,h1⟩:=qpH ok
 obtain ⟨b,hb,h2⟩:=qpH ok2
 unfold qcR
 rw [qh up13,qh ha,qh hb]
 rcases qB5 (h1.imp (fun h=>h) And.left) (h2.imp (fun h=>h) And.left) with h | ⟨rfl,rfl⟩
 ·rw [br_t h]
 ·obtain ⟨-, hst, -, -, -, hk⟩:=h1.resolve_left (by decide)
  obtain ⟨-, hst2, -, -, -, hk2⟩:=h2.resolve_left (by decide)
  have sb:=hst.b hk
  have sb2:=hst2.b hk2
  rw [br_f (by rfl)]
  by_cases hll:l.length≤60
  ·rw [br_f (qag.2 (by omega)),qh (qtw ok hst),qh (qtw ok2 hst2),qh (qwG sb),qh (qwG sb2)]
   cases hm:mayS s.st with
   | false=>rfl
   | true =>
    cases hm2:mayS t.st with
    | false=>rfl
    | true =>
     have mi:=qlt.1 hm
     have so:=qtS hm hst.f hst.store hst.out hk.kt hst.ids
     have so2:=qtS hm2 hst2.f hst2.store hst2.out hk2.kt hst2.ids
     have mb:MsgB (ask0 s.st t.st.r 5):=qCa sb.f sb.fs sb.k sb.ids sb.store sb.sl
     have hf:=(qg5.1 mi.1).2.2
     have e:qac (ask0 s.st t.st.r 5) (ask0 s.st t.st.r 5)=some true:=qtu hst.f (qjT hf) hst.k rfl (by show (s.st.store.map qqW).length≤_; rw [List.length_map]; have:=hst.sl; omega)
     have hle:=so.le
     have hans:=qkf (turn:=1) so2 (by decide) mb
     have hab:=qv5 (turn:=1) so2 (by decide) mb (by show (s.st.store.map qqW).length≤_; rw [List.length_map]; omega)
     rw [br_t rfl,br_f (by rfl),qh (qB3 hst.fs hst.sl hst.k),qh (qAs hst.sl),qh e,qh (quk (turn:=1) so2 (by decide) mb),br_f (by rfl)]
     by_cases h0:(qgc t.st (ask0 s.st t.st.r 5) 1).length=0
     ·rw [br_t (qdB.2 (by omega))]; rfl
     ·rw [br_f (qav.2 (by omega)),qr (qn (by omega))]
      refine qp0 (M:=3660) (by decide) hab ⟨by omega,by have:=hans.1; omega⟩ l s.st (qtt s.st t.st.r 5) 3660 so (by show 3660 + 120 * l.length + 3660≤_; omega) mi.2.2.2.2.1 mi.1 ⟨⟨⟨Nat.zero_le _,Nat.zero_le _⟩,fun f hf=>(by cases hf),.nil,by show 0≤400; decide,by show (0:Int)≤1000; decide,by show 0≤60; decide,fun e he=>by cases he⟩,⟨.nil,fun x hx=>by cases hx⟩,fun e he=>by cases he⟩
  ·rw [br_t (q9.2 (by omega))]
theorem qlx {X:Task→Prop} (hX:qk X) {s t:Sit} {l:List Int} (ok:s.Ok) (ok2:t.Ok) {Q:A→List Blk→Prop} (hQ:Q (bv true) []):X (.call 11 [s.la,t.la,sl (l.map irw)] [] Q):=qhB hX (qop ok ok2) hQ
end
end Go.Proofs.YtidkmoohgadjkaaGreat
