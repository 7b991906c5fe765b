/- Layers 6 to 8, the document's. Written by decomp.py. The document's filters made plain. Written by decomp.py. Filters made plain (layer 4): the document's answer, out of what its code computes. What is known (layers 6, 7), the document's functions: their answers, out of what their code computes. What is known (layers 6, 7), the document's functions: made plain, alike, may be, with a version, joined. Texts in their order; rising items. What is known (layer 7), the program's functions: their answers, out of what their code computes. What is known (layer 7): what it means to be made plain, joined, known with a version. Layers 6 to 8, the document's, more of them. Written by decomp.py. What the statements hand in. Written by decomp.py. The evaluator is sound; facts of the program; arguments by their types. Items as arguments of laws. Lists of items as arguments of laws. What is known, and versions, as arguments of laws. What is known: the answers of the program's and the document's functions. Layers 9 and 11. Written by decomp.py. Lists of items (layer 8), the document's functions: their answers, out of what their code computes. The statements of layer 4, walked. The statements of layer 4, walked. Written by decomp.py. The statements of layer 5, walked. Filters made plain (layer 4): they have the same items, and stay when made plain again. The statement EvalPlain, out of what its code computes. Layers 8, 9, 11: items, states, sessions: what the code computes, as answers. What is  -/
import Derived.Test.YtidkmoohgadjkaaGreatRD
import Derived.Sort.Walk0
import Derived.Test.YtidkmoohgadjkaaGreatRC
set_option linter.unusedVariables false
set_option linter.unusedSimpArgs false
set_option maxRecDepth 100000
set_option maxHeartbeats 0
namespace Go.Proofs.YtidkmoohgadjkaaGreat
open Go E
noncomputable section
open Pred
def ref06_Among_l1 (p1:ByteArray):List ByteArray→Option (Bool)
  | [] =>
  some false
  | x1e::xs1 =>
  (br (eqS x1e p1)
   (some true)
   (ref06_Among_l1 p1 xs1  ))
def ref06_Among_s (p0:List ByteArray) (p1:ByteArray):Option (Bool) :=
 (chk (smallL p0)
   ((ref06_Among_l1 p1) p0 ))
def ref06_Has_l1 (p1:ByteArray) (p2:Ver):List Frag→Option (Bool)
  | [] =>
  some false
  | x1e::xs1 =>
  (bnd (ref06_Among_s x1e.ids p1) fun y5 =>
   (br y5
    (bnd (ref06_HasVec_s x1e.vec p2) fun y8 =>
     (br y8
      (some true)
      (ref06_Has_l1 p1 p2 xs1  )))
    (ref06_Has_l1 p1 p2 xs1  )))
def ref06_Has_s (p0:Know) (p1:ByteArray) (p2:Ver):Option (Bool) :=
 (bnd (ref06_HasVec_s p0.star p2) fun y1 =>
  (br y1
   (some true)
   (chk (smallL p0.l)
     ((ref06_Has_l1 p1 p2) p0.l ))))
def ref06_insert_j2 (p1:ByteArray) (x1e:ByteArray) (k1:Bool→(List ByteArray)→Option ((List ByteArray))) (v4:Bool) (v5:List ByteArray):Option ((List ByteArray)) :=
 (br (!eqS x1e p1)
  (chk (roomL v5.length 1)
   (k1 v4 (v5++[x1e])))
  (k1 v4 v5))
def ref06_insert_l1 (p1:ByteArray):List ByteArray→Bool→(List ByteArray)→Option ((List ByteArray))
  | [],v1,v3 =>
  (br (!v1)
   (chk (roomL v3.length 1)
    (some (v3++[p1])))
   (some v3))
  | x1e::xs1,v1,v3 =>
  (br (!v1)
   (br (ltS p1 x1e || eqS p1 x1e)
    (chk (roomL v3.length 1)
     (ref06_insert_j2 p1 x1e (fun w0 w1=>ref06_insert_l1 p1 xs1  w0 w1) true (v3++[p1])))
    (ref06_insert_j2 p1 x1e (fun w0 w1=>ref06_insert_l1 p1 xs1  w0 w1) v1 v3))
   (ref06_insert_j2 p1 x1e (fun w0 w1=>ref06_insert_l1 p1 xs1  w0 w1) v1 v3))
def ref06_insert_s (p0:List ByteArray) (p1:ByteArray):Option ((List ByteArray)) :=
 (chk (smallL p0)
   ((ref06_insert_l1 p1) p0 false ([]:List ByteArray)))
def ref06_Names_l2 (k1:(List ByteArray)→Option ((List ByteArray))):List ByteArray→(List ByteArray)→Option ((List ByteArray))
  | [],v4 =>
  (k1 v4)
  | x2e::xs2,v4 =>
  (bnd (ref06_insert_s v4 x2e) fun y5 =>
   (ref06_Names_l2 k1 xs2  y5))
def ref06_Names_l1:List Frag→(List ByteArray)→Option ((List ByteArray))
 | [],v2 =>
 some v2
 | x1e::xs1,v2 =>
 (chk (smallL x1e.ids)
  ((ref06_Names_l2 (fun w0=>ref06_Names_l1 xs1  w0)) x1e.ids v2))
def ref06_Names_s (p0:Know):Option ((List ByteArray)) :=
 (chk (smallL p0.l)
   ((ref06_Names_l1) p0.l ([]:List ByteArray)))
def ref06_beyond_j9 (v15:Int) (v16:Int) (v17:Int) (v18:Int) (v19:Int) (v20:Int) (v21:Int) (v22:Int):Option (V8) :=
 some (V8.mk v15 v16 v17 v18 v19 v20 v21 v22)
def ref06_beyond_j8 (p0:Know) (v9:Int) (v15:Int) (v16:Int) (v17:Int) (v18:Int) (v19:Int) (v20:Int) (v21:Int):Option (V8) :=
 (br (leI v9 p0.star.x7)
  (ref06_beyond_j9 v15 v16 v17 v18 v19 v20 v21 0)
  (ref06_beyond_j9 v15 v16 v17 v18 v19 v20 v21 v9))
def ref06_beyond_j7 (p0:Know) (v8:Int) (v9:Int) (v15:Int) (v16:Int) (v17:Int) (v18:Int) (v19:Int) (v20:Int):Option (V8) :=
 (br (leI v8 p0.star.x6)
  (ref06_beyond_j8 p0 v9 v15 v16 v17 v18 v19 v20 0)
  (ref06_beyond_j8 p0 v9 v15 v16 v17 v18 v19 v20 v8))
def ref06_beyond_j6 (p0:Know) (v7:Int) (v8:Int) (v9:Int) (v15:Int) (v16:Int) (v17:Int) (v18:Int) (v19:Int):Option (V8) :=
 (br (leI v7 p0.star.x5)
  (ref06_beyond_j7 p0 v8 v9 v15 v16 v17 v18 v19 0)
  (ref06_beyond_j7 p0 v8 v9 v15 v16 v17 v18 v19 v7))
def ref06_beyond_j5 (p0:Know) (v6:Int) (v7:Int) (v8:Int) (v9:Int) (v15:Int) (v16:Int) (v17:Int) (v18:Int):Option (V8) :=
 (br (leI v6 p0.star.x4)
  (ref06_beyond_j6 p0 v7 v8 v9 v15 v16 v17 v18 0)
  (ref06_beyond_j6 p0 v7 v8 v9 v15 v16 v17 v18 v6))
def ref06_beyond_j4 (p0:Know) (v5:Int) (v6:Int) (v7:Int) (v8:Int) (v9:Int) (v15:Int) (v16:Int) (v17:Int):Option (V8) :=
 (br (leI v5 p0.star.x3)
  (ref06_beyond_j5 p0 v6 v7 v8 v9 v15 v16 v17 0)
  (ref06_beyond_j5 p0 v6 v7 v8 v9 v15 v16 v17 v5))
def ref06_beyond_j3 (p0:Know) (v4:Int) (v5:Int) (v6:Int) (v7:Int) (v8:Int) (v9:Int) (v15:Int) (v16:Int):Option (V8) :=
 (br (leI v4 p0.star.x2)
  (ref06_beyond_j4 p0 v5 v6 v7 v8 v9 v15 v16 0)
  (ref06_beyond_j4 p0 v5 v6 v7 v8 v9 v15 v16 v4))
def ref06_beyond_j2 (p0:Know) (v3:Int) (v4:Int) (v5:Int) (v6:Int) (v7:Int) (v8:Int) (v9:Int) (v15:Int):Option (V8) :=
 (br (leI v3 p0.star.x1)
  (ref06_beyond_j3 p0 v4 v5 v6 v7 v8 v9 v15 0)
  (ref06_beyond_j3 p0 v4 v5 v6 v7 v8 v9 v15 v3))
def ref06_beyond_l1 (p0:Know) (p1:ByteArray):List Frag→Int→Int→Int→Int→Int→Int→Int→Int→Option (V8)
  | [],v2,v3,v4,v5,v6,v7,v8,v9 =>
  (br (leI v2 p0.star.x0)
   (ref06_beyond_j2 p0 v3 v4 v5 v6 v7 v8 v9 0)
   (ref06_beyond_j2 p0 v3 v4 v5 v6 v7 v8 v9 v2))
  | x1e::xs1,v2,v3,v4,v5,v6,v7,v8,v9 =>
  (bnd (ref06_Among_s x1e.ids p1) fun y10 =>
   (br y10
    (bnd (ref06_Max_s (V8.mk v2 v3 v4 v5 v6 v7 v8 v9) x1e.vec) fun y13 =>
     (ref06_beyond_l1 p0 p1 xs1  y13.x0 y13.x1 y13.x2 y13.x3 y13.x4 y13.x5 y13.x6 y13.x7))
    (ref06_beyond_l1 p0 p1 xs1  v2 v3 v4 v5 v6 v7 v8 v9)))
def ref06_beyond_s (p0:Know) (p1:ByteArray):Option (V8) :=
 (chk (smallL p0.l)
   ((ref06_beyond_l1 p0 p1) p0.l 0 0 0 0 0 0 0 0))
def ref06_Plain_j3 (v12:List Frag) (x2e:ByteArray) (y13:V8) (k2:(List Frag)→Option (Know)) (v16:Int):Option (Know) :=
 (br (eqI v16 (v12.length:Int))
  (chk (roomL v12.length 1)
   (bnd (atL (v12++[(Frag.mk ([]:List ByteArray) y13)]) v16) fun x20 =>
    (chk (roomL x20.ids.length 1)
     (k2 ((v12++[(Frag.mk ([]:List ByteArray) y13)]).set v16.toNat (Frag.mk (x20.ids++[x2e]) x20.vec))))))
  (bnd (atL v12 v16) fun x23 =>
   (chk (roomL x23.ids.length 1)
    (k2 (v12.set v16.toNat (Frag.mk (x23.ids++[x2e]) x23.vec))))))
def ref06_Plain_l4 (v12:List Frag) (x2e:ByteArray) (y13:V8) (k2:(List Frag)→Option (Know)):List Frag→Int→Option (Know)
  | [],v26 =>
  (ref06_Plain_j3 v12 x2e y13 k2 v26)
  | x4e::xs4,v26 =>
  (br (!(eq8 x4e.vec y13))
   (ref06_Plain_l4 v12 x2e y13 k2 xs4 (v26 + 1) )
   (ref06_Plain_j3 v12 x2e y13 k2 v26))
def ref06_Plain_l2 (p0:Know):List ByteArray→(List Frag)→Option (Know)
  | [],v12 =>
  some (Know.mk p0.star v12)
  | x2e::xs2,v12 =>
  (bnd (ref06_beyond_s p0 x2e) fun y13 =>
   (br (eq8 y13 (V8.mk 0 0 0 0 0 0 0 0))
    (ref06_Plain_l2 p0 xs2  v12)
    (chk (smallL v12)
      ((ref06_Plain_l4 v12 x2e y13 (fun w0=>ref06_Plain_l2 p0 xs2  w0)) v12 0 ))))
def ref06_Plain_l1 (p0:Know):List ByteArray→Option (Know)
  | [] =>
  some (Know.mk p0.star [])
  | x1e::xs1 =>
  (bnd (ref06_beyond_s p0 x1e) fun y6 =>
   (br (eq8 y6 (V8.mk 0 0 0 0 0 0 0 0))
    (ref06_Plain_l1 p0 xs1  )
    (chk (roomL 0 1)
     ((ref06_Plain_l2 p0) xs1 [(Frag.mk [x1e] y6)]))))
def ref06_Plain_s (p0:Know):Option (Know) :=
 (bnd (ref06_Names_s p0) fun y1 =>
  (chk (smallL y1)
    ((ref06_Plain_l1 p0) y1 )))
def ref06_Alike_l2 (x4:Frag) (k1:Option (Bool)):List ByteArray→Int→Option (Bool)
  | [],v8 =>
  (k1 )
  | x2e::xs2,v8 =>
  (bnd (atL x4.ids v8) fun x9 =>
   (br (!eqS x2e x9)
    (some false)
    (ref06_Alike_l2 x4 k1 xs2 (v8 + 1) )))
def ref06_Alike_l1 (p1:Know):List Frag→Int→Option (Bool)
  | [],v3 =>
  some true
  | x1e::xs1,v3 =>
  (bnd (atL p1.l v3) fun x4 =>
   (br (!(eq8 x1e.vec x4.vec))
    (some false)
    (br (!eqI (x1e.ids.length:Int) (x4.ids.length:Int))
     (some false)
     (chk (smallL x1e.ids)
       ((ref06_Alike_l2 x4 (ref06_Alike_l1 p1 xs1 (v3 + 1))) x1e.ids 0 )))))
def ref06_Alike_s (p0:Know) (p1:Know):Option (Bool) :=
 (br (!(eq8 p0.star p1.star))
  (some false)
  (br (!eqI (p0.l.length:Int) (p1.l.length:Int))
   (some false)
   (chk (smallL p0.l)
     ((ref06_Alike_l1 p1) p0.l 0 ))))
def ref06_May_l2 (k1:Option (Bool)):List ByteArray→Option (Bool)
  | [] =>
  (k1 )
  | x2e::xs2 =>
  (bnd (ref01_Name_s x2e) fun y14 =>
   (br (!y14)
    (some false)
    (ref06_May_l2 k1 xs2  )))
def ref06_May_l1:List Frag→Option (Bool)
  | [] =>
  some true
  | x1e::xs1 =>
  (bnd (ref06_MayVec_s x1e.vec) fun y10 =>
   (br (!y10)
    (some false)
    (chk (smallL x1e.ids)
      ((ref06_May_l2 (ref06_May_l1 xs1 )) x1e.ids ))))
def ref06_May_s (p0:Know):Option (Bool) :=
 (bnd (ref06_Plain_s p0) fun y1 =>
  (bnd (ref06_Alike_s p0 y1) fun y3 =>
   (bnd (ref06_MayVec_s p0.star) fun y5 =>
    (br (!y3)
     (some false)
     (br (!y5)
      (some false)
      (chk (smallL p0.l)
        ((ref06_May_l1) p0.l )))))))
def ref06_Rises_l1 (p0:List Item):Nat→Int→Option (Bool)
  | 0,_=>none
  | fl1 + 1,v1 =>
  (br (ltI v1 (p0.length:Int))
   (bnd (atL p0 v1) fun x3 =>
    (bnd (atL p0 (wr .i64 (v1 - 1))) fun x5 =>
     (br (ltS x3.id x5.id || eqS x3.id x5.id)
      (some false)
      (ref06_Rises_l1 p0 fl1 (wr .i64 (v1 + 1))))))
   (some true))
def ref06_Rises_s (p0:List Item):Option (Bool) :=
 ((ref06_Rises_l1 p0) fuelN 1)
def ref06_Get_l1 (p1:ByteArray):List Item→Option (Item × Bool)
  | [] =>
  some ((Item.mk ⟨#[]⟩ 0 0 0 ⟨#[]⟩ 0 0 0 false),false)
  | x1e::xs1 =>
  (br (eqS x1e.id p1)
   (some (x1e,true))
   (ref06_Get_l1 p1 xs1  ))
def ref06_Get_s (p0:List Item) (p1:ByteArray):Option (Item × Bool) :=
 (chk (smallL p0)
   ((ref06_Get_l1 p1) p0 ))
def ref06_MayList_l1 (p0:List Item):List Item→Option (Bool)
  | [] =>
  (bnd (ref06_Rises_s p0) fun y5 =>
   some y5)
  | x1e::xs1 =>
  (bnd (ref01_May_s x1e) fun y2 =>
   (br (!y2)
    (some false)
    (ref06_MayList_l1 p0 xs1  )))
def ref06_MayList_s (p0:List Item):Option (Bool) :=
 (chk (smallL p0)
   ((ref06_MayList_l1 p0) p0 ))
variable {X:Task→Prop} (hX:Closed X) {Q:A→List Blk→Prop}
include hX
theorem ref06_Among_c  {p0:List ByteArray} {p1:ByteArray} {r:Bool} (h:ref06_Among_s p0 p1=some r) (hQ:Q (.one (.p (.v (.bool r)))) []):X (.call 89 [.one (.p (.sl (p0.map srw))),.one (.p (.v (.string p1)))] [] Q):=by
  have K:=fun a (e:some a=some r)=>ret_some (f:=fun y=>.one (.p (.v (.bool y)))) (g:=fun y=>[]) e hQ
  unfold ref06_Among_s at h
  refine call_intro hX Tryz.func89 rfl rfl ?_
  revert h
  refine chkk fun hs1 h=>?_
  conv=>whnf
  repeat((first|refine dw ?_);conv=>whnf)
  refine loop_lisx0 (fun (v1:Int)=>pad [(0,.one (.p (.sl (p0.map srw)))),(0,.one (.p (.v (.string p1)))),(3,iv v1)] 12) (fun (v1:Int)=>[]) _ p0 (fun pre1 x1e xs1 v1  hl1 hi1 h ih1=>?_) (fun v1  hi1 h=>?_)  h
  ·rw [ref06_Among_l1] at h
   have am1:=at_mid hl1 hi1
   refine loop_intro hX ?_
   conv=>whnf
   repeat((first|refine dw ?_|refine eqv_to (map_len _) ?_|refine bct (lt_mid hl1 hi1) ?_|refine bct (at_in am1) ?_|refine bct (andt (at_in am1) rfl) ?_|refine row_in (at_row am1) ?_|refine bct (andt (at_in (at_nat am1)) rfl) ?_|refine row_in (at_row (at_nat am1)) ?_);conv=>whnf)
   revert h
   refine brk (fun c2 h=>?_) (fun c2 h=>?_)
   ·conv=>whnf
    repeat((first|refine dw ?_|refine bct c2 ?_);conv=>whnf)
    exact K _ h
   ·conv=>whnf
    repeat((first|refine dw ?_|refine bcf c2 ?_);conv=>whnf)
    exact ih1 _  (wrL hs1 hl1 hi1) h
  ·rw [ref06_Among_l1] at h
   refine loop_intro hX ?_
   conv=>whnf
   repeat((first|refine dw ?_|refine eqv_to (map_len _) ?_|refine bcf (lt_end hi1) ?_);conv=>whnf)
   exact K _ h
theorem ref06_Has_c  {p0:Know} {p1:ByteArray} {p2:Ver} {r:Bool} (h:ref06_Has_s p0 p1 p2=some r) (hQ:Q (.one (.p (.v (.bool r)))) []):X (.call 27 [.agg (Know.cs p0),.one (.p (.v (.string p1))),.agg (Ver.cs p2)] [] Q):=by
  have K:=fun a (e:some a=some r)=>ret_some (f:=fun y=>.one (.p (.v (.bool y)))) (g:=fun y=>[]) e hQ
  unfold ref06_Has_s at h
  refine call_intro hX Tryz.func27 rfl rfl ?_
  revert h
  refine bndk fun y1 e2 h=>?_
  conv=>whnf
  repeat((first|refine dw ?_);conv=>whnf)
  refine ref06_HasVec_c hX e2 ?_
  conv=>whnf
  repeat((first|refine dw ?_);conv=>whnf)
  revert h
  refine brk (fun c3 h=>?_) (fun c3 h=>?_)
  ·conv=>whnf
   repeat((first|refine dw ?_|refine bct c3 ?_);conv=>whnf)
   exact K _ h
  ·revert h
   refine chkk fun hs1 h=>?_
   conv=>whnf
   repeat((first|refine dw ?_|refine bcf c3 ?_);conv=>whnf)
   refine loop_lisx0 (fun (v4:Int)=>pad [(1,.one (.p (.v (.string p1)))),(1,.one (.ptr 0 0)),(1,.one (.ptr 1 0)),(1,iv v4)] 29) (fun (v4:Int)=>[.box (Know.cs p0),.box (Ver.cs p2)]) _ p0.l (fun pre1 x1e xs1 v4  hl1 hi1 h ih1=>?_) (fun v4  hi1 h=>?_)  h
   ·rw [ref06_Has_l1] at h
    have am1:=at_mid hl1 hi1
    refine loop_intro hX ?_
    revert h
    refine bndk fun y5 e6 h=>?_
    conv=>whnf
    repeat((first|refine dw ?_|refine eqv_to (map_len _) ?_|refine bct (lt_mid hl1 hi1) ?_|refine bct (at_in am1) ?_|refine bct (andt (at_in am1) rfl) ?_|refine row_in (at_row am1) ?_|refine bct (andt (at_in (at_nat am1)) rfl) ?_|refine row_in (at_row (at_nat am1)) ?_);conv=>whnf)
    refine ref06_Among_c hX e6 ?_
    conv=>whnf
    repeat((first|refine dw ?_);conv=>whnf)
    revert h
    refine brk (fun c7 h=>?_) (fun c7 h=>?_)
    ·revert h
     refine bndk fun y8 e9 h=>?_
     conv=>whnf
     repeat((first|refine dw ?_|refine bct c7 ?_|refine bct (at_in am1) ?_|refine bct (andt (at_in am1) rfl) ?_|refine row_in (at_row am1) ?_|refine bct (andt (at_in (at_nat am1)) rfl) ?_|refine row_in (at_row (at_nat am1)) ?_);conv=>whnf)
     refine ref06_HasVec_c hX e9 ?_
     conv=>whnf
     repeat((first|refine dw ?_|refine bct c7 ?_);conv=>whnf)
     revert h
     refine brk (fun c10 h=>?_) (fun c10 h=>?_)
     ·conv=>whnf
      repeat((first|refine dw ?_|refine bct c10 ?_);conv=>whnf)
      exact K _ h
     ·conv=>whnf
      repeat((first|refine dw ?_|refine bcf c10 ?_);conv=>whnf)
      exact ih1 _  (wrL hs1 hl1 hi1) h
    ·conv=>whnf
     repeat((first|refine dw ?_|refine bcf c7 ?_);conv=>whnf)
     exact ih1 _  (wrL hs1 hl1 hi1) h
   ·rw [ref06_Has_l1] at h
    refine loop_intro hX ?_
    conv=>whnf
    repeat((first|refine dw ?_|refine eqv_to (map_len _) ?_|refine bcf (lt_end hi1) ?_);conv=>whnf)
    exact K _ h
theorem ref06_insert_c  {p0:List ByteArray} {p1:ByteArray} {r:(List ByteArray)} (h:ref06_insert_s p0 p1=some r) (hQ:Q (.one (.own 0)) [.rows 1 (r.map srw)]):X (.call 232 [.one (.p (.sl (p0.map srw))),.one (.p (.v (.string p1)))] [] Q):=by
  have K:=fun a (e:some a=some r)=>ret_some (f:=fun y=>.one (.own 0)) (g:=fun y=>[.rows 1 (y.map srw)]) e hQ
  unfold ref06_insert_s at h
  refine call_intro hX Tryz.func232 rfl rfl ?_
  replace h:=chk_some h
  obtain ⟨hs1,h⟩:=h
  conv=>whnf
  repeat((first|refine dw ?_);conv=>whnf)
  refine loop_k hX [1] ?_
  conv=>whnf
  refine loop_lisx2 (fun (v2:Int) (v1:Bool) (v3:List ByteArray)=>pad [(0,.one (.p (.sl (p0.map srw)))),(0,.one (.p (.v (.string p1)))),(3,.one (.own 0)),(0,.one (.p (.v (.bool v1)))),(0,iv v2)] 40) (fun (v2:Int) (v1:Bool) (v3:List ByteArray)=>[.rows 1 (v3.map srw)]) _ p0 (fun pre1 x1e xs1 v2 v1 v3 hl1 hi1 h ih1=>?_) (fun v2 v1 v3 hi1 h=>?_) false ([]:List ByteArray) h
  ·rw [ref06_insert_l1] at h
   have am1:=at_mid hl1 hi1
   refine loop_intro hX ?_
   apply join2 (X:=X) (r:=r) (fun (v4:Bool) (v5:List ByteArray)=>pad [(0,.one (.p (.sl (p0.map srw)))),(0,.one (.p (.v (.string p1)))),(3,.one (.own 0)),(0,.one (.p (.v (.bool v4)))),(0,iv v2)] 40) (fun (v4:Bool) (v5:List ByteArray)=>[.rows 1 (v5.map srw)])
   ·intro tl2
    conv=>whnf
    repeat((first|refine dw ?_|refine eqv_to (map_len _) ?_|refine bct (lt_mid hl1 hi1) ?_);conv=>whnf)
    refine br_some h (fun c8 g=>?_) (fun c8 g=>?_)
    ·replace h:=g
     clear g
     conv=>whnf
     repeat((first|refine dw ?_|refine bct c8 ?_|refine bct (at_in am1) ?_|refine bct (andt (at_in am1) rfl) ?_|refine row_in (at_row am1) ?_|refine bct (andt (at_in (at_nat am1)) rfl) ?_|refine row_in (at_row (at_nat am1)) ?_);conv=>whnf)
     refine br_some h (fun c9 g=>?_) (fun c9 g=>?_)
     ·replace h:=g
      clear g
      replace h:=chk_some h
      obtain ⟨c10,h⟩:=h
      conv=>whnf
      repeat((first|refine dw ?_|refine bct c9 ?_|refine bct (room_map c10 rfl rfl rfl rfl) ?_|refine eqv_to (cat_one (f:=srw) v3 p1) ?_);conv=>whnf)
      exact tl2.h true (v3++[p1]) h
     ·replace h:=g
      clear g
      conv=>whnf
      repeat((first|refine dw ?_|refine bcf c9 ?_);conv=>whnf)
      exact tl2.h v1 v3 h
    ·replace h:=g
     clear g
     conv=>whnf
     repeat((first|refine dw ?_|refine bcf c8 ?_);conv=>whnf)
     exact tl2.h v1 v3 h
   ·intro v4 v5 h
    unfold ref06_insert_j2 at h
    refine rest_intro hX ?_
    conv=>whnf
    repeat((first|refine dw ?_|refine bct (at_in am1) ?_|refine bct (andt (at_in am1) rfl) ?_|refine row_in (at_row am1) ?_|refine bct (andt (at_in (at_nat am1)) rfl) ?_|refine row_in (at_row (at_nat am1)) ?_);conv=>whnf)
    refine br_some h (fun c6 g=>?_) (fun c6 g=>?_)
    ·replace h:=g
     clear g
     replace h:=chk_some h
     obtain ⟨c7,h⟩:=h
     conv=>whnf
     repeat((first|refine dw ?_|refine bct c6 ?_|refine bct (at_in am1) ?_|refine bct (andt (at_in am1) rfl) ?_|refine row_in (at_row am1) ?_|refine bct (andt (at_in (at_nat am1)) rfl) ?_|refine row_in (at_row (at_nat am1)) ?_|refine bct (room_map c7 rfl rfl rfl rfl) ?_|refine eqv_to (cat_one (f:=srw) v5 x1e) ?_);conv=>whnf)
     exact ih1 _ v4 (v5++[x1e]) (wrL hs1 hl1 hi1) h
    ·replace h:=g
     clear g
     conv=>whnf
     repeat((first|refine dw ?_|refine bcf c6 ?_);conv=>whnf)
     exact ih1 _ v4 v5 (wrL hs1 hl1 hi1) h
  ·rw [ref06_insert_l1] at h
   refine loop_intro hX ?_
   conv=>whnf
   repeat((first|refine dw ?_|refine eqv_to (map_len _) ?_|refine bcf (lt_end hi1) ?_);conv=>whnf)
   refine br_some h (fun c11 g=>?_) (fun c11 g=>?_)
   ·replace h:=g
    clear g
    replace h:=chk_some h
    obtain ⟨c12,h⟩:=h
    conv=>whnf
    repeat((first|refine dw ?_|refine bct c11 ?_|refine bct (room_map c12 rfl rfl rfl rfl) ?_|refine eqv_to (cat_one (f:=srw) v3 p1) ?_);conv=>whnf)
    exact K _ h
   ·replace h:=g
    clear g
    conv=>whnf
    repeat((first|refine dw ?_|refine bcf c11 ?_);conv=>whnf)
    exact K _ h
theorem ref06_Names_c  {p0:Know} {r:(List ByteArray)} (h:ref06_Names_s p0=some r) (hQ:Q (.one (.p (.sl (r.map srw)))) []):X (.call 205 [.agg (Know.cs p0)] [] Q):=by
  unfold ref06_Names_s at h
  refine call_nz hX ?_
  conv=>whnf
  refine call_intro hX Tryz.func205 rfl rfl ?_
  revert h
  refine chkk fun hs1 h=>?_
  conv=>whnf
  repeat((first|refine dw ?_);conv=>whnf)
  refine loop_k hX [1] ?_
  conv=>whnf
  refine loop_lisx1 (fun (v1:Int) (v2:List ByteArray)=>pad [(1,.one (.ptr 0 0)),(1,.one (.own 1)),(0,iv v1)] 31) (fun (v1:Int) (v2:List ByteArray)=>[.box (Know.cs p0),.rows 1 (v2.map srw)]) _ p0.l (fun pre1 x1e xs1 v1 v2 hl1 hi1 h ih1=>?_) (fun v1 v2 hi1 h=>?_) ([]:List ByteArray) h
  ·rw [ref06_Names_l1] at h
   have am1:=at_mid hl1 hi1
   refine loop_intro hX ?_
   revert h
   refine chkk fun hs2 h=>?_
   conv=>whnf
   repeat((first|refine dw ?_|refine eqv_to (map_len _) ?_|refine bct (lt_mid hl1 hi1) ?_);conv=>whnf)
   refine loop_lisx1 (fun (v3:Int) (v4:List ByteArray)=>pad [(1,.one (.ptr 0 0)),(1,.one (.own 1)),(0,iv v1),(0,iv v3)] 30) (fun (v3:Int) (v4:List ByteArray)=>[.box (Know.cs p0),.rows 1 (v4.map srw)]) _ x1e.ids (fun pre2 x2e xs2 v3 v4 hl2 hi2 h ih2=>?_) (fun v3 v4 hi2 h=>?_) v2 h
   ·rw [ref06_Names_l2] at h
    have am2:=at_mid hl2 hi2
    refine loop_intro hX ?_
    revert h
    refine bndk fun y5 e6 h=>?_
    conv=>whnf
    repeat((first|refine dw ?_|refine bct (at_in am1) ?_|refine bct (andt (at_in am1) rfl) ?_|refine row_in (at_row am1) ?_|refine bct (andt (at_in (at_nat am1)) rfl) ?_|refine row_in (at_row (at_nat am1)) ?_|refine eqv_to (map_len _) ?_|refine bct (lt_mid hl2 hi2) ?_|refine bct (at_in am2) ?_|refine bct (andt (at_in am2) rfl) ?_|refine row_in (at_row am2) ?_|refine bct (andt (at_in (at_nat am2)) rfl) ?_|refine row_in (at_row (at_nat am2)) ?_);conv=>whnf)
    refine Or.inl ?_
    conv=>whnf
    refine ref06_insert_c hX e6 ?_
    conv=>whnf
    repeat((first|refine dw ?_);conv=>whnf)
    exact ih2 _ y5 (wrL hs2 hl2 hi2) h
   ·rw [ref06_Names_l2] at h
    refine loop_intro hX ?_
    conv=>whnf
    repeat((first|refine dw ?_|refine bct (at_in am1) ?_|refine bct (andt (at_in am1) rfl) ?_|refine row_in (at_row am1) ?_|refine bct (andt (at_in (at_nat am1)) rfl) ?_|refine row_in (at_row (at_nat am1)) ?_|refine eqv_to (map_len _) ?_|refine bcf (lt_end hi2) ?_);conv=>whnf)
    exact ih1 _ v4 (wrL hs1 hl1 hi1) h
  ·rw [ref06_Names_l1] at h
   refine loop_intro hX ?_
   conv=>whnf
   repeat((first|refine dw ?_|refine eqv_to (map_len _) ?_|refine bcf (lt_end hi1) ?_);conv=>whnf)
   exact ret_some (f:=fun y=>.one (.p (.sl (y.map srw)))) (g:=fun y=>[]) h hQ
theorem ref06_beyond_c  {p0:Know} {p1:ByteArray} {r:V8} (h:ref06_beyond_s p0 p1=some r) (hQ:Q (.agg (V8.cs r)) []):X (.call 206 [.agg (Know.cs p0),.one (.p (.v (.string p1)))] [] Q):=by
  unfold ref06_beyond_s at h
  refine call_intro hX Tryz.func206 rfl rfl ?_
  replace h:=chk_some h
  obtain ⟨hs1,h⟩:=h
  conv=>whnf
  repeat((first|refine dw ?_);conv=>whnf)
  refine loop_lisx8 (fun (v1:Int) (v2:Int) (v3:Int) (v4:Int) (v5:Int) (v6:Int) (v7:Int) (v8:Int) (v9:Int)=>pad [(1,.one (.p (.v (.string p1)))),(0,.one (.ptr 0 0)),(1,.one (.ptr 1 0)),(0,.one (.ptr 2 0)),(0,iv v1)] 39) (fun (v1:Int) (v2:Int) (v3:Int) (v4:Int) (v5:Int) (v6:Int) (v7:Int) (v8:Int) (v9:Int)=>[.box (Know.cs p0),.box [ic 0,ic 0,ic 0,ic 0,ic 0,ic 0,ic 0,ic 0],.box [ic v2,ic v3,ic v4,ic v5,ic v6,ic v7,ic v8,ic v9]]) _ p0.l (fun pre1 x1e xs1 v1 v2 v3 v4 v5 v6 v7 v8 v9 hl1 hi1 h ih1=>?_) (fun v1 v2 v3 v4 v5 v6 v7 v8 v9 hi1 h=>?_) 0 0 0 0 0 0 0 0 h
  ·rw [ref06_beyond_l1] at h
   have am1:=at_mid hl1 hi1
   refine loop_intro hX ?_
   replace h:=bnd_some h
   obtain ⟨y10,e11,h⟩:=h
   conv=>whnf
   repeat((first|refine dw ?_|refine eqv_to (map_len _) ?_|refine bct (lt_mid hl1 hi1) ?_|refine bct (at_in am1) ?_|refine bct (andt (at_in am1) rfl) ?_|refine row_in (at_row am1) ?_|refine bct (andt (at_in (at_nat am1)) rfl) ?_|refine row_in (at_row (at_nat am1)) ?_);conv=>whnf)
   refine ref06_Among_c hX e11 ?_
   conv=>whnf
   repeat((first|refine dw ?_);conv=>whnf)
   refine br_some h (fun c12 g=>?_) (fun c12 g=>?_)
   ·replace h:=g
    clear g
    replace h:=bnd_some h
    obtain ⟨y13,e14,h⟩:=h
    conv=>whnf
    repeat((first|refine dw ?_|refine bct c12 ?_|refine bct (at_in am1) ?_|refine bct (andt (at_in am1) rfl) ?_|refine row_in (at_row am1) ?_|refine bct (andt (at_in (at_nat am1)) rfl) ?_|refine row_in (at_row (at_nat am1)) ?_);conv=>whnf)
    refine ref06_Max_c hX e14 ?_
    conv=>whnf
    repeat((first|refine dw ?_);conv=>whnf)
    exact ih1 _ y13.x0 y13.x1 y13.x2 y13.x3 y13.x4 y13.x5 y13.x6 y13.x7 (wrL hs1 hl1 hi1) h
   ·replace h:=g
    clear g
    conv=>whnf
    repeat((first|refine dw ?_|refine bcf c12 ?_);conv=>whnf)
    exact ih1 _ v2 v3 v4 v5 v6 v7 v8 v9 (wrL hs1 hl1 hi1) h
  ·rw [ref06_beyond_l1] at h
   refine loop_intro hX ?_
   conv=>whnf
   repeat((first|refine dw ?_|refine eqv_to (map_len _) ?_|refine bcf (lt_end hi1) ?_);conv=>whnf)
   refine loop_intro hX ?_
   apply join1 (X:=X) (r:=r) (fun (v15:Int)=>pad [(2,.one (.ptr 0 0)),(1,.one (.ptr 1 0)),(0,.one (.ptr 2 0)),(1,iv 0)] 38) (fun (v15:Int)=>[.box (Know.cs p0),.box [ic 0,ic 0,ic 0,ic 0,ic 0,ic 0,ic 0,ic 0],.box [ic v15,ic v3,ic v4,ic v5,ic v6,ic v7,ic v8,ic v9]])
   ·intro tl2
    conv=>whnf
    repeat((first|refine dw ?_);conv=>whnf)
    refine br_some h (fun c30 g=>?_) (fun c30 g=>?_)
    ·replace h:=g
     clear g
     conv=>whnf
     repeat((first|refine dw ?_|refine bct c30 ?_);conv=>whnf)
     exact tl2.h 0 h
    ·replace h:=g
     clear g
     conv=>whnf
     repeat((first|refine dw ?_|refine bcf c30 ?_);conv=>whnf)
     exact tl2.h v2 h
   ·intro v15 h
    unfold ref06_beyond_j2 at h
    refine rest_intro hX ?_
    conv=>whnf
    repeat((first|refine dw ?_);conv=>whnf)
    refine loop_intro hX ?_
    apply join1 (X:=X) (r:=r) (fun (v16:Int)=>pad [(2,.one (.ptr 0 0)),(1,.one (.ptr 1 0)),(0,.one (.ptr 2 0)),(1,iv 1)] 38) (fun (v16:Int)=>[.box (Know.cs p0),.box [ic 0,ic 0,ic 0,ic 0,ic 0,ic 0,ic 0,ic 0],.box [ic v15,ic v16,ic v4,ic v5,ic v6,ic v7,ic v8,ic v9]])
    ·intro tl3
     conv=>whnf
     repeat((first|refine dw ?_);conv=>whnf)
     refine br_some h (fun c29 g=>?_) (fun c29 g=>?_)
     ·replace h:=g
      clear g
      conv=>whnf
      repeat((first|refine dw ?_|refine bct c29 ?_);conv=>whnf)
      exact tl3.h 0 h
     ·replace h:=g
      clear g
      conv=>whnf
      repeat((first|refine dw ?_|refine bcf c29 ?_);conv=>whnf)
      exact tl3.h v3 h
    ·intro v16 h
     unfold ref06_beyond_j3 at h
     refine rest_intro hX ?_
     conv=>whnf
     repeat((first|refine dw ?_);conv=>whnf)
     refine loop_intro hX ?_
     apply join1 (X:=X) (r:=r) (fun (v17:Int)=>pad [(2,.one (.ptr 0 0)),(1,.one (.ptr 1 0)),(0,.one (.ptr 2 0)),(1,iv 2)] 38) (fun (v17:Int)=>[.box (Know.cs p0),.box [ic 0,ic 0,ic 0,ic 0,ic 0,ic 0,ic 0,ic 0],.box [ic v15,ic v16,ic v17,ic v5,ic v6,ic v7,ic v8,ic v9]])
     ·intro tl4
      conv=>whnf
      repeat((first|refine dw ?_);conv=>whnf)
      refine br_some h (fun c28 g=>?_) (fun c28 g=>?_)
      ·replace h:=g
       clear g
       conv=>whnf
       repeat((first|refine dw ?_|refine bct c28 ?_);conv=>whnf)
       exact tl4.h 0 h
      ·replace h:=g
       clear g
       conv=>whnf
       repeat((first|refine dw ?_|refine bcf c28 ?_);conv=>whnf)
       exact tl4.h v4 h
     ·intro v17 h
      unfold ref06_beyond_j4 at h
      refine rest_intro hX ?_
      conv=>whnf
      repeat((first|refine dw ?_);conv=>whnf)
      refine loop_intro hX ?_
      apply join1 (X:=X) (r:=r) (fun (v18:Int)=>pad [(2,.one (.ptr 0 0)),(1,.one (.ptr 1 0)),(0,.one (.ptr 2 0)),(1,iv 3)] 38) (fun (v18:Int)=>[.box (Know.cs p0),.box [ic 0,ic 0,ic 0,ic 0,ic 0,ic 0,ic 0,ic 0],.box [ic v15,ic v16,ic v17,ic v18,ic v6,ic v7,ic v8,ic v9]])
      ·intro tl5
       conv=>whnf
       repeat((first|refine dw ?_);conv=>whnf)
       refine br_some h (fun c27 g=>?_) (fun c27 g=>?_)
       ·replace h:=g
        clear g
        conv=>whnf
        repeat((first|refine dw ?_|refine bct c27 ?_);conv=>whnf)
        exact tl5.h 0 h
       ·replace h:=g
        clear g
        conv=>whnf
        repeat((first|refine dw ?_|refine bcf c27 ?_);conv=>whnf)
        exact tl5.h v5 h
      ·intro v18 h
       unfold ref06_beyond_j5 at h
       refine rest_intro hX ?_
       conv=>whnf
       repeat((first|refine dw ?_);conv=>whnf)
       refine loop_intro hX ?_
       apply join1 (X:=X) (r:=r) (fun (v19:Int)=>pad [(2,.one (.ptr 0 0)),(1,.one (.ptr 1 0)),(0,.one (.ptr 2 0)),(1,iv 4)] 38) (fun (v19:Int)=>[.box (Know.cs p0),.box [ic 0,ic 0,ic 0,ic 0,ic 0,ic 0,ic 0,ic 0],.box [ic v15,ic v16,ic v17,ic v18,ic v19,ic v7,ic v8,ic v9]])
       ·intro tl6
        conv=>whnf
        repeat((first|refine dw ?_);conv=>whnf)
        refine br_some h (fun c26 g=>?_) (fun c26 g=>?_)
        ·replace h:=g
         clear g
         conv=>whnf
         repeat((first|refine dw ?_|refine bct c26 ?_);conv=>whnf)
         exact tl6.h 0 h
        ·replace h:=g
         clear g
         conv=>whnf
         repeat((first|refine dw ?_|refine bcf c26 ?_);conv=>whnf)
         exact tl6.h v6 h
       ·intro v19 h
        unfold ref06_beyond_j6 at h
        refine rest_intro hX ?_
        conv=>whnf
        repeat((first|refine dw ?_);conv=>whnf)
        refine loop_intro hX ?_
        apply join1 (X:=X) (r:=r) (fun (v20:Int)=>pad [(2,.one (.ptr 0 0)),(1,.one (.ptr 1 0)),(0,.one (.ptr 2 0)),(1,iv 5)] 38) (fun (v20:Int)=>[.box (Know.cs p0),.box [ic 0,ic 0,ic 0,ic 0,ic 0,ic 0,ic 0,ic 0],.box [ic v15,ic v16,ic v17,ic v18,ic v19,ic v20,ic v8,ic v9]])
        ·intro tl7
         conv=>whnf
         repeat((first|refine dw ?_);conv=>whnf)
         refine br_some h (fun c25 g=>?_) (fun c25 g=>?_)
         ·replace h:=g
          clear g
          conv=>whnf
          repeat((first|refine dw ?_|refine bct c25 ?_);conv=>whnf)
          exact tl7.h 0 h
         ·replace h:=g
          clear g
          conv=>whnf
          repeat((first|refine dw ?_|refine bcf c25 ?_);conv=>whnf)
          exact tl7.h v7 h
        ·intro v20 h
         unfold ref06_beyond_j7 at h
         refine rest_intro hX ?_
         conv=>whnf
         repeat((first|refine dw ?_);conv=>whnf)
         refine loop_intro hX ?_
         apply join1 (X:=X) (r:=r) (fun (v21:Int)=>pad [(2,.one (.ptr 0 0)),(1,.one (.ptr 1 0)),(0,.one (.ptr 2 0)),(1,iv 6)] 38) (fun (v21:Int)=>[.box (Know.cs p0),.box [ic 0,ic 0,ic 0,ic 0,ic 0,ic 0,ic 0,ic 0],.box [ic v15,ic v16,ic v17,ic v18,ic v19,ic v20,ic v21,ic v9]])
         ·intro tl8
          conv=>whnf
          repeat((first|refine dw ?_);conv=>whnf)
          refine br_some h (fun c24 g=>?_) (fun c24 g=>?_)
          ·replace h:=g
           clear g
           conv=>whnf
           repeat((first|refine dw ?_|refine bct c24 ?_);conv=>whnf)
           exact tl8.h 0 h
          ·replace h:=g
           clear g
           conv=>whnf
           repeat((first|refine dw ?_|refine bcf c24 ?_);conv=>whnf)
           exact tl8.h v8 h
         ·intro v21 h
          unfold ref06_beyond_j8 at h
          refine rest_intro hX ?_
          conv=>whnf
          repeat((first|refine dw ?_);conv=>whnf)
          refine loop_intro hX ?_
          apply join1 (X:=X) (r:=r) (fun (v22:Int)=>pad [(2,.one (.ptr 0 0)),(1,.one (.ptr 1 0)),(0,.one (.ptr 2 0)),(1,iv 7)] 38) (fun (v22:Int)=>[.box (Know.cs p0),.box [ic 0,ic 0,ic 0,ic 0,ic 0,ic 0,ic 0,ic 0],.box [ic v15,ic v16,ic v17,ic v18,ic v19,ic v20,ic v21,ic v22]])
          ·intro tl9
           conv=>whnf
           repeat((first|refine dw ?_);conv=>whnf)
           refine br_some h (fun c23 g=>?_) (fun c23 g=>?_)
           ·replace h:=g
            clear g
            conv=>whnf
            repeat((first|refine dw ?_|refine bct c23 ?_);conv=>whnf)
            exact tl9.h 0 h
           ·replace h:=g
            clear g
            conv=>whnf
            repeat((first|refine dw ?_|refine bcf c23 ?_);conv=>whnf)
            exact tl9.h v9 h
          ·intro v22 h
           unfold ref06_beyond_j9 at h
           refine rest_intro hX ?_
           conv=>whnf
           repeat((first|refine dw ?_);conv=>whnf)
           refine loop_intro hX ?_
           conv=>whnf
           repeat((first|refine dw ?_);conv=>whnf)
           exact ret_some (f:=fun y=>.agg (V8.cs y)) (g:=fun y=>[]) h hQ
theorem ref06_Plain_c  {p0:Know} {r:Know} (h:ref06_Plain_s p0=some r) (hQ:Q (.agg (Know.cs r)) []):X (.call 153 [.agg (Know.cs p0)] [] Q):=by
  have K:=fun a (e:some a=some r)=>ret_some (f:=fun y=>.agg (Know.cs y)) (g:=fun y=>[]) e hQ
  unfold ref06_Plain_s at h
  refine call_nz hX ?_
  conv=>whnf
  refine call_intro hX Tryz.func153 rfl rfl ?_
  replace h:=bnd_some h
  obtain ⟨y1,e2,h⟩:=h
  conv=>whnf
  repeat((first|refine dw ?_);conv=>whnf)
  refine ref06_Names_c hX e2 ?_
  replace h:=chk_some h
  obtain ⟨hs1,h⟩:=h
  conv=>whnf
  repeat((first|refine dw ?_);conv=>whnf)
  refine loop_nc hX ?_
  conv=>whnf
  refine loop_lisx0 (fun (v5:Int)=>pad [(1,.one (.ptr 0 0)),(0,.one (.ptr 1 0)),(0,.one (.ptr 3 0)),(0,.one (.p (.sl (y1.map srw)))),(0,iv v5)] 69) (fun (v5:Int)=>[.box (Know.cs p0),.box [ic 0,ic 0,ic 0,ic 0,ic 0,ic 0,ic 0,ic 0,.own 2],.rows 0 [],.box [ic p0.star.x0,ic p0.star.x1,ic p0.star.x2,ic p0.star.x3,ic p0.star.x4,ic p0.star.x5,ic p0.star.x6,ic p0.star.x7,.own 4],.rows 0 []]) _ y1 (fun pre1 x1e xs1 v5  hl1 hi1 h ih1=>?_) (fun v5  hi1 h=>?_)  h
  ·rw [ref06_Plain_l1] at h
   have am1:=at_mid hl1 hi1
   refine loop_intro hX ?_
   replace h:=bnd_some h
   obtain ⟨y6,e7,h⟩:=h
   conv=>whnf
   repeat((first|refine dw ?_|refine eqv_to (map_len _) ?_|refine bct (lt_mid hl1 hi1) ?_|refine bct (at_in am1) ?_|refine bct (andt (at_in am1) rfl) ?_|refine row_in (at_row am1) ?_|refine bct (andt (at_in (at_nat am1)) rfl) ?_|refine row_in (at_row (at_nat am1)) ?_);conv=>whnf)
   refine ref06_beyond_c hX e7 ?_
   conv=>whnf
   repeat((first|refine dw ?_);conv=>whnf)
   refine br_some h (fun c8 g=>?_) (fun c8 g=>?_)
   ·replace h:=g
    clear g
    conv=>whnf
    repeat((first|refine dw ?_|with_reducible refine bct (eq8_b c8) ?_|refine bct c8 ?_);conv=>whnf)
    exact ih1 _  (wrL hs1 hl1 hi1) h
   ·replace h:=g
    clear g
    conv=>whnf
    repeat((first|refine dw ?_|with_reducible refine bcf (eq8_b c8) ?_|refine bcf c8 ?_);conv=>whnf)
    refine loop_intro hX ?_
    conv=>whnf
    repeat((first|refine dw ?_|refine eqv_to (b:=0) rfl ?_);conv=>whnf)
    refine rest_intro hX ?_
    replace h:=chk_some h
    obtain ⟨c10,h⟩:=h
    have hs2:=hs1
    conv=>whnf
    repeat((first|refine dw ?_|refine eqv_to (b:=0) rfl ?_|refine Two.r ?_|refine bct (by rfl) ?_|refine bct (by decide) ?_|refine bct (at_in am1) ?_|refine bct (andt (at_in am1) rfl) ?_|refine row_in (at_row am1) ?_|refine bct (andt (at_in (at_nat am1)) rfl) ?_|refine row_in (at_row (at_nat am1)) ?_|refine bct (room_zero c10 rfl rfl rfl rfl) ?_|refine eqv_to (nil_one (f:=srw) x1e) ?_|refine eqv_to (b:=([(Frag.mk [x1e] y6)].map Frag.row)) rfl ?_);conv=>whnf)
    refine loop_nc hX ?_
    conv=>whnf
    refine loop_lisz1 (fun (v11:Int) (v12:List Frag)=>pad [(1,.one (.ptr 0 0)),(0,.one (.ptr 1 0)),(0,.one (.ptr 3 0)),(0,.one (.p (.sl (y1.map srw)))),(0,iv v11)] 69) (fun (v11:Int) (v12:List Frag)=>[.box (Know.cs p0),.box [ic 0,ic 0,ic 0,ic 0,ic 0,ic 0,ic 0,ic 0,.own 2],.rows 0 [],.box [ic p0.star.x0,ic p0.star.x1,ic p0.star.x2,ic p0.star.x3,ic p0.star.x4,ic p0.star.x5,ic p0.star.x6,ic p0.star.x7,.own 4],.nest 9 0 1 (v12.map Frag.row)]) _ y1 _ xs1 _ (next_cut hl1) (next_len hs1 hl1 hi1) (fun pre2 x2e xs2 v11 v12 hl2 hi2 h ih2=>?_) (fun v11 v12 hi2 h=>?_) [(Frag.mk [x1e] y6)] h
    ·rw [ref06_Plain_l2] at h
     have am2:=at_mid hl2 hi2
     refine loop_intro hX ?_
     replace h:=bnd_some h
     obtain ⟨y13,e14,h⟩:=h
     conv=>whnf
     repeat((first|refine dw ?_|refine eqv_to (map_len _) ?_|refine bct (lt_mid hl2 hi2) ?_|refine bct (at_in am2) ?_|refine bct (andt (at_in am2) rfl) ?_|refine row_in (at_row am2) ?_|refine bct (andt (at_in (at_nat am2)) rfl) ?_|refine row_in (at_row (at_nat am2)) ?_);conv=>whnf)
     refine ref06_beyond_c hX e14 ?_
     conv=>whnf
     repeat((first|refine dw ?_);conv=>whnf)
     refine br_some h (fun c15 g=>?_) (fun c15 g=>?_)
     ·replace h:=g
      clear g
      conv=>whnf
      repeat((first|refine dw ?_|with_reducible refine bct (eq8_b c15) ?_|refine bct c15 ?_);conv=>whnf)
      exact ih2 _ v12 (wrL hs2 hl2 hi2) h
     ·replace h:=g
      clear g
      apply join1 (X:=X) (r:=r) (fun (v16:Int)=>pad [(1,.one (.ptr 0 0)),(0,.one (.ptr 1 0)),(0,.one (.ptr 3 0)),(0,.one (.p (.sl (y1.map srw)))),(0,iv v11),(0,.one (.ptr 5 0)),(0,iv v16)] 67) (fun (v16:Int)=>[.box (Know.cs p0),.box [ic 0,ic 0,ic 0,ic 0,ic 0,ic 0,ic 0,ic 0,.own 2],.rows 0 [],.box [ic p0.star.x0,ic p0.star.x1,ic p0.star.x2,ic p0.star.x3,ic p0.star.x4,ic p0.star.x5,ic p0.star.x6,ic p0.star.x7,.own 4],.nest 9 0 1 (v12.map Frag.row),.box (V8.cs y13)])
      ·intro tl3
       replace h:=chk_some h
       obtain ⟨hs4,h⟩:=h
       conv=>whnf
       repeat((first|refine dw ?_|with_reducible refine bcf (eq8_b c15) ?_|refine bcf c15 ?_);conv=>whnf)
       refine loop_list0 (fun (v26:Int)=>pad [(1,.one (.ptr 0 0)),(0,.one (.ptr 1 0)),(0,.one (.ptr 3 0)),(0,.one (.p (.sl (y1.map srw)))),(0,iv v11),(0,.one (.ptr 5 0)),(0,iv v26)] 67) (fun (v26:Int)=>[.box (Know.cs p0),.box [ic 0,ic 0,ic 0,ic 0,ic 0,ic 0,ic 0,ic 0,.own 2],.rows 0 [],.box [ic p0.star.x0,ic p0.star.x1,ic p0.star.x2,ic p0.star.x3,ic p0.star.x4,ic p0.star.x5,ic p0.star.x6,ic p0.star.x7,.own 4],.nest 9 0 1 (v12.map Frag.row),.box (V8.cs y13)]) _ v12 (fun pre4 x4e xs4 v26  hl4 hi4 h ih4=>?_) (fun v26  hi4 h=>?_)  h
       ·rw [ref06_Plain_l4] at h
        have am4:=at_mid hl4 hi4
        refine loop_intro hX ?_
        conv=>whnf
        repeat((first|refine dw ?_|refine eqv_to (map_len _) ?_|refine bct (lt_mid hl4 hi4) ?_|refine bct (at_in am4) ?_|refine bct (andt (at_in am4) rfl) ?_|refine row_in (at_row am4) ?_|refine bct (andt (at_in (at_nat am4)) rfl) ?_|refine row_in (at_row (at_nat am4)) ?_|refine bct (and3 (at_in (at_nat am4)) rfl rfl) ?_|refine bct (andt rfl rfl) ?_);conv=>whnf)
        refine br_some h (fun c27 g=>?_) (fun c27 g=>?_)
        ·replace h:=g
         clear g
         conv=>whnf
         repeat((first|refine dw ?_|refine bct c27 ?_);conv=>whnf)
         exact ih4 _  (wrL hs4 hl4 hi4) h
        ·replace h:=g
         clear g
         conv=>whnf
         repeat((first|refine dw ?_|refine bcf c27 ?_);conv=>whnf)
         exact tl3.h v26 h
       ·rw [ref06_Plain_l4] at h
        refine loop_intro hX ?_
        conv=>whnf
        repeat((first|refine dw ?_|refine eqv_to (map_len _) ?_|refine bcf (lt_end hi4) ?_);conv=>whnf)
        exact tl3.h v26 h
      ·intro v16 h
       unfold ref06_Plain_j3 at h
       refine rest_intro hX ?_
       conv=>whnf
       repeat((first|refine dw ?_|refine eqv_to (map_len _) ?_);conv=>whnf)
       refine br_some h (fun c17 g=>?_) (fun c17 g=>?_)
       ·replace h:=g
        clear g
        replace h:=chk_some h
        obtain ⟨c19,h⟩:=h
        replace h:=bnd_some h
        obtain ⟨x20,a21,h⟩:=h
        replace h:=chk_some h
        obtain ⟨c22,h⟩:=h
        conv=>whnf
        repeat((first|refine dw ?_|refine bct c17 ?_|refine Two.r ?_|refine bct (room_nest c19 rfl rfl rfl) ?_|refine eqv_to (cat_one (f:=Frag.row) v12 (Frag.mk ([]:List ByteArray) y13)) ?_|refine bct (at_in a21) ?_|refine bct (andt (at_in a21) rfl) ?_|refine row_in (at_row a21) ?_|refine bct (andt (at_in (at_nat a21)) rfl) ?_|refine row_in (at_row (at_nat a21)) ?_|refine bct (and3 (at_in (at_nat a21)) rfl rfl) ?_|refine bct (and3 (at_in a21) rfl rfl) ?_|refine bct (at_in am2) ?_|refine bct (andt (at_in am2) rfl) ?_|refine row_in (at_row am2) ?_|refine bct (andt (at_in (at_nat am2)) rfl) ?_|refine row_in (at_row (at_nat am2)) ?_|refine bct (room_map c22 rfl rfl rfl rfl) ?_|refine eqv_to (cat_one (f:=srw) x20.ids x2e) ?_|refine bct (and4 (at_in (at_nat a21)) rfl rfl (natbeq_self _)) ?_|refine bct (and4 (at_in a21) rfl rfl (natbeq_self _)) ?_|refine eqv_to (set_map (f:=Frag.row) (v12++[(Frag.mk ([]:List ByteArray) y13)]) v16.toNat (Frag.mk (x20.ids++[x2e]) x20.vec)) ?_);conv=>whnf)
        exact ih2 _ ((v12++[(Frag.mk ([]:List ByteArray) y13)]).set v16.toNat (Frag.mk (x20.ids++[x2e]) x20.vec)) (wrL hs2 hl2 hi2) h
       ·replace h:=g
        clear g
        replace h:=bnd_some h
        obtain ⟨x23,a24,h⟩:=h
        replace h:=chk_some h
        obtain ⟨c25,h⟩:=h
        conv=>whnf
        repeat((first|refine dw ?_|refine bcf c17 ?_|refine bct (at_in a24) ?_|refine bct (andt (at_in a24) rfl) ?_|refine row_in (at_row a24) ?_|refine bct (andt (at_in (at_nat a24)) rfl) ?_|refine row_in (at_row (at_nat a24)) ?_|refine bct (and3 (at_in (at_nat a24)) rfl rfl) ?_|refine bct (and3 (at_in a24) rfl rfl) ?_|refine bct (at_in am2) ?_|refine bct (andt (at_in am2) rfl) ?_|refine row_in (at_row am2) ?_|refine bct (andt (at_in (at_nat am2)) rfl) ?_|refine row_in (at_row (at_nat am2)) ?_|refine bct (room_map c25 rfl rfl rfl rfl) ?_|refine eqv_to (cat_one (f:=srw) x23.ids x2e) ?_|refine bct (and4 (at_in (at_nat a24)) rfl rfl (natbeq_self _)) ?_|refine bct (and4 (at_in a24) rfl rfl (natbeq_self _)) ?_|refine eqv_to (set_map (f:=Frag.row) v12 v16.toNat (Frag.mk (x23.ids++[x2e]) x23.vec)) ?_);conv=>whnf)
        exact ih2 _ (v12.set v16.toNat (Frag.mk (x23.ids++[x2e]) x23.vec)) (wrL hs2 hl2 hi2) h
    ·rw [ref06_Plain_l2] at h
     refine loop_intro hX ?_
     conv=>whnf
     repeat((first|refine dw ?_|refine eqv_to (map_len _) ?_|refine bcf (lt_end hi2) ?_);conv=>whnf)
     exact K _ h
  ·rw [ref06_Plain_l1] at h
   refine loop_intro hX ?_
   conv=>whnf
   repeat((first|refine dw ?_|refine eqv_to (map_len _) ?_|refine bcf (lt_end hi1) ?_);conv=>whnf)
   exact K _ h
theorem ref06_Alike_c  {p0:Know} {p1:Know} {r:Bool} (h:ref06_Alike_s p0 p1=some r) (hQ:Q (.one (.p (.v (.bool r)))) []):X (.call 103 [.agg (Know.cs p0),.agg (Know.cs p1)] [] Q):=by
  have K:=fun a (e:some a=some r)=>ret_some (f:=fun y=>.one (.p (.v (.bool y)))) (g:=fun y=>[]) e hQ
  unfold ref06_Alike_s at h
  refine call_intro hX Tryz.func103 rfl rfl ?_
  conv=>whnf
  repeat((first|refine dw ?_);conv=>whnf)
  revert h
  refine brk (fun c1 h=>?_) (fun c1 h=>?_)
  ·conv=>whnf
   repeat((first|refine dw ?_|refine bct c1 ?_);conv=>whnf)
   exact K _ h
  ·conv=>whnf
   repeat((first|refine dw ?_|refine bcf c1 ?_|refine eqv_to (map_len _) ?_);conv=>whnf)
   revert h
   refine brk (fun c2 h=>?_) (fun c2 h=>?_)
   ·conv=>whnf
    repeat((first|refine dw ?_|refine bct c2 ?_);conv=>whnf)
    exact K _ h
   ·revert h
    refine chkk fun hs1 h=>?_
    conv=>whnf
    repeat((first|refine dw ?_|refine bcf c2 ?_);conv=>whnf)
    refine loop_list0 (fun (v3:Int)=>pad [(2,.one (.ptr 0 0)),(0,.one (.ptr 1 0)),(1,iv v3)] 82) (fun (v3:Int)=>[.box (Know.cs p0),.box (Know.cs p1)]) _ p0.l (fun pre1 x1e xs1 v3  hl1 hi1 h ih1=>?_) (fun v3  hi1 h=>?_)  h
    ·rw [ref06_Alike_l1] at h
     have am1:=at_mid hl1 hi1
     refine loop_intro hX ?_
     revert h
     refine bndk fun x4 a5 h=>?_
     conv=>whnf
     repeat((first|refine dw ?_|refine eqv_to (map_len _) ?_|refine bct (lt_mid hl1 hi1) ?_|refine bct (at_in am1) ?_|refine bct (andt (at_in am1) rfl) ?_|refine row_in (at_row am1) ?_|refine bct (andt (at_in (at_nat am1)) rfl) ?_|refine row_in (at_row (at_nat am1)) ?_|refine bct (at_in a5) ?_|refine bct (andt (at_in a5) rfl) ?_|refine row_in (at_row a5) ?_|refine bct (andt (at_in (at_nat a5)) rfl) ?_|refine row_in (at_row (at_nat a5)) ?_);conv=>whnf)
     revert h
     refine brk (fun c6 h=>?_) (fun c6 h=>?_)
     ·conv=>whnf
      repeat((first|refine dw ?_|refine bct c6 ?_);conv=>whnf)
      exact K _ h
     ·conv=>whnf
      repeat((first|refine dw ?_|refine bcf c6 ?_|refine bct (at_in am1) ?_|refine bct (andt (at_in am1) rfl) ?_|refine row_in (at_row am1) ?_|refine bct (andt (at_in (at_nat am1)) rfl) ?_|refine row_in (at_row (at_nat am1)) ?_|refine eqv_to (map_len _) ?_|refine bct (at_in a5) ?_|refine bct (andt (at_in a5) rfl) ?_|refine row_in (at_row a5) ?_|refine bct (andt (at_in (at_nat a5)) rfl) ?_|refine row_in (at_row (at_nat a5)) ?_);conv=>whnf)
      revert h
      refine brk (fun c7 h=>?_) (fun c7 h=>?_)
      ·conv=>whnf
       repeat((first|refine dw ?_|refine bct c7 ?_);conv=>whnf)
       exact K _ h
      ·revert h
       refine chkk fun hs2 h=>?_
       conv=>whnf
       repeat((first|refine dw ?_|refine bcf c7 ?_);conv=>whnf)
       refine loop_list0 (fun (v8:Int)=>pad [(2,.one (.ptr 0 0)),(0,.one (.ptr 1 0)),(1,iv v3),(0,iv v8)] 81) (fun (v8:Int)=>[.box (Know.cs p0),.box (Know.cs p1)]) _ x1e.ids (fun pre2 x2e xs2 v8  hl2 hi2 h ih2=>?_) (fun v8  hi2 h=>?_)  h
       ·rw [ref06_Alike_l2] at h
        have am2:=at_mid hl2 hi2
        refine loop_intro hX ?_
        revert h
        refine bndk fun x9 a10 h=>?_
        conv=>whnf
        repeat((first|refine dw ?_|refine bct (at_in am1) ?_|refine bct (andt (at_in am1) rfl) ?_|refine row_in (at_row am1) ?_|refine bct (andt (at_in (at_nat am1)) rfl) ?_|refine row_in (at_row (at_nat am1)) ?_|refine eqv_to (map_len _) ?_|refine bct (lt_mid hl2 hi2) ?_|refine bct (at_in am2) ?_|refine bct (andt (at_in am2) rfl) ?_|refine row_in (at_row am2) ?_|refine bct (andt (at_in (at_nat am2)) rfl) ?_|refine row_in (at_row (at_nat am2)) ?_|refine bct (at_in a5) ?_|refine bct (andt (at_in a5) rfl) ?_|refine row_in (at_row a5) ?_|refine bct (andt (at_in (at_nat a5)) rfl) ?_|refine row_in (at_row (at_nat a5)) ?_|refine bct (at_in a10) ?_|refine bct (andt (at_in a10) rfl) ?_|refine row_in (at_row a10) ?_|refine bct (andt (at_in (at_nat a10)) rfl) ?_|refine row_in (at_row (at_nat a10)) ?_);conv=>whnf)
        revert h
        refine brk (fun c11 h=>?_) (fun c11 h=>?_)
        ·conv=>whnf
         repeat((first|refine dw ?_|refine bct c11 ?_);conv=>whnf)
         exact K _ h
        ·conv=>whnf
         repeat((first|refine dw ?_|refine bcf c11 ?_);conv=>whnf)
         exact ih2 _  (wrL hs2 hl2 hi2) h
       ·rw [ref06_Alike_l2] at h
        refine loop_intro hX ?_
        conv=>whnf
        repeat((first|refine dw ?_|refine bct (at_in am1) ?_|refine bct (andt (at_in am1) rfl) ?_|refine row_in (at_row am1) ?_|refine bct (andt (at_in (at_nat am1)) rfl) ?_|refine row_in (at_row (at_nat am1)) ?_|refine eqv_to (map_len _) ?_|refine bcf (lt_end hi2) ?_);conv=>whnf)
        exact ih1 _  (wrL hs1 hl1 hi1) h
    ·rw [ref06_Alike_l1] at h
     refine loop_intro hX ?_
     conv=>whnf
     repeat((first|refine dw ?_|refine eqv_to (map_len _) ?_|refine bcf (lt_end hi1) ?_);conv=>whnf)
     exact K _ h
theorem ref06_May_c  {p0:Know} {r:Bool} (h:ref06_May_s p0=some r) (hQ:Q (.one (.p (.v (.bool r)))) []):X (.call 77 [.agg (Know.cs p0)] [] Q):=by
  have K:=fun a (e:some a=some r)=>ret_some (f:=fun y=>.one (.p (.v (.bool y)))) (g:=fun y=>[]) e hQ
  unfold ref06_May_s at h
  refine call_intro hX Tryz.func77 rfl rfl ?_
  revert h
  refine bndk fun y1 e2 h=>?_
  conv=>whnf
  repeat((first|refine dw ?_);conv=>whnf)
  refine ref06_Plain_c hX e2 ?_
  revert h
  refine bndk fun y3 e4 h=>?_
  conv=>whnf
  repeat((first|refine dw ?_);conv=>whnf)
  refine ref06_Alike_c hX e4 ?_
  revert h
  refine bndk fun y5 e6 h=>?_
  conv=>whnf
  repeat((first|refine dw ?_);conv=>whnf)
  refine ref06_MayVec_c hX e6 ?_
  conv=>whnf
  repeat((first|refine dw ?_);conv=>whnf)
  revert h
  refine brk (fun c7 h=>?_) (fun c7 h=>?_)
  ·conv=>whnf
   repeat((first|refine dw ?_|refine bct c7 ?_);conv=>whnf)
   exact K _ h
  ·conv=>whnf
   repeat((first|refine dw ?_|refine bcf c7 ?_);conv=>whnf)
   revert h
   refine brk (fun c8 h=>?_) (fun c8 h=>?_)
   ·conv=>whnf
    repeat((first|refine dw ?_|refine bct c8 ?_);conv=>whnf)
    exact K _ h
   ·revert h
    refine chkk fun hs1 h=>?_
    conv=>whnf
    repeat((first|refine dw ?_|refine bcf c8 ?_);conv=>whnf)
    refine loop_lisx0 (fun (v9:Int)=>pad [(1,.one (.ptr 0 0)),(3,iv v9)] 55) (fun (v9:Int)=>[.box (Know.cs p0)]) _ p0.l (fun pre1 x1e xs1 v9  hl1 hi1 h ih1=>?_) (fun v9  hi1 h=>?_)  h
    ·rw [ref06_May_l1] at h
     have am1:=at_mid hl1 hi1
     refine loop_intro hX ?_
     revert h
     refine bndk fun y10 e11 h=>?_
     conv=>whnf
     repeat((first|refine dw ?_|refine eqv_to (map_len _) ?_|refine bct (lt_mid hl1 hi1) ?_|refine bct (at_in am1) ?_|refine bct (andt (at_in am1) rfl) ?_|refine row_in (at_row am1) ?_|refine bct (andt (at_in (at_nat am1)) rfl) ?_|refine row_in (at_row (at_nat am1)) ?_);conv=>whnf)
     refine ref06_MayVec_c hX e11 ?_
     conv=>whnf
     repeat((first|refine dw ?_);conv=>whnf)
     revert h
     refine brk (fun c12 h=>?_) (fun c12 h=>?_)
     ·conv=>whnf
      repeat((first|refine dw ?_|refine bct c12 ?_);conv=>whnf)
      exact K _ h
     ·revert h
      refine chkk fun hs2 h=>?_
      conv=>whnf
      repeat((first|refine dw ?_|refine bcf c12 ?_);conv=>whnf)
      refine loop_lisx0 (fun (v13:Int)=>pad [(1,.one (.ptr 0 0)),(3,iv v9),(1,iv v13)] 53) (fun (v13:Int)=>[.box (Know.cs p0)]) _ x1e.ids (fun pre2 x2e xs2 v13  hl2 hi2 h ih2=>?_) (fun v13  hi2 h=>?_)  h
      ·rw [ref06_May_l2] at h
       have am2:=at_mid hl2 hi2
       refine loop_intro hX ?_
       revert h
       refine bndk fun y14 e15 h=>?_
       conv=>whnf
       repeat((first|refine dw ?_|refine bct (at_in am1) ?_|refine bct (andt (at_in am1) rfl) ?_|refine row_in (at_row am1) ?_|refine bct (andt (at_in (at_nat am1)) rfl) ?_|refine row_in (at_row (at_nat am1)) ?_|refine eqv_to (map_len _) ?_|refine bct (lt_mid hl2 hi2) ?_|refine bct (at_in am2) ?_|refine bct (andt (at_in am2) rfl) ?_|refine row_in (at_row am2) ?_|refine bct (andt (at_in (at_nat am2)) rfl) ?_|refine row_in (at_row (at_nat am2)) ?_);conv=>whnf)
       refine ref01_Name_c hX e15 ?_
       conv=>whnf
       repeat((first|refine dw ?_);conv=>whnf)
       revert h
       refine brk (fun c16 h=>?_) (fun c16 h=>?_)
       ·conv=>whnf
        repeat((first|refine dw ?_|refine bct c16 ?_);conv=>whnf)
        exact K _ h
       ·conv=>whnf
        repeat((first|refine dw ?_|refine bcf c16 ?_);conv=>whnf)
        exact ih2 _  (wrL hs2 hl2 hi2) h
      ·rw [ref06_May_l2] at h
       refine loop_intro hX ?_
       conv=>whnf
       repeat((first|refine dw ?_|refine bct (at_in am1) ?_|refine bct (andt (at_in am1) rfl) ?_|refine row_in (at_row am1) ?_|refine bct (andt (at_in (at_nat am1)) rfl) ?_|refine row_in (at_row (at_nat am1)) ?_|refine eqv_to (map_len _) ?_|refine bcf (lt_end hi2) ?_);conv=>whnf)
       exact ih1 _  (wrL hs1 hl1 hi1) h
    ·rw [ref06_May_l1] at h
     refine loop_intro hX ?_
     conv=>whnf
     repeat((first|refine dw ?_|refine eqv_to (map_len _) ?_|refine bcf (lt_end hi1) ?_);conv=>whnf)
     exact K _ h
theorem ref06_Rises_c  {p0:List Item} {r:Bool} (h:ref06_Rises_s p0=some r) (hQ:Q (.one (.p (.v (.bool r)))) []):X (.call 156 [.one (.p (.sl (p0.map Item.row)))] [] Q):=by
  have K:=fun a (e:some a=some r)=>ret_some (f:=fun y=>.one (.p (.v (.bool y)))) (g:=fun y=>[]) e hQ
  unfold ref06_Rises_s at h
  refine call_intro hX Tryz.func156 rfl rfl ?_
  conv=>whnf
  repeat((first|refine dw ?_);conv=>whnf)
  refine loop_fuel1 (fun (v1:Int)=>pad [(0,.one (.p (.sl (p0.map Item.row)))),(2,iv v1)] 18) (fun (v1:Int)=>[]) _ (fun _ h=>?_) (fun fl1 v1 h ih1=>?_) fuelN 1 h
  ·rw [ref06_Rises_l1] at h
   cases h
  ·rw [ref06_Rises_l1] at h
   refine loop_intro hX ?_
   conv=>whnf
   repeat((first|refine dw ?_|refine eqv_to (map_len _) ?_);conv=>whnf)
   revert h
   refine brk (fun c2 h=>?_) (fun c2 h=>?_)
   ·revert h
    refine bndk fun x3 a4 h=>?_
    revert h
    refine bndk fun x5 a6 h=>?_
    conv=>whnf
    repeat((first|refine dw ?_|refine bct c2 ?_|refine bct (at_in a4) ?_|refine bct (andt (at_in a4) rfl) ?_|refine row_in (at_row a4) ?_|refine bct (andt (at_in (at_nat a4)) rfl) ?_|refine row_in (at_row (at_nat a4)) ?_|refine bct (at_in a6) ?_|refine bct (andt (at_in a6) rfl) ?_|refine row_in (at_row a6) ?_|refine bct (andt (at_in (at_nat a6)) rfl) ?_|refine row_in (at_row (at_nat a6)) ?_);conv=>whnf)
    revert h
    refine brk (fun c7 h=>?_) (fun c7 h=>?_)
    ·conv=>whnf
     repeat((first|refine dw ?_|refine bct c7 ?_);conv=>whnf)
     exact K _ h
    ·conv=>whnf
     repeat((first|refine dw ?_|refine bcf c7 ?_);conv=>whnf)
     exact ih1 (wr .i64 (v1 + 1)) h
   ·conv=>whnf
    repeat((first|refine dw ?_|refine bcf c2 ?_);conv=>whnf)
    exact K _ h
theorem ref06_Get_c  {p0:List Item} {p1:ByteArray} {r:Item × Bool} (h:ref06_Get_s p0 p1=some r) (hQ:Q (.tup [.agg (Item.cs r.1),.one (.p (.v (.bool r.2)))]) []):X (.call 49 [.one (.p (.sl (p0.map Item.row))),.one (.p (.v (.string p1)))] [] Q):=by
  have K:=fun a (e:some a=some r)=>ret_some (f:=fun y=>.tup [.agg (Item.cs y.1),.one (.p (.v (.bool y.2)))]) (g:=fun y=>[]) e hQ
  unfold ref06_Get_s at h
  refine call_intro hX Tryz.func49 rfl rfl ?_
  revert h
  refine chkk fun hs1 h=>?_
  conv=>whnf
  repeat((first|refine dw ?_);conv=>whnf)
  refine loop_lisx0 (fun (v1:Int)=>pad [(0,.one (.p (.sl (p0.map Item.row)))),(0,.one (.p (.v (.string p1)))),(2,.one (.ptr 0 0)),(1,iv v1)] 18) (fun (v1:Int)=>[.box [.p (.v (.string ⟨#[]⟩)),ic 0,ic 0,ic 0,.p (.v (.string ⟨#[]⟩)),ic 0,.p (.v (.complex .f64 0 0)),.p (.v (.bool false))]]) _ p0 (fun pre1 x1e xs1 v1  hl1 hi1 h ih1=>?_) (fun v1  hi1 h=>?_)  h
  ·rw [ref06_Get_l1] at h
   have am1:=at_mid hl1 hi1
   refine loop_intro hX ?_
   conv=>whnf
   repeat((first|refine dw ?_|refine eqv_to (map_len _) ?_|refine bct (lt_mid hl1 hi1) ?_|refine bct (at_in am1) ?_|refine bct (andt (at_in am1) rfl) ?_|refine row_in (at_row am1) ?_|refine bct (andt (at_in (at_nat am1)) rfl) ?_|refine row_in (at_row (at_nat am1)) ?_);conv=>whnf)
   revert h
   refine brk (fun c2 h=>?_) (fun c2 h=>?_)
   ·conv=>whnf
    repeat((first|refine dw ?_|refine bct c2 ?_|refine bct (at_in am1) ?_|refine bct (andt (at_in am1) rfl) ?_|refine row_in (at_row am1) ?_|refine bct (andt (at_in (at_nat am1)) rfl) ?_|refine row_in (at_row (at_nat am1)) ?_);conv=>whnf)
    exact K _ h
   ·conv=>whnf
    repeat((first|refine dw ?_|refine bcf c2 ?_);conv=>whnf)
    exact ih1 _  (wrL hs1 hl1 hi1) h
  ·rw [ref06_Get_l1] at h
   refine loop_intro hX ?_
   conv=>whnf
   repeat((first|refine dw ?_|refine eqv_to (map_len _) ?_|refine bcf (lt_end hi1) ?_);conv=>whnf)
   exact K _ h
theorem ref06_MayList_c  {p0:List Item} {r:Bool} (h:ref06_MayList_s p0=some r) (hQ:Q (.one (.p (.v (.bool r)))) []):X (.call 81 [.one (.p (.sl (p0.map Item.row)))] [] Q):=by
  have K:=fun a (e:some a=some r)=>ret_some (f:=fun y=>.one (.p (.v (.bool y)))) (g:=fun y=>[]) e hQ
  unfold ref06_MayList_s at h
  refine call_intro hX Tryz.func81 rfl rfl ?_
  revert h
  refine chkk fun hs1 h=>?_
  conv=>whnf
  repeat((first|refine dw ?_);conv=>whnf)
  refine loop_lisx0 (fun (v1:Int)=>pad [(0,.one (.p (.sl (p0.map Item.row)))),(2,iv v1)] 16) (fun (v1:Int)=>[]) _ p0 (fun pre1 x1e xs1 v1  hl1 hi1 h ih1=>?_) (fun v1  hi1 h=>?_)  h
  ·rw [ref06_MayList_l1] at h
   have am1:=at_mid hl1 hi1
   refine loop_intro hX ?_
   revert h
   refine bndk fun y2 e3 h=>?_
   conv=>whnf
   repeat((first|refine dw ?_|refine eqv_to (map_len _) ?_|refine bct (lt_mid hl1 hi1) ?_|refine bct (at_in am1) ?_|refine bct (andt (at_in am1) rfl) ?_|refine row_in (at_row am1) ?_|refine bct (andt (at_in (at_nat am1)) rfl) ?_|refine row_in (at_row (at_nat am1)) ?_);conv=>whnf)
   refine ref01_May_c hX e3 ?_
   conv=>whnf
   repeat((first|refine dw ?_);conv=>whnf)
   revert h
   refine brk (fun c4 h=>?_) (fun c4 h=>?_)
   ·conv=>whnf
    repeat((first|refine dw ?_|refine bct c4 ?_);conv=>whnf)
    exact K _ h
   ·conv=>whnf
    repeat((first|refine dw ?_|refine bcf c4 ?_);conv=>whnf)
    exact ih1 _  (wrL hs1 hl1 hi1) h
  ·rw [ref06_MayList_l1] at h
   refine loop_intro hX ?_
   revert h
   refine bndk fun y5 e6 h=>?_
   conv=>whnf
   repeat((first|refine dw ?_|refine eqv_to (map_len _) ?_|refine bcf (lt_end hi1) ?_);conv=>whnf)
   refine ref06_Rises_c hX e6 ?_
   conv=>whnf
   repeat((first|refine dw ?_);conv=>whnf)
   exact K _ h
end
end Go.Proofs.YtidkmoohgadjkaaGreat
set_option maxHeartbeats 0
namespace Go.Proofs.YtidkmoohgadjkaaGreat
open Go E
noncomputable section
end
end Go.Proofs.YtidkmoohgadjkaaGreat
namespace Go.Proofs.YtidkmoohgadjkaaGreat
open Go E Pred
section
variable {α β:Type}
theorem br_if (c:Bool) (x y:Option α):br c x y=if c=true then x else y:=by cases c<;>rfl
theorem br_t {c:Bool} {x y:Option α} (h:c=true):br c x y=x:=by rw [h]; rfl
theorem br_f {c:Bool} {x y:Option α} (h:c=false):br c x y=y:=by rw [h]; rfl
theorem chk_t {c:Bool} {x:Option α} (h:c=true):chk c x=x:=by rw [h]; rfl
theorem bnd_of {x:Option α} {a:α} {f:α→Option β} (h:x=some a):bnd x f=f a:=by rw [h]; rfl
theorem roomL_of {a b:Nat} (h:a + b≤1000000):roomL a b=true:=decide_eq_true h
theorem smallL_of {l:List α} (h:l.length≤1000000000):smallL l=true:=decide_eq_true (by omega)
theorem atL_of {l:List α} {j:Nat} (h:j < l.length):atL l (j:Int)=some l[j]:=by
 unfold atL; rw [if_pos (by omega),Int.toNat_natCast,List.getElem?_eq_getElem h]
end
noncomputable section
open Classical
theorem rsame_s {p q:Pred} (h:p.Ok):ref03_Same_s p q=some (sameP p q):=by
 unfold ref03_Same_s; rw [chk_t (decide_eq_true h)]
end
end Go.Proofs.YtidkmoohgadjkaaGreat
namespace Go.Proofs.YtidkmoohgadjkaaGreat
open Go E Pred
noncomputable section
open Classical
def memB (l:List ByteArray) (x:ByteArray):Bool:=l.any fun y=>eqS y x
theorem among_l (x:ByteArray):∀ l:List ByteArray,ref06_Among_l1 x l=some (memB l x)
 | []=>by rw [ref06_Among_l1]; rfl
 | y::l=>by
  rw [ref06_Among_l1,among_l x l]
  unfold memB
  rw [List.any_cons]
  cases eqS y x<;>rfl
theorem among_s {l:List ByteArray} {x:ByteArray} (h:l.length≤1000000000):ref06_Among_s l x=some (memB l x):=by
 unfold ref06_Among_s; rw [chk_t (smallL_of h),among_l]
def hasF (f:Frag) (id:ByteArray) (r c:Int):Bool:=memB f.ids id&&hasV f.vec r c
def hasK (k:Know) (id:ByteArray) (r c:Int):Bool:=hasV k.star r c || k.l.any fun f=>hasF f id r c
structure KB (k:Know) (N:Nat):Prop where
 l:k.l.length≤N
 ids:∀ f∈k.l,f.ids.length≤N
theorem hasK_l {id:ByteArray} {v:Ver}:∀ l:List Frag,(∀ f∈l,f.ids.length≤1000000000)→ref06_Has_l1 id v l=some (l.any fun f=>hasF f id v.r v.c)
 | [],_=>by rw [ref06_Has_l1]; rfl
 | f::l,h=>by
  rw [ref06_Has_l1,bnd_of (among_s (h f (List.mem_cons_self ..))),bnd_of (show ref06_HasVec_s f.vec v=some (hasV f.vec v.r v.c) from rfl),hasK_l l fun g hg=>h g (List.mem_cons_of_mem _ hg),List.any_cons]
  unfold hasF
  cases memB f.ids id<;>cases hasV f.vec v.r v.c<;>rfl
theorem hasK_s {k:Know} {id:ByteArray} {v:Ver} {N:Nat} (hN:N≤1000000000) (h:KB k N):ref06_Has_s k id v=some (hasK k id v.r v.c):=by
 unfold ref06_Has_s hasK
 rw [bnd_of (show ref06_HasVec_s k.star v=some (hasV k.star v.r v.c) from rfl),chk_t (smallL_of (Nat.le_trans h.l hN)),hasK_l _ fun f hf=>Nat.le_trans (h.ids f hf) hN]
 cases hasV k.star v.r v.c<;>rfl
def insG (x:ByteArray):Bool→List ByteArray→List ByteArray
 | v,[]=>if v then [] else [x]
 | v,y::ys=>(if !v&&(ltS x y || eqS x y) then [x] else [])++((if eqS y x then [] else [y])++insG x (v || (ltS x y || eqS x y)) ys)
def insV (l:List ByteArray) (x:ByteArray):List ByteArray:=insG x false l
theorem insG_len (x:ByteArray):∀ (l:List ByteArray) (v:Bool),(insG x v l).length≤l.length + (if v then 0 else 1)
 | [],v=>by cases v<;>simp [insG]
 | y::ys,v=>by
  rw [insG,List.length_append,List.length_append,List.length_cons]
  generalize (ltS x y || eqS x y)=w
  have h1:=insG_len x ys true
  have h2:=insG_len x ys false
  have h3:(if eqS y x=true then ([]:List ByteArray) else [y]).length≤1:=by split<;>simp
  cases v<;>cases w<;>simp at h1 h2 ⊢ <;> omega
theorem insert_j {x y:ByteArray} {k:Bool→List ByteArray→Option (List ByteArray)} {v:Bool} {acc:List ByteArray} (h:acc.length≤999999):ref06_insert_j2 x y k v acc=k v (acc++(if eqS y x then [] else [y])):=by
 unfold ref06_insert_j2
 cases eqS y x with
 | true=>rw [br_f (by rfl)]; simp
 | false=>rw [br_t (by rfl),chk_t (roomL_of (by omega))]; rfl
theorem insert_l {x:ByteArray}:∀ (l:List ByteArray) (v:Bool) (acc:List ByteArray),acc.length + l.length + (if v then 0 else 1)≤999990→ref06_insert_l1 x l v acc=some (acc++insG x v l)
 | [],v,acc,h=>by
  rw [ref06_insert_l1,insG]
  cases v with
  | true=>simp [br]
  | false=>rw [br_t (by rfl),chk_t (roomL_of (by simp at h; omega))]; rfl
 | y::l,v,acc,h=>by
  rw [List.length_cons] at h
  have e2:∀ (v':Bool) (a:List ByteArray),a.length + l.length + (if v' then 0 else 1)≤999989→ref06_insert_l1 x l v' (a++if eqS y x=true then [] else [y])=some ((a++if eqS y x=true then [] else [y])++insG x v' l):=fun v' a ha =>
   insert_l l v' _ (by
    have h3:(if eqS y x=true then ([]:List ByteArray) else [y]).length≤1:=by split<;>simp
    rw [List.length_append]; omega)
  rw [ref06_insert_l1,insG]
  cases v with
  | true =>
   simp only [if_true] at h
   rw [br_f (by rfl),insert_j (by omega),e2 true acc (by simp; omega)]
   simp
  | false =>
   simp only [Bool.false_eq_true,if_false] at h
   rw [br_t (by rfl)]
   cases hlt:(ltS x y || eqS x y) with
   | true =>
    rw [br_t (by rfl),chk_t (roomL_of (by omega)),insert_j (by rw [List.length_append]; simp; omega),e2 true (acc++[x]) (by rw [List.length_append]; simp; omega)]
    simp
   | false =>
    rw [br_f (by rfl),insert_j (by omega),e2 false acc (by simp; omega)]
    simp
theorem insert_s {l:List ByteArray} {x:ByteArray} (h:l.length≤999980):ref06_insert_s l x=some (insV l x):=by
 unfold ref06_insert_s; rw [chk_t (smallL_of (by omega)),insert_l l false [] (by simp; omega)]; rfl
def namesG (acc:List ByteArray) (l:List Frag):List ByteArray:=l.foldl (fun a f=>f.ids.foldl insV a) acc
theorem ins_fold_len:∀ (l acc:List ByteArray),(l.foldl insV acc).length≤acc.length + l.length
 | [],acc=>Nat.le_refl _
 | x::l,acc=>by
  have h1:=ins_fold_len l (insV acc x)
  have h2:(insV acc x).length≤acc.length + 1:=insG_len x acc false
  rw [List.foldl_cons,List.length_cons]; omega
theorem names_l2 {k:List ByteArray→Option (List ByteArray)}:∀ (l acc:List ByteArray),acc.length + l.length≤999980→ref06_Names_l2 k l acc=k (l.foldl insV acc)
 | [],acc,_=>by rw [ref06_Names_l2]; rfl
 | x::l,acc,h=>by
  rw [List.length_cons] at h
  have h2:(insV acc x).length≤acc.length + 1:=insG_len x acc false
  rw [ref06_Names_l2,bnd_of (insert_s (by omega)),names_l2 l _ (by omega)]; rfl
def namesK (k:Know):List ByteArray:=namesG [] k.l
def cutI (a s:Int):Int:=if leI a s then 0 else a
def cutV (v s:V8):V8:=⟨cutI v.x0 s.x0,cutI v.x1 s.x1,cutI v.x2 s.x2,cutI v.x3 s.x3,cutI v.x4 s.x4,cutI v.x5 s.x5,cutI v.x6 s.x6,cutI v.x7 s.x7⟩
def zero8:V8:=⟨0,0,0,0,0,0,0,0⟩
def sumV (id:ByteArray) (l:List Frag) (acc:V8):V8:=l.foldl (fun a f=>if memB f.ids id then maxV a f.vec else a) acc
def beyondV (k:Know) (id:ByteArray):V8:=cutV (sumV id k.l zero8) k.star
theorem cut_br {α:Type} {a s:Int} {f:Int→Option α}:br (leI a s) (f 0) (f a)=f (cutI a s):=by
 unfold cutI; cases leI a s<;>rfl
theorem beyond_l {k:Know} {id:ByteArray}:∀ (l:List Frag) (a0 a1 a2 a3 a4 a5 a6 a7:Int),(∀ f∈l,f.ids.length≤1000000000)→ref06_beyond_l1 k id l a0 a1 a2 a3 a4 a5 a6 a7=some (cutV (sumV id l ⟨a0,a1,a2,a3,a4,a5,a6,a7⟩) k.star)
 | [],a0,a1,a2,a3,a4,a5,a6,a7,_=>by
  rw [ref06_beyond_l1,cut_br (f:=fun x=>ref06_beyond_j2 k a1 a2 a3 a4 a5 a6 a7 x)]
  unfold ref06_beyond_j2
  rw [cut_br (f:=fun x=>ref06_beyond_j3 k a2 a3 a4 a5 a6 a7 _ x)]
  unfold ref06_beyond_j3
  rw [cut_br (f:=fun x=>ref06_beyond_j4 k a3 a4 a5 a6 a7 _ _ x)]
  unfold ref06_beyond_j4
  rw [cut_br (f:=fun x=>ref06_beyond_j5 k a4 a5 a6 a7 _ _ _ x)]
  unfold ref06_beyond_j5
  rw [cut_br (f:=fun x=>ref06_beyond_j6 k a5 a6 a7 _ _ _ _ x)]
  unfold ref06_beyond_j6
  rw [cut_br (f:=fun x=>ref06_beyond_j7 k a6 a7 _ _ _ _ _ x)]
  unfold ref06_beyond_j7
  rw [cut_br (f:=fun x=>ref06_beyond_j8 k a7 _ _ _ _ _ _ x)]
  unfold ref06_beyond_j8
  rw [cut_br (f:=fun x=>ref06_beyond_j9 _ _ _ _ _ _ _ x)]
  rfl
 | f::l,a0,a1,a2,a3,a4,a5,a6,a7,h=>by
  have ih:=fun b0 b1 b2 b3 b4 b5 b6 b7=>beyond_l (k:=k) (id:=id) l b0 b1 b2 b3 b4 b5 b6 b7 fun g hg=>h g (List.mem_cons_of_mem _ hg)
  rw [ref06_beyond_l1,bnd_of (among_s (h f (List.mem_cons_self ..)))]
  unfold sumV
  rw [List.foldl_cons]
  cases memB f.ids id with
  | true=>rw [br_t (by rfl),bnd_of (show ref06_Max_s ⟨a0,a1,a2,a3,a4,a5,a6,a7⟩ f.vec=some (maxV ⟨a0,a1,a2,a3,a4,a5,a6,a7⟩ f.vec) from rfl),ih]; rfl
  | false=>rw [br_f (by rfl),ih]; rfl
theorem beyond_s {k:Know} {id:ByteArray} {N:Nat} (hN:N≤1000000000) (h:KB k N):ref06_beyond_s k id=some (beyondV k id):=by
 unfold ref06_beyond_s
 rw [chk_t (smallL_of (Nat.le_trans h.l hN)),beyond_l _ _ _ _ _ _ _ _ _ fun f hf=>Nat.le_trans (h.ids f hf) hN]; rfl
end
end Go.Proofs.YtidkmoohgadjkaaGreat
namespace Go.Proofs.YtidkmoohgadjkaaGreat
open Go E Pred
noncomputable section
open Classical
def addF (id:ByteArray) (v:V8):List Frag→List Frag
 | []=>[⟨[id],v⟩]
 | f::fs=>if eq8 f.vec v then ⟨f.ids++[id],f.vec⟩::fs else f::addF id v fs
theorem at_app {α:Type} (l:List α) (x:α) (m:List α):atL (l++x::m) (l.length:Int)=some x:=at_mid (l:=l++x::m) rfl rfl
theorem set_app {α:Type} (l:List α) (x y:α) (m:List α):(l++x::m).set l.length y=l++y::m:=by simp
theorem plain_j3 {id:ByteArray} {v:V8} {k:List Frag→Option Know} {pre xs:List Frag} (h1:(pre++xs).length≤999990) (h2:∀ f∈pre++xs,f.ids.length≤999990) (hx:∀ f fs,xs=f::fs→eq8 f.vec v=true) :
  ref06_Plain_j3 (pre++xs) id v k (pre.length:Int)=k (pre++addF id v xs):=by
 unfold ref06_Plain_j3
 match xs,h1,h2,hx with
 | [],h1,h2,_ =>
  rw [List.append_nil] at h1 ⊢
  rw [br_t (by rw [eqI_t]),chk_t (roomL_of (by omega)),bnd_of (at_app pre _ []),chk_t (roomL_of (by simp))]
  rw [Int.toNat_natCast,set_app]; rfl
 | f::fs,h1,h2,hx =>
  have hf:=h2 f (by simp)
  rw [br_f (by rw [eqI_f]; simp; omega),bnd_of (at_app pre f fs),chk_t (roomL_of (by omega)),Int.toNat_natCast,set_app,addF,if_pos (hx f fs rfl)]
theorem plain_l4 {id:ByteArray} {v:V8} {k:List Frag→Option Know}:∀ (xs pre:List Frag),(pre++xs).length≤999990→(∀ f∈pre++xs,f.ids.length≤999990)→ref06_Plain_l4 (pre++xs) id v k xs (pre.length:Int)=k (pre++addF id v xs)
 | [],pre,h1,h2=>by rw [ref06_Plain_l4]; exact plain_j3 h1 h2 (fun _ _ e=>by cases e)
 | f::xs,pre,h1,h2=>by
  rw [ref06_Plain_l4]
  cases he:eq8 f.vec v with
  | true=>rw [br_f (by rfl)]; exact plain_j3 h1 h2 (fun g gs e=>by injection e with e1 e2; rw [←e1]; exact he)
  | false =>
   rw [br_t (by rfl),addF,if_neg (by rw [he]; simp)]
   have ih:=plain_l4 (id:=id) (v:=v) (k:=k) xs (pre++[f]) (by simpa using h1) (by simpa using h2)
   rw [List.append_assoc,List.append_assoc,List.length_append] at ih
   exact ih
def stepP (k:Know) (out:List Frag) (id:ByteArray):List Frag:=if eq8 (beyondV k id) zero8 then out else addF id (beyondV k id) out
theorem addF_len (id:ByteArray) (v:V8):∀ l:List Frag,(addF id v l).length≤l.length + 1
 | []=>by simp [addF]
 | f::l=>by rw [addF]; have:=addF_len id v l; split<;>simp<;>omega
theorem addF_ids {id:ByteArray} {v:V8} {n:Nat}:∀ {l:List Frag},(∀ f∈l,f.ids.length≤n)→∀ f∈addF id v l,f.ids.length≤n + 1
 | [],_,f,hf=>by rw [addF,List.mem_singleton] at hf; rw [hf]; simp
 | g::l,h,f,hf=>by
  rw [addF] at hf
  have hg:=h g (List.mem_cons_self ..)
  split at hf
  ·rcases List.mem_cons.1 hf with rfl | hf
   ·simp; exact hg
   ·have:=h f (List.mem_cons_of_mem _ hf); omega
  ·rcases List.mem_cons.1 hf with rfl | hf
   ·omega
   ·exact addF_ids (l:=l) (fun x hx=>h x (List.mem_cons_of_mem _ hx)) f hf
theorem stepP_len {k:Know} {out:List Frag} {id:ByteArray} {n:Nat} (h1:out.length≤n) (h2:∀ f∈out,f.ids.length≤n):(stepP k out id).length≤n + 1∧∀ f∈stepP k out id,f.ids.length≤n + 1:=by
 unfold stepP
 split
 ·exact ⟨by omega,fun f hf=>by have:=h2 f hf; omega⟩
 ·exact ⟨by have:=addF_len id (beyondV k id) out; omega,addF_ids h2⟩
theorem stepP_t {k:Know} {out:List Frag} {id:ByteArray} (h:eq8 (beyondV k id) zero8=true):stepP k out id=out:=by unfold stepP; rw [if_pos h]
theorem stepP_f {k:Know} {out:List Frag} {id:ByteArray} (h:eq8 (beyondV k id) zero8=false):stepP k out id=addF id (beyondV k id) out:=by unfold stepP; rw [if_neg (by rw [h]; simp)]
def plainK (k:Know):Know:=⟨k.star,(namesK k).foldl (stepP k) []⟩
def eqL:List ByteArray→List ByteArray→Bool
 | [],[]=>true
 | x::xs,y::ys=>eqS x y&&eqL xs ys
 | _,_=>false
def alikeF (f g:Frag):Bool:=eq8 f.vec g.vec&&eqL f.ids g.ids
def alikeL:List Frag→List Frag→Bool
 | [],[]=>true
 | x::xs,y::ys=>alikeF x y&&alikeL xs ys
 | _,_=>false
def alikeK (a b:Know):Bool:=eq8 a.star b.star&&alikeL a.l b.l
theorem eqL_len:∀ {a b:List ByteArray},a.length≠b.length→eqL a b=false
 | [],[],h=>absurd rfl h
 | x::xs,y::ys,h=>by rw [eqL,eqL_len (a:=xs) (b:=ys) (by simpa using h),Bool.and_false]
 | [],_::_,_=>rfl
 | _::_,[],_=>rfl
theorem alikeL_len:∀ {a b:List Frag},a.length≠b.length→alikeL a b=false
 | [],[],h=>absurd rfl h
 | x::xs,y::ys,h=>by rw [alikeL,alikeL_len (a:=xs) (b:=ys) (by simpa using h),Bool.and_false]
 | [],_::_,_=>rfl
 | _::_,[],_=>rfl
theorem alike_l2 {k:Option Bool}:∀ (xs pre ys:List ByteArray) (g:Frag),g.ids=pre++ys→xs.length=ys.length→ref06_Alike_l2 g k xs (pre.length:Int)=if eqL xs ys then k else some false
 | [],pre,[],g,_,_=>by rw [ref06_Alike_l2]; rfl
 | x::xs,pre,y::ys,g,hg,hl=>by
  have ih:=alike_l2 (k:=k) xs (pre++[y]) ys g (by simpa using hg) (by simpa using hl)
  rw [List.length_append] at ih
  rw [ref06_Alike_l2,bnd_of (by rw [hg]; exact at_app pre y ys),eqL]
  cases eqS x y with
  | false=>rfl
  | true=>rw [br_f (by rfl),Bool.true_and]; exact ih
 | [],_,_::_,_,_,h=>by simp at h
 | _::_,_,[],_,_,h=>by simp at h
theorem alike_l1:∀ (fs pre gs:List Frag) (b:Know),b.l=pre++gs→fs.length=gs.length→(∀ f∈fs,f.ids.length≤1000000000)→ref06_Alike_l1 b fs (pre.length:Int)=some (alikeL fs gs)
 | [],pre,[],b,_,_,_=>by rw [ref06_Alike_l1]; rfl
 | f::fs,pre,g::gs,b,hb,hl,hi=>by
  have ih:=alike_l1 fs (pre++[g]) gs b (by simpa using hb) (by simpa using hl) fun x hx=>hi x (List.mem_cons_of_mem _ hx)
  rw [List.length_append] at ih
  rw [ref06_Alike_l1,bnd_of (by rw [hb]; exact at_app pre g gs),alikeL]
  unfold alikeF
  cases eq8 f.vec g.vec with
  | false=>rfl
  | true =>
   rw [br_f (by rfl),Bool.true_and]
   by_cases hn:f.ids.length=g.ids.length
   ·rw [br_f (by rw [hn,eqI_t.2 rfl]; rfl),chk_t (smallL_of (hi f (List.mem_cons_self ..)))]
    have h2:=alike_l2 (k:=ref06_Alike_l1 b fs ((pre.length:Int) + 1)) f.ids [] g.ids g rfl hn
    rw [show (([]:List ByteArray).length:Int)=0 from rfl] at h2
    rw [h2]
    cases eqL f.ids g.ids with
    | true=>rw [if_pos rfl,Bool.true_and]; exact ih
    | false=>rfl
   ·rw [br_t (by rw [eqI_f.2 (by omega)]; rfl),eqL_len hn]; rfl
 | [],_,_::_,_,_,h,_=>by simp at h
 | _::_,_,[],_,_,h,_=>by simp at h
theorem alike_s {a b:Know} {N:Nat} (hN:N≤1000000000) (h:KB a N):ref06_Alike_s a b=some (alikeK a b):=by
 unfold ref06_Alike_s alikeK
 cases eq8 a.star b.star with
 | false=>rfl
 | true =>
  rw [br_f (by rfl),Bool.true_and]
  by_cases hl:a.l.length=b.l.length
  ·rw [br_f (by rw [hl,eqI_t.2 rfl]; rfl),chk_t (smallL_of (Nat.le_trans h.l hN))]
   exact alike_l1 a.l [] b.l b rfl hl fun f hf=>Nat.le_trans (h.ids f hf) hN
  ·rw [br_t (by rw [eqI_f.2 (by omega)]; rfl),alikeL_len hl]
def IdsOk (k:Know):Prop:=∀ f∈k.l, ∀ x∈f.ids,x.size≤9223372036854775807
def mayF (f:Frag):Bool:=mayV f.vec&&f.ids.all fun x=>lettersB x 1
def mayK (k:Know):Bool:=alikeK k (plainK k)&&(mayV k.star&&k.l.all mayF)
theorem may_l2 {k:Option Bool}:∀ (xs:List ByteArray),(∀ x∈xs,x.size≤9223372036854775807)→ref06_May_l2 k xs=if (xs.all fun x=>lettersB x 1) then k else some false
 | [],_=>by rw [ref06_May_l2]; rfl
 | x::xs,h=>by
  have e:ref01_Name_s x=some (lettersB x 1):=by unfold ref01_Name_s; rw [chk_t (decide_eq_true (h x (List.mem_cons_self ..)))]
  rw [ref06_May_l2,bnd_of e,may_l2 xs fun y hy=>h y (List.mem_cons_of_mem _ hy),List.all_cons]
  cases lettersB x 1<;>rfl
theorem may_l1:∀ (l:List Frag),(∀ f∈l,f.ids.length≤1000000000)→(∀ f∈l, ∀ x∈f.ids,x.size≤9223372036854775807)→ref06_May_l1 l=some (l.all mayF)
 | [],_,_=>by rw [ref06_May_l1]; rfl
 | f::l,h,h2=>by
  rw [ref06_May_l1,bnd_of (show ref06_MayVec_s f.vec=some (mayV f.vec) from rfl),List.all_cons]
  unfold mayF
  cases mayV f.vec with
  | false=>rfl
  | true =>
   rw [br_f (by rfl),chk_t (smallL_of (h f (List.mem_cons_self ..))),may_l2 _ (h2 f (List.mem_cons_self ..)),may_l1 l (fun g hg=>h g (List.mem_cons_of_mem _ hg)) fun g hg=>h2 g (List.mem_cons_of_mem _ hg)]
   unfold mayF
   cases (f.ids.all fun x=>lettersB x 1)<;>rfl
end
end Go.Proofs.YtidkmoohgadjkaaGreat
namespace Go.Proofs.YtidkmoohgadjkaaGreat
open Go E
theorem ltS_lt (a b:ByteArray):ltS a b=decide (a.data.toList < b.data.toList):=bytesLess_eq _ _
theorem byt_ext {a b:ByteArray} (h:a.data.toList=b.data.toList):a=b:=by
 cases a; cases b; simp at h; rw [h]
theorem eqS_t {a b:ByteArray}:eqS a b=true↔a=b:=by
 unfold eqS; rw [beq_iff_eq]; exact ⟨byt_ext,fun h=>by rw [h]⟩
theorem eqS_self (a:ByteArray):eqS a a=true:=eqS_t.2 rfl
theorem eqS_f {a b:ByteArray}:eqS a b=false↔a≠b:=by
 rw [←Bool.not_eq_true,eqS_t]
theorem eqS_comm' (a b:ByteArray):eqS a b=eqS b a:=by
 cases h:eqS b a with
 | true=>rw [eqS_t] at h ⊢; exact h.symm
 | false=>rw [eqS_f] at h ⊢; exact fun e=>h e.symm
theorem ltS_self (a:ByteArray):ltS a a=false:=by rw [ltS_lt,decide_eq_false_iff_not]; exact List.lt_irrefl _
theorem ltS_tr {a b c:ByteArray} (h:ltS a b=true) (h':ltS b c=true):ltS a c=true:=by
 rw [ltS_lt,decide_eq_true_eq] at *; exact List.lt_trans h h'
theorem ltS_asym {a b:ByteArray} (h:ltS a b=true):ltS b a=false:=by
 cases h':ltS b a with
 | false=>rfl
 | true=>have:=ltS_tr h h'; rw [ltS_self] at this; cases this
theorem ltS_tri {a b:ByteArray} (h:ltS a b=false) (h':ltS b a=false):a=b:=by
 rw [ltS_lt,decide_eq_false_iff_not] at *
 exact byt_ext (List.le_antisymm (List.not_lt.1 h') (List.not_lt.1 h))
theorem ltS_ne {a b:ByteArray} (h:ltS a b=true):eqS a b=false:=by
 rw [eqS_f]; rintro rfl; rw [ltS_self] at h; cases h
theorem le_ltS_tr {a b c:ByteArray} (h:ltS b a=false) (h':ltS b c=true):ltS a c=true:=by
 cases h2:ltS a b with
 | true=>exact ltS_tr h2 h'
 | false=>rw [ltS_tri h2 h]; exact h'
def Ris (l:List Item):Prop:=l.Pairwise fun a b=>ltS a.id b.id=true
end Go.Proofs.YtidkmoohgadjkaaGreat
namespace Go.Proofs.YtidkmoohgadjkaaGreat
open Go E Pred
noncomputable section
open Classical
def alk {α:Type} (l:List (ByteArray × α)) (k:ByteArray):Option α:=(l.find? fun e=>eqS e.1 k).map (·.2)
theorem keyEq_srw (a b:ByteArray):keyEq (srw a) (srw b)=eqS a b:=by simp [keyEq,pcEq]
theorem mget_srw {α:Type} (l:List (ByteArray × α)) (k:ByteArray):mget srw l k=alk l k:=by
 unfold mget alk; simp only [keyEq_srw]
theorem alk_cons {α:Type} (e:ByteArray × α) (l:List (ByteArray × α)) (k:ByteArray):alk (e::l) k=if eqS e.1 k=true then some e.2 else alk l k:=by
 unfold alk; rw [List.find?_cons]; cases eqS e.1 k<;>simp
theorem alk_app {α:Type} (l m:List (ByteArray × α)) (k:ByteArray):alk (l++m) k=(alk l k).or (alk m k):=by
 unfold alk; rw [List.find?_append]; cases List.find? (fun e=>eqS e.1 k) l<;>rfl
theorem alk_some {α:Type} {l:List (ByteArray × α)} {k:ByteArray}:(alk l k).isSome=memB (l.map (·.1)) k:=by
 unfold alk memB
 induction l with
 | nil=>rfl
 | cons e l ih =>
  rw [List.find?_cons,List.map_cons,List.any_cons]
  cases h:eqS e.1 k with
  | true=>rfl
  | false=>rw [Bool.false_or]; exact ih
theorem mset_alk {α:Type} (l:List (ByteArray × α)) (k:ByteArray) (v:α) (id:ByteArray):alk (mset srw l k v) id=if eqS k id=true then some v else alk l id:=by
 unfold mset
 rw [mget_srw]
 cases h:alk l k with
 | none =>
  rw [if_neg (by simp),alk_app,alk_cons]
  by_cases hk:eqS k id=true
  ·rw [if_pos hk,if_pos hk,←eqS_t.1 hk,h]; rfl
  ·rw [if_neg hk,if_neg hk]; cases alk l id<;>rfl
 | some w =>
  rw [if_pos (by rfl)]
  simp only [keyEq_srw]
  have key:∀ l:List (ByteArray × α),(alk l k).isSome=true→alk (l.map fun e=>if eqS e.1 k=true then (e.1,v) else e) id=if eqS k id=true then some v else alk l id:=by
   intro l
   induction l with
   | nil=>intro h; cases h
   | cons e l ih =>
    intro h
    rw [alk_cons] at h
    rw [List.map_cons,alk_cons,alk_cons]
    by_cases he:eqS e.1 k=true
    ·rw [if_pos he]
     have e':=eqS_t.1 he
     by_cases hk:eqS k id=true
     ·rw [if_pos (by show eqS e.1 id=true; rw [e']; exact hk),if_pos hk]
     ·rw [if_neg (by show ¬ eqS e.1 id=true; rw [e']; exact hk),if_neg hk,if_neg (by rw [e']; exact hk)]
      have:∀ l:List (ByteArray × α),alk (l.map fun e=>if eqS e.1 k=true then (e.1,v) else e) id=alk l id:=by
       intro l
       induction l with
       | nil=>rfl
       | cons e l ih =>
        rw [List.map_cons,alk_cons,alk_cons,ih]
        by_cases he:eqS e.1 k=true
        ·rw [if_pos he,if_neg (by show ¬ eqS e.1 id=true; rw [eqS_t.1 he]; exact hk),if_neg (by rw [eqS_t.1 he]; exact hk)]
        ·rw [if_neg he]
      exact this l
    ·rw [if_neg he] at h
     rw [if_neg he,ih h]
     by_cases hi:eqS e.1 id=true
     ·rw [if_pos hi,if_pos hi,if_neg (by rw [←eqS_t.1 hi,eqS_comm']; exact he)]
     ·rw [if_neg hi,if_neg hi]
  exact key l (by rw [h]; rfl)
theorem mset_keys {α:Type} (l:List (ByteArray × α)) (k:ByteArray) (v:α):(mset srw l k v).map (·.1)=if memB (l.map (·.1)) k=true then l.map (·.1) else l.map (·.1)++[k]:=by
 unfold mset
 rw [mget_srw,alk_some]
 split
 ·rw [List.map_map]
  refine List.map_congr_left fun e _=>?_
  simp only [Function.comp,keyEq_srw]
  split<;>rfl
 ·rw [List.map_append]; rfl
theorem memB_iff {l:List ByteArray} {x:ByteArray}:memB l x=true↔x∈l:=by
 unfold memB
 rw [List.any_eq_true]
 exact ⟨fun ⟨y,hy,e⟩=>by rw [←eqS_t.1 e]; exact hy,fun h=>⟨x,h,eqS_self _⟩⟩
theorem memB_cons (y:ByteArray) (l:List ByteArray) (x:ByteArray):memB (y::l) x=(eqS y x || memB l x):=List.any_cons
theorem mset_nodup {α:Type} {l:List (ByteArray × α)} {k:ByteArray} {v:α} (h:(l.map (·.1)).Nodup):((mset srw l k v).map (·.1)).Nodup:=by
 rw [mset_keys]
 split
 ·exact h
 ·rename_i hk
  rw [memB_iff] at hk
  rw [List.nodup_append]
  exact ⟨h,by simp,fun a ha b hb=>by rw [List.mem_singleton.1 hb]; rintro rfl; exact hk ha⟩
theorem maxI_idem (a v:Int):maxI (maxI a v) v=maxI a v:=by unfold maxI; by_cases h:v > a<;>simp [h]
theorem maxV_idem (a v:V8):maxV (maxV a v) v=maxV a v:=by unfold maxV; simp only [maxI_idem]
def addAll (v:V8) (M:List (ByteArray × V8)) (id:ByteArray):List (ByteArray × V8):=mset srw M id (maxV ((alk M id).getD zero8) v)
theorem opt_n {α β:Type} {f:α→Option β} {n:Option β}:opt none f n=n:=rfl
theorem opt_s {α β:Type} {x:α} {f:α→Option β} {n:Option β}:opt (some x) f n=f x:=rfl
theorem plain2_l {f:Frag} {k:List (ByteArray × V8)→Option Know}:∀ (ids:List ByteArray) (M:List (ByteArray × V8)),know_Plain_l2 f k ids M=k (ids.foldl (addAll f.vec) M)
 | [],M=>by rw [know_Plain_l2]; rfl
 | x::ids,M=>by
  have ih:=fun M=>plain2_l (f:=f) (k:=k) ids M
  rw [know_Plain_l2,List.foldl_cons,←ih]
  unfold addAll
  rw [mget_srw]
  cases alk M x with
  | none =>
   rw [opt_n]
   exact bnd_of (show vec_Max_s ⟨0,0,0,0,0,0,0,0⟩ f.vec=some (maxV zero8 f.vec) from rfl)
  | some y =>
   rw [opt_s]
   exact bnd_of (show vec_Max_s y f.vec=some (maxV y f.vec) from rfl)
theorem addAll_alk {v:V8}:∀ (ids:List ByteArray) (M:List (ByteArray × V8)) (id:ByteArray),alk (ids.foldl (addAll v) M) id=if memB ids id=true then some (maxV ((alk M id).getD zero8) v) else alk M id
 | [],M,id=>by rfl
 | x::ids,M,id=>by
  rw [List.foldl_cons,addAll_alk ids,memB_cons]
  unfold addAll
  rw [mset_alk]
  by_cases hx:eqS x id=true
  ·rw [if_pos hx,hx,Bool.true_or,if_pos rfl,←eqS_t.1 hx]
   split
   ·show some (maxV (maxV _ v) v)=_; rw [maxV_idem]
   ·rfl
  ·rw [if_neg hx]
   simp only [Bool.not_eq_true] at hx
   rw [hx,Bool.false_or]
theorem addAll_nodup {v:V8}:∀ (ids:List ByteArray) (M:List (ByteArray × V8)),(M.map (·.1)).Nodup→((ids.foldl (addAll v) M).map (·.1)).Nodup
 | [],M,h=>h
 | x::ids,M,h=>addAll_nodup ids _ (mset_nodup h)
theorem addAll_len {v:V8}:∀ (ids:List ByteArray) (M:List (ByteArray × V8)),(ids.foldl (addAll v) M).length≤M.length + ids.length
 | [],M=>Nat.le_refl _
 | x::ids,M=>by
  have h1:=addAll_len (v:=v) ids (addAll v M x)
  have h2:(addAll v M x).length≤M.length + 1:=by
   unfold addAll mset
   split
   ·simp
   ·simp
  rw [List.foldl_cons,List.length_cons]; omega
def allM (l:List Frag) (M:List (ByteArray × V8)):List (ByteArray × V8):=l.foldl (fun M f=>f.ids.foldl (addAll f.vec) M) M
theorem allM_alk (id:ByteArray):∀ (l:List Frag) (M:List (ByteArray × V8)),alk (allM l M) id=if (alk M id).isSome || l.any (fun f=>memB f.ids id) then some (sumV id l ((alk M id).getD zero8)) else none
 | [],M=>by
  show alk M id=_
  cases h:alk M id<;>rfl
 | f::l,M=>by
  have ih:=allM_alk id l (f.ids.foldl (addAll f.vec) M)
  rw [addAll_alk] at ih
  show alk (allM l (f.ids.foldl (addAll f.vec) M)) id=_
  rw [ih,List.any_cons]
  unfold sumV
  rw [List.foldl_cons]
  by_cases hf:memB f.ids id=true
  ·rw [if_pos hf,if_pos hf,hf]; simp
  ·rw [if_neg hf,if_neg hf]
   simp only [Bool.not_eq_true] at hf
   rw [hf,Bool.false_or]
theorem allM_nodup:∀ (l:List Frag) (M:List (ByteArray × V8)),(M.map (·.1)).Nodup→((allM l M).map (·.1)).Nodup
 | [],M,h=>h
 | f::l,M,h=>allM_nodup l _ (addAll_nodup f.ids M h)
def idsN (l:List Frag):Nat:=(l.map fun f=>f.ids.length).sum
theorem idsN_cons (f:Frag) (l:List Frag):idsN (f::l)=f.ids.length + idsN l:=by simp [idsN]
theorem allM_len:∀ (l:List Frag) (M:List (ByteArray × V8)),(allM l M).length≤M.length + idsN l
 | [],M=>Nat.le_refl _
 | f::l,M=>by
  have h1:=allM_len l (f.ids.foldl (addAll f.vec) M)
  have h2:=addAll_len (v:=f.vec) f.ids M
  rw [idsN_cons]
  show (allM l (f.ids.foldl (addAll f.vec) M)).length≤_
  omega
structure KT (k:Know) (N:Nat):Prop where
 l:k.l.length≤N
 ids:idsN k.l≤N
theorem idsN_mem {l:List Frag} {f:Frag} (h:f∈l):f.ids.length≤idsN l:=by
 induction l with
 | nil=>cases h
 | cons g l ih =>
  rw [idsN_cons]
  rcases List.mem_cons.1 h with rfl | h
  ·omega
  ·have:=ih h; omega
theorem KT.kb {k:Know} {N:Nat} (h:KT k N):KB k N:=⟨h.l,fun f hf=>Nat.le_trans (idsN_mem hf) h.ids⟩
theorem KT.mono {k:Know} {n m:Nat} (h:KT k n) (hm:n≤m):KT k m:=⟨Nat.le_trans h.l hm,Nat.le_trans h.ids hm⟩
theorem KB.kt {k:Know} {N:Nat} (h:KB k N):KT k (N + N * N):=by
 have key:∀ l:List Frag,(∀ f∈l,f.ids.length≤N)→idsN l≤l.length * N:=by
  intro l
  induction l with
  | nil=>intro _; simp [idsN]
  | cons f l ih =>
   intro h
   have h1:=h f (List.mem_cons_self ..)
   have h2:=ih fun g hg=>h g (List.mem_cons_of_mem _ hg)
   rw [idsN_cons,List.length_cons,Nat.succ_mul]; omega
 have h1:=key k.l h.ids
 have h2:=Nat.mul_le_mul_right N h.l
 exact ⟨Nat.le_trans h.l (Nat.le_add_right _ _),by omega⟩
theorem plain1_l {k:Know}:∀ (l:List Frag) (M:List (ByteArray × V8)),(∀ f∈l,f.ids.length≤1000000000)→know_Plain_l1 k l M=bnd (sorted_s (allM l M)) fun y=>chk (smallL y) (know_Plain_l3 k (allM l M) y)
 | [],M,_=>by rw [know_Plain_l1]; rfl
 | f::l,M,h=>by
  rw [know_Plain_l1,chk_t (smallL_of (h f (List.mem_cons_self ..))),plain2_l]
  exact plain1_l l _ fun g hg=>h g (List.mem_cons_of_mem _ hg)
def Srt (l:List ByteArray):Prop:=l.Pairwise fun a b=>ltS a b=true
theorem srt_cons {x:ByteArray} {l:List ByteArray}:Srt (x::l)↔(∀ y∈l,ltS x y=true)∧Srt l:=List.pairwise_cons
theorem srt_ext:∀ {l m:List ByteArray},Srt l→Srt m→(∀ x,x∈l↔x∈m)→l=m
 | [],[],_,_,_=>rfl
 | [],y::m,_,_,h=>absurd ((h y).2 (List.mem_cons_self ..)) (by simp)
 | x::l,[],_,_,h=>absurd ((h x).1 (List.mem_cons_self ..)) (by simp)
 | x::l,y::m,hl,hm,h=>by
  rw [srt_cons] at hl hm
  have e:x=y:=by
   rcases List.mem_cons.1 ((h x).1 (List.mem_cons_self ..)) with e | hx
   ·exact e
   ·rcases List.mem_cons.1 ((h y).2 (List.mem_cons_self ..)) with e | hy
    ·exact e.symm
    ·have:=ltS_asym (hl.1 y hy); rw [hm.1 x hx] at this; cases this
  subst e
  rw [srt_ext hl.2 hm.2 fun z=>?_]
  constructor
  ·intro hz
   rcases List.mem_cons.1 ((h z).1 (List.mem_cons_of_mem _ hz)) with rfl | hz'
   ·have:=hl.1 z hz; rw [ltS_self] at this; cases this
   ·exact hz'
  ·intro hz
   rcases List.mem_cons.1 ((h z).2 (List.mem_cons_of_mem _ hz)) with rfl | hz'
   ·have:=hm.1 z hz; rw [ltS_self] at this; cases this
   ·exact hz'
theorem insG_t {x:ByteArray}:∀ l:List ByteArray,insG x true l=l.filter fun y=>!eqS y x
 | []=>rfl
 | y::l=>by
  rw [insG,Bool.true_or,insG_t l,List.filter_cons]
  cases eqS y x<;>simp
theorem ins_mem {x z:ByteArray}:∀ l:List ByteArray,z∈insV l x↔z=x∨z∈l
 | []=>by unfold insV; rw [insG]; simp
 | y::l=>by
  have ih:=ins_mem (x:=x) (z:=z) l
  unfold insV at ih ⊢
  rw [insG]
  cases hc:(ltS x y || eqS x y) with
  | true =>
   simp only [Bool.not_false,Bool.true_and,if_true,Bool.false_or]
   rw [insG_t,List.mem_append,List.mem_append,List.mem_singleton,List.mem_filter,List.mem_cons]
   constructor
   ·rintro (h | h | h)
    ·exact .inl h
    ·split at h
     ·cases h
     ·exact .inr (.inl (List.mem_singleton.1 h))
    ·exact .inr (.inr h.1)
   ·rintro (h | h | h)
    ·exact .inl h
    ·subst h
     by_cases he:eqS z x=true
     ·exact .inl (eqS_t.1 he)
     ·exact .inr (.inl (by rw [if_neg he]; exact List.mem_singleton.2 rfl))
    ·by_cases he:eqS z x=true
     ·exact .inl (eqS_t.1 he)
     ·exact .inr (.inr ⟨h,by simpa using he⟩)
  | false =>
   simp only [Bool.not_false,Bool.true_and,Bool.false_eq_true,if_false,Bool.false_or,List.nil_append]
   rw [List.mem_append,ih,List.mem_cons]
   have hne:eqS y x=false:=by
    cases h:eqS y x with
    | false=>rfl
    | true=>rw [eqS_comm',h,Bool.or_true] at hc; cases hc
   rw [hne,if_neg (by simp),List.mem_singleton]
   constructor
   ·rintro (h | h | h)
    ·exact .inr (.inl h)
    ·exact .inl h
    ·exact .inr (.inr h)
   ·rintro (h | h | h)
    ·exact .inr (.inl h)
    ·exact .inl h
    ·exact .inr (.inr h)
theorem ins_srt {x:ByteArray}:∀ {l:List ByteArray},Srt l→Srt (insV l x)
 | [],_=>by unfold insV; rw [insG]; exact List.pairwise_singleton _ _
 | y::l,h=>by
  have h':=srt_cons.1 h
  have ih:=ins_srt (x:=x) h'.2
  have hm:=fun z=>ins_mem (x:=x) (z:=z) l
  unfold insV at ih hm ⊢
  rw [insG]
  cases hc:(ltS x y || eqS x y) with
  | true =>
   simp only [Bool.not_false,Bool.true_and,if_true,Bool.false_or]
   rw [insG_t]
   have hle:ltS y x=false:=by
    rcases Bool.or_eq_true_iff.1 hc with h1 | h1
    ·exact ltS_asym h1
    ·rw [eqS_t.1 h1]; exact ltS_self _
   have key:Srt ((if eqS y x=true then [] else [y])++l.filter fun y=>!eqS y x)∧∀ z∈((if eqS y x=true then [] else [y])++l.filter fun y=>!eqS y x),ltS x z=true:=by
    have hs:Srt (l.filter fun y=>!eqS y x):=h'.2.filter _
    by_cases he:eqS y x=true
    ·rw [if_pos he]
     refine ⟨hs,fun z hz=>?_⟩
     rw [List.nil_append] at hz
     rw [←eqS_t.1 he]; exact h'.1 z (List.mem_filter.1 hz).1
    ·rw [if_neg he]
     have hxy:ltS x y=true:=by
      rcases Bool.or_eq_true_iff.1 hc with h1 | h1
      ·exact h1
      ·exact absurd (by rw [eqS_comm']; exact h1) he
     refine ⟨srt_cons.2 ⟨fun z hz=>h'.1 z (List.mem_filter.1 hz).1,hs⟩,fun z hz=>?_⟩
     rcases List.mem_cons.1 hz with rfl | hz
     ·exact hxy
     ·exact ltS_tr hxy (h'.1 z (List.mem_filter.1 hz).1)
   exact srt_cons.2 ⟨key.2,key.1⟩
  | false =>
   simp only [Bool.not_false,Bool.true_and,Bool.false_eq_true,if_false,Bool.false_or,List.nil_append]
   rw [Bool.or_eq_false_iff] at hc
   have hyx:ltS y x=true:=by
    cases h1:ltS y x with
    | true=>rfl
    | false=>rw [ltS_tri hc.1 h1,eqS_self] at hc; cases hc.2
   rw [ltS_ne hyx,if_neg (by simp)]
   refine srt_cons.2 ⟨fun z hz=>?_,ih⟩
   rcases (hm z).1 hz with rfl | hz
   ·exact hyx
   ·exact h'.1 z hz
theorem insF_mem {z:ByteArray}:∀ (ids acc:List ByteArray),z∈ids.foldl insV acc↔z∈ids∨z∈acc
 | [],acc=>by simp
 | x::ids,acc=>by
  rw [List.foldl_cons,insF_mem ids,ins_mem,List.mem_cons]
  constructor
  ·rintro (h | h | h)
   ·exact .inl (.inr h)
   ·exact .inl (.inl h)
   ·exact .inr h
  ·rintro ((h | h) | h)
   ·exact .inr (.inl h)
   ·exact .inl h
   ·exact .inr (.inr h)
theorem insF_srt:∀ (ids:List ByteArray) {acc:List ByteArray},Srt acc→Srt (ids.foldl insV acc)
 | [],_,h=>h
 | x::ids,_,h=>insF_srt ids (ins_srt h)
theorem names_mem {z:ByteArray}:∀ (l:List Frag) (acc:List ByteArray),z∈namesG acc l↔(∃ f∈l,z∈f.ids)∨z∈acc
 | [],acc=>by simp [namesG]
 | f::l,acc=>by
  show z∈namesG (f.ids.foldl insV acc) l↔_
  rw [names_mem l,insF_mem]
  constructor
  ·rintro (⟨g,hg,hz⟩ | h | h)
   ·exact .inl ⟨g,List.mem_cons_of_mem _ hg,hz⟩
   ·exact .inl ⟨f,List.mem_cons_self .., h⟩
   ·exact .inr h
  ·rintro (⟨g,hg,hz⟩ | h)
   ·rcases List.mem_cons.1 hg with rfl | hg
    ·exact .inr (.inl hz)
    ·exact .inl ⟨g,hg,hz⟩
   ·exact .inr (.inr h)
theorem names_srt:∀ (l:List Frag) {acc:List ByteArray},Srt acc→Srt (namesG acc l)
 | [],_,h=>h
 | f::l,_,h=>names_srt l (insF_srt f.ids h)
theorem namesK_mem {k:Know} {z:ByteArray}:z∈namesK k↔∃ f∈k.l,z∈f.ids:=by
 unfold namesK; rw [names_mem]; simp
theorem namesK_srt (k:Know):Srt (namesK k):=names_srt k.l .nil
theorem sortS_mem {z:ByteArray} {l:List ByteArray}:z∈sortS l↔z∈l:=by
 unfold sortS
 rw [List.mem_map]
 constructor
 ·rintro ⟨b,hb,rfl⟩
  rw [List.mem_mergeSort,List.mem_map] at hb
  obtain ⟨s,hs,rfl⟩:=hb
  exact hs
 ·intro h
  exact ⟨z.data.toList,by rw [List.mem_mergeSort,List.mem_map]; exact ⟨z,h,rfl⟩,rfl⟩
theorem sortS_srt {l:List ByteArray} (h:l.Nodup):Srt (sortS l):=by
 have tr:∀ a b c:List UInt8,leB a b=true→leB b c=true→leB a c=true:=fun a b c h1 h2=>by simp only [leB,decide_eq_true_eq] at *; exact List.le_trans h1 h2
 have to:∀ a b:List UInt8,(leB a b || leB b a)=true:=fun a b=>by simp only [leB,Bool.or_eq_true,decide_eq_true_eq]; exact List.le_total a b
 have h1:((l.map fun s=>s.data.toList).mergeSort leB).Pairwise fun a b=>leB a b=true:=List.pairwise_mergeSort tr to _
 have h2:((l.map fun s=>s.data.toList).mergeSort leB).Nodup:=by
  rw [(List.mergeSort_perm _ _).nodup_iff]
  exact List.Pairwise.map _ (fun a b hab he=>hab (byt_ext he)) h
 unfold sortS Srt
 rw [List.pairwise_map]
 refine (h1.and h2).imp fun {a b} hab=>?_
 rw [ltS_lt,decide_eq_true_eq]
 have hle:a≤b:=by have:=hab.1; simpa [leB] using this
 show a < b
 rcases Classical.em (a < b) with h | h
 ·exact h
 ·exact absurd (List.le_antisymm hle (List.not_lt.1 h)) hab.2
theorem allM_names {k:Know}:sortS ((allM k.l []).map (·.1))=namesK k:=by
 refine srt_ext (sortS_srt (allM_nodup _ _ (by simp))) (namesK_srt k) fun z=>?_
 rw [sortS_mem,namesK_mem,←memB_iff,←alk_some,allM_alk]
 have:(alk ([]:List (ByteArray × V8)) z).isSome=false:=rfl
 rw [this,Bool.false_or]
 constructor
 ·intro h
  split at h
  ·rename_i h1
   obtain ⟨f,hf,hz⟩:=List.any_eq_true.1 h1
   exact ⟨f,hf,memB_iff.1 hz⟩
  ·cases h
 ·rintro ⟨f,hf,hz⟩
  rw [if_pos (List.any_eq_true.2 ⟨f,hf,memB_iff.2 hz⟩)]; rfl
theorem allM_get {k:Know} {id:ByteArray} (h:id∈namesK k):alk (allM k.l []) id=some (sumV id k.l zero8):=by
 obtain ⟨f,hf,hz⟩:=namesK_mem.1 h
 rw [allM_alk,if_pos (by rw [Bool.or_eq_true]; exact .inr (List.any_eq_true.2 ⟨f,hf,memB_iff.2 hz⟩))]; rfl
structure NonNeg (v:V8):Prop where
 h0:0≤v.x0
 h1:0≤v.x1
 h2:0≤v.x2
 h3:0≤v.x3
 h4:0≤v.x4
 h5:0≤v.x5
 h6:0≤v.x6
 h7:0≤v.x7
theorem maxI_nn {a b:Int} (h:0≤a):0≤maxI a b:=by unfold maxI; split<;>omega
theorem NonNeg.max {a b:V8} (h:NonNeg a):NonNeg (maxV a b):=⟨maxI_nn h.h0,maxI_nn h.h1,maxI_nn h.h2,maxI_nn h.h3,maxI_nn h.h4,maxI_nn h.h5,maxI_nn h.h6,maxI_nn h.h7⟩
theorem nn_zero:NonNeg zero8:=⟨by decide,by decide,by decide,by decide,by decide,by decide,by decide,by decide⟩
theorem nn_sum (id:ByteArray):∀ (l:List Frag) {v:V8},NonNeg v→NonNeg (sumV id l v)
 | [],_,h=>h
 | f::l,v,h=>by
  unfold sumV
  rw [List.foldl_cons]
  refine nn_sum id l ?_
  split
  ·exact h.max
  ·exact h
theorem cutN {α:Type} {a s:Int} {f:Int→Option α} (h:0≤a):br (leI a s) (f 0) (br (leI a 0) (f 0) (f a))=f (cutI a s):=by
 unfold cutI
 cases leI a s with
 | true=>rfl
 | false =>
  cases h0:leI a 0 with
  | false=>rfl
  | true =>
   have:a=0:=by rw [leI_t] at h0; omega
   rw [this]; rfl
theorem kbeyond_s {v s:V8} (h:NonNeg v):know_beyond_s v s=some (cutV v s):=by
 unfold know_beyond_s
 rw [cutN (f:=fun x=>know_beyond_j1 v s x) h.h0]
 unfold know_beyond_j1
 rw [cutN (f:=fun x=>know_beyond_j2 v s _ x) h.h1]
 unfold know_beyond_j2
 rw [cutN (f:=fun x=>know_beyond_j3 v s _ _ x) h.h2]
 unfold know_beyond_j3
 rw [cutN (f:=fun x=>know_beyond_j4 v s _ _ _ x) h.h3]
 unfold know_beyond_j4
 rw [cutN (f:=fun x=>know_beyond_j5 v s _ _ _ _ x) h.h4]
 unfold know_beyond_j5
 rw [cutN (f:=fun x=>know_beyond_j6 v s _ _ _ _ _ x) h.h5]
 unfold know_beyond_j6
 rw [cutN (f:=fun x=>know_beyond_j7 v s _ _ _ _ _ _ x) h.h6]
 unfold know_beyond_j7
 rw [cutN (f:=fun x=>know_beyond_j8 _ _ _ _ _ _ _ x) h.h7]
 rfl
theorem eq8_t {a b:V8}:eq8 a b=true↔a=b:=by
 rw [eq8_iff]
 constructor
 ·rintro ⟨h0,h1,h2,h3,h4,h5,h6,h7⟩
  cases a; cases b
  simp only at h0 h1 h2 h3 h4 h5 h6 h7
  rw [h0,h1,h2,h3,h4,h5,h6,h7]
 ·rintro rfl; exact ⟨rfl,rfl,rfl,rfl,rfl,rfl,rfl,rfl⟩
theorem eq8_self (a:V8):eq8 a a=true:=eq8_t.2 rfl
theorem keyEq_v8 (a b:V8):keyEq (V8.row a) (V8.row b)=eq8 a b:=by
 rw [Bool.eq_iff_iff,eq8_iff]
 simp [keyEq,pcEq]
def vlk (l:List (V8 × Int)) (v:V8):Option Int:=(l.find? fun e=>eq8 e.1 v).map (·.2)
theorem mget_v8 (l:List (V8 × Int)) (v:V8):mget V8.row l v=vlk l v:=by
 unfold mget vlk; simp only [keyEq_v8]
def fat:List Frag→V8→Nat→Option Int
 | [],_,_=>none
 | f::l,v,n=>if eq8 f.vec v=true then some (n:Int) else fat l v (n + 1)
theorem fat_app {g:Frag} {v:V8}:∀ (l:List Frag) (n:Nat),fat (l++[g]) v n=(fat l v n).or (if eq8 g.vec v=true then some ((n + l.length:Nat):Int) else none)
 | [],n=>by rw [List.nil_append,fat,fat]; simp [fat]
 | f::l,n=>by
  rw [List.cons_append,fat,fat]
  split
  ·rfl
  ·rw [fat_app l,List.length_cons]
   have:n + 1 + l.length=n + (l.length + 1):=by omega
   rw [this]
theorem vlk_new {at_:List (V8 × Int)} {v w:V8} {n:Int} (h:vlk at_ v=none):vlk (mset V8.row at_ v n) w=(vlk at_ w).or (if eq8 v w=true then some n else none):=by
 unfold mset
 rw [mget_v8,h,if_neg (by simp)]
 unfold vlk
 rw [List.find?_append]
 cases List.find? (fun e=>eq8 e.1 w) at_ with
 | none=>rw [List.find?_cons]; cases eq8 v w<;>rfl
 | some e=>rfl
theorem fat_add {id:ByteArray} {v:V8}:∀ (l:List Frag) (n:Nat),(fat l v n=none∧addF id v l=l++[⟨[id],v⟩])∨∃ pre f post,l=pre++f::post∧fat l v n=some ((n + pre.length:Nat):Int)∧f.vec=v∧addF id v l=pre++⟨f.ids++[id],f.vec⟩::post
 | [],n=>.inl ⟨rfl,rfl⟩
 | f::l,n=>by
  by_cases hf:eq8 f.vec v=true
  ·exact .inr ⟨[],f,l,rfl,by rw [fat,if_pos hf]; rfl,eq8_t.1 hf,by rw [addF,if_pos hf]; rfl⟩
  ·rcases fat_add l (n + 1) with ⟨h1,h2⟩ | ⟨pre,g,post,h1,h2,h3,h4⟩
   ·exact .inl ⟨by rw [fat,if_neg hf,h1],by rw [addF,if_neg hf,h2]; rfl⟩
   ·refine .inr ⟨f::pre,g,post,by rw [h1]; rfl,?_,h3,by rw [addF,if_neg hf,h4]; rfl⟩
    rw [fat,if_neg hf,h2,List.length_cons]
    congr 2; omega
theorem fat_same {pre post:List Frag} {f g:Frag} (h:g.vec=f.vec) (w:V8) (n:Nat):fat (pre++g::post) w n=fat (pre++f::post) w n:=by
 induction pre generalizing n with
 | nil=>rw [List.nil_append,List.nil_append,fat,fat,h]
 | cons x pre ih=>rw [List.cons_append,List.cons_append,fat,fat,ih]
theorem plain_step {out:List Frag} {at_:List (V8 × Int)} {id:ByteArray} {v:V8} {K:List Frag→List (V8 × Int)→Option Know} {N:Nat} (hat:∀ w,vlk at_ w=fat out w 0) (h1:out.length≤N) (h2:idsN out≤N) (hN:N≤999990) :
  ∃ at',(∀ w,vlk at' w=fat (addF id v out) w 0) ∧
  opt (mget V8.row at_ v) (fun x=>bnd (atL out x) fun y=>chk (roomL y.ids.length 1) (K (out.set x.toNat (Frag.mk (y.ids++[id]) y.vec)) at_))
   (chk (roomL out.length 1) (bnd (atL (out++[Frag.mk ([]:List ByteArray) v]) (out.length:Int)) fun x=>chk (roomL x.ids.length 1) (K ((out++[Frag.mk ([]:List ByteArray) v]).set (out.length:Int).toNat (Frag.mk (x.ids++[id]) x.vec)) (mset V8.row at_ v (out.length:Int)))))=K (addF id v out) at':=by
 rw [mget_v8]
 rcases fat_add (id:=id) (v:=v) out 0 with ⟨h3,h4⟩ | ⟨pre,f,post,h3,h4,h5,h6⟩
 ·refine ⟨mset V8.row at_ v (out.length:Int),fun w=>?_,?_⟩
  ·rw [vlk_new (by rw [hat]; exact h3),hat,h4,fat_app,Nat.zero_add]
  ·rw [hat v,h3]
   show chk _ _=_
   rw [chk_t (roomL_of (by omega)),bnd_of (at_app out _ []),chk_t (roomL_of (by simp)),Int.toNat_natCast,set_app,h4]; rfl
 ·refine ⟨at_,fun w=>?_,?_⟩
  ·rw [hat,h6,h3]; exact (fat_same (f:=f) (g:=⟨f.ids++[id],f.vec⟩) rfl w 0).symm
  ·rw [hat v,h4,Nat.zero_add]
   have hf:f.ids.length≤idsN out:=idsN_mem (by rw [h3]; simp)
   show bnd _ _=_
   rw [bnd_of (show atL out (pre.length:Int)=some f by rw [h3]; exact at_app pre f post),chk_t (roomL_of (by omega)),Int.toNat_natCast,h6]
   rw [show out.set pre.length (Frag.mk (f.ids++[id]) f.vec)=pre++Frag.mk (f.ids++[id]) f.vec::post by rw [h3]; exact set_app pre f _ post]
theorem addF_n (id:ByteArray) (v:V8):∀ l:List Frag,idsN (addF id v l)=idsN l + 1
 | []=>by simp [addF,idsN]
 | f::l=>by
  rw [addF,idsN_cons]
  split
  ·rw [idsN_cons]; simp; omega
  ·rw [idsN_cons,addF_n id v l]; omega
theorem plain4_l {k:Know}:∀ (names:List ByteArray) (out:List Frag) (at_:List (V8 × Int)) (N:Nat),(∀ id∈names,id∈namesK k)→(∀ w,vlk at_ w=fat out w 0)→out.length≤N→idsN out≤N→N + names.length≤999980 →
  know_Plain_l4 k (allM k.l []) names out at_=some ⟨k.star,names.foldl (stepP k) out⟩
 | [],out,at_,N,_,_,_,_,_=>by rw [know_Plain_l4]; rfl
 | id::names,out,at_,N,hm,hat,h1,h2,hN=>by
  rw [List.length_cons] at hN
  rw [know_Plain_l4,mget_srw,allM_get (hm id (List.mem_cons_self ..))]
  have hm':∀ z∈names,z∈namesK k:=fun z hz=>hm z (List.mem_cons_of_mem _ hz)
  show bnd (know_beyond_s (sumV id k.l zero8) k.star) _=_
  rw [bnd_of (kbeyond_s (nn_sum id k.l nn_zero)),List.foldl_cons]
  cases he:eq8 (beyondV k id) zero8 with
  | true =>
   rw [stepP_t he]
   refine (br_t (c:=eq8 (cutV (sumV id k.l zero8) k.star) ⟨0,0,0,0,0,0,0,0⟩) he).trans ?_
   exact plain4_l names out at_ N hm' hat h1 h2 (by omega)
  | false =>
   rw [stepP_f he]
   refine (br_f (c:=eq8 (cutV (sumV id k.l zero8) k.star) ⟨0,0,0,0,0,0,0,0⟩) he).trans ?_
   obtain ⟨at',hat',e⟩:=plain_step (id:=id) (v:=beyondV k id) (K:=fun a b=>know_Plain_l4 k (allM k.l []) names a b) hat h1 h2 (by omega)
   refine Eq.trans e ?_
   have:=addF_len id (beyondV k id) out
   exact plain4_l names _ at' (N + 1) hm' hat' (by omega) (by rw [addF_n]; omega) (by omega)
theorem plain3_l {k:Know}:∀ (names:List ByteArray),(∀ id∈names,id∈namesK k)→names.length≤999970→know_Plain_l3 k (allM k.l []) names=some ⟨k.star,names.foldl (stepP k) []⟩
 | [],_,_=>by rw [know_Plain_l3]; rfl
 | id::names,hm,hN=>by
  rw [List.length_cons] at hN
  rw [know_Plain_l3,mget_srw,allM_get (hm id (List.mem_cons_self ..))]
  have hm':∀ z∈names,z∈namesK k:=fun z hz=>hm z (List.mem_cons_of_mem _ hz)
  show bnd (know_beyond_s (sumV id k.l zero8) k.star) _=_
  rw [bnd_of (kbeyond_s (nn_sum id k.l nn_zero)),List.foldl_cons]
  cases he:eq8 (beyondV k id) zero8 with
  | true =>
   rw [stepP_t he]
   refine (br_t (c:=eq8 (cutV (sumV id k.l zero8) k.star) ⟨0,0,0,0,0,0,0,0⟩) he).trans ?_
   exact plain3_l names hm' (by omega)
  | false =>
   rw [stepP_f he]
   refine (br_f (c:=eq8 (cutV (sumV id k.l zero8) k.star) ⟨0,0,0,0,0,0,0,0⟩) he).trans ?_
   rw [mget_v8,show vlk ([]:List (V8 × Int)) (cutV (sumV id k.l zero8) k.star)=none from rfl,opt_n]
   rw [chk_t (by rfl)]
   refine plain4_l names [⟨[id],beyondV k id⟩] _ 1 hm' (fun w=>?_) (by simp) (by simp [idsN]) (by omega)
   rw [vlk_new (by rfl)]
   show (none:Option Int).or _=_
   rw [fat]
   rfl
theorem namesK_len {k:Know} {N:Nat} (h:KT k N):(namesK k).length≤N:=by
 rw [←allM_names]
 unfold sortS
 rw [List.length_map,List.length_mergeSort,List.length_map,List.length_map]
 have:=allM_len k.l []
 have:=h.ids
 simp at *; omega
theorem kplain_s {k:Know} (h:KT k 990000) (hi:IdsOk k):know_Plain_s k=some (plainK k):=by
 have hl:=h.l
 have hids:=h.ids
 unfold know_Plain_s
 have hlen:=allM_len k.l []
 have hs:sorted_s (allM k.l [])=some (namesK k):=by
  unfold sorted_s
  rw [chk_t,allM_names]
  rw [Bool.and_eq_true,List.all_eq_true]
  refine ⟨decide_eq_true (by simp at hlen; omega),fun e he=>decide_eq_true ?_⟩
  have:e.1∈namesK k:=by
   rw [←allM_names,sortS_mem]; exact List.mem_map.2 ⟨e,he,rfl⟩
  obtain ⟨f,hf,hz⟩:=namesK_mem.1 this
  exact hi f hf _ hz
 have hnl:=namesK_len h
 rw [chk_t (smallL_of (by omega)),plain1_l _ _ fun f hf=>Nat.le_trans (idsN_mem hf) (by omega),bnd_of hs,chk_t (smallL_of (by omega)),plain3_l _ (fun _ h=>h) (by omega)]
 rfl
theorem stepP_n (k:Know):∀ (names:List ByteArray) (out:List Frag) (N:Nat),out.length≤N→idsN out≤N→(names.foldl (stepP k) out).length≤N + names.length∧idsN (names.foldl (stepP k) out)≤N + names.length
 | [],out,N,h1,h2=>⟨h1,h2⟩
 | id::names,out,N,h1,h2=>by
  rw [List.foldl_cons,List.length_cons]
  have key:(stepP k out id).length≤N + 1∧idsN (stepP k out id)≤N + 1:=by
   unfold stepP
   split
   ·omega
   ·have:=addF_len id (beyondV k id) out
    rw [addF_n]; omega
  have:=stepP_n k names _ (N + 1) key.1 key.2
  omega
theorem KT.plain {k:Know} {N:Nat} (h:KT k N):KT (plainK k) N:=by
 have h1:=stepP_n k (namesK k) [] 0 (by simp) (by simp [idsN])
 have h2:=namesK_len h
 exact ⟨by show ((namesK k).foldl (stepP k) []).length≤N; omega,by show idsN ((namesK k).foldl (stepP k) [])≤N; omega⟩
end
end Go.Proofs.YtidkmoohgadjkaaGreat
namespace Go.Proofs.YtidkmoohgadjkaaGreat
open Go E Pred
noncomputable section
open Classical
theorem cutI_0 (s:Int):cutI 0 s=0:=by unfold cutI; split<;>rfl
theorem cut_zero (s:V8):cutV zero8 s=zero8:=by unfold cutV zero8; simp only [cutI_0]
structure Pieces (k:Know) (P:ByteArray→Prop) (out:List Frag):Prop where
 of_:∀ f∈out, ∀ id∈f.ids,beyondV k id=f.vec∧f.vec≠zero8
 has:∀ id,P id→beyondV k id≠zero8→∃ f∈out,id∈f.ids
theorem cut_nnI {a s:Int} (h:0≤a):0≤cutI a s:=by unfold cutI; split<;>omega
theorem NonNeg.cut {a:V8} (h:NonNeg a) (s:V8):NonNeg (cutV a s):=⟨cut_nnI h.h0,cut_nnI h.h1,cut_nnI h.h2,cut_nnI h.h3,cut_nnI h.h4,cut_nnI h.h5,cut_nnI h.h6,cut_nnI h.h7⟩
theorem eqL_refl:∀ l:List ByteArray,eqL l l=true
 | []=>rfl
 | x::l=>by rw [eqL,eqS_self,eqL_refl l]; rfl
theorem alikeL_refl:∀ l:List Frag,alikeL l l=true
 | []=>rfl
 | f::l=>by rw [alikeL,alikeL_refl l]; unfold alikeF; rw [eq8_self,eqL_refl]; rfl
theorem alike_self (k:Know):alikeK k k=true:=by unfold alikeK; rw [eq8_self,alikeL_refl]; rfl
end
end Go.Proofs.YtidkmoohgadjkaaGreat
set_option maxHeartbeats 0
namespace Go.Proofs.YtidkmoohgadjkaaGreat
open Go E
noncomputable section
open Pred
def ref06_Put_l2 (p1:Item):List Item→(List Item)→Option ((List Item))
  | [],v7 =>
  some v7
  | x2e::xs2,v7 =>
  (br (!(ltS x2e.id p1.id || eqS x2e.id p1.id))
   (chk (roomL v7.length 1)
    (ref06_Put_l2 p1 xs2  (v7++[x2e])))
   (ref06_Put_l2 p1 xs2  v7))
def ref06_Put_l1 (p0:List Item) (p1:Item):List Item→(List Item)→Option ((List Item))
  | [],v2 =>
  (chk (roomL v2.length 1)
   (chk (smallL p0)
     ((ref06_Put_l2 p1) p0 (v2++[p1]))))
  | x1e::xs1,v2 =>
  (br (ltS x1e.id p1.id)
   (chk (roomL v2.length 1)
    (ref06_Put_l1 p0 p1 xs1  (v2++[x1e])))
   (ref06_Put_l1 p0 p1 xs1  v2))
def ref06_Put_s (p0:List Item) (p1:Item):Option ((List Item)) :=
 (chk (smallL p0)
   ((ref06_Put_l1 p0 p1) p0 ([]:List Item)))
def ref06_Both_l1:List Item→(List Item)→Option ((List Item))
  | [],v3 =>
  some v3
  | x1e::xs1,v3 =>
  (bnd (ref06_Get_s v3 x1e.id) fun y4 =>
   (br (!y4.2)
    (bnd (ref06_Put_s v3 x1e) fun y7 =>
     (ref06_Both_l1 xs1  y7))
    (bnd (ref01_Behind_s x1e y4.1) fun y9 =>
     (br y9
      (bnd (ref06_Put_s v3 x1e) fun y12 =>
       (ref06_Both_l1 xs1  y12))
      (ref06_Both_l1 xs1  v3)))))
def ref06_Both_s (p0:List Item) (p1:List Item):Option ((List Item)) :=
 (chk (roomL 0 p0.length)
  (chk (smallL p1)
    ((ref06_Both_l1) p1 p0)))
variable {X:Task→Prop} (hX:Closed X) {Q:A→List Blk→Prop}
include hX
theorem ref06_Put_c  {p0:List Item} {p1:Item} {r:(List Item)} (h:ref06_Put_s p0 p1=some r) (hQ:Q (.one (.own 0)) [.rows 8 (r.map Item.row)]):X (.call 92 [.one (.p (.sl (p0.map Item.row))),.agg (Item.cs p1)] [] Q):=by
  unfold ref06_Put_s at h
  refine call_intro hX Tryz.func92 rfl rfl ?_
  revert h
  refine chkk fun hs1 h=>?_
  conv=>whnf
  repeat((first|refine dw ?_);conv=>whnf)
  refine loop_k hX [8] ?_
  conv=>whnf
  refine loop_lisx1 (fun (v1:Int) (v2:List Item)=>pad [(0,.one (.p (.sl (p0.map Item.row)))),(2,.one (.ptr 0 0)),(1,.one (.own 1)),(0,iv v1)] 48) (fun (v1:Int) (v2:List Item)=>[.box (Item.cs p1),.rows 8 (v2.map Item.row)]) _ p0 (fun pre1 x1e xs1 v1 v2 hl1 hi1 h ih1=>?_) (fun v1 v2 hi1 h=>?_) ([]:List Item) h
  ·rw [ref06_Put_l1] at h
   have am1:=at_mid hl1 hi1
   refine loop_intro hX ?_
   conv=>whnf
   repeat((first|refine dw ?_|refine eqv_to (map_len _) ?_|refine bct (lt_mid hl1 hi1) ?_|refine bct (at_in am1) ?_|refine bct (andt (at_in am1) rfl) ?_|refine row_in (at_row am1) ?_|refine bct (andt (at_in (at_nat am1)) rfl) ?_|refine row_in (at_row (at_nat am1)) ?_);conv=>whnf)
   revert h
   refine brk (fun c3 h=>?_) (fun c3 h=>?_)
   ·revert h
    refine chkk fun c4 h=>?_
    conv=>whnf
    repeat((first|refine dw ?_|refine bct c3 ?_|refine bct (at_in am1) ?_|refine bct (andt (at_in am1) rfl) ?_|refine row_in (at_row am1) ?_|refine bct (andt (at_in (at_nat am1)) rfl) ?_|refine row_in (at_row (at_nat am1)) ?_|refine bct (room_map c4 rfl rfl rfl rfl) ?_|refine eqv_to (cat_one (f:=Item.row) v2 x1e) ?_);conv=>whnf)
    exact ih1 _ (v2++[x1e]) (wrL hs1 hl1 hi1) h
   ·conv=>whnf
    repeat((first|refine dw ?_|refine bcf c3 ?_);conv=>whnf)
    exact ih1 _ v2 (wrL hs1 hl1 hi1) h
  ·rw [ref06_Put_l1] at h
   refine loop_intro hX ?_
   revert h
   refine chkk fun c5 h=>?_
   revert h
   refine chkk fun hs2 h=>?_
   conv=>whnf
   repeat((first|refine dw ?_|refine eqv_to (map_len _) ?_|refine bcf (lt_end hi1) ?_|refine bct (room_map c5 rfl rfl rfl rfl) ?_|refine eqv_to (cat_one (f:=Item.row) v2 p1) ?_);conv=>whnf)
   refine loop_lisx1 (fun (v6:Int) (v7:List Item)=>pad [(0,.one (.p (.sl (p0.map Item.row)))),(2,.one (.ptr 0 0)),(1,.one (.own 1)),(1,iv v6)] 47) (fun (v6:Int) (v7:List Item)=>[.box (Item.cs p1),.rows 8 (v7.map Item.row)]) _ p0 (fun pre2 x2e xs2 v6 v7 hl2 hi2 h ih2=>?_) (fun v6 v7 hi2 h=>?_) (v2++[p1]) h
   ·rw [ref06_Put_l2] at h
    have am2:=at_mid hl2 hi2
    refine loop_intro hX ?_
    conv=>whnf
    repeat((first|refine dw ?_|refine eqv_to (map_len _) ?_|refine bct (lt_mid hl2 hi2) ?_|refine bct (at_in am2) ?_|refine bct (andt (at_in am2) rfl) ?_|refine row_in (at_row am2) ?_|refine bct (andt (at_in (at_nat am2)) rfl) ?_|refine row_in (at_row (at_nat am2)) ?_);conv=>whnf)
    revert h
    refine brk (fun c8 h=>?_) (fun c8 h=>?_)
    ·revert h
     refine chkk fun c9 h=>?_
     conv=>whnf
     repeat((first|refine dw ?_|refine bct c8 ?_|refine bct (at_in am2) ?_|refine bct (andt (at_in am2) rfl) ?_|refine row_in (at_row am2) ?_|refine bct (andt (at_in (at_nat am2)) rfl) ?_|refine row_in (at_row (at_nat am2)) ?_|refine bct (room_map c9 rfl rfl rfl rfl) ?_|refine eqv_to (cat_one (f:=Item.row) v7 x2e) ?_);conv=>whnf)
     exact ih2 _ (v7++[x2e]) (wrL hs2 hl2 hi2) h
    ·conv=>whnf
     repeat((first|refine dw ?_|refine bcf c8 ?_);conv=>whnf)
     exact ih2 _ v7 (wrL hs2 hl2 hi2) h
   ·rw [ref06_Put_l2] at h
    refine loop_intro hX ?_
    conv=>whnf
    repeat((first|refine dw ?_|refine eqv_to (map_len _) ?_|refine bcf (lt_end hi2) ?_);conv=>whnf)
    exact ret_some (f:=fun y=>.one (.own 0)) (g:=fun y=>[.rows 8 (y.map Item.row)]) h hQ
theorem ref06_Both_c  {p0:List Item} {p1:List Item} {r:(List Item)} (h:ref06_Both_s p0 p1=some r) (hQ:Q (.one (.p (.sl (r.map Item.row)))) []):X (.call 29 [.one (.p (.sl (p0.map Item.row))),.one (.p (.sl (p1.map Item.row)))] [] Q):=by
  unfold ref06_Both_s at h
  refine call_nz hX ?_
  conv=>whnf
  refine call_intro hX Tryz.func29 rfl rfl ?_
  revert h
  refine chkk fun c1 h=>?_
  revert h
  refine chkk fun hs1 h=>?_
  conv=>whnf
  repeat((first|refine dw ?_|refine bct (room_zero c1 (List.length_map ..) rfl (rowsOk_map (f:=Item.row) (sz:=8) (fun _=>rfl) _) rfl) ?_|refine eqv_to (nil_map (f:=Item.row) _) ?_);conv=>whnf)
  refine loop_lisx1 (fun (v2:Int) (v3:List Item)=>pad [(1,.one (.p (.sl (p1.map Item.row)))),(3,.one (.own 0)),(0,iv v2)] 38) (fun (v2:Int) (v3:List Item)=>[.rows 8 (v3.map Item.row)]) _ p1 (fun pre1 x1e xs1 v2 v3 hl1 hi1 h ih1=>?_) (fun v2 v3 hi1 h=>?_) p0 h
  ·rw [ref06_Both_l1] at h
   have am1:=at_mid hl1 hi1
   refine loop_intro hX ?_
   revert h
   refine bndk fun y4 e5 h=>?_
   conv=>whnf
   repeat((first|refine dw ?_|refine eqv_to (map_len _) ?_|refine bct (lt_mid hl1 hi1) ?_|refine bct (at_in am1) ?_|refine bct (andt (at_in am1) rfl) ?_|refine row_in (at_row am1) ?_|refine bct (andt (at_in (at_nat am1)) rfl) ?_|refine row_in (at_row (at_nat am1)) ?_);conv=>whnf)
   refine Or.inl ?_
   conv=>whnf
   refine ref06_Get_c hX e5 ?_
   conv=>whnf
   repeat((first|refine dw ?_);conv=>whnf)
   revert h
   refine brk (fun c6 h=>?_) (fun c6 h=>?_)
   ·revert h
    refine bndk fun y7 e8 h=>?_
    conv=>whnf
    repeat((first|refine dw ?_|refine bct c6 ?_|refine bct (at_in am1) ?_|refine bct (andt (at_in am1) rfl) ?_|refine row_in (at_row am1) ?_|refine bct (andt (at_in (at_nat am1)) rfl) ?_|refine row_in (at_row (at_nat am1)) ?_);conv=>whnf)
    refine Or.inl ?_
    conv=>whnf
    refine ref06_Put_c hX e8 ?_
    conv=>whnf
    repeat((first|refine dw ?_);conv=>whnf)
    exact ih1 _ y7 (wrL hs1 hl1 hi1) h
   ·revert h
    refine bndk fun y9 e10 h=>?_
    conv=>whnf
    repeat((first|refine dw ?_|refine bcf c6 ?_|refine bct (at_in am1) ?_|refine bct (andt (at_in am1) rfl) ?_|refine row_in (at_row am1) ?_|refine bct (andt (at_in (at_nat am1)) rfl) ?_|refine row_in (at_row (at_nat am1)) ?_);conv=>whnf)
    refine ref01_Behind_c hX e10 ?_
    conv=>whnf
    repeat((first|refine dw ?_|refine bcf c6 ?_);conv=>whnf)
    revert h
    refine brk (fun c11 h=>?_) (fun c11 h=>?_)
    ·revert h
     refine bndk fun y12 e13 h=>?_
     conv=>whnf
     repeat((first|refine dw ?_|refine bct c11 ?_|refine bct (at_in am1) ?_|refine bct (andt (at_in am1) rfl) ?_|refine row_in (at_row am1) ?_|refine bct (andt (at_in (at_nat am1)) rfl) ?_|refine row_in (at_row (at_nat am1)) ?_);conv=>whnf)
     refine Or.inl ?_
     conv=>whnf
     refine ref06_Put_c hX e13 ?_
     conv=>whnf
     repeat((first|refine dw ?_);conv=>whnf)
     exact ih1 _ y12 (wrL hs1 hl1 hi1) h
    ·conv=>whnf
     repeat((first|refine dw ?_|refine bcf c11 ?_);conv=>whnf)
     exact ih1 _ v3 (wrL hs1 hl1 hi1) h
  ·rw [ref06_Both_l1] at h
   refine loop_intro hX ?_
   conv=>whnf
   repeat((first|refine dw ?_|refine eqv_to (map_len _) ?_|refine bcf (lt_end hi1) ?_);conv=>whnf)
   exact ret_some (f:=fun y=>.one (.p (.sl (y.map Item.row)))) (g:=fun y=>[]) h hQ
end
end Go.Proofs.YtidkmoohgadjkaaGreat
set_option maxHeartbeats 0
namespace Go.Proofs.YtidkmoohgadjkaaGreat
open Go E
noncomputable section
open Pred
def law00_Items_l1:List Item→(List Item)→Option ((List Item))
  | [],v2 =>
  some v2
  | x1e::xs1,v2 =>
  (bnd (law00_Item_s x1e) fun y3 =>
   (chk (roomL v2.length 1)
    (law00_Items_l1 xs1  (v2++[y3]))))
def law00_Items_s (p0:List Item):Option ((List Item)) :=
 (chk (smallL p0)
   ((law00_Items_l1) p0 ([]:List Item)))
def law00_Known_l1:List Frag→Option (Int)
  | [] =>
  some 1
  | x1e::xs1 =>
  (br (ltI 60 (x1e.ids.length:Int))
   (some 0)
   (law00_Known_l1 xs1  ))
def law00_Known_s (p0:Know):Option (Int) :=
 (br (ltI 30 (p0.l.length:Int))
  (some 0)
  (chk (smallL p0.l)
    ((law00_Known_l1) p0.l )))
def law00_Fits_s (p0:Sit):Option (Int) :=
 (br (ltI 60 (p0.store.length:Int))
  (some 0)
  (br (ltI 60 (p0.out.length:Int))
   (some 0)
   (bnd (law00_Small_s p0.f) fun y3 =>
    (bnd (law00_Known_s p0.k) fun y5 =>
     some (wr .i64 (y3 * y5))))))
def law00_State_s (p0:Sit):Option (State) :=
 (bnd (law00_Pred_s p0.f) fun y1 =>
  (bnd (law00_Items_s p0.store) fun y3 =>
   (bnd (law00_Items_s p0.out) fun y5 =>
    some (State.mk p0.r y1 y3 y5 p0.k p0.count p0.clock p0.epoch))))
variable {X:Task→Prop} (hX:Closed X) {Q:A→List Blk→Prop}
include hX
theorem law00_Items_c  {p0:List Item} {r:(List Item)} (h:law00_Items_s p0=some r) (hQ:Q (.one (.p (.sl (r.map Item.row)))) []):X (.call 80 [.one (.p (.sl (p0.map Item.lrow)))] [] Q):=by
  unfold law00_Items_s at h
  refine call_nz hX ?_
  conv=>whnf
  refine call_intro hX Tryz.func80 rfl rfl ?_
  revert h
  refine chkk fun hs1 h=>?_
  conv=>whnf
  repeat((first|refine dw ?_);conv=>whnf)
  refine loop_k hX [8] ?_
  conv=>whnf
  refine loop_lisx1 (fun (v1:Int) (v2:List Item)=>pad [(0,.one (.p (.sl (p0.map Item.lrow)))),(2,.one (.own 0)),(0,iv v1)] 15) (fun (v1:Int) (v2:List Item)=>[.rows 8 (v2.map Item.row)]) _ p0 (fun pre1 x1e xs1 v1 v2 hl1 hi1 h ih1=>?_) (fun v1 v2 hi1 h=>?_) ([]:List Item) h
  ·rw [law00_Items_l1] at h
   have am1:=at_mid hl1 hi1
   refine loop_intro hX ?_
   revert h
   refine bndk fun y3 e4 h=>?_
   conv=>whnf
   repeat((first|refine dw ?_|refine eqv_to (map_len _) ?_|refine bct (lt_mid hl1 hi1) ?_|refine bct (at_in am1) ?_|refine bct (andt (at_in am1) rfl) ?_|refine row_in (at_row am1) ?_|refine bct (andt (at_in (at_nat am1)) rfl) ?_|refine row_in (at_row (at_nat am1)) ?_);conv=>whnf)
   refine law00_Item_c hX e4 ?_
   revert h
   refine chkk fun c5 h=>?_
   conv=>whnf
   repeat((first|refine dw ?_|refine bct (room_map c5 rfl rfl rfl rfl) ?_|refine eqv_to (cat_one (f:=Item.row) v2 y3) ?_);conv=>whnf)
   exact ih1 _ (v2++[y3]) (wrL hs1 hl1 hi1) h
  ·rw [law00_Items_l1] at h
   refine loop_intro hX ?_
   conv=>whnf
   repeat((first|refine dw ?_|refine eqv_to (map_len _) ?_|refine bcf (lt_end hi1) ?_);conv=>whnf)
   exact ret_some (f:=fun y=>.one (.p (.sl (y.map Item.row)))) (g:=fun y=>[]) h hQ
theorem law00_Known_c  {p0:Know} {r:Int} (h:law00_Known_s p0=some r) (hQ:Q (iv r) []):X (.call 54 [.agg (Know.cs p0)] [] Q):=by
  have K:=fun a (e:some a=some r)=>ret_some (f:=fun y=>iv y) (g:=fun y=>[]) e hQ
  unfold law00_Known_s at h
  refine call_intro hX Tryz.func54 rfl rfl ?_
  conv=>whnf
  repeat((first|refine dw ?_|refine eqv_to (map_len _) ?_);conv=>whnf)
  revert h
  refine brk (fun c1 h=>?_) (fun c1 h=>?_)
  ·conv=>whnf
   repeat((first|refine dw ?_|refine bct c1 ?_);conv=>whnf)
   exact K _ h
  ·revert h
   refine chkk fun hs1 h=>?_
   conv=>whnf
   repeat((first|refine dw ?_|refine bcf c1 ?_);conv=>whnf)
   refine loop_lisx0 (fun (v2:Int)=>pad [(1,.one (.ptr 0 0)),(1,iv v2)] 19) (fun (v2:Int)=>[.box (Know.cs p0)]) _ p0.l (fun pre1 x1e xs1 v2  hl1 hi1 h ih1=>?_) (fun v2  hi1 h=>?_)  h
   ·rw [law00_Known_l1] at h
    have am1:=at_mid hl1 hi1
    refine loop_intro hX ?_
    conv=>whnf
    repeat((first|refine dw ?_|refine eqv_to (map_len _) ?_|refine bct (lt_mid hl1 hi1) ?_|refine bct (at_in am1) ?_|refine bct (andt (at_in am1) rfl) ?_|refine row_in (at_row am1) ?_|refine bct (andt (at_in (at_nat am1)) rfl) ?_|refine row_in (at_row (at_nat am1)) ?_);conv=>whnf)
    revert h
    refine brk (fun c3 h=>?_) (fun c3 h=>?_)
    ·conv=>whnf
     repeat((first|refine dw ?_|refine bct c3 ?_);conv=>whnf)
     exact K _ h
    ·conv=>whnf
     repeat((first|refine dw ?_|refine bcf c3 ?_);conv=>whnf)
     exact ih1 _  (wrL hs1 hl1 hi1) h
   ·rw [law00_Known_l1] at h
    refine loop_intro hX ?_
    conv=>whnf
    repeat((first|refine dw ?_|refine eqv_to (map_len _) ?_|refine bcf (lt_end hi1) ?_);conv=>whnf)
    exact K _ h
theorem law00_Fits_c  {p0:Sit} {r:Int} (h:law00_Fits_s p0=some r) (hQ:Q (iv r) []):X (.call 16 [.agg [ic p0.r,ic p0.f.op,.p (.v (.string p0.f.text)),ic p0.f.n,.p (.v (.float .f64 p0.f.re)),.p (.v (.float .f64 p0.f.im)),.p (.sl (Pred.lrows p0.f.kids)),.p (.sl (p0.store.map Item.lrow)),.p (.sl (p0.out.map Item.lrow)),ic p0.k.star.x0,ic p0.k.star.x1,ic p0.k.star.x2,ic p0.k.star.x3,ic p0.k.star.x4,ic p0.k.star.x5,ic p0.k.star.x6,ic p0.k.star.x7,.p (.sl (p0.k.l.map Frag.row)),ic p0.count,ic p0.clock,ic p0.epoch]] [] Q):=by
  have K:=fun a (e:some a=some r)=>ret_some (f:=fun y=>iv y) (g:=fun y=>[]) e hQ
  unfold law00_Fits_s at h
  refine call_intro hX Tryz.func16 rfl rfl ?_
  conv=>whnf
  repeat((first|refine dw ?_|refine eqv_to (map_len _) ?_);conv=>whnf)
  revert h
  refine brk (fun c1 h=>?_) (fun c1 h=>?_)
  ·conv=>whnf
   repeat((first|refine dw ?_|refine bct c1 ?_);conv=>whnf)
   exact K _ h
  ·conv=>whnf
   repeat((first|refine dw ?_|refine bcf c1 ?_|refine eqv_to (map_len _) ?_);conv=>whnf)
   revert h
   refine brk (fun c2 h=>?_) (fun c2 h=>?_)
   ·conv=>whnf
    repeat((first|refine dw ?_|refine bct c2 ?_);conv=>whnf)
    exact K _ h
   ·revert h
    refine bndk fun y3 e4 h=>?_
    conv=>whnf
    repeat((first|refine dw ?_|refine bcf c2 ?_);conv=>whnf)
    refine law00_Small_c hX e4 ?_
    revert h
    refine bndk fun y5 e6 h=>?_
    conv=>whnf
    repeat((first|refine dw ?_);conv=>whnf)
    refine law00_Known_c hX e6 ?_
    conv=>whnf
    repeat((first|refine dw ?_);conv=>whnf)
    exact K _ h
theorem law00_State_c  {p0:Sit} {r:State} (h:law00_State_s p0=some r) (hQ:Q (.agg (State.cs r)) []):X (.call 21 [.agg [ic p0.r,ic p0.f.op,.p (.v (.string p0.f.text)),ic p0.f.n,.p (.v (.float .f64 p0.f.re)),.p (.v (.float .f64 p0.f.im)),.p (.sl (Pred.lrows p0.f.kids)),.p (.sl (p0.store.map Item.lrow)),.p (.sl (p0.out.map Item.lrow)),ic p0.k.star.x0,ic p0.k.star.x1,ic p0.k.star.x2,ic p0.k.star.x3,ic p0.k.star.x4,ic p0.k.star.x5,ic p0.k.star.x6,ic p0.k.star.x7,.p (.sl (p0.k.l.map Frag.row)),ic p0.count,ic p0.clock,ic p0.epoch]] [] Q):=by
 unfold law00_State_s at h
 refine call_nz hX ?_
 conv=>whnf
 refine call_intro hX Tryz.func21 rfl rfl ?_
 revert h
 refine bndk fun y1 e2 h=>?_
 conv=>whnf
 repeat((first|refine dw ?_);conv=>whnf)
 refine law00_Pred_c hX e2 ?_
 revert h
 refine bndk fun y3 e4 h=>?_
 conv=>whnf
 repeat((first|refine dw ?_);conv=>whnf)
 refine law00_Items_c hX e4 ?_
 revert h
 refine bndk fun y5 e6 h=>?_
 conv=>whnf
 repeat((first|refine dw ?_);conv=>whnf)
 refine law00_Items_c hX e6 ?_
 conv=>whnf
 repeat((first|refine dw ?_);conv=>whnf)
 exact ret_some (f:=fun y=>.agg (State.cs y)) (g:=fun y=>[]) h hQ
end
end Go.Proofs.YtidkmoohgadjkaaGreat
set_option maxHeartbeats 4000000
namespace Go.Proofs.YtidkmoohgadjkaaGreat
open Go E Go.RowKit
theorem prim_ok:∀ f xs σ r σ',prim f xs σ r σ'→CallOk Tryz.prog f xs σ r σ':=fun _ _ _ _ _ h=>h
theorem all_lt {ts:List Nat} {n:Nat} (h:(ts.all fun t=>decide (t < n))=true):∀ t∈ts,t < n:=fun t ht=>of_decide_eq_true (List.all_eq_true.1 h t ht)
theorem all_rd {P:Program} {ts:List Nat} (h:(ts.all fun t=>P.readableRec t)=true):∀ t∈ts,P.readableRec t=true:=List.all_eq_true.1 h
theorem ownNone:ownKnob Tryz.prog.godebug=none:=by kernel_rfl
theorem laidOut:laidOutB Tryz.prog=true:=by kernel_rfl
theorem mixedF:Tryz.prog.follows .mixedOrders=true:=by kernel_rfl
theorem cellsInt:Tryz.prog.cellsOf 3=1:=by kernel_rfl
theorem cellsBool:Tryz.prog.cellsOf 4=1:=by kernel_rfl
theorem cellsFlt:Tryz.prog.cellsOf 22=1:=by kernel_rfl
theorem shInt (n:Nat):ShOk Tryz.prog n 3 (.int .i64):=.int Tryz.underlying3
theorem shBool (n:Nat):ShOk Tryz.prog n 4 .bool:=.bool Tryz.underlying4
theorem shFlt (n:Nat):ShOk Tryz.prog n 22 (.flt .f64):=.flt Tryz.underlying22
theorem sound_ok:Closed (TaskOk Tryz.prog):=sound T_ok mixedF prim_ok
theorem i64_of {n:Int} (h:(Lit.int .i64 n).wf=true) : -9223372036854775808≤n∧n≤9223372036854775807:=by
 simp only [Lit.wf,Bool.and_eq_true,decide_eq_true_eq] at h
 exact ⟨by simpa [IntKind.min,IntKind.signed,IntKind.bits] using h.1,by simpa [IntKind.max,IntKind.signed,IntKind.bits] using h.2⟩
end Go.Proofs.YtidkmoohgadjkaaGreat
set_option maxHeartbeats 4000000
namespace Go.Proofs.YtidkmoohgadjkaaGreat
open Go E Go.ChangeShapes Go.WideShapes Go.ChangeAt Go.RowKit
theorem cellsStr:Tryz.prog.cellsOf 9=1:=by kernel_rfl
theorem shStr (n:Nat):ShOk Tryz.prog n 9 .str:=.str Tryz.underlying9
theorem cellsRow:Tryz.prog.cellsOf 78=9:=by kernel_rfl
abbrev rowSh:Sh:=.cat .str (.cat (.int .i64) (.cat (.int .i64) (.cat (.int .i64) (.cat .str (.cat (.int .i64) (.cat (.flt .f64) (.cat (.flt .f64) (.cat .bool .nil))))))))
theorem shRow:∀ n,ShOk Tryz.prog n 78 rowSh
 | 0=>.zero
 | n + 1=>.struct Tryz.underlying78 cellsRow (.cons rfl cellsStr (shStr n) (.cons rfl cellsInt (shInt n) (.cons rfl cellsInt (shInt n) (.cons rfl cellsInt (shInt n) (.cons rfl cellsStr (shStr n) (.cons rfl cellsInt (shInt n) (.cons rfl cellsFlt (shFlt n) (.cons rfl cellsFlt (shFlt n) (.cons rfl cellsBool (shBool n) .nil)))))))))
theorem fits_row {l:List PC} (h:Fits rowSh l):∃ x:Item,x.Ok∧l=x.lrow:=by
 obtain ⟨_,_,rfl,⟨x0,rfl,w0⟩,_,_,rfl,⟨x1,rfl,w1⟩,_,_,rfl,⟨x2,rfl,w2⟩,_,_,rfl,⟨x3,rfl,w3⟩,_,_,rfl,⟨x4,rfl,w4⟩,_,_,rfl,⟨x5,rfl,w5⟩,_,_,rfl,⟨x6,rfl,w6⟩,_,_,rfl,⟨x7,rfl,w7⟩,_,_,rfl,⟨x8,rfl⟩,rfl⟩:=h
 exact ⟨⟨x0,x1,x2,x3,x4,x5,x6,x7,x8⟩,⟨Nat.le_trans w0 (by decide),Nat.le_trans w4 (by decide),i64_of w1,i64_of w2,i64_of w3,i64_of w5⟩,rfl⟩
section
variable {H:Type} {enc:TypeId × Value→H} {W:World} {v:Value} {d:DataW H} {ps:List MemPlace} {b0:Nat}
end
end Go.Proofs.YtidkmoohgadjkaaGreat
set_option maxHeartbeats 4000000
namespace Go.Proofs.YtidkmoohgadjkaaGreat
open Go E Go.ChangeShapes Go.WideShapes Go.ChangeAt Go.RowKit
theorem cellsRows:Tryz.prog.cellsOf 26=1:=by kernel_rfl
theorem shRows:∀ n,ShOk Tryz.prog n 26 (.sl rowSh)
 | 0=>.zero
 | n + 1=>.sl Tryz.underlying26 cellsRow (by decide) (shRow n)
theorem list_of {α:Type} {P:List PC→Prop} {Ok:α→Prop} {f:α→List PC} (h:∀ r,P r→∃ x,Ok x∧r=f x):∀ (l:List (List PC)),(∀ r∈l,P r)→∃ xs:List α,(∀ x∈xs,Ok x)∧l=xs.map f
 | [],_=>⟨[],by simp,rfl⟩
 | r::l,hl=>by
  obtain ⟨x,hx,rfl⟩:=h r (hl r (by simp))
  obtain ⟨xs,hxs,rfl⟩:=list_of h l fun r hr=>hl r (by simp [hr])
  exact ⟨x::xs,by simpa using ⟨hx,hxs⟩,rfl⟩
theorem fits_rows {l:List PC} (h:Fits (.sl rowSh) l):∃ xs:List Item,(∀ x∈xs,x.Ok)∧l=[.sl (xs.map Item.lrow)]:=by
 obtain ⟨rows,rfl,_,hr⟩:=h
 obtain ⟨xs,hx,rfl⟩:=list_of (P:=Fits rowSh) (Ok:=Item.Ok) (f:=Item.lrow) (fun r h=>fits_row h) rows hr
 exact ⟨xs,hx,rfl⟩
section
variable {H:Type} {enc:TypeId × Value→H} {W:World} {v:Value} {d:DataW H} {ps:List MemPlace} {b0:Nat}
end
end Go.Proofs.YtidkmoohgadjkaaGreat
set_option maxHeartbeats 4000000
namespace Go.Proofs.YtidkmoohgadjkaaGreat
open Go E Go.ChangeShapes Go.WideShapes Go.ChangeAt Go.RowKit
theorem cellsStrs:Tryz.prog.cellsOf 151=1:=by kernel_rfl
theorem cellsVec:Tryz.prog.cellsOf 28=8:=by kernel_rfl
theorem cellsFrag:Tryz.prog.cellsOf 153=9:=by kernel_rfl
theorem cellsFrags:Tryz.prog.cellsOf 29=1:=by kernel_rfl
theorem cellsKnow:Tryz.prog.cellsOf 31=9:=by kernel_rfl
theorem shStrs:∀ n,ShOk Tryz.prog n 151 (.sl .str)
 | 0=>.zero
 | n + 1=>.sl Tryz.underlying151 cellsStr (by decide) (shStr n)
theorem shVec:∀ n,ShOk Tryz.prog n 28 (repS (.int .i64) 8)
 | 0=>.zero
 | n + 1=>.arr (s:=.int .i64) Tryz.underlying28 cellsInt cellsVec (shInt n) rfl
abbrev fragSh:Sh:=.cat (.sl .str) (.cat (repS (.int .i64) 8) .nil)
theorem shFrag:∀ n,ShOk Tryz.prog n 153 fragSh
 | 0=>.zero
 | n + 1=>.struct Tryz.underlying153 cellsFrag (.cons rfl cellsStrs (shStrs n) (.cons rfl cellsVec (shVec n) .nil))
theorem shFrags:∀ n,ShOk Tryz.prog n 29 (.sl fragSh)
 | 0=>.zero
 | n + 1=>.sl Tryz.underlying29 cellsFrag (by decide) (shFrag n)
abbrev knowSh:Sh:=.cat (repS (.int .i64) 8) (.cat (.sl fragSh) .nil)
theorem shKnow:∀ n,ShOk Tryz.prog n 31 knowSh
 | 0=>.zero
 | n + 1=>.struct Tryz.underlying31 cellsKnow (.cons rfl cellsVec (shVec n) (.cons rfl cellsFrags (shFrags n) .nil))
theorem fits_v8 {l:List PC} (h:Fits (repS (.int .i64) 8) l):∃ v:V8,l=v.row:=by
 obtain ⟨_,_,rfl,⟨x0,rfl,w0⟩,_,_,rfl,⟨x1,rfl,w1⟩,_,_,rfl,⟨x2,rfl,w2⟩,_,_,rfl,⟨x3,rfl,w3⟩,_,_,rfl,⟨x4,rfl,w4⟩,_,_,rfl,⟨x5,rfl,w5⟩,_,_,rfl,⟨x6,rfl,w6⟩,_,_,rfl,⟨x7,rfl,w7⟩,rfl⟩:=h
 exact ⟨⟨x0,x1,x2,x3,x4,x5,x6,x7⟩,rfl⟩
theorem fits_strs {l:List PC} (h:Fits (.sl .str) l):∃ xs:List ByteArray,(∀ x∈xs,x.size≤9223372036854775807)∧l=[.sl (xs.map srw)]:=by
 obtain ⟨rows,rfl,_,hr⟩:=h
 obtain ⟨xs,hx,rfl⟩:=list_of (P:=Fits .str) (Ok:=fun x:ByteArray=>x.size≤9223372036854775807) (f:=srw) (fun r ⟨s,e,hs⟩=>⟨s,Nat.le_trans hs (by decide),e⟩) rows hr
 exact ⟨xs,hx,rfl⟩
theorem fits_frag {l:List PC} (h:Fits fragSh l):∃ f:Frag,(∀ x∈f.ids,x.size≤9223372036854775807)∧l=f.row:=by
 obtain ⟨_,_,rfl,h1,_,_,rfl,h2,rfl⟩:=h
 obtain ⟨xs,hx,rfl⟩:=fits_strs h1
 obtain ⟨v,rfl⟩:=fits_v8 h2
 exact ⟨⟨xs,v⟩,hx,by simp⟩
theorem fits_know {l:List PC} (h:Fits knowSh l):∃ k:Know,IdsOk k∧l=k.row:=by
 obtain ⟨_,_,rfl,h1,_,_,rfl,⟨rows,rfl,_,hr⟩,rfl⟩:=h
 obtain ⟨v,rfl⟩:=fits_v8 h1
 obtain ⟨fs,hf,rfl⟩:=list_of (P:=Fits fragSh) (Ok:=fun f:Frag=>∀ x∈f.ids,x.size≤9223372036854775807) (f:=Frag.row) (fun r h=>fits_frag h) rows hr
 exact ⟨⟨v,fs⟩,hf,by simp⟩
abbrev Know.la (k:Know):A:=.agg [ic k.star.x0,ic k.star.x1,ic k.star.x2,ic k.star.x3,ic k.star.x4,ic k.star.x5,ic k.star.x6,ic k.star.x7,.p (.sl (k.l.map Frag.row))]
abbrev Ver.la (v:Ver):A:=.agg [ic v.r,ic v.c]
def Ver.Ok (v:Ver):Prop:=(-9223372036854775808≤v.r∧v.r≤9223372036854775807) ∧ -9223372036854775808≤v.c∧v.c≤9223372036854775807
theorem cellsVer:Tryz.prog.cellsOf 66=2:=by kernel_rfl
abbrev verSh:Sh:=.cat (.int .i64) (.cat (.int .i64) .nil)
theorem shVer:∀ n,ShOk Tryz.prog n 66 verSh
 | 0=>.zero
 | n + 1=>.struct Tryz.underlying66 cellsVer (.cons rfl cellsInt (shInt n) (.cons rfl cellsInt (shInt n) .nil))
section
variable {H:Type} {enc:TypeId × Value→H} {W:World} {v:Value} {d:DataW H} {ps:List MemPlace} {b0:Nat}
end
end Go.Proofs.YtidkmoohgadjkaaGreat
namespace Go.Proofs.YtidkmoohgadjkaaGreat
open Go E Pred
noncomputable section
open Classical
theorem kalike_l2 {k:Option Bool}:∀ (xs pre ys:List ByteArray) (g:Frag),g.ids=pre++ys→xs.length=ys.length→know_alike_l2 g k xs (pre.length:Int)=if eqL xs ys then k else some false
 | [],pre,[],g,_,_=>by rw [know_alike_l2]; rfl
 | x::xs,pre,y::ys,g,hg,hl=>by
  have ih:=kalike_l2 (k:=k) xs (pre++[y]) ys g (by simpa using hg) (by simpa using hl)
  rw [List.length_append] at ih
  rw [know_alike_l2,bnd_of (by rw [hg]; exact at_app pre y ys),eqL]
  cases eqS x y with
  | false=>rfl
  | true=>rw [br_f (by rfl),Bool.true_and]; exact ih
 | [],_,_::_,_,_,h=>by simp at h
 | _::_,_,[],_,_,h=>by simp at h
theorem kalike_l1:∀ (fs pre gs:List Frag) (b:Know),b.l=pre++gs→fs.length=gs.length→(∀ f∈fs,f.ids.length≤1000000000)→know_alike_l1 b fs (pre.length:Int)=some (alikeL fs gs)
 | [],pre,[],b,_,_,_=>by rw [know_alike_l1]; rfl
 | f::fs,pre,g::gs,b,hb,hl,hi=>by
  have ih:=kalike_l1 fs (pre++[g]) gs b (by simpa using hb) (by simpa using hl) fun x hx=>hi x (List.mem_cons_of_mem _ hx)
  rw [List.length_append] at ih
  rw [know_alike_l1,bnd_of (by rw [hb]; exact at_app pre g gs),alikeL]
  unfold alikeF
  cases eq8 f.vec g.vec with
  | false=>rfl
  | true =>
   rw [br_t (by rfl),Bool.true_and]
   by_cases hn:f.ids.length=g.ids.length
   ·rw [br_f (by rw [hn,eqI_t.2 rfl]; rfl),chk_t (smallL_of (hi f (List.mem_cons_self ..)))]
    have h2:=kalike_l2 (k:=know_alike_l1 b fs ((pre.length:Int) + 1)) f.ids [] g.ids g rfl hn
    rw [show (([]:List ByteArray).length:Int)=0 from rfl] at h2
    rw [h2]
    cases eqL f.ids g.ids with
    | true=>rw [if_pos rfl,Bool.true_and]; exact ih
    | false=>rfl
   ·rw [br_t (by rw [eqI_f.2 (by omega)]; rfl),eqL_len hn]; rfl
 | [],_,_::_,_,_,h,_=>by simp at h
 | _::_,_,[],_,_,h,_=>by simp at h
theorem kalike_s {a b:Know} {N:Nat} (hN:N≤1000000000) (h:KB a N):know_alike_s a b=some (alikeK a b):=by
 unfold know_alike_s alikeK
 cases eq8 a.star b.star with
 | false=>rfl
 | true =>
  rw [br_t (by rfl),Bool.true_and]
  by_cases hl:a.l.length=b.l.length
  ·rw [br_f (by rw [hl,eqI_t.2 rfl]; rfl),chk_t (smallL_of (Nat.le_trans h.l hN))]
   exact kalike_l1 a.l [] b.l b rfl hl fun f hf=>Nat.le_trans (h.ids f hf) hN
  ·rw [br_t (by rw [eqI_f.2 (by omega)]; rfl),alikeL_len hl]
theorem khas_l2 {id:ByteArray} {v:Ver} {f:Frag} {k:Option Bool}:∀ (ids:List ByteArray) (i:Int),0≤i→know_Has_l2 id v f k ids i=if memB ids id=true then (if hasV f.vec v.r v.c=true then some true else k) else k
 | [],i,_=>by rw [know_Has_l2]; rfl
 | x::ids,i,hi=>by
  rw [know_Has_l2,khas_l2 ids (i + 1) (by omega),memB_cons,eqS_comm' id x]
  cases eqS x id with
  | false=>rfl
  | true =>
   rw [br_t rfl,br_t (leI_t.2 hi),bnd_of (show vec_Has_s f.vec v=some (hasV f.vec v.r v.c) from rfl),br_if]; rfl
theorem khas_l1 {id:ByteArray} {v:Ver}:∀ l:List Frag,(∀ f∈l,f.ids.length≤1000000000)→know_Has_l1 id v l=some (l.any fun f=>hasF f id v.r v.c)
 | [],_=>by rw [know_Has_l1]; rfl
 | f::l,h=>by
  rw [know_Has_l1,chk_t (smallL_of (h f (List.mem_cons_self ..))),khas_l2 _ _ (by decide),khas_l1 l fun g hg=>h g (List.mem_cons_of_mem _ hg),List.any_cons]
  unfold hasF
  cases memB f.ids id<;>cases hasV f.vec v.r v.c<;>rfl
theorem khas_s {k:Know} {id:ByteArray} {v:Ver} {N:Nat} (hN:N≤1000000000) (h:KB k N):know_Has_s k id v=some (hasK k id v.r v.c):=by
 unfold know_Has_s hasK
 rw [bnd_of (show vec_Has_s k.star v=some (hasV k.star v.r v.c) from rfl),chk_t (smallL_of (Nat.le_trans h.l hN)),khas_l1 _ fun f hf=>Nat.le_trans (h.ids f hf) hN]
 cases hasV k.star v.r v.c<;>rfl
theorem kmay_l2 {k:Option Bool}:∀ (xs:List ByteArray) (i:Int),0≤i→(∀ x∈xs,x.size≤9223372036854775807)→know_May_l2 k xs i=if (xs.all fun x=>lettersB x 1) then k else some false
 | [],i,_,_=>by rw [know_May_l2]; rfl
 | x::xs,i,hi,h=>by
  have e:item_Name_s x=some (lettersB x 1):=by unfold item_Name_s; rw [chk_t (decide_eq_true (h x (List.mem_cons_self ..)))]
  rw [know_May_l2,bnd_of e,kmay_l2 xs (i + 1) (by omega) fun y hy=>h y (List.mem_cons_of_mem _ hy),List.all_cons]
  cases lettersB x 1 with
  | true=>rfl
  | false=>rw [br_t (by rfl),br_t (leI_t.2 hi)]; rfl
theorem kmay_l1:∀ (l:List Frag),(∀ f∈l,f.ids.length≤1000000000)→(∀ f∈l, ∀ x∈f.ids,x.size≤9223372036854775807)→know_May_l1 l=some (l.all mayF)
 | [],_,_=>by rw [know_May_l1]; rfl
 | f::l,h,h2=>by
  rw [know_May_l1,bnd_of (show vec_May_s f.vec=some (mayV f.vec) from rfl),List.all_cons]
  unfold mayF
  cases mayV f.vec with
  | false=>rfl
  | true =>
   rw [br_f (by rfl),chk_t (smallL_of (h f (List.mem_cons_self ..))),kmay_l2 _ _ (by decide) (h2 f (List.mem_cons_self ..)),kmay_l1 l (fun g hg=>h g (List.mem_cons_of_mem _ hg)) fun g hg=>h2 g (List.mem_cons_of_mem _ hg)]
   unfold mayF
   cases (f.ids.all fun x=>lettersB x 1)<;>rfl
theorem kmay_s {k:Know} (h:KT k 990000) (hi:IdsOk k):know_May_s k=some (mayK k):=by
 unfold know_May_s mayK
 rw [bnd_of (show vec_May_s k.star=some (mayV k.star) from rfl)]
 cases mayV k.star with
 | false=>rw [br_t (by rfl)]; simp
 | true =>
  rw [br_f (by rfl),bnd_of (kplain_s h hi),bnd_of (kalike_s (by decide) h.kb)]
  cases alikeK k (plainK k) with
  | false=>rfl
  | true=>rw [br_f (by rfl),chk_t (smallL_of (by have:=h.l; omega)),kmay_l1 _ (fun f hf=>by have:=h.kb.ids f hf; omega) hi]; rfl
theorem KB.mono' {k:Know} {n m:Nat} (h:KB k n) (hm:n≤m):KB k m:=⟨Nat.le_trans h.l hm,fun f hf=>Nat.le_trans (h.ids f hf) hm⟩
end
end Go.Proofs.YtidkmoohgadjkaaGreat
set_option maxHeartbeats 0
namespace Go.Proofs.YtidkmoohgadjkaaGreat
open Go E
noncomputable section
open Pred
def ref09_stood_l1 (p0:State) (p2:Bool):List Item→Option (Bool)
  | [] =>
  some true
  | x1e::xs1 =>
  (bnd (ref03_Has_s p0.f x1e) fun y2 =>
   (bnd (ref06_Has_s p0.k x1e.id (Ver.mk x1e.vr x1e.vc)) fun y4 =>
    (br (@Bool.rec (fun _=>Bool) p2 (!p2) y2)
     (some false)
     (br (!y4)
      (some false)
      (br (ltI p0.clock x1e.stamp)
       (some false)
       (ref09_stood_l1 p0 p2 xs1  ))))))
def ref09_stood_s (p0:State) (p1:List Item) (p2:Bool):Option (Bool) :=
 (chk (smallL p1)
   ((ref09_stood_l1 p0 p2) p1 ))
def ref09_Beyond_l1 (p1:Int) (p2:Int):List Frag→Option (Bool)
  | [] =>
  some false
  | x1e::xs1 =>
  (bnd (ref06_Count_s x1e.vec p1) fun y5 =>
   (br (ltI p2 y5)
    (some true)
    (ref09_Beyond_l1 p1 p2 xs1  )))
def ref09_Beyond_s (p0:Know) (p1:Int) (p2:Int):Option (Bool) :=
 (bnd (ref06_Count_s p0.star p1) fun y1 =>
  (br (ltI p2 y1)
   (some true)
   (chk (smallL p0.l)
     ((ref09_Beyond_l1 p1 p2) p0.l ))))
def ref09_May_l1 (p0:State):List Item→Option (Bool)
  | [] =>
  (bnd (ref09_stood_s p0 p0.store true) fun y26 =>
   (bnd (ref09_stood_s p0 p0.out false) fun y28 =>
    (bnd (ref09_Beyond_s p0.k p0.r p0.count) fun y30 =>
     (br y26
      (br y28
       (some (!y30))
       (some false))
      (some false)))))
  | x1e::xs1 =>
  (bnd (ref06_Get_s p0.store x1e.id) fun y23 =>
   (br y23.2
    (some false)
    (ref09_May_l1 p0 xs1  )))
def ref09_May_s (p0:State):Option (Bool) :=
 (bnd (ref03_May_s p0.f) fun y1 =>
  (bnd (ref06_MayList_s p0.store) fun y3 =>
   (bnd (ref06_MayList_s p0.out) fun y5 =>
    (bnd (ref06_May_s p0.k) fun y7 =>
     (br (!y1)
      (some false)
      (br (!y3)
       (some false)
       (br (!y5)
        (some false)
        (br (!y7)
         (some false)
         (br (ltI p0.r 1)
          (some false)
          (br (ltI 8 p0.r)
           (some false)
           (br (ltI 40 (wr .i64 ((p0.store.length:Int) + (p0.out.length:Int))))
            (some false)
            (br (ltI p0.count 0)
             (some false)
             (br (ltI 1000 p0.count)
              (some false)
              (br (ltI p0.clock 0)
               (some false)
               (br (ltI 1000000 p0.clock)
                (some false)
                (br (ltI p0.epoch 0)
                 (some false)
                 (br (ltI 1000000 p0.epoch)
                  (some false)
                  (chk (smallL p0.out)
                    ((ref09_May_l1 p0) p0.out )))))))))))))))))))
def fresh_Know_l1 (p0:Know):List Frag→(List Frag)→Option (Know)
  | [],v2 =>
  some (Know.mk p0.star v2)
  | x1e::xs1,v2 =>
  (bnd (clone_s x1e.ids) fun y3 =>
   (chk (roomL v2.length 1)
    (fresh_Know_l1 p0 xs1  (v2++[(Frag.mk y3 x1e.vec)]))))
def fresh_Know_s (p0:Know):Option (Know) :=
 (chk (smallL p0.l)
   ((fresh_Know_l1 p0) p0.l ([]:List Frag)))
def ref11_SameEntry_s (p0:Entry) (p1:Entry):Option (Bool) :=
 (bnd (ref01_Same_s p0.item p1.item) fun y1 =>
  (br y1
   (br (@Bool.rec (fun _=>Bool) (!p1.goes) p1.goes p0.goes)
    (some (andB (eqI p0.nr p1.nr) (andB (eqI p0.nc p1.nc) true)))
    (some false))
   (some false)))
def ref11_SameEntries_l1 (p1:List Entry):List Entry→Int→Option (Bool)
  | [],v2 =>
  some true
  | x1e::xs1,v2 =>
  (bnd (atL p1 v2) fun x3 =>
   (bnd (ref11_SameEntry_s x1e x3) fun y5 =>
    (br (!y5)
     (some false)
     (ref11_SameEntries_l1 p1 xs1 (v2 + 1) ))))
def ref11_SameEntries_s (p0:List Entry) (p1:List Entry):Option (Bool) :=
 (br (!eqI (p0.length:Int) (p1.length:Int))
  (some false)
  (chk (smallL p0)
    ((ref11_SameEntries_l1 p1) p0 0 )))
def ref11_SameMsg_l1 (p0:Msg) (p1:Msg):List Has→Int→Option (Bool)
  | [],v9 =>
  (bnd (ref03_Same_s p0.f p1.f) fun y15 =>
   (bnd (ref06_Alike_s p0.k p1.k) fun y17 =>
    (bnd (ref11_SameEntries_s p0.l p1.l) fun y19 =>
     (br y15
      (br y17
       (some y19)
       (some false))
      (some false)))))
  | x1e::xs1,v9 =>
  (bnd (atL p1.have_ v9) fun x10 =>
   (br (!eqS x1e.id x10.id)
    (some false)
    (br (!(andB (eqI x1e.vr x10.vr) (andB (eqI x1e.vc x10.vc) true)))
     (some false)
     (br (!eqI x1e.stamp x10.stamp)
      (some false)
      (ref11_SameMsg_l1 p0 p1 xs1 (v9 + 1) )))))
def ref11_SameMsg_s (p0:Msg) (p1:Msg):Option (Bool) :=
 (br (!eqI p0.kind p1.kind)
  (some false)
  (br (!eqI p0.src p1.src)
   (some false)
   (br (!eqI p0.dst p1.dst)
    (some false)
    (br (!eqI p0.sid p1.sid)
     (some false)
     (br (!eqI p0.turn p1.turn)
      (some false)
      (br (!eqI p0.n p1.n)
       (some false)
       (br (@Bool.rec (fun _=>Bool) p1.star (!p1.star) p0.star)
        (some false)
        (br (!eqI (p0.have_.length:Int) (p1.have_.length:Int))
         (some false)
         (chk (smallL p0.have_)
           ((ref11_SameMsg_l1 p0 p1) p0.have_ 0 ))))))))))
variable {X:Task→Prop} (hX:Closed X) {Q:A→List Blk→Prop}
include hX
theorem ref09_stood_c  {p0:State} {p1:List Item} {p2:Bool} {r:Bool} (h:ref09_stood_s p0 p1 p2=some r) (hQ:Q (.one (.p (.v (.bool r)))) []):X (.call 82 [.agg (State.cs p0),.one (.p (.sl (p1.map Item.row))),.one (.p (.v (.bool p2)))] [] Q):=by
  have K:=fun a (e:some a=some r)=>ret_some (f:=fun y=>.one (.p (.v (.bool y)))) (g:=fun y=>[]) e hQ
  unfold ref09_stood_s at h
  refine call_intro hX Tryz.func82 rfl rfl ?_
  revert h
  refine chkk fun hs1 h=>?_
  conv=>whnf
  repeat((first|refine dw ?_);conv=>whnf)
  refine loop_lisx0 (fun (v1:Int)=>pad [(1,.one (.p (.sl (p1.map Item.row)))),(0,.one (.p (.v (.bool p2)))),(0,.one (.ptr 0 0)),(3,iv v1)] 45) (fun (v1:Int)=>[.box (State.cs p0)]) _ p1 (fun pre1 x1e xs1 v1  hl1 hi1 h ih1=>?_) (fun v1  hi1 h=>?_)  h
  ·rw [ref09_stood_l1] at h
   have am1:=at_mid hl1 hi1
   refine loop_intro hX ?_
   revert h
   refine bndk fun y2 e3 h=>?_
   conv=>whnf
   repeat((first|refine dw ?_|refine eqv_to (map_len _) ?_|refine bct (lt_mid hl1 hi1) ?_|refine bct (at_in am1) ?_|refine bct (andt (at_in am1) rfl) ?_|refine row_in (at_row am1) ?_|refine bct (andt (at_in (at_nat am1)) rfl) ?_|refine row_in (at_row (at_nat am1)) ?_);conv=>whnf)
   refine ref03_Has_c hX e3 ?_
   revert h
   refine bndk fun y4 e5 h=>?_
   conv=>whnf
   repeat((first|refine dw ?_|refine bct (at_in am1) ?_|refine bct (andt (at_in am1) rfl) ?_|refine row_in (at_row am1) ?_|refine bct (andt (at_in (at_nat am1)) rfl) ?_|refine row_in (at_row (at_nat am1)) ?_);conv=>whnf)
   refine ref06_Has_c hX e5 ?_
   conv=>whnf
   repeat((first|refine dw ?_);conv=>whnf)
   revert h
   refine brk (fun c6 h=>?_) (fun c6 h=>?_)
   ·conv=>whnf
    repeat((first|refine dw ?_|refine bct c6 ?_);conv=>whnf)
    exact K _ h
   ·conv=>whnf
    repeat((first|refine dw ?_|refine bcf c6 ?_);conv=>whnf)
    revert h
    refine brk (fun c7 h=>?_) (fun c7 h=>?_)
    ·conv=>whnf
     repeat((first|refine dw ?_|refine bct c7 ?_);conv=>whnf)
     exact K _ h
    ·conv=>whnf
     repeat((first|refine dw ?_|refine bcf c7 ?_|refine bct (at_in am1) ?_|refine bct (andt (at_in am1) rfl) ?_|refine row_in (at_row am1) ?_|refine bct (andt (at_in (at_nat am1)) rfl) ?_|refine row_in (at_row (at_nat am1)) ?_);conv=>whnf)
     revert h
     refine brk (fun c8 h=>?_) (fun c8 h=>?_)
     ·conv=>whnf
      repeat((first|refine dw ?_|refine bct c8 ?_);conv=>whnf)
      exact K _ h
     ·conv=>whnf
      repeat((first|refine dw ?_|refine bcf c8 ?_);conv=>whnf)
      exact ih1 _  (wrL hs1 hl1 hi1) h
  ·rw [ref09_stood_l1] at h
   refine loop_intro hX ?_
   conv=>whnf
   repeat((first|refine dw ?_|refine eqv_to (map_len _) ?_|refine bcf (lt_end hi1) ?_);conv=>whnf)
   exact K _ h
theorem ref09_Beyond_c  {p0:Know} {p1:Int} {p2:Int} {r:Bool} (h:ref09_Beyond_s p0 p1 p2=some r) (hQ:Q (.one (.p (.v (.bool r)))) []):X (.call 83 [.agg (Know.cs p0),iv p1,iv p2] [] Q):=by
  have K:=fun a (e:some a=some r)=>ret_some (f:=fun y=>.one (.p (.v (.bool y)))) (g:=fun y=>[]) e hQ
  unfold ref09_Beyond_s at h
  refine call_intro hX Tryz.func83 rfl rfl ?_
  revert h
  refine bndk fun y1 e2 h=>?_
  conv=>whnf
  repeat((first|refine dw ?_);conv=>whnf)
  refine ref06_Count_c hX e2 ?_
  conv=>whnf
  repeat((first|refine dw ?_);conv=>whnf)
  revert h
  refine brk (fun c3 h=>?_) (fun c3 h=>?_)
  ·conv=>whnf
   repeat((first|refine dw ?_|refine bct c3 ?_);conv=>whnf)
   exact K _ h
  ·revert h
   refine chkk fun hs1 h=>?_
   conv=>whnf
   repeat((first|refine dw ?_|refine bcf c3 ?_);conv=>whnf)
   refine loop_lisx0 (fun (v4:Int)=>pad [(1,iv p1),(0,iv p2),(0,.one (.ptr 0 0)),(3,iv v4)] 23) (fun (v4:Int)=>[.box (Know.cs p0)]) _ p0.l (fun pre1 x1e xs1 v4  hl1 hi1 h ih1=>?_) (fun v4  hi1 h=>?_)  h
   ·rw [ref09_Beyond_l1] at h
    have am1:=at_mid hl1 hi1
    refine loop_intro hX ?_
    revert h
    refine bndk fun y5 e6 h=>?_
    conv=>whnf
    repeat((first|refine dw ?_|refine eqv_to (map_len _) ?_|refine bct (lt_mid hl1 hi1) ?_|refine bct (at_in am1) ?_|refine bct (andt (at_in am1) rfl) ?_|refine row_in (at_row am1) ?_|refine bct (andt (at_in (at_nat am1)) rfl) ?_|refine row_in (at_row (at_nat am1)) ?_);conv=>whnf)
    refine ref06_Count_c hX e6 ?_
    conv=>whnf
    repeat((first|refine dw ?_);conv=>whnf)
    revert h
    refine brk (fun c7 h=>?_) (fun c7 h=>?_)
    ·conv=>whnf
     repeat((first|refine dw ?_|refine bct c7 ?_);conv=>whnf)
     exact K _ h
    ·conv=>whnf
     repeat((first|refine dw ?_|refine bcf c7 ?_);conv=>whnf)
     exact ih1 _  (wrL hs1 hl1 hi1) h
   ·rw [ref09_Beyond_l1] at h
    refine loop_intro hX ?_
    conv=>whnf
    repeat((first|refine dw ?_|refine eqv_to (map_len _) ?_|refine bcf (lt_end hi1) ?_);conv=>whnf)
    exact K _ h
theorem ref09_May_c  {p0:State} {r:Bool} (h:ref09_May_s p0=some r) (hQ:Q (.one (.p (.v (.bool r)))) []):X (.call 22 [.agg (State.cs p0)] [] Q):=by
  have K:=fun a (e:some a=some r)=>ret_some (f:=fun y=>.one (.p (.v (.bool y)))) (g:=fun y=>[]) e hQ
  unfold ref09_May_s at h
  refine call_intro hX Tryz.func22 rfl rfl ?_
  revert h
  refine bndk fun y1 e2 h=>?_
  conv=>whnf
  repeat((first|refine dw ?_);conv=>whnf)
  refine ref03_May_c hX e2 ?_
  revert h
  refine bndk fun y3 e4 h=>?_
  conv=>whnf
  repeat((first|refine dw ?_);conv=>whnf)
  refine ref06_MayList_c hX e4 ?_
  revert h
  refine bndk fun y5 e6 h=>?_
  conv=>whnf
  repeat((first|refine dw ?_);conv=>whnf)
  refine ref06_MayList_c hX e6 ?_
  revert h
  refine bndk fun y7 e8 h=>?_
  conv=>whnf
  repeat((first|refine dw ?_);conv=>whnf)
  refine ref06_May_c hX e8 ?_
  conv=>whnf
  repeat((first|refine dw ?_);conv=>whnf)
  revert h
  refine brk (fun c9 h=>?_) (fun c9 h=>?_)
  ·conv=>whnf
   repeat((first|refine dw ?_|refine bct c9 ?_);conv=>whnf)
   exact K _ h
  ·conv=>whnf
   repeat((first|refine dw ?_|refine bcf c9 ?_);conv=>whnf)
   revert h
   refine brk (fun c10 h=>?_) (fun c10 h=>?_)
   ·conv=>whnf
    repeat((first|refine dw ?_|refine bct c10 ?_);conv=>whnf)
    exact K _ h
   ·conv=>whnf
    repeat((first|refine dw ?_|refine bcf c10 ?_);conv=>whnf)
    revert h
    refine brk (fun c11 h=>?_) (fun c11 h=>?_)
    ·conv=>whnf
     repeat((first|refine dw ?_|refine bct c11 ?_);conv=>whnf)
     exact K _ h
    ·conv=>whnf
     repeat((first|refine dw ?_|refine bcf c11 ?_);conv=>whnf)
     revert h
     refine brk (fun c12 h=>?_) (fun c12 h=>?_)
     ·conv=>whnf
      repeat((first|refine dw ?_|refine bct c12 ?_);conv=>whnf)
      exact K _ h
     ·conv=>whnf
      repeat((first|refine dw ?_|refine bcf c12 ?_);conv=>whnf)
      revert h
      refine brk (fun c13 h=>?_) (fun c13 h=>?_)
      ·conv=>whnf
       repeat((first|refine dw ?_|refine bct c13 ?_);conv=>whnf)
       exact K _ h
      ·conv=>whnf
       repeat((first|refine dw ?_|refine bcf c13 ?_);conv=>whnf)
       revert h
       refine brk (fun c14 h=>?_) (fun c14 h=>?_)
       ·conv=>whnf
        repeat((first|refine dw ?_|refine bct c14 ?_);conv=>whnf)
        exact K _ h
       ·conv=>whnf
        repeat((first|refine dw ?_|refine bcf c14 ?_|refine eqv_to (map_len _) ?_);conv=>whnf)
        revert h
        refine brk (fun c15 h=>?_) (fun c15 h=>?_)
        ·conv=>whnf
         repeat((first|refine dw ?_|refine bct c15 ?_);conv=>whnf)
         exact K _ h
        ·conv=>whnf
         repeat((first|refine dw ?_|refine bcf c15 ?_);conv=>whnf)
         revert h
         refine brk (fun c16 h=>?_) (fun c16 h=>?_)
         ·conv=>whnf
          repeat((first|refine dw ?_|refine bct c16 ?_);conv=>whnf)
          exact K _ h
         ·conv=>whnf
          repeat((first|refine dw ?_|refine bcf c16 ?_);conv=>whnf)
          revert h
          refine brk (fun c17 h=>?_) (fun c17 h=>?_)
          ·conv=>whnf
           repeat((first|refine dw ?_|refine bct c17 ?_);conv=>whnf)
           exact K _ h
          ·conv=>whnf
           repeat((first|refine dw ?_|refine bcf c17 ?_);conv=>whnf)
           revert h
           refine brk (fun c18 h=>?_) (fun c18 h=>?_)
           ·conv=>whnf
            repeat((first|refine dw ?_|refine bct c18 ?_);conv=>whnf)
            exact K _ h
           ·conv=>whnf
            repeat((first|refine dw ?_|refine bcf c18 ?_);conv=>whnf)
            revert h
            refine brk (fun c19 h=>?_) (fun c19 h=>?_)
            ·conv=>whnf
             repeat((first|refine dw ?_|refine bct c19 ?_);conv=>whnf)
             exact K _ h
            ·conv=>whnf
             repeat((first|refine dw ?_|refine bcf c19 ?_);conv=>whnf)
             revert h
             refine brk (fun c20 h=>?_) (fun c20 h=>?_)
             ·conv=>whnf
              repeat((first|refine dw ?_|refine bct c20 ?_);conv=>whnf)
              exact K _ h
             ·conv=>whnf
              repeat((first|refine dw ?_|refine bcf c20 ?_);conv=>whnf)
              revert h
              refine brk (fun c21 h=>?_) (fun c21 h=>?_)
              ·conv=>whnf
               repeat((first|refine dw ?_|refine bct c21 ?_);conv=>whnf)
               exact K _ h
              ·revert h
               refine chkk fun hs1 h=>?_
               conv=>whnf
               repeat((first|refine dw ?_|refine bcf c21 ?_);conv=>whnf)
               refine loop_lisx0 (fun (v22:Int)=>pad [(1,.one (.ptr 0 0)),(5,iv v22)] 122) (fun (v22:Int)=>[.box (State.cs p0)]) _ p0.out (fun pre1 x1e xs1 v22  hl1 hi1 h ih1=>?_) (fun v22  hi1 h=>?_)  h
               ·rw [ref09_May_l1] at h
                have am1:=at_mid hl1 hi1
                refine loop_intro hX ?_
                revert h
                refine bndk fun y23 e24 h=>?_
                conv=>whnf
                repeat((first|refine dw ?_|refine eqv_to (map_len _) ?_|refine bct (lt_mid hl1 hi1) ?_|refine bct (at_in am1) ?_|refine bct (andt (at_in am1) rfl) ?_|refine row_in (at_row am1) ?_|refine bct (andt (at_in (at_nat am1)) rfl) ?_|refine row_in (at_row (at_nat am1)) ?_);conv=>whnf)
                refine ref06_Get_c hX e24 ?_
                conv=>whnf
                repeat((first|refine dw ?_);conv=>whnf)
                revert h
                refine brk (fun c25 h=>?_) (fun c25 h=>?_)
                ·conv=>whnf
                 repeat((first|refine dw ?_|refine bct c25 ?_);conv=>whnf)
                 exact K _ h
                ·conv=>whnf
                 repeat((first|refine dw ?_|refine bcf c25 ?_);conv=>whnf)
                 exact ih1 _  (wrL hs1 hl1 hi1) h
               ·rw [ref09_May_l1] at h
                refine loop_intro hX ?_
                revert h
                refine bndk fun y26 e27 h=>?_
                conv=>whnf
                repeat((first|refine dw ?_|refine eqv_to (map_len _) ?_|refine bcf (lt_end hi1) ?_);conv=>whnf)
                refine ref09_stood_c hX e27 ?_
                revert h
                refine bndk fun y28 e29 h=>?_
                conv=>whnf
                repeat((first|refine dw ?_);conv=>whnf)
                refine ref09_stood_c hX e29 ?_
                revert h
                refine bndk fun y30 e31 h=>?_
                conv=>whnf
                repeat((first|refine dw ?_);conv=>whnf)
                refine ref09_Beyond_c hX e31 ?_
                conv=>whnf
                repeat((first|refine dw ?_);conv=>whnf)
                revert h
                refine brk (fun c32 h=>?_) (fun c32 h=>?_)
                ·conv=>whnf
                 repeat((first|refine dw ?_|refine bct c32 ?_);conv=>whnf)
                 revert h
                 refine brk (fun c33 h=>?_) (fun c33 h=>?_)
                 ·conv=>whnf
                  repeat((first|refine dw ?_|refine bct c33 ?_);conv=>whnf)
                  exact K _ h
                 ·conv=>whnf
                  repeat((first|refine dw ?_|refine bcf c33 ?_);conv=>whnf)
                  exact K _ h
                ·conv=>whnf
                 repeat((first|refine dw ?_|refine bcf c32 ?_);conv=>whnf)
                 exact K _ h
theorem fresh_Know_c  {p0:Know} {r:Know} (h:fresh_Know_s p0=some r) (hQ:Q (.agg (Know.cs r)) []):X (.call 127 [.agg (Know.cs p0)] [] Q):=by
  unfold fresh_Know_s at h
  refine call_nz hX ?_
  conv=>whnf
  refine call_intro hX Tryz.func127 rfl rfl ?_
  revert h
  refine chkk fun hs1 h=>?_
  conv=>whnf
  repeat((first|refine dw ?_|refine eqv_to (map_len _) ?_);conv=>whnf)
  refine loop_nc hX ?_
  conv=>whnf
  refine loop_k hX [0,9] ?_
  conv=>whnf
  refine loop_lisx1 (fun (v1:Int) (v2:List Frag)=>pad [(2,.one (.ptr 0 0)),(0,.one (.ptr 2 0)),(6,.one (.p (.sl (p0.l.map Frag.row)))),(0,iv (p0.l.length:Int)),(0,iv v1)] 16) (fun (v1:Int) (v2:List Frag)=>[.box [ic 0,ic 0,ic 0,ic 0,ic 0,ic 0,ic 0,ic 0,.own 1],.rows 0 [],.box [ic p0.star.x0,ic p0.star.x1,ic p0.star.x2,ic p0.star.x3,ic p0.star.x4,ic p0.star.x5,ic p0.star.x6,ic p0.star.x7,.own 3],.rows 9 (v2.map Frag.row)]) _ p0.l (fun pre1 x1e xs1 v1 v2 hl1 hi1 h ih1=>?_) (fun v1 v2 hi1 h=>?_) ([]:List Frag) h
  ·rw [fresh_Know_l1] at h
   have am1:=at_mid hl1 hi1
   refine loop_intro hX ?_
   revert h
   refine bndk fun y3 e4 h=>?_
   conv=>whnf
   repeat((first|refine dw ?_|refine bct (lt_mid hl1 hi1) ?_|refine bct (at_in am1) ?_|refine bct (andt (at_in am1) rfl) ?_|refine row_in (at_row am1) ?_|refine bct (andt (at_in (at_nat am1)) rfl) ?_|refine row_in (at_row (at_nat am1)) ?_);conv=>whnf)
   refine clone_c (f:=srw) (k:=1) (fun _=>rfl) (by decide) hX e4 ?_
   revert h
   refine chkk fun c5 h=>?_
   conv=>whnf
   repeat((first|refine dw ?_|refine bct (room_map c5 rfl rfl rfl rfl) ?_|refine eqv_to (cat_one (f:=Frag.row) v2 (Frag.mk y3 x1e.vec)) ?_);conv=>whnf)
   exact ih1 _ (v2++[(Frag.mk y3 x1e.vec)]) (wrL hs1 hl1 hi1) h
  ·rw [fresh_Know_l1] at h
   refine loop_intro hX ?_
   conv=>whnf
   repeat((first|refine dw ?_|refine bcf (lt_end hi1) ?_);conv=>whnf)
   exact ret_some (f:=fun y=>.agg (Know.cs y)) (g:=fun y=>[]) h hQ
end
end Go.Proofs.YtidkmoohgadjkaaGreat
namespace Go.Proofs.YtidkmoohgadjkaaGreat
open Go E Pred
noncomputable section
open Classical
def risesG:Item→List Item→Bool
 | _,[]=>true
 | p,x::xs=>!(ltS x.id p.id || eqS x.id p.id)&&risesG x xs
def risesB:List Item→Bool
 | []=>true
 | x::xs=>risesG x xs
theorem rises_l:∀ (xs:List Item) (p:Item) (pre l:List Item) (fl:Nat),l=pre++p::xs→l.length≤1000000→xs.length + 1≤fl→ref06_Rises_l1 l fl ((pre.length:Int) + 1)=some (risesG p xs)
 | [],p,pre,l,fl,hl,hn,hf=>by
  obtain ⟨fl,rfl⟩:∃ n,fl=n + 1:=⟨fl - 1,by simp at hf; omega⟩
  rw [ref06_Rises_l1,br_f (by rw [ltI_f,hl]; simp)]; rfl
 | x::xs,p,pre,l,fl,hl,hn,hf=>by
  obtain ⟨fl,rfl⟩:∃ n,fl=n + 1:=⟨fl - 1,by simp at hf; omega⟩
  have hlen:l.length=pre.length + (xs.length + 2):=by rw [hl]; simp
  have a1:atL l ((pre.length:Int) + 1)=some x:=by
   have:=at_app (pre++[p]) x xs
   rw [List.length_append,List.append_assoc] at this
   rw [hl]; exact this
  have a0:atL l (wr .i64 ((pre.length:Int) + 1 - 1))=some p:=by
   rw [wr64 (by omega) (by omega),show (pre.length:Int) + 1 - 1=pre.length by omega,hl]; exact at_app pre p (x::xs)
  rw [ref06_Rises_l1,br_t (by rw [ltI_t]; omega),bnd_of a1,bnd_of a0,risesG]
  cases (ltS x.id p.id || eqS x.id p.id) with
  | true=>rfl
  | false =>
   rw [br_f rfl,wr64 (by omega) (by omega)]
   have:=rises_l xs x (pre++[p]) l fl (by rw [hl]; simp) hn (by simp at hf ⊢; omega)
   rw [List.length_append] at this
   exact this
theorem rises_s {l:List Item} (h:l.length≤999990):ref06_Rises_s l=some (risesB l):=by
 unfold ref06_Rises_s
 match l,h with
 | [],_=>rfl
 | x::xs,h=>exact rises_l xs x [] (x::xs) fuelN rfl (by omega) (by unfold fuelN; simp at h; omega)
def mayListB (l:List Item):Bool:=l.all mayI&&risesB l
theorem mayList_l {l:List Item} (hl:l.length≤999990):∀ xs:List Item,(∀ x∈xs,x.Ok)→ref06_MayList_l1 l xs=some (xs.all mayI&&risesB l)
 | [],_=>by rw [ref06_MayList_l1,bnd_of (rises_s hl)]; rfl
 | x::xs,h=>by
  have e:ref01_May_s x=some (mayI x):=by unfold ref01_May_s; rw [chk_t (decide_eq_true (h x (List.mem_cons_self ..)))]
  rw [ref06_MayList_l1,bnd_of e,mayList_l hl xs fun y hy=>h y (List.mem_cons_of_mem _ hy),List.all_cons]
  cases mayI x<;>rfl
theorem mayList_s {l:List Item} (hl:l.length≤999990) (h:∀ x∈l,x.Ok):ref06_MayList_s l=some (mayListB l):=by
 unfold ref06_MayList_s; rw [chk_t (smallL_of (by omega)),mayList_l hl l h]; rfl
def item0':Item:=⟨⟨#[]⟩,0,0,0,⟨#[]⟩,0,0,0,false⟩
def getI (id:ByteArray):List Item→Item × Bool
 | []=>(item0',false)
 | x::xs=>if eqS x.id id then (x,true) else getI id xs
theorem get_l (id:ByteArray):∀ l:List Item,ref06_Get_l1 id l=some (getI id l)
 | []=>by rw [ref06_Get_l1]; rfl
 | x::xs=>by rw [ref06_Get_l1,get_l id xs,getI]; cases eqS x.id id<;>rfl
theorem get_s {l:List Item} {id:ByteArray} (h:l.length≤1000000000):ref06_Get_s l id=some (getI id l):=by
 unfold ref06_Get_s; rw [chk_t (smallL_of h),get_l]
theorem items_l:∀ (xs acc:List Item),acc.length + xs.length≤999990→law00_Items_l1 xs acc=some (acc++xs)
 | [],acc,_=>by rw [law00_Items_l1,List.append_nil]
 | i::xs,acc,h=>by
  rw [List.length_cons] at h
  rw [law00_Items_l1,bnd_of (show law00_Item_s i=some i from rfl),chk_t (roomL_of (by omega)),items_l xs _ (by rw [List.length_append]; simp; omega),List.append_assoc]; rfl
theorem items_s {l:List Item} (h:l.length≤999990):law00_Items_s l=some l:=by
 unfold law00_Items_s; rw [chk_t (smallL_of (by omega)),items_l l [] (by simp; omega)]; rfl
end
end Go.Proofs.YtidkmoohgadjkaaGreat
set_option maxHeartbeats 4000000
namespace Go.Proofs.YtidkmoohgadjkaaGreat
open Go E Pred
abbrev ex4:List Pred:=[bare 2 [],bare 1 []]
abbrev item0:Item:=⟨⟨#[]⟩,0,0,0,⟨#[]⟩,0,0,0,false⟩
end Go.Proofs.YtidkmoohgadjkaaGreat
set_option maxHeartbeats 0
namespace Go.Proofs.YtidkmoohgadjkaaGreat
open Go E
noncomputable section
open Pred
end
end Go.Proofs.YtidkmoohgadjkaaGreat
set_option maxHeartbeats 4000000
namespace Go.Proofs.YtidkmoohgadjkaaGreat
open Go E Pred
section
variable {X:Task→Prop} (hX:Closed X) {Q:A→List Blk→Prop}
include hX
end
end Go.Proofs.YtidkmoohgadjkaaGreat
namespace Go.Proofs.YtidkmoohgadjkaaGreat
open Go E Pred
inductive NF:Pred→Prop
 | leaf {o t n x y}:o≠8→o≠9→o≠10→NF (.mk o t n x y [])
 | some {ks}:(∀ k∈ks,NF k)→(∀ k∈ks,k.op≠9∧k.op≠1)→ks.foldl (addP 2) []=ks→2≤ks.length→NF (bare 9 ks)
 | all {ks}:(∀ k∈ks,NF k)→(∀ k∈ks,k.op≠8∧k.op≠2)→ks.foldl (addP 1) []=ks→2≤ks.length→NF (bare 8 ks)
 | no {k}:NF k→k.op≠1→k.op≠2→k.op≠10→NF (bare 10 [k])
end Go.Proofs.YtidkmoohgadjkaaGreat
namespace Go.Proofs.YtidkmoohgadjkaaGreat
open Go E Pred
noncomputable section
open Classical
theorem lsmall_t {p:Pred} (h:p.Ok) (hs:p.size≤60):law00_Small_s p=some 1:=by unfold law00_Small_s; rw [chk_t (decide_eq_true h),if_pos hs]
theorem lsmall_f {p:Pred} (h:p.Ok) (hs:¬ p.size≤60):law00_Small_s p=some 0:=by unfold law00_Small_s; rw [chk_t (decide_eq_true h),if_neg hs]
theorem lpred_s {p:Pred} (h:p.Ok) (hs:p.size≤1000):law00_Pred_s p=some p:=by unfold law00_Pred_s; rw [chk_t (decide_eq_true hs),chk_t (decide_eq_true h)]
theorem has_s {p:Pred} {x:Item} (h:p.Ok) (hx:x.Ok):eval_Has_s p x=some (hasP p x):=by unfold eval_Has_s; rw [chk_t (decide_eq_true h),chk_t (decide_eq_true hx)]
end
end Go.Proofs.YtidkmoohgadjkaaGreat
namespace Go.Proofs.YtidkmoohgadjkaaGreat
open Go E Pred
noncomputable section
open Classical
theorem may3_s {p:Pred} (h:p.Ok) (hs:p.size≤1000):ref03_May_s p=some (mayP p):=by unfold ref03_May_s; rw [chk_t (decide_eq_true hs),chk_t (decide_eq_true h)]
theorem has3_s {p:Pred} {x:Item} (h:p.Ok) (hx:x.Ok):ref03_Has_s p x=some (hasP p x):=by unfold ref03_Has_s; rw [chk_t (decide_eq_true h),chk_t (decide_eq_true hx)]
structure StOk (x:State):Prop where
 f:x.f.Ok
 fs:x.f.size≤1000
 store:∀ i∈x.store,i.Ok
 out:∀ i∈x.out,i.Ok
 sl:x.store.length≤990
 ol:x.out.length≤990
 k:KB x.k 990
 ids:IdsOk x.k
theorem fresh_know_l {k:Know}:∀ (l acc:List Frag),acc.length + l.length≤999990→(∀ f∈l,f.ids.length≤1000000)→fresh_Know_l1 k l acc=some ⟨k.star,acc++l⟩
 | [],acc,_,_=>by rw [fresh_Know_l1,List.append_nil]
 | f::l,acc,h,hi=>by
  rw [List.length_cons] at h
  have e:clone_s f.ids=some f.ids:=by unfold clone_s; rw [chk_t (decide_eq_true (hi f (List.mem_cons_self ..)))]
  rw [fresh_Know_l1,bnd_of e,chk_t (roomL_of (by omega)),fresh_know_l l _ (by rw [List.length_append]; simp; omega) fun g hg=>hi g (List.mem_cons_of_mem _ hg),List.append_assoc]; rfl
theorem eqL_refl9:∀ l:List ByteArray,eqL l l=true
 | []=>rfl
 | x::l=>by rw [eqL,eqS_refl,eqL_refl9 l]; rfl
theorem eq8_refl (v:V8):eq8 v v=true:=by rw [eq8_iff]; simp
theorem alikeL_refl9:∀ l:List Frag,alikeL l l=true
 | []=>rfl
 | f::l=>by rw [alikeL,alikeL_refl9 l]; unfold alikeF; rw [eq8_refl,eqL_refl9]; rfl
theorem alikeK_refl (k:Know):alikeK k k=true:=by unfold alikeK; rw [eq8_refl,alikeL_refl9]; rfl
theorem eqI_self (n:Int):eqI n n=true:=eqI_t.2 rfl
theorem known_l:∀ (l:List Frag),∃ b,law00_Known_l1 l=some b∧(b=0∨(b=1∧∀ f∈l,f.ids.length≤60))
 | []=>⟨1,by rw [law00_Known_l1],.inr ⟨rfl,fun f hf=>by cases hf⟩⟩
 | f::l=>by
  obtain ⟨b,hb,h⟩:=known_l l
  rw [law00_Known_l1,br_if]
  by_cases hf:ltI 60 (f.ids.length:Int)=true
  ·exact ⟨0,by rw [if_pos hf],.inl rfl⟩
  ·refine ⟨b,by rw [if_neg hf,hb],h.imp id fun ⟨h1,h2⟩=>⟨h1,fun g hg=>?_⟩⟩
   rw [ltI_t] at hf
   rcases List.mem_cons.1 hg with rfl | hg
   ·omega
   ·exact h2 g hg
theorem known_s (k:Know):∃ b,law00_Known_s k=some b∧(b=0∨(b=1∧KB k 60)):=by
 unfold law00_Known_s
 rw [br_if]
 by_cases hf:ltI 30 (k.l.length:Int)=true
 ·exact ⟨0,by rw [if_pos hf],.inl rfl⟩
 ·rw [if_neg hf]
  rw [ltI_t] at hf
  obtain ⟨b,hb,h⟩:=known_l k.l
  exact ⟨b,by rw [chk_t (smallL_of (by omega)),hb],h.imp id fun ⟨h1,h2⟩=>⟨h1,⟨by omega,h2⟩⟩⟩
structure Sit.Ok (s:Sit):Prop where
 f:s.f.Ok
 store:∀ i∈s.store,i.Ok
 out:∀ i∈s.out,i.Ok
 ids:IdsOk s.k
def Sit.st (s:Sit):State:=⟨s.r,s.f,s.store,s.out,s.k,s.count,s.clock,s.epoch⟩
theorem KB.mono {k:Know} {n m:Nat} (h:KB k n) (hm:n≤m):KB k m:=⟨Nat.le_trans h.l hm,fun f hf=>Nat.le_trans (h.ids f hf) hm⟩
theorem fits_sit {s:Sit} (ok:s.Ok):∃ b,law00_Fits_s s=some b∧(b=0∨(b=1∧StOk s.st∧s.f.size≤60∧s.store.length≤60∧s.out.length≤60∧KB s.k 60)):=by
 unfold law00_Fits_s
 rw [br_if,br_if]
 by_cases h1:ltI 60 (s.store.length:Int)=true
 ·exact ⟨0,by rw [if_pos h1],.inl rfl⟩
 ·rw [if_neg h1]
  by_cases h2:ltI 60 (s.out.length:Int)=true
  ·exact ⟨0,by rw [if_pos h2],.inl rfl⟩
  ·rw [if_neg h2]
   rw [ltI_t] at h1 h2
   obtain ⟨b,hb,hk⟩:=known_s s.k
   by_cases h3:s.f.size≤60
   ·rw [bnd_of (lsmall_t ok.f h3),bnd_of hb]
    rcases hk with rfl | ⟨rfl,hk⟩
    ·exact ⟨_,rfl,.inl rfl⟩
    ·exact ⟨_,rfl,.inr ⟨rfl,⟨ok.f,by show s.f.size≤1000; omega,ok.store,ok.out,by show s.store.length≤990; omega,by show s.out.length≤990; omega,hk.mono (by decide),ok.ids⟩,h3,by omega,by omega,hk⟩⟩
   ·rw [bnd_of (lsmall_f ok.f h3),bnd_of hb]
    exact ⟨_,rfl,.inl (by rw [Int.zero_mul]; rfl)⟩
theorem state_s {s:Sit} (ok:s.Ok) (h:StOk s.st):law00_State_s s=some s.st:=by
 have h1:=h.fs
 have h2:=h.sl
 have h3:=h.ol
 unfold law00_State_s
 rw [bnd_of (lpred_s ok.f h1),bnd_of (items_s (l:=s.store) (by show s.st.store.length≤_; omega)),bnd_of (items_s (l:=s.out) (by show s.st.out.length≤_; omega))]; rfl
end
end Go.Proofs.YtidkmoohgadjkaaGreat
namespace Go.Proofs.YtidkmoohgadjkaaGreat
open Go E Pred
noncomputable section
open Classical
theorem names_t:∀ (l:List Frag) (acc:List ByteArray),acc.length + idsN l≤999980→ref06_Names_l1 l acc=some (namesG acc l)
 | [],acc,_=>by rw [ref06_Names_l1]; rfl
 | f::l,acc,hN=>by
  rw [idsN_cons] at hN
  have:=ins_fold_len f.ids acc
  rw [ref06_Names_l1,chk_t (smallL_of (by omega)),names_l2 _ _ (by omega),names_t l _ (by omega)]; rfl
theorem plain_t2 {k:Know} {M:Nat} (hM:M≤1000000000) (hk:KB k M):∀ (names:List ByteArray) (out:List Frag) (n:Nat),out.length≤n→(∀ f∈out,f.ids.length≤n)→n + names.length≤999980→ref06_Plain_l2 k names out=some ⟨k.star,names.foldl (stepP k) out⟩
 | [],out,n,h1,h2,hn=>by rw [ref06_Plain_l2]; rfl
 | id::names,out,n,h1,h2,hn=>by
  rw [List.length_cons] at hn
  obtain ⟨s1,s2⟩:=stepP_len (k:=k) (id:=id) h1 h2
  have ih:=plain_t2 hM hk names (stepP k out id) (n + 1) s1 s2 (by omega)
  rw [ref06_Plain_l2,bnd_of (beyond_s hM hk),List.foldl_cons,←ih]
  cases he:eq8 (beyondV k id) zero8 with
  | true=>rw [br_t (c:=eq8 (beyondV k id) ⟨0,0,0,0,0,0,0,0⟩) he,stepP_t he]
  | false =>
   rw [br_f (c:=eq8 (beyondV k id) ⟨0,0,0,0,0,0,0,0⟩) he,stepP_f he,chk_t (smallL_of (by omega))]
   have:=plain_l4 (id:=id) (v:=beyondV k id) (k:=fun w0=>ref06_Plain_l2 k names w0) out [] (by simp; omega) (fun f hf=>by have:=h2 f (by simpa using hf); omega)
   simpa using this
theorem plain_t1 {k:Know} {M:Nat} (hM:M≤1000000000) (hk:KB k M):∀ (names:List ByteArray),names.length≤999970→ref06_Plain_l1 k names=some ⟨k.star,names.foldl (stepP k) []⟩
 | [],h=>by rw [ref06_Plain_l1]; rfl
 | id::names,h=>by
  rw [List.length_cons] at h
  rw [ref06_Plain_l1,bnd_of (beyond_s hM hk),List.foldl_cons]
  cases he:eq8 (beyondV k id) zero8 with
  | true=>rw [br_t (c:=eq8 (beyondV k id) ⟨0,0,0,0,0,0,0,0⟩) he,stepP_t he]; exact plain_t1 hM hk names (by omega)
  | false=>rw [br_f (c:=eq8 (beyondV k id) ⟨0,0,0,0,0,0,0,0⟩) he,stepP_f he,chk_t (by rfl)]; exact plain_t2 hM hk names [⟨[id],beyondV k id⟩] 1 (by simp) (fun f hf=>by rw [List.mem_singleton.1 hf]; simp) (by omega)
theorem rplain_t {k:Know} {N:Nat} (h:KT k N) (hN:N≤999000):ref06_Plain_s k=some (plainK k):=by
 have hl:=h.l
 have hi:=h.ids
 have hn:=namesK_len h
 unfold ref06_Plain_s
 rw [bnd_of (show ref06_Names_s k=some (namesK k) by unfold ref06_Names_s; rw [chk_t (smallL_of (by omega)),names_t _ _ (by simp; omega)]; rfl),chk_t (smallL_of (by omega)),plain_t1 (by omega) h.kb _ (by omega)]; rfl
theorem rmayK_t {k:Know} {N:Nat} (h:KT k N) (hN:N≤999000) (hi:IdsOk k):ref06_May_s k=some (mayK k):=by
 have hb:=h.kb
 unfold ref06_May_s mayK
 rw [bnd_of (rplain_t h hN),bnd_of (alike_s (by omega) hb),bnd_of (show ref06_MayVec_s k.star=some (mayV k.star) from rfl)]
 cases alikeK k (plainK k) with
 | false=>rfl
 | true =>
  cases mayV k.star with
  | false=>rfl
  | true=>rw [br_f (by rfl),br_f (by rfl),chk_t (smallL_of (by have:=h.l; omega)),may_l1 _ (fun f hf=>by have:=hb.ids f hf; omega) hi]; rfl
theorem fresh_know_t {k:Know} {N:Nat} (h:KT k N) (hN:N≤900000):fresh_Know_s k=some k:=by
 have:=h.l
 unfold fresh_Know_s
 rw [chk_t (smallL_of (by omega)),fresh_know_l k.l [] (by simp; omega) fun f hf=>by have:=h.kb.ids f hf; omega]; rfl
theorem eqL_t:∀ {a b:List ByteArray},eqL a b=true→a=b
 | [],[],_=>rfl
 | x::xs,y::ys,h=>by
  rw [eqL,Bool.and_eq_true] at h
  rw [eqS_t.1 h.1,eqL_t h.2]
 | [],_::_,h=>by cases h
 | _::_,[],h=>by cases h
theorem alikeL_t:∀ {a b:List Frag},alikeL a b=true→a=b
 | [],[],_=>rfl
 | x::xs,y::ys,h=>by
  rw [alikeL,Bool.and_eq_true] at h
  unfold alikeF at h
  rw [Bool.and_eq_true] at h
  obtain ⟨⟨h1,h2⟩,h3⟩:=h
  have e1:=eq8_t.1 h1
  have e2:=eqL_t h2
  cases x; cases y
  simp only at e1 e2
  rw [e1,e2,alikeL_t h3]
 | [],_::_,h=>by cases h
 | _::_,[],h=>by cases h
theorem alikeK_t {a b:Know} (h:alikeK a b=true):a=b:=by
 unfold alikeK at h
 rw [Bool.and_eq_true] at h
 have e1:=eq8_t.1 h.1
 have e2:=alikeL_t h.2
 cases a; cases b
 simp only at e1 e2
 rw [e1,e2]
theorem mayK_plain {k:Know} (h:mayK k=true):plainK k=k:=by
 unfold mayK at h
 rw [Bool.and_eq_true] at h
 exact (alikeK_t h.1).symm
theorem mayK_iff {k:Know}:mayK k=true↔plainK k=k∧mayV k.star=true∧∀ f∈k.l,mayF f=true:=by
 constructor
 ·intro h
  refine ⟨mayK_plain h,?_⟩
  unfold mayK at h
  rw [Bool.and_eq_true,Bool.and_eq_true] at h
  exact ⟨h.2.1,List.all_eq_true.1 h.2.2⟩
 ·rintro ⟨h1,h2,h3⟩
  unfold mayK
  rw [h1,alike_self,h2]
  exact List.all_eq_true.2 h3
end
end Go.Proofs.YtidkmoohgadjkaaGreat
set_option maxHeartbeats 4000000
namespace Go.Proofs.YtidkmoohgadjkaaGreat
open Go E
abbrev z0 (n:Int):Item:=⟨⟨#[]⟩,0,0,n,⟨#[]⟩,0,0,0,false⟩
end Go.Proofs.YtidkmoohgadjkaaGreat
namespace Go.Proofs.YtidkmoohgadjkaaGreat
open Go E Pred
noncomputable section
open Classical
def lk (l:List Item) (id:ByteArray):Option Item:=l.find? fun x=>eqS x.id id
theorem lk_cons (x:Item) (l:List Item) (id:ByteArray):lk (x::l) id=if eqS x.id id=true then some x else lk l id:=by
 unfold lk; rw [List.find?_cons]; cases eqS x.id id<;>simp
theorem lk_some {l:List Item} {id:ByteArray} {x:Item} (h:lk l id=some x):x∈l∧x.id=id:=⟨List.mem_of_find?_eq_some h,eqS_t.1 (List.find?_some (p:=fun y:Item=>eqS y.id id) h)⟩
theorem lk_none {l:List Item} {id:ByteArray}:lk l id=none↔∀ x∈l,eqS x.id id=false:=by
 unfold lk; rw [List.find?_eq_none]
 exact ⟨fun h x hx=>by simpa using h x hx,fun h x hx=>by simpa using h x hx⟩
theorem lk_app (l m:List Item) (id:ByteArray):lk (l++m) id=(lk l id).or (lk m id):=List.find?_append
theorem ris_cons {x:Item} {l:List Item}:Ris (x::l)↔(∀ y∈l,ltS x.id y.id=true)∧Ris l:=List.pairwise_cons
theorem lk_lt {l:List Item} {id:ByteArray} (h:∀ x∈l,ltS x.id id=true):lk l id=none:=lk_none.2 fun x hx=>ltS_ne (h x hx)
theorem lk_gt {l:List Item} {id:ByteArray} (h:∀ x∈l,ltS id x.id=true):lk l id=none:=lk_none.2 fun x hx=>by rw [eqS_comm']; exact ltS_ne (h x hx)
theorem lk_mem:∀ {l:List Item} {x:Item},Ris l→x∈l→lk l x.id=some x
 | y::l,x,h,hx=>by
  rw [ris_cons] at h
  rw [lk_cons]
  rcases List.mem_cons.1 hx with rfl | hx
  ·rw [if_pos (eqS_self _)]
  ·rw [if_neg (by rw [ltS_ne (h.1 x hx)]; simp)]; exact lk_mem h.2 hx
theorem ris_ext:∀ {l m:List Item},Ris l→Ris m→(∀ id,lk l id=lk m id)→l=m
 | [],[],_,_,_=>rfl
 | [],y::m,_,_,h=>by have:=h y.id; rw [lk_cons,if_pos (eqS_self _)] at this; cases this
 | x::l,[],_,_,h=>by have:=h x.id; rw [lk_cons,if_pos (eqS_self _)] at this; cases this
 | x::l,y::m,hl,hm,h=>by
  have hx:x∈y::m:=(lk_some ((h x.id).symm.trans (lk_mem hl (List.mem_cons_self ..)))).1
  have hy:y∈x::l:=(lk_some ((h y.id).trans (lk_mem hm (List.mem_cons_self ..)))).1
  rw [ris_cons] at hl hm
  have e:x=y:=by
   rcases List.mem_cons.1 hx with e | hx
   ·exact e
   ·rcases List.mem_cons.1 hy with e | hy
    ·exact e.symm
    ·have:=ltS_asym (hl.1 y hy); rw [hm.1 x hx] at this; cases this
  subst e
  rw [ris_ext hl.2 hm.2 fun id=>?_]
  have:=h id
  rw [lk_cons,lk_cons] at this
  by_cases hi:eqS x.id id=true
  ·have hi':=eqS_t.1 hi
   subst hi'
   rw [lk_gt hl.1,lk_gt hm.1]
  ·rw [if_neg hi,if_neg hi] at this; exact this
theorem getI_lk (id:ByteArray):∀ l:List Item,getI id l=match lk l id with
  | some x=>(x,true)
  | none=>(item0',false)
 | []=>rfl
 | x::l=>by
  rw [getI,lk_cons]
  split
  ·rfl
  ·exact getI_lk id l
theorem getI_t {l:List Item} {id:ByteArray} {x:Item} (h:lk l id=some x):getI id l=(x,true):=by rw [getI_lk,h]
theorem getI_f {l:List Item} {id:ByteArray} (h:lk l id=none):getI id l=(item0',false):=by rw [getI_lk,h]
theorem risesG_iff:∀ (l:List Item) (p:Item),risesG p l=true↔Ris (p::l)
 | [],p=>⟨fun _=>ris_cons.2 ⟨fun y hy=>(by cases hy),List.Pairwise.nil⟩,fun _=>rfl⟩
 | x::l,p=>by
  rw [risesG,Bool.and_eq_true,risesG_iff l x,ris_cons (x:=p),ris_cons (x:=x)]
  constructor
  ·rintro ⟨h1,h2,h3⟩
   have hp:ltS p.id x.id=true:=by
    cases h:ltS p.id x.id with
    | true=>rfl
    | false =>
     cases h':ltS x.id p.id with
     | true=>rw [h'] at h1; cases h1
     | false=>rw [h',ltS_tri h' h,eqS_self] at h1; cases h1
   exact ⟨fun y hy=>by
    rcases List.mem_cons.1 hy with rfl | hy
    ·exact hp
    ·exact ltS_tr hp (h2 y hy),h2,h3⟩
  ·rintro ⟨h1,h2,h3⟩
   have hp:=h1 x (List.mem_cons_self ..)
   refine ⟨?_,h2,h3⟩
   rw [ltS_asym hp,eqS_comm',ltS_ne hp]; rfl
theorem ris_iff {l:List Item}:risesB l=true↔Ris l:=by
 cases l with
 | nil=>exact ⟨fun _=>.nil,fun _=>rfl⟩
 | cons x l=>exact risesG_iff l x
theorem mid_of {i j:Nat} (h:i + j≤4000000):wr .i64 (shrI .u64 (wr .u64 (wr .i64 ((i:Int) + (j:Int)))) 1)=(((i + j) / 2:Nat):Int):=by
 have h1:wr .i64 ((i:Int) + (j:Int))=((i + j:Nat):Int):=by rw [wr64 (by omega) (by omega)]; omega
 have h2:wr .u64 ((i + j:Nat):Int)=((i + j:Nat):Int):=by
  unfold wr IntKind.wrap
  simp only [IntKind.signed,IntKind.bits]
  simp
  omega
 have h3:shrI .u64 ((i + j:Nat):Int) 1=(((i + j) / 2:Nat):Int):=by
  unfold shrI
  rw [Int.fdiv_eq_ediv_of_nonneg _ (by decide)]
  simp [IntKind.bits]
 rw [h1,h2,h3,wr64 (by omega) (by omega)]
theorem br_same {α:Type} (c:Bool) (x:Option α):br c x x=x:=by cases c<;>rfl
theorem ris_get {l:List Item} (hr:Ris l) {i j:Nat} {x y:Item} (hx:l[i]?=some x) (hy:l[j]?=some y) (h:i < j):ltS x.id y.id=true:=by
 obtain ⟨hi,rfl⟩:=List.getElem?_eq_some_iff.1 hx
 obtain ⟨hj,rfl⟩:=List.getElem?_eq_some_iff.1 hy
 exact List.pairwise_iff_getElem.1 hr i j hi hj h
theorem find_l {l:List Item} {id:ByteArray} (hr:Ris l) (hn:l.length≤999990):∀ (fl i j:Nat),i≤j→j≤l.length→j - i < fl→(∀ k x,l[k]?=some x→k < i→ltS x.id id=true)→(∀ k x,l[k]?=some x→j≤k→ltS x.id id=false) →
  ∃ p,p≤l.length∧list_find_l1 l id fl (j:Int) (i:Int)=some ((p:Int),match l[p]? with | some x=>eqS x.id id | none=>false)∧(∀ k x,l[k]?=some x→k < p→ltS x.id id=true)∧(∀ k x,l[k]?=some x→p≤k→ltS x.id id=false)
 | 0,i,j,_,_,h,_,_=>by omega
 | fl + 1,i,j,hij,hj,hf,h1,h2=>by
  rw [list_find_l1]
  by_cases hlt:i < j
  ·have hm:(i + j) / 2 < l.length:=by omega
   rw [br_t (by rw [ltI_t]; omega),mid_of (by omega),bnd_of (atL_of hm),br_f (by rw [eqS_self]; rfl),br_f (by rw [eqS_self]; rfl)]
   have hx:l[(i + j) / 2]?=some l[(i + j) / 2]:=List.getElem?_eq_getElem hm
   cases hc:ltS l[(i + j) / 2].id id with
   | true =>
    rw [br_t rfl,wrS (by omega)]
    refine find_l hr hn fl ((i + j) / 2 + 1) j (by omega) hj (by omega) (fun k x hk hki=>?_) h2
    by_cases hkm:k=(i + j) / 2
    ·subst hkm; rw [hx] at hk; injection hk with hk; rw [←hk]; exact hc
    ·exact ltS_tr (ris_get hr hk hx (by omega)) hc
   | false =>
    rw [br_f rfl,br_same]
    refine find_l hr hn fl i ((i + j) / 2) (by omega) (by omega) (by omega) h1 (fun k x hk hki=>?_)
    by_cases hkm:k=(i + j) / 2
    ·subst hkm; rw [hx] at hk; injection hk with hk; rw [←hk]; exact hc
    ·cases h:ltS x.id id with
     | false=>rfl
     | true=>have:=ltS_tr (ris_get hr hx hk (by omega)) h; rw [hc] at this; cases this
  ·obtain rfl:i=j:=by omega
   refine ⟨i,hj,?_,h1,h2⟩
   rw [br_f (by rw [ltI_f]; omega)]
   by_cases hil:i < l.length
   ·have hx:l[i]?=some l[i]:=List.getElem?_eq_getElem hil
    rw [br_t (by rw [ltI_t]; omega),bnd_of (atL_of hil),br_f (by rw [eqS_self]; rfl),br_f (by rw [eqS_self]; rfl),br_f (h2 i _ hx (Nat.le_refl _)),h2 i _ hx (Nat.le_refl _),hx]
    dsimp only
    cases eqS l[i].id id<;>rfl
   ·rw [br_f (by rw [ltI_f]; omega),List.getElem?_eq_none (by omega)]
theorem find_s {l:List Item} {id:ByteArray} (hr:Ris l) (hn:l.length≤999990):∃ A B:List Item,l=A++B∧(∀ x∈A,ltS x.id id=true)∧(∀ x∈B,ltS x.id id=false)∧list_find_s l id=some ((A.length:Int),(lk l id).isSome):=by
 obtain ⟨p,hp,e,h1,h2⟩:=find_l hr hn fuelN 0 l.length (Nat.zero_le _) (Nat.le_refl _) (by unfold fuelN; omega) (fun k x _ h=>by omega) (fun k x hk h=>by rw [List.getElem?_eq_none h] at hk; cases hk) (id:=id)
 have hA:∀ x∈l.take p,ltS x.id id=true:=fun x hx=>by
  obtain ⟨k,hk⟩:=List.getElem?_of_mem hx
  rw [List.getElem?_take] at hk
  split at hk
  ·exact h1 k x hk (by omega)
  ·cases hk
 have hB:∀ x∈l.drop p,ltS x.id id=false:=fun x hx=>by
  obtain ⟨k,hk⟩:=List.getElem?_of_mem hx
  rw [List.getElem?_drop] at hk
  exact h2 _ x hk (by omega)
 refine ⟨l.take p,l.drop p,(List.take_append_drop p l).symm,hA,hB,?_⟩
 unfold list_find_s
 rw [show ((0:Nat):Int)=0 from rfl] at e
 rw [e,List.length_take,Nat.min_eq_left hp]
 congr 2
 have hl:lk l id=lk (l.drop p) id:=by
  conv=>lhs; rw [←List.take_append_drop p l,lk_app,lk_lt hA]
  rfl
 rw [hl]
 cases hd:l.drop p with
 | nil =>
  have:l[p]?=none:=by have:=List.getElem?_drop (xs:=l) (i:=p) (j:=0); rw [hd] at this; simpa using this.symm
  rw [this]; rfl
 | cons x B =>
  have hx:l[p]?=some x:=by have:=List.getElem?_drop (xs:=l) (i:=p) (j:=0); rw [hd] at this; simpa using this.symm
  have hr':Ris (x::B):=by rw [←hd]; exact hr.sublist (List.drop_sublist _ _)
  rw [hx,lk_cons]
  dsimp only
  cases hc:eqS x.id id with
  | true=>simp
  | false =>
   have hgt:∀ y∈B,ltS id y.id=true:=fun y hy=>by
    have h3:=(ris_cons.1 hr').1 y hy
    have h4:=hB x (by rw [hd]; exact List.mem_cons_self ..)
    exact le_ltS_tr h4 h3
   rw [if_neg (by simp),lk_gt hgt]; rfl
theorem find_head {l A B:List Item} {id:ByteArray} (hr:Ris l) (e:l=A++B) (hA:∀ x∈A,ltS x.id id=true) (hB:∀ x∈B,ltS x.id id=false) :
  (lk l id=none∧∀ x∈B,ltS id x.id=true)∨∃ x B',B=x::B'∧x.id=id∧lk l id=some x∧∀ y∈B',ltS id y.id=true:=by
 have hl:lk l id=lk B id:=by rw [e,lk_app,lk_lt hA]; rfl
 cases B with
 | nil=>exact .inl ⟨by rw [hl]; rfl,fun x hx=>by cases hx⟩
 | cons x B =>
  have hr':Ris (x::B):=by rw [e] at hr; exact hr.sublist (List.sublist_append_right _ _)
  have hx:=hB x (List.mem_cons_self ..)
  have hgt:∀ y∈B,ltS id y.id=true:=fun y hy=>le_ltS_tr hx ((ris_cons.1 hr').1 y hy)
  cases hc:ltS id x.id with
  | true =>
   refine .inl ⟨?_,fun y hy=>?_⟩
   ·rw [hl,lk_gt]
    intro y hy
    rcases List.mem_cons.1 hy with rfl | hy
    ·exact hc
    ·exact hgt y hy
   ·rcases List.mem_cons.1 hy with rfl | hy
    ·exact hc
    ·exact hgt y hy
  | false =>
   have e':=ltS_tri hx hc
   exact .inr ⟨x,B,rfl,e',by rw [hl,lk_cons,if_pos (eqS_t.2 e')],hgt⟩
theorem lget_s {l:List Item} {id:ByteArray} (hr:Ris l) (hn:l.length≤999990):list_Get_s l id=some (getI id l):=by
 obtain ⟨A,B,e,hA,hB,hf⟩:=find_s (id:=id) hr hn
 unfold list_Get_s
 rw [bnd_of hf]
 rcases find_head hr e hA hB with ⟨hl,_⟩ | ⟨x,B',rfl,hx,hl,_⟩
 ·rw [br_f (by rw [hl]; rfl),getI_f hl]; rfl
 ·rw [br_t (by rw [hl]; rfl),bnd_of (show atL l (A.length:Int)=some x by rw [e]; exact at_app A x B'),getI_t hl]
def putV (l:List Item) (x:Item):List Item:=(l.filter fun y=>ltS y.id x.id)++x::l.filter fun y=>ltS x.id y.id
theorem lk_filter_t {l:List Item} {p:Item→Bool} {id:ByteArray} (h:∀ x,x.id=id→p x=true):lk (l.filter p) id=lk l id:=by
 induction l with
 | nil=>rfl
 | cons x l ih =>
  rw [List.filter_cons]
  by_cases hx:eqS x.id id=true
  ·rw [if_pos (h x (eqS_t.1 hx)),lk_cons,lk_cons,if_pos hx,if_pos hx]
  ·split
   ·rw [lk_cons,lk_cons,if_neg hx,if_neg hx,ih]
   ·rw [lk_cons,if_neg hx,ih]
theorem lk_filter_f {l:List Item} {p:Item→Bool} {id:ByteArray} (h:∀ x,x.id=id→p x=false):lk (l.filter p) id=none :=
 lk_none.2 fun x hx=>eqS_f.2 fun e=>by have:=(List.mem_filter.1 hx).2; rw [h x e] at this; cases this
theorem lk_put (l:List Item) (x:Item) (id:ByteArray):lk (putV l x) id=if eqS x.id id=true then some x else lk l id:=by
 unfold putV
 rw [lk_app,lk_cons]
 by_cases hx:eqS x.id id=true
 ·rw [if_pos hx,if_pos hx,lk_filter_f fun y hy=>by rw [hy,←eqS_t.1 hx]; exact ltS_self _]; rfl
 ·rw [if_neg hx,if_neg hx]
  cases h1:ltS id x.id with
  | true=>rw [lk_filter_t fun y hy=>by rw [hy]; exact h1,lk_filter_f fun y hy=>by rw [hy]; exact ltS_asym h1]; cases lk l id<;>rfl
  | false =>
   rw [lk_filter_f fun y hy=>by rw [hy]; exact h1]
   cases h2:ltS x.id id with
   | true=>rw [lk_filter_t fun y hy=>by rw [hy]; exact h2]; rfl
   | false=>exact absurd (eqS_t.2 (ltS_tri h2 h1)) hx
theorem ris_put {l:List Item} (hr:Ris l) (x:Item):Ris (putV l x):=by
 unfold putV Ris
 rw [List.pairwise_append,List.pairwise_cons]
 refine ⟨hr.filter _,⟨fun y hy=>(List.mem_filter.1 hy).2,hr.filter _⟩,fun a ha b hb=>?_⟩
 have h1:=(List.mem_filter.1 ha).2
 rcases List.mem_cons.1 hb with rfl | hb
 ·exact h1
 ·exact ltS_tr h1 (List.mem_filter.1 hb).2
theorem rput_l2 {x:Item}:∀ (l acc:List Item),acc.length + l.length≤999990→ref06_Put_l2 x l acc=some (acc++l.filter fun y=>ltS x.id y.id)
 | [],acc,_=>by rw [ref06_Put_l2]; simp
 | y::l,acc,h=>by
  rw [List.length_cons] at h
  have e:(!(ltS y.id x.id || eqS y.id x.id))=ltS x.id y.id:=by
   cases h1:ltS x.id y.id with
   | true=>rw [ltS_asym h1,eqS_comm',ltS_ne h1]; rfl
   | false =>
    cases h2:ltS y.id x.id with
    | true=>rfl
    | false=>rw [ltS_tri h2 h1,eqS_self]; rfl
  rw [ref06_Put_l2,e,List.filter_cons]
  cases ltS x.id y.id with
  | true=>rw [br_t rfl,chk_t (roomL_of (by omega)),rput_l2 l _ (by rw [List.length_append]; simp; omega)]; simp
  | false=>rw [br_f rfl,rput_l2 l _ (by omega)]; simp
theorem rput_l1 {L:List Item} {x:Item} (hL:L.length≤400000):∀ (l acc:List Item),acc.length + l.length≤400000→ref06_Put_l1 L x l acc=some (acc++(l.filter fun y=>ltS y.id x.id)++x::L.filter fun y=>ltS x.id y.id)
 | [],acc,h=>by
  rw [List.length_nil] at h
  rw [ref06_Put_l1,chk_t (roomL_of (by omega)),chk_t (smallL_of (by omega)),rput_l2 L _ (by rw [List.length_append]; simp; omega)]; simp
 | y::l,acc,h=>by
  rw [List.length_cons] at h
  rw [ref06_Put_l1,List.filter_cons]
  cases ltS y.id x.id with
  | true=>rw [br_t rfl,chk_t (roomL_of (by omega)),rput_l1 hL l _ (by rw [List.length_append]; simp; omega)]; simp
  | false=>rw [br_f rfl,rput_l1 hL l _ (by omega)]; simp
theorem rput_s {l:List Item} {x:Item} (h:l.length≤400000):ref06_Put_s l x=some (putV l x):=by
 unfold ref06_Put_s; rw [chk_t (smallL_of (by omega)),rput_l1 h l [] (by simpa using h)]; rfl
end
end Go.Proofs.YtidkmoohgadjkaaGreat
namespace Go.Proofs.YtidkmoohgadjkaaGreat
open Go E Pred
noncomputable section
open Classical
def newer:Option Item→Option Item→Option Item
 | none,p=>p
 | some x,none=>some x
 | some x,some y=>if behindB y x=true then some y else some x
theorem newer_none (o:Option Item):newer o none=o:=by cases o<;>rfl
def mergeF:Nat→List Item→List Item→List Item
 | 0,_,_=>[]
 | _ + 1,[],b=>b
 | _ + 1,x::a,[]=>x::a
 | n + 1,x::a,y::b=>if ltS x.id y.id=true then x::mergeF n a (y::b) else if ltS y.id x.id=true then y::mergeF n (x::a) b else if behindB y x=true then mergeF n a (y::b) else mergeF n (x::a) b
def bothV (a b:List Item):List Item:=mergeF (a.length + b.length + 1) a b
theorem cmp_pos (a b:Item):ltI 0 (compareV a b)=behindB a b:=by
 unfold compareV
 cases behindB a b with
 | true=>rfl
 | false =>
  cases behindB b a<;>rfl
theorem both_l:∀ (n fl:Nat) (a out b:List Item),a.length + b.length < n→n≤fl→out.length + a.length + b.length≤999990→list_Both_l1 fl a out b=some (out++mergeF n a b)
 | 0,_,_,_,_,h,_,_=>by omega
 | n + 1,0,_,_,_,_,h,_=>by omega
 | n + 1,fl + 1,[],out,b,h,hf,hl=>by
  rw [list_Both_l1,br_f (by rfl),chk_t (roomL_of (by simpa using by simp at hl; omega)),chk_t (roomL_of (by simp at hl ⊢; omega)),mergeF]; simp
 | n + 1,fl + 1,x::a,out,[],h,hf,hl=>by
  rw [list_Both_l1,br_t (by rw [ltI_t,List.length_cons]; omega),br_f (by rfl),chk_t (roomL_of (by simp at hl ⊢; omega)),chk_t (roomL_of (by simp at hl ⊢; omega)),mergeF]; simp
 | n + 1,fl + 1,x::a,out,y::b,h,hf,hl=>by
  have l1:leI 1 ((x::a).length:Int)=true:=by rw [leI_t,List.length_cons]; omega
  have l2:leI 1 ((y::b).length:Int)=true:=by rw [leI_t,List.length_cons]; omega
  have i1:=fun o=>both_l n fl a o (y::b) (by simp at h ⊢; omega) (by omega)
  have i2:=fun o=>both_l n fl (x::a) o b (by simp at h ⊢; omega) (by omega)
  rw [list_Both_l1,br_t (by rw [ltI_t,List.length_cons]; omega),br_t (by rw [ltI_t,List.length_cons]; omega),bnd_of (show atL (x::a) 0=some x from rfl),bnd_of (show atL (y::b) 0=some y from rfl),mergeF]
  cases h1:ltS x.id y.id with
  | true =>
   rw [br_t rfl,chk_t (roomL_of (by simp at hl; omega)),chk_t l1,if_pos rfl]
   rw [show (x::a).drop 1=a from rfl,i1 _ (by simp at hl ⊢; omega)]; simp
  | false =>
   rw [br_f rfl,if_neg (by simp)]
   cases h2:ltS y.id x.id with
   | true =>
    have:(!(false || eqS x.id y.id))=true:=by rw [eqS_comm',ltS_ne h2]; rfl
    rw [br_t this,chk_t (roomL_of (by simp at hl; omega)),chk_t l2,if_pos rfl]
    rw [show (y::b).drop 1=b from rfl,i2 _ (by simp at hl ⊢; omega)]; simp
   | false =>
    have:(!(false || eqS x.id y.id))=false:=by rw [eqS_t.2 (ltS_tri h1 h2)]; rfl
    rw [br_f this,if_neg (by simp),bnd_of (show item_Compare_s y x=some (compareV y x) from rfl),cmp_pos]
    cases behindB y x with
    | true=>rw [br_t rfl,chk_t l1,if_pos rfl]; exact i1 _ (by simp at hl ⊢; omega)
    | false=>rw [br_f rfl,chk_t l2,if_neg (by simp)]; exact i2 _ (by simp at hl ⊢; omega)
theorem lboth_s {a b:List Item} (h:a.length + b.length≤999980):list_Both_s a b=some (bothV a b):=by
 unfold list_Both_s bothV
 rw [both_l (a.length + b.length + 1) fuelN a [] b (by omega) (by unfold fuelN; omega) (by simp; omega)]; rfl
theorem mem_merge:∀ (n:Nat) (a b:List Item) (z:Item),z∈mergeF n a b→z∈a∨z∈b
 | 0,_,_,_,h=>by rw [mergeF] at h; cases h
 | n + 1,[],b,z,h=>by rw [mergeF] at h; exact .inr h
 | n + 1,x::a,[],z,h=>by rw [mergeF] at h; exact .inl h
 | n + 1,x::a,y::b,z,h=>by
  rw [mergeF] at h
  split at h
  ·rcases List.mem_cons.1 h with rfl | h
   ·exact .inl (List.mem_cons_self ..)
   ·exact (mem_merge n a (y::b) z h).imp (List.mem_cons_of_mem _) id
  ·split at h
   ·rcases List.mem_cons.1 h with rfl | h
    ·exact .inr (List.mem_cons_self ..)
    ·exact (mem_merge n (x::a) b z h).imp id (List.mem_cons_of_mem _)
   ·split at h
    ·exact (mem_merge n a (y::b) z h).imp (List.mem_cons_of_mem _) id
    ·exact (mem_merge n (x::a) b z h).imp id (List.mem_cons_of_mem _)
theorem ris_merge:∀ (n:Nat) {a b:List Item},Ris a→Ris b→Ris (mergeF n a b)
 | 0,_,_,_,_=>by rw [mergeF]; exact .nil
 | n + 1,[],b,_,hb=>by rw [mergeF]; exact hb
 | n + 1,x::a,[],ha,_=>by rw [mergeF]; exact ha
 | n + 1,x::a,y::b,ha,hb=>by
  have ha':=ris_cons.1 ha
  have hb':=ris_cons.1 hb
  rw [mergeF]
  split
  ·rename_i h1
   refine ris_cons.2 ⟨fun z hz=>?_,ris_merge n ha'.2 hb⟩
   rcases mem_merge n _ _ z hz with hz | hz
   ·exact ha'.1 z hz
   ·rcases List.mem_cons.1 hz with rfl | hz
    ·exact h1
    ·exact ltS_tr h1 (hb'.1 z hz)
  ·split
   ·rename_i h2
    refine ris_cons.2 ⟨fun z hz=>?_,ris_merge n ha hb'.2⟩
    rcases mem_merge n _ _ z hz with hz | hz
    ·rcases List.mem_cons.1 hz with rfl | hz
     ·exact h2
     ·exact ltS_tr h2 (ha'.1 z hz)
    ·exact hb'.1 z hz
   ·split
    ·exact ris_merge n ha'.2 hb
    ·exact ris_merge n ha hb'.2
theorem lk_merge:∀ (n:Nat) {a b:List Item} (id:ByteArray),a.length + b.length < n→Ris a→Ris b→lk (mergeF n a b) id=newer (lk a id) (lk b id)
 | 0,_,_,_,h,_,_=>by omega
 | n + 1,[],b,id,_,_,_=>by rw [mergeF]; rfl
 | n + 1,x::a,[],id,_,_,_=>by rw [mergeF]; exact (newer_none _).symm
 | n + 1,x::a,y::b,id,h,ha,hb=>by
  have ha':=ris_cons.1 ha
  have hb':=ris_cons.1 hb
  have i1:=lk_merge n id (a:=a) (b:=y::b) (by simp at h ⊢; omega) ha'.2 hb
  have i2:=lk_merge n id (a:=x::a) (b:=b) (by simp at h ⊢; omega) ha hb'.2
  rw [mergeF]
  by_cases h1:ltS x.id y.id=true
  ·rw [if_pos h1,lk_cons,lk_cons x a,i1]
   by_cases hx:eqS x.id id=true
   ·have hn:lk (y::b) id=none:=lk_gt fun z hz=>by
     rw [←eqS_t.1 hx]
     rcases List.mem_cons.1 hz with rfl | hz
     ·exact h1
     ·exact ltS_tr h1 (hb'.1 z hz)
    rw [if_pos hx,if_pos hx,hn]; rfl
   ·rw [if_neg hx,if_neg hx]
  ·rw [if_neg h1]
   by_cases h2:ltS y.id x.id=true
   ·rw [if_pos h2,lk_cons,lk_cons y b,i2]
    by_cases hy:eqS y.id id=true
    ·have hn:lk (x::a) id=none:=lk_gt fun z hz=>by
      rw [←eqS_t.1 hy]
      rcases List.mem_cons.1 hz with rfl | hz
      ·exact h2
      ·exact ltS_tr h2 (ha'.1 z hz)
     rw [if_pos hy,if_pos hy,hn]; rfl
    ·rw [if_neg hy,if_neg hy]
   ·rw [if_neg h2]
    simp only [Bool.not_eq_true] at h1 h2
    have e:=ltS_tri h1 h2
    by_cases hx:eqS x.id id=true
    ·have hy:eqS y.id id=true:=by rw [←e]; exact hx
     have na:lk a id=none:=lk_gt fun z hz=>by rw [←eqS_t.1 hx]; exact ha'.1 z hz
     have nb:lk b id=none:=lk_gt fun z hz=>by rw [←eqS_t.1 hy]; exact hb'.1 z hz
     have ex:lk (x::a) id=some x:=by rw [lk_cons,if_pos hx]
     have ey:lk (y::b) id=some y:=by rw [lk_cons,if_pos hy]
     rw [na,ey] at i1
     rw [nb,ex] at i2
     rw [ex,ey]
     show _=if behindB y x=true then some y else some x
     split
     ·exact i1
     ·exact i2
    ·have hy:¬ eqS y.id id=true:=by rw [←e]; exact hx
     have ex:lk (x::a) id=lk a id:=by rw [lk_cons,if_neg hx]
     have ey:lk (y::b) id=lk b id:=by rw [lk_cons,if_neg hy]
     rw [ey] at i1
     rw [ex] at i2
     rw [ex,ey]
     split
     ·exact i1
     ·exact i2
theorem ris_both {a b:List Item} (ha:Ris a) (hb:Ris b):Ris (bothV a b):=ris_merge _ ha hb
theorem lk_both {a b:List Item} (ha:Ris a) (hb:Ris b) (id:ByteArray):lk (bothV a b) id=newer (lk a id) (lk b id):=lk_merge _ id (by omega) ha hb
def stepB (acc:List Item) (y:Item):List Item:=match lk acc y.id with
 | none=>putV acc y
 | some h=>if behindB y h=true then putV acc y else acc
theorem len_put1 {l:List Item} (hr:Ris l) (x:Item):(putV l x).length≤l.length + 1:=by
 have h1:((l.filter fun y=>ltS y.id x.id)++l.filter fun y=>ltS x.id y.id).length≤l.length:=by
  rw [List.length_append]
  induction l with
  | nil=>simp
  | cons y l ih =>
   have:=ih (ris_cons.1 hr).2
   rw [List.filter_cons,List.filter_cons]
   cases h:ltS y.id x.id with
   | true=>rw [ltS_asym h]; simp; omega
   | false=>cases ltS x.id y.id<;>simp<;>omega
 unfold putV
 rw [List.length_append] at h1 ⊢
 rw [List.length_cons]; omega
theorem ris_step {acc:List Item} (h:Ris acc) (y:Item):Ris (stepB acc y):=by
 unfold stepB
 split
 ·exact ris_put h y
 ·split
  ·exact ris_put h y
  ·exact h
theorem len_step {acc:List Item} (h:Ris acc) (y:Item):(stepB acc y).length≤acc.length + 1:=by
 unfold stepB
 split
 ·exact len_put1 h y
 ·split
  ·exact len_put1 h y
  ·omega
theorem lk_step (acc:List Item) (y:Item) (id:ByteArray):lk (stepB acc y) id=newer (lk acc id) (if eqS y.id id=true then some y else none):=by
 unfold stepB
 by_cases hy:eqS y.id id=true
 ·rw [if_pos hy,←eqS_t.1 hy]
  cases h:lk acc y.id with
  | none=>dsimp only; rw [lk_put,if_pos (eqS_self _)]; rfl
  | some x =>
   dsimp only
   show _=if behindB y x=true then some y else some x
   split
   ·rw [lk_put,if_pos (eqS_self _)]
   ·exact h
 ·rw [if_neg hy,newer_none]
  split
  ·rw [lk_put,if_neg hy]
  ·split
   ·rw [lk_put,if_neg hy]
   ·rfl
theorem ris_fold:∀ (b acc:List Item),Ris acc→Ris (b.foldl stepB acc)
 | [],_,h=>h
 | y::b,acc,h=>ris_fold b _ (ris_step h y)
theorem lk_fold (id:ByteArray):∀ (b acc:List Item),Ris b→lk (b.foldl stepB acc) id=newer (lk acc id) (lk b id)
 | [],acc,_=>(newer_none _).symm
 | y::b,acc,h=>by
  have h':=ris_cons.1 h
  rw [List.foldl_cons,lk_fold id b _ h'.2,lk_step,lk_cons]
  by_cases hy:eqS y.id id=true
  ·rw [if_pos hy,if_pos hy,lk_gt (l:=b) fun z hz=>by rw [←eqS_t.1 hy]; exact h'.1 z hz,newer_none]
  ·rw [if_neg hy,if_neg hy,newer_none]
theorem rboth_l:∀ (b acc:List Item),Ris acc→acc.length + b.length≤400000→ref06_Both_l1 b acc=some (b.foldl stepB acc)
 | [],acc,_,_=>by rw [ref06_Both_l1]; rfl
 | y::b,acc,hr,h=>by
  rw [List.length_cons] at h
  have ih:=rboth_l b (stepB acc y) (ris_step hr y) (by have:=len_step hr y; omega)
  rw [ref06_Both_l1,bnd_of (get_s (by omega)),List.foldl_cons,←ih]
  unfold stepB
  cases hk:lk acc y.id with
  | none=>rw [getI_f hk,br_t (by rfl),bnd_of (rput_s (by omega))]
  | some x =>
   rw [getI_t hk,br_f (by rfl),bnd_of (show ref01_Behind_s y (x,true).1=some (behindB y x) from rfl)]
   dsimp only
   cases behindB y x with
   | true=>rw [br_t rfl,bnd_of (rput_s (by omega)),if_pos rfl]
   | false=>rw [br_f rfl,if_neg (by simp)]
theorem rboth_s {a b:List Item} (ha:Ris a) (hb:Ris b) (h:a.length + b.length≤400000):ref06_Both_s a b=some (bothV a b):=by
 unfold ref06_Both_s
 rw [chk_t (roomL_of (by omega)),chk_t (smallL_of (by omega)),rboth_l b a ha h]
 congr 1
 exact ris_ext (ris_fold b a ha) (ris_both ha hb) fun id=>by rw [lk_fold id b a hb,lk_both ha hb]
theorem may_ris {l:List Item} (h:mayListB l=true):Ris l:=by
 unfold mayListB at h; rw [Bool.and_eq_true] at h; exact ris_iff.1 h.2
theorem may_all {l:List Item} (h:mayListB l=true):∀ x∈l,mayI x=true:=by
 unfold mayListB at h; rw [Bool.and_eq_true,List.all_eq_true] at h; exact h.1
theorem may_of {l:List Item} (h:Ris l) (h':∀ x∈l,mayI x=true):mayListB l=true:=by
 unfold mayListB; rw [Bool.and_eq_true,List.all_eq_true]; exact ⟨h',ris_iff.2 h⟩
end
end Go.Proofs.YtidkmoohgadjkaaGreat
set_option maxHeartbeats 0
namespace Go.Proofs.YtidkmoohgadjkaaGreat
open Go E
noncomputable section
open Pred
end
end Go.Proofs.YtidkmoohgadjkaaGreat
namespace Go.Proofs.YtidkmoohgadjkaaGreat
open Go E Pred
noncomputable section
open Classical
theorem mem_both {a b:List Item} {y:Item} (h:y∈bothV a b):y∈a∨y∈b:=mem_merge _ a b y h
end
end Go.Proofs.YtidkmoohgadjkaaGreat
set_option maxHeartbeats 0
namespace Go.Proofs.YtidkmoohgadjkaaGreat
open Go E
noncomputable section
open Pred
def serve_rep_s (p0:Int):Option (Bool) :=
 (br (leI 1 p0)
  (some (leI p0 8))
  (some false))
def serve_as_s (p0:Has):Option (Item) :=
 some (Item.mk p0.id p0.vr p0.vc p0.stamp ⟨#[]⟩ 0 0 0 false)
def serve_have_l1 (p0:List Has):List Has→Int→Option (Bool)
  | [],v1 =>
  some (leI (p0.length:Int) 40)
  | x1e::xs1,v1 =>
  (bnd (serve_as_s (Has.mk x1e.id x1e.vr x1e.vc x1e.stamp)) fun y2 =>
   (bnd (item_May_s y2) fun y4 =>
    (br (!y4)
     (some false)
     (br (ltI 0 v1)
      (bnd (atL p0 (wr .i64 (v1 - 1))) fun x8 =>
       (br (!ltS x8.id x1e.id)
        (some false)
        (serve_have_l1 p0 xs1 (v1 + 1) )))
      (serve_have_l1 p0 xs1 (v1 + 1) )))))
def serve_have_s (p0:List Has):Option (Bool) :=
 (chk (smallL p0)
   ((serve_have_l1 p0) p0 0 ))
def serve_May_s (p0:Msg):Option (Bool) :=
 (br (!eqI p0.kind 1)
  (some false)
  (br (!eqI p0.turn 0)
   (some false)
   (br (!eqI p0.n 0)
    (some false)
    (br (ltI 0 (p0.l.length:Int))
     (some false)
     (br p0.star
      (some false)
      (bnd (serve_rep_s p0.src) fun y6 =>
       (br y6
        (bnd (serve_rep_s p0.dst) fun y9 =>
         (br y9
          (br (!eqI p0.src p0.dst)
           (br (leI 0 p0.sid)
            (br (leI p0.sid 1000000)
             (bnd (pred_May_s p0.f) fun y15 =>
              (br y15
               (bnd (know_May_s p0.k) fun y18 =>
                (br y18
                 (bnd (serve_have_s p0.have_) fun y21 =>
                  some y21)
                 (some false)))
               (some false)))
             (some false))
            (some false))
           (some false))
          (some false)))
        (some false))))))))
def serve_goes_s (p0:Has) (p1:Ver):Option (Entry) :=
 some (Entry.mk (Item.mk p0.id p0.vr p0.vc 0 ⟨#[]⟩ 0 0 0 false) true p1.r p1.c)
def serve_entries_l2 (p0:List Item) (p1:Msg):List Has→(List Entry)→Option ((List Entry))
  | [],v11 =>
  some v11
  | x2e::xs2,v11 =>
  (bnd (list_Get_s p0 x2e.id) fun y12 =>
   (br y12.2
    (bnd (eval_Has_s p1.f y12.1) fun y15 =>
     (br (!y15)
      (bnd (serve_as_s (Has.mk x2e.id x2e.vr x2e.vc x2e.stamp)) fun y18 =>
       (bnd (item_Compare_s y12.1 y18) fun y20 =>
        (br (ltI 0 y20)
         (bnd (serve_goes_s (Has.mk x2e.id x2e.vr x2e.vc x2e.stamp) (Ver.mk y12.1.vr y12.1.vc)) fun y23 =>
          (chk (roomL v11.length 1)
           (serve_entries_l2 p0 p1 xs2  (v11++[y23]))))
         (serve_entries_l2 p0 p1 xs2  v11))))
      (serve_entries_l2 p0 p1 xs2  v11)))
    (serve_entries_l2 p0 p1 xs2  v11)))
def serve_entries_l1 (p0:List Item) (p1:Msg):List Item→(List Entry)→Option ((List Entry))
  | [],v2 =>
  (chk (smallL p1.have_)
    ((serve_entries_l2 p0 p1) p1.have_ v2))
  | x1e::xs1,v2 =>
  (bnd (know_Has_s p1.k x1e.id (Ver.mk x1e.vr x1e.vc)) fun y3 =>
   (br (!y3)
    (bnd (eval_Has_s p1.f x1e) fun y6 =>
     (br y6
      (chk (roomL v2.length 1)
       (serve_entries_l1 p0 p1 xs1  (v2++[(Entry.mk x1e false 0 0)])))
      (serve_entries_l1 p0 p1 xs1  v2)))
    (serve_entries_l1 p0 p1 xs1  v2)))
def serve_entries_s (p0:List Item) (p1:Msg):Option ((List Entry)) :=
 (chk (smallL p0)
   ((serve_entries_l1 p0 p1) p0 ([]:List Entry)))
def serve_Answer_l2 (p0:State) (p1:Msg) (p2:Int) (y5:(List Item)) (v10:Int) (v11:List Msg) (y23:Know):List Has→(List Entry)→Option ((List Msg))
  | [],v26 =>
  (chk (roomL v11.length 1)
   (some (v11++[(Msg.mk 3 p1.dst p1.src p1.sid p2 (Pred.mk 0 ⟨#[]⟩ 0 0 0 []) y23 [] v10 v26 false)])))
  | x2e::xs2,v26 =>
  (bnd (list_Get_s y5 x2e.id) fun y27 =>
   (br (!y27.2)
    (bnd (know_Has_s p0.k x2e.id (Ver.mk x2e.vr x2e.vc)) fun y30 =>
     (br y30
      (bnd (serve_goes_s (Has.mk x2e.id x2e.vr x2e.vc x2e.stamp) (Ver.mk 0 0)) fun y33 =>
       (chk (roomL v26.length 1)
        (serve_Answer_l2 p0 p1 p2 y5 v10 v11 y23 xs2  (v26++[y33]))))
      (serve_Answer_l2 p0 p1 p2 y5 v10 v11 y23 xs2  v26)))
    (serve_Answer_l2 p0 p1 p2 y5 v10 v11 y23 xs2  v26)))
def serve_Answer_l1 (p0:State) (p1:Msg) (p2:Int) (y5:(List Item)):Nat→(List Entry)→Int→(List Msg)→Option ((List Msg))
  | 0,_,_,_=>none
  | fl1 + 1,v9,v10,v11 =>
  (br (ltI 0 (v9.length:Int))
   (chk (leI 0 0&&(leI 0 (minI (v9.length:Int) 4)&&leI (minI (v9.length:Int) 4) (v9.length:Int)))
    (br (eqI 0 (minI (v9.length:Int) 4))
     (chk (roomL v11.length 1)
      (chk (leI 0 (minI (v9.length:Int) 4)&&(leI (minI (v9.length:Int) 4) (v9.length:Int)&&leI (v9.length:Int) (v9.length:Int)))
       (serve_Answer_l1 p0 p1 p2 y5 fl1 (subL v9 (minI (v9.length:Int) 4) (v9.length:Int)) (wr .i64 (v10 + 1)) (v11++[(Msg.mk 2 p1.dst p1.src p1.sid p2 (Pred.mk 0 ⟨#[]⟩ 0 0 0 ([]:List Pred)) (Know.mk (V8.mk 0 0 0 0 0 0 0 0) ([]:List Frag)) ([]:List Has) v10 [] false)]))))
     (chk (roomL v11.length 1)
      (chk (leI 0 (minI (v9.length:Int) 4)&&(leI (minI (v9.length:Int) 4) (v9.length:Int)&&leI (v9.length:Int) (v9.length:Int)))
       (serve_Answer_l1 p0 p1 p2 y5 fl1 (subL v9 (minI (v9.length:Int) 4) (v9.length:Int)) (wr .i64 (v10 + 1)) (v11++[(Msg.mk 2 p1.dst p1.src p1.sid p2 (Pred.mk 0 ⟨#[]⟩ 0 0 0 ([]:List Pred)) (Know.mk (V8.mk 0 0 0 0 0 0 0 0) ([]:List Frag)) ([]:List Has) v10 (subL v9 0 (minI (v9.length:Int) 4)) false)]))))))
   (bnd (contain_In_s p1.f p0.f) fun y19 =>
    (br (!y19)
     (chk (roomL v11.length 1)
      (some (v11++[(Msg.mk 3 p1.dst p1.src p1.sid p2 (Pred.mk 0 ⟨#[]⟩ 0 0 0 []) (Know.mk (V8.mk 0 0 0 0 0 0 0 0) []) [] v10 [] false)])))
     (bnd (fresh_Know_s p0.k) fun y23 =>
      (chk (smallL p1.have_)
        ((serve_Answer_l2 p0 p1 p2 y5 v10 v11 y23) p1.have_ ([]:List Entry)))))))
def serve_Answer_s (p0:State) (p1:Msg) (p2:Int):Option ((List Msg)) :=
 (bnd (serve_May_s p1) fun y1 =>
  (br (!y1)
   (some [])
   (br (!eqI p1.dst p0.r)
    (some [])
    (bnd (list_Both_s p0.store p0.out) fun y5 =>
     (bnd (serve_entries_s y5 p1) fun y7 =>
      ((serve_Answer_l1 p0 p1 p2 y5) fuelN y7 0 ([]:List Msg)))))))
variable {X:Task→Prop} (hX:Closed X) {Q:A→List Blk→Prop}
include hX
theorem serve_rep_c  {p0:Int} {r:Bool} (h:serve_rep_s p0=some r) (hQ:Q (.one (.p (.v (.bool r)))) []):X (.call 71 [iv p0] [] Q):=by
  have K:=fun a (e:some a=some r)=>ret_some (f:=fun y=>.one (.p (.v (.bool y)))) (g:=fun y=>[]) e hQ
  unfold serve_rep_s at h
  refine call_intro hX Tryz.func71 rfl rfl ?_
  conv=>whnf
  repeat((first|refine dw ?_);conv=>whnf)
  revert h
  refine brk (fun c1 h=>?_) (fun c1 h=>?_)
  ·conv=>whnf
   repeat((first|refine dw ?_|refine bct c1 ?_);conv=>whnf)
   exact K _ h
  ·conv=>whnf
   repeat((first|refine dw ?_|refine bcf c1 ?_);conv=>whnf)
   exact K _ h
theorem serve_as_c  {p0:Has} {r:Item} (h:serve_as_s p0=some r) (hQ:Q (.agg (Item.cs r)) []):X (.call 149 [.agg [.p (.v (.string p0.id)),ic p0.vr,ic p0.vc,ic p0.stamp]] [] Q):=by
 unfold serve_as_s at h
 refine call_intro hX Tryz.func149 rfl rfl ?_
 conv=>whnf
 repeat((first|refine dw ?_);conv=>whnf)
 exact ret_some (f:=fun y=>.agg (Item.cs y)) (g:=fun y=>[]) h hQ
theorem serve_have_c  {p0:List Has} {r:Bool} (h:serve_have_s p0=some r) (hQ:Q (.one (.p (.v (.bool r)))) []):X (.call 74 [.one (.p (.sl (p0.map Has.row)))] [] Q):=by
  have K:=fun a (e:some a=some r)=>ret_some (f:=fun y=>.one (.p (.v (.bool y)))) (g:=fun y=>[]) e hQ
  unfold serve_have_s at h
  refine call_intro hX Tryz.func74 rfl rfl ?_
  revert h
  refine chkk fun hs1 h=>?_
  conv=>whnf
  repeat((first|refine dw ?_|refine eqv_to (map_len _) ?_);conv=>whnf)
  refine loop_list0 (fun (v1:Int)=>pad [(0,.one (.p (.sl (p0.map Has.row)))),(4,.one (.p (.sl (p0.map Has.row)))),(0,iv (p0.length:Int)),(0,iv v1)] 27) (fun (v1:Int)=>[]) _ p0 (fun pre1 x1e xs1 v1  hl1 hi1 h ih1=>?_) (fun v1  hi1 h=>?_)  h
  ·rw [serve_have_l1] at h
   have am1:=at_mid hl1 hi1
   refine loop_intro hX ?_
   revert h
   refine bndk fun y2 e3 h=>?_
   conv=>whnf
   repeat((first|refine dw ?_|refine bct (lt_mid hl1 hi1) ?_|refine bct (at_in am1) ?_|refine bct (andt (at_in am1) rfl) ?_|refine row_in (at_row am1) ?_|refine bct (andt (at_in (at_nat am1)) rfl) ?_|refine row_in (at_row (at_nat am1)) ?_);conv=>whnf)
   refine serve_as_c hX e3 ?_
   revert h
   refine bndk fun y4 e5 h=>?_
   conv=>whnf
   repeat((first|refine dw ?_);conv=>whnf)
   refine item_May_c hX e5 ?_
   conv=>whnf
   repeat((first|refine dw ?_);conv=>whnf)
   revert h
   refine brk (fun c6 h=>?_) (fun c6 h=>?_)
   ·conv=>whnf
    repeat((first|refine dw ?_|refine bct c6 ?_);conv=>whnf)
    exact K _ h
   ·conv=>whnf
    repeat((first|refine dw ?_|refine bcf c6 ?_);conv=>whnf)
    revert h
    refine brk (fun c7 h=>?_) (fun c7 h=>?_)
    ·revert h
     refine bndk fun x8 a9 h=>?_
     conv=>whnf
     repeat((first|refine dw ?_|refine bct c7 ?_|refine bct (at_in a9) ?_|refine bct (andt (at_in a9) rfl) ?_|refine row_in (at_row a9) ?_|refine bct (andt (at_in (at_nat a9)) rfl) ?_|refine row_in (at_row (at_nat a9)) ?_|refine bcf c6 ?_);conv=>whnf)
     revert h
     refine brk (fun c10 h=>?_) (fun c10 h=>?_)
     ·conv=>whnf
      repeat((first|refine dw ?_|refine bct c10 ?_);conv=>whnf)
      exact K _ h
     ·conv=>whnf
      repeat((first|refine dw ?_|refine bcf c10 ?_);conv=>whnf)
      exact ih1 _  (wrL hs1 hl1 hi1) h
    ·conv=>whnf
     repeat((first|refine dw ?_|refine bcf c7 ?_|refine bcf c6 ?_);conv=>whnf)
     exact ih1 _  (wrL hs1 hl1 hi1) h
  ·rw [serve_have_l1] at h
   refine loop_intro hX ?_
   conv=>whnf
   repeat((first|refine dw ?_|refine bcf (lt_end hi1) ?_|refine eqv_to (map_len _) ?_);conv=>whnf)
   exact K _ h
theorem serve_May_c  {p0:Msg} {r:Bool} (h:serve_May_s p0=some r) (hQ:Q (.one (.p (.v (.bool r)))) []):X (.call 19 [.agg (Msg.cs p0)] [] Q):=by
  have K:=fun a (e:some a=some r)=>ret_some (f:=fun y=>.one (.p (.v (.bool y)))) (g:=fun y=>[]) e hQ
  unfold serve_May_s at h
  refine call_intro hX Tryz.func19 rfl rfl ?_
  conv=>whnf
  repeat((first|refine dw ?_);conv=>whnf)
  revert h
  refine brk (fun c1 h=>?_) (fun c1 h=>?_)
  ·conv=>whnf
   repeat((first|refine dw ?_|refine bct c1 ?_);conv=>whnf)
   exact K _ h
  ·conv=>whnf
   repeat((first|refine dw ?_|refine bcf c1 ?_);conv=>whnf)
   revert h
   refine brk (fun c2 h=>?_) (fun c2 h=>?_)
   ·conv=>whnf
    repeat((first|refine dw ?_|refine bct c2 ?_);conv=>whnf)
    exact K _ h
   ·conv=>whnf
    repeat((first|refine dw ?_|refine bcf c2 ?_);conv=>whnf)
    revert h
    refine brk (fun c3 h=>?_) (fun c3 h=>?_)
    ·conv=>whnf
     repeat((first|refine dw ?_|refine bct c3 ?_);conv=>whnf)
     exact K _ h
    ·conv=>whnf
     repeat((first|refine dw ?_|refine bcf c3 ?_|refine eqv_to (map_len _) ?_);conv=>whnf)
     revert h
     refine brk (fun c4 h=>?_) (fun c4 h=>?_)
     ·conv=>whnf
      repeat((first|refine dw ?_|refine bct c4 ?_);conv=>whnf)
      exact K _ h
     ·conv=>whnf
      repeat((first|refine dw ?_|refine bcf c4 ?_);conv=>whnf)
      revert h
      refine brk (fun c5 h=>?_) (fun c5 h=>?_)
      ·conv=>whnf
       repeat((first|refine dw ?_|refine bct c5 ?_);conv=>whnf)
       exact K _ h
      ·revert h
       refine bndk fun y6 e7 h=>?_
       conv=>whnf
       repeat((first|refine dw ?_|refine bcf c5 ?_);conv=>whnf)
       refine serve_rep_c hX e7 ?_
       conv=>whnf
       repeat((first|refine dw ?_);conv=>whnf)
       revert h
       refine brk (fun c8 h=>?_) (fun c8 h=>?_)
       ·revert h
        refine bndk fun y9 e10 h=>?_
        conv=>whnf
        repeat((first|refine dw ?_|refine bct c8 ?_);conv=>whnf)
        refine serve_rep_c hX e10 ?_
        conv=>whnf
        repeat((first|refine dw ?_|refine bct c8 ?_);conv=>whnf)
        revert h
        refine brk (fun c11 h=>?_) (fun c11 h=>?_)
        ·conv=>whnf
         repeat((first|refine dw ?_|refine bct c11 ?_);conv=>whnf)
         revert h
         refine brk (fun c12 h=>?_) (fun c12 h=>?_)
         ·conv=>whnf
          repeat((first|refine dw ?_|refine bct c12 ?_);conv=>whnf)
          revert h
          refine brk (fun c13 h=>?_) (fun c13 h=>?_)
          ·conv=>whnf
           repeat((first|refine dw ?_|refine bct c13 ?_);conv=>whnf)
           revert h
           refine brk (fun c14 h=>?_) (fun c14 h=>?_)
           ·revert h
            refine bndk fun y15 e16 h=>?_
            conv=>whnf
            repeat((first|refine dw ?_|refine bct c14 ?_);conv=>whnf)
            refine pred_May_c hX e16 ?_
            conv=>whnf
            repeat((first|refine dw ?_|refine bct c14 ?_);conv=>whnf)
            revert h
            refine brk (fun c17 h=>?_) (fun c17 h=>?_)
            ·revert h
             refine bndk fun y18 e19 h=>?_
             conv=>whnf
             repeat((first|refine dw ?_|refine bct c17 ?_);conv=>whnf)
             refine know_May_c hX e19 ?_
             conv=>whnf
             repeat((first|refine dw ?_|refine bct c17 ?_);conv=>whnf)
             revert h
             refine brk (fun c20 h=>?_) (fun c20 h=>?_)
             ·revert h
              refine bndk fun y21 e22 h=>?_
              conv=>whnf
              repeat((first|refine dw ?_|refine bct c20 ?_);conv=>whnf)
              refine serve_have_c hX e22 ?_
              conv=>whnf
              repeat((first|refine dw ?_|refine bct c20 ?_);conv=>whnf)
              exact K _ h
             ·conv=>whnf
              repeat((first|refine dw ?_|refine bcf c20 ?_);conv=>whnf)
              exact K _ h
            ·conv=>whnf
             repeat((first|refine dw ?_|refine bcf c17 ?_);conv=>whnf)
             exact K _ h
           ·conv=>whnf
            repeat((first|refine dw ?_|refine bcf c14 ?_);conv=>whnf)
            exact K _ h
          ·conv=>whnf
           repeat((first|refine dw ?_|refine bcf c13 ?_);conv=>whnf)
           exact K _ h
         ·conv=>whnf
          repeat((first|refine dw ?_|refine bcf c12 ?_);conv=>whnf)
          exact K _ h
        ·conv=>whnf
         repeat((first|refine dw ?_|refine bcf c11 ?_);conv=>whnf)
         exact K _ h
       ·conv=>whnf
        repeat((first|refine dw ?_|refine bcf c8 ?_);conv=>whnf)
        exact K _ h
theorem serve_goes_c  {p0:Has} {p1:Ver} {r:Entry} (h:serve_goes_s p0 p1=some r) (hQ:Q (.agg (Entry.cs r)) []):X (.call 158 [.agg [.p (.v (.string p0.id)),ic p0.vr,ic p0.vc,ic p0.stamp],.agg (Ver.cs p1)] [] Q):=by
 unfold serve_goes_s at h
 refine call_intro hX Tryz.func158 rfl rfl ?_
 conv=>whnf
 repeat((first|refine dw ?_);conv=>whnf)
 exact ret_some (f:=fun y=>.agg (Entry.cs y)) (g:=fun y=>[]) h hQ
theorem serve_entries_c  {p0:List Item} {p1:Msg} {r:(List Entry)} (h:serve_entries_s p0 p1=some r) (hQ:Q (.one (.p (.sl (r.map Entry.row)))) []):X (.call 85 [.one (.p (.sl (p0.map Item.row))),.agg (Msg.cs p1)] [] Q):=by
  unfold serve_entries_s at h
  refine call_nz hX ?_
  conv=>whnf
  refine call_intro hX Tryz.func85 rfl rfl ?_
  revert h
  refine chkk fun hs1 h=>?_
  conv=>whnf
  repeat((first|refine dw ?_|refine eqv_to (map_len _) ?_);conv=>whnf)
  refine loop_k hX [11] ?_
  conv=>whnf
  refine loop_lisx1 (fun (v1:Int) (v2:List Entry)=>pad [(0,.one (.p (.sl (p0.map Item.row)))),(2,.one (.ptr 0 0)),(1,.one (.own 1)),(6,.one (.p (.sl (p0.map Item.row)))),(0,iv (p0.length:Int)),(0,iv v1)] 61) (fun (v1:Int) (v2:List Entry)=>[.box (Msg.cs p1),.rows 11 (v2.map Entry.row)]) _ p0 (fun pre1 x1e xs1 v1 v2 hl1 hi1 h ih1=>?_) (fun v1 v2 hi1 h=>?_) ([]:List Entry) h
  ·rw [serve_entries_l1] at h
   have am1:=at_mid hl1 hi1
   refine loop_intro hX ?_
   revert h
   refine bndk fun y3 e4 h=>?_
   conv=>whnf
   repeat((first|refine dw ?_|refine bct (lt_mid hl1 hi1) ?_|refine bct (at_in am1) ?_|refine bct (andt (at_in am1) rfl) ?_|refine row_in (at_row am1) ?_|refine bct (andt (at_in (at_nat am1)) rfl) ?_|refine row_in (at_row (at_nat am1)) ?_);conv=>whnf)
   refine know_Has_c hX e4 ?_
   conv=>whnf
   repeat((first|refine dw ?_);conv=>whnf)
   revert h
   refine brk (fun c5 h=>?_) (fun c5 h=>?_)
   ·revert h
    refine bndk fun y6 e7 h=>?_
    conv=>whnf
    repeat((first|refine dw ?_|refine bct c5 ?_);conv=>whnf)
    refine eval_Has_c hX e7 ?_
    conv=>whnf
    repeat((first|refine dw ?_|refine bct c5 ?_);conv=>whnf)
    revert h
    refine brk (fun c8 h=>?_) (fun c8 h=>?_)
    ·revert h
     refine chkk fun c9 h=>?_
     conv=>whnf
     repeat((first|refine dw ?_|refine bct c8 ?_|refine bct (room_map c9 rfl rfl rfl rfl) ?_|refine eqv_to (cat_one (f:=Entry.row) v2 (Entry.mk x1e false 0 0)) ?_);conv=>whnf)
     exact ih1 _ (v2++[(Entry.mk x1e false 0 0)]) (wrL hs1 hl1 hi1) h
    ·conv=>whnf
     repeat((first|refine dw ?_|refine bcf c8 ?_);conv=>whnf)
     exact ih1 _ v2 (wrL hs1 hl1 hi1) h
   ·conv=>whnf
    repeat((first|refine dw ?_|refine bcf c5 ?_);conv=>whnf)
    exact ih1 _ v2 (wrL hs1 hl1 hi1) h
  ·rw [serve_entries_l1] at h
   refine loop_intro hX ?_
   revert h
   refine chkk fun hs2 h=>?_
   conv=>whnf
   repeat((first|refine dw ?_|refine bcf (lt_end hi1) ?_|refine eqv_to (map_len _) ?_);conv=>whnf)
   refine loop_lisx1 (fun (v10:Int) (v11:List Entry)=>pad [(0,.one (.p (.sl (p0.map Item.row)))),(2,.one (.ptr 0 0)),(1,.one (.own 1)),(33,.one (.p (.sl (p1.have_.map Has.row)))),(0,iv (p1.have_.length:Int)),(0,iv v10)] 34) (fun (v10:Int) (v11:List Entry)=>[.box (Msg.cs p1),.rows 11 (v11.map Entry.row)]) _ p1.have_ (fun pre2 x2e xs2 v10 v11 hl2 hi2 h ih2=>?_) (fun v10 v11 hi2 h=>?_) v2 h
   ·rw [serve_entries_l2] at h
    have am2:=at_mid hl2 hi2
    refine loop_intro hX ?_
    revert h
    refine bndk fun y12 e13 h=>?_
    conv=>whnf
    repeat((first|refine dw ?_|refine bct (lt_mid hl2 hi2) ?_|refine bct (at_in am2) ?_|refine bct (andt (at_in am2) rfl) ?_|refine row_in (at_row am2) ?_|refine bct (andt (at_in (at_nat am2)) rfl) ?_|refine row_in (at_row (at_nat am2)) ?_);conv=>whnf)
    refine list_Get_c hX e13 ?_
    conv=>whnf
    repeat((first|refine dw ?_);conv=>whnf)
    revert h
    refine brk (fun c14 h=>?_) (fun c14 h=>?_)
    ·revert h
     refine bndk fun y15 e16 h=>?_
     conv=>whnf
     repeat((first|refine dw ?_|refine bct c14 ?_);conv=>whnf)
     refine eval_Has_c hX e16 ?_
     conv=>whnf
     repeat((first|refine dw ?_|refine bct c14 ?_);conv=>whnf)
     revert h
     refine brk (fun c17 h=>?_) (fun c17 h=>?_)
     ·revert h
      refine bndk fun y18 e19 h=>?_
      conv=>whnf
      repeat((first|refine dw ?_|refine bct c17 ?_);conv=>whnf)
      refine serve_as_c hX e19 ?_
      revert h
      refine bndk fun y20 e21 h=>?_
      conv=>whnf
      repeat((first|refine dw ?_|refine bct c17 ?_);conv=>whnf)
      refine item_Compare_c hX e21 ?_
      conv=>whnf
      repeat((first|refine dw ?_|refine bct c17 ?_);conv=>whnf)
      revert h
      refine brk (fun c22 h=>?_) (fun c22 h=>?_)
      ·revert h
       refine bndk fun y23 e24 h=>?_
       conv=>whnf
       repeat((first|refine dw ?_|refine bct c22 ?_);conv=>whnf)
       refine serve_goes_c hX e24 ?_
       revert h
       refine chkk fun c25 h=>?_
       conv=>whnf
       repeat((first|refine dw ?_|refine bct (room_map c25 rfl rfl rfl rfl) ?_|refine eqv_to (cat_one (f:=Entry.row) v11 y23) ?_);conv=>whnf)
       exact ih2 _ (v11++[y23]) (wrL hs2 hl2 hi2) h
      ·conv=>whnf
       repeat((first|refine dw ?_|refine bcf c22 ?_);conv=>whnf)
       exact ih2 _ v11 (wrL hs2 hl2 hi2) h
     ·conv=>whnf
      repeat((first|refine dw ?_|refine bcf c17 ?_);conv=>whnf)
      exact ih2 _ v11 (wrL hs2 hl2 hi2) h
    ·conv=>whnf
     repeat((first|refine dw ?_|refine bcf c14 ?_);conv=>whnf)
     exact ih2 _ v11 (wrL hs2 hl2 hi2) h
   ·rw [serve_entries_l2] at h
    refine loop_intro hX ?_
    conv=>whnf
    repeat((first|refine dw ?_|refine bcf (lt_end hi2) ?_);conv=>whnf)
    exact ret_some (f:=fun y=>.one (.p (.sl (y.map Entry.row)))) (g:=fun y=>[]) h hQ
theorem serve_Answer_c  {p0:State} {p1:Msg} {p2:Int} {r:(List Msg)} (h:serve_Answer_s p0 p1 p2=some r) (hQ:Q (.one (.p (.sl (r.map Msg.row)))) []):X (.call 24 [.agg (State.cs p0),.agg (Msg.cs p1),iv p2] [] Q):=by
  have K:=fun a (e:some a=some r)=>ret_some (f:=fun y=>.one (.p (.sl (y.map Msg.row)))) (g:=fun y=>[]) e hQ
  unfold serve_Answer_s at h
  refine call_nz hX ?_
  conv=>whnf
  refine call_intro hX Tryz.func24 rfl rfl ?_
  revert h
  refine bndk fun y1 e2 h=>?_
  conv=>whnf
  repeat((first|refine dw ?_);conv=>whnf)
  refine serve_May_c hX e2 ?_
  conv=>whnf
  repeat((first|refine dw ?_);conv=>whnf)
  revert h
  refine brk (fun c3 h=>?_) (fun c3 h=>?_)
  ·conv=>whnf
   repeat((first|refine dw ?_|refine bct c3 ?_);conv=>whnf)
   exact K _ h
  ·conv=>whnf
   repeat((first|refine dw ?_|refine bcf c3 ?_);conv=>whnf)
   revert h
   refine brk (fun c4 h=>?_) (fun c4 h=>?_)
   ·conv=>whnf
    repeat((first|refine dw ?_|refine bct c4 ?_);conv=>whnf)
    exact K _ h
   ·revert h
    refine bndk fun y5 e6 h=>?_
    conv=>whnf
    repeat((first|refine dw ?_|refine bcf c4 ?_);conv=>whnf)
    refine list_Both_c hX e6 ?_
    revert h
    refine bndk fun y7 e8 h=>?_
    conv=>whnf
    repeat((first|refine dw ?_);conv=>whnf)
    refine serve_entries_c hX e8 ?_
    conv=>whnf
    repeat((first|refine dw ?_);conv=>whnf)
    refine loop_k hX [23] ?_
    conv=>whnf
    refine loop_fuel3 (fun (v9:List Entry) (v10:Int) (v11:List Msg)=>pad [(3,.one (.ptr 0 0)),(0,.one (.ptr 1 0)),(2,.one (.p (.sl (y5.map Item.row)))),(0,.one (.ptr 2 0)),(0,.one (.own 3)),(0,.one (.p (.sl (v9.map Entry.row))))] 59) (fun (v9:List Entry) (v10:Int) (v11:List Msg)=>[.box (State.cs p0),.box (Msg.cs p1),.box [ic 2,ic p1.dst,ic p1.src,ic p1.sid,ic p2,ic 0,.p (.v (.string ⟨#[]⟩)),ic 0,.p (.v (.complex .f64 0 0)),.p (.v (.slice Option.none 0 0)),ic 0,ic 0,ic 0,ic 0,ic 0,ic 0,ic 0,ic 0,.p (.v (.slice Option.none 0 0)),.p (.v (.slice Option.none 0 0)),ic v10,.p (.v (.slice Option.none 0 0)),.p (.v (.bool false))],.rows 23 (v11.map Msg.row)]) _ (fun _ _ _ h=>?_) (fun fl1 v9 v10 v11 h ih1=>?_) fuelN y7 0 ([]:List Msg) h
    ·rw [serve_Answer_l1] at h
     cases h
    ·rw [serve_Answer_l1] at h
     refine loop_intro hX ?_
     conv=>whnf
     repeat((first|refine dw ?_|refine eqv_to (map_len _) ?_);conv=>whnf)
     revert h
     refine brk (fun c12 h=>?_) (fun c12 h=>?_)
     ·revert h
      refine chkk fun c13 h=>?_
      conv=>whnf
      repeat((first|refine dw ?_|refine bct c12 ?_|refine eqv_to (map_len _) ?_|refine bct c13 ?_|refine bct (slice_ok (f:=Entry.row) (a:=0) (sz:=11) c13 (fun _=>rfl)) ?_|refine bct (andt (eqI_t.2 rfl) rfl) ?_);conv=>whnf)
      revert h
      refine brk (fun c14 h=>?_) (fun c14 h=>?_)
      ·revert h
       refine chkk fun c15 h=>?_
       revert h
       refine chkk fun c16 h=>?_
       conv=>whnf
       repeat((first|refine dw ?_|refine bct c14 ?_|refine bct (room_map c15 rfl rfl rfl rfl) ?_|refine eqv_to (cat_one (f:=Msg.row) v11 (Msg.mk 2 p1.dst p1.src p1.sid p2 (Pred.mk 0 ⟨#[]⟩ 0 0 0 ([]:List Pred)) (Know.mk (V8.mk 0 0 0 0 0 0 0 0) ([]:List Frag)) ([]:List Has) v10 [] false)) ?_|refine bct (slice_okE (f:=Entry.row) (a:=(minI (v9.length:Int) 4)) (sz:=11) c16 (fun _=>rfl)) ?_|refine eqv_to (in_mapE (f:=Entry.row) v9 (minI (v9.length:Int) 4)) ?_);conv=>whnf)
       exact ih1 (subL v9 (minI (v9.length:Int) 4) (v9.length:Int)) (wr .i64 (v10 + 1)) (v11++[(Msg.mk 2 p1.dst p1.src p1.sid p2 (Pred.mk 0 ⟨#[]⟩ 0 0 0 ([]:List Pred)) (Know.mk (V8.mk 0 0 0 0 0 0 0 0) ([]:List Frag)) ([]:List Has) v10 [] false)]) h
      ·revert h
       refine chkk fun c17 h=>?_
       revert h
       refine chkk fun c18 h=>?_
       conv=>whnf
       repeat((first|refine dw ?_|refine bcf c14 ?_|refine eqv_to (in_map (f:=Entry.row) v9 0 (minI (v9.length:Int) 4)) ?_|refine Two.l ?_|refine bct (room_map c17 rfl rfl rfl rfl) ?_|refine eqv_to (cat_one (f:=Msg.row) v11 (Msg.mk 2 p1.dst p1.src p1.sid p2 (Pred.mk 0 ⟨#[]⟩ 0 0 0 ([]:List Pred)) (Know.mk (V8.mk 0 0 0 0 0 0 0 0) ([]:List Frag)) ([]:List Has) v10 (subL v9 0 (minI (v9.length:Int) 4)) false)) ?_|refine bct (slice_okE (f:=Entry.row) (a:=(minI (v9.length:Int) 4)) (sz:=11) c18 (fun _=>rfl)) ?_|refine eqv_to (in_mapE (f:=Entry.row) v9 (minI (v9.length:Int) 4)) ?_);conv=>whnf)
       exact ih1 (subL v9 (minI (v9.length:Int) 4) (v9.length:Int)) (wr .i64 (v10 + 1)) (v11++[(Msg.mk 2 p1.dst p1.src p1.sid p2 (Pred.mk 0 ⟨#[]⟩ 0 0 0 ([]:List Pred)) (Know.mk (V8.mk 0 0 0 0 0 0 0 0) ([]:List Frag)) ([]:List Has) v10 (subL v9 0 (minI (v9.length:Int) 4)) false)]) h
     ·conv=>whnf
      repeat((first|refine dw ?_|refine bcf c12 ?_);conv=>whnf)
      refine call_intro hX Tryz.func86 rfl rfl ?_
      revert h
      refine bndk fun y19 e20 h=>?_
      conv=>whnf
      repeat((first|refine dw ?_);conv=>whnf)
      refine contain_In_c hX e20 ?_
      conv=>whnf
      repeat((first|refine dw ?_);conv=>whnf)
      revert h
      refine brk (fun c21 h=>?_) (fun c21 h=>?_)
      ·revert h
       refine chkk fun c22 h=>?_
       conv=>whnf
       repeat((first|refine dw ?_|refine bct c21 ?_|refine bct (room_map c22 rfl rfl rfl rfl) ?_|refine eqv_to (cat_one (f:=Msg.row) v11 (Msg.mk 3 p1.dst p1.src p1.sid p2 (Pred.mk 0 ⟨#[]⟩ 0 0 0 []) (Know.mk (V8.mk 0 0 0 0 0 0 0 0) []) [] v10 [] false)) ?_);conv=>whnf)
       exact K _ h
      ·revert h
       refine bndk fun y23 e24 h=>?_
       conv=>whnf
       repeat((first|refine dw ?_|refine bcf c21 ?_);conv=>whnf)
       refine fresh_Know_c hX e24 ?_
       revert h
       refine chkk fun hs2 h=>?_
       conv=>whnf
       repeat((first|refine dw ?_|refine eqv_to (map_len _) ?_);conv=>whnf)
       refine loop_k hX [0,0,11,0,0,0,0] ?_
       conv=>whnf
       refine loop_lisx1 (fun (v25:Int) (v26:List Entry)=>pad [(1,.one (.p (.sl (y5.map Item.row)))),(2,.one (.ptr 0 0)),(2,.one (.ptr 1 0)),(0,.one (.ptr 5 0)),(17,.one (.p (.sl (p1.have_.map Has.row)))),(0,iv (p1.have_.length:Int)),(0,iv v25)] 31) (fun (v25:Int) (v26:List Entry)=>[.box (State.cs p0),.box [ic 3,ic p1.dst,ic p1.src,ic p1.sid,ic p2,ic 0,.p (.v (.string ⟨#[]⟩)),ic 0,.p (.v (.complex .f64 0 0)),.own 2,ic y23.star.x0,ic y23.star.x1,ic y23.star.x2,ic y23.star.x3,ic y23.star.x4,ic y23.star.x5,ic y23.star.x6,ic y23.star.x7,.p (.sl (y23.l.map Frag.row)),.own 3,ic v10,.own 4,.p (.v (.bool false))],.rows 0 [],.rows 0 [],.rows 11 (v26.map Entry.row),.box [ic 0,ic 0,ic 0,ic 0,ic 0,ic 0,.p (.v (.string ⟨#[]⟩)),ic 0,.p (.v (.complex .f64 0 0)),.own 6,ic 0,ic 0,ic 0,ic 0,ic 0,ic 0,ic 0,ic 0,.own 7,.own 8,ic 0,.own 9,.p (.v (.bool false))],.rows 0 [],.rows 0 [],.rows 0 [],.rows 0 []]) _ p1.have_ (fun pre2 x2e xs2 v25 v26 hl2 hi2 h ih2=>?_) (fun v25 v26 hi2 h=>?_) ([]:List Entry) h
       ·rw [serve_Answer_l2] at h
        have am2:=at_mid hl2 hi2
        refine loop_intro hX ?_
        revert h
        refine bndk fun y27 e28 h=>?_
        conv=>whnf
        repeat((first|refine dw ?_|refine bct (lt_mid hl2 hi2) ?_|refine bct (at_in am2) ?_|refine bct (andt (at_in am2) rfl) ?_|refine row_in (at_row am2) ?_|refine bct (andt (at_in (at_nat am2)) rfl) ?_|refine row_in (at_row (at_nat am2)) ?_);conv=>whnf)
        refine list_Get_c hX e28 ?_
        conv=>whnf
        repeat((first|refine dw ?_);conv=>whnf)
        revert h
        refine brk (fun c29 h=>?_) (fun c29 h=>?_)
        ·revert h
         refine bndk fun y30 e31 h=>?_
         conv=>whnf
         repeat((first|refine dw ?_|refine bct c29 ?_);conv=>whnf)
         refine know_Has_c hX e31 ?_
         conv=>whnf
         repeat((first|refine dw ?_|refine bct c29 ?_);conv=>whnf)
         revert h
         refine brk (fun c32 h=>?_) (fun c32 h=>?_)
         ·revert h
          refine bndk fun y33 e34 h=>?_
          conv=>whnf
          repeat((first|refine dw ?_|refine bct c32 ?_);conv=>whnf)
          refine serve_goes_c hX e34 ?_
          revert h
          refine chkk fun c35 h=>?_
          conv=>whnf
          repeat((first|refine dw ?_|refine bct (room_map c35 rfl rfl rfl rfl) ?_|refine eqv_to (cat_one (f:=Entry.row) v26 y33) ?_);conv=>whnf)
          exact ih2 _ (v26++[y33]) (wrL hs2 hl2 hi2) h
         ·conv=>whnf
          repeat((first|refine dw ?_|refine bcf c32 ?_);conv=>whnf)
          exact ih2 _ v26 (wrL hs2 hl2 hi2) h
        ·conv=>whnf
         repeat((first|refine dw ?_|refine bcf c29 ?_);conv=>whnf)
         exact ih2 _ v26 (wrL hs2 hl2 hi2) h
       ·rw [serve_Answer_l2] at h
        refine loop_intro hX ?_
        revert h
        refine chkk fun c36 h=>?_
        conv=>whnf
        repeat((first|refine dw ?_|refine bcf (lt_end hi2) ?_|refine bct (room_map c36 rfl rfl rfl rfl) ?_|refine eqv_to (cat_one (f:=Msg.row) v11 (Msg.mk 3 p1.dst p1.src p1.sid p2 (Pred.mk 0 ⟨#[]⟩ 0 0 0 []) y23 [] v10 v26 false)) ?_);conv=>whnf)
        exact K _ h
end
end Go.Proofs.YtidkmoohgadjkaaGreat
set_option maxHeartbeats 0
namespace Go.Proofs.YtidkmoohgadjkaaGreat
open Go E
noncomputable section
open Pred
variable {X:Task→Prop} (hX:Closed X) {Q:A→List Blk→Prop}
include hX
end
end Go.Proofs.YtidkmoohgadjkaaGreat
set_option maxHeartbeats 0
namespace Go.Proofs.YtidkmoohgadjkaaGreat
open Go E
noncomputable section
open Pred
variable {X:Task→Prop} (hX:Closed X) {Q:A→List Blk→Prop}
include hX
end
end Go.Proofs.YtidkmoohgadjkaaGreat
namespace Go.Proofs.YtidkmoohgadjkaaGreat
open Go E Pred
noncomputable section
open Classical
def Dj (a b:List Item):Prop:=∀ id,(lk a id).isSome=true→lk b id=none
theorem lk_head (x:Item) (l:List Item):lk (x::l) x.id=some x:=by rw [lk_cons,if_pos (eqS_self _)]
theorem lk_tail {x:Item} {l:List Item} {id:ByteArray} (h:(lk l id).isSome=true):(lk (x::l) id).isSome=true:=by
 rw [lk_cons]; split
 ·rfl
 ·exact h
theorem lk_tail_none {x:Item} {l:List Item} {id:ByteArray} (h:lk (x::l) id=none):lk l id=none:=by
 rw [lk_cons] at h
 split at h
 ·cases h
 ·exact h
theorem len_merge_dj:∀ (n:Nat) {a b:List Item},a.length + b.length < n→Dj a b→(mergeF n a b).length=a.length + b.length
 | 0,_,_,h,_=>by omega
 | n + 1,[],b,_,_=>by rw [mergeF]; simp
 | n + 1,x::a,[],_,_=>by rw [mergeF]; simp
 | n + 1,x::a,y::b,h,hd=>by
  rw [mergeF]
  simp only [List.length_cons] at h ⊢
  have hxy:x.id≠y.id:=fun e=>by
   have:=hd x.id (by rw [lk_head]; rfl)
   rw [e,lk_head] at this; cases this
  split
  ·rw [List.length_cons,len_merge_dj n (by simp only [List.length_cons]; omega) fun id hi=>hd id (lk_tail hi)]; simp only [List.length_cons]; omega
  ·split
   ·rw [List.length_cons,len_merge_dj n (by simp only [List.length_cons]; omega) fun id hi=>lk_tail_none (hd id hi)]; simp only [List.length_cons]; omega
   ·rename_i h1 h2
    simp only [Bool.not_eq_true] at h1 h2
    exact absurd (ltS_tri h1 h2) hxy
theorem len_both_dj {a b:List Item} (h:Dj a b):(bothV a b).length=a.length + b.length:=len_merge_dj _ (by omega) h
def disjB (a b:List Item):Bool:=b.all fun y=>(lk a y.id).isNone
theorem disjB_iff {a b:List Item}:disjB a b=true↔Dj a b:=by
 unfold disjB
 rw [List.all_eq_true]
 constructor
 ·intro h id hi
  cases hb:lk b id with
  | none=>rfl
  | some y =>
   obtain ⟨hy,rfl⟩:=lk_some hb
   have:=h y hy
   rw [Option.isNone_iff_eq_none] at this
   rw [this] at hi; cases hi
 ·intro h y hy
  rw [Option.isNone_iff_eq_none]
  cases ha:lk a y.id with
  | none=>rfl
  | some x =>
   have:=h y.id (by rw [ha]; rfl)
   exact absurd (lk_none.1 this y hy) (by rw [eqS_self]; simp)
def stoodB (s:State) (l:List Item) (b:Bool):Bool:=l.all fun i=>(hasP s.f i == b)&&(hasK s.k i.id i.vr i.vc&&leI i.stamp s.clock)
def beyondB (k:Know) (r n:Int):Bool:=ltI n (k.star.at r) || k.l.any fun f=>ltI n (f.vec.at r)
def numsB (x:State):Bool:=inN x.r 1 8&&(decide (x.store.length + x.out.length≤40)&&(inN x.count 0 1000&&(inN x.clock 0 1000000&&inN x.epoch 0 1000000)))
def mayS (x:State):Bool:=mayP x.f&&(mayListB x.store&&(mayListB x.out&&(mayK x.k&&(numsB x&&(disjB x.store x.out&&(stoodB x x.store true&&(stoodB x x.out false&&!beyondB x.k x.r x.count)))))))
structure StB (x:State):Prop where
 f:x.f.Ok
 fs:x.f.size≤1000
 store:∀ i∈x.store,i.Ok
 out:∀ i∈x.out,i.Ok
 sl:x.store.length≤1000
 ol:x.out.length≤1000
 k:KT x.k 90000
 ids:IdsOk x.k
theorem StOk.b {x:State} (h:StOk x) (hk:KB x.k 60):StB x:=⟨h.f,h.fs,h.store,h.out,by have:=h.sl; omega,by have:=h.ol; omega,hk.kt.mono (by decide),h.ids⟩
theorem brec_neq (a b:Bool):(@Bool.rec (fun _=>Bool) b (!b) a)=!(a == b):=by cases a<;>cases b<;>rfl
theorem rstood_l {x:State} (h:StB x) (b:Bool):∀ l:List Item,(∀ i∈l,i.Ok)→ref09_stood_l1 x b l=some (stoodB x l b)
 | [],_=>by rw [ref09_stood_l1]; rfl
 | i::l,hl=>by
  have ih:=rstood_l h b l fun j hj=>hl j (List.mem_cons_of_mem _ hj)
  rw [ref09_stood_l1,bnd_of (has3_s h.f (hl i (List.mem_cons_self ..))),bnd_of (hasK_s (by decide) h.k.kb),ih,brec_neq]
  unfold stoodB
  rw [List.all_cons]
  have e:ltI x.clock i.stamp=!leI i.stamp x.clock:=by
   cases h1:leI i.stamp x.clock with
   | true=>rw [leI_t] at h1; exact ltI_f.2 h1
   | false=>rw [leI_f] at h1; exact ltI_t.2 h1
  rw [e]
  generalize (hasP x.f i == b)=p
  generalize hasK x.k i.id _ _=q
  generalize leI i.stamp x.clock=r
  cases p<;>cases q<;>cases r<;>rfl
theorem rstood_s {x:State} (h:StB x) (b:Bool) {l:List Item} (hl:∀ i∈l,i.Ok) (hn:l.length≤1000):ref09_stood_s x l b=some (stoodB x l b):=by
 unfold ref09_stood_s; rw [chk_t (smallL_of (by omega)),rstood_l h b l hl]
theorem rbeyond_l (r n:Int):∀ l:List Frag,ref09_Beyond_l1 r n l=some (l.any fun f=>ltI n (f.vec.at r))
 | []=>by rw [ref09_Beyond_l1]; rfl
 | f::l=>by
  rw [ref09_Beyond_l1,bnd_of (show ref06_Count_s f.vec r=some (f.vec.at r) from rfl),rbeyond_l r n l,List.any_cons]
  cases ltI n (f.vec.at r)<;>rfl
theorem rbeyond_s {k:Know} {N:Nat} (h:KT k N) (hN:N≤1000000000) (r n:Int):ref09_Beyond_s k r n=some (beyondB k r n):=by
 unfold ref09_Beyond_s beyondB
 rw [bnd_of (show ref06_Count_s k.star r=some (k.star.at r) from rfl),chk_t (smallL_of (by have:=h.l; omega)),rbeyond_l]
 cases ltI n (k.star.at r)<;>rfl
theorem ltle (a b:Int):leI a b=!ltI b a:=by
 cases h:ltI b a with
 | true=>rw [ltI_t] at h; exact leI_f.2 h
 | false=>rw [ltI_f] at h; exact leI_t.2 h
end
end Go.Proofs.YtidkmoohgadjkaaGreat
namespace Go.Proofs.YtidkmoohgadjkaaGreat
open Go E Pred
noncomputable section
open Classical
theorem getI_snd (id:ByteArray) (l:List Item):(getI id l).2=(lk l id).isSome:=by
 rw [getI_lk]; cases lk l id<;>rfl
theorem rmay_l {x:State} (h:StB x):∀ l:List Item,ref09_May_l1 x l=some (l.all (fun y=>(lk x.store y.id).isNone)&&(stoodB x x.store true&&(stoodB x x.out false&&!beyondB x.k x.r x.count)))
 | []=>by
  rw [ref09_May_l1,bnd_of (rstood_s h true h.store h.sl),bnd_of (rstood_s h false h.out h.ol),bnd_of (rbeyond_s h.k (by decide) x.r x.count)]
  cases stoodB x x.store true<;>cases stoodB x x.out false<;>rfl
 | y::l=>by
  rw [ref09_May_l1,bnd_of (get_s (by have:=h.sl; omega)),getI_snd,rmay_l h l,List.all_cons]
  cases lk x.store y.id<;>rfl
theorem ltn (a b:Int):ltI a b=!leI b a:=by
 rw [ltle b a,Bool.not_not]
theorem rmay_s {x:State} (h:StB x):ref09_May_s x=some (mayS x):=by
 have hs:=h.sl
 have ho:=h.ol
 unfold ref09_May_s
 rw [bnd_of (may3_s h.f h.fs),bnd_of (mayList_s (by omega) h.store),bnd_of (mayList_s (by omega) h.out),bnd_of (rmayK_t h.k (by decide) h.ids),chk_t (smallL_of (by omega)),rmay_l h]
 have e:ltI 40 (wr .i64 ((x.store.length:Int) + (x.out.length:Int)))=!decide (x.store.length + x.out.length≤40):=by
  rw [wr64 (by omega) (by omega)]
  by_cases hl:x.store.length + x.out.length≤40
  ·rw [decide_eq_true hl]; exact ltI_f.2 (by omega)
  ·rw [decide_eq_false hl]; exact ltI_t.2 (by omega)
 rw [e]
 unfold mayS numsB inN disjB
 simp only [ltn]
 generalize mayP x.f=b1
 generalize mayListB x.store=b2
 generalize mayListB x.out=b3
 generalize mayK x.k=b4
 generalize leI 1 x.r=c1
 generalize leI x.r 8=c2
 generalize decide (x.store.length + x.out.length≤40)=c3
 generalize leI 0 x.count=c4
 generalize leI x.count 1000=c5
 generalize leI 0 x.clock=c6
 generalize leI x.clock 1000000=c7
 generalize leI 0 x.epoch=c8
 generalize leI x.epoch 1000000=c9
 cases b1 with
 | false=>rfl
 | true=>cases b2 with
  | false=>rfl
  | true=>cases b3 with
   | false=>rfl
   | true=>cases b4 with
    | false=>rfl
    | true=>cases c1 with
     | false=>rfl
     | true=>cases c2 with
      | false=>rfl
      | true=>cases c3 with
       | false=>rfl
       | true=>cases c4 with
        | false=>rfl
        | true=>cases c5 with
         | false=>rfl
         | true=>cases c6 with
          | false=>rfl
          | true=>cases c7 with
           | false=>rfl
           | true=>cases c8 with
            | false=>rfl
            | true=>cases c9 with
             | false=>rfl
             | true=>rfl
theorem pmay_s {p:Pred} (h:p.Ok):pred_May_s p=some (mayP p):=by unfold pred_May_s; rw [chk_t (decide_eq_true h)]
structure SOk (x:State) (N:Nat):Prop where
 f:x.f.Ok
 fs:x.f.size≤1000
 rs:Ris x.store
 ro:Ris x.out
 le:x.store.length + x.out.length≤40
 dj:Dj x.store x.out
 is:∀ i∈x.store,i.Ok∧mayI i=true
 io:∀ i∈x.out,i.Ok∧mayI i=true
 kt:KT x.k N
 ids:IdsOk x.k
 cn:0≤x.count∧x.count≤1000
 cl:0≤x.clock∧x.clock≤1000000
 ep:0≤x.epoch∧x.epoch≤1000000
theorem inN_iff {n a b:Int}:inN n a b=true↔a≤n∧n≤b:=by unfold inN; rw [Bool.and_eq_true,leI_t,leI_t]
theorem mayS_iff {x:State}:mayS x=true↔mayP x.f=true∧mayListB x.store=true∧mayListB x.out=true∧mayK x.k=true∧(1≤x.r∧x.r≤8)∧x.store.length + x.out.length≤40∧(0≤x.count∧x.count≤1000)∧(0≤x.clock∧x.clock≤1000000)∧(0≤x.epoch∧x.epoch≤1000000)∧Dj x.store x.out∧stoodB x x.store true=true∧stoodB x x.out false=true∧beyondB x.k x.r x.count=false:=by
 unfold mayS numsB
 simp only [Bool.and_eq_true,inN_iff,decide_eq_true_eq,disjB_iff,Bool.not_eq_true']
 constructor
 ·rintro ⟨a,b,c,d,⟨e,f,g,h,i⟩,j,k,l,m⟩; exact ⟨a,b,c,d,e,f,g,h,i,j,k,l,m⟩
 ·rintro ⟨a,b,c,d,e,f,g,h,i,j,k,l,m⟩; exact ⟨a,b,c,d,⟨e,f,g,h,i⟩,j,k,l,m⟩
theorem may_sok {x:State} {N:Nat} (h:mayS x=true) (hf:x.f.Ok) (hs:∀ i∈x.store,i.Ok) (ho:∀ i∈x.out,i.Ok) (hk:KT x.k N) (hi:IdsOk x.k):SOk x N:=by
 obtain ⟨a,b,c,d,e,f,g,h,i,j,k,l,m⟩:=mayS_iff.1 h
 have hsz:=(mayP_iff.1 a).1
 exact ⟨hf,by omega,may_ris b,may_ris c,f,j,fun y hy=>⟨hs y hy,may_all b y hy⟩,fun y hy=>⟨ho y hy,may_all c y hy⟩,hk,hi,g,h,i⟩
theorem SOk.mono {x:State} {N M:Nat} (h:SOk x N) (hm:N≤M):SOk x M:={ h with kt:=h.kt.mono hm }
end
end Go.Proofs.YtidkmoohgadjkaaGreat
set_option maxHeartbeats 0
namespace Go.Proofs.YtidkmoohgadjkaaGreat
open Go E
noncomputable section
open Pred
variable {X:Task→Prop} (hX:Closed X) {Q:A→List Blk→Prop}
include hX
end
end Go.Proofs.YtidkmoohgadjkaaGreat
namespace Go.Proofs.YtidkmoohgadjkaaGreat
open Go E Pred
noncomputable section
open Classical
theorem imay_s {x:Item} (h:x.Ok):item_May_s x=some (mayI x):=by unfold item_May_s; rw [chk_t (decide_eq_true h)]
theorem both_len {x:State} {N:Nat} (h:SOk x N):(bothV x.store x.out).length=x.store.length + x.out.length:=len_both_dj h.dj
end
end Go.Proofs.YtidkmoohgadjkaaGreat
namespace Go.Proofs.YtidkmoohgadjkaaGreat
open Go E Pred
noncomputable section
open Classical
def newS (r:Int) (f:Pred):State:=⟨r,f,[],[],⟨zero8,[]⟩,0,0,0⟩
section
variable {s:State} {id kind:ByteArray} {num:Int} {re im:Nat} {N:Nat} (h:SOk s N) (hN:N≤90000) (hr:1≤s.r∧s.r≤8) (h1:id.size≤9223372036854775807)
include h hN hr h1
end
end
end Go.Proofs.YtidkmoohgadjkaaGreat
set_option maxHeartbeats 0
namespace Go.Proofs.YtidkmoohgadjkaaGreat
open Go E
noncomputable section
open Pred
def law00_Entries_l1:List Line→(List Entry)→Option ((List Entry))
  | [],v2 =>
  some v2
  | x1e::xs1,v2 =>
  (bnd (law00_Item_s x1e.item) fun y3 =>
   (chk (roomL v2.length 1)
    (law00_Entries_l1 xs1  (v2++[(Entry.mk y3 x1e.goes x1e.r x1e.c)]))))
def law00_Entries_s (p0:List Line):Option ((List Entry)) :=
 (chk (smallL p0)
   ((law00_Entries_l1) p0 ([]:List Entry)))
def law00_Msg_s (p0:Note):Option (Msg) :=
 (bnd (law00_Pred_s p0.f) fun y1 =>
  (bnd (law00_Entries_s p0.l) fun y3 =>
   some (Msg.mk p0.kind p0.src p0.dst p0.sid p0.turn y1 p0.k p0.have_ p0.n y3 p0.star)))
def law00_Short_s (p0:Note):Option (Int) :=
 (br (ltI 60 (p0.have_.length:Int))
  (some 0)
  (br (ltI 60 (p0.l.length:Int))
   (some 0)
   (bnd (law00_Small_s p0.f) fun y3 =>
    (bnd (law00_Known_s p0.k) fun y5 =>
     some (wr .i64 (y3 * y5))))))
variable {X:Task→Prop} (hX:Closed X) {Q:A→List Blk→Prop}
include hX
theorem law00_Entries_c  {p0:List Line} {r:(List Entry)} (h:law00_Entries_s p0=some r) (hQ:Q (.one (.p (.sl (r.map Entry.row)))) []):X (.call 70 [.one (.p (.sl (p0.map Line.row)))] [] Q):=by
  unfold law00_Entries_s at h
  refine call_nz hX ?_
  conv=>whnf
  refine call_intro hX Tryz.func70 rfl rfl ?_
  revert h
  refine chkk fun hs1 h=>?_
  conv=>whnf
  repeat((first|refine dw ?_);conv=>whnf)
  refine loop_k hX [11] ?_
  conv=>whnf
  refine loop_lisx1 (fun (v1:Int) (v2:List Entry)=>pad [(0,.one (.p (.sl (p0.map Line.row)))),(2,.one (.own 0)),(0,iv v1)] 33) (fun (v1:Int) (v2:List Entry)=>[.rows 11 (v2.map Entry.row)]) _ p0 (fun pre1 x1e xs1 v1 v2 hl1 hi1 h ih1=>?_) (fun v1 v2 hi1 h=>?_) ([]:List Entry) h
  ·rw [law00_Entries_l1] at h
   have am1:=at_mid hl1 hi1
   refine loop_intro hX ?_
   revert h
   refine bndk fun y3 e4 h=>?_
   conv=>whnf
   repeat((first|refine dw ?_|refine eqv_to (map_len _) ?_|refine bct (lt_mid hl1 hi1) ?_|refine bct (at_in am1) ?_|refine bct (andt (at_in am1) rfl) ?_|refine row_in (at_row am1) ?_|refine bct (andt (at_in (at_nat am1)) rfl) ?_|refine row_in (at_row (at_nat am1)) ?_);conv=>whnf)
   refine law00_Item_c hX e4 ?_
   revert h
   refine chkk fun c5 h=>?_
   conv=>whnf
   repeat((first|refine dw ?_|refine bct (at_in am1) ?_|refine bct (andt (at_in am1) rfl) ?_|refine row_in (at_row am1) ?_|refine bct (andt (at_in (at_nat am1)) rfl) ?_|refine row_in (at_row (at_nat am1)) ?_|refine bct (room_map c5 rfl rfl rfl rfl) ?_|refine eqv_to (cat_one (f:=Entry.row) v2 (Entry.mk y3 x1e.goes x1e.r x1e.c)) ?_);conv=>whnf)
   exact ih1 _ (v2++[(Entry.mk y3 x1e.goes x1e.r x1e.c)]) (wrL hs1 hl1 hi1) h
  ·rw [law00_Entries_l1] at h
   refine loop_intro hX ?_
   conv=>whnf
   repeat((first|refine dw ?_|refine eqv_to (map_len _) ?_|refine bcf (lt_end hi1) ?_);conv=>whnf)
   exact ret_some (f:=fun y=>.one (.p (.sl (y.map Entry.row)))) (g:=fun y=>[]) h hQ
theorem law00_Msg_c  {p0:Note} {r:Msg} (h:law00_Msg_s p0=some r) (hQ:Q (.agg (Msg.cs r)) []):X (.call 18 [.agg [ic p0.kind,ic p0.src,ic p0.dst,ic p0.sid,ic p0.turn,ic p0.f.op,.p (.v (.string p0.f.text)),ic p0.f.n,.p (.v (.float .f64 p0.f.re)),.p (.v (.float .f64 p0.f.im)),.p (.sl (Pred.lrows p0.f.kids)),ic p0.k.star.x0,ic p0.k.star.x1,ic p0.k.star.x2,ic p0.k.star.x3,ic p0.k.star.x4,ic p0.k.star.x5,ic p0.k.star.x6,ic p0.k.star.x7,.p (.sl (p0.k.l.map Frag.row)),.p (.sl (p0.have_.map Has.row)),ic p0.n,.p (.sl (p0.l.map Line.row)),.p (.v (.bool p0.star))]] [] Q):=by
 unfold law00_Msg_s at h
 refine call_nz hX ?_
 conv=>whnf
 refine call_intro hX Tryz.func18 rfl rfl ?_
 revert h
 refine bndk fun y1 e2 h=>?_
 conv=>whnf
 repeat((first|refine dw ?_);conv=>whnf)
 refine law00_Pred_c hX e2 ?_
 revert h
 refine bndk fun y3 e4 h=>?_
 conv=>whnf
 repeat((first|refine dw ?_);conv=>whnf)
 refine law00_Entries_c hX e4 ?_
 conv=>whnf
 repeat((first|refine dw ?_);conv=>whnf)
 exact ret_some (f:=fun y=>.agg (Msg.cs y)) (g:=fun y=>[]) h hQ
theorem law00_Short_c  {p0:Note} {r:Int} (h:law00_Short_s p0=some r) (hQ:Q (iv r) []):X (.call 17 [.agg [ic p0.kind,ic p0.src,ic p0.dst,ic p0.sid,ic p0.turn,ic p0.f.op,.p (.v (.string p0.f.text)),ic p0.f.n,.p (.v (.float .f64 p0.f.re)),.p (.v (.float .f64 p0.f.im)),.p (.sl (Pred.lrows p0.f.kids)),ic p0.k.star.x0,ic p0.k.star.x1,ic p0.k.star.x2,ic p0.k.star.x3,ic p0.k.star.x4,ic p0.k.star.x5,ic p0.k.star.x6,ic p0.k.star.x7,.p (.sl (p0.k.l.map Frag.row)),.p (.sl (p0.have_.map Has.row)),ic p0.n,.p (.sl (p0.l.map Line.row)),.p (.v (.bool p0.star))]] [] Q):=by
  have K:=fun a (e:some a=some r)=>ret_some (f:=fun y=>iv y) (g:=fun y=>[]) e hQ
  unfold law00_Short_s at h
  refine call_intro hX Tryz.func17 rfl rfl ?_
  conv=>whnf
  repeat((first|refine dw ?_|refine eqv_to (map_len _) ?_);conv=>whnf)
  revert h
  refine brk (fun c1 h=>?_) (fun c1 h=>?_)
  ·conv=>whnf
   repeat((first|refine dw ?_|refine bct c1 ?_);conv=>whnf)
   exact K _ h
  ·conv=>whnf
   repeat((first|refine dw ?_|refine bcf c1 ?_|refine eqv_to (map_len _) ?_);conv=>whnf)
   revert h
   refine brk (fun c2 h=>?_) (fun c2 h=>?_)
   ·conv=>whnf
    repeat((first|refine dw ?_|refine bct c2 ?_);conv=>whnf)
    exact K _ h
   ·revert h
    refine bndk fun y3 e4 h=>?_
    conv=>whnf
    repeat((first|refine dw ?_|refine bcf c2 ?_);conv=>whnf)
    refine law00_Small_c hX e4 ?_
    revert h
    refine bndk fun y5 e6 h=>?_
    conv=>whnf
    repeat((first|refine dw ?_);conv=>whnf)
    refine law00_Known_c hX e6 ?_
    conv=>whnf
    repeat((first|refine dw ?_);conv=>whnf)
    exact K _ h
end
end Go.Proofs.YtidkmoohgadjkaaGreat
set_option maxHeartbeats 0
namespace Go.Proofs.YtidkmoohgadjkaaGreat
open Go E
noncomputable section
open Pred
variable {X:Task→Prop} (hX:Closed X) {Q:A→List Blk→Prop}
include hX
end
end Go.Proofs.YtidkmoohgadjkaaGreat
namespace Go.Proofs.YtidkmoohgadjkaaGreat
open Go E Pred
noncomputable section
open Classical
def know0:Know:=⟨zero8,[]⟩
theorem both_ok {s:State} {N:Nat} (h:SOk s N):∀ i∈bothV s.store s.out,i.Ok∧mayI i=true:=fun i hi=>(mem_both hi).elim (h.is i) (h.io i)
theorem kt0:KT know0 0:=⟨Nat.le_refl _,Nat.le_refl _⟩
theorem ids0:IdsOk know0:=fun f hf=>by cases hf
structure Deed9.Ok (d:Deed9):Prop where
 id:d.id.size≤9223372036854775807
 kind:d.kind.size≤9223372036854775807
 num : -9223372036854775808≤d.num∧d.num≤9223372036854775807
 f:d.f.Ok
end
end Go.Proofs.YtidkmoohgadjkaaGreat
namespace Go.Proofs.YtidkmoohgadjkaaGreat
open Go E Pred
noncomputable section
open Classical
def star1:Pred:=.mk 1 ⟨#[]⟩ 0 0 0 []
theorem star_ok:star1.Ok:=by
 unfold star1 Pred.Ok
 exact ⟨by decide,by decide,by decide,by decide,by unfold Pred.Oks; trivial⟩
theorem star_size:star1.size≤1000:=by unfold star1; rw [mk_size,sizes_nil]; decide
theorem sok_new {r:Int} {f:Pred} (hf:f.Ok) (hs:f.size≤1000):SOk (newS r f) 0 :=
 ⟨hf,hs,.nil,.nil,by show 0 + 0≤40; decide,fun id h=>rfl,fun i hi=>(by cases hi),fun i hi=>(by cases hi),kt0,ids0,by show (0:Int)≤0∧(0:Int)≤1000; decide,by show (0:Int)≤0∧(0:Int)≤1000000; decide,by show (0:Int)≤0∧(0:Int)≤1000000; decide⟩
theorem mul01 {a b:Int} (ha:a=0∨a=1) (hb:b=0∨b=1):eqI (wr .i64 (a * b)) 0=true∨(a=1∧b=1):=by
 rcases ha with rfl | rfl
 ·left; rw [Int.zero_mul]; rfl
 ·rcases hb with rfl | rfl
  ·left; rfl
  ·exact .inr ⟨rfl,rfl⟩
end
end Go.Proofs.YtidkmoohgadjkaaGreat
set_option maxHeartbeats 0
namespace Go.Proofs.YtidkmoohgadjkaaGreat
open Go E
noncomputable section
open Pred
variable {X:Task→Prop} (hX:Closed X) {Q:A→List Blk→Prop}
include hX
end
end Go.Proofs.YtidkmoohgadjkaaGreat
namespace Go.Proofs.YtidkmoohgadjkaaGreat
open Go E Pred
noncomputable section
open Classical
structure Deed10.Ok (d:Deed10):Prop where
 x:d.x.Ok
 d:d.d.Ok
end
end Go.Proofs.YtidkmoohgadjkaaGreat
namespace Go.Proofs.YtidkmoohgadjkaaGreat
open Go E Pred
noncomputable section
open Classical
structure VBd (v:V8) (b:Int→Int):Prop where
 lo:∀ q,0≤v.at q
 hi:∀ q,v.at q≤b q
structure KBd (k:Know) (b:Int→Int):Prop where
 s:VBd k.star b
 v:∀ f∈k.l,VBd f.vec b
 i:∀ f∈k.l, ∀ x∈f.ids,lettersB x 1=true
theorem KBd.nn {k:Know} {b:Int→Int} (h:KBd k b) (q:Int):0≤b q:=by have:=h.s.lo q; have:=h.s.hi q; omega
theorem KBd.mono {k:Know} {b d:Int→Int} (h:KBd k b) (hb:∀ q,b q≤d q):KBd k d :=
 ⟨⟨h.s.lo,fun q=>Int.le_trans (h.s.hi q) (hb q)⟩,fun f hf=>⟨(h.v f hf).lo,fun q=>Int.le_trans ((h.v f hf).hi q) (hb q)⟩,h.i⟩
def bq (r n:Int) (q:Int):Int:=if q=r then n else 1000
theorem mayV_at {v:V8}:mayV v=true↔∀ q,0≤v.at q∧v.at q≤1000:=by
 unfold mayV
 rw [decide_eq_true_eq]
 constructor
 ·intro h q
  rcases r8 q with h' | rfl | rfl | rfl | rfl | rfl | rfl | rfl | rfl
  ·have e:v.at q=0:=by unfold V8.at; repeat (rw [if_neg (by omega)])
   rw [e]; exact ⟨by omega,by omega⟩
  ·exact h.1
  ·exact h.2.1
  ·exact h.2.2.1
  ·exact h.2.2.2.1
  ·exact h.2.2.2.2.1
  ·exact h.2.2.2.2.2.1
  ·exact h.2.2.2.2.2.2.1
  ·exact h.2.2.2.2.2.2.2
 ·intro h
  exact ⟨h 1,h 2,h 3,h 4,h 5,h 6,h 7,h 8⟩
theorem of_kbd {k:Know} {r n:Int} (hn:n≤1000) (hp:plainK k=k) (h:KBd k (bq r n)):mayK k=true∧beyondB k r n=false:=by
 have key:∀ v:V8,VBd v (bq r n)→mayV v=true∧v.at r≤n:=fun v hv=>by
  constructor
  ·refine mayV_at.2 fun q=>⟨hv.lo q,?_⟩
   have:=hv.hi q
   unfold bq at this
   split at this<;>omega
  ·have:=hv.hi r
   unfold bq at this
   rwa [if_pos rfl] at this
 constructor
 ·refine mayK_iff.2 ⟨hp,(key _ h.s).1,fun f hf=>?_⟩
  unfold mayF
  rw [(key _ (h.v f hf)).1,Bool.true_and]
  exact List.all_eq_true.2 fun x hx=>h.i f hf x hx
 ·unfold beyondB
  rw [Bool.or_eq_false_iff,ltI_f,List.any_eq_false]
  refine ⟨by have:=(key _ h.s).2; omega,fun f hf=>?_⟩
  rw [ltI_t]
  have:=(key _ (h.v f hf)).2
  omega
def StI (x:State) (b:Bool) (i:Item):Prop:=hasP x.f i=b∧hasK x.k i.id i.vr i.vc=true∧i.stamp≤x.clock
theorem stood_iff {x:State} {l:List Item} {b:Bool}:stoodB x l b=true↔∀ i∈l,StI x b i:=by
 unfold stoodB
 rw [List.all_eq_true]
 constructor
 ·intro h i hi
  have:=h i hi
  rw [Bool.and_eq_true,Bool.and_eq_true,leI_t,beq_iff_eq] at this
  exact this
 ·intro h i hi
  obtain ⟨h1,h2,h3⟩:=h i hi
  rw [Bool.and_eq_true,Bool.and_eq_true,leI_t,beq_iff_eq]
  exact ⟨h1,h2,h3⟩
structure MOk (x:State) (N:Nat):Prop where
 ok:SOk x N
 p:mayP x.f=true
 r:1≤x.r∧x.r≤8
 pl:plainK x.k=x.k
 kb:KBd x.k (bq x.r x.count)
 i:∀ y∈x.store,StI x true y
 o:∀ y∈x.out,StI x false y
theorem MOk.may {x:State} {N:Nat} (h:MOk x N):mayS x=true:=by
 have hk:=of_kbd h.ok.cn.2 h.pl h.kb
 exact mayS_iff.2 ⟨h.p,may_of h.ok.rs fun y hy=>(h.ok.is y hy).2,may_of h.ok.ro fun y hy=>(h.ok.io y hy).2,hk.1,h.r,h.ok.le,h.ok.cn,h.ok.cl,h.ok.ep,h.ok.dj,stood_iff.2 h.i,stood_iff.2 h.o,hk.2⟩
theorem MOk.mono {x:State} {N M:Nat} (h:MOk x N) (hm:N≤M):MOk x M:=⟨h.ok.mono hm,h.p,h.r,h.pl,h.kb,h.i,h.o⟩
end
end Go.Proofs.YtidkmoohgadjkaaGreat
set_option maxHeartbeats 0
namespace Go.Proofs.YtidkmoohgadjkaaGreat
open Go E
noncomputable section
open Pred
variable {X:Task→Prop} (hX:Closed X) {Q:A→List Blk→Prop}
include hX
end
end Go.Proofs.YtidkmoohgadjkaaGreat
namespace Go.Proofs.YtidkmoohgadjkaaGreat
open Go E Pred
noncomputable section
open Classical
def hasI (h:Has):Item:=⟨h.id,h.vr,h.vc,h.stamp,⟨#[]⟩,0,0,0,false⟩
structure Has.Ok (x:Has):Prop where
 id:x.id.size≤9223372036854775807
 vr : -9223372036854775808≤x.vr∧x.vr≤9223372036854775807
 vc : -9223372036854775808≤x.vc∧x.vc≤9223372036854775807
 stamp : -9223372036854775808≤x.stamp∧x.stamp≤9223372036854775807
theorem hasI_ok {h:Has} (ok:h.Ok):(hasI h).Ok:=⟨ok.id,by show (0:Nat)≤_; decide,ok.vr,ok.vc,ok.stamp,by show _≤(0:Int)∧(0:Int)≤_; decide⟩
def haveG:Option Has→List Has→Bool
 | _,[]=>true
 | none,x::xs=>mayI (hasI x)&&haveG (some x) xs
 | some p,x::xs=>mayI (hasI x)&&(ltS p.id x.id&&haveG (some x) xs)
def haveB (l:List Has):Bool:=haveG none l&&decide (l.length≤40)
theorem wr_pred {n:Nat} (h:n≤1000000):wr .i64 (((n + 1:Nat):Int) - 1)=(n:Int):=by rw [wr64 (by omega) (by omega)]; omega
theorem shave_l {L:List Has} (hn:L.length≤1000):∀ (xs pre:List Has) (o:Option Has),L=pre++xs→(o=none∧pre=[]∨∃ pre' p,pre=pre'++[p]∧o=some p)→(∀ h∈xs,h.Ok)→serve_have_l1 L xs (pre.length:Int)=some (haveG o xs&&decide (L.length≤40))
 | [],pre,o,_,_,_=>by
  rw [serve_have_l1]
  have e:leI (L.length:Int) 40=decide (L.length≤40):=by
   by_cases h:L.length≤40
   ·rw [decide_eq_true h]; exact leI_t.2 (by omega)
   ·rw [decide_eq_false h]; exact leI_f.2 (by omega)
  rw [e]; cases o<;>rfl
 | x::xs,pre,o,h,ho,hx=>by
  have ih:=shave_l hn xs (pre++[x]) (some x) (by rw [h]; simp) (.inr ⟨pre,x,rfl,rfl⟩) fun y hy=>hx y (List.mem_cons_of_mem _ hy)
  rw [List.length_append] at ih
  have ih':serve_have_l1 L xs ((pre.length:Int) + 1)=some (haveG (some x) xs&&decide (L.length≤40)):=ih
  rw [serve_have_l1,bnd_of (show serve_as_s (Has.mk x.id x.vr x.vc x.stamp)=some (hasI x) from rfl),bnd_of (imay_s (hasI_ok (hx x (List.mem_cons_self ..)))),ih']
  rcases ho with ⟨rfl,rfl⟩ | ⟨pre',p,rfl,rfl⟩
  ·rw [haveG]
   cases mayI (hasI x) with
   | false=>rfl
   | true=>rfl
  ·rw [haveG]
   cases mayI (hasI x) with
   | false=>rfl
   | true =>
    have hl:pre'.length + 1≤1000:=by rw [h] at hn; simp at hn; omega
    have ea:atL L (wr .i64 (((pre'++[p]).length:Int) - 1))=some p:=by
     rw [List.length_append,show ((pre'.length + [p].length:Nat):Int)=((pre'.length + 1:Nat):Int) from rfl,wr_pred (by omega),h,List.append_assoc]
     exact at_app pre' p ([]++x::xs)
    rw [br_f (by rfl),br_t (ltI_t.2 (by rw [List.length_append]; simp)),bnd_of ea]
    cases ltS p.id x.id<;>rfl
theorem shave_s {L:List Has} (hn:L.length≤1000) (h:∀ x∈L,x.Ok):serve_have_s L=some (haveB L):=by
 unfold serve_have_s
 rw [chk_t (smallL_of (by omega))]
 exact shave_l hn L [] none rfl (.inl ⟨rfl,rfl⟩) h
structure MsgB (m:Msg):Prop where
 f:m.f.Ok
 fs:m.f.size≤1000
 k:KT m.k 90000
 ids:IdsOk m.k
 h:∀ x∈m.have_,x.Ok
 hl:m.have_.length≤1000
 l:m.l.length≤1000
def endsB (a b:Int):Bool:=inN a 1 8&&(inN b 1 8&&!eqI a b)
def mayM (m:Msg):Bool:=eqI m.kind 1&&(eqI m.turn 0&&(eqI m.n 0&&(decide (m.l.length=0)&&(!m.star&&(endsB m.src m.dst&&(inN m.sid 0 1000000&&(mayP m.f&&(mayK m.k&&haveB m.have_))))))))
theorem smay_s {m:Msg} (h:MsgB m):serve_May_s m=some (mayM m):=by
 have e:ltI 0 (m.l.length:Int)=!decide (m.l.length=0):=by
  by_cases hl:m.l.length=0
  ·rw [decide_eq_true hl]; exact ltI_f.2 (by omega)
  ·rw [decide_eq_false hl]; exact ltI_t.2 (by omega)
 have er:∀ n:Int,serve_rep_s n=some (inN n 1 8):=fun n=>by unfold serve_rep_s inN; cases leI 1 n<;>rfl
 unfold serve_May_s mayM endsB
 rw [e,bnd_of (er m.src),bnd_of (er m.dst),bnd_of (pmay_s h.f),bnd_of (kmay_s (h.k.mono (by decide)) h.ids),bnd_of (shave_s h.hl h.h)]
 have e2:inN m.sid 0 1000000=(leI 0 m.sid&&leI m.sid 1000000):=by unfold inN; rfl
 rw [e2]
 cases eqI m.kind 1 with
 | false=>rfl
 | true=>cases eqI m.turn 0 with
  | false=>rfl
  | true=>cases eqI m.n 0 with
   | false=>rfl
   | true=>cases decide (m.l.length=0) with
    | false=>rfl
    | true=>cases m.star with
     | true=>rfl
     | false=>cases inN m.src 1 8 with
      | false=>rfl
      | true=>cases inN m.dst 1 8 with
       | false=>rfl
       | true=>cases eqI m.src m.dst with
        | true=>rfl
        | false=>cases leI 0 m.sid with
         | false=>rfl
         | true=>cases leI m.sid 1000000 with
          | false=>rfl
          | true=>cases mayP m.f with
           | false=>rfl
           | true=>cases mayK m.k<;>rfl
def goE (h:Has) (r c:Int):Entry:=⟨⟨h.id,h.vr,h.vc,0,⟨#[]⟩,0,0,0,false⟩,true,r,c⟩
def goF (all:List Item) (f:Pred) (h:Has):Option Entry:=match lk all h.id with
 | none=>none
 | some x=>if (!hasP f x&&behindB x (hasI h))=true then some (goE h x.vr x.vc) else none
def newF (k:Know) (f:Pred) (x:Item):Bool:=!hasK k x.id x.vr x.vc&&hasP f x
def newE (x:Item):Entry:=⟨x,false,0,0⟩
def entV (all:List Item) (m:Msg):List Entry:=(all.filter (newF m.k m.f)).map newE++m.have_.filterMap (goF all m.f)
def gone0 (all:List Item) (k:Know) (h:Has):Option Entry:=if ((lk all h.id).isNone&&hasK k h.id h.vr h.vc)=true then some (goE h 0 0) else none
def doneL (all:List Item) (s:State) (m:Msg):List Entry:=if inP m.f s.f=true then m.have_.filterMap (gone0 all s.k) else []
def doneM (s:State) (m:Msg) (turn n:Int):Msg:=⟨3,m.dst,m.src,m.sid,turn,.mk 0 ⟨#[]⟩ 0 0 0 [],if inP m.f s.f=true then s.k else ⟨zero8,[]⟩,[],n,doneL (bothV s.store s.out) s m,false⟩
def batM (m:Msg) (turn n:Int) (l:List Entry):Msg:=⟨2,m.dst,m.src,m.sid,turn,.mk 0 ⟨#[]⟩ 0 0 0 [],⟨zero8,[]⟩,[],n,l,false⟩
def batV (m:Msg) (turn:Int):Nat→List Entry→Int→List Msg
 | 0,_,_=>[]
 | _ + 1,[],_=>[]
 | k + 1,x::l,n=>batM m turn n ((x::l).take 4)::batV m turn k ((x::l).drop 4) (n + 1)
def answerV (s:State) (m:Msg) (turn:Int):List Msg :=
 if (mayM m&&eqI m.dst s.r)=true then
  let b:=batV m turn ((entV (bothV s.store s.out) m).length + 1) (entV (bothV s.store s.out) m) 0
  b++[doneM s m turn (b.length:Int)]
 else []
end
end Go.Proofs.YtidkmoohgadjkaaGreat
namespace Go.Proofs.YtidkmoohgadjkaaGreat
open Go E Pred
noncomputable section
open Classical
theorem sub_take' {α:Type} (l:List α) (n:Nat):subL l 0 (n:Int)=l.take n:=by unfold subL; simp
theorem sub_drop' {α:Type} (l:List α) (n:Nat):subL l (n:Int) (l.length:Int)=l.drop n:=by unfold subL; simp
theorem min4 (n:Nat):minI (n:Int) 4=((min n 4:Nat):Int):=by unfold minI; split<;>omega
theorem filterMap_cons' {α β:Type} (f:α→Option β) (x:α) (l:List α):(x::l).filterMap f=(match f x with | none=>l.filterMap f | some y=>y::l.filterMap f):=by rw [List.filterMap_cons]; cases f x<;>rfl
theorem len_fm {α β:Type} (f:α→Option β) (l:List α):(l.filterMap f).length≤l.length:=List.length_filterMap_le ..
theorem goF_n {all:List Item} {f:Pred} {h:Has} (e:lk all h.id=none):goF all f h=none:=by unfold goF; rw [e]
theorem goF_s {all:List Item} {f:Pred} {h:Has} {x:Item} (e:lk all h.id=some x):goF all f h=if (!hasP f x&&behindB x (hasI h))=true then some (goE h x.vr x.vc) else none:=by unfold goF; rw [e]
structure AllB (all:List Item):Prop where
 r:Ris all
 l:all.length≤1000
 i:∀ i∈all,i.Ok∧mayI i=true
theorem sent_l2 {all:List Item} {m:Msg} (ha:AllB all) (hm:MsgB m):∀ (xs:List Has) (acc:List Entry),acc.length + xs.length≤900000→serve_entries_l2 all m xs acc=some (acc++xs.filterMap (goF all m.f))
 | [],acc,_=>by rw [serve_entries_l2]; simp
 | h::xs,acc,hn=>by
  rw [List.length_cons] at hn
  have ih:=fun a (e:List.length a≤acc.length + 1)=>sent_l2 ha hm xs a (by omega)
  have hal:=ha.l
  rw [serve_entries_l2,bnd_of (lget_s ha.r (by omega)),filterMap_cons']
  cases hg:lk all h.id with
  | none =>
   rw [getI_f hg,goF_n hg,br_f (by rfl),ih acc (by omega)]
  | some x =>
   rw [getI_t hg,goF_s hg,br_t (by rfl),bnd_of (has_s hm.f (ha.i x (lk_some hg).1).1),bnd_of (show serve_as_s (Has.mk h.id h.vr h.vc h.stamp)=some (hasI h) from rfl),bnd_of (show item_Compare_s x (hasI h)=some (compareV x (hasI h)) from rfl),cmp_pos,
    bnd_of (show serve_goes_s (Has.mk h.id h.vr h.vc h.stamp) (Ver.mk x.vr x.vc)=some (goE h x.vr x.vc) from rfl),chk_t (roomL_of (by omega)),ih (acc++[_]) (by simp),ih acc (by omega)]
   cases hasP m.f x with
   | true=>rfl
   | false=>cases behindB x (hasI h) with
    | false=>rfl
    | true=>simp [br]
theorem sent_l1 {all:List Item} {m:Msg} (ha:AllB all) (hm:MsgB m):∀ (xs:List Item) (acc:List Entry),acc.length + xs.length≤800000→(∀ i∈xs,i.Ok)→serve_entries_l1 all m xs acc=some (acc++((xs.filter (newF m.k m.f)).map newE++m.have_.filterMap (goF all m.f)))
 | [],acc,hn,_=>by
  have:=hm.hl
  rw [List.length_nil] at hn
  rw [serve_entries_l1,chk_t (smallL_of (by omega)),sent_l2 ha hm _ _ (by omega)]; rfl
 | x::xs,acc,hn,hx=>by
  rw [List.length_cons] at hn
  have ih:=fun a (e:List.length a≤acc.length + 1)=>sent_l1 ha hm xs a (by omega) fun y hy=>hx y (List.mem_cons_of_mem _ hy)
  rw [serve_entries_l1,bnd_of (khas_s (N:=90000) (by decide) hm.k.kb),bnd_of (has_s hm.f (hx x (List.mem_cons_self ..))),chk_t (roomL_of (by omega)),ih (acc++[_]) (by simp),ih acc (by omega),List.filter_cons]
  have e:newF m.k m.f x=(!hasK m.k x.id x.vr x.vc&&hasP m.f x):=rfl
  rw [e,show (Ver.mk x.vr x.vc).r=x.vr from rfl,show (Ver.mk x.vr x.vc).c=x.vc from rfl]
  cases hasK m.k x.id x.vr x.vc with
  | true=>rfl
  | false=>cases hasP m.f x with
   | false=>rfl
   | true=>simp [br,newE]
theorem sent_s {all:List Item} {m:Msg} (ha:AllB all) (hm:MsgB m):serve_entries_s all m=some (entV all m):=by
 have:=ha.l
 unfold serve_entries_s
 rw [chk_t (smallL_of (by omega)),sent_l1 ha hm all [] (by simp; omega) fun i hi=>(ha.i i hi).1]; rfl
theorem ent_len (all:List Item) (m:Msg):(entV all m).length≤all.length + m.have_.length:=by
 unfold entV
 rw [List.length_append,List.length_map]
 have:=List.length_filter_le (newF m.k m.f) all
 have:=len_fm (goF all m.f) m.have_
 omega
theorem bat_len (m:Msg) (turn:Int):∀ (k:Nat) (l:List Entry) (n:Int),(batV m turn k l n).length≤l.length
 | 0,_,_=>Nat.zero_le _
 | k + 1,[],_=>Nat.zero_le _
 | k + 1,x::l,n=>by
  rw [batV,List.length_cons,List.length_cons]
  have:=bat_len m turn k ((x::l).drop 4) (n + 1)
  rw [List.length_drop,List.length_cons] at this
  omega
theorem gone_l2 {s:State} {m:Msg} {turn v10:Int} {v11:List Msg} {k0:Know} {all:List Item} (hk:KT s.k 90000) (ha:AllB all) (hv:v11.length≤900000):∀ (xs:List Has) (acc:List Entry),acc.length + xs.length≤900000 →
  serve_Answer_l2 s m turn all v10 v11 k0 xs acc=some (v11++[⟨3,m.dst,m.src,m.sid,turn,.mk 0 ⟨#[]⟩ 0 0 0 [],k0,[],v10,acc++xs.filterMap (gone0 all s.k),false⟩])
 | [],acc,_=>by rw [serve_Answer_l2,chk_t (roomL_of (by omega))]; simp
 | h::xs,acc,hn=>by
  rw [List.length_cons] at hn
  have ih:=fun a (e:List.length a≤acc.length + 1)=>gone_l2 (turn:=turn) (v10:=v10) (k0:=k0) (m:=m) hk ha hv xs a (by omega)
  have hal:=ha.l
  rw [serve_Answer_l2,bnd_of (lget_s ha.r (by omega)),bnd_of (khas_s (N:=90000) (by decide) hk.kb),bnd_of (show serve_goes_s (Has.mk h.id h.vr h.vc h.stamp) (Ver.mk 0 0)=some (goE h 0 0) from rfl),chk_t (roomL_of (by omega)),ih (acc++[_]) (by simp),ih acc (by omega),filterMap_cons']
  have e:gone0 all s.k h=if ((lk all h.id).isNone&&hasK s.k h.id h.vr h.vc)=true then some (goE h 0 0) else none:=rfl
  rw [e,getI_snd,show (Ver.mk h.vr h.vc).r=h.vr from rfl,show (Ver.mk h.vr h.vc).c=h.vc from rfl]
  cases lk all h.id with
  | some y=>rfl
  | none=>cases hasK s.k h.id h.vr h.vc with
   | false=>rfl
   | true=>simp [br]
theorem sans_l1 {s:State} {m:Msg} {turn:Int} {N:Nat} (h:SOk s N) (hN:N≤90000) (hm:MsgB m):∀ (fl k:Nat) (l:List Entry) (n:Int) (acc:List Msg),l.length < fl→l.length < k→acc.length + l.length≤900000→0≤n∧n + (l.length:Int)≤1000000 →
  serve_Answer_l1 s m turn (bothV s.store s.out) fl l n acc=some (acc++(batV m turn k l n++[doneM s m turn (n + ((batV m turn k l n).length:Int))]))
 | 0,_,_,_,_,h0,_,_,_=>by omega
 | _,0,_,_,_,_,h0,_,_=>by omega
 | fl + 1,k + 1,[],n,acc,_,_,hn,hc=>by
  rw [List.length_nil] at hn
  have hm2:=hm.hl
  have hal:AllB (bothV s.store s.out):=⟨ris_both h.rs h.ro,by have:=both_len h; have:=h.le; omega,both_ok h⟩
  rw [serve_Answer_l1,br_f (by rfl),bnd_of (show contain_In_s m.f s.f=some (inP m.f s.f) by unfold contain_In_s; rw [chk_t (decide_eq_true hm.f),chk_t (decide_eq_true h.f)]),bnd_of (fresh_know_t h.kt (by omega)),chk_t (smallL_of (by omega)),chk_t (roomL_of (by omega)),gone_l2 (h.kt.mono hN) hal (by omega) _ _ (by simp; omega),batV]
  unfold doneM doneL
  rw [show ((([]:List Msg).length:Nat):Int)=0 from rfl,Int.add_zero]
  cases inP m.f s.f<;>rfl
 | fl + 1,k + 1,x::l,n,acc,hf,hk,hn,hc=>by
  have e4:min (x::l).length 4=min (l.length + 1) 4:=rfl
  have hd:((x::l).drop 4).length=(x::l).length - 4:=List.length_drop
  have h1:1≤(x::l).length:=by simp
  have ih:=sans_l1 (turn:=turn) h hN hm fl k ((x::l).drop 4) (n + 1) (acc++[batM m turn n ((x::l).take 4)]) (by rw [hd]; omega) (by rw [hd]; omega) (by rw [hd,List.length_append]; simp only [List.length_cons,List.length_nil] at hn h1 ⊢; omega) (by rw [hd]; omega)
  have etake:(x::l).take (min (x::l).length 4)=(x::l).take 4:=by
   by_cases h4:4≤(x::l).length
   ·rw [Nat.min_eq_right h4]
   ·rw [Nat.min_eq_left (by omega),List.take_of_length_le (by omega),List.take_of_length_le (by omega)]
  have edrop:(x::l).drop (min (x::l).length 4)=(x::l).drop 4:=by
   by_cases h4:4≤(x::l).length
   ·rw [Nat.min_eq_right h4]
   ·rw [Nat.min_eq_left (by omega),List.drop_eq_nil_of_le (by omega),List.drop_eq_nil_of_le (by omega)]
  have hmin:0 < min (x::l).length 4:=by omega
  rw [serve_Answer_l1,min4,sub_take',sub_drop',etake,edrop,br_t (ltI_t.2 (by omega)),chk_t (by simp only [Bool.and_eq_true,leI_t]; omega),br_f (eqI_f.2 (by omega)),chk_t (roomL_of (by omega)),chk_t (by simp only [Bool.and_eq_true,leI_t]; omega),wr64 (by omega) (by omega)]
  refine ih.trans ?_
  rw [show batV m turn (k + 1) (x::l) n=batM m turn n ((x::l).take 4)::batV m turn k ((x::l).drop 4) (n + 1) from rfl]
  rw [List.length_cons,List.append_assoc]
  have en:n + 1 + ((batV m turn k ((x::l).drop 4) (n + 1)).length:Int)=n + (((batV m turn k ((x::l).drop 4) (n + 1)).length + 1:Nat):Int):=by omega
  rw [en]; rfl
theorem serve_s {s:State} {m:Msg} {turn:Int} {N:Nat} (h:SOk s N) (hN:N≤90000) (hm:MsgB m):serve_Answer_s s m turn=some (answerV s m turn):=by
 have hl:=h.le
 have hal:AllB (bothV s.store s.out):=⟨ris_both h.rs h.ro,by have:=both_len h; omega,both_ok h⟩
 have hen:=ent_len (bothV s.store s.out) m
 have hhl:=hm.hl
 have hal2:=hal.l
 unfold serve_Answer_s answerV
 rw [bnd_of (smay_s hm),bnd_of (lboth_s (by omega)),bnd_of (sent_s hal hm),sans_l1 h hN hm fuelN ((entV (bothV s.store s.out) m).length + 1) (entV (bothV s.store s.out) m) 0 [] (by unfold fuelN; omega) (by omega) (by simp; omega) (by omega)]
 cases mayM m with
 | false=>rfl
 | true=>cases eqI m.dst s.r with
  | false=>rfl
  | true=>simp only [Int.zero_add]; rfl
end
end Go.Proofs.YtidkmoohgadjkaaGreat
namespace Go.Proofs.YtidkmoohgadjkaaGreat
open Go E Pred
noncomputable section
open Classical
end
end Go.Proofs.YtidkmoohgadjkaaGreat
namespace Go.Proofs.YtidkmoohgadjkaaGreat
open Go E Pred
noncomputable section
open Classical
end
end Go.Proofs.YtidkmoohgadjkaaGreat
namespace Go.Proofs.YtidkmoohgadjkaaGreat
open Go E Pred
noncomputable section
open Classical
end
end Go.Proofs.YtidkmoohgadjkaaGreat
