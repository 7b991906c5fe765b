/- What the statements hand in. Written by decomp.py. Layers 9 and 11. Written by decomp.py. The document's filters made plain. Written by decomp.py. Filters made plain (layer 4): the document's answer, out of what its code computes. What is known (layers 6, 7), the document's functions: their answers, out of what their code computes. What is known (layers 6, 7), the document's functions: made plain, alike, may be, with a version, joined. Lists of items (layer 8), the document's functions: their answers, out of what their code computes. The statements of layer 4, walked. The statements of layer 4, walked. Written by decomp.py. The statements of layer 5, walked. Filters made plain (layer 4): they have the same items, and stay when made plain again. The statement EvalPlain, out of what its code computes. Layers 8, 9, 11: items, states, sessions: what the code computes, as answers. Lists of items as arguments of laws. What is known, and versions, as arguments of laws. States as arguments of laws. slices.Sorted(maps.Keys(m)), m a map of the call's own whose keys are texts: contracts, laid out of the kit's library. Layer 8, the program's. Written by decomp.py. Layer 7, the program's. Written by decomp.py. Layer 7, the program's. Written by decomp.py. Layer 7, the program's. Written by decomp.py. Layer 7, the program's. Written by decomp.py. Texts in their order; rising items. What is known (layer 7), the program's functions: their answers, out of what their code computes. What is kno -/
import Derived.Test.YtidkmoohgadjkaaGreatMD
import Derived.Shelf.SlIter.Nil
import Derived.Shelf.SortM.Plain
import Derived.Shelf.SortM.SortNone
import Derived.Ground.GgzProg
import Derived.Ground.SlgmProg
import Derived.Sort.Walk0
import Derived.Test.YtidkmoohgadjkaaGreatMC
set_option linter.unusedVariables false
set_option linter.unusedSimpArgs false
set_option maxRecDepth 100000
set_option maxHeartbeats 0
namespace Go.Proofs.YtidkmoohgadjkaaGreat
open Go E
noncomputable section
open Pred
def law00_Items_l1:List Item→(List Item)→Option ((List Item))
  | [],v2 =>
  some v2
  | x1e::xs1,v2 =>
  (bnd (law00_Item_s x1e) fun y3 =>
   (chk (roomL v2.length 1)
    (law00_Items_l1 xs1  (v2++[y3]))))
def law00_Items_s (p0:List Item):Option ((List Item)) :=
 (chk (smallL p0)
   ((law00_Items_l1) p0 ([]:List Item)))
def law00_Known_l1:List Frag→Option (Int)
  | [] =>
  some 1
  | x1e::xs1 =>
  (br (ltI 60 (x1e.ids.length:Int))
   (some 0)
   (law00_Known_l1 xs1  ))
def law00_Known_s (p0:Know):Option (Int) :=
 (br (ltI 30 (p0.l.length:Int))
  (some 0)
  (chk (smallL p0.l)
    ((law00_Known_l1) p0.l )))
def law00_Fits_s (p0:Sit):Option (Int) :=
 (br (ltI 60 (p0.store.length:Int))
  (some 0)
  (br (ltI 60 (p0.out.length:Int))
   (some 0)
   (bnd (law00_Small_s p0.f) fun y3 =>
    (bnd (law00_Known_s p0.k) fun y5 =>
     some (wr .i64 (y3 * y5))))))
def law00_State_s (p0:Sit):Option (State) :=
 (bnd (law00_Pred_s p0.f) fun y1 =>
  (bnd (law00_Items_s p0.store) fun y3 =>
   (bnd (law00_Items_s p0.out) fun y5 =>
    some (State.mk p0.r y1 y3 y5 p0.k p0.count p0.clock p0.epoch))))
variable {X:Task→Prop} (hX:Closed X) {Q:A→List Blk→Prop}
include hX
theorem law00_Items_c  {p0:List Item} {r:(List Item)} (h:law00_Items_s p0=some r) (hQ:Q (.one (.p (.sl (r.map Item.row)))) []):X (.call 80 [.one (.p (.sl (p0.map Item.lrow)))] [] Q):=by
  unfold law00_Items_s at h
  refine call_nz hX ?_
  conv=>whnf
  refine call_intro hX Tryz.func80 rfl rfl ?_
  revert h
  refine chkk fun hs1 h=>?_
  conv=>whnf
  repeat((first|refine dw ?_);conv=>whnf)
  refine loop_k hX [8] ?_
  conv=>whnf
  refine loop_lisx1 (fun (v1:Int) (v2:List Item)=>pad [(0,.one (.p (.sl (p0.map Item.lrow)))),(2,.one (.own 0)),(0,iv v1)] 15) (fun (v1:Int) (v2:List Item)=>[.rows 8 (v2.map Item.row)]) _ p0 (fun pre1 x1e xs1 v1 v2 hl1 hi1 h ih1=>?_) (fun v1 v2 hi1 h=>?_) ([]:List Item) h
  ·rw [law00_Items_l1] at h
   have am1:=at_mid hl1 hi1
   refine loop_intro hX ?_
   revert h
   refine bndk fun y3 e4 h=>?_
   conv=>whnf
   repeat((first|refine dw ?_|refine eqv_to (map_len _) ?_|refine bct (lt_mid hl1 hi1) ?_|refine bct (at_in am1) ?_|refine bct (andt (at_in am1) rfl) ?_|refine row_in (at_row am1) ?_|refine bct (andt (at_in (at_nat am1)) rfl) ?_|refine row_in (at_row (at_nat am1)) ?_);conv=>whnf)
   refine law00_Item_c hX e4 ?_
   revert h
   refine chkk fun c5 h=>?_
   conv=>whnf
   repeat((first|refine dw ?_|refine bct (room_map c5 rfl rfl rfl rfl) ?_|refine eqv_to (cat_one (f:=Item.row) v2 y3) ?_);conv=>whnf)
   exact ih1 _ (v2++[y3]) (wrL hs1 hl1 hi1) h
  ·rw [law00_Items_l1] at h
   refine loop_intro hX ?_
   conv=>whnf
   repeat((first|refine dw ?_|refine eqv_to (map_len _) ?_|refine bcf (lt_end hi1) ?_);conv=>whnf)
   exact ret_some (f:=fun y=>.one (.p (.sl (y.map Item.row)))) (g:=fun y=>[]) h hQ
theorem law00_Known_c  {p0:Know} {r:Int} (h:law00_Known_s p0=some r) (hQ:Q (iv r) []):X (.call 54 [.agg (Know.cs p0)] [] Q):=by
  have K:=fun a (e:some a=some r)=>ret_some (f:=fun y=>iv y) (g:=fun y=>[]) e hQ
  unfold law00_Known_s at h
  refine call_intro hX Tryz.func54 rfl rfl ?_
  conv=>whnf
  repeat((first|refine dw ?_|refine eqv_to (map_len _) ?_);conv=>whnf)
  revert h
  refine brk (fun c1 h=>?_) (fun c1 h=>?_)
  ·conv=>whnf
   repeat((first|refine dw ?_|refine bct c1 ?_);conv=>whnf)
   exact K _ h
  ·revert h
   refine chkk fun hs1 h=>?_
   conv=>whnf
   repeat((first|refine dw ?_|refine bcf c1 ?_);conv=>whnf)
   refine loop_lisx0 (fun (v2:Int)=>pad [(1,.one (.ptr 0 0)),(1,iv v2)] 19) (fun (v2:Int)=>[.box (Know.cs p0)]) _ p0.l (fun pre1 x1e xs1 v2  hl1 hi1 h ih1=>?_) (fun v2  hi1 h=>?_)  h
   ·rw [law00_Known_l1] at h
    have am1:=at_mid hl1 hi1
    refine loop_intro hX ?_
    conv=>whnf
    repeat((first|refine dw ?_|refine eqv_to (map_len _) ?_|refine bct (lt_mid hl1 hi1) ?_|refine bct (at_in am1) ?_|refine bct (andt (at_in am1) rfl) ?_|refine row_in (at_row am1) ?_|refine bct (andt (at_in (at_nat am1)) rfl) ?_|refine row_in (at_row (at_nat am1)) ?_);conv=>whnf)
    revert h
    refine brk (fun c3 h=>?_) (fun c3 h=>?_)
    ·conv=>whnf
     repeat((first|refine dw ?_|refine bct c3 ?_);conv=>whnf)
     exact K _ h
    ·conv=>whnf
     repeat((first|refine dw ?_|refine bcf c3 ?_);conv=>whnf)
     exact ih1 _  (wrL hs1 hl1 hi1) h
   ·rw [law00_Known_l1] at h
    refine loop_intro hX ?_
    conv=>whnf
    repeat((first|refine dw ?_|refine eqv_to (map_len _) ?_|refine bcf (lt_end hi1) ?_);conv=>whnf)
    exact K _ h
theorem law00_Fits_c  {p0:Sit} {r:Int} (h:law00_Fits_s p0=some r) (hQ:Q (iv r) []):X (.call 16 [.agg [ic p0.r,ic p0.f.op,.p (.v (.string p0.f.text)),ic p0.f.n,.p (.v (.float .f64 p0.f.re)),.p (.v (.float .f64 p0.f.im)),.p (.sl (Pred.lrows p0.f.kids)),.p (.sl (p0.store.map Item.lrow)),.p (.sl (p0.out.map Item.lrow)),ic p0.k.star.x0,ic p0.k.star.x1,ic p0.k.star.x2,ic p0.k.star.x3,ic p0.k.star.x4,ic p0.k.star.x5,ic p0.k.star.x6,ic p0.k.star.x7,.p (.sl (p0.k.l.map Frag.row)),ic p0.count,ic p0.clock,ic p0.epoch]] [] Q):=by
  have K:=fun a (e:some a=some r)=>ret_some (f:=fun y=>iv y) (g:=fun y=>[]) e hQ
  unfold law00_Fits_s at h
  refine call_intro hX Tryz.func16 rfl rfl ?_
  conv=>whnf
  repeat((first|refine dw ?_|refine eqv_to (map_len _) ?_);conv=>whnf)
  revert h
  refine brk (fun c1 h=>?_) (fun c1 h=>?_)
  ·conv=>whnf
   repeat((first|refine dw ?_|refine bct c1 ?_);conv=>whnf)
   exact K _ h
  ·conv=>whnf
   repeat((first|refine dw ?_|refine bcf c1 ?_|refine eqv_to (map_len _) ?_);conv=>whnf)
   revert h
   refine brk (fun c2 h=>?_) (fun c2 h=>?_)
   ·conv=>whnf
    repeat((first|refine dw ?_|refine bct c2 ?_);conv=>whnf)
    exact K _ h
   ·revert h
    refine bndk fun y3 e4 h=>?_
    conv=>whnf
    repeat((first|refine dw ?_|refine bcf c2 ?_);conv=>whnf)
    refine law00_Small_c hX e4 ?_
    revert h
    refine bndk fun y5 e6 h=>?_
    conv=>whnf
    repeat((first|refine dw ?_);conv=>whnf)
    refine law00_Known_c hX e6 ?_
    conv=>whnf
    repeat((first|refine dw ?_);conv=>whnf)
    exact K _ h
theorem law00_State_c  {p0:Sit} {r:State} (h:law00_State_s p0=some r) (hQ:Q (.agg (State.cs r)) []):X (.call 21 [.agg [ic p0.r,ic p0.f.op,.p (.v (.string p0.f.text)),ic p0.f.n,.p (.v (.float .f64 p0.f.re)),.p (.v (.float .f64 p0.f.im)),.p (.sl (Pred.lrows p0.f.kids)),.p (.sl (p0.store.map Item.lrow)),.p (.sl (p0.out.map Item.lrow)),ic p0.k.star.x0,ic p0.k.star.x1,ic p0.k.star.x2,ic p0.k.star.x3,ic p0.k.star.x4,ic p0.k.star.x5,ic p0.k.star.x6,ic p0.k.star.x7,.p (.sl (p0.k.l.map Frag.row)),ic p0.count,ic p0.clock,ic p0.epoch]] [] Q):=by
 unfold law00_State_s at h
 refine call_nz hX ?_
 conv=>whnf
 refine call_intro hX Tryz.func21 rfl rfl ?_
 revert h
 refine bndk fun y1 e2 h=>?_
 conv=>whnf
 repeat((first|refine dw ?_);conv=>whnf)
 refine law00_Pred_c hX e2 ?_
 revert h
 refine bndk fun y3 e4 h=>?_
 conv=>whnf
 repeat((first|refine dw ?_);conv=>whnf)
 refine law00_Items_c hX e4 ?_
 revert h
 refine bndk fun y5 e6 h=>?_
 conv=>whnf
 repeat((first|refine dw ?_);conv=>whnf)
 refine law00_Items_c hX e6 ?_
 conv=>whnf
 repeat((first|refine dw ?_);conv=>whnf)
 exact ret_some (f:=fun y=>.agg (State.cs y)) (g:=fun y=>[]) h hQ
end
end Go.Proofs.YtidkmoohgadjkaaGreat
set_option maxHeartbeats 0
namespace Go.Proofs.YtidkmoohgadjkaaGreat
open Go E
noncomputable section
open Pred
def ref09_stood_l1 (p0:State) (p2:Bool):List Item→Option (Bool)
  | [] =>
  some true
  | x1e::xs1 =>
  (bnd (ref03_Has_s p0.f x1e) fun y2 =>
   (bnd (ref06_Has_s p0.k x1e.id (Ver.mk x1e.vr x1e.vc)) fun y4 =>
    (br (@Bool.rec (fun _=>Bool) p2 (!p2) y2)
     (some false)
     (br (!y4)
      (some false)
      (br (ltI p0.clock x1e.stamp)
       (some false)
       (ref09_stood_l1 p0 p2 xs1  ))))))
def ref09_stood_s (p0:State) (p1:List Item) (p2:Bool):Option (Bool) :=
 (chk (smallL p1)
   ((ref09_stood_l1 p0 p2) p1 ))
def ref09_Beyond_l1 (p1:Int) (p2:Int):List Frag→Option (Bool)
  | [] =>
  some false
  | x1e::xs1 =>
  (bnd (ref06_Count_s x1e.vec p1) fun y5 =>
   (br (ltI p2 y5)
    (some true)
    (ref09_Beyond_l1 p1 p2 xs1  )))
def ref09_Beyond_s (p0:Know) (p1:Int) (p2:Int):Option (Bool) :=
 (bnd (ref06_Count_s p0.star p1) fun y1 =>
  (br (ltI p2 y1)
   (some true)
   (chk (smallL p0.l)
     ((ref09_Beyond_l1 p1 p2) p0.l ))))
def ref09_May_l1 (p0:State):List Item→Option (Bool)
  | [] =>
  (bnd (ref09_stood_s p0 p0.store true) fun y26 =>
   (bnd (ref09_stood_s p0 p0.out false) fun y28 =>
    (bnd (ref09_Beyond_s p0.k p0.r p0.count) fun y30 =>
     (br y26
      (br y28
       (some (!y30))
       (some false))
      (some false)))))
  | x1e::xs1 =>
  (bnd (ref06_Get_s p0.store x1e.id) fun y23 =>
   (br y23.2
    (some false)
    (ref09_May_l1 p0 xs1  )))
def ref09_May_s (p0:State):Option (Bool) :=
 (bnd (ref03_May_s p0.f) fun y1 =>
  (bnd (ref06_MayList_s p0.store) fun y3 =>
   (bnd (ref06_MayList_s p0.out) fun y5 =>
    (bnd (ref06_May_s p0.k) fun y7 =>
     (br (!y1)
      (some false)
      (br (!y3)
       (some false)
       (br (!y5)
        (some false)
        (br (!y7)
         (some false)
         (br (ltI p0.r 1)
          (some false)
          (br (ltI 8 p0.r)
           (some false)
           (br (ltI 40 (wr .i64 ((p0.store.length:Int) + (p0.out.length:Int))))
            (some false)
            (br (ltI p0.count 0)
             (some false)
             (br (ltI 1000 p0.count)
              (some false)
              (br (ltI p0.clock 0)
               (some false)
               (br (ltI 1000000 p0.clock)
                (some false)
                (br (ltI p0.epoch 0)
                 (some false)
                 (br (ltI 1000000 p0.epoch)
                  (some false)
                  (chk (smallL p0.out)
                    ((ref09_May_l1 p0) p0.out )))))))))))))))))))
def fresh_Pred_l1 (p0:Pred) (rc:Pred→Option Pred):List Pred→(List Pred)→Option (Pred)
  | [],v2 =>
  some (Pred.mk p0.op p0.text p0.n p0.re p0.im v2)
  | x1e::xs1,v2 =>
  (bnd (rc x1e) fun y3 =>
   (chk (roomL v2.length 1)
    (fresh_Pred_l1 p0 rc xs1  (v2++[y3]))))
def fresh_Pred_b (rc:Pred→Option Pred) (p0:Pred):Option (Pred) :=
 (chk (smallL p0.kids)
   ((fresh_Pred_l1 p0 rc) p0.kids ([]:List Pred)))
def fresh_Pred_s:Nat→Pred→Option Pred
 | 0=>fun _=>none
 | n + 1=>fresh_Pred_b (fresh_Pred_s n)
def fresh_Know_l1 (p0:Know):List Frag→(List Frag)→Option (Know)
  | [],v2 =>
  some (Know.mk p0.star v2)
  | x1e::xs1,v2 =>
  (bnd (clone_s x1e.ids) fun y3 =>
   (chk (roomL v2.length 1)
    (fresh_Know_l1 p0 xs1  (v2++[(Frag.mk y3 x1e.vec)]))))
def fresh_Know_s (p0:Know):Option (Know) :=
 (chk (smallL p0.l)
   ((fresh_Know_l1 p0) p0.l ([]:List Frag)))
variable {X:Task→Prop} (hX:Closed X) {Q:A→List Blk→Prop}
include hX
theorem ref09_stood_c  {p0:State} {p1:List Item} {p2:Bool} {r:Bool} (h:ref09_stood_s p0 p1 p2=some r) (hQ:Q (.one (.p (.v (.bool r)))) []):X (.call 82 [.agg (State.cs p0),.one (.p (.sl (p1.map Item.row))),.one (.p (.v (.bool p2)))] [] Q):=by
  have K:=fun a (e:some a=some r)=>ret_some (f:=fun y=>.one (.p (.v (.bool y)))) (g:=fun y=>[]) e hQ
  unfold ref09_stood_s at h
  refine call_intro hX Tryz.func82 rfl rfl ?_
  revert h
  refine chkk fun hs1 h=>?_
  conv=>whnf
  repeat((first|refine dw ?_);conv=>whnf)
  refine loop_lisx0 (fun (v1:Int)=>pad [(1,.one (.p (.sl (p1.map Item.row)))),(0,.one (.p (.v (.bool p2)))),(0,.one (.ptr 0 0)),(3,iv v1)] 45) (fun (v1:Int)=>[.box (State.cs p0)]) _ p1 (fun pre1 x1e xs1 v1  hl1 hi1 h ih1=>?_) (fun v1  hi1 h=>?_)  h
  ·rw [ref09_stood_l1] at h
   have am1:=at_mid hl1 hi1
   refine loop_intro hX ?_
   revert h
   refine bndk fun y2 e3 h=>?_
   conv=>whnf
   repeat((first|refine dw ?_|refine eqv_to (map_len _) ?_|refine bct (lt_mid hl1 hi1) ?_|refine bct (at_in am1) ?_|refine bct (andt (at_in am1) rfl) ?_|refine row_in (at_row am1) ?_|refine bct (andt (at_in (at_nat am1)) rfl) ?_|refine row_in (at_row (at_nat am1)) ?_);conv=>whnf)
   refine ref03_Has_c hX e3 ?_
   revert h
   refine bndk fun y4 e5 h=>?_
   conv=>whnf
   repeat((first|refine dw ?_|refine bct (at_in am1) ?_|refine bct (andt (at_in am1) rfl) ?_|refine row_in (at_row am1) ?_|refine bct (andt (at_in (at_nat am1)) rfl) ?_|refine row_in (at_row (at_nat am1)) ?_);conv=>whnf)
   refine ref06_Has_c hX e5 ?_
   conv=>whnf
   repeat((first|refine dw ?_);conv=>whnf)
   revert h
   refine brk (fun c6 h=>?_) (fun c6 h=>?_)
   ·conv=>whnf
    repeat((first|refine dw ?_|refine bct c6 ?_);conv=>whnf)
    exact K _ h
   ·conv=>whnf
    repeat((first|refine dw ?_|refine bcf c6 ?_);conv=>whnf)
    revert h
    refine brk (fun c7 h=>?_) (fun c7 h=>?_)
    ·conv=>whnf
     repeat((first|refine dw ?_|refine bct c7 ?_);conv=>whnf)
     exact K _ h
    ·conv=>whnf
     repeat((first|refine dw ?_|refine bcf c7 ?_|refine bct (at_in am1) ?_|refine bct (andt (at_in am1) rfl) ?_|refine row_in (at_row am1) ?_|refine bct (andt (at_in (at_nat am1)) rfl) ?_|refine row_in (at_row (at_nat am1)) ?_);conv=>whnf)
     revert h
     refine brk (fun c8 h=>?_) (fun c8 h=>?_)
     ·conv=>whnf
      repeat((first|refine dw ?_|refine bct c8 ?_);conv=>whnf)
      exact K _ h
     ·conv=>whnf
      repeat((first|refine dw ?_|refine bcf c8 ?_);conv=>whnf)
      exact ih1 _  (wrL hs1 hl1 hi1) h
  ·rw [ref09_stood_l1] at h
   refine loop_intro hX ?_
   conv=>whnf
   repeat((first|refine dw ?_|refine eqv_to (map_len _) ?_|refine bcf (lt_end hi1) ?_);conv=>whnf)
   exact K _ h
theorem ref09_Beyond_c  {p0:Know} {p1:Int} {p2:Int} {r:Bool} (h:ref09_Beyond_s p0 p1 p2=some r) (hQ:Q (.one (.p (.v (.bool r)))) []):X (.call 83 [.agg (Know.cs p0),iv p1,iv p2] [] Q):=by
  have K:=fun a (e:some a=some r)=>ret_some (f:=fun y=>.one (.p (.v (.bool y)))) (g:=fun y=>[]) e hQ
  unfold ref09_Beyond_s at h
  refine call_intro hX Tryz.func83 rfl rfl ?_
  revert h
  refine bndk fun y1 e2 h=>?_
  conv=>whnf
  repeat((first|refine dw ?_);conv=>whnf)
  refine ref06_Count_c hX e2 ?_
  conv=>whnf
  repeat((first|refine dw ?_);conv=>whnf)
  revert h
  refine brk (fun c3 h=>?_) (fun c3 h=>?_)
  ·conv=>whnf
   repeat((first|refine dw ?_|refine bct c3 ?_);conv=>whnf)
   exact K _ h
  ·revert h
   refine chkk fun hs1 h=>?_
   conv=>whnf
   repeat((first|refine dw ?_|refine bcf c3 ?_);conv=>whnf)
   refine loop_lisx0 (fun (v4:Int)=>pad [(1,iv p1),(0,iv p2),(0,.one (.ptr 0 0)),(3,iv v4)] 23) (fun (v4:Int)=>[.box (Know.cs p0)]) _ p0.l (fun pre1 x1e xs1 v4  hl1 hi1 h ih1=>?_) (fun v4  hi1 h=>?_)  h
   ·rw [ref09_Beyond_l1] at h
    have am1:=at_mid hl1 hi1
    refine loop_intro hX ?_
    revert h
    refine bndk fun y5 e6 h=>?_
    conv=>whnf
    repeat((first|refine dw ?_|refine eqv_to (map_len _) ?_|refine bct (lt_mid hl1 hi1) ?_|refine bct (at_in am1) ?_|refine bct (andt (at_in am1) rfl) ?_|refine row_in (at_row am1) ?_|refine bct (andt (at_in (at_nat am1)) rfl) ?_|refine row_in (at_row (at_nat am1)) ?_);conv=>whnf)
    refine ref06_Count_c hX e6 ?_
    conv=>whnf
    repeat((first|refine dw ?_);conv=>whnf)
    revert h
    refine brk (fun c7 h=>?_) (fun c7 h=>?_)
    ·conv=>whnf
     repeat((first|refine dw ?_|refine bct c7 ?_);conv=>whnf)
     exact K _ h
    ·conv=>whnf
     repeat((first|refine dw ?_|refine bcf c7 ?_);conv=>whnf)
     exact ih1 _  (wrL hs1 hl1 hi1) h
   ·rw [ref09_Beyond_l1] at h
    refine loop_intro hX ?_
    conv=>whnf
    repeat((first|refine dw ?_|refine eqv_to (map_len _) ?_|refine bcf (lt_end hi1) ?_);conv=>whnf)
    exact K _ h
theorem ref09_May_c  {p0:State} {r:Bool} (h:ref09_May_s p0=some r) (hQ:Q (.one (.p (.v (.bool r)))) []):X (.call 22 [.agg (State.cs p0)] [] Q):=by
  have K:=fun a (e:some a=some r)=>ret_some (f:=fun y=>.one (.p (.v (.bool y)))) (g:=fun y=>[]) e hQ
  unfold ref09_May_s at h
  refine call_intro hX Tryz.func22 rfl rfl ?_
  revert h
  refine bndk fun y1 e2 h=>?_
  conv=>whnf
  repeat((first|refine dw ?_);conv=>whnf)
  refine ref03_May_c hX e2 ?_
  revert h
  refine bndk fun y3 e4 h=>?_
  conv=>whnf
  repeat((first|refine dw ?_);conv=>whnf)
  refine ref06_MayList_c hX e4 ?_
  revert h
  refine bndk fun y5 e6 h=>?_
  conv=>whnf
  repeat((first|refine dw ?_);conv=>whnf)
  refine ref06_MayList_c hX e6 ?_
  revert h
  refine bndk fun y7 e8 h=>?_
  conv=>whnf
  repeat((first|refine dw ?_);conv=>whnf)
  refine ref06_May_c hX e8 ?_
  conv=>whnf
  repeat((first|refine dw ?_);conv=>whnf)
  revert h
  refine brk (fun c9 h=>?_) (fun c9 h=>?_)
  ·conv=>whnf
   repeat((first|refine dw ?_|refine bct c9 ?_);conv=>whnf)
   exact K _ h
  ·conv=>whnf
   repeat((first|refine dw ?_|refine bcf c9 ?_);conv=>whnf)
   revert h
   refine brk (fun c10 h=>?_) (fun c10 h=>?_)
   ·conv=>whnf
    repeat((first|refine dw ?_|refine bct c10 ?_);conv=>whnf)
    exact K _ h
   ·conv=>whnf
    repeat((first|refine dw ?_|refine bcf c10 ?_);conv=>whnf)
    revert h
    refine brk (fun c11 h=>?_) (fun c11 h=>?_)
    ·conv=>whnf
     repeat((first|refine dw ?_|refine bct c11 ?_);conv=>whnf)
     exact K _ h
    ·conv=>whnf
     repeat((first|refine dw ?_|refine bcf c11 ?_);conv=>whnf)
     revert h
     refine brk (fun c12 h=>?_) (fun c12 h=>?_)
     ·conv=>whnf
      repeat((first|refine dw ?_|refine bct c12 ?_);conv=>whnf)
      exact K _ h
     ·conv=>whnf
      repeat((first|refine dw ?_|refine bcf c12 ?_);conv=>whnf)
      revert h
      refine brk (fun c13 h=>?_) (fun c13 h=>?_)
      ·conv=>whnf
       repeat((first|refine dw ?_|refine bct c13 ?_);conv=>whnf)
       exact K _ h
      ·conv=>whnf
       repeat((first|refine dw ?_|refine bcf c13 ?_);conv=>whnf)
       revert h
       refine brk (fun c14 h=>?_) (fun c14 h=>?_)
       ·conv=>whnf
        repeat((first|refine dw ?_|refine bct c14 ?_);conv=>whnf)
        exact K _ h
       ·conv=>whnf
        repeat((first|refine dw ?_|refine bcf c14 ?_|refine eqv_to (map_len _) ?_);conv=>whnf)
        revert h
        refine brk (fun c15 h=>?_) (fun c15 h=>?_)
        ·conv=>whnf
         repeat((first|refine dw ?_|refine bct c15 ?_);conv=>whnf)
         exact K _ h
        ·conv=>whnf
         repeat((first|refine dw ?_|refine bcf c15 ?_);conv=>whnf)
         revert h
         refine brk (fun c16 h=>?_) (fun c16 h=>?_)
         ·conv=>whnf
          repeat((first|refine dw ?_|refine bct c16 ?_);conv=>whnf)
          exact K _ h
         ·conv=>whnf
          repeat((first|refine dw ?_|refine bcf c16 ?_);conv=>whnf)
          revert h
          refine brk (fun c17 h=>?_) (fun c17 h=>?_)
          ·conv=>whnf
           repeat((first|refine dw ?_|refine bct c17 ?_);conv=>whnf)
           exact K _ h
          ·conv=>whnf
           repeat((first|refine dw ?_|refine bcf c17 ?_);conv=>whnf)
           revert h
           refine brk (fun c18 h=>?_) (fun c18 h=>?_)
           ·conv=>whnf
            repeat((first|refine dw ?_|refine bct c18 ?_);conv=>whnf)
            exact K _ h
           ·conv=>whnf
            repeat((first|refine dw ?_|refine bcf c18 ?_);conv=>whnf)
            revert h
            refine brk (fun c19 h=>?_) (fun c19 h=>?_)
            ·conv=>whnf
             repeat((first|refine dw ?_|refine bct c19 ?_);conv=>whnf)
             exact K _ h
            ·conv=>whnf
             repeat((first|refine dw ?_|refine bcf c19 ?_);conv=>whnf)
             revert h
             refine brk (fun c20 h=>?_) (fun c20 h=>?_)
             ·conv=>whnf
              repeat((first|refine dw ?_|refine bct c20 ?_);conv=>whnf)
              exact K _ h
             ·conv=>whnf
              repeat((first|refine dw ?_|refine bcf c20 ?_);conv=>whnf)
              revert h
              refine brk (fun c21 h=>?_) (fun c21 h=>?_)
              ·conv=>whnf
               repeat((first|refine dw ?_|refine bct c21 ?_);conv=>whnf)
               exact K _ h
              ·revert h
               refine chkk fun hs1 h=>?_
               conv=>whnf
               repeat((first|refine dw ?_|refine bcf c21 ?_);conv=>whnf)
               refine loop_lisx0 (fun (v22:Int)=>pad [(1,.one (.ptr 0 0)),(5,iv v22)] 122) (fun (v22:Int)=>[.box (State.cs p0)]) _ p0.out (fun pre1 x1e xs1 v22  hl1 hi1 h ih1=>?_) (fun v22  hi1 h=>?_)  h
               ·rw [ref09_May_l1] at h
                have am1:=at_mid hl1 hi1
                refine loop_intro hX ?_
                revert h
                refine bndk fun y23 e24 h=>?_
                conv=>whnf
                repeat((first|refine dw ?_|refine eqv_to (map_len _) ?_|refine bct (lt_mid hl1 hi1) ?_|refine bct (at_in am1) ?_|refine bct (andt (at_in am1) rfl) ?_|refine row_in (at_row am1) ?_|refine bct (andt (at_in (at_nat am1)) rfl) ?_|refine row_in (at_row (at_nat am1)) ?_);conv=>whnf)
                refine ref06_Get_c hX e24 ?_
                conv=>whnf
                repeat((first|refine dw ?_);conv=>whnf)
                revert h
                refine brk (fun c25 h=>?_) (fun c25 h=>?_)
                ·conv=>whnf
                 repeat((first|refine dw ?_|refine bct c25 ?_);conv=>whnf)
                 exact K _ h
                ·conv=>whnf
                 repeat((first|refine dw ?_|refine bcf c25 ?_);conv=>whnf)
                 exact ih1 _  (wrL hs1 hl1 hi1) h
               ·rw [ref09_May_l1] at h
                refine loop_intro hX ?_
                revert h
                refine bndk fun y26 e27 h=>?_
                conv=>whnf
                repeat((first|refine dw ?_|refine eqv_to (map_len _) ?_|refine bcf (lt_end hi1) ?_);conv=>whnf)
                refine ref09_stood_c hX e27 ?_
                revert h
                refine bndk fun y28 e29 h=>?_
                conv=>whnf
                repeat((first|refine dw ?_);conv=>whnf)
                refine ref09_stood_c hX e29 ?_
                revert h
                refine bndk fun y30 e31 h=>?_
                conv=>whnf
                repeat((first|refine dw ?_);conv=>whnf)
                refine ref09_Beyond_c hX e31 ?_
                conv=>whnf
                repeat((first|refine dw ?_);conv=>whnf)
                revert h
                refine brk (fun c32 h=>?_) (fun c32 h=>?_)
                ·conv=>whnf
                 repeat((first|refine dw ?_|refine bct c32 ?_);conv=>whnf)
                 revert h
                 refine brk (fun c33 h=>?_) (fun c33 h=>?_)
                 ·conv=>whnf
                  repeat((first|refine dw ?_|refine bct c33 ?_);conv=>whnf)
                  exact K _ h
                 ·conv=>whnf
                  repeat((first|refine dw ?_|refine bcf c33 ?_);conv=>whnf)
                  exact K _ h
                ·conv=>whnf
                 repeat((first|refine dw ?_|refine bcf c32 ?_);conv=>whnf)
                 exact K _ h
theorem fresh_Pred_c:∀ (n:Nat) {p0:Pred} {r:Pred} {Q:A→List Blk→Prop} (h:fresh_Pred_s n p0=some r) (hQ:Q (.agg (Pred.cs r)) []),X (.call 113 [.agg (Pred.cs p0)] [] Q):=by
  intro n
  induction n with
  | zero=>intro p0 r Q h; cases h
  | succ n ih =>
    intro p0 r Q h hQ
    replace h:fresh_Pred_b (fresh_Pred_s n) p0=some r:=h
    generalize fresh_Pred_s n=rc at ih h
    unfold fresh_Pred_b at h
    refine call_nz hX ?_
    conv=>whnf
    refine call_intro hX Tryz.func113 rfl rfl ?_
    revert h
    refine chkk fun hs1 h=>?_
    conv=>whnf
    repeat((first|refine dw ?_|refine eqv_to (Pred.pmap_len _) ?_);conv=>whnf)
    refine loop_k hX [5,0] ?_
    conv=>whnf
    refine loop_lisx1 (fun (v1:Int) (v2:List Pred)=>pad [(1,.one (.ptr 0 0)),(0,.one (.ptr 2 0)),(6,.one (.p (.sl (Pred.rows p0.kids)))),(0,iv (p0.kids.length:Int)),(0,iv v1)] 12) (fun (v1:Int) (v2:List Pred)=>[.box [ic p0.op,.p (.v (.string p0.text)),ic p0.n,.p (.v (.complex .f64 p0.re p0.im)),.own 1],.rows 5 (Pred.rows v2),.box [ic 0,.p (.v (.string ⟨#[]⟩)),ic 0,.p (.v (.complex .f64 0 0)),.own 3],.rows 0 []]) _ p0.kids (fun pre1 x1e xs1 v1 v2 hl1 hi1 h ih1=>?_) (fun v1 v2 hi1 h=>?_) ([]:List Pred) h
    ·rw [fresh_Pred_l1] at h
     have am1:=at_mid hl1 hi1
     refine loop_intro hX ?_
     revert h
     refine bndk fun y3 e4 h=>?_
     conv=>whnf
     repeat((first|refine dw ?_|refine bct (lt_mid hl1 hi1) ?_|refine bct (Pred.pat_in am1) ?_|refine bct (andt (Pred.pat_in am1) rfl) ?_|refine row_in (Pred.pat_row am1) ?_|refine bct (andt (Pred.pat_in (at_nat am1)) rfl) ?_|refine row_in (Pred.pat_row (at_nat am1)) ?_);conv=>whnf)
     refine ih e4 ?_
     revert h
     refine chkk fun c5 h=>?_
     conv=>whnf
     repeat((first|refine dw ?_|refine bct (Pred.proom_map c5 rfl rfl rfl rfl) ?_|refine eqv_to (Pred.pcat_one v2 y3) ?_);conv=>whnf)
     exact ih1 _ (v2++[y3]) (wrL hs1 hl1 hi1) h
    ·rw [fresh_Pred_l1] at h
     refine loop_intro hX ?_
     conv=>whnf
     repeat((first|refine dw ?_|refine bcf (lt_end hi1) ?_);conv=>whnf)
     exact ret_some (f:=fun y=>.agg (Pred.cs y)) (g:=fun y=>[]) h hQ
theorem fresh_Know_c  {p0:Know} {r:Know} (h:fresh_Know_s p0=some r) (hQ:Q (.agg (Know.cs r)) []):X (.call 127 [.agg (Know.cs p0)] [] Q):=by
  unfold fresh_Know_s at h
  refine call_nz hX ?_
  conv=>whnf
  refine call_intro hX Tryz.func127 rfl rfl ?_
  revert h
  refine chkk fun hs1 h=>?_
  conv=>whnf
  repeat((first|refine dw ?_|refine eqv_to (map_len _) ?_);conv=>whnf)
  refine loop_nc hX ?_
  conv=>whnf
  refine loop_k hX [0,9] ?_
  conv=>whnf
  refine loop_lisx1 (fun (v1:Int) (v2:List Frag)=>pad [(2,.one (.ptr 0 0)),(0,.one (.ptr 2 0)),(6,.one (.p (.sl (p0.l.map Frag.row)))),(0,iv (p0.l.length:Int)),(0,iv v1)] 16) (fun (v1:Int) (v2:List Frag)=>[.box [ic 0,ic 0,ic 0,ic 0,ic 0,ic 0,ic 0,ic 0,.own 1],.rows 0 [],.box [ic p0.star.x0,ic p0.star.x1,ic p0.star.x2,ic p0.star.x3,ic p0.star.x4,ic p0.star.x5,ic p0.star.x6,ic p0.star.x7,.own 3],.rows 9 (v2.map Frag.row)]) _ p0.l (fun pre1 x1e xs1 v1 v2 hl1 hi1 h ih1=>?_) (fun v1 v2 hi1 h=>?_) ([]:List Frag) h
  ·rw [fresh_Know_l1] at h
   have am1:=at_mid hl1 hi1
   refine loop_intro hX ?_
   revert h
   refine bndk fun y3 e4 h=>?_
   conv=>whnf
   repeat((first|refine dw ?_|refine bct (lt_mid hl1 hi1) ?_|refine bct (at_in am1) ?_|refine bct (andt (at_in am1) rfl) ?_|refine row_in (at_row am1) ?_|refine bct (andt (at_in (at_nat am1)) rfl) ?_|refine row_in (at_row (at_nat am1)) ?_);conv=>whnf)
   refine clone_c (f:=srw) (k:=1) (fun _=>rfl) (by decide) hX e4 ?_
   revert h
   refine chkk fun c5 h=>?_
   conv=>whnf
   repeat((first|refine dw ?_|refine bct (room_map c5 rfl rfl rfl rfl) ?_|refine eqv_to (cat_one (f:=Frag.row) v2 (Frag.mk y3 x1e.vec)) ?_);conv=>whnf)
   exact ih1 _ (v2++[(Frag.mk y3 x1e.vec)]) (wrL hs1 hl1 hi1) h
  ·rw [fresh_Know_l1] at h
   refine loop_intro hX ?_
   conv=>whnf
   repeat((first|refine dw ?_|refine bcf (lt_end hi1) ?_);conv=>whnf)
   exact ret_some (f:=fun y=>.agg (Know.cs y)) (g:=fun y=>[]) h hQ
end
end Go.Proofs.YtidkmoohgadjkaaGreat
set_option maxHeartbeats 0
namespace Go.Proofs.YtidkmoohgadjkaaGreat
open Go E
noncomputable section
end
end Go.Proofs.YtidkmoohgadjkaaGreat
namespace Go.Proofs.YtidkmoohgadjkaaGreat
open Go E Pred
section
variable {α β:Type}
theorem br_if (c:Bool) (x y:Option α):br c x y=if c=true then x else y:=by cases c<;>rfl
theorem br_t {c:Bool} {x y:Option α} (h:c=true):br c x y=x:=by rw [h]; rfl
theorem br_f {c:Bool} {x y:Option α} (h:c=false):br c x y=y:=by rw [h]; rfl
theorem chk_t {c:Bool} {x:Option α} (h:c=true):chk c x=x:=by rw [h]; rfl
theorem bnd_of {x:Option α} {a:α} {f:α→Option β} (h:x=some a):bnd x f=f a:=by rw [h]; rfl
theorem roomL_of {a b:Nat} (h:a + b≤1000000):roomL a b=true:=decide_eq_true h
theorem smallL_of {l:List α} (h:l.length≤1000000000):smallL l=true:=decide_eq_true h
theorem atL_of {l:List α} {j:Nat} (h:j < l.length):atL l (j:Int)=some l[j]:=by
 unfold atL; rw [if_pos (by omega),Int.toNat_natCast,List.getElem?_eq_getElem h]
end
noncomputable section
open Classical
theorem rsame_s {p q:Pred} (h:p.Ok):ref03_Same_s p q=some (sameP p q):=by
 unfold ref03_Same_s; rw [chk_t (decide_eq_true h)]
end
end Go.Proofs.YtidkmoohgadjkaaGreat
namespace Go.Proofs.YtidkmoohgadjkaaGreat
open Go E Pred
noncomputable section
open Classical
def memB (l:List ByteArray) (x:ByteArray):Bool:=l.any fun y=>eqS y x
theorem among_l (x:ByteArray):∀ l:List ByteArray,ref06_Among_l1 x l=some (memB l x)
 | []=>by rw [ref06_Among_l1]; rfl
 | y::l=>by
  rw [ref06_Among_l1,among_l x l]
  unfold memB
  rw [List.any_cons]
  cases eqS y x<;>rfl
theorem among_s {l:List ByteArray} {x:ByteArray} (h:l.length≤1000000000):ref06_Among_s l x=some (memB l x):=by
 unfold ref06_Among_s; rw [chk_t (smallL_of h),among_l]
def hasF (f:Frag) (id:ByteArray) (r c:Int):Bool:=memB f.ids id&&hasV f.vec r c
def hasK (k:Know) (id:ByteArray) (r c:Int):Bool:=hasV k.star r c || k.l.any fun f=>hasF f id r c
structure KB (k:Know) (N:Nat):Prop where
 l:k.l.length≤N
 ids:∀ f∈k.l,f.ids.length≤N
theorem hasK_l {id:ByteArray} {v:Ver}:∀ l:List Frag,(∀ f∈l,f.ids.length≤1000000000)→ref06_Has_l1 id v l=some (l.any fun f=>hasF f id v.r v.c)
 | [],_=>by rw [ref06_Has_l1]; rfl
 | f::l,h=>by
  rw [ref06_Has_l1,bnd_of (among_s (h f (List.mem_cons_self ..))),bnd_of (show ref06_HasVec_s f.vec v=some (hasV f.vec v.r v.c) from rfl),hasK_l l fun g hg=>h g (List.mem_cons_of_mem _ hg),List.any_cons]
  unfold hasF
  cases memB f.ids id<;>cases hasV f.vec v.r v.c<;>rfl
theorem hasK_s {k:Know} {id:ByteArray} {v:Ver} {N:Nat} (hN:N≤1000000000) (h:KB k N):ref06_Has_s k id v=some (hasK k id v.r v.c):=by
 unfold ref06_Has_s hasK
 rw [bnd_of (show ref06_HasVec_s k.star v=some (hasV k.star v.r v.c) from rfl),chk_t (smallL_of (Nat.le_trans h.l hN)),hasK_l _ fun f hf=>Nat.le_trans (h.ids f hf) hN]
 cases hasV k.star v.r v.c<;>rfl
def insG (x:ByteArray):Bool→List ByteArray→List ByteArray
 | v,[]=>if v then [] else [x]
 | v,y::ys=>(if !v&&(ltS x y || eqS x y) then [x] else [])++((if eqS y x then [] else [y])++insG x (v || (ltS x y || eqS x y)) ys)
def insV (l:List ByteArray) (x:ByteArray):List ByteArray:=insG x false l
theorem insG_len (x:ByteArray):∀ (l:List ByteArray) (v:Bool),(insG x v l).length≤l.length + (if v then 0 else 1)
 | [],v=>by cases v<;>simp [insG]
 | y::ys,v=>by
  rw [insG,List.length_append,List.length_append,List.length_cons]
  generalize (ltS x y || eqS x y)=w
  have h1:=insG_len x ys true
  have h2:=insG_len x ys false
  have h3:(if eqS y x=true then ([]:List ByteArray) else [y]).length≤1:=by split<;>simp
  cases v<;>cases w<;>simp at h1 h2 ⊢ <;> omega
theorem insert_j {x y:ByteArray} {k:Bool→List ByteArray→Option (List ByteArray)} {v:Bool} {acc:List ByteArray} (h:acc.length≤999999):ref06_insert_j2 x y k v acc=k v (acc++(if eqS y x then [] else [y])):=by
 unfold ref06_insert_j2
 cases eqS y x with
 | true=>rw [br_f (by rfl)]; simp
 | false=>rw [br_t (by rfl),chk_t (roomL_of (by omega))]; rfl
theorem insert_l {x:ByteArray}:∀ (l:List ByteArray) (v:Bool) (acc:List ByteArray),acc.length + l.length + (if v then 0 else 1)≤999990→ref06_insert_l1 x l v acc=some (acc++insG x v l)
 | [],v,acc,h=>by
  rw [ref06_insert_l1,insG]
  cases v with
  | true=>simp [br]
  | false=>rw [br_t (by rfl),chk_t (roomL_of (by simp at h; omega))]; rfl
 | y::l,v,acc,h=>by
  rw [List.length_cons] at h
  have e2:∀ (v':Bool) (a:List ByteArray),a.length + l.length + (if v' then 0 else 1)≤999989→ref06_insert_l1 x l v' (a++if eqS y x=true then [] else [y])=some ((a++if eqS y x=true then [] else [y])++insG x v' l):=fun v' a ha =>
   insert_l l v' _ (by
    have h3:(if eqS y x=true then ([]:List ByteArray) else [y]).length≤1:=by split<;>simp
    rw [List.length_append]; omega)
  rw [ref06_insert_l1,insG]
  cases v with
  | true =>
   simp only [if_true] at h
   rw [br_f (by rfl),insert_j (by omega),e2 true acc (by simp; omega)]
   simp
  | false =>
   simp only [Bool.false_eq_true,if_false] at h
   rw [br_t (by rfl)]
   cases hlt:(ltS x y || eqS x y) with
   | true =>
    rw [br_t (by rfl),chk_t (roomL_of (by omega)),insert_j (by rw [List.length_append]; simp; omega),e2 true (acc++[x]) (by rw [List.length_append]; simp; omega)]
    simp
   | false =>
    rw [br_f (by rfl),insert_j (by omega),e2 false acc (by simp; omega)]
    simp
theorem insert_s {l:List ByteArray} {x:ByteArray} (h:l.length≤999980):ref06_insert_s l x=some (insV l x):=by
 unfold ref06_insert_s; rw [chk_t (smallL_of (by omega)),insert_l l false [] (by simp; omega)]; rfl
def namesG (acc:List ByteArray) (l:List Frag):List ByteArray:=l.foldl (fun a f=>f.ids.foldl insV a) acc
theorem ins_fold_len:∀ (l acc:List ByteArray),(l.foldl insV acc).length≤acc.length + l.length
 | [],acc=>Nat.le_refl _
 | x::l,acc=>by
  have h1:=ins_fold_len l (insV acc x)
  have h2:(insV acc x).length≤acc.length + 1:=insG_len x acc false
  rw [List.foldl_cons,List.length_cons]; omega
theorem names_l2 {k:List ByteArray→Option (List ByteArray)}:∀ (l acc:List ByteArray),acc.length + l.length≤999980→ref06_Names_l2 k l acc=k (l.foldl insV acc)
 | [],acc,_=>by rw [ref06_Names_l2]; rfl
 | x::l,acc,h=>by
  rw [List.length_cons] at h
  have h2:(insV acc x).length≤acc.length + 1:=insG_len x acc false
  rw [ref06_Names_l2,bnd_of (insert_s (by omega)),names_l2 l _ (by omega)]; rfl
def namesK (k:Know):List ByteArray:=namesG [] k.l
def cutI (a s:Int):Int:=if leI a s then 0 else a
def cutV (v s:V8):V8:=⟨cutI v.x0 s.x0,cutI v.x1 s.x1,cutI v.x2 s.x2,cutI v.x3 s.x3,cutI v.x4 s.x4,cutI v.x5 s.x5,cutI v.x6 s.x6,cutI v.x7 s.x7⟩
def zero8:V8:=⟨0,0,0,0,0,0,0,0⟩
def sumV (id:ByteArray) (l:List Frag) (acc:V8):V8:=l.foldl (fun a f=>if memB f.ids id then maxV a f.vec else a) acc
def beyondV (k:Know) (id:ByteArray):V8:=cutV (sumV id k.l zero8) k.star
theorem cut_br {α:Type} {a s:Int} {f:Int→Option α}:br (leI a s) (f 0) (f a)=f (cutI a s):=by
 unfold cutI; cases leI a s<;>rfl
theorem beyond_l {k:Know} {id:ByteArray}:∀ (l:List Frag) (a0 a1 a2 a3 a4 a5 a6 a7:Int),(∀ f∈l,f.ids.length≤1000000000)→ref06_beyond_l1 k id l a0 a1 a2 a3 a4 a5 a6 a7=some (cutV (sumV id l ⟨a0,a1,a2,a3,a4,a5,a6,a7⟩) k.star)
 | [],a0,a1,a2,a3,a4,a5,a6,a7,_=>by
  rw [ref06_beyond_l1,cut_br (f:=fun x=>ref06_beyond_j2 k a1 a2 a3 a4 a5 a6 a7 x)]
  unfold ref06_beyond_j2
  rw [cut_br (f:=fun x=>ref06_beyond_j3 k a2 a3 a4 a5 a6 a7 _ x)]
  unfold ref06_beyond_j3
  rw [cut_br (f:=fun x=>ref06_beyond_j4 k a3 a4 a5 a6 a7 _ _ x)]
  unfold ref06_beyond_j4
  rw [cut_br (f:=fun x=>ref06_beyond_j5 k a4 a5 a6 a7 _ _ _ x)]
  unfold ref06_beyond_j5
  rw [cut_br (f:=fun x=>ref06_beyond_j6 k a5 a6 a7 _ _ _ _ x)]
  unfold ref06_beyond_j6
  rw [cut_br (f:=fun x=>ref06_beyond_j7 k a6 a7 _ _ _ _ _ x)]
  unfold ref06_beyond_j7
  rw [cut_br (f:=fun x=>ref06_beyond_j8 k a7 _ _ _ _ _ _ x)]
  unfold ref06_beyond_j8
  rw [cut_br (f:=fun x=>ref06_beyond_j9 _ _ _ _ _ _ _ x)]
  rfl
 | f::l,a0,a1,a2,a3,a4,a5,a6,a7,h=>by
  have ih:=fun b0 b1 b2 b3 b4 b5 b6 b7=>beyond_l (k:=k) (id:=id) l b0 b1 b2 b3 b4 b5 b6 b7 fun g hg=>h g (List.mem_cons_of_mem _ hg)
  rw [ref06_beyond_l1,bnd_of (among_s (h f (List.mem_cons_self ..)))]
  unfold sumV
  rw [List.foldl_cons]
  cases memB f.ids id with
  | true=>rw [br_t (by rfl),bnd_of (show ref06_Max_s ⟨a0,a1,a2,a3,a4,a5,a6,a7⟩ f.vec=some (maxV ⟨a0,a1,a2,a3,a4,a5,a6,a7⟩ f.vec) from rfl),ih]; rfl
  | false=>rw [br_f (by rfl),ih]; rfl
theorem beyond_s {k:Know} {id:ByteArray} {N:Nat} (hN:N≤1000000000) (h:KB k N):ref06_beyond_s k id=some (beyondV k id):=by
 unfold ref06_beyond_s
 rw [chk_t (smallL_of (Nat.le_trans h.l hN)),beyond_l _ _ _ _ _ _ _ _ _ fun f hf=>Nat.le_trans (h.ids f hf) hN]; rfl
end
end Go.Proofs.YtidkmoohgadjkaaGreat
namespace Go.Proofs.YtidkmoohgadjkaaGreat
open Go E Pred
noncomputable section
open Classical
def addF (id:ByteArray) (v:V8):List Frag→List Frag
 | []=>[⟨[id],v⟩]
 | f::fs=>if eq8 f.vec v then ⟨f.ids++[id],f.vec⟩::fs else f::addF id v fs
theorem at_app {α:Type} (l:List α) (x:α) (m:List α):atL (l++x::m) (l.length:Int)=some x:=at_mid (l:=l++x::m) rfl rfl
theorem set_app {α:Type} (l:List α) (x y:α) (m:List α):(l++x::m).set l.length y=l++y::m:=by simp
theorem plain_j3 {id:ByteArray} {v:V8} {k:List Frag→Option Know} {pre xs:List Frag} (h1:(pre++xs).length≤999990) (h2:∀ f∈pre++xs,f.ids.length≤999990) (hx:∀ f fs,xs=f::fs→eq8 f.vec v=true) :
  ref06_Plain_j3 (pre++xs) id v k (pre.length:Int)=k (pre++addF id v xs):=by
 unfold ref06_Plain_j3
 match xs,h1,h2,hx with
 | [],h1,h2,_ =>
  rw [List.append_nil] at h1 ⊢
  rw [br_t (by rw [eqI_t]),chk_t (roomL_of (by omega)),bnd_of (at_app pre _ []),chk_t (roomL_of (by simp))]
  rw [Int.toNat_natCast,set_app]; rfl
 | f::fs,h1,h2,hx =>
  have hf:=h2 f (by simp)
  rw [br_f (by rw [eqI_f]; simp; omega),bnd_of (at_app pre f fs),chk_t (roomL_of (by omega)),Int.toNat_natCast,set_app,addF,if_pos (hx f fs rfl)]
theorem plain_l4 {id:ByteArray} {v:V8} {k:List Frag→Option Know}:∀ (xs pre:List Frag),(pre++xs).length≤999990→(∀ f∈pre++xs,f.ids.length≤999990)→ref06_Plain_l4 (pre++xs) id v k xs (pre.length:Int)=k (pre++addF id v xs)
 | [],pre,h1,h2=>by rw [ref06_Plain_l4]; exact plain_j3 h1 h2 (fun _ _ e=>by cases e)
 | f::xs,pre,h1,h2=>by
  rw [ref06_Plain_l4]
  cases he:eq8 f.vec v with
  | true=>rw [br_f (by rfl)]; exact plain_j3 h1 h2 (fun g gs e=>by injection e with e1 e2; rw [←e1]; exact he)
  | false =>
   rw [br_t (by rfl),addF,if_neg (by rw [he]; simp)]
   have ih:=plain_l4 (id:=id) (v:=v) (k:=k) xs (pre++[f]) (by simpa using h1) (by simpa using h2)
   rw [List.append_assoc,List.append_assoc,List.length_append] at ih
   exact ih
def stepP (k:Know) (out:List Frag) (id:ByteArray):List Frag:=if eq8 (beyondV k id) zero8 then out else addF id (beyondV k id) out
theorem addF_len (id:ByteArray) (v:V8):∀ l:List Frag,(addF id v l).length≤l.length + 1
 | []=>by simp [addF]
 | f::l=>by rw [addF]; have:=addF_len id v l; split<;>simp<;>omega
theorem addF_ids {id:ByteArray} {v:V8} {n:Nat}:∀ {l:List Frag},(∀ f∈l,f.ids.length≤n)→∀ f∈addF id v l,f.ids.length≤n + 1
 | [],_,f,hf=>by rw [addF,List.mem_singleton] at hf; rw [hf]; simp
 | g::l,h,f,hf=>by
  rw [addF] at hf
  have hg:=h g (List.mem_cons_self ..)
  split at hf
  ·rcases List.mem_cons.1 hf with rfl | hf
   ·simp; exact hg
   ·have:=h f (List.mem_cons_of_mem _ hf); omega
  ·rcases List.mem_cons.1 hf with rfl | hf
   ·omega
   ·exact addF_ids (l:=l) (fun x hx=>h x (List.mem_cons_of_mem _ hx)) f hf
theorem stepP_len {k:Know} {out:List Frag} {id:ByteArray} {n:Nat} (h1:out.length≤n) (h2:∀ f∈out,f.ids.length≤n):(stepP k out id).length≤n + 1∧∀ f∈stepP k out id,f.ids.length≤n + 1:=by
 unfold stepP
 split
 ·exact ⟨by omega,fun f hf=>by have:=h2 f hf; omega⟩
 ·exact ⟨by have:=addF_len id (beyondV k id) out; omega,addF_ids h2⟩
theorem stepP_t {k:Know} {out:List Frag} {id:ByteArray} (h:eq8 (beyondV k id) zero8=true):stepP k out id=out:=by unfold stepP; rw [if_pos h]
theorem stepP_f {k:Know} {out:List Frag} {id:ByteArray} (h:eq8 (beyondV k id) zero8=false):stepP k out id=addF id (beyondV k id) out:=by unfold stepP; rw [if_neg (by rw [h]; simp)]
def plainK (k:Know):Know:=⟨k.star,(namesK k).foldl (stepP k) []⟩
def eqL:List ByteArray→List ByteArray→Bool
 | [],[]=>true
 | x::xs,y::ys=>eqS x y&&eqL xs ys
 | _,_=>false
def alikeF (f g:Frag):Bool:=eq8 f.vec g.vec&&eqL f.ids g.ids
def alikeL:List Frag→List Frag→Bool
 | [],[]=>true
 | x::xs,y::ys=>alikeF x y&&alikeL xs ys
 | _,_=>false
def alikeK (a b:Know):Bool:=eq8 a.star b.star&&alikeL a.l b.l
theorem eqL_len:∀ {a b:List ByteArray},a.length≠b.length→eqL a b=false
 | [],[],h=>absurd rfl h
 | x::xs,y::ys,h=>by rw [eqL,eqL_len (a:=xs) (b:=ys) (by simpa using h),Bool.and_false]
 | [],_::_,_=>rfl
 | _::_,[],_=>rfl
theorem alikeL_len:∀ {a b:List Frag},a.length≠b.length→alikeL a b=false
 | [],[],h=>absurd rfl h
 | x::xs,y::ys,h=>by rw [alikeL,alikeL_len (a:=xs) (b:=ys) (by simpa using h),Bool.and_false]
 | [],_::_,_=>rfl
 | _::_,[],_=>rfl
theorem alike_l2 {k:Option Bool}:∀ (xs pre ys:List ByteArray) (g:Frag),g.ids=pre++ys→xs.length=ys.length→ref06_Alike_l2 g k xs (pre.length:Int)=if eqL xs ys then k else some false
 | [],pre,[],g,_,_=>by rw [ref06_Alike_l2]; rfl
 | x::xs,pre,y::ys,g,hg,hl=>by
  have ih:=alike_l2 (k:=k) xs (pre++[y]) ys g (by simpa using hg) (by simpa using hl)
  rw [List.length_append] at ih
  rw [ref06_Alike_l2,bnd_of (by rw [hg]; exact at_app pre y ys),eqL]
  cases eqS x y with
  | false=>rfl
  | true=>rw [br_f (by rfl),Bool.true_and]; exact ih
 | [],_,_::_,_,_,h=>by simp at h
 | _::_,_,[],_,_,h=>by simp at h
theorem alike_l1:∀ (fs pre gs:List Frag) (b:Know),b.l=pre++gs→fs.length=gs.length→(∀ f∈fs,f.ids.length≤1000000000)→ref06_Alike_l1 b fs (pre.length:Int)=some (alikeL fs gs)
 | [],pre,[],b,_,_,_=>by rw [ref06_Alike_l1]; rfl
 | f::fs,pre,g::gs,b,hb,hl,hi=>by
  have ih:=alike_l1 fs (pre++[g]) gs b (by simpa using hb) (by simpa using hl) fun x hx=>hi x (List.mem_cons_of_mem _ hx)
  rw [List.length_append] at ih
  rw [ref06_Alike_l1,bnd_of (by rw [hb]; exact at_app pre g gs),alikeL]
  unfold alikeF
  cases eq8 f.vec g.vec with
  | false=>rfl
  | true =>
   rw [br_f (by rfl),Bool.true_and]
   by_cases hn:f.ids.length=g.ids.length
   ·rw [br_f (by rw [hn,eqI_t.2 rfl]; rfl),chk_t (smallL_of (hi f (List.mem_cons_self ..)))]
    have h2:=alike_l2 (k:=ref06_Alike_l1 b fs ((pre.length:Int) + 1)) f.ids [] g.ids g rfl hn
    rw [show (([]:List ByteArray).length:Int)=0 from rfl] at h2
    rw [h2]
    cases eqL f.ids g.ids with
    | true=>rw [if_pos rfl,Bool.true_and]; exact ih
    | false=>rfl
   ·rw [br_t (by rw [eqI_f.2 (by omega)]; rfl),eqL_len hn]; rfl
 | [],_,_::_,_,_,h,_=>by simp at h
 | _::_,_,[],_,_,h,_=>by simp at h
theorem alike_s {a b:Know} {N:Nat} (hN:N≤1000000000) (h:KB a N):ref06_Alike_s a b=some (alikeK a b):=by
 unfold ref06_Alike_s alikeK
 cases eq8 a.star b.star with
 | false=>rfl
 | true =>
  rw [br_f (by rfl),Bool.true_and]
  by_cases hl:a.l.length=b.l.length
  ·rw [br_f (by rw [hl,eqI_t.2 rfl]; rfl),chk_t (smallL_of (Nat.le_trans h.l hN))]
   exact alike_l1 a.l [] b.l b rfl hl fun f hf=>Nat.le_trans (h.ids f hf) hN
  ·rw [br_t (by rw [eqI_f.2 (by omega)]; rfl),alikeL_len hl]
def IdsOk (k:Know):Prop:=∀ f∈k.l, ∀ x∈f.ids,x.size≤9223372036854775807
def mayF (f:Frag):Bool:=mayV f.vec&&f.ids.all fun x=>lettersB x 1
def mayK (k:Know):Bool:=alikeK k (plainK k)&&(mayV k.star&&k.l.all mayF)
theorem may_l2 {k:Option Bool}:∀ (xs:List ByteArray),(∀ x∈xs,x.size≤9223372036854775807)→ref06_May_l2 k xs=if (xs.all fun x=>lettersB x 1) then k else some false
 | [],_=>by rw [ref06_May_l2]; rfl
 | x::xs,h=>by
  have e:ref01_Name_s x=some (lettersB x 1):=by unfold ref01_Name_s; rw [chk_t (decide_eq_true (h x (List.mem_cons_self ..)))]
  rw [ref06_May_l2,bnd_of e,may_l2 xs fun y hy=>h y (List.mem_cons_of_mem _ hy),List.all_cons]
  cases lettersB x 1<;>rfl
theorem may_l1:∀ (l:List Frag),(∀ f∈l,f.ids.length≤1000000000)→(∀ f∈l, ∀ x∈f.ids,x.size≤9223372036854775807)→ref06_May_l1 l=some (l.all mayF)
 | [],_,_=>by rw [ref06_May_l1]; rfl
 | f::l,h,h2=>by
  rw [ref06_May_l1,bnd_of (show ref06_MayVec_s f.vec=some (mayV f.vec) from rfl),List.all_cons]
  unfold mayF
  cases mayV f.vec with
  | false=>rfl
  | true =>
   rw [br_f (by rfl),chk_t (smallL_of (h f (List.mem_cons_self ..))),may_l2 _ (h2 f (List.mem_cons_self ..)),may_l1 l (fun g hg=>h g (List.mem_cons_of_mem _ hg)) fun g hg=>h2 g (List.mem_cons_of_mem _ hg)]
   unfold mayF
   cases (f.ids.all fun x=>lettersB x 1)<;>rfl
end
end Go.Proofs.YtidkmoohgadjkaaGreat
namespace Go.Proofs.YtidkmoohgadjkaaGreat
open Go E Pred
noncomputable section
open Classical
def risesG:Item→List Item→Bool
 | _,[]=>true
 | p,x::xs=>!(ltS x.id p.id || eqS x.id p.id)&&risesG x xs
def risesB:List Item→Bool
 | []=>true
 | x::xs=>risesG x xs
theorem rises_l:∀ (xs:List Item) (p:Item) (pre l:List Item) (fl:Nat),l=pre++p::xs→l.length≤1000000→xs.length + 1≤fl→ref06_Rises_l1 l fl ((pre.length:Int) + 1)=some (risesG p xs)
 | [],p,pre,l,fl,hl,hn,hf=>by
  obtain ⟨fl,rfl⟩:∃ n,fl=n + 1:=⟨fl - 1,by simp at hf; omega⟩
  rw [ref06_Rises_l1,br_f (by rw [ltI_f,hl]; simp)]; rfl
 | x::xs,p,pre,l,fl,hl,hn,hf=>by
  obtain ⟨fl,rfl⟩:∃ n,fl=n + 1:=⟨fl - 1,by simp at hf; omega⟩
  have hlen:l.length=pre.length + (xs.length + 2):=by rw [hl]; simp
  have a1:atL l ((pre.length:Int) + 1)=some x:=by
   have:=at_app (pre++[p]) x xs
   rw [List.length_append,List.append_assoc] at this
   rw [hl]; exact this
  have a0:atL l (wr .i64 ((pre.length:Int) + 1 - 1))=some p:=by
   rw [wr64 (by omega) (by omega),show (pre.length:Int) + 1 - 1=pre.length by omega,hl]; exact at_app pre p (x::xs)
  rw [ref06_Rises_l1,br_t (by rw [ltI_t]; omega),bnd_of a1,bnd_of a0,risesG]
  cases (ltS x.id p.id || eqS x.id p.id) with
  | true=>rfl
  | false =>
   rw [br_f rfl,wr64 (by omega) (by omega)]
   have:=rises_l xs x (pre++[p]) l fl (by rw [hl]; simp) hn (by simp at hf ⊢; omega)
   rw [List.length_append] at this
   exact this
theorem rises_s {l:List Item} (h:l.length≤999990):ref06_Rises_s l=some (risesB l):=by
 unfold ref06_Rises_s
 match l,h with
 | [],_=>rfl
 | x::xs,h=>exact rises_l xs x [] (x::xs) fuelN rfl (by omega) (by unfold fuelN; simp at h; omega)
def mayListB (l:List Item):Bool:=l.all mayI&&risesB l
theorem mayList_l {l:List Item} (hl:l.length≤999990):∀ xs:List Item,(∀ x∈xs,x.Ok)→ref06_MayList_l1 l xs=some (xs.all mayI&&risesB l)
 | [],_=>by rw [ref06_MayList_l1,bnd_of (rises_s hl)]; rfl
 | x::xs,h=>by
  have e:ref01_May_s x=some (mayI x):=by unfold ref01_May_s; rw [chk_t (decide_eq_true (h x (List.mem_cons_self ..)))]
  rw [ref06_MayList_l1,bnd_of e,mayList_l hl xs fun y hy=>h y (List.mem_cons_of_mem _ hy),List.all_cons]
  cases mayI x<;>rfl
theorem mayList_s {l:List Item} (hl:l.length≤999990) (h:∀ x∈l,x.Ok):ref06_MayList_s l=some (mayListB l):=by
 unfold ref06_MayList_s; rw [chk_t (smallL_of (by omega)),mayList_l hl l h]; rfl
def item0':Item:=⟨⟨#[]⟩,0,0,0,⟨#[]⟩,0,0,0,false⟩
def getI (id:ByteArray):List Item→Item × Bool
 | []=>(item0',false)
 | x::xs=>if eqS x.id id then (x,true) else getI id xs
theorem get_l (id:ByteArray):∀ l:List Item,ref06_Get_l1 id l=some (getI id l)
 | []=>by rw [ref06_Get_l1]; rfl
 | x::xs=>by rw [ref06_Get_l1,get_l id xs,getI]; cases eqS x.id id<;>rfl
theorem get_s {l:List Item} {id:ByteArray} (h:l.length≤1000000000):ref06_Get_s l id=some (getI id l):=by
 unfold ref06_Get_s; rw [chk_t (smallL_of h),get_l]
theorem items_l:∀ (xs acc:List Item),acc.length + xs.length≤999990→law00_Items_l1 xs acc=some (acc++xs)
 | [],acc,_=>by rw [law00_Items_l1,List.append_nil]
 | i::xs,acc,h=>by
  rw [List.length_cons] at h
  rw [law00_Items_l1,bnd_of (show law00_Item_s i=some i from rfl),chk_t (roomL_of (by omega)),items_l xs _ (by rw [List.length_append]; simp; omega),List.append_assoc]; rfl
theorem items_s {l:List Item} (h:l.length≤999990):law00_Items_s l=some l:=by
 unfold law00_Items_s; rw [chk_t (smallL_of (by omega)),items_l l [] (by simp; omega)]; rfl
end
end Go.Proofs.YtidkmoohgadjkaaGreat
set_option maxHeartbeats 4000000
namespace Go.Proofs.YtidkmoohgadjkaaGreat
open Go E Pred
abbrev ex4:List Pred:=[bare 2 [],bare 1 []]
abbrev item0:Item:=⟨⟨#[]⟩,0,0,0,⟨#[]⟩,0,0,0,false⟩
end Go.Proofs.YtidkmoohgadjkaaGreat
set_option maxHeartbeats 0
namespace Go.Proofs.YtidkmoohgadjkaaGreat
open Go E
noncomputable section
open Pred
end
end Go.Proofs.YtidkmoohgadjkaaGreat
set_option maxHeartbeats 4000000
namespace Go.Proofs.YtidkmoohgadjkaaGreat
open Go E Pred
section
variable {X:Task→Prop} (hX:Closed X) {Q:A→List Blk→Prop}
include hX
end
end Go.Proofs.YtidkmoohgadjkaaGreat
namespace Go.Proofs.YtidkmoohgadjkaaGreat
open Go E Pred
inductive NF:Pred→Prop
 | leaf {o t n x y}:o≠8→o≠9→o≠10→NF (.mk o t n x y [])
 | some {ks}:(∀ k∈ks,NF k)→(∀ k∈ks,k.op≠9∧k.op≠1)→ks.foldl (addP 2) []=ks→2≤ks.length→NF (bare 9 ks)
 | all {ks}:(∀ k∈ks,NF k)→(∀ k∈ks,k.op≠8∧k.op≠2)→ks.foldl (addP 1) []=ks→2≤ks.length→NF (bare 8 ks)
 | no {k}:NF k→k.op≠1→k.op≠2→k.op≠10→NF (bare 10 [k])
end Go.Proofs.YtidkmoohgadjkaaGreat
namespace Go.Proofs.YtidkmoohgadjkaaGreat
open Go E Pred
noncomputable section
open Classical
theorem lsmall_t {p:Pred} (h:p.Ok) (hs:p.size≤60):law00_Small_s p=some 1:=by unfold law00_Small_s; rw [chk_t (decide_eq_true h),if_pos hs]
theorem lsmall_f {p:Pred} (h:p.Ok) (hs:¬ p.size≤60):law00_Small_s p=some 0:=by unfold law00_Small_s; rw [chk_t (decide_eq_true h),if_neg hs]
theorem lpred_s {p:Pred} (h:p.Ok) (hs:p.size≤1000):law00_Pred_s p=some p:=by unfold law00_Pred_s; rw [chk_t (decide_eq_true hs),chk_t (decide_eq_true h)]
theorem has_s {p:Pred} {x:Item} (h:p.Ok) (hx:x.Ok):eval_Has_s p x=some (hasP p x):=by unfold eval_Has_s; rw [chk_t (decide_eq_true h),chk_t (decide_eq_true hx)]
end
end Go.Proofs.YtidkmoohgadjkaaGreat
namespace Go.Proofs.YtidkmoohgadjkaaGreat
open Go E Pred
noncomputable section
open Classical
theorem may3_s {p:Pred} (h:p.Ok) (hs:p.size≤1000):ref03_May_s p=some (mayP p):=by unfold ref03_May_s; rw [chk_t (decide_eq_true hs),chk_t (decide_eq_true h)]
theorem has3_s {p:Pred} {x:Item} (h:p.Ok) (hx:x.Ok):ref03_Has_s p x=some (hasP p x):=by unfold ref03_Has_s; rw [chk_t (decide_eq_true h),chk_t (decide_eq_true hx)]
structure StOk (x:State):Prop where
 f:x.f.Ok
 fs:x.f.size≤1000
 store:∀ i∈x.store,i.Ok
 out:∀ i∈x.out,i.Ok
 sl:x.store.length≤990
 ol:x.out.length≤990
 k:KB x.k 990
 ids:IdsOk x.k
theorem fresh_know_l {k:Know}:∀ (l acc:List Frag),acc.length + l.length≤999990→(∀ f∈l,f.ids.length≤1000000)→fresh_Know_l1 k l acc=some ⟨k.star,acc++l⟩
 | [],acc,_,_=>by rw [fresh_Know_l1,List.append_nil]
 | f::l,acc,h,hi=>by
  rw [List.length_cons] at h
  have e:clone_s f.ids=some f.ids:=by unfold clone_s; rw [chk_t (decide_eq_true (hi f (List.mem_cons_self ..)))]
  rw [fresh_Know_l1,bnd_of e,chk_t (roomL_of (by omega)),fresh_know_l l _ (by rw [List.length_append]; simp; omega) fun g hg=>hi g (List.mem_cons_of_mem _ hg),List.append_assoc]; rfl
theorem fresh_pred_l {p:Pred} {rc:Pred→Option Pred}:∀ (l acc:List Pred),(∀ q∈l,rc q=some q)→acc.length + l.length≤999990→fresh_Pred_l1 p rc l acc=some (.mk p.op p.text p.n p.re p.im (acc++l))
 | [],acc,_,_=>by rw [fresh_Pred_l1,List.append_nil]
 | q::l,acc,h,hn=>by
  rw [List.length_cons] at hn
  rw [fresh_Pred_l1,bnd_of (h q (List.mem_cons_self ..)),chk_t (roomL_of (by omega)),fresh_pred_l l _ (fun x hx=>h x (List.mem_cons_of_mem _ hx)) (by rw [List.length_append]; simp; omega),List.append_assoc]; rfl
theorem fresh_pred:∀ (n:Nat) {p:Pred},p.size≤n→p.size≤1000→fresh_Pred_s n p=some p
 | 0,p,h,_=>by have:=size_pos p; omega
 | n + 1,p,h,hs=>by
  have e:=size_eq p
  have hl:=len_sizes p.kids
  show fresh_Pred_b (fresh_Pred_s n) p=some p
  unfold fresh_Pred_b
  rw [chk_t (smallL_of (by omega)),fresh_pred_l p.kids [] (fun q hq=>fresh_pred n (by have:=size_mem hq; omega) (by have:=size_mem hq; omega)) (by simp; omega)]
  cases p; rfl
theorem eqI_self (n:Int):eqI n n=true:=eqI_t.2 rfl
theorem known_l:∀ (l:List Frag),∃ b,law00_Known_l1 l=some b∧(b=0∨(b=1∧∀ f∈l,f.ids.length≤60))
 | []=>⟨1,by rw [law00_Known_l1],.inr ⟨rfl,fun f hf=>by cases hf⟩⟩
 | f::l=>by
  obtain ⟨b,hb,h⟩:=known_l l
  rw [law00_Known_l1,br_if]
  by_cases hf:ltI 60 (f.ids.length:Int)=true
  ·exact ⟨0,by rw [if_pos hf],.inl rfl⟩
  ·refine ⟨b,by rw [if_neg hf,hb],h.imp id fun ⟨h1,h2⟩=>⟨h1,fun g hg=>?_⟩⟩
   rw [ltI_t] at hf
   rcases List.mem_cons.1 hg with rfl | hg
   ·omega
   ·exact h2 g hg
theorem known_s (k:Know):∃ b,law00_Known_s k=some b∧(b=0∨(b=1∧KB k 60)):=by
 unfold law00_Known_s
 rw [br_if]
 by_cases hf:ltI 30 (k.l.length:Int)=true
 ·exact ⟨0,by rw [if_pos hf],.inl rfl⟩
 ·rw [if_neg hf]
  rw [ltI_t] at hf
  obtain ⟨b,hb,h⟩:=known_l k.l
  exact ⟨b,by rw [chk_t (smallL_of (by omega)),hb],h.imp id fun ⟨h1,h2⟩=>⟨h1,⟨by omega,h2⟩⟩⟩
structure Sit.Ok (s:Sit):Prop where
 f:s.f.Ok
 store:∀ i∈s.store,i.Ok
 out:∀ i∈s.out,i.Ok
 ids:IdsOk s.k
def Sit.st (s:Sit):State:=⟨s.r,s.f,s.store,s.out,s.k,s.count,s.clock,s.epoch⟩
theorem KB.mono {k:Know} {n m:Nat} (h:KB k n) (hm:n≤m):KB k m:=⟨Nat.le_trans h.l hm,fun f hf=>Nat.le_trans (h.ids f hf) hm⟩
theorem fits_sit {s:Sit} (ok:s.Ok):∃ b,law00_Fits_s s=some b∧(b=0∨(b=1∧StOk s.st∧s.f.size≤60∧s.store.length≤60∧s.out.length≤60∧KB s.k 60)):=by
 unfold law00_Fits_s
 rw [br_if,br_if]
 by_cases h1:ltI 60 (s.store.length:Int)=true
 ·exact ⟨0,by rw [if_pos h1],.inl rfl⟩
 ·rw [if_neg h1]
  by_cases h2:ltI 60 (s.out.length:Int)=true
  ·exact ⟨0,by rw [if_pos h2],.inl rfl⟩
  ·rw [if_neg h2]
   rw [ltI_t] at h1 h2
   obtain ⟨b,hb,hk⟩:=known_s s.k
   by_cases h3:s.f.size≤60
   ·rw [bnd_of (lsmall_t ok.f h3),bnd_of hb]
    rcases hk with rfl | ⟨rfl,hk⟩
    ·exact ⟨_,rfl,.inl rfl⟩
    ·exact ⟨_,rfl,.inr ⟨rfl,⟨ok.f,by show s.f.size≤1000; omega,ok.store,ok.out,by show s.store.length≤990; omega,by show s.out.length≤990; omega,hk.mono (by decide),ok.ids⟩,h3,by omega,by omega,hk⟩⟩
   ·rw [bnd_of (lsmall_f ok.f h3),bnd_of hb]
    exact ⟨_,rfl,.inl (by rw [Int.zero_mul]; rfl)⟩
theorem state_s {s:Sit} (ok:s.Ok) (h:StOk s.st):law00_State_s s=some s.st:=by
 have h1:=h.fs
 have h2:=h.sl
 have h3:=h.ol
 unfold law00_State_s
 rw [bnd_of (lpred_s ok.f h1),bnd_of (items_s (l:=s.store) (by show s.st.store.length≤_; omega)),bnd_of (items_s (l:=s.out) (by show s.st.out.length≤_; omega))]; rfl
end
end Go.Proofs.YtidkmoohgadjkaaGreat
set_option maxHeartbeats 4000000
namespace Go.Proofs.YtidkmoohgadjkaaGreat
open Go E Go.ChangeShapes Go.WideShapes Go.ChangeAt Go.RowKit
theorem cellsRows:Tryz.prog.cellsOf 26=1:=by kernel_rfl
theorem shRows:∀ n,ShOk Tryz.prog n 26 (.sl rowSh)
 | 0=>.zero
 | n + 1=>.sl Tryz.underlying26 cellsRow (by decide) (shRow n)
theorem list_of {α:Type} {P:List PC→Prop} {Ok:α→Prop} {f:α→List PC} (h:∀ r,P r→∃ x,Ok x∧r=f x):∀ (l:List (List PC)),(∀ r∈l,P r)→∃ xs:List α,(∀ x∈xs,Ok x)∧l=xs.map f
 | [],_=>⟨[],by simp,rfl⟩
 | r::l,hl=>by
  obtain ⟨x,hx,rfl⟩:=h r (hl r (by simp))
  obtain ⟨xs,hxs,rfl⟩:=list_of h l fun r hr=>hl r (by simp [hr])
  exact ⟨x::xs,by simpa using ⟨hx,hxs⟩,rfl⟩
theorem fits_rows {l:List PC} (h:Fits (.sl rowSh) l):∃ xs:List Item,(∀ x∈xs,x.Ok)∧l=[.sl (xs.map Item.lrow)]:=by
 obtain ⟨rows,rfl,_,hr⟩:=h
 obtain ⟨xs,hx,rfl⟩:=list_of (P:=Fits rowSh) (Ok:=Item.Ok) (f:=Item.lrow) (fun r h=>fits_row h) rows hr
 exact ⟨xs,hx,rfl⟩
section
variable {H:Type} {enc:TypeId × Value→H} {W:World} {v:Value} {d:DataW H} {ps:List MemPlace} {b0:Nat}
end
end Go.Proofs.YtidkmoohgadjkaaGreat
set_option maxHeartbeats 4000000
namespace Go.Proofs.YtidkmoohgadjkaaGreat
open Go E Go.ChangeShapes Go.WideShapes Go.ChangeAt Go.RowKit
theorem cellsStrs:Tryz.prog.cellsOf 151=1:=by kernel_rfl
theorem cellsVec:Tryz.prog.cellsOf 28=8:=by kernel_rfl
theorem cellsFrag:Tryz.prog.cellsOf 153=9:=by kernel_rfl
theorem cellsFrags:Tryz.prog.cellsOf 29=1:=by kernel_rfl
theorem cellsKnow:Tryz.prog.cellsOf 31=9:=by kernel_rfl
theorem shStrs:∀ n,ShOk Tryz.prog n 151 (.sl .str)
 | 0=>.zero
 | n + 1=>.sl Tryz.underlying151 cellsStr (by decide) (shStr n)
theorem shVec:∀ n,ShOk Tryz.prog n 28 (repS (.int .i64) 8)
 | 0=>.zero
 | n + 1=>.arr (s:=.int .i64) Tryz.underlying28 cellsInt cellsVec (shInt n) rfl
abbrev fragSh:Sh:=.cat (.sl .str) (.cat (repS (.int .i64) 8) .nil)
theorem shFrag:∀ n,ShOk Tryz.prog n 153 fragSh
 | 0=>.zero
 | n + 1=>.struct Tryz.underlying153 cellsFrag (.cons rfl cellsStrs (shStrs n) (.cons rfl cellsVec (shVec n) .nil))
theorem shFrags:∀ n,ShOk Tryz.prog n 29 (.sl fragSh)
 | 0=>.zero
 | n + 1=>.sl Tryz.underlying29 cellsFrag (by decide) (shFrag n)
abbrev knowSh:Sh:=.cat (repS (.int .i64) 8) (.cat (.sl fragSh) .nil)
theorem shKnow:∀ n,ShOk Tryz.prog n 31 knowSh
 | 0=>.zero
 | n + 1=>.struct Tryz.underlying31 cellsKnow (.cons rfl cellsVec (shVec n) (.cons rfl cellsFrags (shFrags n) .nil))
theorem fits_v8 {l:List PC} (h:Fits (repS (.int .i64) 8) l):∃ v:V8,l=v.row:=by
 obtain ⟨_,_,rfl,⟨x0,rfl,w0⟩,_,_,rfl,⟨x1,rfl,w1⟩,_,_,rfl,⟨x2,rfl,w2⟩,_,_,rfl,⟨x3,rfl,w3⟩,_,_,rfl,⟨x4,rfl,w4⟩,_,_,rfl,⟨x5,rfl,w5⟩,_,_,rfl,⟨x6,rfl,w6⟩,_,_,rfl,⟨x7,rfl,w7⟩,rfl⟩:=h
 exact ⟨⟨x0,x1,x2,x3,x4,x5,x6,x7⟩,rfl⟩
theorem fits_strs {l:List PC} (h:Fits (.sl .str) l):∃ xs:List ByteArray,(∀ x∈xs,x.size≤9223372036854775807)∧l=[.sl (xs.map srw)]:=by
 obtain ⟨rows,rfl,_,hr⟩:=h
 obtain ⟨xs,hx,rfl⟩:=list_of (P:=Fits .str) (Ok:=fun x:ByteArray=>x.size≤9223372036854775807) (f:=srw) (fun r ⟨s,e,hs⟩=>⟨s,Nat.le_trans hs (by decide),e⟩) rows hr
 exact ⟨xs,hx,rfl⟩
theorem fits_frag {l:List PC} (h:Fits fragSh l):∃ f:Frag,(∀ x∈f.ids,x.size≤9223372036854775807)∧l=f.row:=by
 obtain ⟨_,_,rfl,h1,_,_,rfl,h2,rfl⟩:=h
 obtain ⟨xs,hx,rfl⟩:=fits_strs h1
 obtain ⟨v,rfl⟩:=fits_v8 h2
 exact ⟨⟨xs,v⟩,hx,by simp⟩
theorem fits_know {l:List PC} (h:Fits knowSh l):∃ k:Know,IdsOk k∧l=k.row:=by
 obtain ⟨_,_,rfl,h1,_,_,rfl,⟨rows,rfl,_,hr⟩,rfl⟩:=h
 obtain ⟨v,rfl⟩:=fits_v8 h1
 obtain ⟨fs,hf,rfl⟩:=list_of (P:=Fits fragSh) (Ok:=fun f:Frag=>∀ x∈f.ids,x.size≤9223372036854775807) (f:=Frag.row) (fun r h=>fits_frag h) rows hr
 exact ⟨⟨v,fs⟩,hf,by simp⟩
abbrev Know.la (k:Know):A:=.agg [ic k.star.x0,ic k.star.x1,ic k.star.x2,ic k.star.x3,ic k.star.x4,ic k.star.x5,ic k.star.x6,ic k.star.x7,.p (.sl (k.l.map Frag.row))]
abbrev Ver.la (v:Ver):A:=.agg [ic v.r,ic v.c]
def Ver.Ok (v:Ver):Prop:=(-9223372036854775808≤v.r∧v.r≤9223372036854775807) ∧ -9223372036854775808≤v.c∧v.c≤9223372036854775807
theorem cellsVer:Tryz.prog.cellsOf 66=2:=by kernel_rfl
abbrev verSh:Sh:=.cat (.int .i64) (.cat (.int .i64) .nil)
theorem shVer:∀ n,ShOk Tryz.prog n 66 verSh
 | 0=>.zero
 | n + 1=>.struct Tryz.underlying66 cellsVer (.cons rfl cellsInt (shInt n) (.cons rfl cellsInt (shInt n) .nil))
section
variable {H:Type} {enc:TypeId × Value→H} {W:World} {v:Value} {d:DataW H} {ps:List MemPlace} {b0:Nat}
theorem arg_ver (hv:Value.okWide Tryz.prog W .any b0 66 v) (h:DataW.Trod enc Tryz.prog W 0 (fun _=>true) true 66 v d ps):∃ x:Ver,x.Ok∧VA W (zoneOf W) noLoc x.la v:=by
 obtain ⟨_,l,h1,h2⟩:=arg_agg shVer (.inl ⟨_,Tryz.underlying66⟩) hv h
 obtain ⟨_,_,rfl,⟨x0,rfl,w0⟩,_,_,rfl,⟨x1,rfl,w1⟩,rfl⟩:=h1
 exact ⟨⟨x0,x1⟩,⟨i64_of w0,i64_of w1⟩,h2⟩
end
end Go.Proofs.YtidkmoohgadjkaaGreat
set_option maxHeartbeats 4000000
namespace Go.Proofs.YtidkmoohgadjkaaGreat
open Go E Go.ChangeShapes Go.WideShapes Go.ChangeAt Go.RowKit
theorem cellsSit:Tryz.prog.cellsOf 33=21:=by kernel_rfl
def sitSh (n:Nat):Sh:=.cat (.int .i64) (.cat (treeSh (n - 1)) (.cat (.sl rowSh) (.cat (.sl rowSh) (.cat knowSh (.cat (.int .i64) (.cat (.int .i64) (.cat (.int .i64) .nil)))))))
theorem sit_size (n:Nat):(sitSh n).size=21:=by unfold sitSh; simp only [Sh.size,tree_size]; rfl
theorem shSit:∀ n,ShOk Tryz.prog n 33 (sitSh n)
 | 0=>.zero
 | n + 1=>.struct Tryz.underlying33 (by rw [sit_size]; exact cellsSit) (.cons rfl cellsInt (shInt n) (.cons rfl (by rw [show n + 1 - 1=n from rfl,tree_size]; exact cellsTree) (shTree n)
   (.cons (by rw [show n + 1 - 1=n from rfl,tree_size]; rfl) cellsRows (shRows n) (.cons (by rw [show n + 1 - 1=n from rfl,tree_size]; rfl) cellsRows (shRows n) (.cons (by rw [show n + 1 - 1=n from rfl,tree_size]; rfl) cellsKnow (shKnow n)
   (.cons (by rw [show n + 1 - 1=n from rfl,tree_size]; rfl) cellsInt (shInt n) (.cons (by rw [show n + 1 - 1=n from rfl,tree_size]; rfl) cellsInt (shInt n) (.cons (by rw [show n + 1 - 1=n from rfl,tree_size]; rfl) cellsInt (shInt n) .nil))))))))
abbrev Sit.la (s:Sit):A:=.agg [ic s.r,ic s.f.op,.p (.v (.string s.f.text)),ic s.f.n,.p (.v (.float .f64 s.f.re)),.p (.v (.float .f64 s.f.im)),.p (.sl (Pred.lrows s.f.kids)),.p (.sl (s.store.map Item.lrow)),.p (.sl (s.out.map Item.lrow)),
 ic s.k.star.x0,ic s.k.star.x1,ic s.k.star.x2,ic s.k.star.x3,ic s.k.star.x4,ic s.k.star.x5,ic s.k.star.x6,ic s.k.star.x7,.p (.sl (s.k.l.map Frag.row)),ic s.count,ic s.clock,ic s.epoch]
section
variable {H:Type} {enc:TypeId × Value→H} {W:World} {v:Value} {d:DataW H} {ps:List MemPlace} {b0:Nat}
theorem arg_sit (hv:Value.okWide Tryz.prog W .any b0 33 v) (h:DataW.Trod enc Tryz.prog W 0 (fun _=>true) true 33 v d ps):∃ s:Sit,s.Ok∧VA W (zoneOf W) noLoc s.la v:=by
 obtain ⟨n,l,h1,h2⟩:=arg_agg shSit (.inl ⟨_,Tryz.underlying33⟩) hv h
 obtain ⟨_,_,rfl,⟨x0,rfl,w0⟩,_,_,rfl,hf,_,_,rfl,hs,_,_,rfl,ho,_,_,rfl,hk,_,_,rfl,⟨x1,rfl,w1⟩,_,_,rfl,⟨x2,rfl,w2⟩,_,_,rfl,⟨x3,rfl,w3⟩,rfl⟩:=h1
 obtain ⟨p,op,rfl⟩:=tree_fits _ hf
 obtain ⟨xs,hx,rfl⟩:=fits_rows hs
 obtain ⟨ys,hy,rfl⟩:=fits_rows ho
 obtain ⟨k,hi,rfl⟩:=fits_know hk
 rw [Pred.lrow_eq] at h2
 exact ⟨⟨x0,p,xs,ys,k,x1,x2,x3⟩,⟨op,hx,hy,hi⟩,h2⟩
end
end Go.Proofs.YtidkmoohgadjkaaGreat
set_option maxHeartbeats 4000000
namespace Go.Proofs.YtidkmoohgadjkaaGreat
open Go.Shelf Go.RowKit Go.Maps Go.Sort
def keysL_ren:Go.Shelf.Ren:=⟨fun | 7=>201 | 10=>231 | n=>n,fun | 23=>228 | 26=>9 | 3=>28 | 28=>232 | 0=>0 | 27=>231 | 33=>141 | 4=>4 | n=>n,fun | n=>n⟩
theorem keysL:SlLaysZ.n7 Tryz.prog keysL_ren:={
 mixed:=by kernel_rfl
 f7:=⟨Tryz.f201.name,by decide,Tryz.func201.trans (congrArg some (by kernel_rfl))⟩
 f10:=⟨Tryz.f231.name,by decide,Tryz.func231.trans (congrArg some (by kernel_rfl))⟩
 t0:=Tryz.underlying0
 a0:=Tryz.isAgg0
 z0:=Tryz.sizeOf0
 v0:=Tryz.zeroValue0
 t4:=Tryz.underlying4
 a4:=Tryz.isAgg4
 z4:=Tryz.sizeOf4
 v4:=Tryz.zeroValue4
 t23:=Tryz.underlying228
 a23:=Tryz.isAgg228
 z23:=Tryz.sizeOf228
 v23:=Tryz.zeroValue228
 t26:=Tryz.underlying9
 a26:=Tryz.isAgg9
 z26:=Tryz.sizeOf9
 v26:=Tryz.zeroValue9
 t27:=Tryz.underlying231
 a27:=Tryz.isAgg231
 z27:=Tryz.sizeOf231
 v27:=Tryz.zeroValue231
 t28:=Tryz.underlying232
 a28:=Tryz.isAgg232
 z28:=Tryz.sizeOf232
 v28:=Tryz.zeroValue232
 t33:=Tryz.underlying141
 a33:=Tryz.isAgg141
 z33:=Tryz.sizeOf141
 v33:=Tryz.zeroValue141 }
def sortedL_ren:Go.Shelf.Ren:=⟨fun | 6=>200 | 8=>229 | 9=>230 | 11=>244 | 13=>246 | 12=>245 | 23=>260 | 24=>261 | 14=>251 | 15=>252 | 16=>253 | 17=>254 | 18=>255 | 19=>256 | 20=>257 | 21=>258 | 22=>259 | 25=>266 | 26=>267 | 27=>268 | 28=>269 | 29=>270 | 30=>240 | 31=>271 | n=>n,fun | 26=>9 | 28=>232 | 24=>151 | 0=>0 | 3=>3 | 37=>246 | 48=>268 | 50=>270 | 4=>4 | 40=>262 | 39=>261 | 45=>204 | 5=>5 | 9=>9 | 51=>274 | 55=>193 | 57=>279 | 58=>280 | 33=>141 | n=>n,fun | n=>n⟩
theorem sortedL:SlLaysZ.n6 Tryz.prog sortedL_ren:={
 mixed:=by kernel_rfl
 f6:=⟨Tryz.f200.name,by decide,Tryz.func200.trans (congrArg some (by kernel_rfl))⟩
 f8:=⟨Tryz.f229.name,by decide,Tryz.func229.trans (congrArg some (by kernel_rfl))⟩
 f11:=⟨Tryz.f244.name,by decide,Tryz.func244.trans (congrArg some (by kernel_rfl))⟩
 t0:=Tryz.underlying0
 a0:=Tryz.isAgg0
 z0:=Tryz.sizeOf0
 v0:=Tryz.zeroValue0
 t24:=Tryz.underlying151
 a24:=Tryz.isAgg151
 z24:=Tryz.sizeOf151
 v24:=Tryz.zeroValue151
 t26:=Tryz.underlying9
 a26:=Tryz.isAgg9
 z26:=Tryz.sizeOf9
 v26:=Tryz.zeroValue9
 t28:=Tryz.underlying232
 a28:=Tryz.isAgg232
 z28:=Tryz.sizeOf232
 v28:=Tryz.zeroValue232
 i26:=by kernel_rfl }
def sortL_ren:Go.Shelf.Ren:=⟨fun | 6=>230 | 8=>246 | 9=>245 | 19=>260 | 20=>261 | 21=>251 | 22=>252 | 23=>253 | 24=>254 | 25=>255 | 26=>256 | 27=>257 | 28=>258 | 29=>259 | 36=>266 | 31=>267 | 32=>268 | 37=>269 | 38=>270 | 39=>240 | 41=>271 | n=>n,fun | 27=>151 | 29=>9 | 3=>3 | 32=>246 | 26=>151 | 0=>0 | 44=>268 | 46=>270 | 4=>4 | 36=>262 | 35=>261 | 41=>204 | 5=>5 | 9=>9 | 53=>274 | 57=>193 | 63=>279 | 64=>280 | n=>n,fun | n=>n⟩
theorem sortL:SlLaysM.n6 Tryz.prog sortL_ren:={
 mixed:=by kernel_rfl
 f6:=⟨Tryz.f230.name,by decide,Tryz.func230.trans (congrArg some (by kernel_rfl))⟩
 f8:=Tryz.func246.trans (congrArg some (by kernel_rfl))
 f9:=⟨Tryz.f245.name,by decide,Tryz.func245.trans (congrArg some (by kernel_rfl))⟩
 f19:=Tryz.func260.trans (congrArg some (by kernel_rfl))
 f20:=Tryz.func261.trans (congrArg some (by kernel_rfl))
 f21:=⟨Tryz.f251.name,by decide,Tryz.func251.trans (congrArg some (by kernel_rfl))⟩
 f22:=⟨Tryz.f252.name,by decide,Tryz.func252.trans (congrArg some (by kernel_rfl))⟩
 f23:=⟨Tryz.f253.name,by decide,Tryz.func253.trans (congrArg some (by kernel_rfl))⟩
 f24:=⟨Tryz.f254.name,by decide,Tryz.func254.trans (congrArg some (by kernel_rfl))⟩
 f25:=⟨Tryz.f255.name,by decide,Tryz.func255.trans (congrArg some (by kernel_rfl))⟩
 f26:=⟨Tryz.f256.name,by decide,Tryz.func256.trans (congrArg some (by kernel_rfl))⟩
 f27:=⟨Tryz.f257.name,by decide,Tryz.func257.trans (congrArg some (by kernel_rfl))⟩
 f28:=⟨Tryz.f258.name,by decide,Tryz.func258.trans (congrArg some (by kernel_rfl))⟩
 f29:=⟨Tryz.f259.name,by decide,Tryz.func259.trans (congrArg some (by kernel_rfl))⟩
 f31:=Tryz.func267.trans (congrArg some (by kernel_rfl))
 f32:=Tryz.func268.trans (congrArg some (by kernel_rfl))
 f36:=⟨Tryz.f266.name,by decide,Tryz.func266.trans (congrArg some (by kernel_rfl))⟩
 f37:=⟨Tryz.f269.name,by decide,Tryz.func269.trans (congrArg some (by kernel_rfl))⟩
 f38:=⟨Tryz.f270.name,by decide,Tryz.func270.trans (congrArg some (by kernel_rfl))⟩
 f39:=⟨Tryz.f240.name,by decide,Tryz.func240.trans (congrArg some (by kernel_rfl))⟩
 f41:=⟨Tryz.f271.name,by decide,Tryz.func271.trans (congrArg some (by kernel_rfl))⟩
 t0:=Tryz.underlying0
 a0:=Tryz.isAgg0
 z0:=Tryz.sizeOf0
 v0:=Tryz.zeroValue0
 t3:=Tryz.underlying3
 a3:=Tryz.isAgg3
 z3:=Tryz.sizeOf3
 v3:=Tryz.zeroValue3
 t4:=Tryz.underlying4
 a4:=Tryz.isAgg4
 z4:=Tryz.sizeOf4
 v4:=Tryz.zeroValue4
 t5:=Tryz.underlying5
 a5:=Tryz.isAgg5
 z5:=Tryz.sizeOf5
 v5:=Tryz.zeroValue5
 t9:=Tryz.underlying9
 a9:=Tryz.isAgg9
 z9:=Tryz.sizeOf9
 v9:=Tryz.zeroValue9
 t26:=Tryz.underlying151
 a26:=Tryz.isAgg151
 z26:=Tryz.sizeOf151
 v26:=Tryz.zeroValue151
 t27:=Tryz.underlying151
 a27:=Tryz.isAgg151
 z27:=Tryz.sizeOf151
 v27:=Tryz.zeroValue151
 t29:=Tryz.underlying9
 a29:=Tryz.isAgg9
 z29:=Tryz.sizeOf9
 v29:=Tryz.zeroValue9
 t32:=Tryz.underlying246
 a32:=Tryz.isAgg246
 z32:=Tryz.sizeOf246
 v32:=Tryz.zeroValue246
 t35:=Tryz.underlying261
 a35:=Tryz.isAgg261
 z35:=Tryz.sizeOf261
 v35:=Tryz.zeroValue261
 t36:=Tryz.underlying262
 a36:=Tryz.isAgg262
 z36:=Tryz.sizeOf262
 v36:=Tryz.zeroValue262
 t41:=Tryz.underlying204
 a41:=Tryz.isAgg204
 z41:=Tryz.sizeOf204
 v41:=Tryz.zeroValue204
 t44:=Tryz.underlying268
 a44:=Tryz.isAgg268
 z44:=Tryz.sizeOf268
 v44:=Tryz.zeroValue268
 t46:=Tryz.underlying270
 a46:=Tryz.isAgg270
 z46:=Tryz.sizeOf270
 v46:=Tryz.zeroValue270
 t53:=Tryz.underlying274
 a53:=Tryz.isAgg274
 z53:=Tryz.sizeOf274
 v53:=Tryz.zeroValue274
 t57:=Tryz.underlying193
 a57:=Tryz.isAgg193
 z57:=Tryz.sizeOf193
 v57:=Tryz.zeroValue193
 t63:=Tryz.underlying279
 a63:=Tryz.isAgg279
 z63:=Tryz.sizeOf279
 v63:=Tryz.zeroValue279
 t64:=Tryz.underlying280
 a64:=Tryz.isAgg280
 z64:=Tryz.sizeOf280
 v64:=Tryz.zeroValue280 }
theorem sortsL (m:Nat):AnyZ.SortsIn Tryz.prog sortedL_ren Fence.wide m :=
 ⟨fun blk off cap ss W hH hblk hsz=>callsIn_wide.2 (AnyM.slices_Sort_string sortL blk off cap ss W hH hblk hsz),fun p cap W=>callsIn_wide.2 (AnyM.slices_Sort_string_none sortL p cap W)⟩
theorem sortedL_calls {H:Type} (Bm b nn:Nat) (D0:DataW H) (R:Value→Option (DataW H × List MemPlace)) (w:World) (hBm:Bm < w.heap.size) (hm:w.cell? ⟨Bm,0,none⟩=some (.map (some b))) (hown:w.ownsMap Tryz.prog 9 R b nn D0) (hmax:Maps.size D0≤maxLen) (hbytes:Maps.size D0 * 16≤140737488355328) :
  Calls Tryz.prog 200 #[.func (.func 231) #[] #[.pointer (some ⟨Bm,0,none⟩)]] w fun e w'=>∃ (v:Value) (ss:List (List UInt8)),e=.returned v∧ss.Perm (strKeys D0) ∧
   w'.ownsRow w.heap.size 9 1 v ss.length ((ss.mergeSort (fun x y=>decide (x≤y))).map encStr)∧(v=.slice none 0 0↔ss=[])∧Below w.heap.size w w':=by
 have hseq:SeqGives Fence.wide 2 Tryz.prog 231 #[.pointer (some ⟨Bm,0,none⟩)] encStr (fun ss=>ss.Perm (strKeys D0)) (Maps.size D0) w :=
  AnyZ.keys_gives (ρ:=keysL_ren) { keysL with } Fence.wide _ trivial rfl (by omega) Bm b nn D0 _ hBm hm hown
 exact (callsIn_wide (n:=5)).1 (AnyZ.sorted_in sortedL Fence.wide 5 trivial trivial trivial trivial rfl (by omega) (sortsL _) (enters_of Tryz.func230 (by kernel_rfl) rfl) 231 #[.pointer (some ⟨Bm,0,none⟩)] trivial (enters_of Tryz.func231 (by kernel_rfl) rfl) _ _ hmax hbytes _ hseq)
end Go.Proofs.YtidkmoohgadjkaaGreat
namespace Go.Proofs.YtidkmoohgadjkaaGreat.E
open Go Go.Shelf Go.RowKit Go.Maps Go.Sort Go.Lib
def sortS (l:List ByteArray):List ByteArray:=((l.map fun s=>s.data.toList).mergeSort leB).map fun b=>⟨b.toArray⟩
theorem sorted_callOk {ν:Type} {g:ν→List PC} {va:Bool} {l:List (ByteArray × ν)} (hn:l.length≤1000000) (hk:∀ e∈l,e.1.size≤maxLen) :
  CallOk Tryz.prog 200 [.one (.fn 231 [0])] [.box [.mp 1],.mp .str va (l.map fun e=>([.v (.string e.1)],g e.2))] (.one (.own 2))
   [.box [.mp 1],.mp .str va (l.map fun e=>([.v (.string e.1)],g e.2)),.rows 1 ((sortS (l.map (·.1))).map fun s=>[.v (.string s)])]:=by
 refine ⟨⟨_,_,Tryz.func200,rfl,rfl⟩,fun w S inj vs hv hI hfree=>?_⟩
 have hfr:∀ b,2≤b→inj b=.free:=fun b h=>hfree b h
 cases hv with
 | cons h0 hv =>
 cases hv
 obtain ⟨Bm,cs,ee,hB0,hBS,hBh,hBc⟩:=hI.live 0
 obtain ⟨b,es,clock,hM0,hMS,hMh,hMst,hMe⟩:=hI.live 1
 obtain ⟨mv,rfl⟩:∃ mv,cs=[mv]:=by
  cases hBc with
  | cons _ hr=>cases hr; exact ⟨_,rfl⟩
 have hm0:VR w S inj (.mp 1) mv:=by
  cases hBc with
  | cons h _=>exact h
 have hmv:mv=.map (some b):=by
  cases hm0 with
  | mp h =>
   rcases h with h | ⟨g',h,rfl⟩
   ·rw [hM0] at h; cases h
   ·rw [hM0] at h; injection h with h; rw [h]
 subst hmv
 have hfn:=h0.cellv (by simp)
 cases hfn with
 | fn hf =>
 cases hf with
 | cons hp hr =>
 cases hr
 obtain ⟨a,rfl,hp⟩:=hp
 obtain rfl:a=some ⟨Bm,0,none⟩:=by
  rcases hp with h | ⟨g',h,rfl⟩
  ·rw [hB0] at h; cases h
  ·rw [hB0] at h; injection h with h; rw [h]
 have hBw:Bm < w.heap.size:=(Array.getElem?_eq_some_iff.1 hBh).1
 have hcell:w.cell? ⟨Bm,0,none⟩=some (.map (some b)):=by simp [World.cell?,hBh]
 let R:Value→Option (DataW Unit × List MemPlace):=fun _=>some (.nil,[])
 have hkeys:F2 (fun (e:ByteArray × ν) (m:MapEntry)=>m.key=.string e.1) l es.toList:=by
  have:∀ {l:List (ByteArray × ν)} {ms:List MapEntry},F2 (fun (x:List PC × List PC) (m:MapEntry)=>KeyV .str x.1 m.key∧ValV w S va x.2 m.val) (l.map fun e=>([.v (.string e.1)],g e.2)) ms→F2 (fun (e:ByteArray × ν) (m:MapEntry)=>m.key=.string e.1) l ms:=by
   intro l
   induction l with
   | nil=>intro ms h; cases h; exact .nil
   | cons e l ih =>
    intro ms h
    cases h with
    | cons h1 h2 =>
     refine .cons ?_ (ih h2)
     obtain ⟨s,hs1,hs2⟩:=h1.1
     injection hs1 with hs1 _
     injection hs1 with hs1
     injection hs1 with hs1
     rw [hs2,hs1]
  exact this hMe
 have hlen:l.length=es.size:=by have:=hkeys.len; simpa using this
 have hrd:∀ {l:List (ByteArray × ν)} {ms:List MapEntry},F2 (fun (e:ByteArray × ν) (m:MapEntry)=>m.key=.string e.1) l ms→(∀ e∈l,e.1.size≤maxLen)→(∀ x∈ms,∃ y,Go.WideElems.rd Tryz.prog 9 R x=some y)∧ms.map (Go.WideElems.rg Tryz.prog 9 R)=l.map fun e=>(Lit.string e.1.data.toList,DataW.nil):=by
  intro l ms h
  induction h with
  | nil=>intro _; exact ⟨by simp,rfl⟩
  | @cons e m l ms h1 _ ih =>
   intro hk
   obtain ⟨i1,i2⟩:=ih fun e he=>hk e (by simp [he])
   have hy:Go.WideElems.rd Tryz.prog 9 R m=some (.string e.1.data.toList,.nil):=by
    unfold Go.WideElems.rd
    rw [h1,Go.WideMaps.keyOf_string_mk Tryz.underlying9 (hk e (by simp))]; rfl
   refine ⟨fun x hx=>?_,?_⟩
   ·rcases List.mem_cons.1 hx with rfl | hx
    ·exact ⟨_,hy⟩
    ·exact i1 x hx
   ·rw [List.map_cons,List.map_cons,i2,Go.WideElems.rg_of hy]
 obtain ⟨r1,r2⟩:=hrd hkeys hk
 have hsz:es.size≤maxLen:=by rw [←hlen]; unfold maxLen; omega
 have hown:w.ownsMap Tryz.prog 9 R b es.size (.map ((es.toList.map (Go.WideElems.rg Tryz.prog 9 R)).foldr DataW.insert [])):=⟨es,clock,hMh,⟨hsz,hMst,r1⟩,Nat.le_refl _,rfl⟩
 have hD:Maps.size (.map ((es.toList.map (Go.WideElems.rg Tryz.prog 9 R)).foldr DataW.insert []))=l.length:=by
  rw [Maps.size_eq,DataW.length_sorted,List.length_map,Array.length_toList,hlen]
 refine (sortedL_calls Bm b es.size _ R w hBw hcell hown (by rw [hD,hlen]; exact hsz) (by rw [hD]; omega)).mono ?_
 rintro e w' ⟨v',ss,rfl,hperm,hrow,hnil,hbel⟩
 have hks:ss.mergeSort leB=(l.map fun e=>e.1.data.toList).mergeSort leB:=by
  refine mergeSort_of_perm (hperm.trans ?_)
  rw [r2]
  show (List.map _ (List.foldr DataW.insert [] _)).Perm _
  refine ((Go.WideShapes.sorted_perm _).map _).trans ?_
  rw [List.map_map]
  exact List.Perm.refl _
 have hG:=below_grow (S:=S) hI.lt hbel
 have hsl:ss.length=(sortS (l.map (·.1))).length:=by
  unfold sortS
  rw [List.length_map,List.map_map]
  have:=congrArg List.length hks
  simpa using this
 have hrows:F2 (PR w' S) ((sortS (l.map (·.1))).map fun s=>[PC.v (.string s)]).flatten ((ss.mergeSort (fun x y=>decide (x≤y))).map encStr):=by
  have e1:ss.mergeSort (fun x y=>decide (x≤y))=(l.map fun e=>e.1.data.toList).mergeSort leB:=hks
  rw [e1]
  have e2:(l.map (·.1)).map (fun s=>s.data.toList)=l.map fun e=>e.1.data.toList:=by rw [List.map_map]; rfl
  unfold sortS
  rw [e2,List.map_map]
  generalize (l.map fun e=>e.1.data.toList).mergeSort leB=q
  induction q with
  | nil=>exact .nil
  | cons x q ih=>exact .cons (.v rfl) ih
 obtain ⟨a',c',g',rfl,hR,hg⟩:=own_row (S:=S) (l:=(sortS (l.map (·.1))).map fun s=>[PC.v (.string s)]) hI.lt hrow (by rw [List.length_map,hsl]) (by simp) (by decide) hrows
 have hle:=injAt_le (l:=.row (.slice a' ss.length c') g') (hfr 2 (Nat.le_refl _))
 refine ⟨_,S,injAt inj 2 (.row (.slice a' ss.length c') g'),rfl,hG,hle,fun b' hb' h=>?_,.ofc (.own (.inr ⟨g',by rw [injAt_same]; rfl⟩)),?_⟩
 ·rw [injAt_ne (by rcases h with h | h<;>simp at h<;>omega)]; exact hb'
 ·have e:E.look [.box [.mp 1],.mp .str va (l.map fun e=>([.v (.string e.1)],g e.2)),.rows 1 ((sortS (l.map (·.1))).map fun s=>[.v (.string s)])]=setB (E.look [.box [.mp 1],.mp .str va (l.map fun e=>([.v (.string e.1)],g e.2))]) 2 (.rows 1 ((sortS (l.map (·.1))).map fun s=>[.v (.string s)])):=by
   funext b'
   unfold setB
   split
   ·next h=>subst h; rfl
   ·next h=>rw [look_eq,look_eq]; match b',h with | 0,_=>rfl | 1,_=>rfl | 2,h=>exact absurd rfl h | b' + 3,_=>rfl
  rw [e]
  refine hI.set hG hle (fun _ h=>injAt_ne h) injAt_same (fun b' x _ hd hx=>?_) ⟨_,_,rfl,hR⟩ (fun _ b' x _ hd h1 h2=>?_) (fun x h=>Nat.lt_of_lt_of_le (hI.lt x h) hG.size)
  ·obtain ⟨h1,h2⟩:=(hI.live b').blk hd hx
   exact ⟨hbel.block x h2,h1⟩
  ·have:=((hI.live b').blk hd h2).2
   have:=hg x h1
   omega
end Go.Proofs.YtidkmoohgadjkaaGreat.E
namespace Go.Proofs.YtidkmoohgadjkaaGreat
open Go E
def sorted_s {ν:Type} (l:List (ByteArray × ν)):Option (List ByteArray):=chk (decide (l.length≤1000000)&&l.all fun e=>decide (e.1.size≤maxLen)) (some (sortS (l.map (·.1))))
theorem sorted_c {ν:Type} {g:ν→List PC} {va:Bool} {X:Task→Prop} (hX:Closed X) {l:List (ByteArray × ν)} {r:List ByteArray} {Q:A→List Blk→Prop} (h:sorted_s l=some r) (hQ:Q (.one (.own 2)) [.box [.mp 1],.mp .str va (l.map fun e=>(srw e.1,g e.2)),.rows 1 (r.map srw)]) :
  X (.call 200 [.one (.fn 231 [0])] [.box [.mp 1],.mp .str va (l.map fun e=>(srw e.1,g e.2))] Q):=by
 unfold sorted_s at h
 obtain ⟨d,h⟩:=chk_some h
 injection h with h; subst h
 rw [Bool.and_eq_true,List.all_eq_true] at d
 exact prim_call hX (sorted_callOk (of_decide_eq_true d.1) fun e he=>of_decide_eq_true (d.2 e he)) hQ
end Go.Proofs.YtidkmoohgadjkaaGreat
set_option maxHeartbeats 0
namespace Go.Proofs.YtidkmoohgadjkaaGreat
open Go E
noncomputable section
open Pred
def list_find_l1 (p0:List Item) (p1:ByteArray):Nat→Int→Int→Option (Int × Bool)
  | 0,_,_=>none
  | fl1 + 1,v1,v2 =>
  (br (ltI v2 v1)
   (bnd (atL p0 (wr .i64 (shrI .u64 (wr .u64 (wr .i64 (v2 + v1))) 1))) fun x4 =>
    (br (!eqS x4.id x4.id)
     (br (!eqS p1 p1)
      (list_find_l1 p0 p1 fl1 (wr .i64 (shrI .u64 (wr .u64 (wr .i64 (v2 + v1))) 1)) v2)
      (list_find_l1 p0 p1 fl1 v1 (wr .i64 ((wr .i64 (shrI .u64 (wr .u64 (wr .i64 (v2 + v1))) 1)) + 1))))
     (br (!eqS p1 p1)
      (list_find_l1 p0 p1 fl1 (wr .i64 (shrI .u64 (wr .u64 (wr .i64 (v2 + v1))) 1)) v2)
      (br (ltS x4.id p1)
       (list_find_l1 p0 p1 fl1 v1 (wr .i64 ((wr .i64 (shrI .u64 (wr .u64 (wr .i64 (v2 + v1))) 1)) + 1)))
       (br (!(ltS x4.id p1 || eqS x4.id p1))
        (list_find_l1 p0 p1 fl1 (wr .i64 (shrI .u64 (wr .u64 (wr .i64 (v2 + v1))) 1)) v2)
        (list_find_l1 p0 p1 fl1 (wr .i64 (shrI .u64 (wr .u64 (wr .i64 (v2 + v1))) 1)) v2))))))
   (br (ltI v2 (p0.length:Int))
    (bnd (atL p0 v2) fun x12 =>
     (br (!eqS x12.id x12.id)
      (br (!eqS p1 p1)
       (some (v2,true))
       (some (v2,false)))
      (br (!eqS p1 p1)
       (some (v2,false))
       (br (ltS x12.id p1)
        (some (v2,false))
        (br (!(ltS x12.id p1 || eqS x12.id p1))
         (some (v2,false))
         (some (v2,true)))))))
    (some (v2,false))))
def list_find_s (p0:List Item) (p1:ByteArray):Option (Int × Bool) :=
 ((list_find_l1 p0 p1) fuelN (p0.length:Int) 0)
def list_Get_s (p0:List Item) (p1:ByteArray):Option (Item × Bool) :=
 (bnd (list_find_s p0 p1) fun y1 =>
  (br y1.2
   (bnd (atL p0 y1.1) fun x4 =>
    some (x4,true))
   (some ((Item.mk ⟨#[]⟩ 0 0 0 ⟨#[]⟩ 0 0 0 false),false))))
def list_Put_s (p0:List Item) (p1:Item):Option ((List Item)) :=
 (bnd (list_find_s p0 p1.id) fun y1 =>
  (bnd (clone_s p0) fun y3 =>
   (br y1.2
    (bnd (atL y3 y1.1) fun x6 =>
     some (y3.set y1.1.toNat p1))
    (bnd (ins_s y3 y1.1 p1) fun y8 =>
     some y8))))
def list_Drop_s (p0:List Item) (p1:ByteArray):Option ((List Item)) :=
 (bnd (clone_s p0) fun y1 =>
  (bnd (list_find_s p0 p1) fun y3 =>
   (br y3.2
    (bnd (del_s y1 y3.1) fun y6 =>
     some y6)
    (some y1))))
def list_Both_l1:Nat→(List Item)→(List Item)→(List Item)→Option ((List Item))
  | 0,_,_,_=>none
  | fl1 + 1,v1,v2,v3 =>
  (br (ltI 0 (v1.length:Int))
   (br (ltI 0 (v3.length:Int))
    (bnd (atL v1 0) fun x6 =>
     (bnd (atL v3 0) fun x8 =>
      (br (ltS x6.id x8.id)
       (chk (roomL v2.length 1)
        (chk (leI 1 (v1.length:Int))
         (list_Both_l1 fl1 (v1.drop 1) (v2++[x6]) v3)))
       (br (!(ltS x6.id x8.id || eqS x6.id x8.id))
        (chk (roomL v2.length 1)
         (chk (leI 1 (v3.length:Int))
          (list_Both_l1 fl1 v1 (v2++[x8]) (v3.drop 1))))
        (bnd (item_Compare_s x8 x6) fun y16 =>
         (br (ltI 0 y16)
          (chk (leI 1 (v1.length:Int))
           (list_Both_l1 fl1 (v1.drop 1) v2 v3))
          (chk (leI 1 (v3.length:Int))
           (list_Both_l1 fl1 v1 v2 (v3.drop 1)))))))))
    (chk (roomL v2.length v1.length)
     (chk (roomL (v2++v1).length v3.length)
      (some ((v2++v1)++v3)))))
   (chk (roomL v2.length v1.length)
    (chk (roomL (v2++v1).length v3.length)
     (some ((v2++v1)++v3)))))
def list_Both_s (p0:List Item) (p1:List Item):Option ((List Item)) :=
 ((list_Both_l1) fuelN p0 ([]:List Item) p1)
variable {X:Task→Prop} (hX:Closed X) {Q:A→List Blk→Prop}
include hX
theorem list_find_c  {p0:List Item} {p1:ByteArray} {r:Int × Bool} (h:list_find_s p0 p1=some r) (hQ:Q (.tup [iv r.1,.one (.p (.v (.bool r.2)))]) []):X (.call 166 [.one (.p (.sl (p0.map Item.row))),.one (.p (.v (.string p1)))] [] Q):=by
  have K:=fun a (e:some a=some r)=>ret_some (f:=fun y=>.tup [iv y.1,.one (.p (.v (.bool y.2)))]) (g:=fun y=>[]) e hQ
  unfold list_find_s at h
  refine call_intro hX Tryz.func166 rfl rfl ?_
  conv=>whnf
  repeat((first|refine dw ?_);conv=>whnf)
  refine call_intro hX Tryz.func211 rfl rfl ?_
  conv=>whnf
  repeat((first|refine dw ?_|refine eqv_to (map_len _) ?_);conv=>whnf)
  refine loop_fuel2 (fun (v1:Int) (v2:Int)=>pad [(0,.one (.p (.sl (p0.map Item.row)))),(0,.one (.p (.v (.string p1)))),(0,.one (.fn 212 [])),(5,iv (p0.length:Int)),(0,iv v2),(0,iv v1)] 38) (fun (v1:Int) (v2:Int)=>[]) _ (fun _ _ h=>?_) (fun fl1 v1 v2 h ih1=>?_) fuelN (p0.length:Int) 0 h
  ·rw [list_find_l1] at h
   cases h
  ·rw [list_find_l1] at h
   refine loop_intro hX ?_
   conv=>whnf
   repeat((first|refine dw ?_);conv=>whnf)
   revert h
   refine brk (fun c3 h=>?_) (fun c3 h=>?_)
   ·revert h
    refine bndk fun x4 a5 h=>?_
    conv=>whnf
    repeat((first|refine dw ?_|refine bct c3 ?_|refine bct (at_in a5) ?_|refine bct (andt (at_in a5) rfl) ?_|refine row_in (at_row a5) ?_|refine bct (andt (at_in (at_nat a5)) rfl) ?_|refine row_in (at_row (at_nat a5)) ?_);conv=>whnf)
    refine call_intro hX Tryz.func212 rfl rfl ?_
    conv=>whnf
    repeat((first|refine dw ?_);conv=>whnf)
    refine call_intro hX Tryz.func213 rfl rfl ?_
    conv=>whnf
    repeat((first|refine dw ?_);conv=>whnf)
    refine call_intro hX Tryz.func240 rfl rfl ?_
    conv=>whnf
    repeat((first|refine dw ?_);conv=>whnf)
    refine call_intro hX Tryz.func240 rfl rfl ?_
    conv=>whnf
    repeat((first|refine dw ?_);conv=>whnf)
    revert h
    refine brk (fun c6 h=>?_) (fun c6 h=>?_)
    ·conv=>whnf
     repeat((first|refine dw ?_|refine bct c6 ?_);conv=>whnf)
     revert h
     refine brk (fun c7 h=>?_) (fun c7 h=>?_)
     ·conv=>whnf
      repeat((first|refine dw ?_|refine bct c7 ?_);conv=>whnf)
      exact ih1 (wr .i64 (shrI .u64 (wr .u64 (wr .i64 (v2 + v1))) 1)) v2 h
     ·conv=>whnf
      repeat((first|refine dw ?_|refine bcf c7 ?_);conv=>whnf)
      exact ih1 v1 (wr .i64 ((wr .i64 (shrI .u64 (wr .u64 (wr .i64 (v2 + v1))) 1)) + 1)) h
    ·conv=>whnf
     repeat((first|refine dw ?_|refine bcf c6 ?_);conv=>whnf)
     revert h
     refine brk (fun c8 h=>?_) (fun c8 h=>?_)
     ·conv=>whnf
      repeat((first|refine dw ?_|refine bct c8 ?_);conv=>whnf)
      exact ih1 (wr .i64 (shrI .u64 (wr .u64 (wr .i64 (v2 + v1))) 1)) v2 h
     ·conv=>whnf
      repeat((first|refine dw ?_|refine bcf c8 ?_);conv=>whnf)
      revert h
      refine brk (fun c9 h=>?_) (fun c9 h=>?_)
      ·conv=>whnf
       repeat((first|refine dw ?_|refine bct c9 ?_);conv=>whnf)
       exact ih1 v1 (wr .i64 ((wr .i64 (shrI .u64 (wr .u64 (wr .i64 (v2 + v1))) 1)) + 1)) h
      ·conv=>whnf
       repeat((first|refine dw ?_|refine bcf c9 ?_);conv=>whnf)
       revert h
       refine brk (fun c10 h=>?_) (fun c10 h=>?_)
       ·conv=>whnf
        repeat((first|refine dw ?_|refine bct c10 ?_);conv=>whnf)
        exact ih1 (wr .i64 (shrI .u64 (wr .u64 (wr .i64 (v2 + v1))) 1)) v2 h
       ·conv=>whnf
        repeat((first|refine dw ?_|refine bcf c10 ?_);conv=>whnf)
        exact ih1 (wr .i64 (shrI .u64 (wr .u64 (wr .i64 (v2 + v1))) 1)) v2 h
   ·conv=>whnf
    repeat((first|refine dw ?_|refine bcf c3 ?_);conv=>whnf)
    revert h
    refine brk (fun c11 h=>?_) (fun c11 h=>?_)
    ·revert h
     refine bndk fun x12 a13 h=>?_
     conv=>whnf
     repeat((first|refine dw ?_|refine bct c11 ?_|refine bct (at_in a13) ?_|refine bct (andt (at_in a13) rfl) ?_|refine row_in (at_row a13) ?_|refine bct (andt (at_in (at_nat a13)) rfl) ?_|refine row_in (at_row (at_nat a13)) ?_);conv=>whnf)
     refine call_intro hX Tryz.func212 rfl rfl ?_
     conv=>whnf
     repeat((first|refine dw ?_);conv=>whnf)
     refine call_intro hX Tryz.func213 rfl rfl ?_
     conv=>whnf
     repeat((first|refine dw ?_);conv=>whnf)
     refine call_intro hX Tryz.func240 rfl rfl ?_
     conv=>whnf
     repeat((first|refine dw ?_);conv=>whnf)
     refine call_intro hX Tryz.func240 rfl rfl ?_
     conv=>whnf
     repeat((first|refine dw ?_);conv=>whnf)
     revert h
     refine brk (fun c14 h=>?_) (fun c14 h=>?_)
     ·conv=>whnf
      repeat((first|refine dw ?_|refine bct c14 ?_);conv=>whnf)
      revert h
      refine brk (fun c15 h=>?_) (fun c15 h=>?_)
      ·conv=>whnf
       repeat((first|refine dw ?_|refine bct c15 ?_|refine bct c11 ?_);conv=>whnf)
       exact K _ h
      ·conv=>whnf
       repeat((first|refine dw ?_|refine bcf c15 ?_|refine bct c11 ?_);conv=>whnf)
       exact K _ h
     ·conv=>whnf
      repeat((first|refine dw ?_|refine bcf c14 ?_);conv=>whnf)
      revert h
      refine brk (fun c16 h=>?_) (fun c16 h=>?_)
      ·conv=>whnf
       repeat((first|refine dw ?_|refine bct c16 ?_|refine bct c11 ?_);conv=>whnf)
       exact K _ h
      ·conv=>whnf
       repeat((first|refine dw ?_|refine bcf c16 ?_);conv=>whnf)
       revert h
       refine brk (fun c17 h=>?_) (fun c17 h=>?_)
       ·conv=>whnf
        repeat((first|refine dw ?_|refine bct c17 ?_|refine bct c11 ?_);conv=>whnf)
        exact K _ h
       ·conv=>whnf
        repeat((first|refine dw ?_|refine bcf c17 ?_);conv=>whnf)
        revert h
        refine brk (fun c18 h=>?_) (fun c18 h=>?_)
        ·conv=>whnf
         repeat((first|refine dw ?_|refine bct c18 ?_|refine bct c11 ?_);conv=>whnf)
         exact K _ h
        ·conv=>whnf
         repeat((first|refine dw ?_|refine bcf c18 ?_|refine bct c11 ?_);conv=>whnf)
         exact K _ h
    ·conv=>whnf
     repeat((first|refine dw ?_|refine bcf c11 ?_);conv=>whnf)
     exact K _ h
theorem list_Get_c  {p0:List Item} {p1:ByteArray} {r:Item × Bool} (h:list_Get_s p0 p1=some r) (hQ:Q (.tup [.agg (Item.cs r.1),.one (.p (.v (.bool r.2)))]) []):X (.call 95 [.one (.p (.sl (p0.map Item.row))),.one (.p (.v (.string p1)))] [] Q):=by
  have K:=fun a (e:some a=some r)=>ret_some (f:=fun y=>.tup [.agg (Item.cs y.1),.one (.p (.v (.bool y.2)))]) (g:=fun y=>[]) e hQ
  unfold list_Get_s at h
  refine call_intro hX Tryz.func95 rfl rfl ?_
  revert h
  refine bndk fun y1 e2 h=>?_
  conv=>whnf
  repeat((first|refine dw ?_);conv=>whnf)
  refine list_find_c hX e2 ?_
  conv=>whnf
  repeat((first|refine dw ?_);conv=>whnf)
  revert h
  refine brk (fun c3 h=>?_) (fun c3 h=>?_)
  ·revert h
   refine bndk fun x4 a5 h=>?_
   conv=>whnf
   repeat((first|refine dw ?_|refine bct c3 ?_|refine bct (at_in a5) ?_|refine bct (andt (at_in a5) rfl) ?_|refine row_in (at_row a5) ?_|refine bct (andt (at_in (at_nat a5)) rfl) ?_|refine row_in (at_row (at_nat a5)) ?_);conv=>whnf)
   exact K _ h
  ·conv=>whnf
   repeat((first|refine dw ?_|refine bcf c3 ?_);conv=>whnf)
   exact K _ h
theorem list_Put_c  {p0:List Item} {p1:Item} {r:(List Item)} (h:list_Put_s p0 p1=some r) (hQ:Q (.one (.p (.sl (r.map Item.row)))) []):X (.call 99 [.one (.p (.sl (p0.map Item.row))),.agg (Item.cs p1)] [] Q):=by
  have K:=fun a (e:some a=some r)=>ret_some (f:=fun y=>.one (.p (.sl (y.map Item.row)))) (g:=fun y=>[]) e hQ
  unfold list_Put_s at h
  refine call_nz hX ?_
  conv=>whnf
  refine call_intro hX Tryz.func99 rfl rfl ?_
  revert h
  refine bndk fun y1 e2 h=>?_
  conv=>whnf
  repeat((first|refine dw ?_);conv=>whnf)
  refine list_find_c hX e2 ?_
  revert h
  refine bndk fun y3 e4 h=>?_
  conv=>whnf
  repeat((first|refine dw ?_);conv=>whnf)
  refine clone_c (f:=Item.row) (k:=8) (fun _=>rfl) (by decide) hX e4 ?_
  conv=>whnf
  repeat((first|refine dw ?_);conv=>whnf)
  revert h
  refine brk (fun c5 h=>?_) (fun c5 h=>?_)
  ·revert h
   refine bndk fun x6 a7 h=>?_
   conv=>whnf
   repeat((first|refine dw ?_|refine bct c5 ?_|refine bct (at_in a7) ?_|refine bct (andt (at_in a7) rfl) ?_|refine row_in (at_row a7) ?_|refine bct (andt (at_in (at_nat a7)) rfl) ?_|refine row_in (at_row (at_nat a7)) ?_|refine eqv_to (set_map (f:=Item.row) y3 y1.1.toNat p1) ?_);conv=>whnf)
   exact K _ h
  ·revert h
   refine bndk fun y8 e9 h=>?_
   conv=>whnf
   repeat((first|refine dw ?_|refine bcf c5 ?_);conv=>whnf)
   refine Or.inr (Or.inr ?_)
   conv=>whnf
   refine ins_c hX (l:=y3) (i:=y1.1) (x:=p1) e9 ?_
   conv=>whnf
   repeat((first|refine dw ?_);conv=>whnf)
   exact K _ h
theorem list_Drop_c  {p0:List Item} {p1:ByteArray} {r:(List Item)} (h:list_Drop_s p0 p1=some r) (hQ:Q (.one (.p (.sl (r.map Item.row)))) []):X (.call 98 [.one (.p (.sl (p0.map Item.row))),.one (.p (.v (.string p1)))] [] Q):=by
  have K:=fun a (e:some a=some r)=>ret_some (f:=fun y=>.one (.p (.sl (y.map Item.row)))) (g:=fun y=>[]) e hQ
  unfold list_Drop_s at h
  refine call_nz hX ?_
  conv=>whnf
  refine call_intro hX Tryz.func98 rfl rfl ?_
  revert h
  refine bndk fun y1 e2 h=>?_
  conv=>whnf
  repeat((first|refine dw ?_);conv=>whnf)
  refine clone_c (f:=Item.row) (k:=8) (fun _=>rfl) (by decide) hX e2 ?_
  revert h
  refine bndk fun y3 e4 h=>?_
  conv=>whnf
  repeat((first|refine dw ?_);conv=>whnf)
  refine list_find_c hX e4 ?_
  conv=>whnf
  repeat((first|refine dw ?_);conv=>whnf)
  revert h
  refine brk (fun c5 h=>?_) (fun c5 h=>?_)
  ·revert h
   refine bndk fun y6 e7 h=>?_
   conv=>whnf
   repeat((first|refine dw ?_|refine bct c5 ?_);conv=>whnf)
   refine Or.inr (Or.inr ?_)
   conv=>whnf
   refine del_c hX (l:=y1) (i:=y3.1) e7 ?_
   conv=>whnf
   repeat((first|refine dw ?_);conv=>whnf)
   exact K _ h
  ·conv=>whnf
   repeat((first|refine dw ?_|refine bcf c5 ?_);conv=>whnf)
   exact K _ h
theorem list_Both_c  {p0:List Item} {p1:List Item} {r:(List Item)} (h:list_Both_s p0 p1=some r) (hQ:Q (.one (.p (.sl (r.map Item.row)))) []):X (.call 84 [.one (.p (.sl (p0.map Item.row))),.one (.p (.sl (p1.map Item.row)))] [] Q):=by
  have K:=fun a (e:some a=some r)=>ret_some (f:=fun y=>.one (.p (.sl (y.map Item.row)))) (g:=fun y=>[]) e hQ
  unfold list_Both_s at h
  refine call_nz hX ?_
  conv=>whnf
  refine call_intro hX Tryz.func84 rfl rfl ?_
  conv=>whnf
  repeat((first|refine dw ?_);conv=>whnf)
  refine loop_k hX [8] ?_
  conv=>whnf
  refine loop_fuel3 (fun (v1:List Item) (v2:List Item) (v3:List Item)=>pad [(0,.one (.p (.sl (v1.map Item.row)))),(0,.one (.p (.sl (v3.map Item.row)))),(3,.one (.own 0))] 62) (fun (v1:List Item) (v2:List Item) (v3:List Item)=>[.rows 8 (v2.map Item.row)]) _ (fun _ _ _ h=>?_) (fun fl1 v1 v2 v3 h ih1=>?_) fuelN p0 ([]:List Item) p1 h
  ·rw [list_Both_l1] at h
   cases h
  ·rw [list_Both_l1] at h
   refine loop_intro hX ?_
   conv=>whnf
   repeat((first|refine dw ?_|refine eqv_to (map_len _) ?_);conv=>whnf)
   revert h
   refine brk (fun c4 h=>?_) (fun c4 h=>?_)
   ·conv=>whnf
    repeat((first|refine dw ?_|refine bct c4 ?_|refine eqv_to (map_len _) ?_);conv=>whnf)
    revert h
    refine brk (fun c5 h=>?_) (fun c5 h=>?_)
    ·revert h
     refine bndk fun x6 a7 h=>?_
     revert h
     refine bndk fun x8 a9 h=>?_
     conv=>whnf
     repeat((first|refine dw ?_|refine bct c5 ?_|refine bct (at_in a7) ?_|refine bct (andt (at_in a7) rfl) ?_|refine row_in (at_row a7) ?_|refine bct (andt (at_in (at_nat a7)) rfl) ?_|refine row_in (at_row (at_nat a7)) ?_|refine bct (at_in a9) ?_|refine bct (andt (at_in a9) rfl) ?_|refine row_in (at_row a9) ?_|refine bct (andt (at_in (at_nat a9)) rfl) ?_|refine row_in (at_row (at_nat a9)) ?_);conv=>whnf)
     revert h
     refine brk (fun c10 h=>?_) (fun c10 h=>?_)
     ·revert h
      refine chkk fun c11 h=>?_
      revert h
      refine chkk fun c12 h=>?_
      conv=>whnf
      repeat((first|refine dw ?_|refine bct c10 ?_|refine bct (at_in a7) ?_|refine bct (andt (at_in a7) rfl) ?_|refine row_in (at_row a7) ?_|refine bct (andt (at_in (at_nat a7)) rfl) ?_|refine row_in (at_row (at_nat a7)) ?_|refine bct (room_map c11 rfl rfl rfl rfl) ?_|refine eqv_to (cat_one (f:=Item.row) v2 x6) ?_|refine bct (drop_ok (f:=Item.row) 1 (sz:=8) c12 (fun _=>rfl)) ?_|refine eqv_to (in_drop (f:=Item.row) v1 1) ?_);conv=>whnf)
      exact ih1 (v1.drop 1) (v2++[x6]) v3 h
     ·conv=>whnf
      repeat((first|refine dw ?_|refine bcf c10 ?_|refine bct (at_in a7) ?_|refine bct (andt (at_in a7) rfl) ?_|refine row_in (at_row a7) ?_|refine bct (andt (at_in (at_nat a7)) rfl) ?_|refine row_in (at_row (at_nat a7)) ?_|refine bct (at_in a9) ?_|refine bct (andt (at_in a9) rfl) ?_|refine row_in (at_row a9) ?_|refine bct (andt (at_in (at_nat a9)) rfl) ?_|refine row_in (at_row (at_nat a9)) ?_);conv=>whnf)
      revert h
      refine brk (fun c13 h=>?_) (fun c13 h=>?_)
      ·revert h
       refine chkk fun c14 h=>?_
       revert h
       refine chkk fun c15 h=>?_
       conv=>whnf
       repeat((first|refine dw ?_|refine bct c13 ?_|refine bct (at_in a9) ?_|refine bct (andt (at_in a9) rfl) ?_|refine row_in (at_row a9) ?_|refine bct (andt (at_in (at_nat a9)) rfl) ?_|refine row_in (at_row (at_nat a9)) ?_|refine bct (room_map c14 rfl rfl rfl rfl) ?_|refine eqv_to (cat_one (f:=Item.row) v2 x8) ?_|refine bct (drop_ok (f:=Item.row) 1 (sz:=8) c15 (fun _=>rfl)) ?_|refine eqv_to (in_drop (f:=Item.row) v3 1) ?_);conv=>whnf)
       exact ih1 v1 (v2++[x8]) (v3.drop 1) h
      ·revert h
       refine bndk fun y16 e17 h=>?_
       conv=>whnf
       repeat((first|refine dw ?_|refine bcf c13 ?_|refine bct (at_in a9) ?_|refine bct (andt (at_in a9) rfl) ?_|refine row_in (at_row a9) ?_|refine bct (andt (at_in (at_nat a9)) rfl) ?_|refine row_in (at_row (at_nat a9)) ?_|refine bct (at_in a7) ?_|refine bct (andt (at_in a7) rfl) ?_|refine row_in (at_row a7) ?_|refine bct (andt (at_in (at_nat a7)) rfl) ?_|refine row_in (at_row (at_nat a7)) ?_);conv=>whnf)
       refine item_Compare_c hX e17 ?_
       conv=>whnf
       repeat((first|refine dw ?_);conv=>whnf)
       revert h
       refine brk (fun c18 h=>?_) (fun c18 h=>?_)
       ·revert h
        refine chkk fun c19 h=>?_
        conv=>whnf
        repeat((first|refine dw ?_|refine bct c18 ?_|refine bct (drop_ok (f:=Item.row) 1 (sz:=8) c19 (fun _=>rfl)) ?_|refine eqv_to (in_drop (f:=Item.row) v1 1) ?_);conv=>whnf)
        exact ih1 (v1.drop 1) v2 v3 h
       ·revert h
        refine chkk fun c20 h=>?_
        conv=>whnf
        repeat((first|refine dw ?_|refine bcf c18 ?_|refine bct (drop_ok (f:=Item.row) 1 (sz:=8) c20 (fun _=>rfl)) ?_|refine eqv_to (in_drop (f:=Item.row) v3 1) ?_);conv=>whnf)
        exact ih1 v1 v2 (v3.drop 1) h
    ·revert h
     refine chkk fun c21 h=>?_
     revert h
     refine chkk fun c22 h=>?_
     conv=>whnf
     repeat((first|refine dw ?_|refine bcf c5 ?_|refine bct (room_map c21 (List.length_map ..) rfl (rowsOk_map (f:=Item.row) (sz:=8) (fun _=>rfl) _) rfl) ?_|refine eqv_to (cat_map (f:=Item.row) v2 _) ?_|refine bct (room_map c22 (List.length_map ..) rfl (rowsOk_map (f:=Item.row) (sz:=8) (fun _=>rfl) _) rfl) ?_|refine eqv_to (cat_map (f:=Item.row) (v2++v1) _) ?_);conv=>whnf)
     exact K _ h
   ·revert h
    refine chkk fun c23 h=>?_
    revert h
    refine chkk fun c24 h=>?_
    conv=>whnf
    repeat((first|refine dw ?_|refine bcf c4 ?_|refine bct (room_map c23 (List.length_map ..) rfl (rowsOk_map (f:=Item.row) (sz:=8) (fun _=>rfl) _) rfl) ?_|refine eqv_to (cat_map (f:=Item.row) v2 _) ?_|refine bct (room_map c24 (List.length_map ..) rfl (rowsOk_map (f:=Item.row) (sz:=8) (fun _=>rfl) _) rfl) ?_|refine eqv_to (cat_map (f:=Item.row) (v2++v1) _) ?_);conv=>whnf)
    exact K _ h
end
end Go.Proofs.YtidkmoohgadjkaaGreat
set_option maxHeartbeats 0
namespace Go.Proofs.YtidkmoohgadjkaaGreat
open Go E
noncomputable section
open Pred
def know_beyond_j8 (v1:Int) (v2:Int) (v3:Int) (v4:Int) (v5:Int) (v6:Int) (v7:Int) (v8:Int):Option (V8) :=
 some (V8.mk v1 v2 v3 v4 v5 v6 v7 v8)
def know_beyond_j7 (p0:V8) (p1:V8) (v1:Int) (v2:Int) (v3:Int) (v4:Int) (v5:Int) (v6:Int) (v7:Int):Option (V8) :=
 (br (leI p0.x7 p1.x7)
  (know_beyond_j8 v1 v2 v3 v4 v5 v6 v7 0)
  (br (leI p0.x7 0)
   (know_beyond_j8 v1 v2 v3 v4 v5 v6 v7 0)
   (know_beyond_j8 v1 v2 v3 v4 v5 v6 v7 p0.x7)))
def know_beyond_j6 (p0:V8) (p1:V8) (v1:Int) (v2:Int) (v3:Int) (v4:Int) (v5:Int) (v6:Int):Option (V8) :=
 (br (leI p0.x6 p1.x6)
  (know_beyond_j7 p0 p1 v1 v2 v3 v4 v5 v6 0)
  (br (leI p0.x6 0)
   (know_beyond_j7 p0 p1 v1 v2 v3 v4 v5 v6 0)
   (know_beyond_j7 p0 p1 v1 v2 v3 v4 v5 v6 p0.x6)))
def know_beyond_j5 (p0:V8) (p1:V8) (v1:Int) (v2:Int) (v3:Int) (v4:Int) (v5:Int):Option (V8) :=
 (br (leI p0.x5 p1.x5)
  (know_beyond_j6 p0 p1 v1 v2 v3 v4 v5 0)
  (br (leI p0.x5 0)
   (know_beyond_j6 p0 p1 v1 v2 v3 v4 v5 0)
   (know_beyond_j6 p0 p1 v1 v2 v3 v4 v5 p0.x5)))
def know_beyond_j4 (p0:V8) (p1:V8) (v1:Int) (v2:Int) (v3:Int) (v4:Int):Option (V8) :=
 (br (leI p0.x4 p1.x4)
  (know_beyond_j5 p0 p1 v1 v2 v3 v4 0)
  (br (leI p0.x4 0)
   (know_beyond_j5 p0 p1 v1 v2 v3 v4 0)
   (know_beyond_j5 p0 p1 v1 v2 v3 v4 p0.x4)))
def know_beyond_j3 (p0:V8) (p1:V8) (v1:Int) (v2:Int) (v3:Int):Option (V8) :=
 (br (leI p0.x3 p1.x3)
  (know_beyond_j4 p0 p1 v1 v2 v3 0)
  (br (leI p0.x3 0)
   (know_beyond_j4 p0 p1 v1 v2 v3 0)
   (know_beyond_j4 p0 p1 v1 v2 v3 p0.x3)))
def know_beyond_j2 (p0:V8) (p1:V8) (v1:Int) (v2:Int):Option (V8) :=
 (br (leI p0.x2 p1.x2)
  (know_beyond_j3 p0 p1 v1 v2 0)
  (br (leI p0.x2 0)
   (know_beyond_j3 p0 p1 v1 v2 0)
   (know_beyond_j3 p0 p1 v1 v2 p0.x2)))
def know_beyond_j1 (p0:V8) (p1:V8) (v1:Int):Option (V8) :=
 (br (leI p0.x1 p1.x1)
  (know_beyond_j2 p0 p1 v1 0)
  (br (leI p0.x1 0)
   (know_beyond_j2 p0 p1 v1 0)
   (know_beyond_j2 p0 p1 v1 p0.x1)))
def know_beyond_s (p0:V8) (p1:V8):Option (V8) :=
 (br (leI p0.x0 p1.x0)
  (know_beyond_j1 p0 p1 0)
  (br (leI p0.x0 0)
   (know_beyond_j1 p0 p1 0)
   (know_beyond_j1 p0 p1 p0.x0)))
variable {X:Task→Prop} (hX:Closed X) {Q:A→List Blk→Prop}
include hX
theorem know_beyond_c  {p0:V8} {p1:V8} {r:V8} (h:know_beyond_s p0 p1=some r) (hQ:Q (.agg (V8.cs r)) []):X (.call 202 [.agg (V8.cs p0),.agg (V8.cs p1)] [] Q):=by
  unfold know_beyond_s at h
  refine call_intro hX Tryz.func202 rfl rfl ?_
  conv=>whnf
  repeat((first|refine dw ?_);conv=>whnf)
  refine loop_intro hX ?_
  apply join1 (X:=X) (r:=r) (fun (v1:Int)=>pad [(2,.one (.ptr 0 0)),(0,.one (.ptr 1 0)),(0,.one (.ptr 2 0)),(2,.agg (V8.cs p0)),(0,iv 0)] 16) (fun (v1:Int)=>[.box [ic v1,ic p0.x1,ic p0.x2,ic p0.x3,ic p0.x4,ic p0.x5,ic p0.x6,ic p0.x7],.box (V8.cs p1),.box [ic 0,ic 0,ic 0,ic 0,ic 0,ic 0,ic 0,ic 0]])
  ·intro tl1
   conv=>whnf
   repeat((first|refine dw ?_);conv=>whnf)
   refine br_some h (fun c23 g=>?_) (fun c23 g=>?_)
   ·replace h:=g
    clear g
    conv=>whnf
    repeat((first|refine dw ?_|refine bct c23 ?_);conv=>whnf)
    exact tl1.h 0 h
   ·replace h:=g
    clear g
    conv=>whnf
    repeat((first|refine dw ?_|refine bcf c23 ?_);conv=>whnf)
    refine br_some h (fun c24 g=>?_) (fun c24 g=>?_)
    ·replace h:=g
     clear g
     conv=>whnf
     repeat((first|refine dw ?_|refine bct c24 ?_);conv=>whnf)
     exact tl1.h 0 h
    ·replace h:=g
     clear g
     conv=>whnf
     repeat((first|refine dw ?_|refine bcf c24 ?_);conv=>whnf)
     exact tl1.h p0.x0 h
  ·intro v1 h
   unfold know_beyond_j1 at h
   refine rest_intro hX ?_
   conv=>whnf
   repeat((first|refine dw ?_);conv=>whnf)
   refine loop_intro hX ?_
   apply join1 (X:=X) (r:=r) (fun (v2:Int)=>pad [(2,.one (.ptr 0 0)),(0,.one (.ptr 1 0)),(0,.one (.ptr 2 0)),(2,.agg (V8.cs p0)),(0,iv 1)] 16) (fun (v2:Int)=>[.box [ic v1,ic v2,ic p0.x2,ic p0.x3,ic p0.x4,ic p0.x5,ic p0.x6,ic p0.x7],.box (V8.cs p1),.box [ic 0,ic 0,ic 0,ic 0,ic 0,ic 0,ic 0,ic 0]])
   ·intro tl2
    conv=>whnf
    repeat((first|refine dw ?_);conv=>whnf)
    refine br_some h (fun c21 g=>?_) (fun c21 g=>?_)
    ·replace h:=g
     clear g
     conv=>whnf
     repeat((first|refine dw ?_|refine bct c21 ?_);conv=>whnf)
     exact tl2.h 0 h
    ·replace h:=g
     clear g
     conv=>whnf
     repeat((first|refine dw ?_|refine bcf c21 ?_);conv=>whnf)
     refine br_some h (fun c22 g=>?_) (fun c22 g=>?_)
     ·replace h:=g
      clear g
      conv=>whnf
      repeat((first|refine dw ?_|refine bct c22 ?_);conv=>whnf)
      exact tl2.h 0 h
     ·replace h:=g
      clear g
      conv=>whnf
      repeat((first|refine dw ?_|refine bcf c22 ?_);conv=>whnf)
      exact tl2.h p0.x1 h
   ·intro v2 h
    unfold know_beyond_j2 at h
    refine rest_intro hX ?_
    conv=>whnf
    repeat((first|refine dw ?_);conv=>whnf)
    refine loop_intro hX ?_
    apply join1 (X:=X) (r:=r) (fun (v3:Int)=>pad [(2,.one (.ptr 0 0)),(0,.one (.ptr 1 0)),(0,.one (.ptr 2 0)),(2,.agg (V8.cs p0)),(0,iv 2)] 16) (fun (v3:Int)=>[.box [ic v1,ic v2,ic v3,ic p0.x3,ic p0.x4,ic p0.x5,ic p0.x6,ic p0.x7],.box (V8.cs p1),.box [ic 0,ic 0,ic 0,ic 0,ic 0,ic 0,ic 0,ic 0]])
    ·intro tl3
     conv=>whnf
     repeat((first|refine dw ?_);conv=>whnf)
     refine br_some h (fun c19 g=>?_) (fun c19 g=>?_)
     ·replace h:=g
      clear g
      conv=>whnf
      repeat((first|refine dw ?_|refine bct c19 ?_);conv=>whnf)
      exact tl3.h 0 h
     ·replace h:=g
      clear g
      conv=>whnf
      repeat((first|refine dw ?_|refine bcf c19 ?_);conv=>whnf)
      refine br_some h (fun c20 g=>?_) (fun c20 g=>?_)
      ·replace h:=g
       clear g
       conv=>whnf
       repeat((first|refine dw ?_|refine bct c20 ?_);conv=>whnf)
       exact tl3.h 0 h
      ·replace h:=g
       clear g
       conv=>whnf
       repeat((first|refine dw ?_|refine bcf c20 ?_);conv=>whnf)
       exact tl3.h p0.x2 h
    ·intro v3 h
     unfold know_beyond_j3 at h
     refine rest_intro hX ?_
     conv=>whnf
     repeat((first|refine dw ?_);conv=>whnf)
     refine loop_intro hX ?_
     apply join1 (X:=X) (r:=r) (fun (v4:Int)=>pad [(2,.one (.ptr 0 0)),(0,.one (.ptr 1 0)),(0,.one (.ptr 2 0)),(2,.agg (V8.cs p0)),(0,iv 3)] 16) (fun (v4:Int)=>[.box [ic v1,ic v2,ic v3,ic v4,ic p0.x4,ic p0.x5,ic p0.x6,ic p0.x7],.box (V8.cs p1),.box [ic 0,ic 0,ic 0,ic 0,ic 0,ic 0,ic 0,ic 0]])
     ·intro tl4
      conv=>whnf
      repeat((first|refine dw ?_);conv=>whnf)
      refine br_some h (fun c17 g=>?_) (fun c17 g=>?_)
      ·replace h:=g
       clear g
       conv=>whnf
       repeat((first|refine dw ?_|refine bct c17 ?_);conv=>whnf)
       exact tl4.h 0 h
      ·replace h:=g
       clear g
       conv=>whnf
       repeat((first|refine dw ?_|refine bcf c17 ?_);conv=>whnf)
       refine br_some h (fun c18 g=>?_) (fun c18 g=>?_)
       ·replace h:=g
        clear g
        conv=>whnf
        repeat((first|refine dw ?_|refine bct c18 ?_);conv=>whnf)
        exact tl4.h 0 h
       ·replace h:=g
        clear g
        conv=>whnf
        repeat((first|refine dw ?_|refine bcf c18 ?_);conv=>whnf)
        exact tl4.h p0.x3 h
     ·intro v4 h
      unfold know_beyond_j4 at h
      refine rest_intro hX ?_
      conv=>whnf
      repeat((first|refine dw ?_);conv=>whnf)
      refine loop_intro hX ?_
      apply join1 (X:=X) (r:=r) (fun (v5:Int)=>pad [(2,.one (.ptr 0 0)),(0,.one (.ptr 1 0)),(0,.one (.ptr 2 0)),(2,.agg (V8.cs p0)),(0,iv 4)] 16) (fun (v5:Int)=>[.box [ic v1,ic v2,ic v3,ic v4,ic v5,ic p0.x5,ic p0.x6,ic p0.x7],.box (V8.cs p1),.box [ic 0,ic 0,ic 0,ic 0,ic 0,ic 0,ic 0,ic 0]])
      ·intro tl5
       conv=>whnf
       repeat((first|refine dw ?_);conv=>whnf)
       refine br_some h (fun c15 g=>?_) (fun c15 g=>?_)
       ·replace h:=g
        clear g
        conv=>whnf
        repeat((first|refine dw ?_|refine bct c15 ?_);conv=>whnf)
        exact tl5.h 0 h
       ·replace h:=g
        clear g
        conv=>whnf
        repeat((first|refine dw ?_|refine bcf c15 ?_);conv=>whnf)
        refine br_some h (fun c16 g=>?_) (fun c16 g=>?_)
        ·replace h:=g
         clear g
         conv=>whnf
         repeat((first|refine dw ?_|refine bct c16 ?_);conv=>whnf)
         exact tl5.h 0 h
        ·replace h:=g
         clear g
         conv=>whnf
         repeat((first|refine dw ?_|refine bcf c16 ?_);conv=>whnf)
         exact tl5.h p0.x4 h
      ·intro v5 h
       unfold know_beyond_j5 at h
       refine rest_intro hX ?_
       conv=>whnf
       repeat((first|refine dw ?_);conv=>whnf)
       refine loop_intro hX ?_
       apply join1 (X:=X) (r:=r) (fun (v6:Int)=>pad [(2,.one (.ptr 0 0)),(0,.one (.ptr 1 0)),(0,.one (.ptr 2 0)),(2,.agg (V8.cs p0)),(0,iv 5)] 16) (fun (v6:Int)=>[.box [ic v1,ic v2,ic v3,ic v4,ic v5,ic v6,ic p0.x6,ic p0.x7],.box (V8.cs p1),.box [ic 0,ic 0,ic 0,ic 0,ic 0,ic 0,ic 0,ic 0]])
       ·intro tl6
        conv=>whnf
        repeat((first|refine dw ?_);conv=>whnf)
        refine br_some h (fun c13 g=>?_) (fun c13 g=>?_)
        ·replace h:=g
         clear g
         conv=>whnf
         repeat((first|refine dw ?_|refine bct c13 ?_);conv=>whnf)
         exact tl6.h 0 h
        ·replace h:=g
         clear g
         conv=>whnf
         repeat((first|refine dw ?_|refine bcf c13 ?_);conv=>whnf)
         refine br_some h (fun c14 g=>?_) (fun c14 g=>?_)
         ·replace h:=g
          clear g
          conv=>whnf
          repeat((first|refine dw ?_|refine bct c14 ?_);conv=>whnf)
          exact tl6.h 0 h
         ·replace h:=g
          clear g
          conv=>whnf
          repeat((first|refine dw ?_|refine bcf c14 ?_);conv=>whnf)
          exact tl6.h p0.x5 h
       ·intro v6 h
        unfold know_beyond_j6 at h
        refine rest_intro hX ?_
        conv=>whnf
        repeat((first|refine dw ?_);conv=>whnf)
        refine loop_intro hX ?_
        apply join1 (X:=X) (r:=r) (fun (v7:Int)=>pad [(2,.one (.ptr 0 0)),(0,.one (.ptr 1 0)),(0,.one (.ptr 2 0)),(2,.agg (V8.cs p0)),(0,iv 6)] 16) (fun (v7:Int)=>[.box [ic v1,ic v2,ic v3,ic v4,ic v5,ic v6,ic v7,ic p0.x7],.box (V8.cs p1),.box [ic 0,ic 0,ic 0,ic 0,ic 0,ic 0,ic 0,ic 0]])
        ·intro tl7
         conv=>whnf
         repeat((first|refine dw ?_);conv=>whnf)
         refine br_some h (fun c11 g=>?_) (fun c11 g=>?_)
         ·replace h:=g
          clear g
          conv=>whnf
          repeat((first|refine dw ?_|refine bct c11 ?_);conv=>whnf)
          exact tl7.h 0 h
         ·replace h:=g
          clear g
          conv=>whnf
          repeat((first|refine dw ?_|refine bcf c11 ?_);conv=>whnf)
          refine br_some h (fun c12 g=>?_) (fun c12 g=>?_)
          ·replace h:=g
           clear g
           conv=>whnf
           repeat((first|refine dw ?_|refine bct c12 ?_);conv=>whnf)
           exact tl7.h 0 h
          ·replace h:=g
           clear g
           conv=>whnf
           repeat((first|refine dw ?_|refine bcf c12 ?_);conv=>whnf)
           exact tl7.h p0.x6 h
        ·intro v7 h
         unfold know_beyond_j7 at h
         refine rest_intro hX ?_
         conv=>whnf
         repeat((first|refine dw ?_);conv=>whnf)
         refine loop_intro hX ?_
         apply join1 (X:=X) (r:=r) (fun (v8:Int)=>pad [(2,.one (.ptr 0 0)),(0,.one (.ptr 1 0)),(0,.one (.ptr 2 0)),(2,.agg (V8.cs p0)),(0,iv 7)] 16) (fun (v8:Int)=>[.box [ic v1,ic v2,ic v3,ic v4,ic v5,ic v6,ic v7,ic v8],.box (V8.cs p1),.box [ic 0,ic 0,ic 0,ic 0,ic 0,ic 0,ic 0,ic 0]])
         ·intro tl8
          conv=>whnf
          repeat((first|refine dw ?_);conv=>whnf)
          refine br_some h (fun c9 g=>?_) (fun c9 g=>?_)
          ·replace h:=g
           clear g
           conv=>whnf
           repeat((first|refine dw ?_|refine bct c9 ?_);conv=>whnf)
           exact tl8.h 0 h
          ·replace h:=g
           clear g
           conv=>whnf
           repeat((first|refine dw ?_|refine bcf c9 ?_);conv=>whnf)
           refine br_some h (fun c10 g=>?_) (fun c10 g=>?_)
           ·replace h:=g
            clear g
            conv=>whnf
            repeat((first|refine dw ?_|refine bct c10 ?_);conv=>whnf)
            exact tl8.h 0 h
           ·replace h:=g
            clear g
            conv=>whnf
            repeat((first|refine dw ?_|refine bcf c10 ?_);conv=>whnf)
            exact tl8.h p0.x7 h
         ·intro v8 h
          unfold know_beyond_j8 at h
          refine rest_intro hX ?_
          conv=>whnf
          repeat((first|refine dw ?_);conv=>whnf)
          refine loop_intro hX ?_
          conv=>whnf
          repeat((first|refine dw ?_);conv=>whnf)
          exact ret_some (f:=fun y=>.agg (V8.cs y)) (g:=fun y=>[]) h hQ
end
end Go.Proofs.YtidkmoohgadjkaaGreat
set_option maxHeartbeats 0
namespace Go.Proofs.YtidkmoohgadjkaaGreat
open Go E
noncomputable section
open Pred
def know_Plain_l2 (x1e:Frag) (k1:(List (ByteArray × V8))→Option (Know)):List ByteArray→(List (ByteArray × V8))→Option (Know)
  | [],v4 =>
  (k1 v4)
  | x2e::xs2,v4 =>
  (opt (mget srw v4 x2e) (fun x5 =>
   (bnd (vec_Max_s x5 x1e.vec) fun y7 =>
    (know_Plain_l2 x1e k1 xs2  (mset srw v4 x2e y7))))
   (bnd (vec_Max_s (V8.mk 0 0 0 0 0 0 0 0) x1e.vec) fun y9 =>
    (know_Plain_l2 x1e k1 xs2  (mset srw v4 x2e y9))))
def know_Plain_l4 (p0:Know) (v2:List (ByteArray × V8)):List ByteArray→(List Frag)→(List (V8 × Int))→Option (Know)
  | [],v26,v27 =>
  some (Know.mk p0.star v26)
  | x4e::xs4,v26,v27 =>
  (opt (mget srw v2 x4e) (fun x28 =>
   (bnd (know_beyond_s x28 p0.star) fun y30 =>
    (br (eq8 y30 (V8.mk 0 0 0 0 0 0 0 0))
     (know_Plain_l4 p0 v2 xs4  v26 v27)
     (opt (mget V8.row v27 y30) (fun x33 =>
      (bnd (atL v26 x33) fun x35 =>
       (chk (roomL x35.ids.length 1)
        (know_Plain_l4 p0 v2 xs4  (v26.set x33.toNat (Frag.mk (x35.ids++[x4e]) x35.vec)) v27))))
      (chk (roomL v26.length 1)
       (bnd (atL (v26++[(Frag.mk ([]:List ByteArray) y30)]) (v26.length:Int)) fun x40 =>
        (chk (roomL x40.ids.length 1)
         (know_Plain_l4 p0 v2 xs4  ((v26++[(Frag.mk ([]:List ByteArray) y30)]).set (v26.length:Int).toNat (Frag.mk (x40.ids++[x4e]) x40.vec)) (mset V8.row v27 y30 (v26.length:Int))))))))))
   (bnd (know_beyond_s (V8.mk 0 0 0 0 0 0 0 0) p0.star) fun y43 =>
    (br (eq8 y43 (V8.mk 0 0 0 0 0 0 0 0))
     (know_Plain_l4 p0 v2 xs4  v26 v27)
     (opt (mget V8.row v27 y43) (fun x46 =>
      (bnd (atL v26 x46) fun x48 =>
       (chk (roomL x48.ids.length 1)
        (know_Plain_l4 p0 v2 xs4  (v26.set x46.toNat (Frag.mk (x48.ids++[x4e]) x48.vec)) v27))))
      (chk (roomL v26.length 1)
       (bnd (atL (v26++[(Frag.mk ([]:List ByteArray) y43)]) (v26.length:Int)) fun x53 =>
        (chk (roomL x53.ids.length 1)
         (know_Plain_l4 p0 v2 xs4  ((v26++[(Frag.mk ([]:List ByteArray) y43)]).set (v26.length:Int).toNat (Frag.mk (x53.ids++[x4e]) x53.vec)) (mset V8.row v27 y43 (v26.length:Int))))))))))
def know_Plain_l5 (p0:Know) (v2:List (ByteArray × V8)):List ByteArray→(List Frag)→(List (V8 × Int))→Option (Know)
  | [],v64,v65 =>
  some (Know.mk p0.star v64)
  | x5e::xs5,v64,v65 =>
  (opt (mget srw v2 x5e) (fun x66 =>
   (bnd (know_beyond_s x66 p0.star) fun y68 =>
    (br (eq8 y68 (V8.mk 0 0 0 0 0 0 0 0))
     (know_Plain_l5 p0 v2 xs5  v64 v65)
     (opt (mget V8.row v65 y68) (fun x71 =>
      (bnd (atL v64 x71) fun x73 =>
       (chk (roomL x73.ids.length 1)
        (know_Plain_l5 p0 v2 xs5  (v64.set x71.toNat (Frag.mk (x73.ids++[x5e]) x73.vec)) v65))))
      (chk (roomL v64.length 1)
       (bnd (atL (v64++[(Frag.mk ([]:List ByteArray) y68)]) (v64.length:Int)) fun x78 =>
        (chk (roomL x78.ids.length 1)
         (know_Plain_l5 p0 v2 xs5  ((v64++[(Frag.mk ([]:List ByteArray) y68)]).set (v64.length:Int).toNat (Frag.mk (x78.ids++[x5e]) x78.vec)) (mset V8.row v65 y68 (v64.length:Int))))))))))
   (bnd (know_beyond_s (V8.mk 0 0 0 0 0 0 0 0) p0.star) fun y81 =>
    (br (eq8 y81 (V8.mk 0 0 0 0 0 0 0 0))
     (know_Plain_l5 p0 v2 xs5  v64 v65)
     (opt (mget V8.row v65 y81) (fun x84 =>
      (bnd (atL v64 x84) fun x86 =>
       (chk (roomL x86.ids.length 1)
        (know_Plain_l5 p0 v2 xs5  (v64.set x84.toNat (Frag.mk (x86.ids++[x5e]) x86.vec)) v65))))
      (chk (roomL v64.length 1)
       (bnd (atL (v64++[(Frag.mk ([]:List ByteArray) y81)]) (v64.length:Int)) fun x91 =>
        (chk (roomL x91.ids.length 1)
         (know_Plain_l5 p0 v2 xs5  ((v64++[(Frag.mk ([]:List ByteArray) y81)]).set (v64.length:Int).toNat (Frag.mk (x91.ids++[x5e]) x91.vec)) (mset V8.row v65 y81 (v64.length:Int))))))))))
def know_Plain_l3 (p0:Know) (v2:List (ByteArray × V8)):List ByteArray→Option (Know)
  | [] =>
  some (Know.mk p0.star [])
  | x3e::xs3 =>
  (opt (mget srw v2 x3e) (fun x16 =>
   (bnd (know_beyond_s x16 p0.star) fun y18 =>
    (br (eq8 y18 (V8.mk 0 0 0 0 0 0 0 0))
     (know_Plain_l3 p0 v2 xs3  )
     (opt (mget V8.row ([]:List (V8 × Int)) y18) (fun x21 =>
      none)
      (chk (roomL 0 1)
       ((know_Plain_l4 p0 v2) xs3 [(Frag.mk [x3e] y18)] (mset V8.row ([]:List (V8 × Int)) y18 0)))))))
   (bnd (know_beyond_s (V8.mk 0 0 0 0 0 0 0 0) p0.star) fun y56 =>
    (br (eq8 y56 (V8.mk 0 0 0 0 0 0 0 0))
     (know_Plain_l3 p0 v2 xs3  )
     (opt (mget V8.row ([]:List (V8 × Int)) y56) (fun x59 =>
      none)
      (chk (roomL 0 1)
       ((know_Plain_l5 p0 v2) xs3 [(Frag.mk [x3e] y56)] (mset V8.row ([]:List (V8 × Int)) y56 0)))))))
def know_Plain_l1 (p0:Know):List Frag→(List (ByteArray × V8))→Option (Know)
  | [],v2 =>
  (bnd (sorted_s v2) fun y11 =>
   (chk (smallL y11)
     ((know_Plain_l3 p0 v2) y11 )))
  | x1e::xs1,v2 =>
  (chk (smallL x1e.ids)
    ((know_Plain_l2 x1e (fun w0=>know_Plain_l1 p0 xs1  w0)) x1e.ids v2))
def know_Plain_s (p0:Know):Option (Know) :=
 (chk (smallL p0.l)
   ((know_Plain_l1 p0) p0.l ([]:List (ByteArray × V8))))
variable {X:Task→Prop} (hX:Closed X) {Q:A→List Blk→Prop}
include hX
theorem know_Plain_c  {p0:Know} {r:Know} (h:know_Plain_s p0=some r) (hQ:Q (.agg (Know.cs r)) []):X (.call 145 [.agg (Know.cs p0)] [] Q):=by
  have K:=fun a (e:some a=some r)=>ret_some (f:=fun y=>.agg (Know.cs y)) (g:=fun y=>[]) e hQ
  unfold know_Plain_s at h
  refine call_nz hX ?_
  conv=>whnf
  refine call_intro hX Tryz.func145 rfl rfl ?_
  revert h
  refine chkk fun hs1 h=>?_
  conv=>whnf
  repeat((first|refine dw ?_|refine eqv_to (map_len _) ?_);conv=>whnf)
  refine loop_lisx1 (fun (v1:Int) (v2:List (ByteArray × V8))=>pad [(1,.one (.ptr 0 0)),(0,.one (.ptr 1 0)),(0,.one (.mp 3)),(13,.one (.p (.sl (p0.l.map Frag.row)))),(0,iv (p0.l.length:Int)),(0,iv v1)] 78) (fun (v1:Int) (v2:List (ByteArray × V8))=>[.box (Know.cs p0),.box [ic 0,ic 0,ic 0,ic 0,ic 0,ic 0,ic 0,ic 0,.own 2],.rows 0 [],.mp .str true (v2.map fun e=>(srw e.1,V8.row e.2))]) _ p0.l (fun pre1 x1e xs1 v1 v2 hl1 hi1 h ih1=>?_) (fun v1 v2 hi1 h=>?_) ([]:List (ByteArray × V8)) h
  ·rw [know_Plain_l1] at h
   have am1:=at_mid hl1 hi1
   refine loop_intro hX ?_
   revert h
   refine chkk fun hs2 h=>?_
   conv=>whnf
   repeat((first|refine dw ?_|refine bct (lt_mid hl1 hi1) ?_|refine bct (at_in am1) ?_|refine bct (andt (at_in am1) rfl) ?_|refine row_in (at_row am1) ?_|refine bct (andt (at_in (at_nat am1)) rfl) ?_|refine row_in (at_row (at_nat am1)) ?_|refine eqv_to (map_len _) ?_);conv=>whnf)
   refine loop_lisx1 (fun (v3:Int) (v4:List (ByteArray × V8))=>pad [(1,.one (.ptr 0 0)),(0,.one (.ptr 1 0)),(0,.one (.mp 3)),(1,.one (.ptr 4 0)),(11,.one (.p (.sl (p0.l.map Frag.row)))),(0,iv (p0.l.length:Int)),(0,iv v1),(4,.one (.p (.sl (x1e.ids.map srw)))),(0,iv (x1e.ids.length:Int)),(0,iv v3)] 71) (fun (v3:Int) (v4:List (ByteArray × V8))=>[.box (Know.cs p0),.box [ic 0,ic 0,ic 0,ic 0,ic 0,ic 0,ic 0,ic 0,.own 2],.rows 0 [],.mp .str true (v4.map fun e=>(srw e.1,V8.row e.2)),.box (Frag.cs x1e)]) _ x1e.ids (fun pre2 x2e xs2 v3 v4 hl2 hi2 h ih2=>?_) (fun v3 v4 hi2 h=>?_) v2 h
   ·rw [know_Plain_l2] at h
    have am2:=at_mid hl2 hi2
    refine loop_intro hX ?_
    conv=>whnf
    repeat((first|refine dw ?_|refine bct (lt_mid hl2 hi2) ?_|refine bct (at_in am2) ?_|refine bct (andt (at_in am2) rfl) ?_|refine row_in (at_row am2) ?_|refine bct (andt (at_in (at_nat am2)) rfl) ?_|refine row_in (at_row (at_nat am2)) ?_);conv=>whnf)
    refine map_look h (fun x5 e6 h=>?_) (fun e6 h=>?_) (get_mp (f:=srw) (g:=V8.row) _ x2e)
    ·revert h
     refine bndk fun y7 e8 h=>?_
     conv=>whnf
     repeat((first|refine dw ?_);conv=>whnf)
     refine vec_Max_c hX e8 ?_
     conv=>whnf
     repeat((first|refine dw ?_|refine eqv_to (set_mp (f:=srw) (g:=V8.row) v4 x2e y7) ?_);conv=>whnf)
     exact ih2 _ (mset srw v4 x2e y7) (wrL hs2 hl2 hi2) h
    ·revert h
     refine bndk fun y9 e10 h=>?_
     conv=>whnf
     repeat((first|refine dw ?_);conv=>whnf)
     refine vec_Max_c hX e10 ?_
     conv=>whnf
     repeat((first|refine dw ?_|refine eqv_to (set_mp (f:=srw) (g:=V8.row) v4 x2e y9) ?_);conv=>whnf)
     exact ih2 _ (mset srw v4 x2e y9) (wrL hs2 hl2 hi2) h
   ·rw [know_Plain_l2] at h
    refine loop_intro hX ?_
    conv=>whnf
    repeat((first|refine dw ?_|refine bcf (lt_end hi2) ?_);conv=>whnf)
    exact ih1 _ v4 (wrL hs1 hl1 hi1) h
  ·rw [know_Plain_l1] at h
   refine loop_intro hX ?_
   conv=>whnf
   repeat((first|refine dw ?_|refine bcf (lt_end hi1) ?_);conv=>whnf)
   refine call_intro hX Tryz.func201 rfl rfl ?_
   revert h
   refine bndk fun y11 e12 h=>?_
   conv=>whnf
   repeat((first|refine dw ?_);conv=>whnf)
   refine Or.inl ?_
   conv=>whnf
   refine sorted_c (g:=V8.row) hX e12 ?_
   revert h
   refine chkk fun hs3 h=>?_
   conv=>whnf
   repeat((first|refine dw ?_|refine eqv_to (map_len _) ?_);conv=>whnf)
   refine loop_nc hX ?_
   conv=>whnf
   refine loop_lisx0 (fun (v15:Int)=>pad [(1,.one (.ptr 0 0)),(0,.one (.ptr 1 0)),(0,.one (.mp 3)),(4,.one (.ptr 4 0)),(0,.one (.mp 6)),(36,.one (.own 7)),(0,iv (y11.length:Int)),(0,iv v15)] 49) (fun (v15:Int)=>[.box (Know.cs p0),.box [ic 0,ic 0,ic 0,ic 0,ic 0,ic 0,ic 0,ic 0,.own 2],.rows 0 [],.mp .str true (v2.map fun e=>(srw e.1,V8.row e.2)),.box [ic p0.star.x0,ic p0.star.x1,ic p0.star.x2,ic p0.star.x3,ic p0.star.x4,ic p0.star.x5,ic p0.star.x6,ic p0.star.x7,.own 5],.rows 0 [],.mp (.ints .i64 8) false (([]:List (V8 × Int)).map fun e=>(V8.row e.1,irw e.2)),.rows 1 (y11.map srw)]) _ y11 (fun pre3 x3e xs3 v15  hl3 hi3 h ih3=>?_) (fun v15  hi3 h=>?_)  h
   ·rw [know_Plain_l3] at h
    have am3:=at_mid hl3 hi3
    refine loop_intro hX ?_
    conv=>whnf
    repeat((first|refine dw ?_|refine bct (lt_mid hl3 hi3) ?_|refine bct (at_in am3) ?_|refine bct (andt (at_in am3) rfl) ?_|refine row_in (at_row am3) ?_|refine bct (andt (at_in (at_nat am3)) rfl) ?_|refine row_in (at_row (at_nat am3)) ?_);conv=>whnf)
    refine map_look h (fun x16 e17 h=>?_) (fun e17 h=>?_) (get_mp (f:=srw) (g:=V8.row) _ x3e)
    ·revert h
     refine bndk fun y18 e19 h=>?_
     conv=>whnf
     repeat((first|refine dw ?_);conv=>whnf)
     refine know_beyond_c hX e19 ?_
     conv=>whnf
     repeat((first|refine dw ?_);conv=>whnf)
     revert h
     refine brk (fun c20 h=>?_) (fun c20 h=>?_)
     ·conv=>whnf
      repeat((first|refine dw ?_|with_reducible refine bct (eq8_b c20) ?_|refine bct c20 ?_);conv=>whnf)
      exact ih3 _  (wrL hs3 hl3 hi3) h
     ·conv=>whnf
      repeat((first|refine dw ?_|with_reducible refine bcf (eq8_b c20) ?_|refine bcf c20 ?_);conv=>whnf)
      refine map_look h (fun x21 e22 h=>?_) (fun e22 h=>?_) (get_mp (f:=V8.row) (g:=irw) _ y18)
      ·exact no_some h
      ·revert h
       refine chkk fun c24 h=>?_
       have hs4:=hs3
       conv=>whnf
       repeat((first|refine dw ?_|refine eqv_to (b:=0) rfl ?_|refine eqv_to (set_mp (f:=V8.row) (g:=irw) ([]:List (V8 × Int)) y18 0) ?_|refine Two.r ?_|refine bct (by rfl) ?_|refine bct (by decide) ?_|refine bct (room_zero c24 rfl rfl rfl rfl) ?_|refine eqv_to (nil_one (f:=srw) x3e) ?_|refine eqv_to (b:=([(Frag.mk [x3e] y18)].map Frag.row)) rfl ?_);conv=>whnf)
       refine loop_nc hX ?_
       conv=>whnf
       refine loop_lisz2 (fun (v25:Int) (v26:List Frag) (v27:List (V8 × Int))=>pad [(1,.one (.ptr 0 0)),(0,.one (.ptr 1 0)),(0,.one (.mp 3)),(4,.one (.ptr 4 0)),(0,.one (.mp 6)),(36,.one (.own 7)),(0,iv (y11.length:Int)),(0,iv v25)] 49) (fun (v25:Int) (v26:List Frag) (v27:List (V8 × Int))=>[.box (Know.cs p0),.box [ic 0,ic 0,ic 0,ic 0,ic 0,ic 0,ic 0,ic 0,.own 2],.rows 0 [],.mp .str true (v2.map fun e=>(srw e.1,V8.row e.2)),.box [ic p0.star.x0,ic p0.star.x1,ic p0.star.x2,ic p0.star.x3,ic p0.star.x4,ic p0.star.x5,ic p0.star.x6,ic p0.star.x7,.own 5],.nest 9 0 1 (v26.map Frag.row),.mp (.ints .i64 8) false (v27.map fun e=>(V8.row e.1,irw e.2)),.rows 1 (y11.map srw)]) _ y11 _ xs3 _ (next_cut hl3) (next_len hs3 hl3 hi3) (fun pre4 x4e xs4 v25 v26 v27 hl4 hi4 h ih4=>?_) (fun v25 v26 v27 hi4 h=>?_) [(Frag.mk [x3e] y18)] (mset V8.row ([]:List (V8 × Int)) y18 0) h
       ·rw [know_Plain_l4] at h
        have am4:=at_mid hl4 hi4
        refine loop_intro hX ?_
        conv=>whnf
        repeat((first|refine dw ?_|refine bct (lt_mid hl4 hi4) ?_|refine bct (at_in am4) ?_|refine bct (andt (at_in am4) rfl) ?_|refine row_in (at_row am4) ?_|refine bct (andt (at_in (at_nat am4)) rfl) ?_|refine row_in (at_row (at_nat am4)) ?_);conv=>whnf)
        refine map_look h (fun x28 e29 h=>?_) (fun e29 h=>?_) (get_mp (f:=srw) (g:=V8.row) _ x4e)
        ·revert h
         refine bndk fun y30 e31 h=>?_
         conv=>whnf
         repeat((first|refine dw ?_);conv=>whnf)
         refine know_beyond_c hX e31 ?_
         conv=>whnf
         repeat((first|refine dw ?_);conv=>whnf)
         revert h
         refine brk (fun c32 h=>?_) (fun c32 h=>?_)
         ·conv=>whnf
          repeat((first|refine dw ?_|with_reducible refine bct (eq8_b c32) ?_|refine bct c32 ?_);conv=>whnf)
          exact ih4 _ v26 v27 (wrL hs4 hl4 hi4) h
         ·conv=>whnf
          repeat((first|refine dw ?_|with_reducible refine bcf (eq8_b c32) ?_|refine bcf c32 ?_);conv=>whnf)
          refine map_look h (fun x33 e34 h=>?_) (fun e34 h=>?_) (get_mp (f:=V8.row) (g:=irw) _ y30)
          ·revert h
           refine bndk fun x35 a36 h=>?_
           revert h
           refine chkk fun c37 h=>?_
           conv=>whnf
           repeat((first|refine dw ?_|refine bct (at_in a36) ?_|refine bct (andt (at_in a36) rfl) ?_|refine row_in (at_row a36) ?_|refine bct (andt (at_in (at_nat a36)) rfl) ?_|refine row_in (at_row (at_nat a36)) ?_|refine bct (and3 (at_in (at_nat a36)) rfl rfl) ?_|refine bct (and3 (at_in a36) rfl rfl) ?_|refine bct (room_map c37 rfl rfl rfl rfl) ?_|refine eqv_to (cat_one (f:=srw) x35.ids x4e) ?_|refine bct (and4 (at_in (at_nat a36)) rfl rfl (natbeq_self _)) ?_|refine bct (and4 (at_in a36) rfl rfl (natbeq_self _)) ?_|refine eqv_to (set_map (f:=Frag.row) v26 x33.toNat (Frag.mk (x35.ids++[x4e]) x35.vec)) ?_);conv=>whnf)
           exact ih4 _ (v26.set x33.toNat (Frag.mk (x35.ids++[x4e]) x35.vec)) v27 (wrL hs4 hl4 hi4) h
          ·revert h
           refine chkk fun c39 h=>?_
           revert h
           refine bndk fun x40 a41 h=>?_
           revert h
           refine chkk fun c42 h=>?_
           conv=>whnf
           repeat((first|refine dw ?_|refine eqv_to (map_len _) ?_|refine eqv_to (set_mp (f:=V8.row) (g:=irw) v27 y30 (v26.length:Int)) ?_|refine Two.r ?_|refine bct (room_nest c39 rfl rfl rfl) ?_|refine eqv_to (cat_one (f:=Frag.row) v26 (Frag.mk ([]:List ByteArray) y30)) ?_|refine bct (at_in a41) ?_|refine bct (andt (at_in a41) rfl) ?_|refine row_in (at_row a41) ?_|refine bct (andt (at_in (at_nat a41)) rfl) ?_|refine row_in (at_row (at_nat a41)) ?_|refine bct (and3 (at_in (at_nat a41)) rfl rfl) ?_|refine bct (and3 (at_in a41) rfl rfl) ?_|refine bct (room_map c42 rfl rfl rfl rfl) ?_|refine eqv_to (cat_one (f:=srw) x40.ids x4e) ?_|refine bct (and4 (at_in (at_nat a41)) rfl rfl (natbeq_self _)) ?_|refine bct (and4 (at_in a41) rfl rfl (natbeq_self _)) ?_|refine eqv_to (set_map (f:=Frag.row) (v26++[(Frag.mk ([]:List ByteArray) y30)]) (v26.length:Int).toNat (Frag.mk (x40.ids++[x4e]) x40.vec)) ?_);conv=>whnf)
           exact ih4 _ ((v26++[(Frag.mk ([]:List ByteArray) y30)]).set (v26.length:Int).toNat (Frag.mk (x40.ids++[x4e]) x40.vec)) (mset V8.row v27 y30 (v26.length:Int)) (wrL hs4 hl4 hi4) h
        ·revert h
         refine bndk fun y43 e44 h=>?_
         conv=>whnf
         repeat((first|refine dw ?_);conv=>whnf)
         refine know_beyond_c hX e44 ?_
         conv=>whnf
         repeat((first|refine dw ?_);conv=>whnf)
         revert h
         refine brk (fun c45 h=>?_) (fun c45 h=>?_)
         ·conv=>whnf
          repeat((first|refine dw ?_|with_reducible refine bct (eq8_b c45) ?_|refine bct c45 ?_);conv=>whnf)
          exact ih4 _ v26 v27 (wrL hs4 hl4 hi4) h
         ·conv=>whnf
          repeat((first|refine dw ?_|with_reducible refine bcf (eq8_b c45) ?_|refine bcf c45 ?_);conv=>whnf)
          refine map_look h (fun x46 e47 h=>?_) (fun e47 h=>?_) (get_mp (f:=V8.row) (g:=irw) _ y43)
          ·revert h
           refine bndk fun x48 a49 h=>?_
           revert h
           refine chkk fun c50 h=>?_
           conv=>whnf
           repeat((first|refine dw ?_|refine bct (at_in a49) ?_|refine bct (andt (at_in a49) rfl) ?_|refine row_in (at_row a49) ?_|refine bct (andt (at_in (at_nat a49)) rfl) ?_|refine row_in (at_row (at_nat a49)) ?_|refine bct (and3 (at_in (at_nat a49)) rfl rfl) ?_|refine bct (and3 (at_in a49) rfl rfl) ?_|refine bct (room_map c50 rfl rfl rfl rfl) ?_|refine eqv_to (cat_one (f:=srw) x48.ids x4e) ?_|refine bct (and4 (at_in (at_nat a49)) rfl rfl (natbeq_self _)) ?_|refine bct (and4 (at_in a49) rfl rfl (natbeq_self _)) ?_|refine eqv_to (set_map (f:=Frag.row) v26 x46.toNat (Frag.mk (x48.ids++[x4e]) x48.vec)) ?_);conv=>whnf)
           exact ih4 _ (v26.set x46.toNat (Frag.mk (x48.ids++[x4e]) x48.vec)) v27 (wrL hs4 hl4 hi4) h
          ·revert h
           refine chkk fun c52 h=>?_
           revert h
           refine bndk fun x53 a54 h=>?_
           revert h
           refine chkk fun c55 h=>?_
           conv=>whnf
           repeat((first|refine dw ?_|refine eqv_to (map_len _) ?_|refine eqv_to (set_mp (f:=V8.row) (g:=irw) v27 y43 (v26.length:Int)) ?_|refine Two.r ?_|refine bct (room_nest c52 rfl rfl rfl) ?_|refine eqv_to (cat_one (f:=Frag.row) v26 (Frag.mk ([]:List ByteArray) y43)) ?_|refine bct (at_in a54) ?_|refine bct (andt (at_in a54) rfl) ?_|refine row_in (at_row a54) ?_|refine bct (andt (at_in (at_nat a54)) rfl) ?_|refine row_in (at_row (at_nat a54)) ?_|refine bct (and3 (at_in (at_nat a54)) rfl rfl) ?_|refine bct (and3 (at_in a54) rfl rfl) ?_|refine bct (room_map c55 rfl rfl rfl rfl) ?_|refine eqv_to (cat_one (f:=srw) x53.ids x4e) ?_|refine bct (and4 (at_in (at_nat a54)) rfl rfl (natbeq_self _)) ?_|refine bct (and4 (at_in a54) rfl rfl (natbeq_self _)) ?_|refine eqv_to (set_map (f:=Frag.row) (v26++[(Frag.mk ([]:List ByteArray) y43)]) (v26.length:Int).toNat (Frag.mk (x53.ids++[x4e]) x53.vec)) ?_);conv=>whnf)
           exact ih4 _ ((v26++[(Frag.mk ([]:List ByteArray) y43)]).set (v26.length:Int).toNat (Frag.mk (x53.ids++[x4e]) x53.vec)) (mset V8.row v27 y43 (v26.length:Int)) (wrL hs4 hl4 hi4) h
       ·rw [know_Plain_l4] at h
        refine loop_intro hX ?_
        conv=>whnf
        repeat((first|refine dw ?_|refine bcf (lt_end hi4) ?_);conv=>whnf)
        exact K _ h
    ·revert h
     refine bndk fun y56 e57 h=>?_
     conv=>whnf
     repeat((first|refine dw ?_);conv=>whnf)
     refine know_beyond_c hX e57 ?_
     conv=>whnf
     repeat((first|refine dw ?_);conv=>whnf)
     revert h
     refine brk (fun c58 h=>?_) (fun c58 h=>?_)
     ·conv=>whnf
      repeat((first|refine dw ?_|with_reducible refine bct (eq8_b c58) ?_|refine bct c58 ?_);conv=>whnf)
      exact ih3 _  (wrL hs3 hl3 hi3) h
     ·conv=>whnf
      repeat((first|refine dw ?_|with_reducible refine bcf (eq8_b c58) ?_|refine bcf c58 ?_);conv=>whnf)
      refine map_look h (fun x59 e60 h=>?_) (fun e60 h=>?_) (get_mp (f:=V8.row) (g:=irw) _ y56)
      ·exact no_some h
      ·revert h
       refine chkk fun c62 h=>?_
       have hs5:=hs3
       conv=>whnf
       repeat((first|refine dw ?_|refine eqv_to (b:=0) rfl ?_|refine eqv_to (set_mp (f:=V8.row) (g:=irw) ([]:List (V8 × Int)) y56 0) ?_|refine Two.r ?_|refine bct (by rfl) ?_|refine bct (by decide) ?_|refine bct (room_zero c62 rfl rfl rfl rfl) ?_|refine eqv_to (nil_one (f:=srw) x3e) ?_|refine eqv_to (b:=([(Frag.mk [x3e] y56)].map Frag.row)) rfl ?_);conv=>whnf)
       refine loop_nc hX ?_
       conv=>whnf
       refine loop_lisz2 (fun (v63:Int) (v64:List Frag) (v65:List (V8 × Int))=>pad [(1,.one (.ptr 0 0)),(0,.one (.ptr 1 0)),(0,.one (.mp 3)),(4,.one (.ptr 4 0)),(0,.one (.mp 6)),(36,.one (.own 7)),(0,iv (y11.length:Int)),(0,iv v63)] 49) (fun (v63:Int) (v64:List Frag) (v65:List (V8 × Int))=>[.box (Know.cs p0),.box [ic 0,ic 0,ic 0,ic 0,ic 0,ic 0,ic 0,ic 0,.own 2],.rows 0 [],.mp .str true (v2.map fun e=>(srw e.1,V8.row e.2)),.box [ic p0.star.x0,ic p0.star.x1,ic p0.star.x2,ic p0.star.x3,ic p0.star.x4,ic p0.star.x5,ic p0.star.x6,ic p0.star.x7,.own 5],.nest 9 0 1 (v64.map Frag.row),.mp (.ints .i64 8) false (v65.map fun e=>(V8.row e.1,irw e.2)),.rows 1 (y11.map srw)]) _ y11 _ xs3 _ (next_cut hl3) (next_len hs3 hl3 hi3) (fun pre5 x5e xs5 v63 v64 v65 hl5 hi5 h ih5=>?_) (fun v63 v64 v65 hi5 h=>?_) [(Frag.mk [x3e] y56)] (mset V8.row ([]:List (V8 × Int)) y56 0) h
       ·rw [know_Plain_l5] at h
        have am5:=at_mid hl5 hi5
        refine loop_intro hX ?_
        conv=>whnf
        repeat((first|refine dw ?_|refine bct (lt_mid hl5 hi5) ?_|refine bct (at_in am5) ?_|refine bct (andt (at_in am5) rfl) ?_|refine row_in (at_row am5) ?_|refine bct (andt (at_in (at_nat am5)) rfl) ?_|refine row_in (at_row (at_nat am5)) ?_);conv=>whnf)
        refine map_look h (fun x66 e67 h=>?_) (fun e67 h=>?_) (get_mp (f:=srw) (g:=V8.row) _ x5e)
        ·revert h
         refine bndk fun y68 e69 h=>?_
         conv=>whnf
         repeat((first|refine dw ?_);conv=>whnf)
         refine know_beyond_c hX e69 ?_
         conv=>whnf
         repeat((first|refine dw ?_);conv=>whnf)
         revert h
         refine brk (fun c70 h=>?_) (fun c70 h=>?_)
         ·conv=>whnf
          repeat((first|refine dw ?_|with_reducible refine bct (eq8_b c70) ?_|refine bct c70 ?_);conv=>whnf)
          exact ih5 _ v64 v65 (wrL hs5 hl5 hi5) h
         ·conv=>whnf
          repeat((first|refine dw ?_|with_reducible refine bcf (eq8_b c70) ?_|refine bcf c70 ?_);conv=>whnf)
          refine map_look h (fun x71 e72 h=>?_) (fun e72 h=>?_) (get_mp (f:=V8.row) (g:=irw) _ y68)
          ·revert h
           refine bndk fun x73 a74 h=>?_
           revert h
           refine chkk fun c75 h=>?_
           conv=>whnf
           repeat((first|refine dw ?_|refine bct (at_in a74) ?_|refine bct (andt (at_in a74) rfl) ?_|refine row_in (at_row a74) ?_|refine bct (andt (at_in (at_nat a74)) rfl) ?_|refine row_in (at_row (at_nat a74)) ?_|refine bct (and3 (at_in (at_nat a74)) rfl rfl) ?_|refine bct (and3 (at_in a74) rfl rfl) ?_|refine bct (room_map c75 rfl rfl rfl rfl) ?_|refine eqv_to (cat_one (f:=srw) x73.ids x5e) ?_|refine bct (and4 (at_in (at_nat a74)) rfl rfl (natbeq_self _)) ?_|refine bct (and4 (at_in a74) rfl rfl (natbeq_self _)) ?_|refine eqv_to (set_map (f:=Frag.row) v64 x71.toNat (Frag.mk (x73.ids++[x5e]) x73.vec)) ?_);conv=>whnf)
           exact ih5 _ (v64.set x71.toNat (Frag.mk (x73.ids++[x5e]) x73.vec)) v65 (wrL hs5 hl5 hi5) h
          ·revert h
           refine chkk fun c77 h=>?_
           revert h
           refine bndk fun x78 a79 h=>?_
           revert h
           refine chkk fun c80 h=>?_
           conv=>whnf
           repeat((first|refine dw ?_|refine eqv_to (map_len _) ?_|refine eqv_to (set_mp (f:=V8.row) (g:=irw) v65 y68 (v64.length:Int)) ?_|refine Two.r ?_|refine bct (room_nest c77 rfl rfl rfl) ?_|refine eqv_to (cat_one (f:=Frag.row) v64 (Frag.mk ([]:List ByteArray) y68)) ?_|refine bct (at_in a79) ?_|refine bct (andt (at_in a79) rfl) ?_|refine row_in (at_row a79) ?_|refine bct (andt (at_in (at_nat a79)) rfl) ?_|refine row_in (at_row (at_nat a79)) ?_|refine bct (and3 (at_in (at_nat a79)) rfl rfl) ?_|refine bct (and3 (at_in a79) rfl rfl) ?_|refine bct (room_map c80 rfl rfl rfl rfl) ?_|refine eqv_to (cat_one (f:=srw) x78.ids x5e) ?_|refine bct (and4 (at_in (at_nat a79)) rfl rfl (natbeq_self _)) ?_|refine bct (and4 (at_in a79) rfl rfl (natbeq_self _)) ?_|refine eqv_to (set_map (f:=Frag.row) (v64++[(Frag.mk ([]:List ByteArray) y68)]) (v64.length:Int).toNat (Frag.mk (x78.ids++[x5e]) x78.vec)) ?_);conv=>whnf)
           exact ih5 _ ((v64++[(Frag.mk ([]:List ByteArray) y68)]).set (v64.length:Int).toNat (Frag.mk (x78.ids++[x5e]) x78.vec)) (mset V8.row v65 y68 (v64.length:Int)) (wrL hs5 hl5 hi5) h
        ·revert h
         refine bndk fun y81 e82 h=>?_
         conv=>whnf
         repeat((first|refine dw ?_);conv=>whnf)
         refine know_beyond_c hX e82 ?_
         conv=>whnf
         repeat((first|refine dw ?_);conv=>whnf)
         revert h
         refine brk (fun c83 h=>?_) (fun c83 h=>?_)
         ·conv=>whnf
          repeat((first|refine dw ?_|with_reducible refine bct (eq8_b c83) ?_|refine bct c83 ?_);conv=>whnf)
          exact ih5 _ v64 v65 (wrL hs5 hl5 hi5) h
         ·conv=>whnf
          repeat((first|refine dw ?_|with_reducible refine bcf (eq8_b c83) ?_|refine bcf c83 ?_);conv=>whnf)
          refine map_look h (fun x84 e85 h=>?_) (fun e85 h=>?_) (get_mp (f:=V8.row) (g:=irw) _ y81)
          ·revert h
           refine bndk fun x86 a87 h=>?_
           revert h
           refine chkk fun c88 h=>?_
           conv=>whnf
           repeat((first|refine dw ?_|refine bct (at_in a87) ?_|refine bct (andt (at_in a87) rfl) ?_|refine row_in (at_row a87) ?_|refine bct (andt (at_in (at_nat a87)) rfl) ?_|refine row_in (at_row (at_nat a87)) ?_|refine bct (and3 (at_in (at_nat a87)) rfl rfl) ?_|refine bct (and3 (at_in a87) rfl rfl) ?_|refine bct (room_map c88 rfl rfl rfl rfl) ?_|refine eqv_to (cat_one (f:=srw) x86.ids x5e) ?_|refine bct (and4 (at_in (at_nat a87)) rfl rfl (natbeq_self _)) ?_|refine bct (and4 (at_in a87) rfl rfl (natbeq_self _)) ?_|refine eqv_to (set_map (f:=Frag.row) v64 x84.toNat (Frag.mk (x86.ids++[x5e]) x86.vec)) ?_);conv=>whnf)
           exact ih5 _ (v64.set x84.toNat (Frag.mk (x86.ids++[x5e]) x86.vec)) v65 (wrL hs5 hl5 hi5) h
          ·revert h
           refine chkk fun c90 h=>?_
           revert h
           refine bndk fun x91 a92 h=>?_
           revert h
           refine chkk fun c93 h=>?_
           conv=>whnf
           repeat((first|refine dw ?_|refine eqv_to (map_len _) ?_|refine eqv_to (set_mp (f:=V8.row) (g:=irw) v65 y81 (v64.length:Int)) ?_|refine Two.r ?_|refine bct (room_nest c90 rfl rfl rfl) ?_|refine eqv_to (cat_one (f:=Frag.row) v64 (Frag.mk ([]:List ByteArray) y81)) ?_|refine bct (at_in a92) ?_|refine bct (andt (at_in a92) rfl) ?_|refine row_in (at_row a92) ?_|refine bct (andt (at_in (at_nat a92)) rfl) ?_|refine row_in (at_row (at_nat a92)) ?_|refine bct (and3 (at_in (at_nat a92)) rfl rfl) ?_|refine bct (and3 (at_in a92) rfl rfl) ?_|refine bct (room_map c93 rfl rfl rfl rfl) ?_|refine eqv_to (cat_one (f:=srw) x91.ids x5e) ?_|refine bct (and4 (at_in (at_nat a92)) rfl rfl (natbeq_self _)) ?_|refine bct (and4 (at_in a92) rfl rfl (natbeq_self _)) ?_|refine eqv_to (set_map (f:=Frag.row) (v64++[(Frag.mk ([]:List ByteArray) y81)]) (v64.length:Int).toNat (Frag.mk (x91.ids++[x5e]) x91.vec)) ?_);conv=>whnf)
           exact ih5 _ ((v64++[(Frag.mk ([]:List ByteArray) y81)]).set (v64.length:Int).toNat (Frag.mk (x91.ids++[x5e]) x91.vec)) (mset V8.row v65 y81 (v64.length:Int)) (wrL hs5 hl5 hi5) h
       ·rw [know_Plain_l5] at h
        refine loop_intro hX ?_
        conv=>whnf
        repeat((first|refine dw ?_|refine bcf (lt_end hi5) ?_);conv=>whnf)
        exact K _ h
   ·rw [know_Plain_l3] at h
    refine loop_intro hX ?_
    conv=>whnf
    repeat((first|refine dw ?_|refine bcf (lt_end hi3) ?_);conv=>whnf)
    exact K _ h
end
end Go.Proofs.YtidkmoohgadjkaaGreat
set_option maxHeartbeats 0
namespace Go.Proofs.YtidkmoohgadjkaaGreat
open Go E
noncomputable section
open Pred
def know_With_s (p0:Know) (p1:ByteArray) (p2:Ver):Option (Know) :=
 (bnd (vec_With_s (V8.mk 0 0 0 0 0 0 0 0) p2) fun y1 =>
  (bnd (clone_s p0.l) fun y3 =>
   (chk (roomL y3.length 1)
    (bnd (know_Plain_s (Know.mk p0.star (y3++[(Frag.mk [p1] y1)]))) fun y6 =>
     some y6))))
def know_Own_j1 (p0:Know) (p1:ByteArray) (p2_c:Int):Option (Know) :=
 (bnd (know_With_s p0 p1 (Ver.mk 1 p2_c)) fun y101 =>
  some y101)
def know_Own_j2 (p0:Know) (p1:ByteArray) (p2_c:Int):Option (Know) :=
 (bnd (know_With_s p0 p1 (Ver.mk 2 p2_c)) fun y209 =>
  some y209)
def know_Own_j3 (p0:Know) (p1:ByteArray) (p2_c:Int):Option (Know) :=
 (bnd (know_With_s p0 p1 (Ver.mk 3 p2_c)) fun y317 =>
  some y317)
def know_Own_j4 (p0:Know) (p1:ByteArray) (p2_c:Int):Option (Know) :=
 (bnd (know_With_s p0 p1 (Ver.mk 4 p2_c)) fun y425 =>
  some y425)
def know_Own_j5 (p0:Know) (p1:ByteArray) (p2_c:Int):Option (Know) :=
 (bnd (know_With_s p0 p1 (Ver.mk 5 p2_c)) fun y533 =>
  some y533)
def know_Own_j6 (p0:Know) (p1:ByteArray) (p2_c:Int):Option (Know) :=
 (bnd (know_With_s p0 p1 (Ver.mk 6 p2_c)) fun y641 =>
  some y641)
def know_Own_j7 (p0:Know) (p1:ByteArray) (p2_c:Int):Option (Know) :=
 (bnd (know_With_s p0 p1 (Ver.mk 7 p2_c)) fun y749 =>
  some y749)
def know_Own_j8 (p0:Know) (p1:ByteArray) (p2_c:Int):Option (Know) :=
 (bnd (know_With_s p0 p1 (Ver.mk 8 p2_c)) fun y857 =>
  some y857)
def know_Own_j9 (p0:Know) (p1:ByteArray) (p2_r:Int) (p2_c:Int):Option (Know) :=
 (bnd (know_With_s p0 p1 (Ver.mk p2_r p2_c)) fun y965 =>
  some y965)
def know_Own_s (p0:Know) (p1:ByteArray) (p2:Ver):Option (Know) :=
 match p2 with
 | ⟨p2_r,p2_c⟩ =>
  (br (eqI p2_r 1)
   (br (leI 1 p2_c)
    (br (eqI p0.star.x0 (wr .i64 (p2_c - 1)))
     (bnd (vec_With_s p0.star (Ver.mk 1 p2_c)) fun y105 =>
      (bnd (know_Plain_s (Know.mk y105 p0.l)) fun y107 =>
       some y107))
     (know_Own_j1 p0 p1 p2_c ))
    (know_Own_j1 p0 p1 p2_c ))
   (br (eqI p2_r 2)
    (br (leI 1 p2_c)
     (br (eqI p0.star.x1 (wr .i64 (p2_c - 1)))
      (bnd (vec_With_s p0.star (Ver.mk 2 p2_c)) fun y213 =>
       (bnd (know_Plain_s (Know.mk y213 p0.l)) fun y215 =>
        some y215))
      (know_Own_j2 p0 p1 p2_c ))
     (know_Own_j2 p0 p1 p2_c ))
    (br (eqI p2_r 3)
     (br (leI 1 p2_c)
      (br (eqI p0.star.x2 (wr .i64 (p2_c - 1)))
       (bnd (vec_With_s p0.star (Ver.mk 3 p2_c)) fun y321 =>
        (bnd (know_Plain_s (Know.mk y321 p0.l)) fun y323 =>
         some y323))
       (know_Own_j3 p0 p1 p2_c ))
      (know_Own_j3 p0 p1 p2_c ))
     (br (eqI p2_r 4)
      (br (leI 1 p2_c)
       (br (eqI p0.star.x3 (wr .i64 (p2_c - 1)))
        (bnd (vec_With_s p0.star (Ver.mk 4 p2_c)) fun y429 =>
         (bnd (know_Plain_s (Know.mk y429 p0.l)) fun y431 =>
          some y431))
        (know_Own_j4 p0 p1 p2_c ))
       (know_Own_j4 p0 p1 p2_c ))
      (br (eqI p2_r 5)
       (br (leI 1 p2_c)
        (br (eqI p0.star.x4 (wr .i64 (p2_c - 1)))
         (bnd (vec_With_s p0.star (Ver.mk 5 p2_c)) fun y537 =>
          (bnd (know_Plain_s (Know.mk y537 p0.l)) fun y539 =>
           some y539))
         (know_Own_j5 p0 p1 p2_c ))
        (know_Own_j5 p0 p1 p2_c ))
       (br (eqI p2_r 6)
        (br (leI 1 p2_c)
         (br (eqI p0.star.x5 (wr .i64 (p2_c - 1)))
          (bnd (vec_With_s p0.star (Ver.mk 6 p2_c)) fun y645 =>
           (bnd (know_Plain_s (Know.mk y645 p0.l)) fun y647 =>
            some y647))
          (know_Own_j6 p0 p1 p2_c ))
         (know_Own_j6 p0 p1 p2_c ))
        (br (eqI p2_r 7)
         (br (leI 1 p2_c)
          (br (eqI p0.star.x6 (wr .i64 (p2_c - 1)))
           (bnd (vec_With_s p0.star (Ver.mk 7 p2_c)) fun y753 =>
            (bnd (know_Plain_s (Know.mk y753 p0.l)) fun y755 =>
             some y755))
           (know_Own_j7 p0 p1 p2_c ))
          (know_Own_j7 p0 p1 p2_c ))
         (br (eqI p2_r 8)
          (br (leI 1 p2_c)
           (br (eqI p0.star.x7 (wr .i64 (p2_c - 1)))
            (bnd (vec_With_s p0.star (Ver.mk 8 p2_c)) fun y861 =>
             (bnd (know_Plain_s (Know.mk y861 p0.l)) fun y863 =>
              some y863))
            (know_Own_j8 p0 p1 p2_c ))
           (know_Own_j8 p0 p1 p2_c ))
          (br (leI 1 p2_r)
           (br (leI p2_r 8)
            (br (leI 1 p2_c)
             none
             (know_Own_j9 p0 p1 p2_r p2_c ))
            (know_Own_j9 p0 p1 p2_r p2_c ))
           (know_Own_j9 p0 p1 p2_r p2_c ))))))))))
variable {X:Task→Prop} (hX:Closed X) {Q:A→List Blk→Prop}
include hX
theorem know_With_c  {p0:Know} {p1:ByteArray} {p2:Ver} {r:Know} (h:know_With_s p0 p1 p2=some r) (hQ:Q (.agg (Know.cs r)) []):X (.call 97 [.agg (Know.cs p0),.one (.p (.v (.string p1))),.agg (Ver.cs p2)] [] Q):=by
 unfold know_With_s at h
 refine call_nz hX ?_
 conv=>whnf
 refine call_intro hX Tryz.func97 rfl rfl ?_
 revert h
 refine bndk fun y1 e2 h=>?_
 conv=>whnf
 repeat((first|refine dw ?_);conv=>whnf)
 refine vec_With_c hX e2 ?_
 revert h
 refine bndk fun y3 e4 h=>?_
 conv=>whnf
 repeat((first|refine dw ?_);conv=>whnf)
 refine clone_c (f:=Frag.row) (k:=9) (fun _=>rfl) (by decide) hX e4 ?_
 revert h
 refine chkk fun c5 h=>?_
 revert h
 refine bndk fun y6 e7 h=>?_
 conv=>whnf
 repeat((first|refine dw ?_|refine bct (room_map c5 rfl rfl rfl rfl) ?_|refine eqv_to (cat_one (f:=Frag.row) y3 (Frag.mk [p1] y1)) ?_);conv=>whnf)
 refine Or.inl ?_
 conv=>whnf
 refine know_Plain_c hX e7 ?_
 conv=>whnf
 repeat((first|refine dw ?_);conv=>whnf)
 exact ret_some (f:=fun y=>.agg (Know.cs y)) (g:=fun y=>[]) h hQ
theorem know_Own_c  {p0:Know} {p1:ByteArray} {p2:Ver} {r:Know} (h:know_Own_s p0 p1 p2=some r) (hQ:Q (.agg (Know.cs r)) []):X (.call 217 [.agg (Know.cs p0),.one (.p (.v (.string p1))),.agg (Ver.cs p2)] [] Q):=by
  have K:=fun a (e:some a=some r)=>ret_some (f:=fun y=>.agg (Know.cs y)) (g:=fun y=>[]) e hQ
  obtain ⟨p2_r,p2_c⟩:=p2
  unfold know_Own_s at h
  dsimp only at h
  refine br_case h (fun c g=>?_) (fun c g=>?_)
  ·replace h:=g
   clear g
   obtain rfl:=eqI_t.1 c
   clear c
   refine call_nz hX ?_
   conv=>whnf
   refine call_intro hX Tryz.func217 rfl rfl ?_
   apply join0 (X:=X) (r:=r) (pad [(1,.one (.p (.v (.string p1)))),(1,.one (.ptr 0 0)),(1,.one (.ptr 1 0)),(0,.one (.ptr 2 0))] 36) ([.box (Know.cs p0),.box [ic 1,ic p2_c],.box [ic 0,ic 0,ic 0,ic 0,ic 0,ic 0,ic 0,ic 0,.own 3],.rows 0 []])
   ·intro tl1
    conv=>whnf
    repeat((first|refine dw ?_);conv=>whnf)
    refine br_some h (fun c103 g=>?_) (fun c103 g=>?_)
    ·replace h:=g
     clear g
     conv=>whnf
     repeat((first|refine dw ?_|refine bct c103 ?_);conv=>whnf)
     refine br_some h (fun c104 g=>?_) (fun c104 g=>?_)
     ·replace h:=g
      clear g
      replace h:=bnd_some h
      obtain ⟨y105,e106,h⟩:=h
      conv=>whnf
      repeat((first|refine dw ?_|refine bct c104 ?_);conv=>whnf)
      refine vec_With_c hX e106 ?_
      replace h:=bnd_some h
      obtain ⟨y107,e108,h⟩:=h
      conv=>whnf
      repeat((first|refine dw ?_);conv=>whnf)
      refine know_Plain_c hX e108 ?_
      conv=>whnf
      repeat((first|refine dw ?_);conv=>whnf)
      exact K _ h
     ·replace h:=g
      clear g
      conv=>whnf
      repeat((first|refine dw ?_|refine bcf c104 ?_);conv=>whnf)
      exact tl1.h  h
    ·replace h:=g
     clear g
     conv=>whnf
     repeat((first|refine dw ?_|refine bcf c103 ?_);conv=>whnf)
     exact tl1.h  h
   ·intro h
    unfold know_Own_j1 at h
    refine rest_intro hX ?_
    replace h:=bnd_some h
    obtain ⟨y101,e102,h⟩:=h
    conv=>whnf
    repeat((first|refine dw ?_);conv=>whnf)
    refine know_With_c hX e102 ?_
    conv=>whnf
    repeat((first|refine dw ?_);conv=>whnf)
    exact K _ h
  ·replace h:=g
   clear g c
   refine br_case h (fun c g=>?_) (fun c g=>?_)
   ·replace h:=g
    clear g
    obtain rfl:=eqI_t.1 c
    clear c
    refine call_nz hX ?_
    conv=>whnf
    refine call_intro hX Tryz.func217 rfl rfl ?_
    apply join0 (X:=X) (r:=r) (pad [(1,.one (.p (.v (.string p1)))),(1,.one (.ptr 0 0)),(1,.one (.ptr 1 0)),(0,.one (.ptr 2 0))] 36) ([.box (Know.cs p0),.box [ic 2,ic p2_c],.box [ic 0,ic 0,ic 0,ic 0,ic 0,ic 0,ic 0,ic 0,.own 3],.rows 0 []])
    ·intro tl2
     conv=>whnf
     repeat((first|refine dw ?_);conv=>whnf)
     refine br_some h (fun c211 g=>?_) (fun c211 g=>?_)
     ·replace h:=g
      clear g
      conv=>whnf
      repeat((first|refine dw ?_|refine bct c211 ?_);conv=>whnf)
      refine br_some h (fun c212 g=>?_) (fun c212 g=>?_)
      ·replace h:=g
       clear g
       replace h:=bnd_some h
       obtain ⟨y213,e214,h⟩:=h
       conv=>whnf
       repeat((first|refine dw ?_|refine bct c212 ?_);conv=>whnf)
       refine vec_With_c hX e214 ?_
       replace h:=bnd_some h
       obtain ⟨y215,e216,h⟩:=h
       conv=>whnf
       repeat((first|refine dw ?_);conv=>whnf)
       refine know_Plain_c hX e216 ?_
       conv=>whnf
       repeat((first|refine dw ?_);conv=>whnf)
       exact K _ h
      ·replace h:=g
       clear g
       conv=>whnf
       repeat((first|refine dw ?_|refine bcf c212 ?_);conv=>whnf)
       exact tl2.h  h
     ·replace h:=g
      clear g
      conv=>whnf
      repeat((first|refine dw ?_|refine bcf c211 ?_);conv=>whnf)
      exact tl2.h  h
    ·intro h
     unfold know_Own_j2 at h
     refine rest_intro hX ?_
     replace h:=bnd_some h
     obtain ⟨y209,e210,h⟩:=h
     conv=>whnf
     repeat((first|refine dw ?_);conv=>whnf)
     refine know_With_c hX e210 ?_
     conv=>whnf
     repeat((first|refine dw ?_);conv=>whnf)
     exact K _ h
   ·replace h:=g
    clear g c
    refine br_case h (fun c g=>?_) (fun c g=>?_)
    ·replace h:=g
     clear g
     obtain rfl:=eqI_t.1 c
     clear c
     refine call_nz hX ?_
     conv=>whnf
     refine call_intro hX Tryz.func217 rfl rfl ?_
     apply join0 (X:=X) (r:=r) (pad [(1,.one (.p (.v (.string p1)))),(1,.one (.ptr 0 0)),(1,.one (.ptr 1 0)),(0,.one (.ptr 2 0))] 36) ([.box (Know.cs p0),.box [ic 3,ic p2_c],.box [ic 0,ic 0,ic 0,ic 0,ic 0,ic 0,ic 0,ic 0,.own 3],.rows 0 []])
     ·intro tl3
      conv=>whnf
      repeat((first|refine dw ?_);conv=>whnf)
      refine br_some h (fun c319 g=>?_) (fun c319 g=>?_)
      ·replace h:=g
       clear g
       conv=>whnf
       repeat((first|refine dw ?_|refine bct c319 ?_);conv=>whnf)
       refine br_some h (fun c320 g=>?_) (fun c320 g=>?_)
       ·replace h:=g
        clear g
        replace h:=bnd_some h
        obtain ⟨y321,e322,h⟩:=h
        conv=>whnf
        repeat((first|refine dw ?_|refine bct c320 ?_);conv=>whnf)
        refine vec_With_c hX e322 ?_
        replace h:=bnd_some h
        obtain ⟨y323,e324,h⟩:=h
        conv=>whnf
        repeat((first|refine dw ?_);conv=>whnf)
        refine know_Plain_c hX e324 ?_
        conv=>whnf
        repeat((first|refine dw ?_);conv=>whnf)
        exact K _ h
       ·replace h:=g
        clear g
        conv=>whnf
        repeat((first|refine dw ?_|refine bcf c320 ?_);conv=>whnf)
        exact tl3.h  h
      ·replace h:=g
       clear g
       conv=>whnf
       repeat((first|refine dw ?_|refine bcf c319 ?_);conv=>whnf)
       exact tl3.h  h
     ·intro h
      unfold know_Own_j3 at h
      refine rest_intro hX ?_
      replace h:=bnd_some h
      obtain ⟨y317,e318,h⟩:=h
      conv=>whnf
      repeat((first|refine dw ?_);conv=>whnf)
      refine know_With_c hX e318 ?_
      conv=>whnf
      repeat((first|refine dw ?_);conv=>whnf)
      exact K _ h
    ·replace h:=g
     clear g c
     refine br_case h (fun c g=>?_) (fun c g=>?_)
     ·replace h:=g
      clear g
      obtain rfl:=eqI_t.1 c
      clear c
      refine call_nz hX ?_
      conv=>whnf
      refine call_intro hX Tryz.func217 rfl rfl ?_
      apply join0 (X:=X) (r:=r) (pad [(1,.one (.p (.v (.string p1)))),(1,.one (.ptr 0 0)),(1,.one (.ptr 1 0)),(0,.one (.ptr 2 0))] 36) ([.box (Know.cs p0),.box [ic 4,ic p2_c],.box [ic 0,ic 0,ic 0,ic 0,ic 0,ic 0,ic 0,ic 0,.own 3],.rows 0 []])
      ·intro tl4
       conv=>whnf
       repeat((first|refine dw ?_);conv=>whnf)
       refine br_some h (fun c427 g=>?_) (fun c427 g=>?_)
       ·replace h:=g
        clear g
        conv=>whnf
        repeat((first|refine dw ?_|refine bct c427 ?_);conv=>whnf)
        refine br_some h (fun c428 g=>?_) (fun c428 g=>?_)
        ·replace h:=g
         clear g
         replace h:=bnd_some h
         obtain ⟨y429,e430,h⟩:=h
         conv=>whnf
         repeat((first|refine dw ?_|refine bct c428 ?_);conv=>whnf)
         refine vec_With_c hX e430 ?_
         replace h:=bnd_some h
         obtain ⟨y431,e432,h⟩:=h
         conv=>whnf
         repeat((first|refine dw ?_);conv=>whnf)
         refine know_Plain_c hX e432 ?_
         conv=>whnf
         repeat((first|refine dw ?_);conv=>whnf)
         exact K _ h
        ·replace h:=g
         clear g
         conv=>whnf
         repeat((first|refine dw ?_|refine bcf c428 ?_);conv=>whnf)
         exact tl4.h  h
       ·replace h:=g
        clear g
        conv=>whnf
        repeat((first|refine dw ?_|refine bcf c427 ?_);conv=>whnf)
        exact tl4.h  h
      ·intro h
       unfold know_Own_j4 at h
       refine rest_intro hX ?_
       replace h:=bnd_some h
       obtain ⟨y425,e426,h⟩:=h
       conv=>whnf
       repeat((first|refine dw ?_);conv=>whnf)
       refine know_With_c hX e426 ?_
       conv=>whnf
       repeat((first|refine dw ?_);conv=>whnf)
       exact K _ h
     ·replace h:=g
      clear g c
      refine br_case h (fun c g=>?_) (fun c g=>?_)
      ·replace h:=g
       clear g
       obtain rfl:=eqI_t.1 c
       clear c
       refine call_nz hX ?_
       conv=>whnf
       refine call_intro hX Tryz.func217 rfl rfl ?_
       apply join0 (X:=X) (r:=r) (pad [(1,.one (.p (.v (.string p1)))),(1,.one (.ptr 0 0)),(1,.one (.ptr 1 0)),(0,.one (.ptr 2 0))] 36) ([.box (Know.cs p0),.box [ic 5,ic p2_c],.box [ic 0,ic 0,ic 0,ic 0,ic 0,ic 0,ic 0,ic 0,.own 3],.rows 0 []])
       ·intro tl5
        conv=>whnf
        repeat((first|refine dw ?_);conv=>whnf)
        refine br_some h (fun c535 g=>?_) (fun c535 g=>?_)
        ·replace h:=g
         clear g
         conv=>whnf
         repeat((first|refine dw ?_|refine bct c535 ?_);conv=>whnf)
         refine br_some h (fun c536 g=>?_) (fun c536 g=>?_)
         ·replace h:=g
          clear g
          replace h:=bnd_some h
          obtain ⟨y537,e538,h⟩:=h
          conv=>whnf
          repeat((first|refine dw ?_|refine bct c536 ?_);conv=>whnf)
          refine vec_With_c hX e538 ?_
          replace h:=bnd_some h
          obtain ⟨y539,e540,h⟩:=h
          conv=>whnf
          repeat((first|refine dw ?_);conv=>whnf)
          refine know_Plain_c hX e540 ?_
          conv=>whnf
          repeat((first|refine dw ?_);conv=>whnf)
          exact K _ h
         ·replace h:=g
          clear g
          conv=>whnf
          repeat((first|refine dw ?_|refine bcf c536 ?_);conv=>whnf)
          exact tl5.h  h
        ·replace h:=g
         clear g
         conv=>whnf
         repeat((first|refine dw ?_|refine bcf c535 ?_);conv=>whnf)
         exact tl5.h  h
       ·intro h
        unfold know_Own_j5 at h
        refine rest_intro hX ?_
        replace h:=bnd_some h
        obtain ⟨y533,e534,h⟩:=h
        conv=>whnf
        repeat((first|refine dw ?_);conv=>whnf)
        refine know_With_c hX e534 ?_
        conv=>whnf
        repeat((first|refine dw ?_);conv=>whnf)
        exact K _ h
      ·replace h:=g
       clear g c
       refine br_case h (fun c g=>?_) (fun c g=>?_)
       ·replace h:=g
        clear g
        obtain rfl:=eqI_t.1 c
        clear c
        refine call_nz hX ?_
        conv=>whnf
        refine call_intro hX Tryz.func217 rfl rfl ?_
        apply join0 (X:=X) (r:=r) (pad [(1,.one (.p (.v (.string p1)))),(1,.one (.ptr 0 0)),(1,.one (.ptr 1 0)),(0,.one (.ptr 2 0))] 36) ([.box (Know.cs p0),.box [ic 6,ic p2_c],.box [ic 0,ic 0,ic 0,ic 0,ic 0,ic 0,ic 0,ic 0,.own 3],.rows 0 []])
        ·intro tl6
         conv=>whnf
         repeat((first|refine dw ?_);conv=>whnf)
         refine br_some h (fun c643 g=>?_) (fun c643 g=>?_)
         ·replace h:=g
          clear g
          conv=>whnf
          repeat((first|refine dw ?_|refine bct c643 ?_);conv=>whnf)
          refine br_some h (fun c644 g=>?_) (fun c644 g=>?_)
          ·replace h:=g
           clear g
           replace h:=bnd_some h
           obtain ⟨y645,e646,h⟩:=h
           conv=>whnf
           repeat((first|refine dw ?_|refine bct c644 ?_);conv=>whnf)
           refine vec_With_c hX e646 ?_
           replace h:=bnd_some h
           obtain ⟨y647,e648,h⟩:=h
           conv=>whnf
           repeat((first|refine dw ?_);conv=>whnf)
           refine know_Plain_c hX e648 ?_
           conv=>whnf
           repeat((first|refine dw ?_);conv=>whnf)
           exact K _ h
          ·replace h:=g
           clear g
           conv=>whnf
           repeat((first|refine dw ?_|refine bcf c644 ?_);conv=>whnf)
           exact tl6.h  h
         ·replace h:=g
          clear g
          conv=>whnf
          repeat((first|refine dw ?_|refine bcf c643 ?_);conv=>whnf)
          exact tl6.h  h
        ·intro h
         unfold know_Own_j6 at h
         refine rest_intro hX ?_
         replace h:=bnd_some h
         obtain ⟨y641,e642,h⟩:=h
         conv=>whnf
         repeat((first|refine dw ?_);conv=>whnf)
         refine know_With_c hX e642 ?_
         conv=>whnf
         repeat((first|refine dw ?_);conv=>whnf)
         exact K _ h
       ·replace h:=g
        clear g c
        refine br_case h (fun c g=>?_) (fun c g=>?_)
        ·replace h:=g
         clear g
         obtain rfl:=eqI_t.1 c
         clear c
         refine call_nz hX ?_
         conv=>whnf
         refine call_intro hX Tryz.func217 rfl rfl ?_
         apply join0 (X:=X) (r:=r) (pad [(1,.one (.p (.v (.string p1)))),(1,.one (.ptr 0 0)),(1,.one (.ptr 1 0)),(0,.one (.ptr 2 0))] 36) ([.box (Know.cs p0),.box [ic 7,ic p2_c],.box [ic 0,ic 0,ic 0,ic 0,ic 0,ic 0,ic 0,ic 0,.own 3],.rows 0 []])
         ·intro tl7
          conv=>whnf
          repeat((first|refine dw ?_);conv=>whnf)
          refine br_some h (fun c751 g=>?_) (fun c751 g=>?_)
          ·replace h:=g
           clear g
           conv=>whnf
           repeat((first|refine dw ?_|refine bct c751 ?_);conv=>whnf)
           refine br_some h (fun c752 g=>?_) (fun c752 g=>?_)
           ·replace h:=g
            clear g
            replace h:=bnd_some h
            obtain ⟨y753,e754,h⟩:=h
            conv=>whnf
            repeat((first|refine dw ?_|refine bct c752 ?_);conv=>whnf)
            refine vec_With_c hX e754 ?_
            replace h:=bnd_some h
            obtain ⟨y755,e756,h⟩:=h
            conv=>whnf
            repeat((first|refine dw ?_);conv=>whnf)
            refine know_Plain_c hX e756 ?_
            conv=>whnf
            repeat((first|refine dw ?_);conv=>whnf)
            exact K _ h
           ·replace h:=g
            clear g
            conv=>whnf
            repeat((first|refine dw ?_|refine bcf c752 ?_);conv=>whnf)
            exact tl7.h  h
          ·replace h:=g
           clear g
           conv=>whnf
           repeat((first|refine dw ?_|refine bcf c751 ?_);conv=>whnf)
           exact tl7.h  h
         ·intro h
          unfold know_Own_j7 at h
          refine rest_intro hX ?_
          replace h:=bnd_some h
          obtain ⟨y749,e750,h⟩:=h
          conv=>whnf
          repeat((first|refine dw ?_);conv=>whnf)
          refine know_With_c hX e750 ?_
          conv=>whnf
          repeat((first|refine dw ?_);conv=>whnf)
          exact K _ h
        ·replace h:=g
         clear g c
         refine br_case h (fun c g=>?_) (fun c g=>?_)
         ·replace h:=g
          clear g
          obtain rfl:=eqI_t.1 c
          clear c
          refine call_nz hX ?_
          conv=>whnf
          refine call_intro hX Tryz.func217 rfl rfl ?_
          apply join0 (X:=X) (r:=r) (pad [(1,.one (.p (.v (.string p1)))),(1,.one (.ptr 0 0)),(1,.one (.ptr 1 0)),(0,.one (.ptr 2 0))] 36) ([.box (Know.cs p0),.box [ic 8,ic p2_c],.box [ic 0,ic 0,ic 0,ic 0,ic 0,ic 0,ic 0,ic 0,.own 3],.rows 0 []])
          ·intro tl8
           conv=>whnf
           repeat((first|refine dw ?_);conv=>whnf)
           refine br_some h (fun c859 g=>?_) (fun c859 g=>?_)
           ·replace h:=g
            clear g
            conv=>whnf
            repeat((first|refine dw ?_|refine bct c859 ?_);conv=>whnf)
            refine br_some h (fun c860 g=>?_) (fun c860 g=>?_)
            ·replace h:=g
             clear g
             replace h:=bnd_some h
             obtain ⟨y861,e862,h⟩:=h
             conv=>whnf
             repeat((first|refine dw ?_|refine bct c860 ?_);conv=>whnf)
             refine vec_With_c hX e862 ?_
             replace h:=bnd_some h
             obtain ⟨y863,e864,h⟩:=h
             conv=>whnf
             repeat((first|refine dw ?_);conv=>whnf)
             refine know_Plain_c hX e864 ?_
             conv=>whnf
             repeat((first|refine dw ?_);conv=>whnf)
             exact K _ h
            ·replace h:=g
             clear g
             conv=>whnf
             repeat((first|refine dw ?_|refine bcf c860 ?_);conv=>whnf)
             exact tl8.h  h
           ·replace h:=g
            clear g
            conv=>whnf
            repeat((first|refine dw ?_|refine bcf c859 ?_);conv=>whnf)
            exact tl8.h  h
          ·intro h
           unfold know_Own_j8 at h
           refine rest_intro hX ?_
           replace h:=bnd_some h
           obtain ⟨y857,e858,h⟩:=h
           conv=>whnf
           repeat((first|refine dw ?_);conv=>whnf)
           refine know_With_c hX e858 ?_
           conv=>whnf
           repeat((first|refine dw ?_);conv=>whnf)
           exact K _ h
         ·replace h:=g
          clear g c
          refine call_nz hX ?_
          conv=>whnf
          refine call_intro hX Tryz.func217 rfl rfl ?_
          apply join0 (X:=X) (r:=r) (pad [(1,.one (.p (.v (.string p1)))),(1,.one (.ptr 0 0)),(1,.one (.ptr 1 0)),(0,.one (.ptr 2 0))] 36) ([.box (Know.cs p0),.box [ic p2_r,ic p2_c],.box [ic 0,ic 0,ic 0,ic 0,ic 0,ic 0,ic 0,ic 0,.own 3],.rows 0 []])
          ·intro tl9
           conv=>whnf
           repeat((first|refine dw ?_);conv=>whnf)
           refine br_some h (fun c967 g=>?_) (fun c967 g=>?_)
           ·replace h:=g
            clear g
            conv=>whnf
            repeat((first|refine dw ?_|refine bct c967 ?_);conv=>whnf)
            refine br_some h (fun c968 g=>?_) (fun c968 g=>?_)
            ·replace h:=g
             clear g
             conv=>whnf
             repeat((first|refine dw ?_|refine bct c968 ?_);conv=>whnf)
             refine br_some h (fun c969 g=>?_) (fun c969 g=>?_)
             ·replace h:=g
              clear g
              exact no_some h
             ·replace h:=g
              clear g
              conv=>whnf
              repeat((first|refine dw ?_|refine bcf c969 ?_);conv=>whnf)
              exact tl9.h  h
            ·replace h:=g
             clear g
             conv=>whnf
             repeat((first|refine dw ?_|refine bcf c968 ?_);conv=>whnf)
             exact tl9.h  h
           ·replace h:=g
            clear g
            conv=>whnf
            repeat((first|refine dw ?_|refine bcf c967 ?_);conv=>whnf)
            exact tl9.h  h
          ·intro h
           unfold know_Own_j9 at h
           refine rest_intro hX ?_
           replace h:=bnd_some h
           obtain ⟨y965,e966,h⟩:=h
           conv=>whnf
           repeat((first|refine dw ?_);conv=>whnf)
           refine know_With_c hX e966 ?_
           conv=>whnf
           repeat((first|refine dw ?_);conv=>whnf)
           exact K _ h
end
end Go.Proofs.YtidkmoohgadjkaaGreat
set_option maxHeartbeats 0
namespace Go.Proofs.YtidkmoohgadjkaaGreat
open Go E
noncomputable section
open Pred
def know_Has_l2 (p1:ByteArray) (p2:Ver) (x1e:Frag) (k1:Option (Bool)):List ByteArray→Int→Option (Bool)
  | [],v5 =>
  (k1 )
  | x2e::xs2,v5 =>
  (br (eqS p1 x2e)
   (br (leI 0 v5)
    (bnd (vec_Has_s x1e.vec p2) fun y8 =>
     (br y8
      (some true)
      (k1 )))
    (k1 ))
   (know_Has_l2 p1 p2 x1e k1 xs2 (v5 + 1) ))
def know_Has_l1 (p1:ByteArray) (p2:Ver):List Frag→Option (Bool)
 | [] =>
 some false
 | x1e::xs1 =>
 (chk (smallL x1e.ids)
  ((know_Has_l2 p1 p2 x1e (know_Has_l1 p1 p2 xs1 )) x1e.ids 0 ))
def know_Has_s (p0:Know) (p1:ByteArray) (p2:Ver):Option (Bool) :=
 (bnd (vec_Has_s p0.star p2) fun y1 =>
  (br y1
   (some true)
   (chk (smallL p0.l)
     ((know_Has_l1 p1 p2) p0.l ))))
variable {X:Task→Prop} (hX:Closed X) {Q:A→List Blk→Prop}
include hX
theorem know_Has_c  {p0:Know} {p1:ByteArray} {p2:Ver} {r:Bool} (h:know_Has_s p0 p1 p2=some r) (hQ:Q (.one (.p (.v (.bool r)))) []):X (.call 40 [.agg (Know.cs p0),.one (.p (.v (.string p1))),.agg (Ver.cs p2)] [] Q):=by
  have K:=fun a (e:some a=some r)=>ret_some (f:=fun y=>.one (.p (.v (.bool y)))) (g:=fun y=>[]) e hQ
  unfold know_Has_s at h
  refine call_intro hX Tryz.func40 rfl rfl ?_
  revert h
  refine bndk fun y1 e2 h=>?_
  conv=>whnf
  repeat((first|refine dw ?_);conv=>whnf)
  refine vec_Has_c hX e2 ?_
  conv=>whnf
  repeat((first|refine dw ?_);conv=>whnf)
  revert h
  refine brk (fun c3 h=>?_) (fun c3 h=>?_)
  ·conv=>whnf
   repeat((first|refine dw ?_|refine bct c3 ?_);conv=>whnf)
   exact K _ h
  ·revert h
   refine chkk fun hs1 h=>?_
   conv=>whnf
   repeat((first|refine dw ?_|refine bcf c3 ?_|refine eqv_to (map_len _) ?_);conv=>whnf)
   refine loop_lisx0 (fun (v4:Int)=>pad [(1,.one (.p (.v (.string p1)))),(3,.one (.ptr 0 0)),(8,.one (.p (.sl (p0.l.map Frag.row)))),(0,iv (p0.l.length:Int)),(0,iv v4)] 14) (fun (v4:Int)=>[.box (Ver.cs p2)]) _ p0.l (fun pre1 x1e xs1 v4  hl1 hi1 h ih1=>?_) (fun v4  hi1 h=>?_)  h
   ·rw [know_Has_l1] at h
    have am1:=at_mid hl1 hi1
    refine loop_intro hX ?_
    conv=>whnf
    repeat((first|refine dw ?_|refine bct (lt_mid hl1 hi1) ?_|refine bct (at_in am1) ?_|refine bct (andt (at_in am1) rfl) ?_|refine row_in (at_row am1) ?_|refine bct (andt (at_in (at_nat am1)) rfl) ?_|refine row_in (at_row (at_nat am1)) ?_);conv=>whnf)
    refine call_intro hX Tryz.func110 rfl rfl ?_
    conv=>whnf
    repeat((first|refine dw ?_);conv=>whnf)
    refine call_intro hX Tryz.func176 rfl rfl ?_
    revert h
    refine chkk fun hs2 h=>?_
    conv=>whnf
    repeat((first|refine dw ?_|refine eqv_to (map_len _) ?_);conv=>whnf)
    refine loop_list0 (fun (v5:Int)=>pad [(0,.one (.p (.sl (x1e.ids.map srw)))),(0,.one (.p (.v (.string p1)))),(5,iv (x1e.ids.length:Int)),(0,iv v5)] 10) (fun (v5:Int)=>[]) _ x1e.ids (fun pre2 x2e xs2 v5  hl2 hi2 h ih2=>?_) (fun v5  hi2 h=>?_)  h
    ·rw [know_Has_l2] at h
     have am2:=at_mid hl2 hi2
     refine loop_intro hX ?_
     conv=>whnf
     repeat((first|refine dw ?_|refine bct (lt_mid hl2 hi2) ?_|refine bct (at_in am2) ?_|refine bct (andt (at_in am2) rfl) ?_|refine row_in (at_row am2) ?_|refine bct (andt (at_in (at_nat am2)) rfl) ?_|refine row_in (at_row (at_nat am2)) ?_);conv=>whnf)
     revert h
     refine brk (fun c6 h=>?_) (fun c6 h=>?_)
     ·conv=>whnf
      repeat((first|refine dw ?_|refine bct c6 ?_);conv=>whnf)
      revert h
      refine brk (fun c7 h=>?_) (fun c7 h=>?_)
      ·revert h
       refine bndk fun y8 e9 h=>?_
       conv=>whnf
       repeat((first|refine dw ?_|refine bct c7 ?_);conv=>whnf)
       refine vec_Has_c hX e9 ?_
       conv=>whnf
       repeat((first|refine dw ?_|refine bct c7 ?_);conv=>whnf)
       revert h
       refine brk (fun c10 h=>?_) (fun c10 h=>?_)
       ·conv=>whnf
        repeat((first|refine dw ?_|refine bct c10 ?_);conv=>whnf)
        exact K _ h
       ·conv=>whnf
        repeat((first|refine dw ?_|refine bcf c10 ?_);conv=>whnf)
        exact ih1 _  (wrL hs1 hl1 hi1) h
      ·conv=>whnf
       repeat((first|refine dw ?_|refine bcf c7 ?_);conv=>whnf)
       exact ih1 _  (wrL hs1 hl1 hi1) h
     ·conv=>whnf
      repeat((first|refine dw ?_|refine bcf c6 ?_);conv=>whnf)
      exact ih2 _  (wrL hs2 hl2 hi2) h
    ·rw [know_Has_l2] at h
     refine loop_intro hX ?_
     conv=>whnf
     repeat((first|refine dw ?_|refine bcf (lt_end hi2) ?_);conv=>whnf)
     exact ih1 _  (wrL hs1 hl1 hi1) h
   ·rw [know_Has_l1] at h
    refine loop_intro hX ?_
    conv=>whnf
    repeat((first|refine dw ?_|refine bcf (lt_end hi1) ?_);conv=>whnf)
    exact K _ h
end
end Go.Proofs.YtidkmoohgadjkaaGreat
namespace Go.Proofs.YtidkmoohgadjkaaGreat
open Go E
theorem ltS_lt (a b:ByteArray):ltS a b=decide (a.data.toList < b.data.toList):=bytesLess_eq _ _
theorem byt_ext {a b:ByteArray} (h:a.data.toList=b.data.toList):a=b:=by
 cases a; cases b; simp at h; rw [h]
theorem eqS_t {a b:ByteArray}:eqS a b=true↔a=b:=by
 unfold eqS; rw [beq_iff_eq]; exact ⟨byt_ext,fun h=>by rw [h]⟩
theorem eqS_self (a:ByteArray):eqS a a=true:=eqS_t.2 rfl
theorem eqS_f {a b:ByteArray}:eqS a b=false↔a≠b:=by
 rw [←Bool.not_eq_true,eqS_t]
theorem eqS_comm' (a b:ByteArray):eqS a b=eqS b a:=by
 cases h:eqS b a with
 | true=>rw [eqS_t] at h ⊢; exact h.symm
 | false=>rw [eqS_f] at h ⊢; exact fun e=>h e.symm
theorem ltS_self (a:ByteArray):ltS a a=false:=by rw [ltS_lt,decide_eq_false_iff_not]; exact List.lt_irrefl _
theorem ltS_tr {a b c:ByteArray} (h:ltS a b=true) (h':ltS b c=true):ltS a c=true:=by
 rw [ltS_lt,decide_eq_true_eq] at *; exact List.lt_trans h h'
theorem ltS_asym {a b:ByteArray} (h:ltS a b=true):ltS b a=false:=by
 cases h':ltS b a with
 | false=>rfl
 | true=>have:=ltS_tr h h'; rw [ltS_self] at this; cases this
theorem ltS_tri {a b:ByteArray} (h:ltS a b=false) (h':ltS b a=false):a=b:=by
 rw [ltS_lt,decide_eq_false_iff_not] at *
 exact byt_ext (List.le_antisymm (List.not_lt.1 h') (List.not_lt.1 h))
theorem ltS_ne {a b:ByteArray} (h:ltS a b=true):eqS a b=false:=by
 rw [eqS_f]; rintro rfl; rw [ltS_self] at h; cases h
theorem le_ltS_tr {a b c:ByteArray} (h:ltS b a=false) (h':ltS b c=true):ltS a c=true:=by
 cases h2:ltS a b with
 | true=>exact ltS_tr h2 h'
 | false=>rw [ltS_tri h2 h]; exact h'
def Ris (l:List Item):Prop:=l.Pairwise fun a b=>ltS a.id b.id=true
end Go.Proofs.YtidkmoohgadjkaaGreat
namespace Go.Proofs.YtidkmoohgadjkaaGreat
open Go E Pred
noncomputable section
open Classical
def alk {α:Type} (l:List (ByteArray × α)) (k:ByteArray):Option α:=(l.find? fun e=>eqS e.1 k).map (·.2)
theorem keyEq_srw (a b:ByteArray):keyEq (srw a) (srw b)=eqS a b:=by simp [keyEq,pcEq]
theorem mget_srw {α:Type} (l:List (ByteArray × α)) (k:ByteArray):mget srw l k=alk l k:=by
 unfold mget alk; simp only [keyEq_srw]
theorem alk_cons {α:Type} (e:ByteArray × α) (l:List (ByteArray × α)) (k:ByteArray):alk (e::l) k=if eqS e.1 k=true then some e.2 else alk l k:=by
 unfold alk; rw [List.find?_cons]; cases eqS e.1 k<;>simp
theorem alk_app {α:Type} (l m:List (ByteArray × α)) (k:ByteArray):alk (l++m) k=(alk l k).or (alk m k):=by
 unfold alk; rw [List.find?_append]; cases List.find? (fun e=>eqS e.1 k) l<;>rfl
theorem alk_some {α:Type} {l:List (ByteArray × α)} {k:ByteArray}:(alk l k).isSome=memB (l.map (·.1)) k:=by
 unfold alk memB
 induction l with
 | nil=>rfl
 | cons e l ih =>
  rw [List.find?_cons,List.map_cons,List.any_cons]
  cases h:eqS e.1 k with
  | true=>rfl
  | false=>rw [Bool.false_or]; exact ih
theorem mset_alk {α:Type} (l:List (ByteArray × α)) (k:ByteArray) (v:α) (id:ByteArray):alk (mset srw l k v) id=if eqS k id=true then some v else alk l id:=by
 unfold mset
 rw [mget_srw]
 cases h:alk l k with
 | none =>
  rw [if_neg (by simp),alk_app,alk_cons]
  by_cases hk:eqS k id=true
  ·rw [if_pos hk,if_pos hk,←eqS_t.1 hk,h]; rfl
  ·rw [if_neg hk,if_neg hk]; cases alk l id<;>rfl
 | some w =>
  rw [if_pos (by rfl)]
  simp only [keyEq_srw]
  have key:∀ l:List (ByteArray × α),(alk l k).isSome=true→alk (l.map fun e=>if eqS e.1 k=true then (e.1,v) else e) id=if eqS k id=true then some v else alk l id:=by
   intro l
   induction l with
   | nil=>intro h; cases h
   | cons e l ih =>
    intro h
    rw [alk_cons] at h
    rw [List.map_cons,alk_cons,alk_cons]
    by_cases he:eqS e.1 k=true
    ·rw [if_pos he]
     have e':=eqS_t.1 he
     by_cases hk:eqS k id=true
     ·rw [if_pos (by show eqS e.1 id=true; rw [e']; exact hk),if_pos hk]
     ·rw [if_neg (by show ¬ eqS e.1 id=true; rw [e']; exact hk),if_neg hk,if_neg (by rw [e']; exact hk)]
      have:∀ l:List (ByteArray × α),alk (l.map fun e=>if eqS e.1 k=true then (e.1,v) else e) id=alk l id:=by
       intro l
       induction l with
       | nil=>rfl
       | cons e l ih =>
        rw [List.map_cons,alk_cons,alk_cons,ih]
        by_cases he:eqS e.1 k=true
        ·rw [if_pos he,if_neg (by show ¬ eqS e.1 id=true; rw [eqS_t.1 he]; exact hk),if_neg (by rw [eqS_t.1 he]; exact hk)]
        ·rw [if_neg he]
      exact this l
    ·rw [if_neg he] at h
     rw [if_neg he,ih h]
     by_cases hi:eqS e.1 id=true
     ·rw [if_pos hi,if_pos hi,if_neg (by rw [←eqS_t.1 hi,eqS_comm']; exact he)]
     ·rw [if_neg hi,if_neg hi]
  exact key l (by rw [h]; rfl)
theorem mset_keys {α:Type} (l:List (ByteArray × α)) (k:ByteArray) (v:α):(mset srw l k v).map (·.1)=if memB (l.map (·.1)) k=true then l.map (·.1) else l.map (·.1)++[k]:=by
 unfold mset
 rw [mget_srw,alk_some]
 split
 ·rw [List.map_map]
  refine List.map_congr_left fun e _=>?_
  simp only [Function.comp,keyEq_srw]
  split<;>rfl
 ·rw [List.map_append]; rfl
theorem memB_iff {l:List ByteArray} {x:ByteArray}:memB l x=true↔x∈l:=by
 unfold memB
 rw [List.any_eq_true]
 exact ⟨fun ⟨y,hy,e⟩=>by rw [←eqS_t.1 e]; exact hy,fun h=>⟨x,h,eqS_self _⟩⟩
theorem memB_cons (y:ByteArray) (l:List ByteArray) (x:ByteArray):memB (y::l) x=(eqS y x || memB l x):=List.any_cons
theorem mset_nodup {α:Type} {l:List (ByteArray × α)} {k:ByteArray} {v:α} (h:(l.map (·.1)).Nodup):((mset srw l k v).map (·.1)).Nodup:=by
 rw [mset_keys]
 split
 ·exact h
 ·rename_i hk
  rw [memB_iff] at hk
  rw [List.nodup_append]
  exact ⟨h,by simp,fun a ha b hb=>by rw [List.mem_singleton.1 hb]; rintro rfl; exact hk ha⟩
theorem maxI_idem (a v:Int):maxI (maxI a v) v=maxI a v:=by unfold maxI; by_cases h:v > a<;>simp [h]
theorem maxV_idem (a v:V8):maxV (maxV a v) v=maxV a v:=by unfold maxV; simp only [maxI_idem]
def addAll (v:V8) (M:List (ByteArray × V8)) (id:ByteArray):List (ByteArray × V8):=mset srw M id (maxV ((alk M id).getD zero8) v)
theorem opt_n {α β:Type} {f:α→Option β} {n:Option β}:opt none f n=n:=rfl
theorem opt_s {α β:Type} {x:α} {f:α→Option β} {n:Option β}:opt (some x) f n=f x:=rfl
theorem plain2_l {f:Frag} {k:List (ByteArray × V8)→Option Know}:∀ (ids:List ByteArray) (M:List (ByteArray × V8)),know_Plain_l2 f k ids M=k (ids.foldl (addAll f.vec) M)
 | [],M=>by rw [know_Plain_l2]; rfl
 | x::ids,M=>by
  have ih:=fun M=>plain2_l (f:=f) (k:=k) ids M
  rw [know_Plain_l2,List.foldl_cons,←ih]
  unfold addAll
  rw [mget_srw]
  cases alk M x with
  | none =>
   rw [opt_n]
   exact bnd_of (show vec_Max_s ⟨0,0,0,0,0,0,0,0⟩ f.vec=some (maxV zero8 f.vec) from rfl)
  | some y =>
   rw [opt_s]
   exact bnd_of (show vec_Max_s y f.vec=some (maxV y f.vec) from rfl)
theorem addAll_alk {v:V8}:∀ (ids:List ByteArray) (M:List (ByteArray × V8)) (id:ByteArray),alk (ids.foldl (addAll v) M) id=if memB ids id=true then some (maxV ((alk M id).getD zero8) v) else alk M id
 | [],M,id=>by rfl
 | x::ids,M,id=>by
  rw [List.foldl_cons,addAll_alk ids,memB_cons]
  unfold addAll
  rw [mset_alk]
  by_cases hx:eqS x id=true
  ·rw [if_pos hx,hx,Bool.true_or,if_pos rfl,←eqS_t.1 hx]
   split
   ·show some (maxV (maxV _ v) v)=_; rw [maxV_idem]
   ·rfl
  ·rw [if_neg hx]
   simp only [Bool.not_eq_true] at hx
   rw [hx,Bool.false_or]
theorem addAll_nodup {v:V8}:∀ (ids:List ByteArray) (M:List (ByteArray × V8)),(M.map (·.1)).Nodup→((ids.foldl (addAll v) M).map (·.1)).Nodup
 | [],M,h=>h
 | x::ids,M,h=>addAll_nodup ids _ (mset_nodup h)
theorem addAll_len {v:V8}:∀ (ids:List ByteArray) (M:List (ByteArray × V8)),(ids.foldl (addAll v) M).length≤M.length + ids.length
 | [],M=>Nat.le_refl _
 | x::ids,M=>by
  have h1:=addAll_len (v:=v) ids (addAll v M x)
  have h2:(addAll v M x).length≤M.length + 1:=by
   unfold addAll mset
   split
   ·simp
   ·simp
  rw [List.foldl_cons,List.length_cons]; omega
def allM (l:List Frag) (M:List (ByteArray × V8)):List (ByteArray × V8):=l.foldl (fun M f=>f.ids.foldl (addAll f.vec) M) M
theorem allM_alk (id:ByteArray):∀ (l:List Frag) (M:List (ByteArray × V8)),alk (allM l M) id=if (alk M id).isSome || l.any (fun f=>memB f.ids id) then some (sumV id l ((alk M id).getD zero8)) else none
 | [],M=>by
  show alk M id=_
  cases h:alk M id<;>rfl
 | f::l,M=>by
  have ih:=allM_alk id l (f.ids.foldl (addAll f.vec) M)
  rw [addAll_alk] at ih
  show alk (allM l (f.ids.foldl (addAll f.vec) M)) id=_
  rw [ih,List.any_cons]
  unfold sumV
  rw [List.foldl_cons]
  by_cases hf:memB f.ids id=true
  ·rw [if_pos hf,if_pos hf,hf]; simp
  ·rw [if_neg hf,if_neg hf]
   simp only [Bool.not_eq_true] at hf
   rw [hf,Bool.false_or]
theorem allM_nodup:∀ (l:List Frag) (M:List (ByteArray × V8)),(M.map (·.1)).Nodup→((allM l M).map (·.1)).Nodup
 | [],M,h=>h
 | f::l,M,h=>allM_nodup l _ (addAll_nodup f.ids M h)
def idsN (l:List Frag):Nat:=(l.map fun f=>f.ids.length).sum
theorem idsN_cons (f:Frag) (l:List Frag):idsN (f::l)=f.ids.length + idsN l:=by simp [idsN]
theorem idsN_app (l m:List Frag):idsN (l++m)=idsN l + idsN m:=by simp [idsN]
theorem allM_len:∀ (l:List Frag) (M:List (ByteArray × V8)),(allM l M).length≤M.length + idsN l
 | [],M=>Nat.le_refl _
 | f::l,M=>by
  have h1:=allM_len l (f.ids.foldl (addAll f.vec) M)
  have h2:=addAll_len (v:=f.vec) f.ids M
  rw [idsN_cons]
  show (allM l (f.ids.foldl (addAll f.vec) M)).length≤_
  omega
structure KT (k:Know) (N:Nat):Prop where
 l:k.l.length≤N
 ids:idsN k.l≤N
theorem idsN_mem {l:List Frag} {f:Frag} (h:f∈l):f.ids.length≤idsN l:=by
 induction l with
 | nil=>cases h
 | cons g l ih =>
  rw [idsN_cons]
  rcases List.mem_cons.1 h with rfl | h
  ·omega
  ·have:=ih h; omega
theorem KT.kb {k:Know} {N:Nat} (h:KT k N):KB k N:=⟨h.l,fun f hf=>Nat.le_trans (idsN_mem hf) h.ids⟩
theorem KT.mono {k:Know} {n m:Nat} (h:KT k n) (hm:n≤m):KT k m:=⟨Nat.le_trans h.l hm,Nat.le_trans h.ids hm⟩
theorem KB.kt {k:Know} {N:Nat} (h:KB k N):KT k (N + N * N):=by
 have key:∀ l:List Frag,(∀ f∈l,f.ids.length≤N)→idsN l≤l.length * N:=by
  intro l
  induction l with
  | nil=>intro _; simp [idsN]
  | cons f l ih =>
   intro h
   have h1:=h f (List.mem_cons_self ..)
   have h2:=ih fun g hg=>h g (List.mem_cons_of_mem _ hg)
   rw [idsN_cons,List.length_cons,Nat.succ_mul]; omega
 have h1:=key k.l h.ids
 have h2:=Nat.mul_le_mul_right N h.l
 exact ⟨Nat.le_trans h.l (Nat.le_add_right _ _),by omega⟩
theorem plain1_l {k:Know}:∀ (l:List Frag) (M:List (ByteArray × V8)),(∀ f∈l,f.ids.length≤1000000000)→know_Plain_l1 k l M=bnd (sorted_s (allM l M)) fun y=>chk (smallL y) (know_Plain_l3 k (allM l M) y)
 | [],M,_=>by rw [know_Plain_l1]; rfl
 | f::l,M,h=>by
  rw [know_Plain_l1,chk_t (smallL_of (h f (List.mem_cons_self ..))),plain2_l]
  exact plain1_l l _ fun g hg=>h g (List.mem_cons_of_mem _ hg)
def Srt (l:List ByteArray):Prop:=l.Pairwise fun a b=>ltS a b=true
theorem srt_cons {x:ByteArray} {l:List ByteArray}:Srt (x::l)↔(∀ y∈l,ltS x y=true)∧Srt l:=List.pairwise_cons
theorem srt_ext:∀ {l m:List ByteArray},Srt l→Srt m→(∀ x,x∈l↔x∈m)→l=m
 | [],[],_,_,_=>rfl
 | [],y::m,_,_,h=>absurd ((h y).2 (List.mem_cons_self ..)) (by simp)
 | x::l,[],_,_,h=>absurd ((h x).1 (List.mem_cons_self ..)) (by simp)
 | x::l,y::m,hl,hm,h=>by
  rw [srt_cons] at hl hm
  have e:x=y:=by
   rcases List.mem_cons.1 ((h x).1 (List.mem_cons_self ..)) with e | hx
   ·exact e
   ·rcases List.mem_cons.1 ((h y).2 (List.mem_cons_self ..)) with e | hy
    ·exact e.symm
    ·have:=ltS_asym (hl.1 y hy); rw [hm.1 x hx] at this; cases this
  subst e
  rw [srt_ext hl.2 hm.2 fun z=>?_]
  constructor
  ·intro hz
   rcases List.mem_cons.1 ((h z).1 (List.mem_cons_of_mem _ hz)) with rfl | hz'
   ·have:=hl.1 z hz; rw [ltS_self] at this; cases this
   ·exact hz'
  ·intro hz
   rcases List.mem_cons.1 ((h z).2 (List.mem_cons_of_mem _ hz)) with rfl | hz'
   ·have:=hm.1 z hz; rw [ltS_self] at this; cases this
   ·exact hz'
theorem insG_t {x:ByteArray}:∀ l:List ByteArray,insG x true l=l.filter fun y=>!eqS y x
 | []=>rfl
 | y::l=>by
  rw [insG,Bool.true_or,insG_t l,List.filter_cons]
  cases eqS y x<;>simp
theorem ins_mem {x z:ByteArray}:∀ l:List ByteArray,z∈insV l x↔z=x∨z∈l
 | []=>by unfold insV; rw [insG]; simp
 | y::l=>by
  have ih:=ins_mem (x:=x) (z:=z) l
  unfold insV at ih ⊢
  rw [insG]
  cases hc:(ltS x y || eqS x y) with
  | true =>
   simp only [Bool.not_false,Bool.true_and,if_true,Bool.false_or]
   rw [insG_t,List.mem_append,List.mem_append,List.mem_singleton,List.mem_filter,List.mem_cons]
   constructor
   ·rintro (h | h | h)
    ·exact .inl h
    ·split at h
     ·cases h
     ·exact .inr (.inl (List.mem_singleton.1 h))
    ·exact .inr (.inr h.1)
   ·rintro (h | h | h)
    ·exact .inl h
    ·subst h
     by_cases he:eqS z x=true
     ·exact .inl (eqS_t.1 he)
     ·exact .inr (.inl (by rw [if_neg he]; exact List.mem_singleton.2 rfl))
    ·by_cases he:eqS z x=true
     ·exact .inl (eqS_t.1 he)
     ·exact .inr (.inr ⟨h,by simpa using he⟩)
  | false =>
   simp only [Bool.not_false,Bool.true_and,Bool.false_eq_true,if_false,Bool.false_or,List.nil_append]
   rw [List.mem_append,ih,List.mem_cons]
   have hne:eqS y x=false:=by
    cases h:eqS y x with
    | false=>rfl
    | true=>rw [eqS_comm',h,Bool.or_true] at hc; cases hc
   rw [hne,if_neg (by simp),List.mem_singleton]
   constructor
   ·rintro (h | h | h)
    ·exact .inr (.inl h)
    ·exact .inl h
    ·exact .inr (.inr h)
   ·rintro (h | h | h)
    ·exact .inr (.inl h)
    ·exact .inl h
    ·exact .inr (.inr h)
theorem ins_srt {x:ByteArray}:∀ {l:List ByteArray},Srt l→Srt (insV l x)
 | [],_=>by unfold insV; rw [insG]; exact List.pairwise_singleton _ _
 | y::l,h=>by
  have h':=srt_cons.1 h
  have ih:=ins_srt (x:=x) h'.2
  have hm:=fun z=>ins_mem (x:=x) (z:=z) l
  unfold insV at ih hm ⊢
  rw [insG]
  cases hc:(ltS x y || eqS x y) with
  | true =>
   simp only [Bool.not_false,Bool.true_and,if_true,Bool.false_or]
   rw [insG_t]
   have hle:ltS y x=false:=by
    rcases Bool.or_eq_true_iff.1 hc with h1 | h1
    ·exact ltS_asym h1
    ·rw [eqS_t.1 h1]; exact ltS_self _
   have key:Srt ((if eqS y x=true then [] else [y])++l.filter fun y=>!eqS y x)∧∀ z∈((if eqS y x=true then [] else [y])++l.filter fun y=>!eqS y x),ltS x z=true:=by
    have hs:Srt (l.filter fun y=>!eqS y x):=h'.2.filter _
    by_cases he:eqS y x=true
    ·rw [if_pos he]
     refine ⟨hs,fun z hz=>?_⟩
     rw [List.nil_append] at hz
     rw [←eqS_t.1 he]; exact h'.1 z (List.mem_filter.1 hz).1
    ·rw [if_neg he]
     have hxy:ltS x y=true:=by
      rcases Bool.or_eq_true_iff.1 hc with h1 | h1
      ·exact h1
      ·exact absurd (by rw [eqS_comm']; exact h1) he
     refine ⟨srt_cons.2 ⟨fun z hz=>h'.1 z (List.mem_filter.1 hz).1,hs⟩,fun z hz=>?_⟩
     rcases List.mem_cons.1 hz with rfl | hz
     ·exact hxy
     ·exact ltS_tr hxy (h'.1 z (List.mem_filter.1 hz).1)
   exact srt_cons.2 ⟨key.2,key.1⟩
  | false =>
   simp only [Bool.not_false,Bool.true_and,Bool.false_eq_true,if_false,Bool.false_or,List.nil_append]
   rw [Bool.or_eq_false_iff] at hc
   have hyx:ltS y x=true:=by
    cases h1:ltS y x with
    | true=>rfl
    | false=>rw [ltS_tri hc.1 h1,eqS_self] at hc; cases hc.2
   rw [ltS_ne hyx,if_neg (by simp)]
   refine srt_cons.2 ⟨fun z hz=>?_,ih⟩
   rcases (hm z).1 hz with rfl | hz
   ·exact hyx
   ·exact h'.1 z hz
theorem insF_mem {z:ByteArray}:∀ (ids acc:List ByteArray),z∈ids.foldl insV acc↔z∈ids∨z∈acc
 | [],acc=>by simp
 | x::ids,acc=>by
  rw [List.foldl_cons,insF_mem ids,ins_mem,List.mem_cons]
  constructor
  ·rintro (h | h | h)
   ·exact .inl (.inr h)
   ·exact .inl (.inl h)
   ·exact .inr h
  ·rintro ((h | h) | h)
   ·exact .inr (.inl h)
   ·exact .inl h
   ·exact .inr (.inr h)
theorem insF_srt:∀ (ids:List ByteArray) {acc:List ByteArray},Srt acc→Srt (ids.foldl insV acc)
 | [],_,h=>h
 | x::ids,_,h=>insF_srt ids (ins_srt h)
theorem names_mem {z:ByteArray}:∀ (l:List Frag) (acc:List ByteArray),z∈namesG acc l↔(∃ f∈l,z∈f.ids)∨z∈acc
 | [],acc=>by simp [namesG]
 | f::l,acc=>by
  show z∈namesG (f.ids.foldl insV acc) l↔_
  rw [names_mem l,insF_mem]
  constructor
  ·rintro (⟨g,hg,hz⟩ | h | h)
   ·exact .inl ⟨g,List.mem_cons_of_mem _ hg,hz⟩
   ·exact .inl ⟨f,List.mem_cons_self .., h⟩
   ·exact .inr h
  ·rintro (⟨g,hg,hz⟩ | h)
   ·rcases List.mem_cons.1 hg with rfl | hg
    ·exact .inr (.inl hz)
    ·exact .inl ⟨g,hg,hz⟩
   ·exact .inr (.inr h)
theorem names_srt:∀ (l:List Frag) {acc:List ByteArray},Srt acc→Srt (namesG acc l)
 | [],_,h=>h
 | f::l,_,h=>names_srt l (insF_srt f.ids h)
theorem namesK_mem {k:Know} {z:ByteArray}:z∈namesK k↔∃ f∈k.l,z∈f.ids:=by
 unfold namesK; rw [names_mem]; simp
theorem namesK_srt (k:Know):Srt (namesK k):=names_srt k.l .nil
theorem sortS_mem {z:ByteArray} {l:List ByteArray}:z∈sortS l↔z∈l:=by
 unfold sortS
 rw [List.mem_map]
 constructor
 ·rintro ⟨b,hb,rfl⟩
  rw [List.mem_mergeSort,List.mem_map] at hb
  obtain ⟨s,hs,rfl⟩:=hb
  exact hs
 ·intro h
  exact ⟨z.data.toList,by rw [List.mem_mergeSort,List.mem_map]; exact ⟨z,h,rfl⟩,rfl⟩
theorem sortS_srt {l:List ByteArray} (h:l.Nodup):Srt (sortS l):=by
 have tr:∀ a b c:List UInt8,leB a b=true→leB b c=true→leB a c=true:=fun a b c h1 h2=>by simp only [leB,decide_eq_true_eq] at *; exact List.le_trans h1 h2
 have to:∀ a b:List UInt8,(leB a b || leB b a)=true:=fun a b=>by simp only [leB,Bool.or_eq_true,decide_eq_true_eq]; exact List.le_total a b
 have h1:((l.map fun s=>s.data.toList).mergeSort leB).Pairwise fun a b=>leB a b=true:=List.pairwise_mergeSort tr to _
 have h2:((l.map fun s=>s.data.toList).mergeSort leB).Nodup:=by
  rw [(List.mergeSort_perm _ _).nodup_iff]
  exact List.Pairwise.map _ (fun a b hab he=>hab (byt_ext he)) h
 unfold sortS Srt
 rw [List.pairwise_map]
 refine (h1.and h2).imp fun {a b} hab=>?_
 rw [ltS_lt,decide_eq_true_eq]
 have hle:a≤b:=by have:=hab.1; simpa [leB] using this
 show a < b
 rcases Classical.em (a < b) with h | h
 ·exact h
 ·exact absurd (List.le_antisymm hle (List.not_lt.1 h)) hab.2
theorem allM_names {k:Know}:sortS ((allM k.l []).map (·.1))=namesK k:=by
 refine srt_ext (sortS_srt (allM_nodup _ _ (by simp))) (namesK_srt k) fun z=>?_
 rw [sortS_mem,namesK_mem,←memB_iff,←alk_some,allM_alk]
 have:(alk ([]:List (ByteArray × V8)) z).isSome=false:=rfl
 rw [this,Bool.false_or]
 constructor
 ·intro h
  split at h
  ·rename_i h1
   obtain ⟨f,hf,hz⟩:=List.any_eq_true.1 h1
   exact ⟨f,hf,memB_iff.1 hz⟩
  ·cases h
 ·rintro ⟨f,hf,hz⟩
  rw [if_pos (List.any_eq_true.2 ⟨f,hf,memB_iff.2 hz⟩)]; rfl
theorem allM_get {k:Know} {id:ByteArray} (h:id∈namesK k):alk (allM k.l []) id=some (sumV id k.l zero8):=by
 obtain ⟨f,hf,hz⟩:=namesK_mem.1 h
 rw [allM_alk,if_pos (by rw [Bool.or_eq_true]; exact .inr (List.any_eq_true.2 ⟨f,hf,memB_iff.2 hz⟩))]; rfl
structure NonNeg (v:V8):Prop where
 h0:0≤v.x0
 h1:0≤v.x1
 h2:0≤v.x2
 h3:0≤v.x3
 h4:0≤v.x4
 h5:0≤v.x5
 h6:0≤v.x6
 h7:0≤v.x7
theorem maxI_nn {a b:Int} (h:0≤a):0≤maxI a b:=by unfold maxI; split<;>omega
theorem NonNeg.max {a b:V8} (h:NonNeg a):NonNeg (maxV a b):=⟨maxI_nn h.h0,maxI_nn h.h1,maxI_nn h.h2,maxI_nn h.h3,maxI_nn h.h4,maxI_nn h.h5,maxI_nn h.h6,maxI_nn h.h7⟩
theorem nn_zero:NonNeg zero8:=⟨by decide,by decide,by decide,by decide,by decide,by decide,by decide,by decide⟩
theorem nn_sum (id:ByteArray):∀ (l:List Frag) {v:V8},NonNeg v→NonNeg (sumV id l v)
 | [],_,h=>h
 | f::l,v,h=>by
  unfold sumV
  rw [List.foldl_cons]
  refine nn_sum id l ?_
  split
  ·exact h.max
  ·exact h
theorem cutN {α:Type} {a s:Int} {f:Int→Option α} (h:0≤a):br (leI a s) (f 0) (br (leI a 0) (f 0) (f a))=f (cutI a s):=by
 unfold cutI
 cases leI a s with
 | true=>rfl
 | false =>
  cases h0:leI a 0 with
  | false=>rfl
  | true =>
   have:a=0:=by rw [leI_t] at h0; omega
   rw [this]; rfl
theorem kbeyond_s {v s:V8} (h:NonNeg v):know_beyond_s v s=some (cutV v s):=by
 unfold know_beyond_s
 rw [cutN (f:=fun x=>know_beyond_j1 v s x) h.h0]
 unfold know_beyond_j1
 rw [cutN (f:=fun x=>know_beyond_j2 v s _ x) h.h1]
 unfold know_beyond_j2
 rw [cutN (f:=fun x=>know_beyond_j3 v s _ _ x) h.h2]
 unfold know_beyond_j3
 rw [cutN (f:=fun x=>know_beyond_j4 v s _ _ _ x) h.h3]
 unfold know_beyond_j4
 rw [cutN (f:=fun x=>know_beyond_j5 v s _ _ _ _ x) h.h4]
 unfold know_beyond_j5
 rw [cutN (f:=fun x=>know_beyond_j6 v s _ _ _ _ _ x) h.h5]
 unfold know_beyond_j6
 rw [cutN (f:=fun x=>know_beyond_j7 v s _ _ _ _ _ _ x) h.h6]
 unfold know_beyond_j7
 rw [cutN (f:=fun x=>know_beyond_j8 _ _ _ _ _ _ _ x) h.h7]
 rfl
theorem eq8_t {a b:V8}:eq8 a b=true↔a=b:=by
 rw [eq8_iff]
 constructor
 ·rintro ⟨h0,h1,h2,h3,h4,h5,h6,h7⟩
  cases a; cases b
  simp only at h0 h1 h2 h3 h4 h5 h6 h7
  rw [h0,h1,h2,h3,h4,h5,h6,h7]
 ·rintro rfl; exact ⟨rfl,rfl,rfl,rfl,rfl,rfl,rfl,rfl⟩
theorem eq8_self (a:V8):eq8 a a=true:=eq8_t.2 rfl
theorem keyEq_v8 (a b:V8):keyEq (V8.row a) (V8.row b)=eq8 a b:=by
 rw [Bool.eq_iff_iff,eq8_iff]
 simp [keyEq,pcEq]
def vlk (l:List (V8 × Int)) (v:V8):Option Int:=(l.find? fun e=>eq8 e.1 v).map (·.2)
theorem mget_v8 (l:List (V8 × Int)) (v:V8):mget V8.row l v=vlk l v:=by
 unfold mget vlk; simp only [keyEq_v8]
def fat:List Frag→V8→Nat→Option Int
 | [],_,_=>none
 | f::l,v,n=>if eq8 f.vec v=true then some (n:Int) else fat l v (n + 1)
theorem fat_app {g:Frag} {v:V8}:∀ (l:List Frag) (n:Nat),fat (l++[g]) v n=(fat l v n).or (if eq8 g.vec v=true then some ((n + l.length:Nat):Int) else none)
 | [],n=>by rw [List.nil_append,fat,fat]; simp [fat]
 | f::l,n=>by
  rw [List.cons_append,fat,fat]
  split
  ·rfl
  ·rw [fat_app l,List.length_cons]
   have:n + 1 + l.length=n + (l.length + 1):=by omega
   rw [this]
theorem vlk_new {at_:List (V8 × Int)} {v w:V8} {n:Int} (h:vlk at_ v=none):vlk (mset V8.row at_ v n) w=(vlk at_ w).or (if eq8 v w=true then some n else none):=by
 unfold mset
 rw [mget_v8,h,if_neg (by simp)]
 unfold vlk
 rw [List.find?_append]
 cases List.find? (fun e=>eq8 e.1 w) at_ with
 | none=>rw [List.find?_cons]; cases eq8 v w<;>rfl
 | some e=>rfl
theorem fat_add {id:ByteArray} {v:V8}:∀ (l:List Frag) (n:Nat),(fat l v n=none∧addF id v l=l++[⟨[id],v⟩])∨∃ pre f post,l=pre++f::post∧fat l v n=some ((n + pre.length:Nat):Int)∧f.vec=v∧addF id v l=pre++⟨f.ids++[id],f.vec⟩::post
 | [],n=>.inl ⟨rfl,rfl⟩
 | f::l,n=>by
  by_cases hf:eq8 f.vec v=true
  ·exact .inr ⟨[],f,l,rfl,by rw [fat,if_pos hf]; rfl,eq8_t.1 hf,by rw [addF,if_pos hf]; rfl⟩
  ·rcases fat_add l (n + 1) with ⟨h1,h2⟩ | ⟨pre,g,post,h1,h2,h3,h4⟩
   ·exact .inl ⟨by rw [fat,if_neg hf,h1],by rw [addF,if_neg hf,h2]; rfl⟩
   ·refine .inr ⟨f::pre,g,post,by rw [h1]; rfl,?_,h3,by rw [addF,if_neg hf,h4]; rfl⟩
    rw [fat,if_neg hf,h2,List.length_cons]
    congr 2; omega
theorem fat_same {pre post:List Frag} {f g:Frag} (h:g.vec=f.vec) (w:V8) (n:Nat):fat (pre++g::post) w n=fat (pre++f::post) w n:=by
 induction pre generalizing n with
 | nil=>rw [List.nil_append,List.nil_append,fat,fat,h]
 | cons x pre ih=>rw [List.cons_append,List.cons_append,fat,fat,ih]
theorem plain_step {out:List Frag} {at_:List (V8 × Int)} {id:ByteArray} {v:V8} {K:List Frag→List (V8 × Int)→Option Know} {N:Nat} (hat:∀ w,vlk at_ w=fat out w 0) (h1:out.length≤N) (h2:idsN out≤N) (hN:N≤999990) :
  ∃ at',(∀ w,vlk at' w=fat (addF id v out) w 0) ∧
  opt (mget V8.row at_ v) (fun x=>bnd (atL out x) fun y=>chk (roomL y.ids.length 1) (K (out.set x.toNat (Frag.mk (y.ids++[id]) y.vec)) at_))
   (chk (roomL out.length 1) (bnd (atL (out++[Frag.mk ([]:List ByteArray) v]) (out.length:Int)) fun x=>chk (roomL x.ids.length 1) (K ((out++[Frag.mk ([]:List ByteArray) v]).set (out.length:Int).toNat (Frag.mk (x.ids++[id]) x.vec)) (mset V8.row at_ v (out.length:Int)))))=K (addF id v out) at':=by
 rw [mget_v8]
 rcases fat_add (id:=id) (v:=v) out 0 with ⟨h3,h4⟩ | ⟨pre,f,post,h3,h4,h5,h6⟩
 ·refine ⟨mset V8.row at_ v (out.length:Int),fun w=>?_,?_⟩
  ·rw [vlk_new (by rw [hat]; exact h3),hat,h4,fat_app,Nat.zero_add]
  ·rw [hat v,h3]
   show chk _ _=_
   rw [chk_t (roomL_of (by omega)),bnd_of (at_app out _ []),chk_t (roomL_of (by simp)),Int.toNat_natCast,set_app,h4]; rfl
 ·refine ⟨at_,fun w=>?_,?_⟩
  ·rw [hat,h6,h3]; exact (fat_same (f:=f) (g:=⟨f.ids++[id],f.vec⟩) rfl w 0).symm
  ·rw [hat v,h4,Nat.zero_add]
   have hf:f.ids.length≤idsN out:=idsN_mem (by rw [h3]; simp)
   show bnd _ _=_
   rw [bnd_of (show atL out (pre.length:Int)=some f by rw [h3]; exact at_app pre f post),chk_t (roomL_of (by omega)),Int.toNat_natCast,h6]
   rw [show out.set pre.length (Frag.mk (f.ids++[id]) f.vec)=pre++Frag.mk (f.ids++[id]) f.vec::post by rw [h3]; exact set_app pre f _ post]
theorem addF_n (id:ByteArray) (v:V8):∀ l:List Frag,idsN (addF id v l)=idsN l + 1
 | []=>by simp [addF,idsN]
 | f::l=>by
  rw [addF,idsN_cons]
  split
  ·rw [idsN_cons]; simp; omega
  ·rw [idsN_cons,addF_n id v l]; omega
theorem plain4_l {k:Know}:∀ (names:List ByteArray) (out:List Frag) (at_:List (V8 × Int)) (N:Nat),(∀ id∈names,id∈namesK k)→(∀ w,vlk at_ w=fat out w 0)→out.length≤N→idsN out≤N→N + names.length≤999980 →
  know_Plain_l4 k (allM k.l []) names out at_=some ⟨k.star,names.foldl (stepP k) out⟩
 | [],out,at_,N,_,_,_,_,_=>by rw [know_Plain_l4]; rfl
 | id::names,out,at_,N,hm,hat,h1,h2,hN=>by
  rw [List.length_cons] at hN
  rw [know_Plain_l4,mget_srw,allM_get (hm id (List.mem_cons_self ..))]
  have hm':∀ z∈names,z∈namesK k:=fun z hz=>hm z (List.mem_cons_of_mem _ hz)
  show bnd (know_beyond_s (sumV id k.l zero8) k.star) _=_
  rw [bnd_of (kbeyond_s (nn_sum id k.l nn_zero)),List.foldl_cons]
  cases he:eq8 (beyondV k id) zero8 with
  | true =>
   rw [stepP_t he]
   refine (br_t (c:=eq8 (cutV (sumV id k.l zero8) k.star) ⟨0,0,0,0,0,0,0,0⟩) he).trans ?_
   exact plain4_l names out at_ N hm' hat h1 h2 (by omega)
  | false =>
   rw [stepP_f he]
   refine (br_f (c:=eq8 (cutV (sumV id k.l zero8) k.star) ⟨0,0,0,0,0,0,0,0⟩) he).trans ?_
   obtain ⟨at',hat',e⟩:=plain_step (id:=id) (v:=beyondV k id) (K:=fun a b=>know_Plain_l4 k (allM k.l []) names a b) hat h1 h2 (by omega)
   refine Eq.trans e ?_
   have:=addF_len id (beyondV k id) out
   exact plain4_l names _ at' (N + 1) hm' hat' (by omega) (by rw [addF_n]; omega) (by omega)
theorem plain3_l {k:Know}:∀ (names:List ByteArray),(∀ id∈names,id∈namesK k)→names.length≤999970→know_Plain_l3 k (allM k.l []) names=some ⟨k.star,names.foldl (stepP k) []⟩
 | [],_,_=>by rw [know_Plain_l3]; rfl
 | id::names,hm,hN=>by
  rw [List.length_cons] at hN
  rw [know_Plain_l3,mget_srw,allM_get (hm id (List.mem_cons_self ..))]
  have hm':∀ z∈names,z∈namesK k:=fun z hz=>hm z (List.mem_cons_of_mem _ hz)
  show bnd (know_beyond_s (sumV id k.l zero8) k.star) _=_
  rw [bnd_of (kbeyond_s (nn_sum id k.l nn_zero)),List.foldl_cons]
  cases he:eq8 (beyondV k id) zero8 with
  | true =>
   rw [stepP_t he]
   refine (br_t (c:=eq8 (cutV (sumV id k.l zero8) k.star) ⟨0,0,0,0,0,0,0,0⟩) he).trans ?_
   exact plain3_l names hm' (by omega)
  | false =>
   rw [stepP_f he]
   refine (br_f (c:=eq8 (cutV (sumV id k.l zero8) k.star) ⟨0,0,0,0,0,0,0,0⟩) he).trans ?_
   rw [mget_v8,show vlk ([]:List (V8 × Int)) (cutV (sumV id k.l zero8) k.star)=none from rfl,opt_n]
   rw [chk_t (by rfl)]
   refine plain4_l names [⟨[id],beyondV k id⟩] _ 1 hm' (fun w=>?_) (by simp) (by simp [idsN]) (by omega)
   rw [vlk_new (by rfl)]
   show (none:Option Int).or _=_
   rw [fat]
   rfl
theorem namesK_len {k:Know} {N:Nat} (h:KT k N):(namesK k).length≤N:=by
 rw [←allM_names]
 unfold sortS
 rw [List.length_map,List.length_mergeSort,List.length_map,List.length_map]
 have:=allM_len k.l []
 have:=h.ids
 simp at *; omega
theorem kplain_s {k:Know} (h:KT k 990000) (hi:IdsOk k):know_Plain_s k=some (plainK k):=by
 have hl:=h.l
 have hids:=h.ids
 unfold know_Plain_s
 have hlen:=allM_len k.l []
 have hs:sorted_s (allM k.l [])=some (namesK k):=by
  unfold sorted_s
  rw [chk_t,allM_names]
  rw [Bool.and_eq_true,List.all_eq_true]
  refine ⟨decide_eq_true (by simp at hlen; omega),fun e he=>decide_eq_true ?_⟩
  have:e.1∈namesK k:=by
   rw [←allM_names,sortS_mem]; exact List.mem_map.2 ⟨e,he,rfl⟩
  obtain ⟨f,hf,hz⟩:=namesK_mem.1 this
  exact hi f hf _ hz
 have hnl:=namesK_len h
 rw [chk_t (smallL_of (by omega)),plain1_l _ _ fun f hf=>Nat.le_trans (idsN_mem hf) (by omega),bnd_of hs,chk_t (smallL_of (by omega)),plain3_l _ (fun _ h=>h) (by omega)]
 rfl
theorem stepP_n (k:Know):∀ (names:List ByteArray) (out:List Frag) (N:Nat),out.length≤N→idsN out≤N→(names.foldl (stepP k) out).length≤N + names.length∧idsN (names.foldl (stepP k) out)≤N + names.length
 | [],out,N,h1,h2=>⟨h1,h2⟩
 | id::names,out,N,h1,h2=>by
  rw [List.foldl_cons,List.length_cons]
  have key:(stepP k out id).length≤N + 1∧idsN (stepP k out id)≤N + 1:=by
   unfold stepP
   split
   ·omega
   ·have:=addF_len id (beyondV k id) out
    rw [addF_n]; omega
  have:=stepP_n k names _ (N + 1) key.1 key.2
  omega
theorem KT.plain {k:Know} {N:Nat} (h:KT k N):KT (plainK k) N:=by
 have h1:=stepP_n k (namesK k) [] 0 (by simp) (by simp [idsN])
 have h2:=namesK_len h
 exact ⟨by show ((namesK k).foldl (stepP k) []).length≤N; omega,by show idsN ((namesK k).foldl (stepP k) [])≤N; omega⟩
end
end Go.Proofs.YtidkmoohgadjkaaGreat
namespace Go.Proofs.YtidkmoohgadjkaaGreat
open Go E Pred
noncomputable section
open Classical
theorem sum_none {id:ByteArray}:∀ (l:List Frag) (v:V8),(∀ f∈l,id ∉ f.ids)→sumV id l v=v
 | [],v,_=>rfl
 | f::l,v,h=>by
  have e:sumV id (f::l) v=sumV id l (if memB f.ids id then maxV v f.vec else v):=rfl
  have hf:¬ memB f.ids id=true:=by rw [memB_iff]; exact h f (List.mem_cons_self ..)
  rw [e,if_neg hf]; exact sum_none l v fun g hg=>h g (List.mem_cons_of_mem _ hg)
theorem cutI_0 (s:Int):cutI 0 s=0:=by unfold cutI; split<;>rfl
theorem cut_zero (s:V8):cutV zero8 s=zero8:=by unfold cutV zero8; simp only [cutI_0]
theorem beyond_none {k:Know} {id:ByteArray} (h:id ∉ namesK k):beyondV k id=zero8:=by
 unfold beyondV
 rw [sum_none _ _ fun f hf hz=>h (namesK_mem.2 ⟨f,hf,hz⟩),cut_zero]
structure Pieces (k:Know) (P:ByteArray→Prop) (out:List Frag):Prop where
 of_:∀ f∈out, ∀ id∈f.ids,beyondV k id=f.vec∧f.vec≠zero8
 has:∀ id,P id→beyondV k id≠zero8→∃ f∈out,id∈f.ids
theorem pieces_step {k:Know} {P:ByteArray→Prop} {out:List Frag} {id:ByteArray} (h:Pieces k P out):Pieces k (fun x=>P x∨x=id) (stepP k out id):=by
 unfold stepP
 by_cases hz:eq8 (beyondV k id) zero8=true
 ·rw [if_pos hz]
  refine ⟨h.of_,fun x hx hb=>?_⟩
  rcases hx with hx | rfl
  ·exact h.has x hx hb
  ·exact absurd (eq8_t.1 hz) hb
 ·rw [if_neg hz]
  have hz':beyondV k id≠zero8:=fun e=>hz (eq8_t.2 e)
  rcases fat_add (id:=id) (v:=beyondV k id) out 0 with ⟨_,e⟩ | ⟨pre,f,post,e1,_,e2,e⟩
  ·rw [e]
   refine ⟨fun g hg x hx=>?_,fun x hx hb=>?_⟩
   ·rcases List.mem_append.1 hg with hg | hg
    ·exact h.of_ g hg x hx
    ·rw [List.mem_singleton.1 hg] at hx ⊢
     rw [List.mem_singleton.1 hx]; exact ⟨rfl,hz'⟩
   ·rcases hx with hx | rfl
    ·obtain ⟨g,hg,hi⟩:=h.has x hx hb
     exact ⟨g,List.mem_append_left _ hg,hi⟩
    ·exact ⟨⟨[x],beyondV k x⟩,List.mem_append_right _ (List.mem_singleton.2 rfl),List.mem_singleton.2 rfl⟩
  ·rw [e]
   refine ⟨fun g hg x hx=>?_,fun x hx hb=>?_⟩
   ·rcases List.mem_append.1 hg with hg | hg
    ·exact h.of_ g (by rw [e1]; exact List.mem_append_left _ hg) x hx
    ·rcases List.mem_cons.1 hg with rfl | hg
     ·rcases List.mem_append.1 hx with hx | hx
      ·exact h.of_ f (by rw [e1]; exact List.mem_append_right _ (List.mem_cons_self ..)) x hx
      ·rw [List.mem_singleton.1 hx]
       exact ⟨e2.symm,by rw [e2]; exact hz'⟩
     ·exact h.of_ g (by rw [e1]; exact List.mem_append_right _ (List.mem_cons_of_mem _ hg)) x hx
   ·rcases hx with hx | rfl
    ·obtain ⟨g,hg,hi⟩:=h.has x hx hb
     rw [e1] at hg
     rcases List.mem_append.1 hg with hg | hg
     ·exact ⟨g,List.mem_append_left _ hg,hi⟩
     ·rcases List.mem_cons.1 hg with rfl | hg
      ·exact ⟨_,List.mem_append_right _ (List.mem_cons_self ..),List.mem_append_left _ hi⟩
      ·exact ⟨g,List.mem_append_right _ (List.mem_cons_of_mem _ hg),hi⟩
    ·exact ⟨_,List.mem_append_right _ (List.mem_cons_self ..),List.mem_append_right _ (List.mem_singleton.2 rfl)⟩
theorem pieces_fold {k:Know}:∀ (names:List ByteArray) {P:ByteArray→Prop} {out:List Frag},Pieces k P out→Pieces k (fun x=>P x∨x∈names) (names.foldl (stepP k) out)
 | [],P,out,h=>⟨h.of_,fun x hx hb=>h.has x (by simpa using hx) hb⟩
 | id::names,P,out,h=>by
  have:=pieces_fold names (pieces_step (id:=id) h)
  rw [List.foldl_cons]
  exact ⟨this.of_,fun x hx hb=>this.has x (by
   rcases hx with hx | hx
   ·exact .inl (.inl hx)
   ·rcases List.mem_cons.1 hx with hx | hx
    ·exact .inl (.inr hx)
    ·exact .inr hx) hb⟩
theorem pieces_plain (k:Know):Pieces k (fun _=>True) (plainK k).l:=by
 have h:=pieces_fold (k:=k) (namesK k) (P:=fun _=>False) (out:=[]) ⟨fun f hf=>(by cases hf),fun id h=>h.elim⟩
 refine ⟨h.of_,fun id _ hb=>h.has id (.inr ?_) hb⟩
 exact Classical.byContradiction fun hn=>hb (beyond_none hn)
theorem cut_nnI {a s:Int} (h:0≤a):0≤cutI a s:=by unfold cutI; split<;>omega
theorem NonNeg.cut {a:V8} (h:NonNeg a) (s:V8):NonNeg (cutV a s):=⟨cut_nnI h.h0,cut_nnI h.h1,cut_nnI h.h2,cut_nnI h.h3,cut_nnI h.h4,cut_nnI h.h5,cut_nnI h.h6,cut_nnI h.h7⟩
theorem eqL_refl:∀ l:List ByteArray,eqL l l=true
 | []=>rfl
 | x::l=>by rw [eqL,eqS_self,eqL_refl l]; rfl
theorem alikeL_refl:∀ l:List Frag,alikeL l l=true
 | []=>rfl
 | f::l=>by rw [alikeL,alikeL_refl l]; unfold alikeF; rw [eq8_self,eqL_refl]; rfl
theorem alike_self (k:Know):alikeK k k=true:=by unfold alikeK; rw [eq8_self,alikeL_refl]; rfl
def pieceK (k:Know) (id:ByteArray) (r c:Int):Know:=⟨k.star,k.l++[⟨[id],withV zero8 r c⟩]⟩
def withK (k:Know) (id:ByteArray) (r c:Int):Know:=plainK (pieceK k id r c)
def ownB (k:Know) (r c:Int):Bool:=decide (1≤r∧r≤8∧1≤c∧k.star.at r=wr .i64 (c - 1))
def ownK (k:Know) (id:ByteArray) (r c:Int):Know:=if ownB k r c=true then plainK ⟨withV k.star r c,k.l⟩ else withK k id r c
end
end Go.Proofs.YtidkmoohgadjkaaGreat
namespace Go.Proofs.YtidkmoohgadjkaaGreat
open Go E Pred
noncomputable section
open Classical
theorem khas_l2 {id:ByteArray} {v:Ver} {f:Frag} {k:Option Bool}:∀ (ids:List ByteArray) (i:Int),0≤i→know_Has_l2 id v f k ids i=if memB ids id=true then (if hasV f.vec v.r v.c=true then some true else k) else k
 | [],i,_=>by rw [know_Has_l2]; rfl
 | x::ids,i,hi=>by
  rw [know_Has_l2,khas_l2 ids (i + 1) (by omega),memB_cons,eqS_comm' id x]
  cases eqS x id with
  | false=>rfl
  | true =>
   rw [br_t rfl,br_t (leI_t.2 hi),bnd_of (show vec_Has_s f.vec v=some (hasV f.vec v.r v.c) from rfl),br_if]; rfl
theorem khas_l1 {id:ByteArray} {v:Ver}:∀ l:List Frag,(∀ f∈l,f.ids.length≤1000000000)→know_Has_l1 id v l=some (l.any fun f=>hasF f id v.r v.c)
 | [],_=>by rw [know_Has_l1]; rfl
 | f::l,h=>by
  rw [know_Has_l1,chk_t (smallL_of (h f (List.mem_cons_self ..))),khas_l2 _ _ (by decide),khas_l1 l fun g hg=>h g (List.mem_cons_of_mem _ hg),List.any_cons]
  unfold hasF
  cases memB f.ids id<;>cases hasV f.vec v.r v.c<;>rfl
theorem khas_s {k:Know} {id:ByteArray} {v:Ver} {N:Nat} (hN:N≤1000000000) (h:KB k N):know_Has_s k id v=some (hasK k id v.r v.c):=by
 unfold know_Has_s hasK
 rw [bnd_of (show vec_Has_s k.star v=some (hasV k.star v.r v.c) from rfl),chk_t (smallL_of (Nat.le_trans h.l hN)),khas_l1 _ fun f hf=>Nat.le_trans (h.ids f hf) hN]
 cases hasV k.star v.r v.c<;>rfl
theorem ids_plain {k:Know} (h:IdsOk k):IdsOk (plainK k):=fun f hf x hx=>by
 have hp:=(pieces_plain k).of_ f hf x hx
 have:x∈namesK k:=Classical.byContradiction fun hn=>hp.2 (by rw [←hp.1,beyond_none hn])
 obtain ⟨g,hg,hz⟩:=namesK_mem.1 this
 exact h g hg x hz
theorem kt_piece {k:Know} {N:Nat} (h:KT k N) (id:ByteArray) (r c:Int):KT (pieceK k id r c) (N + 1) :=
 ⟨by show (k.l++[_]).length≤_; rw [List.length_append]; have:=h.l; simp; omega,by show idsN (k.l++[_])≤_; rw [idsN_app]; have:=h.ids; simp [idsN]; simp [idsN] at this; omega⟩
theorem ids_piece {k:Know} {id:ByteArray} {r c:Int} (h:IdsOk k) (hid:id.size≤9223372036854775807):IdsOk (pieceK k id r c):=fun f hf x hx=>by
 rcases List.mem_append.1 hf with hf | hf
 ·exact h f hf x hx
 ·rw [List.mem_singleton.1 hf] at hx
  rw [List.mem_singleton.1 hx]; exact hid
theorem kwith_s {k:Know} {id:ByteArray} {v:Ver} {N:Nat} (h:KT k N) (hn:N≤900000) (hi:IdsOk k) (hid:id.size≤9223372036854775807):know_With_s k id v=some (withK k id v.r v.c):=by
 have hl:=h.l
 unfold know_With_s
 rw [bnd_of (show vec_With_s ⟨0,0,0,0,0,0,0,0⟩ v=some (withV zero8 v.r v.c) from rfl),bnd_of (show clone_s k.l=some k.l by unfold clone_s; rw [chk_t (decide_eq_true (by omega))]),chk_t (roomL_of (by omega))]
 rw [bnd_of (show know_Plain_s ⟨k.star,k.l++[⟨[id],withV zero8 v.r v.c⟩]⟩=some (plainK (pieceK k id v.r v.c)) from kplain_s (k:=pieceK k id v.r v.c) ((kt_piece h id v.r v.c).mono (by omega)) (ids_piece hi hid))]
 rfl
theorem own_in {k:Know} {id:ByteArray} {r c:Int} (h:1≤r∧r≤8):know_Own_s k id ⟨r,c⟩=br (leI 1 c) (br (eqI (k.star.at r) (wr .i64 (c - 1))) (bnd (vec_With_s k.star ⟨r,c⟩) fun y=>bnd (know_Plain_s ⟨y,k.l⟩) fun z=>some z) (bnd (know_With_s k id ⟨r,c⟩) fun y=>some y)) (bnd (know_With_s k id ⟨r,c⟩) fun y=>some y):=by
 rcases r8 r with h' | rfl | rfl | rfl | rfl | rfl | rfl | rfl | rfl
 ·omega
 all_goals rfl
theorem own_out {k:Know} {id:ByteArray} {r c:Int} (h:r < 1∨8 < r):know_Own_s k id ⟨r,c⟩=bnd (know_With_s k id ⟨r,c⟩) fun y=>some y:=by
 unfold know_Own_s
 dsimp only
 rw [br_f (eqI_f.2 (by omega)),br_f (eqI_f.2 (by omega)),br_f (eqI_f.2 (by omega)),br_f (eqI_f.2 (by omega)),br_f (eqI_f.2 (by omega)),br_f (eqI_f.2 (by omega)),br_f (eqI_f.2 (by omega)),br_f (eqI_f.2 (by omega))]
 by_cases h1:1≤r
 ·rw [br_t (leI_t.2 h1),br_f (by rw [leI_f]; omega)]; rfl
 ·rw [br_f (by rw [leI_f]; omega)]; rfl
theorem rown_in {k:Know} {id:ByteArray} {r c:Int} (h:1≤r∧r≤8):ref06_Own_s k id ⟨r,c⟩=br (ltI c 1) (bnd (ref06_With_s k id ⟨r,c⟩) fun y=>some y) (br (!eqI (k.star.at r) (wr .i64 (c - 1))) (bnd (ref06_With_s k id ⟨r,c⟩) fun y=>some y) (bnd (ref06_WithVec_s k.star ⟨r,c⟩) fun y=>bnd (ref06_Plain_s ⟨y,k.l⟩) fun z=>some z)):=by
 rcases r8 r with h' | rfl | rfl | rfl | rfl | rfl | rfl | rfl | rfl
 ·omega
 all_goals rfl
theorem rown_out {k:Know} {id:ByteArray} {r c:Int} (h:r < 1∨8 < r):ref06_Own_s k id ⟨r,c⟩=bnd (ref06_With_s k id ⟨r,c⟩) fun y=>some y:=by
 unfold ref06_Own_s
 dsimp only
 rw [br_f (eqI_f.2 (by omega)),br_f (eqI_f.2 (by omega)),br_f (eqI_f.2 (by omega)),br_f (eqI_f.2 (by omega)),br_f (eqI_f.2 (by omega)),br_f (eqI_f.2 (by omega)),br_f (eqI_f.2 (by omega)),br_f (eqI_f.2 (by omega))]
 by_cases h1:r < 1
 ·rw [br_t (ltI_t.2 h1)]
 ·rw [br_f (ltI_f.2 (by omega)),br_t (ltI_t.2 (by omega))]
theorem kown_s {k:Know} {id:ByteArray} {v:Ver} {N:Nat} (h:KT k N) (hn:N≤900000) (hi:IdsOk k) (hid:id.size≤9223372036854775807):know_Own_s k id v=some (ownK k id v.r v.c):=by
 obtain ⟨r,c⟩:=v
 have hw:=kwith_s (v:=⟨r,c⟩) h hn hi hid
 unfold ownK ownB
 by_cases hr:1≤r∧r≤8
 ·rw [own_in hr]
  by_cases hc:1≤c
  ·rw [br_t (leI_t.2 hc)]
   by_cases he:k.star.at r=wr .i64 (c - 1)
   ·rw [br_t (eqI_t.2 he),bnd_of (show vec_With_s k.star ⟨r,c⟩=some (withV k.star r c) from rfl),bnd_of (kplain_s (k:=⟨withV k.star r c,k.l⟩) ⟨by have:=h.l; show k.l.length≤_; omega,by have:=h.ids; show idsN k.l≤_; omega⟩ hi),if_pos (decide_eq_true ⟨hr.1,hr.2,hc,he⟩)]
   ·rw [br_f (eqI_f.2 he),bnd_of hw,if_neg (by rw [decide_eq_true_eq]; exact fun h=>he h.2.2.2)]
  ·rw [br_f (leI_f.2 (by omega)),bnd_of hw,if_neg (by rw [decide_eq_true_eq]; exact fun h=>hc h.2.2.1)]
 ·rw [own_out (by omega),bnd_of hw,if_neg (by rw [decide_eq_true_eq]; exact fun h=>hr ⟨h.1,h.2.1⟩)]
theorem KB.mono' {k:Know} {n m:Nat} (h:KB k n) (hm:n≤m):KB k m:=⟨Nat.le_trans h.l hm,fun f hf=>Nat.le_trans (h.ids f hf) hm⟩
end
end Go.Proofs.YtidkmoohgadjkaaGreat
namespace Go.Proofs.YtidkmoohgadjkaaGreat
open Go E Pred
noncomputable section
open Classical
theorem names_t:∀ (l:List Frag) (acc:List ByteArray),acc.length + idsN l≤999980→ref06_Names_l1 l acc=some (namesG acc l)
 | [],acc,_=>by rw [ref06_Names_l1]; rfl
 | f::l,acc,hN=>by
  rw [idsN_cons] at hN
  have:=ins_fold_len f.ids acc
  rw [ref06_Names_l1,chk_t (smallL_of (by omega)),names_l2 _ _ (by omega),names_t l _ (by omega)]; rfl
theorem plain_t2 {k:Know} {M:Nat} (hM:M≤1000000000) (hk:KB k M):∀ (names:List ByteArray) (out:List Frag) (n:Nat),out.length≤n→(∀ f∈out,f.ids.length≤n)→n + names.length≤999980→ref06_Plain_l2 k names out=some ⟨k.star,names.foldl (stepP k) out⟩
 | [],out,n,h1,h2,hn=>by rw [ref06_Plain_l2]; rfl
 | id::names,out,n,h1,h2,hn=>by
  rw [List.length_cons] at hn
  obtain ⟨s1,s2⟩:=stepP_len (k:=k) (id:=id) h1 h2
  have ih:=plain_t2 hM hk names (stepP k out id) (n + 1) s1 s2 (by omega)
  rw [ref06_Plain_l2,bnd_of (beyond_s hM hk),List.foldl_cons,←ih]
  cases he:eq8 (beyondV k id) zero8 with
  | true=>rw [br_t (c:=eq8 (beyondV k id) ⟨0,0,0,0,0,0,0,0⟩) he,stepP_t he]
  | false =>
   rw [br_f (c:=eq8 (beyondV k id) ⟨0,0,0,0,0,0,0,0⟩) he,stepP_f he,chk_t (smallL_of (by omega))]
   have:=plain_l4 (id:=id) (v:=beyondV k id) (k:=fun w0=>ref06_Plain_l2 k names w0) out [] (by simp; omega) (fun f hf=>by have:=h2 f (by simpa using hf); omega)
   simpa using this
theorem plain_t1 {k:Know} {M:Nat} (hM:M≤1000000000) (hk:KB k M):∀ (names:List ByteArray),names.length≤999970→ref06_Plain_l1 k names=some ⟨k.star,names.foldl (stepP k) []⟩
 | [],h=>by rw [ref06_Plain_l1]; rfl
 | id::names,h=>by
  rw [List.length_cons] at h
  rw [ref06_Plain_l1,bnd_of (beyond_s hM hk),List.foldl_cons]
  cases he:eq8 (beyondV k id) zero8 with
  | true=>rw [br_t (c:=eq8 (beyondV k id) ⟨0,0,0,0,0,0,0,0⟩) he,stepP_t he]; exact plain_t1 hM hk names (by omega)
  | false=>rw [br_f (c:=eq8 (beyondV k id) ⟨0,0,0,0,0,0,0,0⟩) he,stepP_f he,chk_t (by rfl)]; exact plain_t2 hM hk names [⟨[id],beyondV k id⟩] 1 (by simp) (fun f hf=>by rw [List.mem_singleton.1 hf]; simp) (by omega)
theorem rplain_t {k:Know} {N:Nat} (h:KT k N) (hN:N≤999000):ref06_Plain_s k=some (plainK k):=by
 have hl:=h.l
 have hi:=h.ids
 have hn:=namesK_len h
 unfold ref06_Plain_s
 rw [bnd_of (show ref06_Names_s k=some (namesK k) by unfold ref06_Names_s; rw [chk_t (smallL_of (by omega)),names_t _ _ (by simp; omega)]; rfl),chk_t (smallL_of (by omega)),plain_t1 (by omega) h.kb _ (by omega)]; rfl
theorem rmayK_t {k:Know} {N:Nat} (h:KT k N) (hN:N≤999000) (hi:IdsOk k):ref06_May_s k=some (mayK k):=by
 have hb:=h.kb
 unfold ref06_May_s mayK
 rw [bnd_of (rplain_t h hN),bnd_of (alike_s (by omega) hb),bnd_of (show ref06_MayVec_s k.star=some (mayV k.star) from rfl)]
 cases alikeK k (plainK k) with
 | false=>rfl
 | true =>
  cases mayV k.star with
  | false=>rfl
  | true=>rw [br_f (by rfl),br_f (by rfl),chk_t (smallL_of (by have:=h.l; omega)),may_l1 _ (fun f hf=>by have:=hb.ids f hf; omega) hi]; rfl
theorem rwith_t {k:Know} {id:ByteArray} {v:Ver} {N:Nat} (h:KT k N) (hN:N≤900000):ref06_With_s k id v=some (withK k id v.r v.c):=by
 have hl:=h.l
 unfold ref06_With_s
 rw [chk_t (roomL_of (by omega)),bnd_of (show ref06_WithVec_s ⟨0,0,0,0,0,0,0,0⟩ v=some (withV zero8 v.r v.c) from rfl),chk_t (roomL_of (by omega))]
 rw [bnd_of (show ref06_Plain_s ⟨k.star,k.l++[⟨[id],withV zero8 v.r v.c⟩]⟩=some (plainK (pieceK k id v.r v.c)) from rplain_t (k:=pieceK k id v.r v.c) (kt_piece h id v.r v.c) (by omega))]
 rfl
theorem rown_t {k:Know} {id:ByteArray} {v:Ver} {N:Nat} (h:KT k N) (hN:N≤900000):ref06_Own_s k id v=some (ownK k id v.r v.c):=by
 obtain ⟨r,c⟩:=v
 have hw:=rwith_t (id:=id) (v:=⟨r,c⟩) h hN
 unfold ownK ownB
 by_cases hr:1≤r∧r≤8
 ·rw [rown_in hr]
  by_cases hc:1≤c
  ·rw [br_f (ltI_f.2 hc)]
   by_cases he:k.star.at r=wr .i64 (c - 1)
   ·rw [br_f (by rw [eqI_t.2 he]; rfl),bnd_of (show ref06_WithVec_s k.star ⟨r,c⟩=some (withV k.star r c) from rfl),bnd_of (rplain_t (k:=⟨withV k.star r c,k.l⟩) (N:=N) ⟨h.l,h.ids⟩ (by omega)),if_pos (decide_eq_true ⟨hr.1,hr.2,hc,he⟩)]
   ·rw [br_t (by rw [eqI_f.2 he]; rfl),bnd_of hw,if_neg (by rw [decide_eq_true_eq]; exact fun h=>he h.2.2.2)]
  ·rw [br_t (ltI_t.2 (by omega)),bnd_of hw,if_neg (by rw [decide_eq_true_eq]; exact fun h=>hc h.2.2.1)]
 ·rw [rown_out (by omega),bnd_of hw,if_neg (by rw [decide_eq_true_eq]; exact fun h=>hr ⟨h.1,h.2.1⟩)]
theorem kt_with {k:Know} {N:Nat} (h:KT k N) (id:ByteArray) (r c:Int):KT (withK k id r c) (N + 1):=(kt_piece h id r c).plain
theorem ids_with {k:Know} {id:ByteArray} {r c:Int} (h:IdsOk k) (hid:id.size≤9223372036854775807):IdsOk (withK k id r c):=ids_plain (ids_piece h hid)
theorem kt_own {k:Know} {N:Nat} (h:KT k N) (id:ByteArray) (r c:Int):KT (ownK k id r c) (N + 1):=by
 unfold ownK
 split
 ·exact (KT.plain (k:=⟨withV k.star r c,k.l⟩) (N:=N) ⟨h.l,h.ids⟩).mono (by omega)
 ·exact kt_with h id r c
theorem ids_own {k:Know} {id:ByteArray} {r c:Int} (h:IdsOk k) (hid:id.size≤9223372036854775807):IdsOk (ownK k id r c):=by
 unfold ownK
 split
 ·exact ids_plain (k:=⟨withV k.star r c,k.l⟩) h
 ·exact ids_with h hid
theorem fresh_know_t {k:Know} {N:Nat} (h:KT k N) (hN:N≤900000):fresh_Know_s k=some k:=by
 have:=h.l
 unfold fresh_Know_s
 rw [chk_t (smallL_of (by omega)),fresh_know_l k.l [] (by simp; omega) fun f hf=>by have:=h.kb.ids f hf; omega]; rfl
end
end Go.Proofs.YtidkmoohgadjkaaGreat
set_option maxHeartbeats 4000000
namespace Go.Proofs.YtidkmoohgadjkaaGreat
open Go E
abbrev z0 (n:Int):Item:=⟨⟨#[]⟩,0,0,n,⟨#[]⟩,0,0,0,false⟩
theorem beq_selfB (b:Bool):boolEq b b=true:=by rw [boolEq_eq]; simp
end Go.Proofs.YtidkmoohgadjkaaGreat
namespace Go.Proofs.YtidkmoohgadjkaaGreat
open Go E Pred
noncomputable section
open Classical
def lk (l:List Item) (id:ByteArray):Option Item:=l.find? fun x=>eqS x.id id
theorem lk_cons (x:Item) (l:List Item) (id:ByteArray):lk (x::l) id=if eqS x.id id=true then some x else lk l id:=by
 unfold lk; rw [List.find?_cons]; cases eqS x.id id<;>simp
theorem lk_some {l:List Item} {id:ByteArray} {x:Item} (h:lk l id=some x):x∈l∧x.id=id:=⟨List.mem_of_find?_eq_some h,eqS_t.1 (List.find?_some (p:=fun y:Item=>eqS y.id id) h)⟩
theorem lk_none {l:List Item} {id:ByteArray}:lk l id=none↔∀ x∈l,eqS x.id id=false:=by
 unfold lk; rw [List.find?_eq_none]
 exact ⟨fun h x hx=>by simpa using h x hx,fun h x hx=>by simpa using h x hx⟩
theorem lk_app (l m:List Item) (id:ByteArray):lk (l++m) id=(lk l id).or (lk m id):=List.find?_append
theorem ris_cons {x:Item} {l:List Item}:Ris (x::l)↔(∀ y∈l,ltS x.id y.id=true)∧Ris l:=List.pairwise_cons
theorem lk_lt {l:List Item} {id:ByteArray} (h:∀ x∈l,ltS x.id id=true):lk l id=none:=lk_none.2 fun x hx=>ltS_ne (h x hx)
theorem lk_gt {l:List Item} {id:ByteArray} (h:∀ x∈l,ltS id x.id=true):lk l id=none:=lk_none.2 fun x hx=>by rw [eqS_comm']; exact ltS_ne (h x hx)
theorem lk_mem:∀ {l:List Item} {x:Item},Ris l→x∈l→lk l x.id=some x
 | y::l,x,h,hx=>by
  rw [ris_cons] at h
  rw [lk_cons]
  rcases List.mem_cons.1 hx with rfl | hx
  ·rw [if_pos (eqS_self _)]
  ·rw [if_neg (by rw [ltS_ne (h.1 x hx)]; simp)]; exact lk_mem h.2 hx
theorem ris_ext:∀ {l m:List Item},Ris l→Ris m→(∀ id,lk l id=lk m id)→l=m
 | [],[],_,_,_=>rfl
 | [],y::m,_,_,h=>by have:=h y.id; rw [lk_cons,if_pos (eqS_self _)] at this; cases this
 | x::l,[],_,_,h=>by have:=h x.id; rw [lk_cons,if_pos (eqS_self _)] at this; cases this
 | x::l,y::m,hl,hm,h=>by
  have hx:x∈y::m:=(lk_some ((h x.id).symm.trans (lk_mem hl (List.mem_cons_self ..)))).1
  have hy:y∈x::l:=(lk_some ((h y.id).trans (lk_mem hm (List.mem_cons_self ..)))).1
  rw [ris_cons] at hl hm
  have e:x=y:=by
   rcases List.mem_cons.1 hx with e | hx
   ·exact e
   ·rcases List.mem_cons.1 hy with e | hy
    ·exact e.symm
    ·have:=ltS_asym (hl.1 y hy); rw [hm.1 x hx] at this; cases this
  subst e
  rw [ris_ext hl.2 hm.2 fun id=>?_]
  have:=h id
  rw [lk_cons,lk_cons] at this
  by_cases hi:eqS x.id id=true
  ·have hi':=eqS_t.1 hi
   subst hi'
   rw [lk_gt hl.1,lk_gt hm.1]
  ·rw [if_neg hi,if_neg hi] at this; exact this
theorem getI_lk (id:ByteArray):∀ l:List Item,getI id l=match lk l id with
  | some x=>(x,true)
  | none=>(item0',false)
 | []=>rfl
 | x::l=>by
  rw [getI,lk_cons]
  split
  ·rfl
  ·exact getI_lk id l
theorem getI_t {l:List Item} {id:ByteArray} {x:Item} (h:lk l id=some x):getI id l=(x,true):=by rw [getI_lk,h]
theorem getI_f {l:List Item} {id:ByteArray} (h:lk l id=none):getI id l=(item0',false):=by rw [getI_lk,h]
theorem risesG_iff:∀ (l:List Item) (p:Item),risesG p l=true↔Ris (p::l)
 | [],p=>⟨fun _=>ris_cons.2 ⟨fun y hy=>(by cases hy),List.Pairwise.nil⟩,fun _=>rfl⟩
 | x::l,p=>by
  rw [risesG,Bool.and_eq_true,risesG_iff l x,ris_cons (x:=p),ris_cons (x:=x)]
  constructor
  ·rintro ⟨h1,h2,h3⟩
   have hp:ltS p.id x.id=true:=by
    cases h:ltS p.id x.id with
    | true=>rfl
    | false =>
     cases h':ltS x.id p.id with
     | true=>rw [h'] at h1; cases h1
     | false=>rw [h',ltS_tri h' h,eqS_self] at h1; cases h1
   exact ⟨fun y hy=>by
    rcases List.mem_cons.1 hy with rfl | hy
    ·exact hp
    ·exact ltS_tr hp (h2 y hy),h2,h3⟩
  ·rintro ⟨h1,h2,h3⟩
   have hp:=h1 x (List.mem_cons_self ..)
   refine ⟨?_,h2,h3⟩
   rw [ltS_asym hp,eqS_comm',ltS_ne hp]; rfl
theorem ris_iff {l:List Item}:risesB l=true↔Ris l:=by
 cases l with
 | nil=>exact ⟨fun _=>.nil,fun _=>rfl⟩
 | cons x l=>exact risesG_iff l x
theorem mid_of {i j:Nat} (h:i + j≤4000000):wr .i64 (shrI .u64 (wr .u64 (wr .i64 ((i:Int) + (j:Int)))) 1)=(((i + j) / 2:Nat):Int):=by
 have h1:wr .i64 ((i:Int) + (j:Int))=((i + j:Nat):Int):=by rw [wr64 (by omega) (by omega)]; omega
 have h2:wr .u64 ((i + j:Nat):Int)=((i + j:Nat):Int):=by
  unfold wr IntKind.wrap
  simp only [IntKind.signed,IntKind.bits]
  simp
  omega
 have h3:shrI .u64 ((i + j:Nat):Int) 1=(((i + j) / 2:Nat):Int):=by
  unfold shrI
  rw [Int.fdiv_eq_ediv_of_nonneg _ (by decide)]
  simp [IntKind.bits]
 rw [h1,h2,h3,wr64 (by omega) (by omega)]
theorem br_same {α:Type} (c:Bool) (x:Option α):br c x x=x:=by cases c<;>rfl
theorem ris_get {l:List Item} (hr:Ris l) {i j:Nat} {x y:Item} (hx:l[i]?=some x) (hy:l[j]?=some y) (h:i < j):ltS x.id y.id=true:=by
 obtain ⟨hi,rfl⟩:=List.getElem?_eq_some_iff.1 hx
 obtain ⟨hj,rfl⟩:=List.getElem?_eq_some_iff.1 hy
 exact List.pairwise_iff_getElem.1 hr i j hi hj h
theorem find_l {l:List Item} {id:ByteArray} (hr:Ris l) (hn:l.length≤999990):∀ (fl i j:Nat),i≤j→j≤l.length→j - i < fl→(∀ k x,l[k]?=some x→k < i→ltS x.id id=true)→(∀ k x,l[k]?=some x→j≤k→ltS x.id id=false) →
  ∃ p,p≤l.length∧list_find_l1 l id fl (j:Int) (i:Int)=some ((p:Int),match l[p]? with | some x=>eqS x.id id | none=>false)∧(∀ k x,l[k]?=some x→k < p→ltS x.id id=true)∧(∀ k x,l[k]?=some x→p≤k→ltS x.id id=false)
 | 0,i,j,_,_,h,_,_=>by omega
 | fl + 1,i,j,hij,hj,hf,h1,h2=>by
  rw [list_find_l1]
  by_cases hlt:i < j
  ·have hm:(i + j) / 2 < l.length:=by omega
   rw [br_t (by rw [ltI_t]; omega),mid_of (by omega),bnd_of (atL_of hm),br_f (by rw [eqS_self]; rfl),br_f (by rw [eqS_self]; rfl)]
   have hx:l[(i + j) / 2]?=some l[(i + j) / 2]:=List.getElem?_eq_getElem hm
   cases hc:ltS l[(i + j) / 2].id id with
   | true =>
    rw [br_t rfl,wrS (by omega)]
    refine find_l hr hn fl ((i + j) / 2 + 1) j (by omega) hj (by omega) (fun k x hk hki=>?_) h2
    by_cases hkm:k=(i + j) / 2
    ·subst hkm; rw [hx] at hk; injection hk with hk; rw [←hk]; exact hc
    ·exact ltS_tr (ris_get hr hk hx (by omega)) hc
   | false =>
    rw [br_f rfl,br_same]
    refine find_l hr hn fl i ((i + j) / 2) (by omega) (by omega) (by omega) h1 (fun k x hk hki=>?_)
    by_cases hkm:k=(i + j) / 2
    ·subst hkm; rw [hx] at hk; injection hk with hk; rw [←hk]; exact hc
    ·cases h:ltS x.id id with
     | false=>rfl
     | true=>have:=ltS_tr (ris_get hr hx hk (by omega)) h; rw [hc] at this; cases this
  ·obtain rfl:i=j:=by omega
   refine ⟨i,hj,?_,h1,h2⟩
   rw [br_f (by rw [ltI_f]; omega)]
   by_cases hil:i < l.length
   ·have hx:l[i]?=some l[i]:=List.getElem?_eq_getElem hil
    rw [br_t (by rw [ltI_t]; omega),bnd_of (atL_of hil),br_f (by rw [eqS_self]; rfl),br_f (by rw [eqS_self]; rfl),br_f (h2 i _ hx (Nat.le_refl _)),h2 i _ hx (Nat.le_refl _),hx]
    dsimp only
    cases eqS l[i].id id<;>rfl
   ·rw [br_f (by rw [ltI_f]; omega),List.getElem?_eq_none (by omega)]
theorem find_s {l:List Item} {id:ByteArray} (hr:Ris l) (hn:l.length≤999990):∃ A B:List Item,l=A++B∧(∀ x∈A,ltS x.id id=true)∧(∀ x∈B,ltS x.id id=false)∧list_find_s l id=some ((A.length:Int),(lk l id).isSome):=by
 obtain ⟨p,hp,e,h1,h2⟩:=find_l hr hn fuelN 0 l.length (Nat.zero_le _) (Nat.le_refl _) (by unfold fuelN; omega) (fun k x _ h=>by omega) (fun k x hk h=>by rw [List.getElem?_eq_none h] at hk; cases hk) (id:=id)
 have hA:∀ x∈l.take p,ltS x.id id=true:=fun x hx=>by
  obtain ⟨k,hk⟩:=List.getElem?_of_mem hx
  rw [List.getElem?_take] at hk
  split at hk
  ·exact h1 k x hk (by omega)
  ·cases hk
 have hB:∀ x∈l.drop p,ltS x.id id=false:=fun x hx=>by
  obtain ⟨k,hk⟩:=List.getElem?_of_mem hx
  rw [List.getElem?_drop] at hk
  exact h2 _ x hk (by omega)
 refine ⟨l.take p,l.drop p,(List.take_append_drop p l).symm,hA,hB,?_⟩
 unfold list_find_s
 rw [show ((0:Nat):Int)=0 from rfl] at e
 rw [e,List.length_take,Nat.min_eq_left hp]
 congr 2
 have hl:lk l id=lk (l.drop p) id:=by
  conv=>lhs; rw [←List.take_append_drop p l,lk_app,lk_lt hA]
  rfl
 rw [hl]
 cases hd:l.drop p with
 | nil =>
  have:l[p]?=none:=by have:=List.getElem?_drop (xs:=l) (i:=p) (j:=0); rw [hd] at this; simpa using this.symm
  rw [this]; rfl
 | cons x B =>
  have hx:l[p]?=some x:=by have:=List.getElem?_drop (xs:=l) (i:=p) (j:=0); rw [hd] at this; simpa using this.symm
  have hr':Ris (x::B):=by rw [←hd]; exact hr.sublist (List.drop_sublist _ _)
  rw [hx,lk_cons]
  dsimp only
  cases hc:eqS x.id id with
  | true=>simp
  | false =>
   have hgt:∀ y∈B,ltS id y.id=true:=fun y hy=>by
    have h3:=(ris_cons.1 hr').1 y hy
    have h4:=hB x (by rw [hd]; exact List.mem_cons_self ..)
    exact le_ltS_tr h4 h3
   rw [if_neg (by simp),lk_gt hgt]; rfl
theorem find_head {l A B:List Item} {id:ByteArray} (hr:Ris l) (e:l=A++B) (hA:∀ x∈A,ltS x.id id=true) (hB:∀ x∈B,ltS x.id id=false) :
  (lk l id=none∧∀ x∈B,ltS id x.id=true)∨∃ x B',B=x::B'∧x.id=id∧lk l id=some x∧∀ y∈B',ltS id y.id=true:=by
 have hl:lk l id=lk B id:=by rw [e,lk_app,lk_lt hA]; rfl
 cases B with
 | nil=>exact .inl ⟨by rw [hl]; rfl,fun x hx=>by cases hx⟩
 | cons x B =>
  have hr':Ris (x::B):=by rw [e] at hr; exact hr.sublist (List.sublist_append_right _ _)
  have hx:=hB x (List.mem_cons_self ..)
  have hgt:∀ y∈B,ltS id y.id=true:=fun y hy=>le_ltS_tr hx ((ris_cons.1 hr').1 y hy)
  cases hc:ltS id x.id with
  | true =>
   refine .inl ⟨?_,fun y hy=>?_⟩
   ·rw [hl,lk_gt]
    intro y hy
    rcases List.mem_cons.1 hy with rfl | hy
    ·exact hc
    ·exact hgt y hy
   ·rcases List.mem_cons.1 hy with rfl | hy
    ·exact hc
    ·exact hgt y hy
  | false =>
   have e':=ltS_tri hx hc
   exact .inr ⟨x,B,rfl,e',by rw [hl,lk_cons,if_pos (eqS_t.2 e')],hgt⟩
theorem lget_s {l:List Item} {id:ByteArray} (hr:Ris l) (hn:l.length≤999990):list_Get_s l id=some (getI id l):=by
 obtain ⟨A,B,e,hA,hB,hf⟩:=find_s (id:=id) hr hn
 unfold list_Get_s
 rw [bnd_of hf]
 rcases find_head hr e hA hB with ⟨hl,_⟩ | ⟨x,B',rfl,hx,hl,_⟩
 ·rw [br_f (by rw [hl]; rfl),getI_f hl]; rfl
 ·rw [br_t (by rw [hl]; rfl),bnd_of (show atL l (A.length:Int)=some x by rw [e]; exact at_app A x B'),getI_t hl]
def putV (l:List Item) (x:Item):List Item:=(l.filter fun y=>ltS y.id x.id)++x::l.filter fun y=>ltS x.id y.id
def dropV (l:List Item) (id:ByteArray):List Item:=l.filter fun y=>!eqS y.id id
theorem lk_filter_t {l:List Item} {p:Item→Bool} {id:ByteArray} (h:∀ x,x.id=id→p x=true):lk (l.filter p) id=lk l id:=by
 induction l with
 | nil=>rfl
 | cons x l ih =>
  rw [List.filter_cons]
  by_cases hx:eqS x.id id=true
  ·rw [if_pos (h x (eqS_t.1 hx)),lk_cons,lk_cons,if_pos hx,if_pos hx]
  ·split
   ·rw [lk_cons,lk_cons,if_neg hx,if_neg hx,ih]
   ·rw [lk_cons,if_neg hx,ih]
theorem lk_filter_f {l:List Item} {p:Item→Bool} {id:ByteArray} (h:∀ x,x.id=id→p x=false):lk (l.filter p) id=none :=
 lk_none.2 fun x hx=>eqS_f.2 fun e=>by have:=(List.mem_filter.1 hx).2; rw [h x e] at this; cases this
theorem lk_put (l:List Item) (x:Item) (id:ByteArray):lk (putV l x) id=if eqS x.id id=true then some x else lk l id:=by
 unfold putV
 rw [lk_app,lk_cons]
 by_cases hx:eqS x.id id=true
 ·rw [if_pos hx,if_pos hx,lk_filter_f fun y hy=>by rw [hy,←eqS_t.1 hx]; exact ltS_self _]; rfl
 ·rw [if_neg hx,if_neg hx]
  cases h1:ltS id x.id with
  | true=>rw [lk_filter_t fun y hy=>by rw [hy]; exact h1,lk_filter_f fun y hy=>by rw [hy]; exact ltS_asym h1]; cases lk l id<;>rfl
  | false =>
   rw [lk_filter_f fun y hy=>by rw [hy]; exact h1]
   cases h2:ltS x.id id with
   | true=>rw [lk_filter_t fun y hy=>by rw [hy]; exact h2]; rfl
   | false=>exact absurd (eqS_t.2 (ltS_tri h2 h1)) hx
theorem lk_drop (l:List Item) (d id:ByteArray):lk (dropV l d) id=if eqS d id=true then none else lk l id:=by
 unfold dropV
 by_cases hx:eqS d id=true
 ·rw [if_pos hx,lk_filter_f fun y hy=>by rw [hy,eqS_comm',hx]; rfl]
 ·rw [if_neg hx,lk_filter_t fun y hy=>by rw [hy,eqS_comm']; simp at hx; rw [hx]; rfl]
theorem ris_put {l:List Item} (hr:Ris l) (x:Item):Ris (putV l x):=by
 unfold putV Ris
 rw [List.pairwise_append,List.pairwise_cons]
 refine ⟨hr.filter _,⟨fun y hy=>(List.mem_filter.1 hy).2,hr.filter _⟩,fun a ha b hb=>?_⟩
 have h1:=(List.mem_filter.1 ha).2
 rcases List.mem_cons.1 hb with rfl | hb
 ·exact h1
 ·exact ltS_tr h1 (List.mem_filter.1 hb).2
theorem ris_drop {l:List Item} (hr:Ris l) (id:ByteArray):Ris (dropV l id):=hr.filter _
theorem rput_l2 {x:Item}:∀ (l acc:List Item),acc.length + l.length≤999990→ref06_Put_l2 x l acc=some (acc++l.filter fun y=>ltS x.id y.id)
 | [],acc,_=>by rw [ref06_Put_l2]; simp
 | y::l,acc,h=>by
  rw [List.length_cons] at h
  have e:(!(ltS y.id x.id || eqS y.id x.id))=ltS x.id y.id:=by
   cases h1:ltS x.id y.id with
   | true=>rw [ltS_asym h1,eqS_comm',ltS_ne h1]; rfl
   | false =>
    cases h2:ltS y.id x.id with
    | true=>rfl
    | false=>rw [ltS_tri h2 h1,eqS_self]; rfl
  rw [ref06_Put_l2,e,List.filter_cons]
  cases ltS x.id y.id with
  | true=>rw [br_t rfl,chk_t (roomL_of (by omega)),rput_l2 l _ (by rw [List.length_append]; simp; omega)]; simp
  | false=>rw [br_f rfl,rput_l2 l _ (by omega)]; simp
theorem rput_l1 {L:List Item} {x:Item} (hL:L.length≤400000):∀ (l acc:List Item),acc.length + l.length≤400000→ref06_Put_l1 L x l acc=some (acc++(l.filter fun y=>ltS y.id x.id)++x::L.filter fun y=>ltS x.id y.id)
 | [],acc,h=>by
  rw [List.length_nil] at h
  rw [ref06_Put_l1,chk_t (roomL_of (by omega)),chk_t (smallL_of (by omega)),rput_l2 L _ (by rw [List.length_append]; simp; omega)]; simp
 | y::l,acc,h=>by
  rw [List.length_cons] at h
  rw [ref06_Put_l1,List.filter_cons]
  cases ltS y.id x.id with
  | true=>rw [br_t rfl,chk_t (roomL_of (by omega)),rput_l1 hL l _ (by rw [List.length_append]; simp; omega)]; simp
  | false=>rw [br_f rfl,rput_l1 hL l _ (by omega)]; simp
theorem rput_s {l:List Item} {x:Item} (h:l.length≤400000):ref06_Put_s l x=some (putV l x):=by
 unfold ref06_Put_s; rw [chk_t (smallL_of (by omega)),rput_l1 h l [] (by simpa using h)]; rfl
theorem rdrop_l {id:ByteArray}:∀ (l acc:List Item),acc.length + l.length≤999990→ref06_Drop_l1 id l acc=some (acc++dropV l id)
 | [],acc,_=>by rw [ref06_Drop_l1]; simp [dropV]
 | y::l,acc,h=>by
  rw [List.length_cons] at h
  rw [ref06_Drop_l1]
  unfold dropV
  rw [List.filter_cons]
  cases eqS y.id id with
  | false=>rw [br_t (by rfl),chk_t (roomL_of (by omega)),rdrop_l l _ (by rw [List.length_append]; simp; omega)]; simp [dropV]
  | true=>rw [br_f (by rfl),rdrop_l l _ (by omega)]; simp [dropV]
theorem rdrop_s {l:List Item} {id:ByteArray} (h:l.length≤999990):ref06_Drop_s l id=some (dropV l id):=by
 unfold ref06_Drop_s; rw [chk_t (smallL_of (by omega)),rdrop_l l [] (by simpa using h)]; rfl
theorem lput_s {l:List Item} {x:Item} (hr:Ris l) (hn:l.length≤999990):list_Put_s l x=some (putV l x):=by
 obtain ⟨A,B,e,hA,hB,hf⟩:=find_s (id:=x.id) hr hn
 have hrA:Ris A:=by rw [e] at hr; exact hr.sublist (List.sublist_append_left _ _)
 have hrB:Ris B:=by rw [e] at hr; exact hr.sublist (List.sublist_append_right _ _)
 unfold list_Put_s
 rw [bnd_of hf,bnd_of (show clone_s l=some l by unfold clone_s; rw [chk_t (decide_eq_true (by omega))])]
 have key:∀ {B':List Item},(∀ y∈B',ltS x.id y.id=true)→Ris B'→(∀ id,eqS x.id id=false→lk B' id=lk B id)→A++x::B'=putV l x:=fun {B'} h1 h2 h3=>by
  refine ris_ext ?_ (ris_put hr x) fun id=>?_
  ·unfold Ris
   rw [List.pairwise_append,List.pairwise_cons]
   refine ⟨hrA,⟨h1,h2⟩,fun a ha b hb=>?_⟩
   rcases List.mem_cons.1 hb with rfl | hb
   ·exact hA a ha
   ·exact ltS_tr (hA a ha) (h1 b hb)
  ·rw [lk_put,lk_app,lk_cons]
   by_cases hx:eqS x.id id=true
   ·rw [if_pos hx,if_pos hx,←eqS_t.1 hx,lk_lt hA]; rfl
   ·rw [if_neg hx,if_neg hx,h3 id (by simpa using hx),e,lk_app]
 rcases find_head hr e hA hB with ⟨hl,hgt⟩ | ⟨y,B',rfl,hy,hl,hgt⟩
 ·rw [br_f (by rw [hl]; rfl)]
  have hi:ins_s l (A.length:Int) x=some (A++x::B):=by
   unfold ins_s
   rw [chk_t (decide_eq_true ⟨by omega,by rw [e]; simp; omega,by omega⟩),Int.toNat_natCast,e,List.take_left,List.drop_left]
  rw [bnd_of hi,key hgt hrB fun _ _=>rfl]
 ·rw [br_t (by rw [hl]; rfl),bnd_of (show atL l (A.length:Int)=some y by rw [e]; exact at_app A y B'),Int.toNat_natCast]
  have:l.set A.length x=A++x::B':=by rw [e]; exact set_app A y x B'
  rw [this,key hgt (ris_cons.1 hrB).2 fun id hid=>by rw [lk_cons,if_neg (by rw [hy,hid]; simp)]]
theorem ldrop_s {l:List Item} {id:ByteArray} (hr:Ris l) (hn:l.length≤999990):list_Drop_s l id=some (dropV l id):=by
 obtain ⟨A,B,e,hA,hB,hf⟩:=find_s (id:=id) hr hn
 have hrA:Ris A:=by rw [e] at hr; exact hr.sublist (List.sublist_append_left _ _)
 unfold list_Drop_s
 rw [bnd_of (show clone_s l=some l by unfold clone_s; rw [chk_t (decide_eq_true (by omega))]),bnd_of hf]
 rcases find_head hr e hA hB with ⟨hl,hgt⟩ | ⟨y,B',rfl,hy,hl,hgt⟩
 ·rw [br_f (by rw [hl]; rfl)]
  congr 1
  unfold dropV
  rw [List.filter_eq_self.2]
  intro y hy
  rw [lk_none.1 hl y hy]; rfl
 ·rw [br_t (by rw [hl]; rfl)]
  have hi:del_s l (A.length:Int)=some (A++B'):=by
   unfold del_s
   rw [chk_t (decide_eq_true ⟨by omega,by rw [e]; simp; omega,by omega⟩),Int.toNat_natCast,e,List.take_left]
   congr 2
   rw [←List.drop_drop,List.drop_left]; rfl
  rw [bnd_of hi]
  congr 1
  refine ris_ext ?_ (ris_drop hr id) fun id'=>?_
  ·rw [e] at hr
   exact hr.sublist (List.Sublist.append_left (List.sublist_cons_self _ _) _)
  ·rw [lk_drop,lk_app]
   by_cases hx:eqS id id'=true
   ·rw [if_pos hx,←eqS_t.1 hx,lk_lt hA,lk_gt hgt]; rfl
   ·rw [if_neg hx,e,lk_app,lk_cons,if_neg (by rw [hy]; exact hx)]
end
end Go.Proofs.YtidkmoohgadjkaaGreat
namespace Go.Proofs.YtidkmoohgadjkaaGreat
open Go E Pred
noncomputable section
open Classical
def newer:Option Item→Option Item→Option Item
 | none,p=>p
 | some x,none=>some x
 | some x,some y=>if behindB y x=true then some y else some x
theorem newer_none (o:Option Item):newer o none=o:=by cases o<;>rfl
def mergeF:Nat→List Item→List Item→List Item
 | 0,_,_=>[]
 | _ + 1,[],b=>b
 | _ + 1,x::a,[]=>x::a
 | n + 1,x::a,y::b=>if ltS x.id y.id=true then x::mergeF n a (y::b) else if ltS y.id x.id=true then y::mergeF n (x::a) b else if behindB y x=true then mergeF n a (y::b) else mergeF n (x::a) b
def bothV (a b:List Item):List Item:=mergeF (a.length + b.length + 1) a b
theorem cmp_pos (a b:Item):ltI 0 (compareV a b)=behindB a b:=by
 unfold compareV
 cases behindB a b with
 | true=>rfl
 | false =>
  cases behindB b a<;>rfl
theorem both_l:∀ (n fl:Nat) (a out b:List Item),a.length + b.length < n→n≤fl→out.length + a.length + b.length≤999990→list_Both_l1 fl a out b=some (out++mergeF n a b)
 | 0,_,_,_,_,h,_,_=>by omega
 | n + 1,0,_,_,_,_,h,_=>by omega
 | n + 1,fl + 1,[],out,b,h,hf,hl=>by
  rw [list_Both_l1,br_f (by rfl),chk_t (roomL_of (by simpa using by simp at hl; omega)),chk_t (roomL_of (by simp at hl ⊢; omega)),mergeF]; simp
 | n + 1,fl + 1,x::a,out,[],h,hf,hl=>by
  rw [list_Both_l1,br_t (by rw [ltI_t,List.length_cons]; omega),br_f (by rfl),chk_t (roomL_of (by simp at hl ⊢; omega)),chk_t (roomL_of (by simp at hl ⊢; omega)),mergeF]; simp
 | n + 1,fl + 1,x::a,out,y::b,h,hf,hl=>by
  have l1:leI 1 ((x::a).length:Int)=true:=by rw [leI_t,List.length_cons]; omega
  have l2:leI 1 ((y::b).length:Int)=true:=by rw [leI_t,List.length_cons]; omega
  have i1:=fun o=>both_l n fl a o (y::b) (by simp at h ⊢; omega) (by omega)
  have i2:=fun o=>both_l n fl (x::a) o b (by simp at h ⊢; omega) (by omega)
  rw [list_Both_l1,br_t (by rw [ltI_t,List.length_cons]; omega),br_t (by rw [ltI_t,List.length_cons]; omega),bnd_of (show atL (x::a) 0=some x from rfl),bnd_of (show atL (y::b) 0=some y from rfl),mergeF]
  cases h1:ltS x.id y.id with
  | true =>
   rw [br_t rfl,chk_t (roomL_of (by simp at hl; omega)),chk_t l1,if_pos rfl]
   rw [show (x::a).drop 1=a from rfl,i1 _ (by simp at hl ⊢; omega)]; simp
  | false =>
   rw [br_f rfl,if_neg (by simp)]
   cases h2:ltS y.id x.id with
   | true =>
    have:(!(false || eqS x.id y.id))=true:=by rw [eqS_comm',ltS_ne h2]; rfl
    rw [br_t this,chk_t (roomL_of (by simp at hl; omega)),chk_t l2,if_pos rfl]
    rw [show (y::b).drop 1=b from rfl,i2 _ (by simp at hl ⊢; omega)]; simp
   | false =>
    have:(!(false || eqS x.id y.id))=false:=by rw [eqS_t.2 (ltS_tri h1 h2)]; rfl
    rw [br_f this,if_neg (by simp),bnd_of (show item_Compare_s y x=some (compareV y x) from rfl),cmp_pos]
    cases behindB y x with
    | true=>rw [br_t rfl,chk_t l1,if_pos rfl]; exact i1 _ (by simp at hl ⊢; omega)
    | false=>rw [br_f rfl,chk_t l2,if_neg (by simp)]; exact i2 _ (by simp at hl ⊢; omega)
theorem lboth_s {a b:List Item} (h:a.length + b.length≤999980):list_Both_s a b=some (bothV a b):=by
 unfold list_Both_s bothV
 rw [both_l (a.length + b.length + 1) fuelN a [] b (by omega) (by unfold fuelN; omega) (by simp; omega)]; rfl
theorem mem_merge:∀ (n:Nat) (a b:List Item) (z:Item),z∈mergeF n a b→z∈a∨z∈b
 | 0,_,_,_,h=>by rw [mergeF] at h; cases h
 | n + 1,[],b,z,h=>by rw [mergeF] at h; exact .inr h
 | n + 1,x::a,[],z,h=>by rw [mergeF] at h; exact .inl h
 | n + 1,x::a,y::b,z,h=>by
  rw [mergeF] at h
  split at h
  ·rcases List.mem_cons.1 h with rfl | h
   ·exact .inl (List.mem_cons_self ..)
   ·exact (mem_merge n a (y::b) z h).imp (List.mem_cons_of_mem _) id
  ·split at h
   ·rcases List.mem_cons.1 h with rfl | h
    ·exact .inr (List.mem_cons_self ..)
    ·exact (mem_merge n (x::a) b z h).imp id (List.mem_cons_of_mem _)
   ·split at h
    ·exact (mem_merge n a (y::b) z h).imp (List.mem_cons_of_mem _) id
    ·exact (mem_merge n (x::a) b z h).imp id (List.mem_cons_of_mem _)
theorem ris_merge:∀ (n:Nat) {a b:List Item},Ris a→Ris b→Ris (mergeF n a b)
 | 0,_,_,_,_=>by rw [mergeF]; exact .nil
 | n + 1,[],b,_,hb=>by rw [mergeF]; exact hb
 | n + 1,x::a,[],ha,_=>by rw [mergeF]; exact ha
 | n + 1,x::a,y::b,ha,hb=>by
  have ha':=ris_cons.1 ha
  have hb':=ris_cons.1 hb
  rw [mergeF]
  split
  ·rename_i h1
   refine ris_cons.2 ⟨fun z hz=>?_,ris_merge n ha'.2 hb⟩
   rcases mem_merge n _ _ z hz with hz | hz
   ·exact ha'.1 z hz
   ·rcases List.mem_cons.1 hz with rfl | hz
    ·exact h1
    ·exact ltS_tr h1 (hb'.1 z hz)
  ·split
   ·rename_i h2
    refine ris_cons.2 ⟨fun z hz=>?_,ris_merge n ha hb'.2⟩
    rcases mem_merge n _ _ z hz with hz | hz
    ·rcases List.mem_cons.1 hz with rfl | hz
     ·exact h2
     ·exact ltS_tr h2 (ha'.1 z hz)
    ·exact hb'.1 z hz
   ·split
    ·exact ris_merge n ha'.2 hb
    ·exact ris_merge n ha hb'.2
theorem lk_merge:∀ (n:Nat) {a b:List Item} (id:ByteArray),a.length + b.length < n→Ris a→Ris b→lk (mergeF n a b) id=newer (lk a id) (lk b id)
 | 0,_,_,_,h,_,_=>by omega
 | n + 1,[],b,id,_,_,_=>by rw [mergeF]; rfl
 | n + 1,x::a,[],id,_,_,_=>by rw [mergeF]; exact (newer_none _).symm
 | n + 1,x::a,y::b,id,h,ha,hb=>by
  have ha':=ris_cons.1 ha
  have hb':=ris_cons.1 hb
  have i1:=lk_merge n id (a:=a) (b:=y::b) (by simp at h ⊢; omega) ha'.2 hb
  have i2:=lk_merge n id (a:=x::a) (b:=b) (by simp at h ⊢; omega) ha hb'.2
  rw [mergeF]
  by_cases h1:ltS x.id y.id=true
  ·rw [if_pos h1,lk_cons,lk_cons x a,i1]
   by_cases hx:eqS x.id id=true
   ·have hn:lk (y::b) id=none:=lk_gt fun z hz=>by
     rw [←eqS_t.1 hx]
     rcases List.mem_cons.1 hz with rfl | hz
     ·exact h1
     ·exact ltS_tr h1 (hb'.1 z hz)
    rw [if_pos hx,if_pos hx,hn]; rfl
   ·rw [if_neg hx,if_neg hx]
  ·rw [if_neg h1]
   by_cases h2:ltS y.id x.id=true
   ·rw [if_pos h2,lk_cons,lk_cons y b,i2]
    by_cases hy:eqS y.id id=true
    ·have hn:lk (x::a) id=none:=lk_gt fun z hz=>by
      rw [←eqS_t.1 hy]
      rcases List.mem_cons.1 hz with rfl | hz
      ·exact h2
      ·exact ltS_tr h2 (ha'.1 z hz)
     rw [if_pos hy,if_pos hy,hn]; rfl
    ·rw [if_neg hy,if_neg hy]
   ·rw [if_neg h2]
    simp only [Bool.not_eq_true] at h1 h2
    have e:=ltS_tri h1 h2
    by_cases hx:eqS x.id id=true
    ·have hy:eqS y.id id=true:=by rw [←e]; exact hx
     have na:lk a id=none:=lk_gt fun z hz=>by rw [←eqS_t.1 hx]; exact ha'.1 z hz
     have nb:lk b id=none:=lk_gt fun z hz=>by rw [←eqS_t.1 hy]; exact hb'.1 z hz
     have ex:lk (x::a) id=some x:=by rw [lk_cons,if_pos hx]
     have ey:lk (y::b) id=some y:=by rw [lk_cons,if_pos hy]
     rw [na,ey] at i1
     rw [nb,ex] at i2
     rw [ex,ey]
     show _=if behindB y x=true then some y else some x
     split
     ·exact i1
     ·exact i2
    ·have hy:¬ eqS y.id id=true:=by rw [←e]; exact hx
     have ex:lk (x::a) id=lk a id:=by rw [lk_cons,if_neg hx]
     have ey:lk (y::b) id=lk b id:=by rw [lk_cons,if_neg hy]
     rw [ey] at i1
     rw [ex] at i2
     rw [ex,ey]
     split
     ·exact i1
     ·exact i2
theorem ris_both {a b:List Item} (ha:Ris a) (hb:Ris b):Ris (bothV a b):=ris_merge _ ha hb
theorem lk_both {a b:List Item} (ha:Ris a) (hb:Ris b) (id:ByteArray):lk (bothV a b) id=newer (lk a id) (lk b id):=lk_merge _ id (by omega) ha hb
def stepB (acc:List Item) (y:Item):List Item:=match lk acc y.id with
 | none=>putV acc y
 | some h=>if behindB y h=true then putV acc y else acc
theorem len_put1 {l:List Item} (hr:Ris l) (x:Item):(putV l x).length≤l.length + 1:=by
 have h1:((l.filter fun y=>ltS y.id x.id)++l.filter fun y=>ltS x.id y.id).length≤l.length:=by
  rw [List.length_append]
  induction l with
  | nil=>simp
  | cons y l ih =>
   have:=ih (ris_cons.1 hr).2
   rw [List.filter_cons,List.filter_cons]
   cases h:ltS y.id x.id with
   | true=>rw [ltS_asym h]; simp; omega
   | false=>cases ltS x.id y.id<;>simp<;>omega
 unfold putV
 rw [List.length_append] at h1 ⊢
 rw [List.length_cons]; omega
theorem ris_step {acc:List Item} (h:Ris acc) (y:Item):Ris (stepB acc y):=by
 unfold stepB
 split
 ·exact ris_put h y
 ·split
  ·exact ris_put h y
  ·exact h
theorem len_step {acc:List Item} (h:Ris acc) (y:Item):(stepB acc y).length≤acc.length + 1:=by
 unfold stepB
 split
 ·exact len_put1 h y
 ·split
  ·exact len_put1 h y
  ·omega
theorem lk_step (acc:List Item) (y:Item) (id:ByteArray):lk (stepB acc y) id=newer (lk acc id) (if eqS y.id id=true then some y else none):=by
 unfold stepB
 by_cases hy:eqS y.id id=true
 ·rw [if_pos hy,←eqS_t.1 hy]
  cases h:lk acc y.id with
  | none=>dsimp only; rw [lk_put,if_pos (eqS_self _)]; rfl
  | some x =>
   dsimp only
   show _=if behindB y x=true then some y else some x
   split
   ·rw [lk_put,if_pos (eqS_self _)]
   ·exact h
 ·rw [if_neg hy,newer_none]
  split
  ·rw [lk_put,if_neg hy]
  ·split
   ·rw [lk_put,if_neg hy]
   ·rfl
theorem ris_fold:∀ (b acc:List Item),Ris acc→Ris (b.foldl stepB acc)
 | [],_,h=>h
 | y::b,acc,h=>ris_fold b _ (ris_step h y)
theorem lk_fold (id:ByteArray):∀ (b acc:List Item),Ris b→lk (b.foldl stepB acc) id=newer (lk acc id) (lk b id)
 | [],acc,_=>(newer_none _).symm
 | y::b,acc,h=>by
  have h':=ris_cons.1 h
  rw [List.foldl_cons,lk_fold id b _ h'.2,lk_step,lk_cons]
  by_cases hy:eqS y.id id=true
  ·rw [if_pos hy,if_pos hy,lk_gt (l:=b) fun z hz=>by rw [←eqS_t.1 hy]; exact h'.1 z hz,newer_none]
  ·rw [if_neg hy,if_neg hy,newer_none]
theorem rboth_l:∀ (b acc:List Item),Ris acc→acc.length + b.length≤400000→ref06_Both_l1 b acc=some (b.foldl stepB acc)
 | [],acc,_,_=>by rw [ref06_Both_l1]; rfl
 | y::b,acc,hr,h=>by
  rw [List.length_cons] at h
  have ih:=rboth_l b (stepB acc y) (ris_step hr y) (by have:=len_step hr y; omega)
  rw [ref06_Both_l1,bnd_of (get_s (by omega)),List.foldl_cons,←ih]
  unfold stepB
  cases hk:lk acc y.id with
  | none=>rw [getI_f hk,br_t (by rfl),bnd_of (rput_s (by omega))]
  | some x =>
   rw [getI_t hk,br_f (by rfl),bnd_of (show ref01_Behind_s y (x,true).1=some (behindB y x) from rfl)]
   dsimp only
   cases behindB y x with
   | true=>rw [br_t rfl,bnd_of (rput_s (by omega)),if_pos rfl]
   | false=>rw [br_f rfl,if_neg (by simp)]
theorem rboth_s {a b:List Item} (ha:Ris a) (hb:Ris b) (h:a.length + b.length≤400000):ref06_Both_s a b=some (bothV a b):=by
 unfold ref06_Both_s
 rw [chk_t (roomL_of (by omega)),chk_t (smallL_of (by omega)),rboth_l b a ha h]
 congr 1
 exact ris_ext (ris_fold b a ha) (ris_both ha hb) fun id=>by rw [lk_fold id b a hb,lk_both ha hb]
theorem may_ris {l:List Item} (h:mayListB l=true):Ris l:=by
 unfold mayListB at h; rw [Bool.and_eq_true] at h; exact ris_iff.1 h.2
theorem may_all {l:List Item} (h:mayListB l=true):∀ x∈l,mayI x=true:=by
 unfold mayListB at h; rw [Bool.and_eq_true,List.all_eq_true] at h; exact h.1
theorem sameList_l:∀ (xs pre ys L:List Item),L=pre++ys→xs.length=ys.length→(∀ p∈xs.zip ys,sameI p.1 p.2=true)→ref06_SameList_l1 L xs (pre.length:Int)=some true
 | [],pre,[],L,_,_,_=>by rw [ref06_SameList_l1]
 | x::xs,pre,y::ys,L,h,hl,hs=>by
  have ih:=sameList_l xs (pre++[y]) ys L (by rw [h]; simp) (by simpa using hl) fun p hp=>hs p (by simp [hp])
  rw [List.length_append] at ih
  rw [ref06_SameList_l1,bnd_of (show atL L (pre.length:Int)=some y by rw [h]; exact at_app pre y ys),bnd_of (show ref01_Same_s x y=some (sameI x y) from rfl),hs (x,y) (by simp),br_f (by rfl)]
  exact ih
 | [],_,_::_,_,_,h,_=>by simp at h
 | _::_,_,[],_,_,h,_=>by simp at h
end
end Go.Proofs.YtidkmoohgadjkaaGreat
set_option maxHeartbeats 0
namespace Go.Proofs.YtidkmoohgadjkaaGreat
open Go E
noncomputable section
open Pred
end
end Go.Proofs.YtidkmoohgadjkaaGreat
namespace Go.Proofs.YtidkmoohgadjkaaGreat
open Go E Pred
noncomputable section
open Classical
def realI (x:Item):Prop:=eqFl .f64 x.re x.re=true∧eqFl .f64 x.im x.im=true
theorem sameI_real {x:Item} (h:realI x):sameI x x=true:=by
 unfold sameI
 rw [h.1,h.2,eqS_refl,eqS_refl,beq_selfB]
 simp [eqI]
theorem real_may {x:Item} (h:mayI x=true):realI x:=by
 unfold mayI at h
 simp only [Bool.and_eq_true] at h
 obtain ⟨_,_,_,hp⟩:=h
 obtain ⟨⟨w1,_⟩,⟨w2,_⟩⟩:=placeB_ok hp
 exact ⟨w1.self,w2.self⟩
theorem mem_put {l:List Item} {x y:Item} (h:y∈putV l x):y=x∨y∈l:=by
 unfold putV at h
 rcases List.mem_append.1 h with h | h
 ·exact .inr (List.mem_filter.1 h).1
 ·rcases List.mem_cons.1 h with rfl | h
  ·exact .inl rfl
  ·exact .inr (List.mem_filter.1 h).1
theorem mem_drop {l:List Item} {id:ByteArray} {y:Item} (h:y∈dropV l id):y∈l:=(List.mem_filter.1 h).1
theorem mem_both {a b:List Item} {y:Item} (h:y∈bothV a b):y∈a∨y∈b:=mem_merge _ a b y h
end
end Go.Proofs.YtidkmoohgadjkaaGreat
set_option maxHeartbeats 0
namespace Go.Proofs.YtidkmoohgadjkaaGreat
open Go E
noncomputable section
open Pred
def fresh_State_s (p0:State):Option (State) :=
 (bnd (fresh_Pred_s fuelR p0.f) fun y1 =>
  (bnd (fresh_Know_s p0.k) fun y3 =>
   (bnd (clone_s p0.store) fun y5 =>
    (bnd (clone_s p0.out) fun y7 =>
     some (State.mk p0.r y1 y5 y7 y3 p0.count p0.clock p0.epoch)))))
variable {X:Task→Prop} (hX:Closed X) {Q:A→List Blk→Prop}
include hX
theorem fresh_State_c  {p0:State} {r:State} (h:fresh_State_s p0=some r) (hQ:Q (.agg (State.cs r)) []):X (.call 93 [.agg (State.cs p0)] [] Q):=by
 unfold fresh_State_s at h
 refine call_nz hX ?_
 conv=>whnf
 refine call_intro hX Tryz.func93 rfl rfl ?_
 revert h
 refine bndk fun y1 e2 h=>?_
 conv=>whnf
 repeat((first|refine dw ?_);conv=>whnf)
 refine fresh_Pred_c hX fuelR e2 ?_
 revert h
 refine bndk fun y3 e4 h=>?_
 conv=>whnf
 repeat((first|refine dw ?_);conv=>whnf)
 refine fresh_Know_c hX e4 ?_
 revert h
 refine bndk fun y5 e6 h=>?_
 conv=>whnf
 repeat((first|refine dw ?_);conv=>whnf)
 refine clone_c (f:=Item.row) (k:=8) (fun _=>rfl) (by decide) hX e6 ?_
 revert h
 refine bndk fun y7 e8 h=>?_
 conv=>whnf
 repeat((first|refine dw ?_);conv=>whnf)
 refine clone_c (f:=Item.row) (k:=8) (fun _=>rfl) (by decide) hX e8 ?_
 conv=>whnf
 repeat((first|refine dw ?_);conv=>whnf)
 exact ret_some (f:=fun y=>.agg (State.cs y)) (g:=fun y=>[]) h hQ
end
end Go.Proofs.YtidkmoohgadjkaaGreat
