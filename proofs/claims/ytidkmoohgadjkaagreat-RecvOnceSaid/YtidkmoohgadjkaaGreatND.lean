/- Filters (layer 3): as trees; how large and how deep they are, and whether two are the same. Counts of replicas (layer 6), the program's and the document's. The cluster's values by their Go types; rows of filters. Filters (layer 3): which ones may be. The statements of layer 3, walked. Which items a filter has (layer 4): the program's answer, and the document's. Which filter is seen in which (layer 5): the program's answer, and the document's. Which filter is seen in which (layer 5): the document's answer. Which filter is seen in which (layer 5): both answers, and what they are. Filters made plain (layer 4): what is told to be the same, and both answers, without the program. Filters made plain (layer 4): the program's answer. The contracts that were proved by hand, as decomp.py asks for them. slices.Insert at rows of eight cells (items): its contract, walked. slices.Insert at items, told of slices as lists: its contract. slices.Delete of one item: its contract. slices.Insert and slices.Delete at items, told of slices as lists: as decomp.py asks for them. slices.Sorted(maps.Keys(m)), m a map of the call's own whose keys are texts: contracts, laid out of the kit's library. slices.Grow of nil: its contract. Rounds: over a list, with fuel; ways that meet. (Only those that are used.) Layer 8, the program's. Written by decomp.py. Layer 7, the program's. Written by decomp.py. Layer 7, the program's. Written by decomp.py. Layer 7, the program's. Written by decomp.py. Layer 7, the prog -/
import Derived.Test.YtidkmoohgadjkaaGreatNC
import Derived.Lib.AppendZerosOnto
import Derived.Lib.Overlaps
import Derived.Shelf.RegionOpenPlain
import Derived.WalkKit
import Derived.WalkSpells
import Derived.Deep.RegionLaw
import Derived.Lib.Walk
import Derived.Laws.NewBlocks
import Derived.Shelf.SlIter.Nil
import Derived.Shelf.SortM.Plain
import Derived.Shelf.SortM.SortNone
import Derived.Ground.GgzProg
import Derived.Ground.SlgmProg
import Derived.Sort.Walk0
set_option linter.unusedVariables false
set_option linter.unusedSimpArgs false
set_option maxRecDepth 100000
set_option maxHeartbeats 4000000
namespace Go.Proofs.YtidkmoohgadjkaaGreat
open Go E
inductive Pred where
 | mk (op:Int) (text:ByteArray) (n:Int) (re im:Nat) (kids:List Pred)
namespace Pred
def op:Pred→Int | mk a _ _ _ _ _=>a
def text:Pred→ByteArray | mk _ a _ _ _ _=>a
def n:Pred→Int | mk _ _ a _ _ _=>a
def re:Pred→Nat | mk _ _ _ a _ _=>a
def im:Pred→Nat | mk _ _ _ _ a _=>a
def kids:Pred→List Pred | mk _ _ _ _ _ a=>a
mutual
def row:Pred→List PC
 | mk a t n re im ks=>[ip a,.v (.string t),ip n,.v (.complex .f64 re im),.sl (rows0 ks)]
def rows0:List Pred→List (List PC)
 | []=>[]
 | k::ks=>row k::rows0 ks
end
def rows (l:List Pred):List (List PC):=l.map row
theorem rows0_eq (l:List Pred):rows0 l=rows l:=by
 induction l with
 | nil=>rw [rows0]; rfl
 | cons a l ih=>rw [rows0,ih]; rfl
mutual
def lrow:Pred→List PC
 | mk a t n re im ks=>[ip a,.v (.string t),ip n,.v (.float .f64 re),.v (.float .f64 im),.sl (lrows ks)]
def lrows:List Pred→List (List PC)
 | []=>[]
 | k::ks=>lrow k::lrows ks
end
mutual
def size:Pred→Nat
 | mk _ _ _ _ _ ks=>sizes ks + 1
def sizes:List Pred→Nat
 | []=>0
 | k::ks=>size k + sizes ks
end
mutual
def depth:Pred→Nat
 | mk _ _ _ _ _ ks=>depths ks + 1
def depths:List Pred→Nat
 | []=>0
 | k::ks=>max (depth k) (depths ks)
end
mutual
def Ok:Pred→Prop
 | mk a t n _ _ ks=>(-9223372036854775808≤a∧a≤9223372036854775807)∧t.size≤9223372036854775807∧(-9223372036854775808≤n∧n≤9223372036854775807)∧ks.length≤9223372036854775807∧Oks ks
def Oks:List Pred→Prop
 | []=>True
 | k::ks=>Ok k∧Oks ks
end
abbrev cs (p:Pred):List C:=[ic p.op,.p (.v (.string p.text)),ic p.n,.p (.v (.complex .f64 p.re p.im)),.p (.sl (rows p.kids))]
abbrev a (p:Pred):A:=.agg p.cs
abbrev la (p:Pred):A:=.agg [ic p.op,.p (.v (.string p.text)),ic p.n,.p (.v (.float .f64 p.re)),.p (.v (.float .f64 p.im)),.p (.sl (lrows p.kids))]
theorem row_eq (p:Pred):row p=[ip p.op,.v (.string p.text),ip p.n,.v (.complex .f64 p.re p.im),.sl (rows p.kids)]:=by cases p; rw [row,rows0_eq]; rfl
theorem lrow_eq (p:Pred):lrow p=[ip p.op,.v (.string p.text),ip p.n,.v (.float .f64 p.re),.v (.float .f64 p.im),.sl (lrows p.kids)]:=by cases p; rw [lrow]; rfl
theorem rows_eq (l:List Pred):rows l=l.map row:=rfl
theorem lrows_eq (l:List Pred):lrows l=l.map lrow:=by induction l with | nil=>rw [lrows]; rfl | cons a l ih=>rw [lrows,ih]; rfl
theorem size_eq (p:Pred):p.size=sizes p.kids + 1:=by cases p; rw [size]; rfl
theorem depth_eq (p:Pred):p.depth=depths p.kids + 1:=by cases p; rw [depth]; rfl
theorem sizes_app (l m:List Pred):sizes (l++m)=sizes l + sizes m:=by
 induction l with
 | nil=>rw [sizes]; simp
 | cons a l ih=>rw [List.cons_append,sizes,sizes,ih]; omega
theorem sizes_nil:sizes []=0:=by rw [sizes]
theorem sizes_one (p:Pred):sizes [p]=p.size:=by rw [sizes,sizes_nil]; rfl
theorem depths_nil:depths []=0:=by rw [depths]
theorem depths_app (l m:List Pred):depths (l++m)=max (depths l) (depths m):=by
 induction l with
 | nil=>rw [depths_nil]; simp
 | cons a l ih=>rw [List.cons_append,depths,depths,ih]; omega
theorem depths_one (p:Pred):depths [p]=p.depth:=by rw [depths,depths_nil]; omega
theorem size_mem {l : List Pred} {k : Pred} (h : k ∈ l) : k.size ≤ sizes l := by
  induction l with
  | nil => cases h
  | cons a l ih => rw [sizes]; rcases List.mem_cons.1 h with rfl | h
                   · omega
                   · have := ih h; omega
theorem size_kid {p:Pred} {j:Nat} (h:j < p.kids.length):p.kids[j].size < p.size:=by
 have:=size_mem (List.getElem_mem h); rw [size_eq p]; omega
theorem depth_mem {l : List Pred} {k : Pred} (h : k ∈ l) : k.depth ≤ depths l := by
  induction l with
  | nil => cases h
  | cons a l ih => rw [depths]; rcases List.mem_cons.1 h with rfl | h
                   · omega
                   · have := ih h; omega
theorem size_pos (p:Pred):0 < p.size:=by rw [size_eq]; omega
theorem len_sizes (l:List Pred):l.length≤sizes l:=by
 induction l with
 | nil=>simp
 | cons a l ih=>rw [sizes]; have:=size_pos a; simp; omega
theorem Oks_mem {l : List Pred} (h : Oks l) {k : Pred} (hk : k ∈ l) : Ok k := by
  induction l with
  | nil => cases hk
  | cons a l ih => rw [Oks] at h; rcases List.mem_cons.1 hk with rfl | hk
                   · exact h.1
                   · exact ih h.2 hk
theorem Oks_of {l:List Pred} (h:∀ k∈l,Ok k):Oks l:=by
 induction l with
 | nil=>rw [Oks]; trivial
 | cons a l ih=>rw [Oks]; exact ⟨h a (by simp),ih fun k hk=>h k (by simp [hk])⟩
theorem Ok.kids {p:Pred} (h:p.Ok):Oks p.kids:=by cases p; rw [Ok] at h; exact h.2.2.2.2
theorem Ok.kid {p:Pred} (h:p.Ok) {j:Nat} (hj:j < p.kids.length):p.kids[j].Ok:=Oks_mem h.kids (List.getElem_mem hj)
theorem Ok.text {p:Pred} (h:p.Ok):p.text.size≤9223372036854775807:=by cases p; rw [Ok] at h; exact h.2.1
theorem Ok.len {p:Pred} (h:p.Ok):p.kids.length≤9223372036854775807:=by cases p; rw [Ok] at h; exact h.2.2.2.1
theorem Ok.op {p:Pred} (h:p.Ok) : -9223372036854775808≤p.op∧p.op≤9223372036854775807:=by cases p; rw [Ok] at h; exact h.1
theorem Ok.n {p:Pred} (h:p.Ok) : -9223372036854775808≤p.n∧p.n≤9223372036854775807:=by cases p; rw [Ok] at h; exact h.2.2.1
theorem len_rows (l:List Pred):lenL (rows l)=(l.length:Int):=by rw [rows_eq,lenL_map]
theorem len_lrows (l:List Pred):lenL (lrows l)=(l.length:Int):=by rw [lrows_eq,lenL_map]
theorem lenB_rows {l:List Pred} {j:Nat} (h:j < l.length):lenB (rows l) (j:Int)=true:=by rw [rows_eq]; exact lenB_map h
theorem lenB_lrows {l:List Pred} {j:Nat} (h:j < l.length):lenB (lrows l) (j:Int)=true:=by rw [lrows_eq]; exact lenB_map h
theorem at_rows {l:List Pred} {j:Nat} (h:j < l.length):E.rowAt (rows l) (j:Int)=[ip l[j].op,.v (.string l[j].text),ip l[j].n,.v (.complex .f64 l[j].re l[j].im),.sl (rows l[j].kids)]:=by
 rw [rows_eq,rowAt_map h,row_eq]
theorem at_lrows {l:List Pred} {j:Nat} (h:j < l.length):E.rowAt (lrows l) (j:Int)=[ip l[j].op,.v (.string l[j].text),ip l[j].n,.v (.float .f64 l[j].re),.v (.float .f64 l[j].im),.sl (lrows l[j].kids)]:=by
 rw [lrows_eq,rowAt_map h,lrow_eq]
theorem take_sizes {l:List Pred} {j:Nat} (h:j < l.length):sizes (l.take (j + 1))=sizes (l.take j) + l[j].size:=by
 rw [List.take_succ_eq_append_getElem h,sizes_app,sizes_one]
theorem take_sizes_le (l:List Pred) (j:Nat):sizes (l.take j)≤sizes l:=by
 have:=sizes_app (l.take j) (l.drop j); rw [List.take_append_drop] at this; omega
theorem take_depths {l:List Pred} {j:Nat} (h:j < l.length):depths (l.take (j + 1))=max (depths (l.take j)) l[j].depth:=by
 rw [List.take_succ_eq_append_getElem h,depths_app,depths_one]
end Pred
open Pred
attribute [irreducible] Pred.lrows Pred.size Pred.sizes Pred.depth Pred.depths Pred.Ok Pred.Oks
def leftV (p:Pred) (m:Int):Int:=if (p.size:Int)≤m then m - p.size else -1
theorem left_ok {X:Task→Prop} (hX:Closed X):∀ (N:Nat) {p:Pred} {m:Int} {Q:A→List Blk→Prop},p.size≤N→p.Ok→m≤1000 → -1000≤m→Q (iv (leftV p m)) []→X (.call 112 [p.la,iv m] [] Q)
 | 0,p,_,_,h,_,_,_,_=>absurd h (by have:=size_pos p; omega)
 | N + 1,p,m,Q,h,ok,h1,h2,hQ=>by
  have hsz:=size_eq p
  refine call_intro hX Tryz.func112 rfl rfl ?_
  cases q1:leI m 0 with
  | true=>repeat' ((conv=>whnf); first | exact hQ | refine eqv_id ?_ | refine Two.l ?_ | refine ⟨by kernel_rfl,?_⟩ | refine bct (by assumption) ?_ | refine bcf (by assumption) ?_ | refine bcf (nt (by assumption)) ?_ | refine bct (nf (by assumption)) ?_ | (exact Qi hQ (by unfold leftV; rw [leI_t] at q1; rw [if_neg (by omega)])))
  | false =>
   repeat' ((conv=>whnf); first | exact hQ | refine eqv_id ?_ | refine Two.l ?_ | refine ⟨by kernel_rfl,?_⟩ | refine bct (by assumption) ?_ | refine bcf (by assumption) ?_ | refine bcf (nt (by assumption)) ?_ | refine bct (nf (by assumption)) ?_)
   (conv=>whnf)
   rw [leI_f] at q1
   rw [wr64 (n:=m - 1) (by omega) (by omega)]
   have hln:=ok.len
   refine range_loop (fun j (n:Int)=>pad [(1,iv n),(0,.one (.ptr 0 0)),(2,iv (j:Int))] 21) (fun _ _=>[.box [ic p.op,.p (.v (.string p.text)),ic p.n,.p (.v (.float .f64 p.re)),.p (.v (.float .f64 p.im)),.p (.sl (lrows p.kids))]]) (fun j n=>n=m - 1 - sizes (p.kids.take j)∧0≤n) p.kids.length (fun j n hj hI ih=>?_) (fun n hI=>?_) (m - 1) (by rw [List.take_zero,sizes_nil]; omega)
   ·have q1:ltI (j:Int) (lenL (lrows p.kids))=true:=by rw [len_lrows,ltI_t]; omega
    have q2:=lenB_lrows hj
    have hk:=size_kid hj
    have ht:=take_sizes hj
    have hl:=take_sizes_le p.kids (j + 1)
    obtain ⟨hI,hn⟩:=hI
    refine loop_intro hX ?_
    by_cases hle:(p.kids[j].size:Int)≤n
    ·have e:leftV p.kids[j] n=n - p.kids[j].size:=if_pos hle
     have q3:ltI (n - p.kids[j].size) 0=false:=ltI_f.2 (by omega)
     repeat' ((conv=>whnf); first | exact hQ | refine eqv_id ?_ | refine Two.l ?_ | refine ⟨by kernel_rfl,?_⟩ | refine bct (by assumption) ?_ | refine bcf (by assumption) ?_ | refine bcf (nt (by assumption)) ?_ | refine bct (nf (by assumption)) ?_ | (rw [at_lrows hj]) | (refine left_ok hX N (p:=p.kids[j]) (by omega) (ok.kid hj) (by omega) (by omega) ?_; rw [e]) | (rw [wrS (by omega)]; exact ih _ (by omega)))
    ·have e:leftV p.kids[j] n = -1:=if_neg hle
     repeat' ((conv=>whnf); first | exact hQ | refine eqv_id ?_ | refine Two.l ?_ | refine ⟨by kernel_rfl,?_⟩ | refine bct (by assumption) ?_ | refine bcf (by assumption) ?_ | refine bcf (nt (by assumption)) ?_ | refine bct (nf (by assumption)) ?_ | (exact Qi hQ (by unfold leftV; rw [if_neg (by omega)])) | (rw [at_lrows hj]) | (refine left_ok hX N (p:=p.kids[j]) (by omega) (ok.kid hj) (by omega) (by omega) ?_; rw [e]))
   ·have q1:ltI (p.kids.length:Int) (lenL (lrows p.kids))=false:=by rw [len_lrows,ltI_f]; omega
    rw [List.take_length] at hI
    refine loop_intro hX ?_
    repeat' ((conv=>whnf); first | exact hQ | refine eqv_id ?_ | refine Two.l ?_ | refine ⟨by kernel_rfl,?_⟩ | refine bct (by assumption) ?_ | refine bcf (by assumption) ?_ | refine bcf (nt (by assumption)) ?_ | refine bct (nf (by assumption)) ?_ | (exact Qi hQ (by unfold leftV; rw [if_pos (by omega)]; omega)))
theorem small_ok {X:Task→Prop} (hX:Closed X) {p:Pred} {Q:A→List Blk→Prop} (ok:p.Ok) (hQ:Q (iv (if p.size≤60 then 1 else 0)) []):X (.call 44 [p.la] [] Q):=by
 refine call_intro hX Tryz.func44 rfl rfl ?_
 by_cases hle:p.size≤60
 ·have e:leftV p 60=60 - p.size:=if_pos (by omega)
  have q1:ltI (60 - (p.size:Int)) 0=false:=ltI_f.2 (by omega)
  repeat' ((conv=>whnf); first | exact hQ | refine eqv_id ?_ | refine Two.l ?_ | refine ⟨by kernel_rfl,?_⟩ | refine bct (by assumption) ?_ | refine bcf (by assumption) ?_ | refine bcf (nt (by assumption)) ?_ | refine bct (nf (by assumption)) ?_ | (exact Qi hQ (if_pos hle)) | (refine left_ok hX p.size (p:=p) (Nat.le_refl _) ok (by omega) (by omega) ?_; rw [e]))
 ·have e:leftV p 60 = -1:=if_neg (by omega)
  repeat' ((conv=>whnf); first | exact hQ | refine eqv_id ?_ | refine Two.l ?_ | refine ⟨by kernel_rfl,?_⟩ | refine bct (by assumption) ?_ | refine bcf (by assumption) ?_ | refine bcf (nt (by assumption)) ?_ | refine bct (nf (by assumption)) ?_ | (exact Qi hQ (if_neg hle)) | (refine left_ok hX p.size (p:=p) (Nat.le_refl _) ok (by omega) (by omega) ?_; rw [e]))
theorem rows_take {l:List Pred} {j:Nat} (h:j < l.length):catL (rows (l.take j)) [[ip l[j].op,.v (.string l[j].text),ip l[j].n,.v (.complex .f64 l[j].re l[j].im),.sl (rows l[j].kids)]]=rows (l.take (j + 1)):=by
 unfold catL
 rw [rows_eq,rows_eq (l.take (j + 1)),List.take_succ_eq_append_getElem h,List.map_append,List.map_cons,List.map_nil,row_eq]
theorem lpred_ok {X:Task→Prop} (hX:Closed X):∀ (N:Nat) {p:Pred} {Q:A→List Blk→Prop},p.size≤N→p.size≤1000→p.Ok→Q p.a []→X (.call 46 [p.la] [] Q)
 | 0,p,_,h,_,_,_=>absurd h (by have:=size_pos p; omega)
 | N + 1,p,Q,h,h1,ok,hQ=>by
  refine call_nz hX ?_
  (conv=>whnf)
  refine call_intro hX Tryz.func46 rfl rfl ?_
  repeat' ((conv=>whnf); first | exact hQ | refine eqv_id ?_ | refine Two.l ?_ | refine ⟨by kernel_rfl,?_⟩ | refine bct (by assumption) ?_ | refine bcf (by assumption) ?_ | refine bcf (nt (by assumption)) ?_ | refine bct (nf (by assumption)) ?_)
  have hsz:=size_eq p
  have hln:=len_sizes p.kids
  refine loop_intro hX ?_
  by_cases h0:0 < p.kids.length
  ·have q1:ltI 0 (lenL (lrows p.kids))=true:=by rw [len_lrows,ltI_t]; omega
   have q2:lenB (lrows p.kids) 0=true:=lenB_lrows h0
   have q3:=at_lrows h0
   have hk:=size_kid h0
   repeat' ((conv=>whnf); first | exact hQ | refine eqv_id ?_ | refine Two.l ?_ | refine ⟨by kernel_rfl,?_⟩ | refine bct (by assumption) ?_ | refine bcf (by assumption) ?_ | refine bcf (nt (by assumption)) ?_ | refine bct (nf (by assumption)) ?_ | (erw [q3]) | refine lpred_ok hX N (p:=p.kids[0]) (by omega) (by omega) (ok.kid h0) ?_ | refine bct (room2 (by decide) rfl rfl rfl) ?_)
   all_goals (conv=>whnf)
   have e0:rows (p.kids.take 0)=[]:=by rw [List.take_zero,rows_eq]; rfl
   have e1:=rows_take h0
   rw [e0] at e1
   refine range_from (fun j (_:Rw)=>pad [(1,.one (.ptr 0 0)),(0,.one (.ptr 1 0)),(0,.one (.ptr 3 0)),(0,iv (j:Int))] 31) (fun j r=>[.box [ic p.op,.p (.v (.string p.text)),ic p.n,.p (.v (.float .f64 p.re)),.p (.v (.float .f64 p.im)),.p (.sl (lrows p.kids))],.box [ic 0,.p (.v (.string ⟨#[]⟩)),ic 0,.p (.v (.complex .f64 0 0)),.own 2],.rows 0 [],.box [ic p.op,.p (.v (.string p.text)),ic p.n,.p (.v (.complex .f64 p.re p.im)),.own 4],.rows r.k r.l]) (fun j r=>r.k=5∧r.l=rows (p.kids.take j)) p.kids.length 1 (by omega) (fun j r hj1 hj hI ih=>?_) (fun r hI=>?_) ⟨_,_⟩ ⟨rfl,e1⟩
   ·obtain ⟨rk,rl⟩:=r
    obtain ⟨rfl,rfl⟩:=hI
    have q1:ltI (j:Int) (lenL (lrows p.kids))=true:=by rw [len_lrows,ltI_t]; omega
    have q2:=lenB_lrows hj
    have hk:=size_kid hj
    have hlr:(rows (p.kids.take j)).length≤1000:=by rw [rows_eq,List.length_map,List.length_take]; omega
    have e3:=rows_take hj
    refine loop_intro hX ?_
    repeat' ((conv=>whnf); first | exact hQ | refine eqv_id ?_ | refine Two.l ?_ | refine ⟨by kernel_rfl,?_⟩ | refine bct (by assumption) ?_ | refine bcf (by assumption) ?_ | refine bcf (nt (by assumption)) ?_ | refine bct (nf (by assumption)) ?_ | (rw [at_lrows hj]) | refine lpred_ok hX N (p:=p.kids[j]) (by omega) (by omega) (ok.kid hj) ?_ | refine bct (room3 (Nat.le_trans hlr (by decide)) rfl rfl rfl rfl) ?_ | (rw [wrS (by omega)]; exact ih ⟨_,_⟩ ⟨rfl,e3⟩))
   ·obtain ⟨rk,rl⟩:=r
    obtain ⟨rfl,rfl⟩:=hI
    have q1:ltI (p.kids.length:Int) (lenL (lrows p.kids))=false:=by rw [len_lrows,ltI_f]; omega
    rw [List.take_length]
    refine loop_intro hX ?_
    repeat' ((conv=>whnf); first | exact hQ | refine eqv_id ?_ | refine Two.l ?_ | refine ⟨by kernel_rfl,?_⟩ | refine bct (by assumption) ?_ | refine bcf (by assumption) ?_ | refine bcf (nt (by assumption)) ?_ | refine bct (nf (by assumption)) ?_)
  ·have q1:ltI 0 (lenL (lrows p.kids))=false:=by rw [len_lrows,ltI_f]; omega
   have e:p.kids=[]:=List.eq_nil_of_length_eq_zero (by omega)
   have e2:rows p.kids=[]:=by rw [e,rows_eq]; rfl
   simp only [Pred.a,Pred.cs,e2] at hQ
   repeat' ((conv=>whnf); first | exact hQ | refine eqv_id ?_ | refine Two.l ?_ | refine ⟨by kernel_rfl,?_⟩ | refine bct (by assumption) ?_ | refine bcf (by assumption) ?_ | refine bcf (nt (by assumption)) ?_ | refine bct (nf (by assumption)) ?_)
mutual
def sameP:Pred→Pred→Bool
 | .mk a t n x y ks,q=>eqI a q.op&&(eqS t q.text&&(eqI n q.n&&((eqFl .f64 x q.re&&eqFl .f64 y q.im)&&sameL ks q.kids)))
def sameL:List Pred→List Pred→Bool
 | [],[]=>true
 | k::ks,m::ms=>sameP k m&&sameL ks ms
 | [],_::_=>false
 | _::_,[]=>false
end
theorem sameP_eq (p q:Pred):sameP p q=(eqI p.op q.op&&(eqS p.text q.text&&(eqI p.n q.n&&((eqFl .f64 p.re q.re&&eqFl .f64 p.im q.im)&&sameL p.kids q.kids)))):=by cases p; rw [sameP]; rfl
theorem sameL_of:∀ {l m:List Pred} (hlen:l.length=m.length),(∀ j (h:j < l.length),sameP l[j] (m[j]'(by omega))=true)→sameL l m=true
 | [],[],_,_=>by rw [sameL]
 | k::ks,m::ms,hl,h=>by
  rw [sameL,Bool.and_eq_true]
  exact ⟨h 0 (by simp),sameL_of (by simpa using hl) fun j hj=>h (j + 1) (by simpa using hj)⟩
 | [],_::_,hl,_=>by simp at hl
 | _::_,[],hl,_=>by simp at hl
theorem sameL_len:∀ {l m:List Pred},l.length≠m.length→sameL l m=false
 | [],[],h=>absurd rfl h
 | k::ks,m::ms,h=>by rw [sameL,sameL_len (l:=ks) (m:=ms) (by simpa using h),Bool.and_false]
 | [],_::_,_=>by rw [sameL]
 | _::_,[],_=>by rw [sameL]
theorem sameL_bad:∀ {l m:List Pred} (hlen:l.length=m.length) {j:Nat} (h:j < l.length),sameP l[j] (m[j]'(by omega))=false→sameL l m=false
 | k::ks,m::ms,hl,0,_,h=>by rw [sameL]; simp only [List.getElem_cons_zero] at h; rw [h]; rfl
 | k::ks,m::ms,hl,j + 1,hj,h=>by rw [sameL,sameL_bad (l:=ks) (m:=ms) (by simpa using hl) (j:=j) (by simpa using hj) h,Bool.and_false]
theorem rsame_pred_ok {X:Task→Prop} (hX:Closed X):∀ (N:Nat) {p q:Pred} {Q:A→List Blk→Prop},p.size≤N→p.Ok→Q (bv (sameP p q)) []→X (.call 68 [p.a,q.a] [] Q)
 | 0,p,_,_,h,_,_=>absurd h (by have:=size_pos p; omega)
 | N + 1,p,q,Q,h,ok,hQ=>by
  by_cases hlen:p.kids.length=q.kids.length
  rotate_left
  ·have hf:sameP p q=false:=by rw [sameP_eq,sameL_len hlen]; simp
   have q5:eqI (lenL (rows p.kids)) (lenL (rows q.kids))=false:=by rw [len_rows,len_rows,eqI_f]; omega
   refine call_intro hX Tryz.func68 rfl rfl ?_
   repeat' ((conv=>whnf); first | exact hQ | refine eqv_id ?_ | refine Two.l ?_ | refine ⟨by kernel_rfl,?_⟩ | refine bct (by assumption) ?_ | refine bcf (by assumption) ?_ | refine bcf (nt (by assumption)) ?_ | refine bct (nf (by assumption)) ?_ | (exact Qb hQ hf) | refine bc (fun _=>?_) (fun _=>?_))
  have q5:eqI (lenL (rows p.kids)) (lenL (rows q.kids))=true:=by rw [len_rows,len_rows,eqI_t]; omega
  refine call_intro hX Tryz.func68 rfl rfl ?_
  repeat' ((conv=>whnf); first | exact hQ | refine eqv_id ?_ | refine Two.l ?_ | refine ⟨by kernel_rfl,?_⟩ | refine bct (by assumption) ?_ | refine bcf (by assumption) ?_ | refine bcf (nt (by assumption)) ?_ | refine bct (nf (by assumption)) ?_ | (refine Qb hQ ?_; rw [sameP_eq]; cases h7:eqFl .f64 p.re q.re<;>cases h8:eqFl .f64 p.im q.im<;>simp_all; done) | refine bc (fun _=>?_) (fun _=>?_))
  have hln:=ok.len
  have hk:=fun (j:Nat) (hj:j < p.kids.length)=>size_kid hj
  refine range_loop (fun j (_:Unit)=>pad [(2,.one (.ptr 0 0)),(0,.one (.ptr 1 0)),(1,iv (j:Int))] 67) (fun _ _=>[.box p.cs,.box q.cs]) (fun j _=>∀ i (hi:i < p.kids.length),i < j→sameP p.kids[i] (q.kids[i]'(by omega))=true) p.kids.length (fun j st hj hI ih=>?_) (fun st hI=>?_) () (fun i hi h=>absurd h (Nat.not_lt_zero _))
  ·have q1:ltI (j:Int) (lenL (rows p.kids))=true:=by rw [len_rows,ltI_t]; omega
   have q2:=lenB_rows hj
   have hj':j < q.kids.length:=by omega
   have q3:=lenB_rows hj'
   have hk:=hk j hj
   refine loop_intro hX ?_
   cases hs:sameP p.kids[j] q.kids[j] with
   | true=>repeat' ((conv=>whnf); first | exact hQ | refine eqv_id ?_ | refine Two.l ?_ | refine ⟨by kernel_rfl,?_⟩ | refine bct (by assumption) ?_ | refine bcf (by assumption) ?_ | refine bcf (nt (by assumption)) ?_ | refine bct (nf (by assumption)) ?_ | (rw [at_rows hj]) | (rw [at_rows hj']) | (refine rsame_pred_ok hX N (p:=p.kids[j]) (q:=q.kids[j]) (by omega) (ok.kid hj) ?_; rw [hs]) | (rw [wrS (by omega)]; refine ih () (fun i hi hij=>?_); rcases Nat.lt_succ_iff_lt_or_eq.1 hij with h' | rfl; exact hI i hi h'; exact hs))
   | false=>repeat' ((conv=>whnf); first | exact hQ | refine eqv_id ?_ | refine Two.l ?_ | refine ⟨by kernel_rfl,?_⟩ | refine bct (by assumption) ?_ | refine bcf (by assumption) ?_ | refine bcf (nt (by assumption)) ?_ | refine bct (nf (by assumption)) ?_ | (exact Qb hQ (by rw [sameP_eq,sameL_bad hlen hj hs]; simp)) | (rw [at_rows hj]) | (rw [at_rows hj']) | (refine rsame_pred_ok hX N (p:=p.kids[j]) (q:=q.kids[j]) (by omega) (ok.kid hj) ?_; rw [hs]))
  ·have q1:ltI (p.kids.length:Int) (lenL (rows p.kids))=false:=by rw [len_rows,ltI_f]; omega
   have hs:=sameL_of hlen (fun j hj=>hI j hj hj)
   refine loop_intro hX ?_
   repeat' ((conv=>whnf); first | exact hQ | refine eqv_id ?_ | refine Two.l ?_ | refine ⟨by kernel_rfl,?_⟩ | refine bct (by assumption) ?_ | refine bcf (by assumption) ?_ | refine bcf (nt (by assumption)) ?_ | refine bct (nf (by assumption)) ?_ | (refine Qb hQ ?_; rw [sameP_eq,hs]; simp_all; done))
attribute [irreducible] sameP sameL leftV
end Go.Proofs.YtidkmoohgadjkaaGreat
set_option maxHeartbeats 4000000
namespace Go.Proofs.YtidkmoohgadjkaaGreat
open Go E
structure V8 where
 x0:Int
 x1:Int
 x2:Int
 x3:Int
 x4:Int
 x5:Int
 x6:Int
 x7:Int
abbrev V8.cells (v:V8):List C:=[ic v.x0,ic v.x1,ic v.x2,ic v.x3,ic v.x4,ic v.x5,ic v.x6,ic v.x7]
abbrev V8.a (v:V8):A:=.agg v.cells
abbrev ver (r c:Int):A:=.agg [ic r,ic c]
def placeV (n:Int):Int:=if n < 1∨8 < n then -1 else n - 1
def V8.at (v:V8) (r:Int):Int:=if r=1 then v.x0 else if r=2 then v.x1 else if r=3 then v.x2 else if r=4 then v.x3 else if r=5 then v.x4 else if r=6 then v.x5 else if r=7 then v.x6 else if r=8 then v.x7 else 0
def V8.put (v:V8) (r c:Int):V8 :=
 if r=1 then { v with x0:=c } else if r=2 then { v with x1:=c } else if r=3 then { v with x2:=c } else if r=4 then { v with x3:=c }
 else if r=5 then { v with x4:=c } else if r=6 then { v with x5:=c } else if r=7 then { v with x6:=c } else if r=8 then { v with x7:=c } else v
def hasV (v:V8) (r c:Int):Bool:=decide (1≤r∧r≤8∧1≤c∧c≤v.at r)
def maxV (a b:V8):V8:=⟨maxI a.x0 b.x0,maxI a.x1 b.x1,maxI a.x2 b.x2,maxI a.x3 b.x3,maxI a.x4 b.x4,maxI a.x5 b.x5,maxI a.x6 b.x6,maxI a.x7 b.x7⟩
def withV (v:V8) (r c:Int):V8:=v.put r (maxI (v.at r) c)
def eq8 (a b:V8):Bool:=andB (eqI a.x0 b.x0) (andB (eqI a.x1 b.x1) (andB (eqI a.x2 b.x2) (andB (eqI a.x3 b.x3) (andB (eqI a.x4 b.x4) (andB (eqI a.x5 b.x5) (andB (eqI a.x6 b.x6) (andB (eqI a.x7 b.x7) true)))))))
theorem r8 (r:Int):(r < 1∨8 < r)∨r=1∨r=2∨r=3∨r=4∨r=5∨r=6∨r=7∨r=8:=by omega
theorem vplace_ok {X:Task→Prop} (hX:Closed X) {n:Int} {Q:A→List Blk→Prop} (hQ:Q (iv (placeV n)) []):X (.call 175 [iv n] [] Q):=by
 refine call_intro hX Tryz.func175 rfl rfl ?_
 repeat' ((conv=>whnf); first | refine ⟨by kernel_rfl,?_⟩ | refine eqv_id ?_ | refine Two.l ?_ | refine bct (by assumption) ?_ | refine bcf (by assumption) ?_ | refine bc (fun _=>?_) (fun _=>?_))
 all_goals (conv=>whnf)
 all_goals (refine Qa hQ ?_; simp only [ltI_t,ltI_f] at *; unfold placeV)
 ·rw [if_pos (by omega)]
 ·rw [if_pos (by omega)]
 ·rw [if_neg (by omega),wr64 (by omega) (by omega)]
theorem vmax_ok {X:Task→Prop} (hX:Closed X) {a b:V8} {Q:A→List Blk→Prop} (hQ:Q (maxV a b).a []):X (.call 189 [a.a,b.a] [] Q):=by
 refine call_intro hX Tryz.func189 rfl rfl ?_
 repeat' ((conv=>whnf); first | refine ⟨by kernel_rfl,?_⟩ | refine eqv_id ?_ | refine Two.l ?_ | refine bct (by assumption) ?_ | refine bcf (by assumption) ?_ | refine bc (fun _=>?_) (fun _=>?_) | refine loop_intro hX ?_)
 exact hQ
theorem placeV_out {n:Int} (h:n < 1∨8 < n):placeV n = -1:=if_pos h
theorem vhas_ok {X:Task→Prop} (hX:Closed X) {v:V8} {r c:Int} {Q:A→List Blk→Prop} (hQ:Q (bv (hasV v r c)) []):X (.call 109 [v.a,ver r c] [] Q):=by
 refine call_intro hX Tryz.func109 rfl rfl ?_
 rcases r8 r with h | rfl | rfl | rfl | rfl | rfl | rfl | rfl | rfl
 ·(conv=>whnf)
  refine vplace_ok hX ?_
  rw [placeV_out h]
  repeat' ((conv=>whnf); first | refine ⟨by kernel_rfl,?_⟩ | refine eqv_id ?_ | refine Two.l ?_ | refine bct (by assumption) ?_ | refine bcf (by assumption) ?_ | refine bc (fun _=>?_) (fun _=>?_))
  (conv=>whnf)
  refine Qb hQ ?_
  unfold hasV
  exact decide_eq_false (by omega)
 all_goals
  (conv=>whnf)
  refine vplace_ok hX ?_
  repeat' ((conv=>whnf); first | refine ⟨by kernel_rfl,?_⟩ | refine eqv_id ?_ | refine Two.l ?_ | refine bct (by assumption) ?_ | refine bcf (by assumption) ?_ | refine bc (fun _=>?_) (fun _=>?_))
 all_goals (conv=>whnf)
 all_goals refine Qb hQ ?_
 all_goals (simp only [leI_t,leI_f] at *; simp [hasV,V8.at,leI]; try omega)
theorem vwith_ok {X:Task→Prop} (hX:Closed X) {v:V8} {r c:Int} {Q:A→List Blk→Prop} (hQ:Q (withV v r c).a []):X (.call 169 [v.a,ver r c] [] Q):=by
 refine call_intro hX Tryz.func169 rfl rfl ?_
 rcases r8 r with h | rfl | rfl | rfl | rfl | rfl | rfl | rfl | rfl
 ·(conv=>whnf)
  refine vplace_ok hX ?_
  rw [placeV_out h]
  repeat' ((conv=>whnf); first | refine ⟨by kernel_rfl,?_⟩ | refine eqv_id ?_ | refine Two.l ?_ | refine bct (by assumption) ?_ | refine bcf (by assumption) ?_ | refine bc (fun _=>?_) (fun _=>?_))
  (conv=>whnf)
  refine Qa hQ ?_
  unfold withV V8.put
  rw [if_neg (by omega),if_neg (by omega),if_neg (by omega),if_neg (by omega),if_neg (by omega),if_neg (by omega),if_neg (by omega),if_neg (by omega)]
 all_goals
  (conv=>whnf)
  refine vplace_ok hX ?_
  repeat' ((conv=>whnf); first | refine ⟨by kernel_rfl,?_⟩ | refine eqv_id ?_ | refine Two.l ?_ | refine bct (by assumption) ?_ | refine bcf (by assumption) ?_ | refine bc (fun _=>?_) (fun _=>?_))
 all_goals exact hQ
def mayV (v:V8):Bool:=decide ((0≤v.x0∧v.x0≤1000)∧(0≤v.x1∧v.x1≤1000)∧(0≤v.x2∧v.x2≤1000)∧(0≤v.x3∧v.x3≤1000)∧(0≤v.x4∧v.x4≤1000)∧(0≤v.x5∧v.x5≤1000)∧(0≤v.x6∧v.x6≤1000)∧(0≤v.x7∧v.x7≤1000))
theorem vmay_ok {X:Task→Prop} (hX:Closed X) {v:V8} {Q:A→List Blk→Prop} (hQ:Q (bv (mayV v)) []):X (.call 143 [v.a] [] Q):=by
 refine call_intro hX Tryz.func143 rfl rfl ?_
 repeat' ((conv=>whnf); first | refine ⟨by kernel_rfl,?_⟩ | refine eqv_id ?_ | refine Two.l ?_ | refine bct (by assumption) ?_ | refine bcf (by assumption) ?_ | refine bc (fun _=>?_) (fun _=>?_) | refine loop_intro hX ?_)
 all_goals (conv=>whnf)
 all_goals refine Qb hQ ?_
 all_goals (simp only [ltI_t,ltI_f] at *; unfold mayV; first | exact decide_eq_true (by omega) | exact decide_eq_false (by omega))
theorem le_maxI {x y z:Int}:z≤maxI x y↔z≤x∨z≤y:=by unfold maxI; split<;>omega
theorem at_max (a b:V8) (r:Int):(maxV a b).at r=maxI (a.at r) (b.at r):=by
 unfold V8.at maxV
 repeat' split
 all_goals first | rfl | simp [maxI]
theorem eq8_iff {a b:V8}:eq8 a b=true↔a.x0=b.x0∧a.x1=b.x1∧a.x2=b.x2∧a.x3=b.x3∧a.x4=b.x4∧a.x5=b.x5∧a.x6=b.x6∧a.x7=b.x7:=by
 simp [eq8,andB,eqI]
theorem has_max (a b:V8) (r c:Int):hasV (maxV a b) r c=(hasV a r c || hasV b r c):=by
 unfold hasV
 rw [at_max,Bool.eq_iff_iff]
 simp [le_maxI]
 omega
theorem at_put (v:V8) (r c:Int) (h:1≤r∧r≤8):(v.put r c).at r=c:=by
 rcases r8 r with h' | rfl | rfl | rfl | rfl | rfl | rfl | rfl | rfl
 ·omega
 all_goals simp [V8.put,V8.at]
theorem has_with (v:V8) (r c:Int):hasV (withV v r c) r c=decide (1≤r∧r≤8∧1≤c):=by
 unfold hasV withV
 by_cases h:1≤r∧r≤8
 ·rw [at_put _ _ _ h,Bool.eq_iff_iff]; simp [le_maxI]
 ·rw [decide_eq_false (by omega),decide_eq_false (by omega)]
section
variable {X:Task→Prop} (hX:Closed X) {Q:A→List Blk→Prop}
include hX
end
section
variable {a b w c m:V8} {r n:Int}
end
section
variable {X:Task→Prop} (hX:Closed X) {a b:V8} {K:Ex→List A→List Blk→Prop}
include hX
abbrev refMaxAt (X:Task→Prop) (a b o:V8) (i:Int) (K:Ex→List A→List Blk→Prop):Prop :=
 X (.loop 191 0 (loopN Tryz.f191 0) (pad [(2,.one (.ptr 0 0)),(0,.one (.ptr 1 0)),(0,.one (.ptr 2 0)),(0,.one (.ptr 3 0)),(0,iv i)] 22) [.box a.cells,.box b.cells,.box [ic 0,ic 0,ic 0,ic 0,ic 0,ic 0,ic 0,ic 0],.box o.cells] K)
abbrev refMaxEnd (a b o:V8) (K:Ex→List A→List Blk→Prop):Prop :=
 K (.exit 0) (pad [(2,.one (.ptr 0 0)),(0,.one (.ptr 1 0)),(0,.one (.ptr 2 0)),(0,.one (.ptr 3 0)),(0,iv 8),(0,iv 8),(0,bv false)] 20) [.box a.cells,.box b.cells,.box [ic 0,ic 0,ic 0,ic 0,ic 0,ic 0,ic 0,ic 0],.box o.cells]
end
end Go.Proofs.YtidkmoohgadjkaaGreat
namespace Go.Proofs.YtidkmoohgadjkaaGreat
open Go E
abbrev V8.row (v:V8):List PC:=[ip v.x0,ip v.x1,ip v.x2,ip v.x3,ip v.x4,ip v.x5,ip v.x6,ip v.x7]
structure Ver where
 r:Int
 c:Int
abbrev Ver.row (v:Ver):List PC:=[ip v.r,ip v.c]
structure Frag where
 ids:List ByteArray
 vec:V8
abbrev Frag.row (x:Frag):List PC:=[.sl (x.ids.map srw),ip x.vec.x0,ip x.vec.x1,ip x.vec.x2,ip x.vec.x3,ip x.vec.x4,ip x.vec.x5,ip x.vec.x6,ip x.vec.x7]
structure Know where
 star:V8
 l:List Frag
abbrev Know.row (x:Know):List PC:=[ip x.star.x0,ip x.star.x1,ip x.star.x2,ip x.star.x3,ip x.star.x4,ip x.star.x5,ip x.star.x6,ip x.star.x7,.sl (x.l.map Frag.row)]
structure Has where
 id:ByteArray
 vr:Int
 vc:Int
 stamp:Int
abbrev Has.row (x:Has):List PC:=[.v (.string x.id),ip x.vr,ip x.vc,ip x.stamp]
structure Entry where
 item:Item
 goes:Bool
 nr:Int
 nc:Int
abbrev Entry.row (x:Entry):List PC:=[.v (.string x.item.id),ip x.item.vr,ip x.item.vc,ip x.item.stamp,.v (.string x.item.kind),ip x.item.num,.v (.complex .f64 x.item.re x.item.im),.v (.bool x.item.dead),.v (.bool x.goes),ip x.nr,ip x.nc]
structure State where
 r:Int
 f:Pred
 store:List Item
 out:List Item
 k:Know
 count:Int
 clock:Int
 epoch:Int
structure Msg where
 kind:Int
 src:Int
 dst:Int
 sid:Int
 turn:Int
 f:Pred
 k:Know
 have_:List Has
 n:Int
 l:List Entry
 star:Bool
structure Sess where
 sid:Int
 with_:Int
 epoch:Int
 turn:Int
 got:List Int
 bad:Bool
 told:Bool
 over:Bool
 n:Int
 k:Know
 l:List Entry
structure Sit where
 r:Int
 f:Pred
 store:List Item
 out:List Item
 k:Know
 count:Int
 clock:Int
 epoch:Int
structure Line where
 item:Item
 goes:Bool
 r:Int
 c:Int
abbrev Line.row (x:Line):List PC:=[.v (.string x.item.id),ip x.item.vr,ip x.item.vc,ip x.item.stamp,.v (.string x.item.kind),ip x.item.num,.v (.float .f64 x.item.re),.v (.float .f64 x.item.im),.v (.bool x.item.dead),.v (.bool x.goes),ip x.r,ip x.c]
structure Note where
 kind:Int
 src:Int
 dst:Int
 sid:Int
 turn:Int
 f:Pred
 k:Know
 have_:List Has
 n:Int
 l:List Line
 star:Bool
abbrev V8.cs (v:V8):List C:=[ic v.x0,ic v.x1,ic v.x2,ic v.x3,ic v.x4,ic v.x5,ic v.x6,ic v.x7]
abbrev Ver.cs (v:Ver):List C:=[ic v.r,ic v.c]
abbrev Frag.cs (x:Frag):List C:=[.p (.sl (x.ids.map srw)),ic x.vec.x0,ic x.vec.x1,ic x.vec.x2,ic x.vec.x3,ic x.vec.x4,ic x.vec.x5,ic x.vec.x6,ic x.vec.x7]
abbrev Know.cs (x:Know):List C:=[ic x.star.x0,ic x.star.x1,ic x.star.x2,ic x.star.x3,ic x.star.x4,ic x.star.x5,ic x.star.x6,ic x.star.x7,.p (.sl (x.l.map Frag.row))]
abbrev Has.cs (x:Has):List C:=[.p (.v (.string x.id)),ic x.vr,ic x.vc,ic x.stamp]
abbrev Entry.cs (x:Entry):List C:=[.p (.v (.string x.item.id)),ic x.item.vr,ic x.item.vc,ic x.item.stamp,.p (.v (.string x.item.kind)),ic x.item.num,.p (.v (.complex .f64 x.item.re x.item.im)),.p (.v (.bool x.item.dead)),.p (.v (.bool x.goes)),ic x.nr,ic x.nc]
abbrev State.cs (x:State):List C:=[ic x.r,ic x.f.op,.p (.v (.string x.f.text)),ic x.f.n,.p (.v (.complex .f64 x.f.re x.f.im)),.p (.sl (Pred.rows x.f.kids)),.p (.sl (x.store.map Item.row)),.p (.sl (x.out.map Item.row)),
 ic x.k.star.x0,ic x.k.star.x1,ic x.k.star.x2,ic x.k.star.x3,ic x.k.star.x4,ic x.k.star.x5,ic x.k.star.x6,ic x.k.star.x7,.p (.sl (x.k.l.map Frag.row)),ic x.count,ic x.clock,ic x.epoch]
abbrev Msg.cs (x:Msg):List C:=[ic x.kind,ic x.src,ic x.dst,ic x.sid,ic x.turn,ic x.f.op,.p (.v (.string x.f.text)),ic x.f.n,.p (.v (.complex .f64 x.f.re x.f.im)),.p (.sl (Pred.rows x.f.kids)),
 ic x.k.star.x0,ic x.k.star.x1,ic x.k.star.x2,ic x.k.star.x3,ic x.k.star.x4,ic x.k.star.x5,ic x.k.star.x6,ic x.k.star.x7,.p (.sl (x.k.l.map Frag.row)),.p (.sl (x.have_.map Has.row)),ic x.n,.p (.sl (x.l.map Entry.row)),.p (.v (.bool x.star))]
abbrev Sess.cs (x:Sess):List C:=[ic x.sid,ic x.with_,ic x.epoch,ic x.turn,.p (.sl (x.got.map irw)),.p (.v (.bool x.bad)),.p (.v (.bool x.told)),.p (.v (.bool x.over)),ic x.n,
 ic x.k.star.x0,ic x.k.star.x1,ic x.k.star.x2,ic x.k.star.x3,ic x.k.star.x4,ic x.k.star.x5,ic x.k.star.x6,ic x.k.star.x7,.p (.sl (x.k.l.map Frag.row)),.p (.sl (x.l.map Entry.row))]
structure Deed9 where
 what:Int
 id:ByteArray
 kind:ByteArray
 num:Int
 re:Nat
 im:Nat
 f:Pred
abbrev Deed9.row (x:Deed9):List PC:=[ip x.what,.v (.string x.id),.v (.string x.kind),ip x.num,.v (.float .f64 x.re),.v (.float .f64 x.im),ip x.f.op,.v (.string x.f.text),ip x.f.n,.v (.float .f64 x.f.re),.v (.float .f64 x.f.im),.sl (Pred.lrows x.f.kids)]
structure Deed10 where
 what:Int
 n:Int
 x:Item
 old:Ver
 new:Ver
 d:Deed9
abbrev Deed10.row (y:Deed10):List PC:=[ip y.what,ip y.n,.v (.string y.x.id),ip y.x.vr,ip y.x.vc,ip y.x.stamp,.v (.string y.x.kind),ip y.x.num,.v (.float .f64 y.x.re),.v (.float .f64 y.x.im),.v (.bool y.x.dead),ip y.old.r,ip y.old.c,ip y.new.r,ip y.new.c,
 ip y.d.what,.v (.string y.d.id),.v (.string y.d.kind),ip y.d.num,.v (.float .f64 y.d.re),.v (.float .f64 y.d.im),ip y.d.f.op,.v (.string y.d.f.text),ip y.d.f.n,.v (.float .f64 y.d.f.re),.v (.float .f64 y.d.f.im),.sl (Pred.lrows y.d.f.kids)]
structure Talk where
 sid:Int
 with_:Int
 epoch:Int
 turn:Int
 got:List Int
 bad:Bool
 told:Bool
 over:Bool
 n:Int
 k:Know
 l:List Line
namespace Msg
abbrev row (x:Msg):List PC:=[ip x.kind,ip x.src,ip x.dst,ip x.sid,ip x.turn,ip x.f.op,.v (.string x.f.text),ip x.f.n,.v (.complex .f64 x.f.re x.f.im),.sl (Pred.rows x.f.kids),
 ip x.k.star.x0,ip x.k.star.x1,ip x.k.star.x2,ip x.k.star.x3,ip x.k.star.x4,ip x.k.star.x5,ip x.k.star.x6,ip x.k.star.x7,.sl (x.k.l.map Frag.row),.sl (x.have_.map Has.row),ip x.n,.sl (x.l.map Entry.row),.v (.bool x.star)]
end Msg
namespace Pred
theorem pmap_len (l:List Pred):lenL (rows l)=(l.length:Int):=len_rows l
theorem pat_in {l:List Pred} {j:Int} {x:Pred} (h:atL l j=some x):lenB (rows l) j=true:=by rw [rows_eq]; exact at_in h
theorem pat_row {l:List Pred} {j:Int} {x:Pred} (h:atL l j=some x):E.rowAt (rows l) j=[ip x.op,.v (.string x.text),ip x.n,.v (.complex .f64 x.re x.im),.sl (rows x.kids)]:=by rw [rows_eq,at_row h,row_eq]
theorem one_rows (x:Pred):rows [x]=[[ip x.op,.v (.string x.text),ip x.n,.v (.complex .f64 x.re x.im),.sl (rows x.kids)]]:=by rw [rows_eq,List.map_cons,row_eq]; rfl
theorem pcat_one (l:List Pred) (x:Pred):catL (rows l) [[ip x.op,.v (.string x.text),ip x.n,.v (.complex .f64 x.re x.im),.sl (rows x.kids)]]=rows (l++[x]):=by rw [←one_rows,rows_eq,rows_eq,rows_eq]; exact cat_map l [x]
theorem proom_map {l:List Pred} {news:List (List PC)} {m b sz k:Nat} (c:roomL l.length m=true) (hn:news.length=m) (hb:Nat.ble b 100000000=true) (h2:rowsOk news sz=true) (h3:(Nat.beq k sz || Nat.beq k 0)=true):(roomFor (rows l) news b&&rowsOk news sz&&(Nat.beq k sz || Nat.beq k 0))=true:=by rw [rows_eq]; exact room_map c hn hb h2 h3
end Pred
end Go.Proofs.YtidkmoohgadjkaaGreat
set_option maxHeartbeats 4000000
namespace Go.Proofs.YtidkmoohgadjkaaGreat
open Go E Pred
theorem eqS_nil (s:ByteArray):eqS s ⟨#[]⟩=decide (s.size=0):=by
 unfold eqS
 rw [Bool.eq_iff_iff,beq_iff_eq,decide_eq_true_iff]
 show s.data.toList=[]↔s.data.size=0
 rw [←Array.length_toList,List.length_eq_zero_iff]
theorem text_eq (s:ByteArray):(eqS s ⟨#[]⟩ || lettersB s 1)=lettersB s 0:=by
 rw [eqS_nil]
 unfold lettersB
 by_cases h:s.size=0
 ·have hb:bytesOf s=[]:=List.eq_nil_of_length_eq_zero (by rw [bytes_len]; exact h)
  have e1:ltI (lenS s) 0=false:=ltI_f.2 (by rw [lenS_def]; omega)
  have e2:ltI 8 (lenS s)=false:=ltI_f.2 (by rw [lenS_def]; omega)
  rw [hb,e1,e2,decide_eq_true h]; rfl
 ·have e1:ltI (lenS s) 0=false:=ltI_f.2 (by rw [lenS_def]; omega)
  have e2:ltI (lenS s) 1=false:=ltI_f.2 (by rw [lenS_def]; omega)
  rw [e1,e2,decide_eq_false h]; rfl
theorem ptext_ok {X:Task→Prop} (hX:Closed X) {s:ByteArray} {Q:A→List Blk→Prop} (hs:s.size≤9223372036854775807) (hQ:Q (bv (lettersB s 0)) []):X (.call 227 [sv s] [] Q):=by
 refine call_intro hX Tryz.func227 rfl rfl ?_
 repeat' ((conv=>whnf); first | exact hQ | refine eqv_id ?_ | refine Two.l ?_ | refine ⟨by kernel_rfl,?_⟩ | refine bct (by assumption) ?_ | refine bcf (by assumption) ?_ | refine bcf (nt (by assumption)) ?_ | refine bct (nf (by assumption)) ?_ | refine name_ok hX hs ?_ | refine bc (fun _=>?_) (fun _=>?_))
 all_goals (conv=>whnf)
 all_goals (refine Qb hQ ?_; rw [←text_eq]; simp_all)
def nearP (x y:Nat) (n:Int):Bool:=placeB x y&&(leI 0 n&&leI n 8000000)
def partB (o:Int) (t:ByteArray) (n:Int) (x y:Nat) (ks:List Pred):Bool :=
 if o=1∨o=2 then ((eqS t ⟨#[]⟩&&(eqI n 0&&(eqFl .f64 x 0&&eqFl .f64 y 0)))&&eqI (lenL (rows ks)) 0)
 else if o=3∨o=4 then (lettersB t 0&&(eqI n 0&&((eqFl .f64 x 0&&eqFl .f64 y 0)&&eqI (lenL (rows ks)) 0)))
 else if o=5∨o=6 then (eqS t ⟨#[]⟩&&(leI (-1000000) n&&(leI n 1000000&&((eqFl .f64 x 0&&eqFl .f64 y 0)&&eqI (lenL (rows ks)) 0))))
 else if o=7 then (eqS t ⟨#[]⟩&&(nearP x y n&&eqI (lenL (rows ks)) 0))
 else if o=8∨o=9 then (eqS t ⟨#[]⟩&&(eqI n 0&&(eqFl .f64 x 0&&eqFl .f64 y 0)))
 else if o=10 then ((eqS t ⟨#[]⟩&&(eqI n 0&&(eqFl .f64 x 0&&eqFl .f64 y 0)))&&eqI (lenL (rows ks)) 1)
 else false
theorem r10 (o:Int):o=1∨o=2∨o=3∨o=4∨o=5∨o=6∨o=7∨o=8∨o=9∨o=10∨(o≠1∧o≠2∧o≠3∧o≠4∧o≠5∧o≠6∧o≠7∧o≠8∧o≠9∧o≠10):=by omega
abbrev prow (o:Int) (t:ByteArray) (n:Int) (x y:Nat) (ks:List Pred):A:=.agg [ic o,.p (.v (.string t)),ic n,.p (.v (.complex .f64 x y)),.p (.sl (rows ks))]
theorem pnear_ok {X:Task→Prop} (hX:Closed X) {o:Int} {t:ByteArray} {n:Int} {x y:Nat} {ks:List Pred} {Q:A→List Blk→Prop} (hQ:Q (bv (nearP x y n)) []):X (.call 228 [prow o t n x y ks] [] Q):=by
 refine call_intro hX Tryz.func228 rfl rfl ?_
 repeat' ((conv=>whnf); first | exact hQ | refine eqv_id ?_ | refine Two.l ?_ | refine ⟨by kernel_rfl,?_⟩ | refine bct (by assumption) ?_ | refine bcf (by assumption) ?_ | refine bcf (nt (by assumption)) ?_ | refine bct (nf (by assumption)) ?_ | refine place_may_ok hX ?_ | refine bc (fun _=>?_) (fun _=>?_))
 all_goals (conv=>whnf)
 all_goals (refine Qb hQ ?_; unfold nearP; simp_all)
theorem part_raw {X:Task→Prop} (hX:Closed X) {o:Int} {t:ByteArray} {n:Int} {x y:Nat} {ks:List Pred} {Q:A→List Blk→Prop} (ht:t.size≤9223372036854775807) (hQ:Q (bv (partB o t n x y ks)) []):X (.call 196 [prow o t n x y ks] [] Q):=by
 refine call_intro hX Tryz.func196 rfl rfl ?_
 rcases r10 o with rfl | rfl | rfl | rfl | rfl | rfl | rfl | rfl | rfl | rfl | ⟨n1,n2,n3,n4,n5,n6,n7,n8,n9,n10⟩
 rotate_right
 ·have e1:eqI o 1=false:=eqI_f.2 n1
  have e2:eqI o 2=false:=eqI_f.2 n2
  have e3:eqI o 3=false:=eqI_f.2 n3
  have e4:eqI o 4=false:=eqI_f.2 n4
  have e5:eqI o 5=false:=eqI_f.2 n5
  have e6:eqI o 6=false:=eqI_f.2 n6
  have e7:eqI o 7=false:=eqI_f.2 n7
  have e8:eqI o 8=false:=eqI_f.2 n8
  have e9:eqI o 9=false:=eqI_f.2 n9
  have e10:eqI o 10=false:=eqI_f.2 n10
  repeat' ((conv=>whnf); first | exact hQ | refine eqv_id ?_ | refine Two.l ?_ | refine ⟨by kernel_rfl,?_⟩ | refine bct (by assumption) ?_ | refine bcf (by assumption) ?_ | refine bcf (nt (by assumption)) ?_ | refine bct (nf (by assumption)) ?_ | (refine Qb hQ ?_; unfold partB; simp [*]; done) | refine bc (fun _=>?_) (fun _=>?_))
 all_goals
  repeat' ((conv=>whnf); first | exact hQ | refine eqv_id ?_ | refine Two.l ?_ | refine ⟨by kernel_rfl,?_⟩ | refine bct (by assumption) ?_ | refine bcf (by assumption) ?_ | refine bcf (nt (by assumption)) ?_ | refine bct (nf (by assumption)) ?_ | (refine Qb hQ ?_; unfold partB; simp [*]; done) | (refine Qb hQ ?_; unfold partB; simp_all; done) | refine ptext_ok hX ht ?_ | refine pnear_ok hX ?_ | refine bc (fun _=>?_) (fun _=>?_))
mutual
def fitsP:Pred→Bool
 | .mk o t n x y ks=>partB o t n x y ks&&fitsL ks
def fitsL:List Pred→Bool
 | []=>true
 | k::ks=>fitsP k&&fitsL ks
end
theorem fitsP_eq (p:Pred):fitsP p=(partB p.op p.text p.n p.re p.im p.kids&&fitsL p.kids):=by cases p; rw [fitsP]; rfl
theorem fitsL_nil:fitsL []=true:=by rw [fitsL]
theorem fitsL_app (l m:List Pred):fitsL (l++m)=(fitsL l&&fitsL m):=by
 induction l with
 | nil=>rw [fitsL_nil]; simp
 | cons a l ih=>rw [List.cons_append,fitsL,fitsL,ih,Bool.and_assoc]
theorem fitsL_take {l:List Pred} {j:Nat} (h:j < l.length):fitsL (l.take (j + 1))=(fitsL (l.take j)&&fitsP l[j]):=by
 rw [List.take_succ_eq_append_getElem h,fitsL_app]
 congr 1
 rw [fitsL,fitsL_nil,Bool.and_true]
theorem fitsL_mem {l : List Pred} (h : fitsL l = true) {k : Pred} (hk : k ∈ l) : fitsP k = true := by
  induction l with
  | nil => cases hk
  | cons a l ih => rw [fitsL, Bool.and_eq_true] at h; rcases List.mem_cons.1 hk with rfl | hk
                   · exact h.1
                   · exact ih h.2 hk
attribute [irreducible] partB nearP fitsP fitsL
theorem ppart_ok {X:Task→Prop} (hX:Closed X) {p:Pred} {Q:A→List Blk→Prop} (ok:p.Ok) (hQ:Q (bv (partB p.op p.text p.n p.re p.im p.kids)) []):X (.call 196 [p.a] [] Q):=part_raw hX ok.text hQ
def mayP (p:Pred):Bool:=decide (p.size≤30)&&(decide (p.depth≤6)&&fitsP p)
def goodP (p:Pred) (d m:Nat):Bool:=fitsP p&&(decide (p.size≤m)&&decide (p.depth≤d))
theorem pmay_ok {X:Task→Prop} (hX:Closed X):∀ (N:Nat) {p:Pred} {d m:Nat} {Q:A→List Blk→Prop},p.size≤N→p.Ok→d≤1000→m≤1000→(goodP p d m=true→Q (bv true) [.box [ic ((m - p.size:Nat):Int)]])→(goodP p d m=false→∀ l:Int,Q (bv false) [.box [ic l]])→X (.call 142 [p.a,iv (d:Int),.one (.ptr 0 0)] [.box [ic (m:Int)]] Q)
 | 0,p,_,_,_,h,_,_,_,_,_=>absurd h (by have:=size_pos p; omega)
 | N + 1,p,d,m,Q,h,ok,hd,hm,hQ,hF=>by
  have hsz:=size_eq p
  have hde:=depth_eq p
  have hft:=fitsP_eq p
  have hln:=ok.len
  refine call_intro hX Tryz.func142 rfl rfl ?_
  by_cases h0:d=0∨m=0∨partB p.op p.text p.n p.re p.im p.kids=false
  ·have hg:goodP p d m=false:=by
    unfold goodP
    rcases h0 with rfl | rfl | h0
    ·rw [decide_eq_false (p:=p.depth≤0) (by omega)]; simp
    ·rw [decide_eq_false (p:=p.size≤0) (by omega)]; simp
    ·rw [hft,h0]; rfl
   have hF:=hF hg
   by_cases hd0:d=0
   ·have q1:eqI (d:Int) 0=true:=eqI_t.2 (by omega)
    repeat' ((conv=>whnf); first | exact hQ | refine eqv_id ?_ | refine Two.l ?_ | refine ⟨by kernel_rfl,?_⟩ | refine bct (by assumption) ?_ | refine bcf (by assumption) ?_ | refine bcf (nt (by assumption)) ?_ | refine bct (nf (by assumption)) ?_ | (exact hF _))
   ·have q1:eqI (d:Int) 0=false:=eqI_f.2 (by omega)
    by_cases hm0:m=0
    ·have q2:eqI (m:Int) 0=true:=eqI_t.2 (by omega)
     repeat' ((conv=>whnf); first | exact hQ | refine eqv_id ?_ | refine Two.l ?_ | refine ⟨by kernel_rfl,?_⟩ | refine bct (by assumption) ?_ | refine bcf (by assumption) ?_ | refine bcf (nt (by assumption)) ?_ | refine bct (nf (by assumption)) ?_ | (exact hF _))
    ·have q2:eqI (m:Int) 0=false:=eqI_f.2 (by omega)
     have h0:partB p.op p.text p.n p.re p.im p.kids=false:=(h0.resolve_left hd0).resolve_left hm0
     repeat' ((conv=>whnf); first | exact hQ | refine eqv_id ?_ | refine Two.l ?_ | refine ⟨by kernel_rfl,?_⟩ | refine bct (by assumption) ?_ | refine bcf (by assumption) ?_ | refine bcf (nt (by assumption)) ?_ | refine bct (nf (by assumption)) ?_ | (exact hF _) | (refine ppart_ok hX ok ?_; rw [h0]))
  ·have hd0:d≠0:=fun h=>h0 (.inl h)
   have hm0:m≠0:=fun h=>h0 (.inr (.inl h))
   have hp:partB p.op p.text p.n p.re p.im p.kids=true:=by
    cases h:partB p.op p.text p.n p.re p.im p.kids with
    | true=>rfl
    | false=>exact absurd (.inr (.inr h)) h0
   have q1:eqI (d:Int) 0=false:=eqI_f.2 (by omega)
   have q2:eqI (m:Int) 0=false:=eqI_f.2 (by omega)
   repeat' ((conv=>whnf); first | exact hQ | refine eqv_id ?_ | refine Two.l ?_ | refine ⟨by kernel_rfl,?_⟩ | refine bct (by assumption) ?_ | refine bcf (by assumption) ?_ | refine bcf (nt (by assumption)) ?_ | refine bct (nf (by assumption)) ?_ | (refine ppart_ok hX ok ?_; rw [hp]))
   (conv=>whnf)
   refine range_loop (fun j (_:Int)=>pad [(1,iv (d:Int)),(0,.one (.ptr 0 0)),(25,sl (rows p.kids)),(0,iv (lenL (rows p.kids))),(0,iv (j:Int))] 10) (fun _ l=>[.box [ic l]]) (fun j l=>l=((m - 1 - sizes (p.kids.take j):Nat):Int)∧fitsL (p.kids.take j)=true∧sizes (p.kids.take j)≤m - 1∧depths (p.kids.take j)≤d - 1) p.kids.length (fun j l hj hI ih=>?_) (fun l hI=>?_) _ ⟨by rw [wr64 (by omega) (by omega),List.take_zero,sizes_nil]; omega,by rw [List.take_zero,fitsL_nil],by rw [List.take_zero,sizes_nil]; omega,by rw [List.take_zero,depths_nil]; omega⟩
   ·obtain ⟨rfl,hI1,hI2,hI3⟩:=hI
    have q1:ltI (j:Int) (lenL (rows p.kids))=true:=by rw [len_rows,ltI_t]; omega
    have q2:=lenB_rows hj
    have hk:=size_kid hj
    have ht:=fitsL_take hj
    have hs:=take_sizes hj
    have hdp:=take_depths hj
    have hsl:=take_sizes_le p.kids (j + 1)
    have hdm:=depth_mem (List.getElem_mem hj)
    have ew:wr .i64 ((d:Int) - 1)=((d - 1:Nat):Int):=by rw [wr64 (by omega) (by omega)]; omega
    refine loop_intro hX ?_
    repeat' ((conv=>whnf); first | exact hQ | refine eqv_id ?_ | refine Two.l ?_ | refine ⟨by kernel_rfl,?_⟩ | refine bct (by assumption) ?_ | refine bcf (by assumption) ?_ | refine bcf (nt (by assumption)) ?_ | refine bct (nf (by assumption)) ?_ | (rw [at_rows hj]) | (rw [ew]; refine pmay_ok hX N (p:=p.kids[j]) (by omega) (ok.kid hj) (by omega) (by omega) (fun hg=>?_) (fun hg l=>?_)))
    ·have hg':=hg
     unfold goodP at hg'
     simp only [Bool.and_eq_true,decide_eq_true_eq] at hg'
     repeat' ((conv=>whnf); first | exact hQ | refine eqv_id ?_ | refine Two.l ?_ | refine ⟨by kernel_rfl,?_⟩ | refine bct (by assumption) ?_ | refine bcf (by assumption) ?_ | refine bcf (nt (by assumption)) ?_ | refine bct (nf (by assumption)) ?_ | (rw [wrS (by omega)]; exact ih _ ⟨by congr 1; omega,by rw [ht,hI1,hg'.1]; rfl,by omega,by omega⟩))
    ·have hgp:goodP p d m=false:=by
      cases hgp:goodP p d m with
      | false=>rfl
      | true =>
       unfold goodP at hgp hg
       simp only [Bool.and_eq_true,decide_eq_true_eq] at hgp
       obtain ⟨g1,g2,g3⟩:=hgp
       rw [hft,Bool.and_eq_true] at g1
       have:=fitsL_mem g1.2 (List.getElem_mem hj)
       rw [this,decide_eq_true (by omega),decide_eq_true (by omega)] at hg
       cases hg
     repeat' ((conv=>whnf); first | exact hQ | refine eqv_id ?_ | refine Two.l ?_ | refine ⟨by kernel_rfl,?_⟩ | refine bct (by assumption) ?_ | refine bcf (by assumption) ?_ | refine bcf (nt (by assumption)) ?_ | refine bct (nf (by assumption)) ?_ | (exact hF hgp _))
   ·obtain ⟨rfl,hI1,hI2,hI3⟩:=hI
    have q1:ltI (p.kids.length:Int) (lenL (rows p.kids))=false:=by rw [len_rows,ltI_f]; omega
    rw [List.take_length] at *
    have hgp:goodP p d m=true:=by
     unfold goodP
     rw [hft,hp,hI1,decide_eq_true (by omega),decide_eq_true (by omega)]; rfl
    have e:m - 1 - sizes p.kids=m - p.size:=by omega
    rw [e]
    have hQ:=hQ hgp
    refine loop_intro hX ?_
    repeat' ((conv=>whnf); first | exact hQ | refine eqv_id ?_ | refine Two.l ?_ | refine ⟨by kernel_rfl,?_⟩ | refine bct (by assumption) ?_ | refine bcf (by assumption) ?_ | refine bcf (nt (by assumption)) ?_ | refine bct (nf (by assumption)) ?_)
theorem good_may (p:Pred):goodP p 6 30=mayP p:=by unfold goodP mayP; rw [Bool.and_comm,Bool.and_assoc]
theorem may_pred_ok {X:Task→Prop} (hX:Closed X) {p:Pred} {Q:A→List Blk→Prop} (ok:p.Ok) (hQ:Q (bv (mayP p)) []):X (.call 72 [p.a] [] Q):=by
 refine call_intro hX Tryz.func72 rfl rfl ?_
 rw [←good_may] at hQ
 repeat' ((conv=>whnf); first | exact hQ | refine eqv_id ?_ | refine Two.l ?_ | refine ⟨by kernel_rfl,?_⟩ | refine bct (by assumption) ?_ | refine bcf (by assumption) ?_ | refine bcf (nt (by assumption)) ?_ | refine bct (nf (by assumption)) ?_ | (refine pmay_ok hX p.size (d:=6) (m:=30) (Nat.le_refl _) ok (by decide) (by decide) (fun hg=>?_) (fun hg l=>?_); all_goals rw [hg] at hQ))
attribute [irreducible] mayP goodP
end Go.Proofs.YtidkmoohgadjkaaGreat
set_option maxHeartbeats 4000000
namespace Go.Proofs.YtidkmoohgadjkaaGreat
open Go E Pred
abbrev pagg (o:Int) (t:ByteArray) (n:Int) (x y:Nat) (r:List (List PC)):A:=.agg [ic o,.p (.v (.string t)),ic n,.p (.v (.complex .f64 x y)),.p (.sl r)]
section
variable {X:Task→Prop} (hX:Closed X) {o:Int} {t:ByteArray} {n:Int} {x y:Nat} {r:List (List PC)} {Q:A→List Blk→Prop}
include hX
end
theorem mk_size (o:Int) (t:ByteArray) (n:Int) (x y:Nat) (ks:List Pred):(Pred.mk o t n x y ks).size=sizes ks + 1:=size_eq _
theorem eqFl_self {x y:Nat} (h:eqFl .f64 x y=true):eqFl .f64 x x=true:=by
 have h':(Ieee.Datum.order (Ieee.double.read x) (Ieee.double.read y) == some .eq)=true:=h
 show (Ieee.Datum.order (Ieee.double.read x) (Ieee.double.read x) == some .eq)=true
 cases hx:Ieee.double.read x with
 | nan s f=>rw [hx] at h'; cases h'
 | infinity s=>cases s<;>rfl
 | number s m i=>rw [order_num]; simp
theorem part_self {o:Int} {t:ByteArray} {n:Int} {x y:Nat} {ks:List Pred} (h:partB o t n x y ks=true):(eqFl .f64 x x&&eqFl .f64 y y)=true:=by
 have key:(eqFl .f64 x 0&&eqFl .f64 y 0)=true∨placeB x y=true:=by
  unfold partB nearP at h
  rcases r10 o with rfl | rfl | rfl | rfl | rfl | rfl | rfl | rfl | rfl | rfl | ⟨n1,n2,n3,n4,n5,n6,n7,n8,n9,n10⟩
  rotate_right
  ·simp [*] at h
  all_goals
   simp at h
   simp [h]
 rcases key with h | h
 ·rw [Bool.and_eq_true] at h ⊢
  exact ⟨eqFl_self h.1,eqFl_self h.2⟩
 ·obtain ⟨⟨w1,_⟩,⟨w2,_⟩⟩:=placeB_ok h
  rw [w1.self,w2.self]; rfl
theorem sameL_refl:∀ (N:Nat) {l:List Pred},sizes l≤N→fitsL l=true→sameL l l=true
 | _,[],_,_=>by rw [sameL]
 | 0,k::ks,h,_=>absurd h (by rw [Pred.sizes]; have:=size_pos k; omega)
 | N + 1,k::ks,h,hs=>by
  rw [Pred.sizes] at h
  rw [fitsL,Bool.and_eq_true] at hs
  have hk:=size_eq k
  have hf:=hs.1
  rw [fitsP_eq,Bool.and_eq_true] at hf
  have h1:=sameL_refl N (l:=k.kids) (by omega) hf.2
  have h2:=sameL_refl N (l:=ks) (by omega) hs.2
  rw [sameL,h2,sameP_eq,h1,part_self hf.1,eqS_refl]
  simp [eqI]
theorem sameP_refl {p:Pred} (h:fitsP p=true):sameP p p=true:=by
 rw [fitsP_eq,Bool.and_eq_true] at h
 rw [sameP_eq,sameL_refl _ (Nat.le_refl _) h.2,part_self h.1,eqS_refl]
 simp [eqI]
theorem mayP_iff {p:Pred}:mayP p=true↔p.size≤30∧p.depth≤6∧fitsP p=true:=by
 unfold mayP; simp only [Bool.and_eq_true,decide_eq_true_eq]
end Go.Proofs.YtidkmoohgadjkaaGreat
set_option maxHeartbeats 4000000
namespace Go.Proofs.YtidkmoohgadjkaaGreat
open Go E Pred
def prefB (s t:ByteArray):Bool:=(bytesOf t).isPrefixOf (bytesOf s)
theorem bytes_sub (s:ByteArray) (n:Nat):bytesOf (subS s 0 n)=(bytesOf s).take n:=by
 unfold bytesOf subS
 rw [ByteArray.data_extract,Array.toList_extract]
 simp
theorem eqS_iff (s t:ByteArray):eqS s t=true↔bytesOf s=bytesOf t:=by unfold eqS bytesOf; exact beq_iff_eq
theorem pref_eq (s t:ByteArray):prefB s t=(leI (lenS t) (lenS s)&&eqS (subS s 0 t.size) t):=by
 unfold prefB
 rw [Bool.eq_iff_iff,Bool.and_eq_true,eqS_iff,bytes_sub,List.isPrefixOf_iff_prefix,leI_t,lenS_def,lenS_def,←bytes_len,←bytes_len]
 constructor
 ·intro h; exact ⟨by have:=h.length_le; omega,(List.prefix_iff_eq_take.1 h).symm⟩
 ·intro h; exact List.prefix_iff_eq_take.2 h.2.symm
theorem slite_ok {X:Task→Prop} (hX:Closed X) {s t:ByteArray} {Q:A→List Blk→Prop} (hQ:Q (bv (prefB s t)) []):X (.call 193 [sv s,sv t] [] Q):=by
 have hp:=pref_eq s t
 refine call_intro hX Tryz.func193 rfl rfl ?_
 cases h1:leI (lenS t) (lenS s) with
 | false=>repeat' ((conv=>whnf); first | exact hQ | refine eqv_id ?_ | refine Two.l ?_ | refine ⟨by kernel_rfl,?_⟩ | refine bct (by assumption) ?_ | refine bcf (by assumption) ?_ | refine bcf (nt (by assumption)) ?_ | refine bct (nf (by assumption)) ?_ | (exact Qb hQ (by rw [hp,h1]; rfl)))
 | true =>
  rw [h1,Bool.true_and] at hp
  have q1:(inC (lenS t) s.size&&leI 0 0&&leI 0 (lenS t))=true:=by
   rw [leI_t,lenS_def,lenS_def] at h1
   have e1:inC (lenS t) s.size=true:=by unfold inC; rw [decide_eq_true_eq,lenS_def]; omega
   have e2:leI 0 (lenS t)=true:=by rw [leI_t,lenS_def]; omega
   rw [e1,e2]; rfl
  repeat' ((conv=>whnf); first | exact hQ | refine eqv_id ?_ | refine Two.l ?_ | refine ⟨by kernel_rfl,?_⟩ | refine bct (by assumption) ?_ | refine bcf (by assumption) ?_ | refine bcf (nt (by assumption)) ?_ | refine bct (nf (by assumption)) ?_ | (exact Qb hQ (by rw [hp]; rfl)))
theorem hasPrefix_ok {X:Task→Prop} (hX:Closed X) {s t:ByteArray} {Q:A→List Blk→Prop} (hQ:Q (bv (prefB s t)) []):X (.call 139 [sv s,sv t] [] Q):=by
 refine call_intro hX Tryz.func139 rfl rfl ?_
 repeat' ((conv=>whnf); first | exact hQ | refine eqv_id ?_ | refine Two.l ?_ | refine ⟨by kernel_rfl,?_⟩ | refine bct (by assumption) ?_ | refine bcf (by assumption) ?_ | refine bcf (nt (by assumption)) ?_ | refine bct (nf (by assumption)) ?_ | refine slite_ok hX ?_)
def idxP {α:Type} (p:α→Bool):List α→Nat→Int
 | [],_ => -1
 | a::l,i=>if p a then (i:Int) else idxP p l (i + 1)
theorem idxP_any {α:Type} (p:α→Bool):∀ (l:List α) (i:Nat),leI 0 (idxP p l i)=l.any p
 | [],i=>rfl
 | a::l,i=>by
  unfold idxP
  cases h:p a with
  | true=>rw [if_pos rfl,List.any_cons,h]; exact leI_t.2 (by omega)
  | false=>rw [if_neg (by simp),List.any_cons,h,idxP_any p l (i + 1)]; rfl
theorem idxP_at {α:Type} {p:α→Bool}:∀ {l:List α} {j:Nat} (h:j < l.length) (i:Nat),(∀ k (hk:k < j),p (l[k]'(by omega))=false)→p l[j]=true→idxP p l i=((i + j:Nat):Int)
 | a::l,0,h,i,_,hp=>by unfold idxP; rw [if_pos (by simpa using hp)]; rfl
 | a::l,j + 1,h,i,hk,hp=>by
  unfold idxP
  have h0:=hk 0 (by omega)
  simp only [List.getElem_cons_zero] at h0
  rw [if_neg (by rw [h0]; simp),idxP_at (l:=l) (j:=j) (by simpa using h) (i + 1) (fun k hk'=>by simpa using hk (k + 1) (by omega)) (by simpa using hp)]
  congr 1; omega
theorem idxP_none {α:Type} {p:α→Bool}:∀ {l:List α} (i:Nat),(∀ k (hk:k < l.length),p l[k]=false)→idxP p l i = -1
 | [],i,_=>rfl
 | a::l,i,h=>by
  unfold idxP
  have h0:=h 0 (by simp)
  simp only [List.getElem_cons_zero] at h0
  rw [if_neg (by rw [h0]; simp)]
  exact idxP_none (i + 1) fun k hk=>by
   have:=h (k + 1) (by simpa using hk)
   simp only [List.getElem_cons_succ] at this
   exact this
section
variable {X:Task→Prop} (hX:Closed X) {g:Nat} {cells:List PC} {ks:List Pred} {P:Pred→Bool} {Q:A→List Blk→Prop}
include hX
theorem indexFunc_ok (hln:ks.length≤9223372036854775807) (hg:∀ (j:Nat) (hj:j < ks.length) (Q':A→List Blk→Prop),Q' (bv (P ks[j])) []→X (.call g [ks[j].a,.one (.rp cells)] [] Q')) (hQ:Q (iv (idxP P ks 0)) []):X (.call 195 [sl (rows ks),.one (.pf g [cells])] [] Q):=by
 refine call_intro hX Tryz.func195 rfl rfl ?_
 repeat' ((conv=>whnf); first | exact hQ | refine eqv_id ?_ | refine Two.l ?_ | refine ⟨by kernel_rfl,?_⟩ | refine bct (by assumption) ?_ | refine bcf (by assumption) ?_ | refine bcf (nt (by assumption)) ?_ | refine bct (nf (by assumption)) ?_)
 refine range_loop (fun j (_:Unit)=>pad [(0,sl (rows ks)),(0,.one (.pf g [cells])),(5,iv (lenL (rows ks))),(0,iv (j:Int))] 10) (fun _ _=>[]) (fun j _=>∀ k (hk:k < ks.length),k < j→P ks[k]=false) ks.length (fun j st hj hI ih=>?_) (fun st hI=>?_) () (fun k hk h=>absurd h (Nat.not_lt_zero _))
 ·have q1:ltI (j:Int) (lenL (rows ks))=true:=by rw [len_rows,ltI_t]; omega
  have q2:=lenB_rows hj
  refine loop_intro hX ?_
  cases hP:P ks[j] with
  | true=>repeat' ((conv=>whnf); first | exact hQ | refine eqv_id ?_ | refine Two.l ?_ | refine ⟨by kernel_rfl,?_⟩ | refine bct (by assumption) ?_ | refine bcf (by assumption) ?_ | refine bcf (nt (by assumption)) ?_ | refine bct (nf (by assumption)) ?_ | (exact Qi hQ (by rw [idxP_at hj 0 (fun k hk=>hI k (by omega) hk) hP,Nat.zero_add])) | refine row_in (at_rows hj) ?_ | refine known bv (hg j hj) hP ?_)
  | false=>repeat' ((conv=>whnf); first | exact hQ | refine eqv_id ?_ | refine Two.l ?_ | refine ⟨by kernel_rfl,?_⟩ | refine bct (by assumption) ?_ | refine bcf (by assumption) ?_ | refine bcf (nt (by assumption)) ?_ | refine bct (nf (by assumption)) ?_ | refine row_in (at_rows hj) ?_ | refine known bv (hg j hj) hP ?_ | (rw [wrS (by omega)]; refine ih () (fun k hk hkj=>?_); rcases Nat.lt_succ_iff_lt_or_eq.1 hkj with h' | rfl; exact hI k hk h'; exact hP))
 ·have q1:ltI (ks.length:Int) (lenL (rows ks))=false:=by rw [len_rows,ltI_f]; omega
  refine loop_intro hX ?_
  repeat' ((conv=>whnf); first | exact hQ | refine eqv_id ?_ | refine Two.l ?_ | refine ⟨by kernel_rfl,?_⟩ | refine bct (by assumption) ?_ | refine bcf (by assumption) ?_ | refine bcf (nt (by assumption)) ?_ | refine bct (nf (by assumption)) ?_ | (exact Qi hQ (idxP_none 0 fun k hk=>hI k hk hk)))
theorem containsFunc_ok (hln:ks.length≤9223372036854775807) (hg:∀ (j:Nat) (hj:j < ks.length) (Q':A→List Blk→Prop),Q' (bv (P ks[j])) []→X (.call g [ks[j].a,.one (.rp cells)] [] Q')) (hQ:Q (bv (ks.any P)) []):X (.call 141 [sl (rows ks),.one (.pf g [cells])] [] Q):=by
 refine call_intro hX Tryz.func141 rfl rfl ?_
 repeat' ((conv=>whnf); first | exact hQ | refine eqv_id ?_ | refine Two.l ?_ | refine ⟨by kernel_rfl,?_⟩ | refine bct (by assumption) ?_ | refine bcf (by assumption) ?_ | refine bcf (nt (by assumption)) ?_ | refine bct (nf (by assumption)) ?_ | (exact Qb hQ (idxP_any P ks 0).symm) | refine indexFunc_ok hX hln hg ?_)
end
mutual
def hasP:Pred→Item→Bool
 | .mk o t n a b ks,x=>if o=1 then true else if o=3 then eqS x.kind t else if o=4 then prefB x.id t else if o=5 then ltI x.num n else if o=6 then leI n x.num
  else if o=7 then nearB x.re x.im a b n else if o=8 then hasAll ks x else if o=9 then hasAny ks x else if o=10 then hasNot ks x else false
def hasAll:List Pred→Item→Bool
 | [],_=>true
 | k::ks,x=>hasP k x&&hasAll ks x
def hasAny:List Pred→Item→Bool
 | [],_=>false
 | k::ks,x=>hasP k x || hasAny ks x
def hasNot:List Pred→Item→Bool
 | [],_=>false
 | k::_,x=>!hasP k x
end
def has0 (o:Int) (t:ByteArray) (n:Int) (a b:Nat) (ks:List Pred) (x:Item):Bool:=if o=1 then true else if o=3 then eqS x.kind t else if o=4 then prefB x.id t else if o=5 then ltI x.num n else if o=6 then leI n x.num
  else if o=7 then nearB x.re x.im a b n else if o=8 then hasAll ks x else if o=9 then hasAny ks x else if o=10 then hasNot ks x else false
theorem hasP_eq (p:Pred) (x:Item):hasP p x=has0 p.op p.text p.n p.re p.im p.kids x:=by cases p; rw [hasP]; rfl
theorem hasAll_eq (ks:List Pred) (x:Item):hasAll ks x=!(ks.any fun k=>!hasP k x):=by
 induction ks with
 | nil=>rw [hasAll]; rfl
 | cons k ks ih=>rw [hasAll,ih,List.any_cons]; simp
theorem hasAny_eq (ks:List Pred) (x:Item):hasAny ks x=ks.any fun k=>hasP k x:=by
 induction ks with
 | nil=>rw [hasAny]; rfl
 | cons k ks ih=>rw [hasAny,ih,List.any_cons]
theorem hasNot_cons {ks:List Pred} {x:Item} (h:0 < ks.length):hasNot ks x=!hasP ks[0] x:=by
 cases ks with
 | nil=>cases h
 | cons k ks=>rw [hasNot]; rfl
theorem hasNot_nil {ks:List Pred} {x:Item} (h:¬ 0 < ks.length):hasNot ks x=false:=by
 cases ks with
 | nil=>rw [hasNot]
 | cons k ks=>simp at h
attribute [irreducible] hasP hasAll hasAny hasNot has0 prefB
section
variable {X:Task→Prop} (hX:Closed X) {k:Pred} {x:Item} {b:Bool} {Q:A→List Blk→Prop}
include hX
theorem has_rp (hk:∀ Q':A→List Blk→Prop,Q' (bv b) []→X (.call 69 [k.a,x.a] [] Q')) (hQ:Q (bv b) []):X (.call 137 [k.a,.one (.rp x.row)] [] Q):=by
 refine call_intro hX Tryz.func137 rfl rfl ?_
 repeat' ((conv=>whnf); first | exact hQ | refine eqv_id ?_ | refine Two.l ?_ | refine ⟨by kernel_rfl,?_⟩ | refine bct (by assumption) ?_ | refine bcf (by assumption) ?_ | refine bcf (nt (by assumption)) ?_ | refine bct (nf (by assumption)) ?_ | refine hk _ ?_)
theorem lacks_rp (hk:∀ Q':A→List Blk→Prop,Q' (bv b) []→X (.call 69 [k.a,x.a] [] Q')) (hQ:Q (bv (!b)) []):X (.call 138 [k.a,.one (.rp x.row)] [] Q):=by
 refine call_intro hX Tryz.func138 rfl rfl ?_
 repeat' ((conv=>whnf); first | exact hQ | refine eqv_id ?_ | refine Two.l ?_ | refine ⟨by kernel_rfl,?_⟩ | refine bct (by assumption) ?_ | refine bcf (by assumption) ?_ | refine bcf (nt (by assumption)) ?_ | refine bct (nf (by assumption)) ?_ | refine hk _ ?_)
theorem lacks_ptr (hk:∀ Q':A→List Blk→Prop,Q' (bv b) []→X (.call 69 [k.a,x.a] [] Q')) (hQ:Q (bv (!b)) [.box x.cs]):X (.call 138 [k.a,.one (.ptr 0 0)] [.box x.cs] Q):=by
 refine call_intro hX Tryz.func138 rfl rfl ?_
 repeat' ((conv=>whnf); first | exact hQ | refine eqv_id ?_ | refine Two.l ?_ | refine ⟨by kernel_rfl,?_⟩ | refine bct (by assumption) ?_ | refine bcf (by assumption) ?_ | refine bcf (nt (by assumption)) ?_ | refine bct (nf (by assumption)) ?_ | refine hk _ ?_)
end
theorem has_ok {X:Task→Prop} (hX:Closed X):∀ (N:Nat) {p:Pred} {x:Item} {Q:A→List Blk→Prop},p.size≤N→p.Ok→x.Ok→Q (bv (hasP p x)) []→X (.call 69 [p.a,x.a] [] Q)
 | 0,p,_,_,h,_,_,_=>absurd h (by have:=size_pos p; omega)
 | N + 1,p,x,Q,h,ok,ox,hQ=>by
  have hln:=ok.len
  have hkid:∀ (j:Nat) (hj:j < p.kids.length) (Q':A→List Blk→Prop),Q' (bv (hasP p.kids[j] x)) []→X (.call 69 [p.kids[j].a,x.a] [] Q'):=fun j hj Q' hQ'=>has_ok hX N (by have:=size_kid hj; omega) (ok.kid hj) ox hQ'
  rw [hasP_eq] at hQ
  refine call_intro hX Tryz.func69 rfl rfl ?_
  clear ok
  simp only [Pred.a,Pred.cs]
  generalize p.op=o at *
  generalize p.text=t at *
  generalize p.n=n at *
  generalize p.re=a at *
  generalize p.im=b at *
  generalize p.kids=ks at *
  rcases r10 o with rfl | rfl | rfl | rfl | rfl | rfl | rfl | rfl | rfl | rfl | ⟨n1,n2,n3,n4,n5,n6,n7,n8,n9,n10⟩
  rotate_right
  ·have e1:eqI o 1=false:=eqI_f.2 n1
   have e3:eqI o 3=false:=eqI_f.2 n3
   have e4:eqI o 4=false:=eqI_f.2 n4
   have e5:eqI o 5=false:=eqI_f.2 n5
   have e6:eqI o 6=false:=eqI_f.2 n6
   have e7:eqI o 7=false:=eqI_f.2 n7
   have e8:eqI o 8=false:=eqI_f.2 n8
   have e9:eqI o 9=false:=eqI_f.2 n9
   have e10:eqI o 10=false:=eqI_f.2 n10
   repeat' ((conv=>whnf); first | exact hQ | refine eqv_id ?_ | refine Two.l ?_ | refine ⟨by kernel_rfl,?_⟩ | refine bct (by assumption) ?_ | refine bcf (by assumption) ?_ | refine bcf (nt (by assumption)) ?_ | refine bct (nf (by assumption)) ?_ | (refine Qb hQ ?_; unfold has0; simp [*]; done))
  rotate_right
  ·by_cases h0:0 < ks.length
   ·have q1:ltI 0 (lenL (rows ks))=true:=by rw [len_rows,ltI_t]; omega
    have q2:lenB (rows ks) 0=true:=lenB_rows h0
    have q3:=at_rows h0
    repeat' ((conv=>whnf); first | exact hQ | refine eqv_id ?_ | refine Two.l ?_ | refine ⟨by kernel_rfl,?_⟩ | refine bct (by assumption) ?_ | refine bcf (by assumption) ?_ | refine bcf (nt (by assumption)) ?_ | refine bct (nf (by assumption)) ?_ | (refine Qb hQ ?_; unfold has0; simp [hasNot_cons h0]; done) | refine row_in q3 ?_ | refine lacks_ptr hX (hkid 0 h0) ?_)
   ·have q1:ltI 0 (lenL (rows ks))=false:=by rw [len_rows,ltI_f]; omega
    repeat' ((conv=>whnf); first | exact hQ | refine eqv_id ?_ | refine Two.l ?_ | refine ⟨by kernel_rfl,?_⟩ | refine bct (by assumption) ?_ | refine bcf (by assumption) ?_ | refine bcf (nt (by assumption)) ?_ | refine bct (nf (by assumption)) ?_ | (refine Qb hQ ?_; unfold has0; simp [hasNot_nil h0]; done))
  rotate_right
  ·repeat' ((conv=>whnf); first | exact hQ | refine eqv_id ?_ | refine Two.l ?_ | refine ⟨by kernel_rfl,?_⟩ | refine bct (by assumption) ?_ | refine bcf (by assumption) ?_ | refine bcf (nt (by assumption)) ?_ | refine bct (nf (by assumption)) ?_ | refine Or.inr (Or.inl ?_) | (refine containsFunc_ok hX (P:=fun k=>hasP k x) hln (fun j hj Q' hQ'=>has_rp hX (hkid j hj) hQ') ?_) | (refine Qb hQ ?_; unfold has0; simp [hasAny_eq]; done))
  rotate_right
  ·repeat' ((conv=>whnf); first | exact hQ | refine eqv_id ?_ | refine Two.l ?_ | refine ⟨by kernel_rfl,?_⟩ | refine bct (by assumption) ?_ | refine bcf (by assumption) ?_ | refine bcf (nt (by assumption)) ?_ | refine bct (nf (by assumption)) ?_ | refine Or.inr (Or.inl ?_) | (refine containsFunc_ok hX (P:=fun k=>!hasP k x) hln (fun j hj Q' hQ'=>lacks_rp hX (hkid j hj) hQ') ?_) | (refine Qb hQ ?_; unfold has0; simp [hasAll_eq]; done))
  all_goals
   repeat' ((conv=>whnf); first | exact hQ | refine eqv_id ?_ | refine Two.l ?_ | refine ⟨by kernel_rfl,?_⟩ | refine bct (by assumption) ?_ | refine bcf (by assumption) ?_ | refine bcf (nt (by assumption)) ?_ | refine bct (nf (by assumption)) ?_ | (refine Qb hQ ?_; unfold has0; simp; done) | refine near_ok hX ?_ | refine hasPrefix_ok hX ?_)
end Go.Proofs.YtidkmoohgadjkaaGreat
set_option maxHeartbeats 4000000
namespace Go.Proofs.YtidkmoohgadjkaaGreat
open Go E Pred
section
variable {X:Task→Prop} (hX:Closed X) {k p q:Pred} {b:Bool} {Q:A→List Blk→Prop}
include hX
end
end Go.Proofs.YtidkmoohgadjkaaGreat
set_option maxHeartbeats 4000000
namespace Go.Proofs.YtidkmoohgadjkaaGreat
open Go E Pred
structure AS where
 a:Bool
 s:Bool
end Go.Proofs.YtidkmoohgadjkaaGreat
set_option maxHeartbeats 4000000
namespace Go.Proofs.YtidkmoohgadjkaaGreat
open Go E Pred
end Go.Proofs.YtidkmoohgadjkaaGreat
namespace Go.Proofs.YtidkmoohgadjkaaGreat
open Go E Pred
abbrev bare (o:Int) (ks:List Pred):Pred:=.mk o ⟨#[]⟩ 0 0 0 ks
def addP (none:Int) (acc:List Pred) (k:Pred):List Pred:=if !eqI k.op none&&!(acc.any fun o=>sameP k o) then acc++[k] else acc
def flatP (o:Int):List Pred→List Pred
 | []=>[]
 | k::ks=>(if eqI k.op o then k.kids else [k])++flatP o ks
structure Plainly (p:Pred):Prop where
 text:bytesOf p.text=bytesOf ⟨#[]⟩
 n:p.n=0
 re:eqFl .f64 p.re 0=true
 im:eqFl .f64 p.im 0=true
end Go.Proofs.YtidkmoohgadjkaaGreat
set_option maxHeartbeats 4000000
namespace Go.Proofs.YtidkmoohgadjkaaGreat
open Go E Pred
section
variable {X:Task→Prop} (hX:Closed X) {k:Pred} {none:Int} {acc:List Pred} {kk:Nat} {Q:A→List Blk→Prop}
include hX
end
end Go.Proofs.YtidkmoohgadjkaaGreat
namespace Go.Proofs.YtidkmoohgadjkaaGreat
open Go E Pred
noncomputable section
open Classical
theorem eq8_b {a b:V8} {v:Bool} (h:eq8 a b=v):andB (eqI a.x0 b.x0) (andB (eqI a.x1 b.x1) (andB (eqI a.x2 b.x2) (andB (eqI a.x3 b.x3) (andB (eqI a.x4 b.x4) (andB (eqI a.x5 b.x5) (andB (eqI a.x6 b.x6) (andB (eqI a.x7 b.x7) true)))))))=v:=h
def vec_Has_s (a:V8) (b:Ver):Option Bool:=some (hasV a b.r b.c)
theorem vec_Has_c {X:Task→Prop} (hX:Closed X) {a:V8} {b:Ver} {r:Bool} {Q:A→List Blk→Prop} (h:vec_Has_s a b=some r) (hQ:Q (.one (.p (.v (.bool r)))) []):X (.call 109 [.agg [ic a.x0,ic a.x1,ic a.x2,ic a.x3,ic a.x4,ic a.x5,ic a.x6,ic a.x7],.agg [ic b.r,ic b.c]] [] Q):=by
 unfold vec_Has_s at h
 injection h with h
 subst h
 exact vhas_ok hX hQ
def vec_With_s (a:V8) (b:Ver):Option V8:=some (withV a b.r b.c)
theorem vec_With_c {X:Task→Prop} (hX:Closed X) {a:V8} {b:Ver} {r:V8} {Q:A→List Blk→Prop} (h:vec_With_s a b=some r) (hQ:Q (.agg [ic r.x0,ic r.x1,ic r.x2,ic r.x3,ic r.x4,ic r.x5,ic r.x6,ic r.x7]) []):X (.call 169 [.agg [ic a.x0,ic a.x1,ic a.x2,ic a.x3,ic a.x4,ic a.x5,ic a.x6,ic a.x7],.agg [ic b.r,ic b.c]] [] Q):=by
 unfold vec_With_s at h
 injection h with h
 subst h
 exact vwith_ok hX hQ
def vec_Max_s (a:V8) (b:V8):Option V8:=some (maxV a b)
theorem vec_Max_c {X:Task→Prop} (hX:Closed X) {a:V8} {b:V8} {r:V8} {Q:A→List Blk→Prop} (h:vec_Max_s a b=some r) (hQ:Q (.agg [ic r.x0,ic r.x1,ic r.x2,ic r.x3,ic r.x4,ic r.x5,ic r.x6,ic r.x7]) []):X (.call 189 [.agg [ic a.x0,ic a.x1,ic a.x2,ic a.x3,ic a.x4,ic a.x5,ic a.x6,ic a.x7],.agg [ic b.x0,ic b.x1,ic b.x2,ic b.x3,ic b.x4,ic b.x5,ic b.x6,ic b.x7]] [] Q):=by
 unfold vec_Max_s at h
 injection h with h
 subst h
 exact vmax_ok hX hQ
def vec_May_s (a:V8):Option Bool:=some (mayV a)
theorem vec_May_c {X:Task→Prop} (hX:Closed X) {a:V8} {r:Bool} {Q:A→List Blk→Prop} (h:vec_May_s a=some r) (hQ:Q (.one (.p (.v (.bool r)))) []):X (.call 143 [.agg [ic a.x0,ic a.x1,ic a.x2,ic a.x3,ic a.x4,ic a.x5,ic a.x6,ic a.x7]] [] Q):=by
 unfold vec_May_s at h
 injection h with h
 subst h
 exact vmay_ok hX hQ
def item_Name_s (a:ByteArray):Option Bool:=chk (decide (a.size≤9223372036854775807)) (some (lettersB a 1))
theorem item_Name_c {X:Task→Prop} (hX:Closed X) {a:ByteArray} {r:Bool} {Q:A→List Blk→Prop} (h:item_Name_s a=some r) (hQ:Q (.one (.p (.v (.bool r)))) []):X (.call 147 [.one (.p (.v (.string a)))] [] Q):=by
 unfold item_Name_s at h
 obtain ⟨d1,h⟩:=chk_some h
 have c1:=of_decide_eq_true d1
 injection h with h
 subst h
 exact name_ok hX c1 hQ
def item_May_s (a:Item):Option Bool:=chk (decide (a.Ok)) (some (mayI a))
theorem item_May_c {X:Task→Prop} (hX:Closed X) {a:Item} {r:Bool} {Q:A→List Blk→Prop} (h:item_May_s a=some r) (hQ:Q (.one (.p (.v (.bool r)))) []):X (.call 94 [.agg [.p (.v (.string a.id)),ic a.vr,ic a.vc,ic a.stamp,.p (.v (.string a.kind)),ic a.num,.p (.v (.complex .f64 a.re a.im)),.p (.v (.bool a.dead))]] [] Q):=by
 unfold item_May_s at h
 obtain ⟨d1,h⟩:=chk_some h
 have c1:=of_decide_eq_true d1
 injection h with h
 subst h
 exact may_item_ok hX c1 hQ
def item_Compare_s (a:Item) (b:Item):Option Int:=some (compareV a b)
theorem item_Compare_c {X:Task→Prop} (hX:Closed X) {a:Item} {b:Item} {r:Int} {Q:A→List Blk→Prop} (h:item_Compare_s a b=some r) (hQ:Q (iv r) []):X (.call 96 [.agg [.p (.v (.string a.id)),ic a.vr,ic a.vc,ic a.stamp,.p (.v (.string a.kind)),ic a.num,.p (.v (.complex .f64 a.re a.im)),.p (.v (.bool a.dead))],.agg [.p (.v (.string b.id)),ic b.vr,ic b.vc,ic b.stamp,.p (.v (.string b.kind)),ic b.num,.p (.v (.complex .f64 b.re b.im)),.p (.v (.bool b.dead))]] [] Q):=by
 unfold item_Compare_s at h
 injection h with h
 subst h
 exact compare_ok hX hQ
def ref01_Behind_s (a:Item) (b:Item):Option Bool:=some (behindB a b)
theorem ref01_Behind_c {X:Task→Prop} (hX:Closed X) {a:Item} {b:Item} {r:Bool} {Q:A→List Blk→Prop} (h:ref01_Behind_s a b=some r) (hQ:Q (.one (.p (.v (.bool r)))) []):X (.call 42 [.agg [.p (.v (.string a.id)),ic a.vr,ic a.vc,ic a.stamp,.p (.v (.string a.kind)),ic a.num,.p (.v (.complex .f64 a.re a.im)),.p (.v (.bool a.dead))],.agg [.p (.v (.string b.id)),ic b.vr,ic b.vc,ic b.stamp,.p (.v (.string b.kind)),ic b.num,.p (.v (.complex .f64 b.re b.im)),.p (.v (.bool b.dead))]] [] Q):=by
 unfold ref01_Behind_s at h
 injection h with h
 subst h
 exact behind_ok hX hQ
def ref01_Same_s (a:Item) (b:Item):Option Bool:=some (sameI a b)
theorem ref01_Same_c {X:Task→Prop} (hX:Closed X) {a:Item} {b:Item} {r:Bool} {Q:A→List Blk→Prop} (h:ref01_Same_s a b=some r) (hQ:Q (.one (.p (.v (.bool r)))) []):X (.call 111 [.agg [.p (.v (.string a.id)),ic a.vr,ic a.vc,ic a.stamp,.p (.v (.string a.kind)),ic a.num,.p (.v (.complex .f64 a.re a.im)),.p (.v (.bool a.dead))],.agg [.p (.v (.string b.id)),ic b.vr,ic b.vc,ic b.stamp,.p (.v (.string b.kind)),ic b.num,.p (.v (.complex .f64 b.re b.im)),.p (.v (.bool b.dead))]] [] Q):=by
 unfold ref01_Same_s at h
 injection h with h
 subst h
 exact rsame_ok hX hQ
def law00_Item_s (a:Item):Option Item:=some (a)
theorem law00_Item_c {X:Task→Prop} (hX:Closed X) {a:Item} {r:Item} {Q:A→List Blk→Prop} (h:law00_Item_s a=some r) (hQ:Q (.agg [.p (.v (.string r.id)),ic r.vr,ic r.vc,ic r.stamp,.p (.v (.string r.kind)),ic r.num,.p (.v (.complex .f64 r.re r.im)),.p (.v (.bool r.dead))]) []):X (.call 32 [.agg [.p (.v (.string a.id)),ic a.vr,ic a.vc,ic a.stamp,.p (.v (.string a.kind)),ic a.num,.p (.v (.float .f64 a.re)),.p (.v (.float .f64 a.im)),.p (.v (.bool a.dead))]] [] Q):=by
 unfold law00_Item_s at h
 injection h with h
 subst h
 exact item_ok hX hQ
def law00_Small_s (a:Pred):Option Int:=chk (decide (a.Ok)) (some (if a.size≤60 then 1 else 0))
theorem law00_Small_c {X:Task→Prop} (hX:Closed X) {a:Pred} {r:Int} {Q:A→List Blk→Prop} (h:law00_Small_s a=some r) (hQ:Q (iv r) []):X (.call 44 [.agg [ic a.op,.p (.v (.string a.text)),ic a.n,.p (.v (.float .f64 a.re)),.p (.v (.float .f64 a.im)),.p (.sl (Pred.lrows a.kids))]] [] Q):=by
 unfold law00_Small_s at h
 obtain ⟨d1,h⟩:=chk_some h
 have c1:=of_decide_eq_true d1
 injection h with h
 subst h
 exact small_ok hX c1 hQ
def law00_Pred_s (a:Pred):Option Pred:=chk (decide (a.size≤1000)) (chk (decide (a.Ok)) (some (a)))
theorem law00_Pred_c {X:Task→Prop} (hX:Closed X) {a:Pred} {r:Pred} {Q:A→List Blk→Prop} (h:law00_Pred_s a=some r) (hQ:Q (.agg [ic r.op,.p (.v (.string r.text)),ic r.n,.p (.v (.complex .f64 r.re r.im)),.p (.sl (Pred.rows r.kids))]) []):X (.call 46 [.agg [ic a.op,.p (.v (.string a.text)),ic a.n,.p (.v (.float .f64 a.re)),.p (.v (.float .f64 a.im)),.p (.sl (Pred.lrows a.kids))]] [] Q):=by
 unfold law00_Pred_s at h
 obtain ⟨d1,h⟩:=chk_some h
 have c1:=of_decide_eq_true d1
 obtain ⟨d2,h⟩:=chk_some h
 have c2:=of_decide_eq_true d2
 injection h with h
 subst h
 exact lpred_ok hX _ (Nat.le_refl _) c1 c2 hQ
def ref03_Same_s (a:Pred) (b:Pred):Option Bool:=chk (decide (a.Ok)) (some (sameP a b))
theorem ref03_Same_c {X:Task→Prop} (hX:Closed X) {a:Pred} {b:Pred} {r:Bool} {Q:A→List Blk→Prop} (h:ref03_Same_s a b=some r) (hQ:Q (.one (.p (.v (.bool r)))) []):X (.call 68 [.agg [ic a.op,.p (.v (.string a.text)),ic a.n,.p (.v (.complex .f64 a.re a.im)),.p (.sl (Pred.rows a.kids))],.agg [ic b.op,.p (.v (.string b.text)),ic b.n,.p (.v (.complex .f64 b.re b.im)),.p (.sl (Pred.rows b.kids))]] [] Q):=by
 unfold ref03_Same_s at h
 obtain ⟨d1,h⟩:=chk_some h
 have c1:=of_decide_eq_true d1
 injection h with h
 subst h
 exact rsame_pred_ok hX _ (Nat.le_refl _) c1 hQ
def pred_May_s (a:Pred):Option Bool:=chk (decide (a.Ok)) (some (mayP a))
theorem pred_May_c {X:Task→Prop} (hX:Closed X) {a:Pred} {r:Bool} {Q:A→List Blk→Prop} (h:pred_May_s a=some r) (hQ:Q (.one (.p (.v (.bool r)))) []):X (.call 72 [.agg [ic a.op,.p (.v (.string a.text)),ic a.n,.p (.v (.complex .f64 a.re a.im)),.p (.sl (Pred.rows a.kids))]] [] Q):=by
 unfold pred_May_s at h
 obtain ⟨d1,h⟩:=chk_some h
 have c1:=of_decide_eq_true d1
 injection h with h
 subst h
 exact may_pred_ok hX c1 hQ
def eval_Has_s (a:Pred) (b:Item):Option Bool:=chk (decide (a.Ok)) (chk (decide (b.Ok)) (some (hasP a b)))
theorem eval_Has_c {X:Task→Prop} (hX:Closed X) {a:Pred} {b:Item} {r:Bool} {Q:A→List Blk→Prop} (h:eval_Has_s a b=some r) (hQ:Q (.one (.p (.v (.bool r)))) []):X (.call 69 [.agg [ic a.op,.p (.v (.string a.text)),ic a.n,.p (.v (.complex .f64 a.re a.im)),.p (.sl (Pred.rows a.kids))],.agg [.p (.v (.string b.id)),ic b.vr,ic b.vc,ic b.stamp,.p (.v (.string b.kind)),ic b.num,.p (.v (.complex .f64 b.re b.im)),.p (.v (.bool b.dead))]] [] Q):=by
 unfold eval_Has_s at h
 obtain ⟨d1,h⟩:=chk_some h
 have c1:=of_decide_eq_true d1
 obtain ⟨d2,h⟩:=chk_some h
 have c2:=of_decide_eq_true d2
 injection h with h
 subst h
 exact has_ok hX _ (Nat.le_refl _) c1 c2 hQ
end
end Go.Proofs.YtidkmoohgadjkaaGreat
namespace Go.Proofs.YtidkmoohgadjkaaGreat
open Go E Go.Lib Go.RowKit
theorem run_copy_row {P:Program} (w:World) (dT sT ty elem:TypeId) {k:Nat} (g o dLen dCap:Nat) (a:Addr) (sLen sCap n:Nat) (cs:List Value) (cur:Array Value) (e:TypeId)
  (hu:P.underlying dT=some (.slice elem)) (hs:∀ w,(Go.sizeOf elem).run P w=.ok k w) (hmin:Nat.min sLen dLen=n) (hn:cs.length=n * k)
  (hsrc:∀ j v,cs[j]?=some v→w.cell? (a.add j)=some v) (hh:w.heap[g]?=some (.cells cur e (0,0))) (hle:o + cs.length≤cur.size) (h1:∀ v∈cs,v.oneCell'=true) :
  (Builtin.copy_ #[dT,sT] ty #[.slice (some ⟨g,o,none⟩) dLen dCap,.slice (some a) sLen sCap]).run P w=.ok (goInt n) (w.setRow g (cur.toList.take o++cs++cur.toList.drop (o + cs.length)).toArray):=by
 have hl:=run_loadCells_list (P:=P) w a cs hsrc
 have hst:=run_storeCells_at P g o e cs 0 cur w hh (by simpa using hle) h1
 simp only [Nat.add_zero] at hst
 simp [Builtin.copy_,run_underlying hu,Builtin.lenOf,Builtin.firstCells,hs,hmin,←hn,hl,hst]
theorem wpList_copy_runI' (w:World) {P:Program} {ops:Array Oper} {rest:List Oper} {o:Oper} {a:Act} {Q:Exit→Act→World→Prop} (hgd:o.guard=none) (d s:Operand) (t t':TypeId)
  (ho:o.op=.call { callee:=.builtin .copy,args := #[d,s],argTypes := #[t,t'] }) (v u:Value) (hd:a.eval d=v) (hs:a.eval s=u) {v':Value} {w':World}
  (hr:(Builtin.copy_ #[t,t'] o.type #[v,u]).run P w=.ok v' w') (h:wpList P ops Q rest (a.put o.dst v') w'):wpList P ops Q (o::rest) a w:=by
 refine wpList_plain hgd fun _ hK=>?_
 have hK:=hK _ _ h
 unfold Oper.wp execOp
 simp only [ho,resolve,invoke,builtin,Sem.run_bind,Sem.run_pure,Result.andThen_ok,List.map_toArray,List.map_cons,List.map_nil,hd,hs,hr]
 exact hK
theorem size_item:∀ w,(Go.sizeOf 68).run Tryz.prog w=.ok 8 w:=((T_ok 68).known (of_decide_eq_true (by kernel_rfl))).size
set_option maxHeartbeats 4000000 in
set_option maxRecDepth 100000 in
theorem ins_shift (g n c i vb vc:Nat) (cur new:Array Value) (e e2:TypeId) (w:World) (hi:i < n) (hroom:n + 1≤c) (hc63:c≤9223372036854775807) (hvb:vb≠g)
  (hg:w.heap[g]?=some (.cells cur e (0,0))) (hv:w.heap[vb]?=some (.cells new e2 (0,0))) (hcs:cur.size=c * 8) (hnew:8≤new.size)
  (h1:∀ v∈cur.toList.take (n * 8),v.oneCell'=true) (h2:∀ v∈new.toList.take 8,v.oneCell'=true) :
  Calls Tryz.prog 172 #[.slice (some ⟨g,0,none⟩) n c,.int .i64 i,.slice (some ⟨vb,0,none⟩) 1 vc] w fun x w'=>x=.returned (.slice (some ⟨g,0,none⟩) (n + 1) c) ∧
   ∃ w1:World,w1.heap=w.heap∧w1.os=w.os∧w1.tape=w.tape∧w1.output=w.output∧w'=(w1.setRow g (cur.toList.take ((i + 1) * 8)++(cur.toList.take (n * 8)).drop (i * 8)++cur.toList.drop ((n + 1) * 8)).toArray).setRow g
    (cur.toList.take (i * 8)++new.toList.take 8++((cur.toList.take (n * 8)).drop (i * 8)++cur.toList.drop ((n + 1) * 8))).toArray:=by
 have hw1:IntKind.i64.wrap ((i:Int) + (1:Int))=(i:Int) + (1:Int):=by rw [IntKind.wrap_i64]; omega
 have hz2:¬ ((i:Int)=(n:Int)):=by omega
 have hb1:(0:Int)≤(i:Int) + (1:Int):=by omega
 have hin:i≤n:=by omega
 have htn:((i:Int) + (1:Int)).toNat=i + 1:=by omega
 have hb2:¬ (c=i + 1):=by omega
 have hb3:(i:Int)≤(n:Int) + (1:Int):=by omega
 have hb4:¬ (c=i):=by omega
 go_enter Tryz.func172,Tryz.ntmps172
 have hov:∀ (ad:Addr) lb cb,ad.block=g→(callFunc 215 #[.slice (some ⟨vb,0,none⟩) 1 vc,.slice (some ad) lb cb]).run Tryz.prog w=.ok (.value (.bool false)) w:=fun ad lb cb had=>by
  rw [run_callFunc_extern Tryz.func215 (by kernel_rfl) (by kernel_rfl) (by kernel_rfl) (e:=Extern.SlicesOverlaps.overlaps #[50,50] #[4]) (by kernel_rfl),
   Lib.run_overlaps_apart w 50 4 68 Tryz.underlying50 8 size_item ⟨vb,0,none⟩ ad 1 vc lb cb (by rw [had]; exact hvb) e2 e new.size cur.size (by simp [World.shape?,hv]) (by simp [World.shape?,had,hg]) (by rw [hcs]; omega) (by simp [World.frozen?,hv]) (by simp [World.frozen?,hv])]
  rfl
 have hd2:(((cur.toList.take (n * 8)).drop (i * 8)).length)=(n - i) * 8:=by rw [List.length_drop,List.length_take,Array.length_toList,Nat.sub_mul]; omega
 have hcp1:∀ (W:World) ty dc sc,W.heap=w.heap→(Builtin.copy_ #[50,50] ty #[.slice (some ⟨g,(i + 1) * 8,none⟩) (n - i) dc,.slice (some ⟨g,i * 8,none⟩) (n + 1 - i) sc]).run Tryz.prog W=.ok (goInt (n - i:Nat)) (W.setRow g (cur.toList.take ((i + 1) * 8)++(cur.toList.take (n * 8)).drop (i * 8)++cur.toList.drop ((n + 1) * 8)).toArray):=fun W ty dc sc hW=>by
  have:=run_copy_row (P:=Tryz.prog) (ty:=ty) W 50 50 68 g ((i + 1) * 8) (n - i) dc ⟨g,i * 8,none⟩ (n + 1 - i) sc (n - i) ((cur.toList.take (n * 8)).drop (i * 8)) cur e Tryz.underlying50 size_item (by simp only [Nat.min_def]; split<;>omega) hd2 (fun j v hj=>by
    rw [addr_add,World.cell?,hW,hg]
    rw [List.getElem?_drop,List.getElem?_take] at hj
    split at hj
    ·simpa using hj
    ·cases hj) (by rw [hW]; exact hg) (by rw [hd2,hcs,←Nat.add_mul]; exact Nat.mul_le_mul_right _ (by omega)) (fun v hv=>h1 v (List.mem_of_mem_drop hv))
  rw [this]
  congr 4
  rw [hd2,←Nat.add_mul]
  congr 2
  omega
 obtain ⟨R1,hR1⟩:∃ R1,R1=(cur.toList.take ((i + 1) * 8)++(cur.toList.take (n * 8)).drop (i * 8)++cur.toList.drop ((n + 1) * 8)).toArray:=⟨_,rfl⟩
 obtain ⟨R2,hR2⟩:∃ R2,R2=(cur.toList.take (i * 8)++new.toList.take 8++((cur.toList.take (n * 8)).drop (i * 8)++cur.toList.drop ((n + 1) * 8))).toArray:=⟨_,rfl⟩
 have hcp2:∀ (W:World) ty dc sc,W.heap=(w.setRow g R1).heap→(Builtin.copy_ #[50,50] ty #[.slice (some ⟨g,i * 8,none⟩) (n + 1 - i) dc,.slice (some ⟨vb,0,none⟩) 1 sc]).run Tryz.prog W=.ok (goInt (1:Nat)) (W.setRow g R2):=fun W ty dc sc hW=>by
  have hsz:R1.size=cur.size:=by
   rw [hR1,List.size_toArray,List.length_append,List.length_append,hd2,List.length_take,List.length_drop,Array.length_toList,hcs,Nat.sub_mul,Nat.add_mul,Nat.add_mul]
   have:=Nat.mul_le_mul_right 8 hroom
   have:=Nat.mul_le_mul_right 8 hin
   omega
  have:=run_copy_row (P:=Tryz.prog) (ty:=ty) W 50 50 68 g (i * 8) (n + 1 - i) dc ⟨vb,0,none⟩ 1 sc 1 (new.toList.take 8) R1 e Tryz.underlying50 size_item (by simp only [Nat.min_def]; split<;>omega) (by rw [List.length_take,Array.length_toList]; omega) (fun j v hj=>by
    rw [addr_add,World.cell?,hW,setRow_other w g vb _ hvb,hv]
    rw [List.getElem?_take] at hj
    split at hj
    ·simpa using hj
    ·cases hj) (by rw [hW]; exact setRow_heap w g _ _ _ _ hg) (by rw [List.length_take,Array.length_toList,hsz,hcs]; have:=Nat.mul_le_mul_right 8 hroom; omega) h2
  rw [this]
  congr 2
  rw [hR2,hR1]
  congr 1
  have hl8:(List.take 8 new.toList).length=8:=by rw [List.length_take,Array.length_toList]; omega
  have hlt:(List.take ((i + 1) * 8) cur.toList).length=(i + 1) * 8:=by rw [List.length_take,Array.length_toList]; omega
  rw [hl8,List.append_assoc,List.append_assoc,List.take_append_of_le_length (by rw [hlt]; omega),List.take_take,Nat.min_eq_left (by omega),show i * 8 + 8=(i + 1) * 8 by omega,List.drop_append_of_le_length (by rw [hlt]; omega),List.drop_of_length_le (by rw [hlt]; omega),List.nil_append,List.append_assoc]
 rw [←hR1] at hcp1
 rw [←hR1,←hR2]
 have hcpD:=fun ty dc sc=>hcp1 w.drew ty dc sc rfl
 have hcpE:=fun ty dc sc=>hcp2 (w.drew.setRow g R1) ty dc sc rfl
 have hcpF:=fun ty dc sc=>hcp2 (w.drew.setRow g R1).drew ty dc sc rfl
 clear hd2 hR1 hR2 hcp1 hcp2
 go_wp2
 go_region
 go_wp2
 go_ret
 exact ⟨rfl,w.drew,rfl,rfl,rfl,rfl,rfl⟩
theorem list_mid {α:Type} {A V Z D Y:List α} {a v d:Nat} (ha:A.length=a) (hv:V.length=v) (hZ:v + d=Z.length) (hd:D.length=d) :
  (A++Z++Y).take a++V++(A++Z++Y).drop (a + v)=A++V++Z.drop v++Y∧(A++V++Z.drop v++Y).take (a + v)++D++(A++V++Z.drop v++Y).drop (a + v + d)=A++V++D++Y:=by
 subst ha; subst hv; subst hd
 constructor
 ·have h:A++Z++Y=A++(Z++Y):=by simp
  rw [h,List.take_left,←List.drop_drop,List.drop_left,List.drop_append_of_le_length (by omega)]
  simp
 ·have h:A++V++Z.drop V.length++Y=(A++V)++(Z.drop V.length++Y):=by simp
  have hl:A.length + V.length=(A++V).length:=by simp
  have hz:(Z.drop V.length).length=D.length:=by rw [List.length_drop]; omega
  rw [h,hl,List.take_left,←List.drop_drop,List.drop_left,←hz,List.drop_left]
theorem heap_alloc_new (w:World) (o:Obj):(w.alloc o).heap[w.heap.size]?=some o:=han w o
theorem heap_alloc_old (w:World) (o:Obj) {k:Nat} (hk:k < w.heap.size):(w.alloc o).heap[k]?=w.heap[k]?:=hao w o k hk
set_option maxHeartbeats 4000000 in
set_option maxRecDepth 100000 in
theorem ins_grow (g n c i vb vc:Nat) (cur new:Array Value) (e e2:TypeId) (w:World) (hi:i < n) (hnc:n≤c) (hroom:c < n + 1) (hbig:n≤1000000)
  (hg:w.heap[g]?=some (.cells cur e (0,0))) (hv:w.heap[vb]?=some (.cells new e2 (0,0))) (hcs:cur.size=c * 8) (hnew:8≤new.size)
  (h1:∀ v∈cur.toList.take (n * 8),v.oneCell'=true) (h2:∀ v∈new.toList.take 8,v.oneCell'=true) :
  Calls Tryz.prog 172 #[.slice (some ⟨g,0,none⟩) n c,.int .i64 i,.slice (some ⟨vb,0,none⟩) 1 vc] w fun x w'=>∃ (G:Nat) (R0 R1:Array Value) (rest:List Value),n + 1≤G∧G≤maxLen∧rest.length=(G - (n + 1)) * 8∧x=.returned (.slice (some ⟨w.heap.size,0,none⟩) (n + 1) G) ∧
   ∃ w1:World,w1.heap=w.heap∧w1.os=w.os∧w1.tape=w.tape∧w1.output=w.output∧w'=((w1.alloc (.cells R0 68)).setRow w.heap.size R1).setRow w.heap.size
    (cur.toList.take (i * 8)++new.toList.take 8++(cur.toList.take (n * 8)).drop (i * 8)++rest).toArray:=by
 have hI:=(T_ok 68).known (of_decide_eq_true (by kernel_rfl))
 obtain ⟨i0,z,hi0,hzs,hzb,hz0,hzc,_⟩:=hI.info
 have hzs:i0.size=8:=hzs
 have hzl:z.cells.size=8:=by
  have:=hI.z
  rw [←Array.length_toList,hzc]; rfl
 have hzb:i0.bytes≤1000:=by rw [hzb]; exact of_decide_eq_true (by kernel_rfl)
 have hbb:(n + 1) * i0.bytes≤140737488355328:=by
  have:=Nat.mul_le_mul (show n + 1≤1000001 by omega) hzb
  omega
 have hkk:(n:Int) + (1:Int) - (i:Int)=((n + 1 - i:Nat):Int):=by omega
 have hik:i + (n + 1 - i)=n + 1:=by omega
 have hold:(Builtin.firstCells i0.size i (.slice (some ⟨g,0,none⟩) i c)).run Tryz.prog w.drew=.ok (cur.toList.take (i * 8)).toArray w.drew:=by
  rw [hzs]
  exact run_firstCells_some w.drew 8 i ⟨g,0,none⟩ i c (cur.toList.take (i * 8)) (by rw [List.length_take,Array.length_toList]; omega) (fun j v hj=>by
   rw [addr_add,Nat.zero_add,World.cell?_drew,World.cell?,hg]
   rw [List.getElem?_take] at hj
   split at hj
   ·simpa using hj
   ·cases hj)
 obtain ⟨G,hG⟩:∃ G,G=grownCap w (n + 1) c 68:=⟨_,rfl⟩
 have hGn:n + 1≤G:=by rw [hG]; exact grownCap_ge w _ _ _
 have hG63:G≤maxLen:=by rw [hG]; exact grownCap_le_maxLen w (n + 1) c _ (by unfold maxLen; omega)
 obtain ⟨R0,hR0⟩:∃ R0:Array Value,R0=(cur.toList.take (i * 8)).toArray++Builtin.zeroCells z.cells (n + 1 - i)++Builtin.zeroCells z.cells (G - (n + 1)):=⟨_,rfl⟩
 have hrz:∀ ty,(Builtin.append_ #[50,3] ty #[.slice (some ⟨g,0,none⟩) i c,.int .i64 ((n:Int) + (1:Int) - (i:Int))]).run Tryz.prog w=.ok (.slice (some ⟨w.heap.size,0,none⟩) (n + 1) G) (w.drew.alloc (.cells R0 68)):=fun ty=>by
  have h:=Lib.run_append_grow_zeros w 50 3 ty 68 i0 z .i64 .i64 Tryz.underlying50 Tryz.underlying3 hi0 hz0 (some ⟨g,0,none⟩) i c (cur.toList.take (i * 8)) hold (n + 1 - i) (by omega) (by omega) (by omega) (by omega)
   (by have:=Nat.mul_le_mul_right i0.bytes (show n + 1 - i≤n + 1 by omega); omega) (by rw [hik]; exact growslice_fits hroom hbb)
  rw [hik,←hG] at h
  rw [hkk,hR0]
  exact h
 obtain ⟨A,hA⟩:∃ A,A=cur.toList.take (i * 8):=⟨_,rfl⟩
 obtain ⟨V,hV⟩:∃ V,V=new.toList.take 8:=⟨_,rfl⟩
 obtain ⟨D,hD⟩:∃ D,D=(cur.toList.take (n * 8)).drop (i * 8):=⟨_,rfl⟩
 obtain ⟨Z,hZ⟩:∃ Z,Z=(Builtin.zeroCells z.cells (n + 1 - i)).toList:=⟨_,rfl⟩
 obtain ⟨Y,hY⟩:∃ Y,Y=(Builtin.zeroCells z.cells (G - (n + 1))).toList:=⟨_,rfl⟩
 have lA:A.length=i * 8:=by rw [hA,List.length_take,Array.length_toList]; omega
 have lV:V.length=8:=by rw [hV,List.length_take,Array.length_toList]; omega
 have lD:D.length=(n - i) * 8:=by rw [hD,List.length_drop,List.length_take,Array.length_toList,Nat.sub_mul]; omega
 have lZ:8 + (n - i) * 8=Z.length:=by rw [hZ,Array.length_toList,size_zeroCells,hzl]; omega
 have lY:Y.length=(G - (n + 1)) * 8:=by rw [hY,Array.length_toList,size_zeroCells,hzl]
 have eR0:R0.toList=A++Z++Y:=by rw [hR0,hA,hZ,hY]; simp
 obtain ⟨m1,m2⟩:=list_mid (A:=A) (V:=V) (Z:=Z) (D:=D) (Y:=Y) lA lV lZ lD
 have sR0:R0.size=G * 8:=by
  rw [←Array.length_toList,eR0,List.length_append,List.length_append,lA,←lZ,lY,Nat.sub_mul,Nat.sub_mul]
  have:=Nat.mul_le_mul_right 8 hGn
  omega
 obtain ⟨R1,hR1⟩:∃ R1:Array Value,R1=(A++V++Z.drop 8++Y).toArray:=⟨_,rfl⟩
 have sR1:R1.size=G * 8:=by
  rw [hR1,List.size_toArray,List.length_append,List.length_append,List.length_append,lA,lV,List.length_drop,←lZ,lY,Nat.sub_mul,Nat.sub_mul]
  have:=Nat.mul_le_mul_right 8 hGn
  omega
 obtain ⟨R2,hR2⟩:∃ R2:Array Value,R2=(A++V++D++Y).toArray:=⟨_,rfl⟩
 have hgw:g < w.heap.size:=(Array.getElem?_eq_some_iff.1 hg).1
 have hvw:vb < w.heap.size:=(Array.getElem?_eq_some_iff.1 hv).1
 have hcpA:∀ (W:World) ty dc sc,W.heap=(w.alloc (.cells R0 68)).heap→(Builtin.copy_ #[50,50] ty #[.slice (some ⟨w.heap.size,i * 8,none⟩) (n + 1 - i) dc,.slice (some ⟨vb,0,none⟩) 1 sc]).run Tryz.prog W=.ok (goInt (1:Nat)) (W.setRow w.heap.size R1):=fun W ty dc sc hW=>by
  have:=run_copy_row (P:=Tryz.prog) (ty:=ty) W 50 50 68 w.heap.size (i * 8) (n + 1 - i) dc ⟨vb,0,none⟩ 1 sc 1 V R0 68 Tryz.underlying50 size_item (by simp only [Nat.min_def]; split<;>omega) (by rw [lV]) (fun j v hj=>by
    rw [addr_add,World.cell?,hW,heap_alloc_old _ _ hvw,hv]
    rw [hV,List.getElem?_take] at hj
    split at hj
    ·simpa using hj
    ·cases hj) (by rw [hW]; exact heap_alloc_new _ _) (by rw [lV,sR0]; have:=Nat.mul_le_mul_right 8 hGn; omega) (by rw [hV]; exact h2)
  rw [this,eR0,lV,m1,hR1]
 have hcpB:∀ (W:World) ty dc sc,W.heap=((w.alloc (.cells R0 68)).setRow w.heap.size R1).heap→(Builtin.copy_ #[50,50] ty #[.slice (some ⟨w.heap.size,(i + 1) * 8,none⟩) (n - i) dc,.slice (some ⟨g,i * 8,none⟩) (n - i) sc]).run Tryz.prog W=.ok (goInt (n - i:Nat)) (W.setRow w.heap.size R2):=fun W ty dc sc hW=>by
  have:=run_copy_row (P:=Tryz.prog) (ty:=ty) W 50 50 68 w.heap.size ((i + 1) * 8) (n - i) dc ⟨g,i * 8,none⟩ (n - i) sc (n - i) D R1 68 Tryz.underlying50 size_item (by simp) lD (fun j v hj=>by
    rw [addr_add,World.cell?,hW,setRow_other _ _ _ _ (Nat.ne_of_lt hgw),heap_alloc_old _ _ hgw,hg]
    rw [hD,List.getElem?_drop,List.getElem?_take] at hj
    split at hj
    ·simpa using hj
    ·cases hj) (by rw [hW]; exact setRow_heap _ _ _ _ _ _ (heap_alloc_new _ _)) (by rw [lD,sR1,←Nat.add_mul]; exact Nat.mul_le_mul_right 8 (by omega)) (by rw [hD]; exact fun v hv=>h1 v (List.mem_of_mem_drop hv))
  rw [this,lD,show (i + 1) * 8=i * 8 + 8 by omega,hR1,List.toList_toArray,m2,hR2]
 have hres:Hold (R2=(A++V++D++Y).toArray):=⟨hR2⟩
 have hcA1:=fun ty dc sc=>hcpA (w.drew.alloc (.cells R0 68)) ty dc sc rfl
 have hcA2:=fun ty dc sc=>hcpA (w.alloc (.cells R0 68)).drew ty dc sc rfl
 have hcB1:=fun ty dc sc=>hcpB (((w.alloc (.cells R0 68)).drew.setRow w.heap.size R1).drew) ty dc sc rfl
 have hcB2:=fun ty dc sc=>hcpB (((w.drew.alloc (.cells R0 68)).setRow w.heap.size R1).drew) ty dc sc rfl
 have hz2:¬ ((i:Int)=(n:Int)):=by omega
 have hz3:(c:Int) < (n:Int) + (1:Int):=by omega
 have hw1:IntKind.i64.wrap ((i:Int) + (1:Int))=(i:Int) + (1:Int):=by rw [IntKind.wrap_i64]; omega
 have hb1:(0:Int)≤(i:Int) + (1:Int):=by omega
 have hin:i≤n:=by omega
 have htn:((i:Int) + (1:Int)).toNat=i + 1:=by omega
 have hb3:(i:Int)≤(n:Int):=by omega
 have hGi:¬ (G=i):=by omega
 have hGim:¬ (G=i + 1):=by omega
 have hci:¬ (c=i):=by omega
 have hG6:G≤9223372036854775807:=hG63
 rw [←hA,←hV,←hD]
 clear hR0 hR1 hR2 hA hV hD hZ hY hcpA hcpB hkk hik hold hG sR0 sR1 m1 m2 eR0 hI hi0 hzs hzl hzb hz0 hzc hbb hG63
 go_enter Tryz.func172,Tryz.ntmps172
 go_wp2_with (first
  | (at_builtin; refine Lib.wpList_append_run _ rfl _ _ _ _ rfl _ _ rfl rfl _ _ (hrz _) ?_)
  | (at_builtin; refine wpList_copy_runI' _ rfl _ _ 50 50 rfl _ _ rfl rfl (hcA1 _ _ _) ?_)
  | (at_builtin; refine wpList_copy_runI' _ rfl _ _ 50 50 rfl _ _ rfl rfl (hcA2 _ _ _) ?_))
 go_region
 go_wp2
 go_ret
 exact ⟨G,R0,R1,Y,hGn,hG6,lY,rfl,w.drew.drew,rfl,rfl,rfl,rfl,by rw [←hres.h]; rfl⟩
set_option maxHeartbeats 4000000 in
set_option maxRecDepth 100000 in
theorem ins_end (n c vc:Nat) (base:Option Addr) (vb:Nat) (w w2:World) (v2:Value)
  (hr:(Builtin.append_ #[50,50] 50 #[.slice base n c,.slice (some ⟨vb,0,none⟩) 1 vc]).run Tryz.prog w=.ok v2 w2) :
  Calls Tryz.prog 172 #[.slice base n c,.int .i64 n,.slice (some ⟨vb,0,none⟩) 1 vc] w fun x w'=>x=.returned v2∧w'=w2:=by
 go_enter Tryz.func172,Tryz.ntmps172
 cases base with
 | none =>
  go_wp2_with (at_builtin; refine Lib.wpList_append_run _ rfl _ _ _ _ rfl _ _ rfl rfl _ _ hr ?_)
  all_goals (go_ret; exact ⟨rfl,rfl⟩)
 | some a =>
  obtain ⟨ab,ao,asp⟩:=a
  go_wp2_with (at_builtin; refine Lib.wpList_append_run _ rfl _ _ _ _ rfl _ _ rfl rfl _ _ hr ?_)
  all_goals (go_ret; exact ⟨rfl,rfl⟩)
end Go.Proofs.YtidkmoohgadjkaaGreat
set_option maxHeartbeats 4000000
namespace Go.Proofs.YtidkmoohgadjkaaGreat.E
open Go Go.Lib Go.RowKit
noncomputable section
open Classical
theorem fin_own {w w' : World} {S : Zone} {inj : Nat → Loc} {σ : List Blk} {n k : Nat} {l : List (List PC)} {ad : Option Addr} {m c : Nat} {g : Option Nat} (hI : Inv w S inj (look σ)) (hn : σ.length = n) (hfree : ∀ b, n ≤ b → inj b = .free)
    (hG : Grow w S w' S) (hR : RowOk w' S k l (.slice ad m c) g) : ∃ inj', Done w S inj n (.one (.own n)) (List.replicate n .dead ++ [.rows k l]) (.slice ad m c) w' S inj' := by
  refine ⟨fun b => if b = n then .row (.slice ad m c) g else if inj b = .free then .free else .dead, hG, fun b => ?_, fun b hb hc => ?_, .ofc (.own (.inr ⟨g, ?_⟩)), fun b => ?_, fun b b' g' hb hb' h1 h2 => ?_, fun g' hg' => Nat.lt_of_lt_of_le (hI.lt g' hg') hG.size, hI.dj⟩
  · by_cases hf : inj b = .free
    · exact .inl hf
    · refine .inr (.inr ?_)
      have : b ≠ n := by rintro rfl; exact hf (hfree b (Nat.le_refl _))
      simp [this, hf]
  · have : b ≠ n := by rintro rfl; simp only [List.length_append, List.length_replicate, List.length_singleton] at hc; omega
    simp [this, hb]
  · simp [Loc.val]
  · by_cases hb : b = n
    · subst hb
      have : look (List.replicate b .dead ++ [.rows k l]) b = .rows k l := by rw [look_eq]; simp [List.getD_eq_getElem?_getD]
      rw [this]
      exact ⟨_, _, by simp, hR⟩
    · have : look (List.replicate n .dead ++ [.rows k l]) b = .dead := by
        rw [look_eq, List.getD_eq_getElem?_getD]
        by_cases h : b < n
        · rw [List.getElem?_append_left (by simpa using h)]; simp [h]
        · rw [List.getElem?_append_right (by simp; omega)]
          rw [List.getElem?_eq_none (by simp; omega)]; rfl
      rw [this]; trivial
  · have key : ∀ b, look (List.replicate n .dead ++ [.rows k l]) b ≠ .dead → b = n := fun b hb => Classical.byContradiction fun h => hb (by
        rw [look_eq, List.getD_eq_getElem?_getD]
        by_cases h' : b < n
        · rw [List.getElem?_append_left (by simpa using h')]; simp [h']
        · rw [List.getElem?_append_right (by simp; omega)]
          rw [List.getElem?_eq_none (by simp; omega)]; rfl)
    rw [key b hb, key b' hb']
theorem flat_take {l:List (List PC)} {k:Nat} (hl:∀ r∈l,r.length=k) (i:Nat):(l.take i).flatten=l.flatten.take (i * k)∧(l.drop i).flatten=l.flatten.drop (i * k):=by
 induction l generalizing i with
 | nil=>simp
 | cons r l ih =>
  have hr:=hl r (by simp)
  cases i with
  | zero=>simp
  | succ i =>
   obtain ⟨h1,h2⟩:=ih (fun r hr=>hl r (by simp [hr])) i
   have e:(i + 1) * k=r.length + i * k:=by rw [hr,Nat.succ_mul]; omega
   rw [List.take_succ_cons,List.drop_succ_cons,List.flatten_cons,List.flatten_cons,h1,h2,e]
   constructor
   ·rw [List.take_append,List.take_of_length_le (show r.length≤r.length + i * k by omega),Nat.add_sub_cancel_left]
   ·rw [List.drop_append,List.drop_of_length_le (show r.length≤r.length + i * k by omega),Nat.add_sub_cancel_left]; rfl
theorem ins_rows {l:List (List PC)} {x:List PC} {i:Nat} (hl:∀ r∈l,r.length=8) (hi:i≤l.length):(l.take i++x::l.drop i).flatten=l.flatten.take (i * 8)++x++l.flatten.drop (i * 8):=by
 obtain ⟨h1,h2⟩:=flat_take hl i
 rw [List.flatten_append,List.flatten_cons,h1,h2]; simp
theorem ins_len {l:List (List PC)} {x:List PC} {i:Nat} (hi:i≤l.length):(l.take i++x::l.drop i).length=l.length + 1:=by simp; omega
theorem ins_8 {l:List (List PC)} {x:List PC} {i:Nat} (hl:∀ r∈l,r.length=8) (hx:x.length=8):∀ r∈l.take i++x::l.drop i,r.length=8:=by
 intro r hr
 rcases List.mem_append.1 hr with hr | hr
 ·exact hl r (List.mem_of_mem_take hr)
 ·rcases List.mem_cons.1 hr with rfl | hr
  ·exact hx
  ·exact hl r (List.mem_of_mem_drop hr)
theorem ins_rowOk {w':World} {S:Zone} {l:List (List PC)} {x:List PC} {i g cap:Nat} {e:TypeId} {A V D Y:List Value} (hl:∀ r∈l,r.length=8) (hx:x.length=8) (hi:i≤l.length) (hS:¬ S.all g) (hg:w'.heap[g]?=some (.cells (A++V++D++Y).toArray e (0,0)))
  (hc:l.length + 1≤cap) (hm:cap≤maxLen) (hsz:(A++V++D++Y).length=cap * 8) (hA:F2 (PR w' S) (l.flatten.take (i * 8)) A) (hV:F2 (PR w' S) x V) (hD:F2 (PR w' S) (l.flatten.drop (i * 8)) D) :
  RowOk w' S 8 (l.take i++x::l.drop i) (.slice (some ⟨g,0,none⟩) (l.length + 1) cap) (some g):=by
 refine .inr ⟨g,cap,_,e,by decide,rfl,by rw [ins_len hi],hS,hg,by rw [ins_len hi]; exact hc,hm,by simpa using hsz,ins_8 hl hx,?_⟩
 rw [ins_len hi,ins_rows hl hi]
 have hh:F2 (PR w' S) (l.flatten.take (i * 8)++x++l.flatten.drop (i * 8)) (A++V++D):=(hA.app hV).app hD
 have hlen:(A++V++D).length=(l.length + 1) * 8:=by
  rw [←hh.len,List.length_append,List.length_append,hx,List.length_take,List.length_drop]
  have:l.flatten.length=l.length * 8:=flatten_len hl
  have:=Nat.mul_le_mul_right 8 hi
  omega
 rw [show (A++V++D++Y).toArray.toList=(A++V++D)++Y by simp,←hlen,List.take_left]
 exact hh
theorem insert_callOk {l:List (List PC)} {x:List PC} {i:Nat} (hl:∀ r∈l,r.length=8) (hx:x.length=8) (hi:i≤l.length) (hn:l.length≤1000000) :
  CallOk Tryz.prog 172 [.one (.own 0),iv i,.one (.own 1)] [.rows 8 l,.rows 8 [x]] (.one (.own 2)) [.dead,.dead,.rows 8 (l.take i++x::l.drop i)]:=by
 refine ⟨⟨_,_,Tryz.func172,rfl,rfl⟩,fun w S inj vs hv hI hfree=>?_⟩
 have hIt:=(T_ok 68).known (of_decide_eq_true (by kernel_rfl))
 cases hv with
 | cons h0 hv =>
 cases hv with
 | cons h1 hv =>
 cases hv with
 | cons h2 hv =>
 cases hv
 obtain ⟨v0,g0,hg0,hro0⟩:=hI.rows (b:=0) (k:=8) (l:=l) rfl
 obtain ⟨v1,g1,hg1,hro1⟩:=hI.rows (b:=1) (k:=8) (l:=[x]) rfl
 have e0:=(h0.cellv (by simp)).ownv hg0
 have e1:=h1.flatv.1
 have e2:=(h2.cellv (by simp)).ownv hg1
 subst e0 e1 e2
 rcases hro1 with ⟨h,_⟩ | ⟨vb,vc,new,en,_,rfl,rfl,hnS,hnh,hnc,hnm,hns,_,hnf⟩
 ·cases h
 have hnew:8≤new.size:=by rw [hns]; simp at hnc; omega
 have hV:F2 (PR w S) x (new.toList.take 8):=by simpa using hnf
 have hV1:∀ v∈new.toList.take 8,v.oneCell'=true:=fun v hv=>by
  obtain ⟨j,hj⟩:=List.getElem?_of_mem hv
  obtain ⟨c,_,hc⟩:=hV.getR hj
  exact hc.one
 have hvw:vb < w.heap.size:=(Array.getElem?_eq_some_iff.1 hnh).1
 have fin:∀ {w':World} {cap g:Nat},Grow w S w' S→RowOk w' S 8 (l.take i++x::l.drop i) (.slice (some ⟨g,0,none⟩) (l.length + 1) cap) (some g) →
   ∃ v S' inj',(Ending.returned (.slice (some ⟨g,0,none⟩) (l.length + 1) cap):Ending)=.returned v∧Done w S inj 2 (.one (.own 2)) [.dead,.dead,.rows 8 (l.take i++x::l.drop i)] v w' S' inj':=fun hG hR=>by
  obtain ⟨inj',hd⟩:=fin_own (n:=2) hI rfl hfree hG hR
  exact ⟨_,S,inj',rfl,hd⟩
 have hsrc:Src Tryz.prog w 8 1 (.slice (some ⟨vb,0,none⟩) 1 vc) (new.toList.take 8):=by
  have hc:∀ j v,(new.toList.take 8)[j]?=some v→w.cell? ((⟨vb,0,none⟩:Addr).add j)=some v:=fun j v hj=>by
   rw [addr_add,Nat.zero_add,World.cell?,hnh]
   rw [List.getElem?_take] at hj
   split at hj
   ·simpa using hj
   ·cases hj
  have hl8:(new.toList.take 8).length=1 * 8:=by rw [List.length_take,Array.length_toList]; omega
  exact ⟨fun w'=>by simp [Builtin.lenOf],run_firstCells_some w _ _ _ _ _ _ hl8 hc,run_firstCells_some w.drew _ _ _ _ _ _ hl8 (by simpa using hc),hl8,hV1⟩
 have h8:(ty T 68).sz=8:=by kernel_rfl
 have hbytes:(ty T 68).bytes≤1000:=of_decide_eq_true (by kernel_rfl)
 have hroom:∀ m,m≤1000001→m * (ty T 68).bytes≤140737488355328:=fun m hm=>by have:=Nat.mul_le_mul hm hbytes; omega
 rcases hro0 with ⟨rfl,rfl,ad,rfl⟩ | ⟨g,cap,cur,e,_,rfl,rfl,hS,hh,hcap,hmax,hcs,_,hf⟩
 ·
  obtain rfl:i=0:=by simpa using hi
  have ho0:(Builtin.firstCells 8 0 (.slice ad 0 0)).run Tryz.prog w.drew=.ok ([]:List Value).toArray w.drew:=by
   cases ad<;>simp [Builtin.firstCells,loadCells,loadCellsFrom]
  obtain ⟨zs,hzl,hr⟩:=append_grow (ty:=50) (x:=ty T 68) Tryz.underlying50 Tryz.underlying50 (.inr ⟨_,rfl⟩) hIt hsrc ho0 (by omega) (hroom _ (by omega)) (by omega)
  simp only [h8] at hr hzl
  refine (ins_end 0 0 vc ad vb w _ _ hr).mono ?_
  rintro e' w' ⟨rfl,rfl⟩
  have hge:=grownCap_ge w (0 + 1) 0 68
  have hgm:=grownCap_le_maxLen w (0 + 1) 0 68 (by simp only [maxLen]; omega)
  have hG:Grow w S (w.drew.alloc (.cells ([]++new.toList.take 8++zs).toArray 68)) S:=⟨rfl,rfl,rfl,by simp,fun g' hg'=>hao w.drew _ g' (hI.lt g' hg'),fun _ h=>h,rfl⟩
  refine fin hG (ins_rowOk (A:=[]) (V:=new.toList.take 8) (D:=[]) (Y:=zs) hl hx hi (fun h=>absurd (hI.lt _ h) (by omega)) (e:=68) ?_ (by simpa using hge) hgm ?_ .nil (hV.mono' fun _ _ h=>h.grow hG) .nil)
  ·have:=han w.drew (.cells ([]++new.toList.take 8++zs).toArray 68)
   simpa using this
  ·rw [List.append_nil,List.nil_append,List.length_append,hsrc.l,hzl,←Nat.add_mul]; congr 1; omega
 ·have hne:vb≠g:=by
   rintro rfl
   have:=hI.sep 0 1 vb (by intro h; cases h) (by intro h; cases h) (by rw [hg0]; rfl) (by rw [hg1]; rfl)
   cases this
  have hgw:g < w.heap.size:=(Array.getElem?_eq_some_iff.1 hh).1
  have hnc':l.length * 8≤cap * 8:=Nat.mul_le_mul_right 8 hcap
  have hold:(cur.toList.take (l.length * 8)).length=l.length * 8:=by rw [List.length_take,Array.length_toList (xs:=cur)]; omega
  have hC1:∀ v∈cur.toList.take (l.length * 8),v.oneCell'=true:=fun v hv=>by
   obtain ⟨j,hj⟩:=List.getElem?_of_mem hv
   obtain ⟨c,_,hc⟩:=hf.getR hj
   exact hc.one
  have hil:i * 8≤l.length * 8:=Nat.mul_le_mul_right 8 hi
  have hA:F2 (PR w S) (l.flatten.take (i * 8)) (cur.toList.take (i * 8)):=by
   have:=hf.take (i * 8)
   rwa [List.take_take,Nat.min_eq_left hil] at this
  have hD:=hf.drop (i * 8)
  by_cases hend:i=l.length
  ·
   subst hend
   have hDe:F2 (PR w S) (l.flatten.drop (l.length * 8)) []:=by
    have e1:l.flatten.length=l.length * 8:=flatten_len hl
    rw [←e1,List.drop_length]; exact .nil
   by_cases hm:l.length + 1≤cap
   ·have hr:=append_room (ty:=50) (x:=ty T 68) Tryz.underlying50 Tryz.underlying50 (.inr ⟨_,rfl⟩) hIt hsrc hh hm (by
     show l.length * 8 + _≤_
     rw [hsrc.l,hcs]; have:=Nat.mul_le_mul_right 8 hm; omega)
    simp only [h8] at hr
    refine (ins_end l.length cap vc _ vb w _ _ hr).mono ?_
    rintro e' w' ⟨rfl,rfl⟩
    have hG:Grow w S (w.setRow g (cur.toList.take (l.length * 8)++new.toList.take 8++cur.toList.drop (l.length * 8 + (new.toList.take 8).length)).toArray) S:=.setRow hS
    refine fin hG (ins_rowOk (A:=cur.toList.take (l.length * 8)) (V:=new.toList.take 8) (D:=[]) (Y:=cur.toList.drop (l.length * 8 + (new.toList.take 8).length)) hl hx hi hS (e:=e) ?_ hm hmax ?_ (hA.mono' fun _ _ h=>h.grow hG) (hV.mono' fun _ _ h=>h.grow hG) (hDe.mono' fun _ _ h=>h.grow hG))
    ·refine (setRow_heap w g cur _ e (0,0) hh).trans ?_
     rw [List.append_nil]
    ·rw [List.append_nil,List.length_append,List.length_append,hsrc.l,List.length_drop,hold,Array.length_toList (xs:=cur),hcs]
     have:=Nat.mul_le_mul_right 8 hm; omega
   ·have ho0:(Builtin.firstCells 8 l.length (.slice (some ⟨g,0,none⟩) l.length cap)).run Tryz.prog w.drew=.ok (cur.toList.take (l.length * 8)).toArray w.drew:=by
     refine run_firstCells_some w.drew _ _ _ _ _ _ hold (fun j v hj=>?_)
     rw [List.getElem?_take] at hj
     split at hj
     ·rw [addr_add,Nat.zero_add,World.cell?_drew]
      simpa [World.cell?,hh] using hj
     ·cases hj
    obtain ⟨zs,hzl,hr⟩:=append_grow (ty:=50) (x:=ty T 68) Tryz.underlying50 Tryz.underlying50 (.inr ⟨_,rfl⟩) hIt hsrc ho0 (by omega) (hroom _ (by omega)) (by omega)
    simp only [h8] at hr hzl
    refine (ins_end l.length cap vc _ vb w _ _ hr).mono ?_
    rintro e' w' ⟨rfl,rfl⟩
    have hge:=grownCap_ge w (l.length + 1) cap 68
    have hgm:=grownCap_le_maxLen w (l.length + 1) cap 68 (by simp only [maxLen]; omega)
    have hG:Grow w S (w.drew.alloc (.cells (cur.toList.take (l.length * 8)++new.toList.take 8++zs).toArray 68)) S:=⟨rfl,rfl,rfl,by simp,fun g' hg'=>hao w.drew _ g' (hI.lt g' hg'),fun _ h=>h,rfl⟩
    refine fin hG (ins_rowOk (A:=cur.toList.take (l.length * 8)) (V:=new.toList.take 8) (D:=[]) (Y:=zs) hl hx hi (fun h=>absurd (hI.lt _ h) (by omega)) (e:=68) ?_ hge hgm ?_ (hA.mono' fun _ _ h=>h.grow hG) (hV.mono' fun _ _ h=>h.grow hG) (hDe.mono' fun _ _ h=>h.grow hG))
    ·have:=han w.drew (.cells (cur.toList.take (l.length * 8)++new.toList.take 8++zs).toArray 68)
     simpa using this
    ·rw [List.append_nil,List.length_append,List.length_append,hold,hsrc.l,hzl,←Nat.add_mul,←Nat.add_mul]; congr 1; omega
  ·have hi':i < l.length:=by omega
   by_cases hm:l.length + 1≤cap
   ·
    refine (ins_shift g l.length cap i vb vc cur new e en w hi' hm hmax hne hh hnh hcs hnew hC1 hV1).mono ?_
    rintro e' w' ⟨rfl,w1,hw1,hos,htape,hout,rfl⟩
    have hG1:Grow w S w1 S:=⟨hos,htape,hout,by rw [hw1]; exact Nat.le_refl _,fun g' _=>by rw [hw1],fun _ h=>h,rfl⟩
    have hh1:w1.heap[g]?=some (.cells cur e (0,0)):=by rw [hw1]; exact hh
    have hh2:=setRow_heap w1 g cur (cur.toList.take ((i + 1) * 8)++(cur.toList.take (l.length * 8)).drop (i * 8)++cur.toList.drop ((l.length + 1) * 8)).toArray e (0,0) hh1
    have hG:=(hG1.trans (.setRow hS)).trans (Grow.setRow (w:=w1.setRow g (cur.toList.take ((i + 1) * 8)++(cur.toList.take (l.length * 8)).drop (i * 8)++cur.toList.drop ((l.length + 1) * 8)).toArray) (cs:=(cur.toList.take (i * 8)++new.toList.take 8++((cur.toList.take (l.length * 8)).drop (i * 8)++cur.toList.drop ((l.length + 1) * 8))).toArray) hS)
    refine fin hG (ins_rowOk (A:=cur.toList.take (i * 8)) (V:=new.toList.take 8) (D:=(cur.toList.take (l.length * 8)).drop (i * 8)) (Y:=cur.toList.drop ((l.length + 1) * 8)) hl hx hi hS (e:=e) ?_ hm hmax ?_ (hA.mono' fun _ _ h=>h.grow hG) (hV.mono' fun _ _ h=>h.grow hG) (hD.mono' fun _ _ h=>h.grow hG))
    ·refine (setRow_heap _ g _ _ e (0,0) hh2).trans ?_
     rw [List.append_assoc (cur.toList.take (i * 8)++new.toList.take 8)]
    ·rw [List.length_append,List.length_append,List.length_append,hsrc.l,List.length_drop,List.length_drop,hold,List.length_take,Array.length_toList (xs:=cur),hcs]
     have:=Nat.mul_le_mul_right 8 hm; omega
   ·
    refine (ins_grow g l.length cap i vb vc cur new e en w hi' hcap (by omega) hn hh hnh hcs hnew hC1 hV1).mono ?_
    rintro e' w' ⟨G,R0,R1,rest,hGn,hGm,hrl,rfl,w1,hw1,hos,htape,hout,rfl⟩
    have hz:w1.heap.size=w.heap.size:=by rw [hw1]
    have hnS':¬ S.all w.heap.size:=fun h=>absurd (hI.lt _ h) (by omega)
    have hG1:Grow w S (w1.alloc (.cells R0 68)) S:=⟨hos,htape,hout,by simp [hz],fun g' hg'=>by rw [hao _ _ _ (by rw [hz]; exact hI.lt g' hg'),hw1],fun _ h=>h,rfl⟩
    have hh1:(w1.alloc (.cells R0 68)).heap[w.heap.size]?=some (.cells R0 68 (0,0)):=by have:=han w1 (.cells R0 68); rwa [hz] at this
    have hh2:=setRow_heap _ w.heap.size _ R1 _ (0,0) hh1
    have hG:=(hG1.trans (.setRow (cs:=R1) hnS')).trans (Grow.setRow (w:=(w1.alloc (.cells R0 68)).setRow w.heap.size R1) (cs:=(cur.toList.take (i * 8)++new.toList.take 8++(cur.toList.take (l.length * 8)).drop (i * 8)++rest).toArray) hnS')
    refine fin hG (ins_rowOk (A:=cur.toList.take (i * 8)) (V:=new.toList.take 8) (D:=(cur.toList.take (l.length * 8)).drop (i * 8)) (Y:=rest) hl hx hi hnS' (e:=68) ?_ hGn hGm ?_ (hA.mono' fun _ _ h=>h.grow hG) (hV.mono' fun _ _ h=>h.grow hG) (hD.mono' fun _ _ h=>h.grow hG))
    ·exact setRow_heap _ w.heap.size _ _ _ (0,0) hh2
    ·rw [List.length_append,List.length_append,List.length_append,hsrc.l,List.length_drop,hold,List.length_take,Array.length_toList (xs:=cur),hrl,Nat.sub_mul]
     have:=Nat.mul_le_mul_right 8 hGn; omega
end
end Go.Proofs.YtidkmoohgadjkaaGreat.E
namespace Go.Proofs.YtidkmoohgadjkaaGreat.E
open Go Go.Lib Go.RowKit
theorem run_clear_row {P:Program} (w:World) (t elem ty:TypeId) (z:Value) {k:Nat} (ht:P.underlying t=some (.slice elem)) (hv:∀ w,(zeroValue elem).run P w=.ok z w) (hz:z.cells.size=k) (h1:∀ v∈z.cells.toList,v.oneCell'=true) (g o n c:Nat) (hn:0 < n)
  (cur:Array Value) (e:TypeId) (hh:w.heap[g]?=some (.cells cur e (0,0))) (hle:o + n * k≤cur.size) :
  (Builtin.clear_ #[t] ty #[.slice (some ⟨g,o,none⟩) n c]).run P w=.ok (.tuple #[]) (w.setRow g (cur.toList.take o++(Builtin.zeroCells z.cells n).toList++cur.toList.drop (o + n * k)).toArray):=by
 have hl:(Builtin.zeroCells z.cells n).toList.length=n * k:=by rw [Array.length_toList,size_zeroCells,hz]
 have hst:=run_storeCells_at P g o e (Builtin.zeroCells z.cells n).toList 0 cur w hh (by rw [hl]; simpa using hle) (fun v hv=>by
  have hv:v∈Builtin.zeroCells z.cells n:=by simpa using hv
  obtain ⟨j,hj⟩:=Array.getElem?_of_mem hv
  obtain ⟨hj1,rfl⟩:=Array.getElem?_eq_some_iff.1 hj
  rw [size_zeroCells] at hj1
  have hp:0 < z.cells.size:=Nat.pos_of_ne_zero fun h0=>by rw [h0] at hj1; simp at hj1
  refine h1 _ ?_
  simp only [Builtin.zeroCells,Array.getElem_map,Array.getElem_range]
  rw [getElem!_pos z.cells (j % z.cells.size) (Nat.mod_lt _ hp)]
  simp)
 simp only [Nat.add_zero,hl] at hst
 obtain ⟨m,rfl⟩:∃ m,n=m + 1:=⟨n - 1,by omega⟩
 simp [Builtin.clear_,run_underlying ht,hv,hst]
theorem step_append_run {P:Program} {ops:Array Oper} {o:Oper} {a:Act} {w:World} {K:Act→World→Prop} {Q:Exit→Act→World→Prop} {E:Prop}
  (hg:o.guard=none) (d x:Operand) (dT sT:TypeId) (hop:o.op=Op.call { callee:=Callee.builtin Builtin.append,args := #[d,x],argTypes := #[dT,sT] })
  (v u:Value) (hd:a.eval d=v) (hx:a.eval x=u) {v':Value} {w':World} (hr:(Builtin.append_ #[dT,sT] o.type #[v,u]).run P w=.ok v' w') (hK:K (a.put o.dst v') w') :
  if Region.wanted o (yielded ops a.tmps)=true then Oper.wp P o a w K Q else E:=by
 have hw:Region.wanted o (yielded ops a.tmps)=true:=by simp [Region.wanted,hg]
 rw [if_pos hw]
 unfold Oper.wp
 simp only [execOp,hop,resolve,invoke,builtin,Sem.run_bind,Sem.run_pure,Result.andThen_ok,List.map_toArray,List.map_cons,List.map_nil,hd,hx,hr]
 exact hK
set_option maxHeartbeats 4000000 in
set_option maxRecDepth 100000 in
theorem del_one (g i m c:Nat) (cur:Array Value) (e:TypeId) (w:World) (hc:i + 1 + m≤c) (hc63:c≤9223372036854775807) (hg:w.heap[g]?=some (.cells cur e (0,0))) (hcs:cur.size=c * 8)
  (h1:∀ v∈cur.toList.take ((i + 1 + m) * 8),v.oneCell'=true) :
  Calls Tryz.prog 171 #[.slice (some ⟨g,0,none⟩) (i + 1 + m) c,.int .i64 i,.int .i64 ((i:Int) + 1)] w fun x w'=>x=.returned (.slice (some ⟨g,0,none⟩) (i + m) c) ∧
   ∃ (w1:World) (R1:Array Value) (rest:List Value),rest.length=(c - (i + m)) * 8∧w1.heap=w.heap∧w1.os=w.os∧w1.tape=w.tape∧w1.output=w.output∧w'=(w1.setRow g R1).setRow g (cur.toList.take (i * 8)++(cur.toList.take ((i + 1 + m) * 8)).drop ((i + 1) * 8)++rest).toArray:=by
 have hI:=(T_ok 68).known (of_decide_eq_true (by kernel_rfl))
 have h8:(ty T 68).sz=8:=by kernel_rfl
 obtain ⟨M,hM⟩:∃ M,M=(cur.toList.take ((i + 1 + m) * 8)).drop ((i + 1) * 8):=⟨_,rfl⟩
 have lM:M.length=m * 8:=by rw [hM,List.length_drop,List.length_take,Array.length_toList (xs:=cur),hcs]; omega
 have hM1:∀ v∈M,v.oneCell'=true:=fun v hv=>h1 v (by rw [hM] at hv; exact List.mem_of_mem_drop hv)
 obtain ⟨Ad,hAd,hsrc⟩:∃ Ad:Addr,(if c=i + 1 then (⟨g,0,none⟩:Addr) else ⟨g,(i + 1) * 8,none⟩)=Ad∧∀ (W:World),W.heap=w.heap→Src Tryz.prog W 8 m (.slice (some Ad) m (c - (i + 1))) M:=by
  refine ⟨_,rfl,fun W hW=>?_⟩
  have hcell:∀ (W:World),W.heap=w.heap→∀ j v,M[j]?=some v→W.cell? ((if c=i + 1 then (⟨g,0,none⟩:Addr) else ⟨g,(i + 1) * 8,none⟩).add j)=some v:=fun W hW j v hj=>by
   by_cases h:c=i + 1
   ·have h0:M=[]:=List.eq_nil_of_length_eq_zero (by rw [lM]; omega)
    rw [h0] at hj; simp at hj
   ·rw [if_neg h,addr_add,World.cell?,hW,hg]
    rw [hM,List.getElem?_drop,List.getElem?_take] at hj
    split at hj
    ·simpa using hj
    ·cases hj
  exact ⟨fun w'=>by simp [Builtin.lenOf],run_firstCells_some W _ _ _ _ _ _ lM (hcell W hW),run_firstCells_some W.drew _ _ _ _ _ _ lM (hcell W.drew hW),lM,hM1⟩
 obtain ⟨R1,hR1⟩:∃ R1:Array Value,R1=(cur.toList.take (i * 8)++M++cur.toList.drop (i * 8 + m * 8)).toArray:=⟨_,rfl⟩
 have hap:=append_room (ty:=50) (x:=ty T 68) Tryz.underlying50 Tryz.underlying50 (.inr ⟨_,rfl⟩) hI (hsrc w.drew rfl) (g:=g) (n:=i) (cap:=c) (cur:=cur) (e':=e) hg (by omega) (by
  show i * 8 + _≤_
  rw [lM,hcs]; omega)
 simp only [h8,lM] at hap
 rw [←hR1] at hap
 obtain ⟨i0,z,hi0,hzs,hzb,hz0,hzc,_⟩:=hI.info
 have hzl:z.cells.size=8:=by
  have:=hI.z
  rw [←Array.length_toList,hzc]; rfl
 obtain ⟨R2,hR2⟩:∃ R2:Array Value,R2=(R1.toList.take ((i + m) * 8)++(Builtin.zeroCells z.cells 1).toList++R1.toList.drop ((i + m) * 8 + 1 * 8)).toArray:=⟨_,rfl⟩
 have sR1:R1.size=c * 8:=by
  rw [hR1,List.size_toArray,List.length_append,List.length_append,lM,List.length_drop,List.length_take,Array.length_toList (xs:=cur),hcs]; omega
 have hzv:∀ w,(zeroValue 68).run Tryz.prog w=.ok z w:=fun w=>by simp [zeroValue,typeInfo,hi0,hz0]
 have hcl:∀ (W:World),W.heap=(w.setRow g R1).heap→(Builtin.clear_ #[50] 0 #[.slice (some ⟨g,(i + m) * 8,none⟩) 1 (c - (i + m))]).run Tryz.prog W=.ok (.tuple #[]) (W.setRow g R2):=fun W hW=>by
  rw [hR2]
  exact run_clear_row W _ _ _ z Tryz.underlying50 hzv hzl (by rw [hzc]; exact fun v hv=>flat_one (hI.fl v hv)) g ((i + m) * 8) 1 _ (by omega) R1 e (by rw [hW]; exact setRow_heap _ _ _ _ _ _ hg) (by rw [sR1]; omega)
 have eR2:R2=(cur.toList.take (i * 8)++M++((Builtin.zeroCells z.cells 1).toList++R1.toList.drop ((i + m) * 8 + 1 * 8))).toArray:=by
  rw [hR2]
  congr 1
  have hl:(cur.toList.take (i * 8)++M).length=(i + m) * 8:=by
   rw [List.length_append,lM,List.length_take,Array.length_toList (xs:=cur),hcs]; omega
  have:R1.toList.take ((i + m) * 8)=cur.toList.take (i * 8)++M:=by
   rw [hR1,List.toList_toArray,←hl,List.take_left]
  rw [this]; simp
 have lR:((Builtin.zeroCells z.cells 1).toList++R1.toList.drop ((i + m) * 8 + 1 * 8)).length=(c - (i + m)) * 8:=by
  rw [List.length_append,Array.length_toList,size_zeroCells,hzl,List.length_drop,Array.length_toList (xs:=R1),sR1]; omega
 have hres:Hold (R2=(cur.toList.take (i * 8)++M++((Builtin.zeroCells z.cells 1).toList++R1.toList.drop ((i + m) * 8 + 1 * 8))).toArray):=⟨eR2⟩
 have lR':Hold (((Builtin.zeroCells z.cells 1).toList++R1.toList.drop ((i + m) * 8 + 1 * 8)).length=(c - (i + m)) * 8):=⟨lR⟩
 have hc1:=hcl (w.drew.setRow g R1) rfl
 have hc2:=hcl (w.drew.setRow g R1).drew rfl
 have h9:c≤9223372036854775807:=hc63
 have hn1:¬ ((i:Int)=(i:Int) + 1):=by omega
 have hb1:(i:Int) + 1≤((i + 1 + m:Nat):Int):=by omega
 have hb2:((i + 1 + m:Nat):Int)≤(c:Int):=by omega
 have ht:((i:Int) + 1).toNat=i + 1:=by omega
 have hic:i≤c:=by omega
 have hi1:(i:Int)≤(i:Int) + 1:=by omega
 have hi2:i + 1≤c:=by omega
 have hcim:¬ (c=i + m):=by omega
 have hle1:(i:Int) + (m:Int)≤(i:Int) + 1 + (m:Int):=by omega
 have hle2:(i:Int) + 1 + (m:Int)≤(c:Int):=by omega
 have hsub:i + 1 + m - (i + m)=1:=by omega
 have h0i:(0:Int)≤(i:Int) + 1:=by omega
 have hbm:(i:Int) + 1≤(i:Int) + 1 + (m:Int):=by omega
 rw [←hM]
 clear hI hM hsrc hR1 hR2 hcl hzl hzc hz0 hzv hi0 hzs hzb sR1 eR2 lR hM1 h1 lM h8
 by_cases hce:c=i + 1
 ·rw [if_pos hce] at hAd
  subst hAd
  subst hce
  obtain rfl:m=0:=by omega
  rw [Nat.sub_self] at hap
  simp only [Nat.add_zero,Nat.add_sub_cancel_left] at hap hc1 hc2 hres lR' hb1 hb2 hbm hcim hle1 hle2 hsub ⊢
  go_enter Tryz.func171,Tryz.ntmps171
  go_wp2
  go_region_law (refine step_append_run rfl _ _ 50 50 rfl _ _ (by simp [Act.eval,Act.put]) (by simp [Act.eval,Act.put]) hap ?_)
  go_wp2
  go_ret
  exact ⟨rfl,w.drew,R1,_,lR'.h,rfl,rfl,rfl,rfl,by rw [←hres.h]⟩
 ·rw [if_neg hce] at hAd
  subst hAd
  go_enter Tryz.func171,Tryz.ntmps171
  go_wp2
  go_region_law (refine step_append_run rfl _ _ 50 50 rfl _ _ (by simp [Act.eval,Act.put]) (by simp [Act.eval,Act.put]) hap ?_)
  go_wp2
  go_ret
  exact ⟨rfl,w.drew,R1,_,lR'.h,rfl,rfl,rfl,rfl,by rw [←hres.h]⟩
end Go.Proofs.YtidkmoohgadjkaaGreat.E
set_option maxHeartbeats 4000000
namespace Go.Proofs.YtidkmoohgadjkaaGreat.E
open Go Go.Lib Go.RowKit
theorem delete_callOk {l:List (List PC)} {i:Nat} (hl:∀ r∈l,r.length=8) (hi:i < l.length) (hn:l.length≤1000000) :
  CallOk Tryz.prog 171 [.one (.own 0),iv i,iv ((i:Int) + 1)] [.rows 8 l] (.one (.own 1)) [.dead,.rows 8 (l.take i++l.drop (i + 1))]:=by
 refine ⟨⟨_,_,Tryz.func171,rfl,rfl⟩,fun w S inj vs hv hI hfree=>?_⟩
 cases hv with
 | cons h0 hv =>
 cases hv with
 | cons h1 hv =>
 cases hv with
 | cons h2 hv =>
 cases hv
 obtain ⟨v0,g0,hg0,hro0⟩:=hI.rows (b:=0) (k:=8) (l:=l) rfl
 have e0:=(h0.cellv (by simp)).ownv hg0
 have e1:=h1.flatv.1
 have e2:=h2.flatv.1
 subst e0 e1 e2
 rcases hro0 with ⟨rfl,_⟩ | ⟨g,cap,cur,e,_,rfl,rfl,hS,hh,hcap,hmax,hcs,_,hf⟩
 ·simp at hi
 obtain ⟨m,hm⟩:∃ m,l.length=i + 1 + m:=⟨l.length - (i + 1),by omega⟩
 have hC1:∀ v∈cur.toList.take ((i + 1 + m) * 8),v.oneCell'=true:=fun v hv=>by
  rw [←hm] at hv
  obtain ⟨j,hj⟩:=List.getElem?_of_mem hv
  obtain ⟨c,_,hc⟩:=hf.getR hj
  exact hc.one
 rw [hm] at hcap ⊢
 rw [hm] at hf
 refine (del_one g i m cap cur e w hcap hmax hh hcs hC1).mono ?_
 rintro e' w' ⟨rfl,w1,R1,rest,hrl,hw1,hos,htape,hout,rfl⟩
 have hG1:Grow w S w1 S:=⟨hos,htape,hout,by rw [hw1]; exact Nat.le_refl _,fun g' _=>by rw [hw1],fun _ h=>h,rfl⟩
 have hh1:w1.heap[g]?=some (.cells cur e (0,0)):=by rw [hw1]; exact hh
 have hh2:=setRow_heap w1 g cur R1 e (0,0) hh1
 have hG:=(hG1.trans (.setRow (cs:=R1) hS)).trans (Grow.setRow (w:=w1.setRow g R1) (cs:=(cur.toList.take (i * 8)++(cur.toList.take ((i + 1 + m) * 8)).drop ((i + 1) * 8)++rest).toArray) hS)
 obtain ⟨f1,_⟩:=flat_take hl i
 obtain ⟨_,f2⟩:=flat_take hl (i + 1)
 have hlen:(l.take i++l.drop (i + 1)).length=i + m:=by rw [List.length_append,List.length_take,List.length_drop]; omega
 have hF:F2 (PR w S) (l.take i++l.drop (i + 1)).flatten (cur.toList.take (i * 8)++(cur.toList.take ((i + 1 + m) * 8)).drop ((i + 1) * 8)):=by
  rw [List.flatten_append,f1,f2]
  refine F2.app ?_ (hf.drop _)
  have:=hf.take (i * 8)
  rwa [List.take_take,Nat.min_eq_left (by omega)] at this
 have hR:RowOk ((w1.setRow g R1).setRow g (cur.toList.take (i * 8)++(cur.toList.take ((i + 1 + m) * 8)).drop ((i + 1) * 8)++rest).toArray) S 8 (l.take i++l.drop (i + 1)) (.slice (some ⟨g,0,none⟩) (i + m) cap) (some g):=by
  refine .inr ⟨g,cap,_,e,by decide,rfl,by rw [hlen],hS,setRow_heap _ g _ _ e (0,0) hh2,by rw [hlen]; omega,hmax,?_,fun r hr=>?_,?_⟩
  ·have:=hF.len
   rw [List.size_toArray,List.length_append,←hF.len,flatten_len (k:=8) (fun r hr=>?_),hlen,hrl,Nat.sub_mul]
   ·have:=Nat.mul_le_mul_right 8 (show i + m≤cap by omega); omega
   ·rcases List.mem_append.1 hr with hr | hr
    ·exact hl r (List.mem_of_mem_take hr)
    ·exact hl r (List.mem_of_mem_drop hr)
  ·rcases List.mem_append.1 hr with hr | hr
   ·exact hl r (List.mem_of_mem_take hr)
   ·exact hl r (List.mem_of_mem_drop hr)
  ·have hl8:(cur.toList.take (i * 8)++(cur.toList.take ((i + 1 + m) * 8)).drop ((i + 1) * 8)).length=(l.take i++l.drop (i + 1)).length * 8:=by
    rw [←hF.len]
    exact flatten_len (k:=8) (fun r hr=>by
     rcases List.mem_append.1 hr with hr | hr
     ·exact hl r (List.mem_of_mem_take hr)
     ·exact hl r (List.mem_of_mem_drop hr))
   rw [List.toList_toArray,←hl8,List.take_left]
   exact hF.mono' fun _ _ h=>h.grow hG
 obtain ⟨inj',hd⟩:=fin_own (n:=1) hI rfl hfree hG hR
 exact ⟨_,S,inj',rfl,hd⟩
end Go.Proofs.YtidkmoohgadjkaaGreat.E
namespace Go.Proofs.YtidkmoohgadjkaaGreat
open Go E
def ins_s (l:List Item) (i:Int) (x:Item):Option (List Item):=chk (decide (0≤i∧i≤(l.length:Int)∧l.length≤1000000)) (some (l.take i.toNat++x::l.drop i.toNat))
theorem ins_c {X:Task→Prop} (hX:Closed X) {l r:List Item} {i:Int} {x:Item} {Q:A→List Blk→Prop} (h:ins_s l i x=some r) (hQ:Q (.one (.own 2)) [.dead,.dead,.rows 8 (r.map Item.row)]) :
  X (.call 172 [.one (.own 0),iv i,.one (.own 1)] [.rows 8 (l.map Item.row),.rows 8 [x.row]] Q):=by
 unfold ins_s at h
 obtain ⟨d,h⟩:=chk_some h
 injection h with h; subst h
 obtain ⟨h0,h1,h2⟩:=of_decide_eq_true d
 obtain ⟨n,rfl⟩:=Int.eq_ofNat_of_zero_le h0
 have hc:=insert_callOk (l:=l.map Item.row) (x:=x.row) (i:=n) (fun r hr=>by obtain ⟨y,_,rfl⟩:=List.mem_map.1 hr; rfl) rfl (by rw [List.length_map]; omega) (by rw [List.length_map]; exact h2)
 rw [Int.toNat_natCast,List.map_append,List.map_cons,List.map_take,List.map_drop] at hQ
 exact prim_call hX hc hQ
def del_s (l:List Item) (i:Int):Option (List Item):=chk (decide (0≤i∧i < (l.length:Int)∧l.length≤1000000)) (some (l.take i.toNat++l.drop (i.toNat + 1)))
theorem del_c {X:Task→Prop} (hX:Closed X) {l r:List Item} {i:Int} {Q:A→List Blk→Prop} (h:del_s l i=some r) (hQ:Q (.one (.own 1)) [.dead,.rows 8 (r.map Item.row)]) :
  X (.call 171 [.one (.own 0),iv i,iv (wr .i64 (i + 1))] [.rows 8 (l.map Item.row)] Q):=by
 unfold del_s at h
 obtain ⟨d,h⟩:=chk_some h
 injection h with h; subst h
 obtain ⟨h0,h1,h2⟩:=of_decide_eq_true d
 obtain ⟨n,rfl⟩:=Int.eq_ofNat_of_zero_le h0
 have hc:=delete_callOk (l:=l.map Item.row) (i:=n) (fun r hr=>by obtain ⟨y,_,rfl⟩:=List.mem_map.1 hr; rfl) (by rw [List.length_map]; omega) (by rw [List.length_map]; exact h2)
 rw [Int.toNat_natCast,List.map_append,List.map_take,List.map_drop] at hQ
 rw [wr64 (by omega) (by omega)]
 exact prim_call hX hc hQ
end Go.Proofs.YtidkmoohgadjkaaGreat
set_option maxHeartbeats 4000000
namespace Go.Proofs.YtidkmoohgadjkaaGreat
open Go.Shelf Go.RowKit Go.Maps Go.Sort
def keysL_ren:Go.Shelf.Ren:=⟨fun | 7=>201 | 10=>231 | n=>n,fun | 23=>228 | 26=>9 | 3=>28 | 28=>232 | 0=>0 | 27=>231 | 33=>141 | 4=>4 | n=>n,fun | n=>n⟩
theorem keysL:SlLaysZ.n7 Tryz.prog keysL_ren:={
 mixed:=by kernel_rfl
 f7:=⟨Tryz.f201.name,by decide,Tryz.func201.trans (congrArg some (by kernel_rfl))⟩
 f10:=⟨Tryz.f231.name,by decide,Tryz.func231.trans (congrArg some (by kernel_rfl))⟩
 t0:=Tryz.underlying0
 a0:=Tryz.isAgg0
 z0:=Tryz.sizeOf0
 v0:=Tryz.zeroValue0
 t4:=Tryz.underlying4
 a4:=Tryz.isAgg4
 z4:=Tryz.sizeOf4
 v4:=Tryz.zeroValue4
 t23:=Tryz.underlying228
 a23:=Tryz.isAgg228
 z23:=Tryz.sizeOf228
 v23:=Tryz.zeroValue228
 t26:=Tryz.underlying9
 a26:=Tryz.isAgg9
 z26:=Tryz.sizeOf9
 v26:=Tryz.zeroValue9
 t27:=Tryz.underlying231
 a27:=Tryz.isAgg231
 z27:=Tryz.sizeOf231
 v27:=Tryz.zeroValue231
 t28:=Tryz.underlying232
 a28:=Tryz.isAgg232
 z28:=Tryz.sizeOf232
 v28:=Tryz.zeroValue232
 t33:=Tryz.underlying141
 a33:=Tryz.isAgg141
 z33:=Tryz.sizeOf141
 v33:=Tryz.zeroValue141 }
def sortedL_ren:Go.Shelf.Ren:=⟨fun | 6=>200 | 8=>229 | 9=>230 | 11=>244 | 13=>246 | 12=>245 | 23=>260 | 24=>261 | 14=>251 | 15=>252 | 16=>253 | 17=>254 | 18=>255 | 19=>256 | 20=>257 | 21=>258 | 22=>259 | 25=>266 | 26=>267 | 27=>268 | 28=>269 | 29=>270 | 30=>240 | 31=>271 | n=>n,fun | 26=>9 | 28=>232 | 24=>151 | 0=>0 | 3=>3 | 37=>246 | 48=>268 | 50=>270 | 4=>4 | 40=>262 | 39=>261 | 45=>204 | 5=>5 | 9=>9 | 51=>274 | 55=>193 | 57=>279 | 58=>280 | 33=>141 | n=>n,fun | n=>n⟩
theorem sortedL:SlLaysZ.n6 Tryz.prog sortedL_ren:={
 mixed:=by kernel_rfl
 f6:=⟨Tryz.f200.name,by decide,Tryz.func200.trans (congrArg some (by kernel_rfl))⟩
 f8:=⟨Tryz.f229.name,by decide,Tryz.func229.trans (congrArg some (by kernel_rfl))⟩
 f11:=⟨Tryz.f244.name,by decide,Tryz.func244.trans (congrArg some (by kernel_rfl))⟩
 t0:=Tryz.underlying0
 a0:=Tryz.isAgg0
 z0:=Tryz.sizeOf0
 v0:=Tryz.zeroValue0
 t24:=Tryz.underlying151
 a24:=Tryz.isAgg151
 z24:=Tryz.sizeOf151
 v24:=Tryz.zeroValue151
 t26:=Tryz.underlying9
 a26:=Tryz.isAgg9
 z26:=Tryz.sizeOf9
 v26:=Tryz.zeroValue9
 t28:=Tryz.underlying232
 a28:=Tryz.isAgg232
 z28:=Tryz.sizeOf232
 v28:=Tryz.zeroValue232
 i26:=by kernel_rfl }
def sortL_ren:Go.Shelf.Ren:=⟨fun | 6=>230 | 8=>246 | 9=>245 | 19=>260 | 20=>261 | 21=>251 | 22=>252 | 23=>253 | 24=>254 | 25=>255 | 26=>256 | 27=>257 | 28=>258 | 29=>259 | 36=>266 | 31=>267 | 32=>268 | 37=>269 | 38=>270 | 39=>240 | 41=>271 | n=>n,fun | 27=>151 | 29=>9 | 3=>3 | 32=>246 | 26=>151 | 0=>0 | 44=>268 | 46=>270 | 4=>4 | 36=>262 | 35=>261 | 41=>204 | 5=>5 | 9=>9 | 53=>274 | 57=>193 | 63=>279 | 64=>280 | n=>n,fun | n=>n⟩
theorem sortL:SlLaysM.n6 Tryz.prog sortL_ren:={
 mixed:=by kernel_rfl
 f6:=⟨Tryz.f230.name,by decide,Tryz.func230.trans (congrArg some (by kernel_rfl))⟩
 f8:=Tryz.func246.trans (congrArg some (by kernel_rfl))
 f9:=⟨Tryz.f245.name,by decide,Tryz.func245.trans (congrArg some (by kernel_rfl))⟩
 f19:=Tryz.func260.trans (congrArg some (by kernel_rfl))
 f20:=Tryz.func261.trans (congrArg some (by kernel_rfl))
 f21:=⟨Tryz.f251.name,by decide,Tryz.func251.trans (congrArg some (by kernel_rfl))⟩
 f22:=⟨Tryz.f252.name,by decide,Tryz.func252.trans (congrArg some (by kernel_rfl))⟩
 f23:=⟨Tryz.f253.name,by decide,Tryz.func253.trans (congrArg some (by kernel_rfl))⟩
 f24:=⟨Tryz.f254.name,by decide,Tryz.func254.trans (congrArg some (by kernel_rfl))⟩
 f25:=⟨Tryz.f255.name,by decide,Tryz.func255.trans (congrArg some (by kernel_rfl))⟩
 f26:=⟨Tryz.f256.name,by decide,Tryz.func256.trans (congrArg some (by kernel_rfl))⟩
 f27:=⟨Tryz.f257.name,by decide,Tryz.func257.trans (congrArg some (by kernel_rfl))⟩
 f28:=⟨Tryz.f258.name,by decide,Tryz.func258.trans (congrArg some (by kernel_rfl))⟩
 f29:=⟨Tryz.f259.name,by decide,Tryz.func259.trans (congrArg some (by kernel_rfl))⟩
 f31:=Tryz.func267.trans (congrArg some (by kernel_rfl))
 f32:=Tryz.func268.trans (congrArg some (by kernel_rfl))
 f36:=⟨Tryz.f266.name,by decide,Tryz.func266.trans (congrArg some (by kernel_rfl))⟩
 f37:=⟨Tryz.f269.name,by decide,Tryz.func269.trans (congrArg some (by kernel_rfl))⟩
 f38:=⟨Tryz.f270.name,by decide,Tryz.func270.trans (congrArg some (by kernel_rfl))⟩
 f39:=⟨Tryz.f240.name,by decide,Tryz.func240.trans (congrArg some (by kernel_rfl))⟩
 f41:=⟨Tryz.f271.name,by decide,Tryz.func271.trans (congrArg some (by kernel_rfl))⟩
 t0:=Tryz.underlying0
 a0:=Tryz.isAgg0
 z0:=Tryz.sizeOf0
 v0:=Tryz.zeroValue0
 t3:=Tryz.underlying3
 a3:=Tryz.isAgg3
 z3:=Tryz.sizeOf3
 v3:=Tryz.zeroValue3
 t4:=Tryz.underlying4
 a4:=Tryz.isAgg4
 z4:=Tryz.sizeOf4
 v4:=Tryz.zeroValue4
 t5:=Tryz.underlying5
 a5:=Tryz.isAgg5
 z5:=Tryz.sizeOf5
 v5:=Tryz.zeroValue5
 t9:=Tryz.underlying9
 a9:=Tryz.isAgg9
 z9:=Tryz.sizeOf9
 v9:=Tryz.zeroValue9
 t26:=Tryz.underlying151
 a26:=Tryz.isAgg151
 z26:=Tryz.sizeOf151
 v26:=Tryz.zeroValue151
 t27:=Tryz.underlying151
 a27:=Tryz.isAgg151
 z27:=Tryz.sizeOf151
 v27:=Tryz.zeroValue151
 t29:=Tryz.underlying9
 a29:=Tryz.isAgg9
 z29:=Tryz.sizeOf9
 v29:=Tryz.zeroValue9
 t32:=Tryz.underlying246
 a32:=Tryz.isAgg246
 z32:=Tryz.sizeOf246
 v32:=Tryz.zeroValue246
 t35:=Tryz.underlying261
 a35:=Tryz.isAgg261
 z35:=Tryz.sizeOf261
 v35:=Tryz.zeroValue261
 t36:=Tryz.underlying262
 a36:=Tryz.isAgg262
 z36:=Tryz.sizeOf262
 v36:=Tryz.zeroValue262
 t41:=Tryz.underlying204
 a41:=Tryz.isAgg204
 z41:=Tryz.sizeOf204
 v41:=Tryz.zeroValue204
 t44:=Tryz.underlying268
 a44:=Tryz.isAgg268
 z44:=Tryz.sizeOf268
 v44:=Tryz.zeroValue268
 t46:=Tryz.underlying270
 a46:=Tryz.isAgg270
 z46:=Tryz.sizeOf270
 v46:=Tryz.zeroValue270
 t53:=Tryz.underlying274
 a53:=Tryz.isAgg274
 z53:=Tryz.sizeOf274
 v53:=Tryz.zeroValue274
 t57:=Tryz.underlying193
 a57:=Tryz.isAgg193
 z57:=Tryz.sizeOf193
 v57:=Tryz.zeroValue193
 t63:=Tryz.underlying279
 a63:=Tryz.isAgg279
 z63:=Tryz.sizeOf279
 v63:=Tryz.zeroValue279
 t64:=Tryz.underlying280
 a64:=Tryz.isAgg280
 z64:=Tryz.sizeOf280
 v64:=Tryz.zeroValue280 }
theorem sortsL (m:Nat):AnyZ.SortsIn Tryz.prog sortedL_ren Fence.wide m :=
 ⟨fun blk off cap ss W hH hblk hsz=>callsIn_wide.2 (AnyM.slices_Sort_string sortL blk off cap ss W hH hblk hsz),fun p cap W=>callsIn_wide.2 (AnyM.slices_Sort_string_none sortL p cap W)⟩
theorem sortedL_calls {H:Type} (Bm b nn:Nat) (D0:DataW H) (R:Value→Option (DataW H × List MemPlace)) (w:World) (hBm:Bm < w.heap.size) (hm:w.cell? ⟨Bm,0,none⟩=some (.map (some b))) (hown:w.ownsMap Tryz.prog 9 R b nn D0) (hmax:Maps.size D0≤maxLen) (hbytes:Maps.size D0 * 16≤140737488355328) :
  Calls Tryz.prog 200 #[.func (.func 231) #[] #[.pointer (some ⟨Bm,0,none⟩)]] w fun e w'=>∃ (v:Value) (ss:List (List UInt8)),e=.returned v∧ss.Perm (strKeys D0) ∧
   w'.ownsRow w.heap.size 9 1 v ss.length ((ss.mergeSort (fun x y=>decide (x≤y))).map encStr)∧(v=.slice none 0 0↔ss=[])∧Below w.heap.size w w':=by
 have hseq:SeqGives Fence.wide 2 Tryz.prog 231 #[.pointer (some ⟨Bm,0,none⟩)] encStr (fun ss=>ss.Perm (strKeys D0)) (Maps.size D0) w :=
  AnyZ.keys_gives (ρ:=keysL_ren) { keysL with } Fence.wide _ trivial rfl (by omega) Bm b nn D0 _ hBm hm hown
 exact (callsIn_wide (n:=5)).1 (AnyZ.sorted_in sortedL Fence.wide 5 trivial trivial trivial trivial rfl (by omega) (sortsL _) (enters_of Tryz.func230 (by kernel_rfl) rfl) 231 #[.pointer (some ⟨Bm,0,none⟩)] trivial (enters_of Tryz.func231 (by kernel_rfl) rfl) _ _ hmax hbytes _ hseq)
end Go.Proofs.YtidkmoohgadjkaaGreat
namespace Go.Proofs.YtidkmoohgadjkaaGreat.E
open Go Go.Shelf Go.RowKit Go.Maps Go.Sort Go.Lib
def sortS (l:List ByteArray):List ByteArray:=((l.map fun s=>s.data.toList).mergeSort leB).map fun b=>⟨b.toArray⟩
theorem sorted_callOk {ν:Type} {g:ν→List PC} {va:Bool} {l:List (ByteArray × ν)} (hn:l.length≤1000000) (hk:∀ e∈l,e.1.size≤maxLen) :
  CallOk Tryz.prog 200 [.one (.fn 231 [0])] [.box [.mp 1],.mp .str va (l.map fun e=>([.v (.string e.1)],g e.2))] (.one (.own 2))
   [.box [.mp 1],.mp .str va (l.map fun e=>([.v (.string e.1)],g e.2)),.rows 1 ((sortS (l.map (·.1))).map fun s=>[.v (.string s)])]:=by
 refine ⟨⟨_,_,Tryz.func200,rfl,rfl⟩,fun w S inj vs hv hI hfree=>?_⟩
 have hfr:∀ b,2≤b→inj b=.free:=fun b h=>hfree b h
 cases hv with
 | cons h0 hv =>
 cases hv
 obtain ⟨Bm,cs,ee,hB0,hBS,hBh,hBc⟩:=hI.live 0
 obtain ⟨b,es,clock,hM0,hMS,hMh,hMst,hMe⟩:=hI.live 1
 obtain ⟨mv,rfl⟩:∃ mv,cs=[mv]:=by
  cases hBc with
  | cons _ hr=>cases hr; exact ⟨_,rfl⟩
 have hm0:VR w S inj (.mp 1) mv:=by
  cases hBc with
  | cons h _=>exact h
 have hmv:mv=.map (some b):=by
  cases hm0 with
  | mp h =>
   rcases h with h | ⟨g',h,rfl⟩
   ·rw [hM0] at h; cases h
   ·rw [hM0] at h; injection h with h; rw [h]
 subst hmv
 have hfn:=h0.cellv (by simp)
 cases hfn with
 | fn hf =>
 cases hf with
 | cons hp hr =>
 cases hr
 obtain ⟨a,rfl,hp⟩:=hp
 obtain rfl:a=some ⟨Bm,0,none⟩:=by
  rcases hp with h | ⟨g',h,rfl⟩
  ·rw [hB0] at h; cases h
  ·rw [hB0] at h; injection h with h; rw [h]
 have hBw:Bm < w.heap.size:=(Array.getElem?_eq_some_iff.1 hBh).1
 have hcell:w.cell? ⟨Bm,0,none⟩=some (.map (some b)):=by simp [World.cell?,hBh]
 let R:Value→Option (DataW Unit × List MemPlace):=fun _=>some (.nil,[])
 have hkeys:F2 (fun (e:ByteArray × ν) (m:MapEntry)=>m.key=.string e.1) l es.toList:=by
  have:∀ {l:List (ByteArray × ν)} {ms:List MapEntry},F2 (fun (x:List PC × List PC) (m:MapEntry)=>KeyV .str x.1 m.key∧ValV w S va x.2 m.val) (l.map fun e=>([.v (.string e.1)],g e.2)) ms→F2 (fun (e:ByteArray × ν) (m:MapEntry)=>m.key=.string e.1) l ms:=by
   intro l
   induction l with
   | nil=>intro ms h; cases h; exact .nil
   | cons e l ih =>
    intro ms h
    cases h with
    | cons h1 h2 =>
     refine .cons ?_ (ih h2)
     obtain ⟨s,hs1,hs2⟩:=h1.1
     injection hs1 with hs1 _
     injection hs1 with hs1
     injection hs1 with hs1
     rw [hs2,hs1]
  exact this hMe
 have hlen:l.length=es.size:=by have:=hkeys.len; simpa using this
 have hrd:∀ {l:List (ByteArray × ν)} {ms:List MapEntry},F2 (fun (e:ByteArray × ν) (m:MapEntry)=>m.key=.string e.1) l ms→(∀ e∈l,e.1.size≤maxLen)→(∀ x∈ms,∃ y,Go.WideElems.rd Tryz.prog 9 R x=some y)∧ms.map (Go.WideElems.rg Tryz.prog 9 R)=l.map fun e=>(Lit.string e.1.data.toList,DataW.nil):=by
  intro l ms h
  induction h with
  | nil=>intro _; exact ⟨by simp,rfl⟩
  | @cons e m l ms h1 _ ih =>
   intro hk
   obtain ⟨i1,i2⟩:=ih fun e he=>hk e (by simp [he])
   have hy:Go.WideElems.rd Tryz.prog 9 R m=some (.string e.1.data.toList,.nil):=by
    unfold Go.WideElems.rd
    rw [h1,Go.WideMaps.keyOf_string_mk Tryz.underlying9 (hk e (by simp))]; rfl
   refine ⟨fun x hx=>?_,?_⟩
   ·rcases List.mem_cons.1 hx with rfl | hx
    ·exact ⟨_,hy⟩
    ·exact i1 x hx
   ·rw [List.map_cons,List.map_cons,i2,Go.WideElems.rg_of hy]
 obtain ⟨r1,r2⟩:=hrd hkeys hk
 have hsz:es.size≤maxLen:=by rw [←hlen]; unfold maxLen; omega
 have hown:w.ownsMap Tryz.prog 9 R b es.size (.map ((es.toList.map (Go.WideElems.rg Tryz.prog 9 R)).foldr DataW.insert [])):=⟨es,clock,hMh,⟨hsz,hMst,r1⟩,Nat.le_refl _,rfl⟩
 have hD:Maps.size (.map ((es.toList.map (Go.WideElems.rg Tryz.prog 9 R)).foldr DataW.insert []))=l.length:=by
  rw [Maps.size_eq,DataW.length_sorted,List.length_map,Array.length_toList,hlen]
 refine (sortedL_calls Bm b es.size _ R w hBw hcell hown (by rw [hD,hlen]; exact hsz) (by rw [hD]; omega)).mono ?_
 rintro e w' ⟨v',ss,rfl,hperm,hrow,hnil,hbel⟩
 have hks:ss.mergeSort leB=(l.map fun e=>e.1.data.toList).mergeSort leB:=by
  refine mergeSort_of_perm (hperm.trans ?_)
  rw [r2]
  show (List.map _ (List.foldr DataW.insert [] _)).Perm _
  refine ((Go.WideShapes.sorted_perm _).map _).trans ?_
  rw [List.map_map]
  exact List.Perm.refl _
 have hG:=below_grow (S:=S) hI.lt hbel
 have hsl:ss.length=(sortS (l.map (·.1))).length:=by
  unfold sortS
  rw [List.length_map,List.map_map]
  have:=congrArg List.length hks
  simpa using this
 have hrows:F2 (PR w' S) ((sortS (l.map (·.1))).map fun s=>[PC.v (.string s)]).flatten ((ss.mergeSort (fun x y=>decide (x≤y))).map encStr):=by
  have e1:ss.mergeSort (fun x y=>decide (x≤y))=(l.map fun e=>e.1.data.toList).mergeSort leB:=hks
  rw [e1]
  have e2:(l.map (·.1)).map (fun s=>s.data.toList)=l.map fun e=>e.1.data.toList:=by rw [List.map_map]; rfl
  unfold sortS
  rw [e2,List.map_map]
  generalize (l.map fun e=>e.1.data.toList).mergeSort leB=q
  induction q with
  | nil=>exact .nil
  | cons x q ih=>exact .cons (.v rfl) ih
 obtain ⟨a',c',g',rfl,hR,hg⟩:=own_row (S:=S) (l:=(sortS (l.map (·.1))).map fun s=>[PC.v (.string s)]) hI.lt hrow (by rw [List.length_map,hsl]) (by simp) (by decide) hrows
 have hle:=injAt_le (l:=.row (.slice a' ss.length c') g') (hfr 2 (Nat.le_refl _))
 refine ⟨_,S,injAt inj 2 (.row (.slice a' ss.length c') g'),rfl,hG,hle,fun b' hb' h=>?_,.ofc (.own (.inr ⟨g',by rw [injAt_same]; rfl⟩)),?_⟩
 ·rw [injAt_ne (by rcases h with h | h<;>simp at h<;>omega)]; exact hb'
 ·have e:E.look [.box [.mp 1],.mp .str va (l.map fun e=>([.v (.string e.1)],g e.2)),.rows 1 ((sortS (l.map (·.1))).map fun s=>[.v (.string s)])]=setB (E.look [.box [.mp 1],.mp .str va (l.map fun e=>([.v (.string e.1)],g e.2))]) 2 (.rows 1 ((sortS (l.map (·.1))).map fun s=>[.v (.string s)])):=by
   funext b'
   unfold setB
   split
   ·next h=>subst h; rfl
   ·next h=>rw [look_eq,look_eq]; match b',h with | 0,_=>rfl | 1,_=>rfl | 2,h=>exact absurd rfl h | b' + 3,_=>rfl
  rw [e]
  refine hI.set hG hle (fun _ h=>injAt_ne h) injAt_same (fun b' x _ hd hx=>?_) ⟨_,_,rfl,hR⟩ (fun _ b' x _ hd h1 h2=>?_) (fun x h=>Nat.lt_of_lt_of_le (hI.lt x h) hG.size)
  ·obtain ⟨h1,h2⟩:=(hI.live b').blk hd hx
   exact ⟨hbel.block x h2,h1⟩
  ·have:=((hI.live b').blk hd h2).2
   have:=hg x h1
   omega
end Go.Proofs.YtidkmoohgadjkaaGreat.E
namespace Go.Proofs.YtidkmoohgadjkaaGreat
open Go E
def sorted_s {ν:Type} (l:List (ByteArray × ν)):Option (List ByteArray):=chk (decide (l.length≤1000000)&&l.all fun e=>decide (e.1.size≤maxLen)) (some (sortS (l.map (·.1))))
theorem sorted_c {ν:Type} {g:ν→List PC} {va:Bool} {X:Task→Prop} (hX:Closed X) {l:List (ByteArray × ν)} {r:List ByteArray} {Q:A→List Blk→Prop} (h:sorted_s l=some r) (hQ:Q (.one (.own 2)) [.box [.mp 1],.mp .str va (l.map fun e=>(srw e.1,g e.2)),.rows 1 (r.map srw)]) :
  X (.call 200 [.one (.fn 231 [0])] [.box [.mp 1],.mp .str va (l.map fun e=>(srw e.1,g e.2))] Q):=by
 unfold sorted_s at h
 obtain ⟨d,h⟩:=chk_some h
 injection h with h; subst h
 rw [Bool.and_eq_true,List.all_eq_true] at d
 exact prim_call hX (sorted_callOk (of_decide_eq_true d.1) fun e he=>of_decide_eq_true (d.2 e he)) hQ
end Go.Proofs.YtidkmoohgadjkaaGreat
namespace Go.Proofs.YtidkmoohgadjkaaGreat.E
open Go Go.Lib Go.RowKit
end Go.Proofs.YtidkmoohgadjkaaGreat.E
namespace Go.Proofs.YtidkmoohgadjkaaGreat
open Go E
end Go.Proofs.YtidkmoohgadjkaaGreat
namespace Go.Proofs.YtidkmoohgadjkaaGreat
open Go E
theorem loop_lisx0 {R α:Type} {X:Task→Prop} {f m:Nat} {c:Code} {K:Ex→List A→List Blk→Prop} {r:R} (T':Int→List A) (S':Int→List Blk) (L:List α→Option R) (l:List α)
  (hstep:∀ (pre:List α) (x:α) (xs:List α) (i:Int),l=pre++x::xs→i=(pre.length:Int)→L (x::xs)=some r→(∀ (i':Int),i'=i + 1→L xs=some r→X (.loop f m c (T' i') (S' i') K))→X (.loop f m c (T' i) (S' i) K))
  (hend:∀ (i:Int),i=(l.length:Int)→L []=some r→X (.loop f m c (T' i) (S' i) K)) (h:L l=some r):X (.loop f m c (T' 0) (S' 0) K):=by
 have key:∀ (xs pre:List α) (i:Int),l=pre++xs→i=(pre.length:Int)→L xs=some r→X (.loop f m c (T' i) (S' i) K):=by
  intro xs
  induction xs with
  | nil=>intro pre i hl hi h; exact hend i (by rw [hl,hi]; simp) h
  | cons x xs ih=>intro pre i hl hi h; exact hstep pre x xs i hl hi h fun i' hi' h'=>by subst hi'; exact ih (pre++[x]) (i + 1) (by rw [hl]; simp) (by rw [hi]; simp) h'
 exact key l [] 0 rfl rfl h
theorem loop_list0 {R α:Type} {X:Task→Prop} {f m:Nat} {c:Code} {K:Ex→List A→List Blk→Prop} {r:R} (T':Int→List A) (S':Int→List Blk) (L:List α→Int→Option R) (l:List α)
  (hstep:∀ (pre:List α) (x:α) (xs:List α) (i:Int),l=pre++x::xs→i=(pre.length:Int)→L (x::xs) i=some r→(∀ (i':Int),i'=i + 1→L xs (i + 1)=some r→X (.loop f m c (T' i') (S' i') K))→X (.loop f m c (T' i) (S' i) K))
  (hend:∀ (i:Int),i=(l.length:Int)→L [] i=some r→X (.loop f m c (T' i) (S' i) K)) (h:L l 0=some r):X (.loop f m c (T' 0) (S' 0) K):=by
 have key:∀ (xs pre:List α) (i:Int),l=pre++xs→i=(pre.length:Int)→L xs i=some r→X (.loop f m c (T' i) (S' i) K):=by
  intro xs
  induction xs with
  | nil=>intro pre i hl hi h; exact hend i (by rw [hl,hi]; simp) h
  | cons x xs ih=>intro pre i hl hi h; exact hstep pre x xs i hl hi h fun i' hi' h'=>by subst hi'; exact ih (pre++[x]) (i + 1) (by rw [hl]; simp) (by rw [hi]; simp) h'
 exact key l [] 0 rfl rfl h
theorem loop_fuel0 {R:Type} {X:Task→Prop} {f m:Nat} {c:Code} {K:Ex→List A→List Blk→Prop} {r:R} (T':List A) (S':List Blk) (L:Nat→Option R)
  (h0:∀ (_:Unit),L 0=some r→False)
  (hstep:∀ (n:Nat),L (n + 1)=some r→(L n=some r→X (.loop f m c T' S' K))→X (.loop f m c T' S' K)) (N:Nat) (h:L N=some r):X (.loop f m c T' S' K):=by
 induction N with
 | zero=>exact (h0 () h).elim
 | succ N ih=>exact hstep N h fun h'=>ih h'
theorem join0 {R:Type} {X:Task→Prop} {f m:Nat} {c:Code} {K:Ex→List A→List Blk→Prop} {r:R} {G:Prop} {j:Option R} (T':List A) (S':List Blk)
  (main:Hold (j=some r→X (.rest f m c T' S' K))→G) (tail:j=some r→X (.rest f m c T' S' K)):G:=main ⟨tail⟩
theorem loop_lisx1 {R α:Type} {S0:Type} {X:Task→Prop} {f m:Nat} {c:Code} {K:Ex→List A→List Blk→Prop} {r:R} (T':Int→S0→List A) (S':Int→S0→List Blk) (L:List α→S0→Option R) (l:List α)
  (hstep:∀ (pre:List α) (x:α) (xs:List α) (i:Int) (a0:S0),l=pre++x::xs→i=(pre.length:Int)→L (x::xs) a0=some r→(∀ (i':Int) (b0:S0),i'=i + 1→L xs b0=some r→X (.loop f m c (T' i' b0) (S' i' b0) K))→X (.loop f m c (T' i a0) (S' i a0) K))
  (hend:∀ (i:Int) (a0:S0),i=(l.length:Int)→L [] a0=some r→X (.loop f m c (T' i a0) (S' i a0) K)) (a0:S0) (h:L l a0=some r):X (.loop f m c (T' 0 a0) (S' 0 a0) K):=by
 have key:∀ (xs pre:List α) (i:Int) (a0:S0),l=pre++xs→i=(pre.length:Int)→L xs a0=some r→X (.loop f m c (T' i a0) (S' i a0) K):=by
  intro xs
  induction xs with
  | nil=>intro pre i a0 hl hi h; exact hend i a0 (by rw [hl,hi]; simp) h
  | cons x xs ih=>intro pre i a0 hl hi h; exact hstep pre x xs i a0 hl hi h fun i' b0 hi' h'=>by subst hi'; exact ih (pre++[x]) (i + 1) b0 (by rw [hl]; simp) (by rw [hi]; simp) h'
 exact key l [] 0 a0 rfl rfl h
theorem join1 {R:Type} {S0:Type} {X:Task→Prop} {f m:Nat} {c:Code} {K:Ex→List A→List Blk→Prop} {r:R} {G:Prop} {j:S0→Option R} (T':S0→List A) (S':S0→List Blk)
  (main:Hold (∀ (a0:S0),j a0=some r→X (.rest f m c (T' a0) (S' a0) K))→G) (tail:∀ (a0:S0),j a0=some r→X (.rest f m c (T' a0) (S' a0) K)):G:=main ⟨tail⟩
theorem loop_lisz2 {R α:Type} {S0 S1:Type} {X:Task→Prop} {f m:Nat} {c:Code} {K:Ex→List A→List Blk→Prop} {r:R} (T':Int→S0→S1→List A) (S':Int→S0→S1→List Blk) (L:List α→S0→S1→Option R) (l pre0 l0:List α) (i0:Int) (hl0:l=pre0++l0) (hi0:i0=(pre0.length:Int))
  (hstep:∀ (pre:List α) (x:α) (xs:List α) (i:Int) (a0:S0) (a1:S1),l=pre++x::xs→i=(pre.length:Int)→L (x::xs) a0 a1=some r→(∀ (i':Int) (b0:S0) (b1:S1),i'=i + 1→L xs b0 b1=some r→X (.loop f m c (T' i' b0 b1) (S' i' b0 b1) K))→X (.loop f m c (T' i a0 a1) (S' i a0 a1) K))
  (hend:∀ (i:Int) (a0:S0) (a1:S1),i=(l.length:Int)→L [] a0 a1=some r→X (.loop f m c (T' i a0 a1) (S' i a0 a1) K)) (a0:S0) (a1:S1) (h:L l0 a0 a1=some r):X (.loop f m c (T' i0 a0 a1) (S' i0 a0 a1) K):=by
 have key:∀ (xs pre:List α) (i:Int) (a0:S0) (a1:S1),l=pre++xs→i=(pre.length:Int)→L xs a0 a1=some r→X (.loop f m c (T' i a0 a1) (S' i a0 a1) K):=by
  intro xs
  induction xs with
  | nil=>intro pre i a0 a1 hl hi h; exact hend i a0 a1 (by rw [hl,hi]; simp) h
  | cons x xs ih=>intro pre i a0 a1 hl hi h; exact hstep pre x xs i a0 a1 hl hi h fun i' b0 b1 hi' h'=>by subst hi'; exact ih (pre++[x]) (i + 1) b0 b1 (by rw [hl]; simp) (by rw [hi]; simp) h'
 exact key l0 pre0 i0 a0 a1 hl0 hi0 h
theorem loop_fuel2 {R:Type} {S0 S1:Type} {X:Task→Prop} {f m:Nat} {c:Code} {K:Ex→List A→List Blk→Prop} {r:R} (T':S0→S1→List A) (S':S0→S1→List Blk) (L:Nat→S0→S1→Option R)
  (h0:∀ (a0:S0) (a1:S1),L 0 a0 a1=some r→False)
  (hstep:∀ (n:Nat) (a0:S0) (a1:S1),L (n + 1) a0 a1=some r→(∀ (b0:S0) (b1:S1),L n b0 b1=some r→X (.loop f m c (T' b0 b1) (S' b0 b1) K))→X (.loop f m c (T' a0 a1) (S' a0 a1) K)) (N:Nat) (a0:S0) (a1:S1) (h:L N a0 a1=some r):X (.loop f m c (T' a0 a1) (S' a0 a1) K):=by
 induction N generalizing a0 a1 with
 | zero=>exact (h0 a0 a1 h).elim
 | succ N ih=>exact hstep N a0 a1 h fun b0 b1 h'=>ih b0 b1 h'
theorem loop_lisx3 {R α:Type} {S0 S1 S2:Type} {X:Task→Prop} {f m:Nat} {c:Code} {K:Ex→List A→List Blk→Prop} {r:R} (T':Int→S0→S1→S2→List A) (S':Int→S0→S1→S2→List Blk) (L:List α→S0→S1→S2→Option R) (l:List α)
  (hstep:∀ (pre:List α) (x:α) (xs:List α) (i:Int) (a0:S0) (a1:S1) (a2:S2),l=pre++x::xs→i=(pre.length:Int)→L (x::xs) a0 a1 a2=some r→(∀ (i':Int) (b0:S0) (b1:S1) (b2:S2),i'=i + 1→L xs b0 b1 b2=some r→X (.loop f m c (T' i' b0 b1 b2) (S' i' b0 b1 b2) K))→X (.loop f m c (T' i a0 a1 a2) (S' i a0 a1 a2) K))
  (hend:∀ (i:Int) (a0:S0) (a1:S1) (a2:S2),i=(l.length:Int)→L [] a0 a1 a2=some r→X (.loop f m c (T' i a0 a1 a2) (S' i a0 a1 a2) K)) (a0:S0) (a1:S1) (a2:S2) (h:L l a0 a1 a2=some r):X (.loop f m c (T' 0 a0 a1 a2) (S' 0 a0 a1 a2) K):=by
 have key:∀ (xs pre:List α) (i:Int) (a0:S0) (a1:S1) (a2:S2),l=pre++xs→i=(pre.length:Int)→L xs a0 a1 a2=some r→X (.loop f m c (T' i a0 a1 a2) (S' i a0 a1 a2) K):=by
  intro xs
  induction xs with
  | nil=>intro pre i a0 a1 a2 hl hi h; exact hend i a0 a1 a2 (by rw [hl,hi]; simp) h
  | cons x xs ih=>intro pre i a0 a1 a2 hl hi h; exact hstep pre x xs i a0 a1 a2 hl hi h fun i' b0 b1 b2 hi' h'=>by subst hi'; exact ih (pre++[x]) (i + 1) b0 b1 b2 (by rw [hl]; simp) (by rw [hi]; simp) h'
 exact key l [] 0 a0 a1 a2 rfl rfl h
theorem loop_fuel3 {R:Type} {S0 S1 S2:Type} {X:Task→Prop} {f m:Nat} {c:Code} {K:Ex→List A→List Blk→Prop} {r:R} (T':S0→S1→S2→List A) (S':S0→S1→S2→List Blk) (L:Nat→S0→S1→S2→Option R)
  (h0:∀ (a0:S0) (a1:S1) (a2:S2),L 0 a0 a1 a2=some r→False)
  (hstep:∀ (n:Nat) (a0:S0) (a1:S1) (a2:S2),L (n + 1) a0 a1 a2=some r→(∀ (b0:S0) (b1:S1) (b2:S2),L n b0 b1 b2=some r→X (.loop f m c (T' b0 b1 b2) (S' b0 b1 b2) K))→X (.loop f m c (T' a0 a1 a2) (S' a0 a1 a2) K)) (N:Nat) (a0:S0) (a1:S1) (a2:S2) (h:L N a0 a1 a2=some r):X (.loop f m c (T' a0 a1 a2) (S' a0 a1 a2) K):=by
 induction N generalizing a0 a1 a2 with
 | zero=>exact (h0 a0 a1 a2 h).elim
 | succ N ih=>exact hstep N a0 a1 a2 h fun b0 b1 b2 h'=>ih b0 b1 b2 h'
end Go.Proofs.YtidkmoohgadjkaaGreat
set_option maxHeartbeats 0
namespace Go.Proofs.YtidkmoohgadjkaaGreat
open Go E
noncomputable section
open Pred
def list_May_l1 (p0:List Item):List Item→Int→Option (Bool)
  | [],v1 =>
  some true
  | x1e::xs1,v1 =>
  (bnd (item_May_s x1e) fun y2 =>
   (br (!y2)
    (some false)
    (br (ltI 0 v1)
     (bnd (atL p0 (wr .i64 (v1 - 1))) fun x6 =>
      (br (!ltS x6.id x1e.id)
       (some false)
       (list_May_l1 p0 xs1 (v1 + 1) )))
     (list_May_l1 p0 xs1 (v1 + 1) ))))
def list_May_s (p0:List Item):Option (Bool) :=
 (chk (smallL p0)
   ((list_May_l1 p0) p0 0 ))
def list_find_l1 (p0:List Item) (p1:ByteArray):Nat→Int→Int→Option (Int × Bool)
  | 0,_,_=>none
  | fl1 + 1,v1,v2 =>
  (br (ltI v2 v1)
   (bnd (atL p0 (wr .i64 (shrI .u64 (wr .u64 (wr .i64 (v2 + v1))) 1))) fun x4 =>
    (br (!eqS x4.id x4.id)
     (br (!eqS p1 p1)
      (list_find_l1 p0 p1 fl1 (wr .i64 (shrI .u64 (wr .u64 (wr .i64 (v2 + v1))) 1)) v2)
      (list_find_l1 p0 p1 fl1 v1 (wr .i64 ((wr .i64 (shrI .u64 (wr .u64 (wr .i64 (v2 + v1))) 1)) + 1))))
     (br (!eqS p1 p1)
      (list_find_l1 p0 p1 fl1 (wr .i64 (shrI .u64 (wr .u64 (wr .i64 (v2 + v1))) 1)) v2)
      (br (ltS x4.id p1)
       (list_find_l1 p0 p1 fl1 v1 (wr .i64 ((wr .i64 (shrI .u64 (wr .u64 (wr .i64 (v2 + v1))) 1)) + 1)))
       (br (!(ltS x4.id p1 || eqS x4.id p1))
        (list_find_l1 p0 p1 fl1 (wr .i64 (shrI .u64 (wr .u64 (wr .i64 (v2 + v1))) 1)) v2)
        (list_find_l1 p0 p1 fl1 (wr .i64 (shrI .u64 (wr .u64 (wr .i64 (v2 + v1))) 1)) v2))))))
   (br (ltI v2 (p0.length:Int))
    (bnd (atL p0 v2) fun x12 =>
     (br (!eqS x12.id x12.id)
      (br (!eqS p1 p1)
       (some (v2,true))
       (some (v2,false)))
      (br (!eqS p1 p1)
       (some (v2,false))
       (br (ltS x12.id p1)
        (some (v2,false))
        (br (!(ltS x12.id p1 || eqS x12.id p1))
         (some (v2,false))
         (some (v2,true)))))))
    (some (v2,false))))
def list_find_s (p0:List Item) (p1:ByteArray):Option (Int × Bool) :=
 ((list_find_l1 p0 p1) fuelN (p0.length:Int) 0)
def list_Get_s (p0:List Item) (p1:ByteArray):Option (Item × Bool) :=
 (bnd (list_find_s p0 p1) fun y1 =>
  (br y1.2
   (bnd (atL p0 y1.1) fun x4 =>
    some (x4,true))
   (some ((Item.mk ⟨#[]⟩ 0 0 0 ⟨#[]⟩ 0 0 0 false),false))))
def list_Put_s (p0:List Item) (p1:Item):Option ((List Item)) :=
 (bnd (list_find_s p0 p1.id) fun y1 =>
  (bnd (clone_s p0) fun y3 =>
   (br y1.2
    (bnd (atL y3 y1.1) fun x6 =>
     some (y3.set y1.1.toNat p1))
    (bnd (ins_s y3 y1.1 p1) fun y8 =>
     some y8))))
def list_Drop_s (p0:List Item) (p1:ByteArray):Option ((List Item)) :=
 (bnd (clone_s p0) fun y1 =>
  (bnd (list_find_s p0 p1) fun y3 =>
   (br y3.2
    (bnd (del_s y1 y3.1) fun y6 =>
     some y6)
    (some y1))))
def list_Both_l1:Nat→(List Item)→(List Item)→(List Item)→Option ((List Item))
  | 0,_,_,_=>none
  | fl1 + 1,v1,v2,v3 =>
  (br (ltI 0 (v1.length:Int))
   (br (ltI 0 (v3.length:Int))
    (bnd (atL v1 0) fun x6 =>
     (bnd (atL v3 0) fun x8 =>
      (br (ltS x6.id x8.id)
       (chk (roomL v2.length 1)
        (chk (leI 1 (v1.length:Int))
         (list_Both_l1 fl1 (v1.drop 1) (v2++[x6]) v3)))
       (br (!(ltS x6.id x8.id || eqS x6.id x8.id))
        (chk (roomL v2.length 1)
         (chk (leI 1 (v3.length:Int))
          (list_Both_l1 fl1 v1 (v2++[x8]) (v3.drop 1))))
        (bnd (item_Compare_s x8 x6) fun y16 =>
         (br (ltI 0 y16)
          (chk (leI 1 (v1.length:Int))
           (list_Both_l1 fl1 (v1.drop 1) v2 v3))
          (chk (leI 1 (v3.length:Int))
           (list_Both_l1 fl1 v1 v2 (v3.drop 1)))))))))
    (chk (roomL v2.length v1.length)
     (chk (roomL (v2++v1).length v3.length)
      (some ((v2++v1)++v3)))))
   (chk (roomL v2.length v1.length)
    (chk (roomL (v2++v1).length v3.length)
     (some ((v2++v1)++v3)))))
def list_Both_s (p0:List Item) (p1:List Item):Option ((List Item)) :=
 ((list_Both_l1) fuelN p0 ([]:List Item) p1)
variable {X:Task→Prop} (hX:Closed X) {Q:A→List Blk→Prop}
include hX
theorem list_May_c  {p0:List Item} {r:Bool} (h:list_May_s p0=some r) (hQ:Q (.one (.p (.v (.bool r)))) []):X (.call 105 [.one (.p (.sl (p0.map Item.row)))] [] Q):=by
  have K:=fun a (e:some a=some r)=>ret_some (f:=fun y=>.one (.p (.v (.bool y)))) (g:=fun y=>[]) e hQ
  unfold list_May_s at h
  refine call_intro hX Tryz.func105 rfl rfl ?_
  revert h
  refine chkk fun hs1 h=>?_
  conv=>whnf
  repeat((first|refine dw ?_|refine eqv_to (map_len _) ?_);conv=>whnf)
  refine loop_list0 (fun (v1:Int)=>pad [(0,.one (.p (.sl (p0.map Item.row)))),(4,.one (.p (.sl (p0.map Item.row)))),(0,iv (p0.length:Int)),(0,iv v1)] 23) (fun (v1:Int)=>[]) _ p0 (fun pre1 x1e xs1 v1  hl1 hi1 h ih1=>?_) (fun v1  hi1 h=>?_)  h
  ·rw [list_May_l1] at h
   have am1:=at_mid hl1 hi1
   refine loop_intro hX ?_
   revert h
   refine bndk fun y2 e3 h=>?_
   conv=>whnf
   repeat((first|refine dw ?_|refine bct (lt_mid hl1 hi1) ?_|refine bct (at_in am1) ?_|refine bct (andt (at_in am1) rfl) ?_|refine row_in (at_row am1) ?_|refine bct (andt (at_in (at_nat am1)) rfl) ?_|refine row_in (at_row (at_nat am1)) ?_);conv=>whnf)
   refine item_May_c hX e3 ?_
   conv=>whnf
   repeat((first|refine dw ?_);conv=>whnf)
   revert h
   refine brk (fun c4 h=>?_) (fun c4 h=>?_)
   ·conv=>whnf
    repeat((first|refine dw ?_|refine bct c4 ?_);conv=>whnf)
    exact K _ h
   ·conv=>whnf
    repeat((first|refine dw ?_|refine bcf c4 ?_);conv=>whnf)
    revert h
    refine brk (fun c5 h=>?_) (fun c5 h=>?_)
    ·revert h
     refine bndk fun x6 a7 h=>?_
     conv=>whnf
     repeat((first|refine dw ?_|refine bct c5 ?_|refine bct (at_in a7) ?_|refine bct (andt (at_in a7) rfl) ?_|refine row_in (at_row a7) ?_|refine bct (andt (at_in (at_nat a7)) rfl) ?_|refine row_in (at_row (at_nat a7)) ?_|refine bcf c4 ?_);conv=>whnf)
     revert h
     refine brk (fun c8 h=>?_) (fun c8 h=>?_)
     ·conv=>whnf
      repeat((first|refine dw ?_|refine bct c8 ?_);conv=>whnf)
      exact K _ h
     ·conv=>whnf
      repeat((first|refine dw ?_|refine bcf c8 ?_);conv=>whnf)
      exact ih1 _  (wrL hs1 hl1 hi1) h
    ·conv=>whnf
     repeat((first|refine dw ?_|refine bcf c5 ?_|refine bcf c4 ?_);conv=>whnf)
     exact ih1 _  (wrL hs1 hl1 hi1) h
  ·rw [list_May_l1] at h
   refine loop_intro hX ?_
   conv=>whnf
   repeat((first|refine dw ?_|refine bcf (lt_end hi1) ?_);conv=>whnf)
   exact K _ h
theorem list_find_c  {p0:List Item} {p1:ByteArray} {r:Int × Bool} (h:list_find_s p0 p1=some r) (hQ:Q (.tup [iv r.1,.one (.p (.v (.bool r.2)))]) []):X (.call 166 [.one (.p (.sl (p0.map Item.row))),.one (.p (.v (.string p1)))] [] Q):=by
  have K:=fun a (e:some a=some r)=>ret_some (f:=fun y=>.tup [iv y.1,.one (.p (.v (.bool y.2)))]) (g:=fun y=>[]) e hQ
  unfold list_find_s at h
  refine call_intro hX Tryz.func166 rfl rfl ?_
  conv=>whnf
  repeat((first|refine dw ?_);conv=>whnf)
  refine call_intro hX Tryz.func211 rfl rfl ?_
  conv=>whnf
  repeat((first|refine dw ?_|refine eqv_to (map_len _) ?_);conv=>whnf)
  refine loop_fuel2 (fun (v1:Int) (v2:Int)=>pad [(0,.one (.p (.sl (p0.map Item.row)))),(0,.one (.p (.v (.string p1)))),(0,.one (.fn 212 [])),(5,iv (p0.length:Int)),(0,iv v2),(0,iv v1)] 38) (fun (v1:Int) (v2:Int)=>[]) _ (fun _ _ h=>?_) (fun fl1 v1 v2 h ih1=>?_) fuelN (p0.length:Int) 0 h
  ·rw [list_find_l1] at h
   cases h
  ·rw [list_find_l1] at h
   refine loop_intro hX ?_
   conv=>whnf
   repeat((first|refine dw ?_);conv=>whnf)
   revert h
   refine brk (fun c3 h=>?_) (fun c3 h=>?_)
   ·revert h
    refine bndk fun x4 a5 h=>?_
    conv=>whnf
    repeat((first|refine dw ?_|refine bct c3 ?_|refine bct (at_in a5) ?_|refine bct (andt (at_in a5) rfl) ?_|refine row_in (at_row a5) ?_|refine bct (andt (at_in (at_nat a5)) rfl) ?_|refine row_in (at_row (at_nat a5)) ?_);conv=>whnf)
    refine call_intro hX Tryz.func212 rfl rfl ?_
    conv=>whnf
    repeat((first|refine dw ?_);conv=>whnf)
    refine call_intro hX Tryz.func213 rfl rfl ?_
    conv=>whnf
    repeat((first|refine dw ?_);conv=>whnf)
    refine call_intro hX Tryz.func240 rfl rfl ?_
    conv=>whnf
    repeat((first|refine dw ?_);conv=>whnf)
    refine call_intro hX Tryz.func240 rfl rfl ?_
    conv=>whnf
    repeat((first|refine dw ?_);conv=>whnf)
    revert h
    refine brk (fun c6 h=>?_) (fun c6 h=>?_)
    ·conv=>whnf
     repeat((first|refine dw ?_|refine bct c6 ?_);conv=>whnf)
     revert h
     refine brk (fun c7 h=>?_) (fun c7 h=>?_)
     ·conv=>whnf
      repeat((first|refine dw ?_|refine bct c7 ?_);conv=>whnf)
      exact ih1 (wr .i64 (shrI .u64 (wr .u64 (wr .i64 (v2 + v1))) 1)) v2 h
     ·conv=>whnf
      repeat((first|refine dw ?_|refine bcf c7 ?_);conv=>whnf)
      exact ih1 v1 (wr .i64 ((wr .i64 (shrI .u64 (wr .u64 (wr .i64 (v2 + v1))) 1)) + 1)) h
    ·conv=>whnf
     repeat((first|refine dw ?_|refine bcf c6 ?_);conv=>whnf)
     revert h
     refine brk (fun c8 h=>?_) (fun c8 h=>?_)
     ·conv=>whnf
      repeat((first|refine dw ?_|refine bct c8 ?_);conv=>whnf)
      exact ih1 (wr .i64 (shrI .u64 (wr .u64 (wr .i64 (v2 + v1))) 1)) v2 h
     ·conv=>whnf
      repeat((first|refine dw ?_|refine bcf c8 ?_);conv=>whnf)
      revert h
      refine brk (fun c9 h=>?_) (fun c9 h=>?_)
      ·conv=>whnf
       repeat((first|refine dw ?_|refine bct c9 ?_);conv=>whnf)
       exact ih1 v1 (wr .i64 ((wr .i64 (shrI .u64 (wr .u64 (wr .i64 (v2 + v1))) 1)) + 1)) h
      ·conv=>whnf
       repeat((first|refine dw ?_|refine bcf c9 ?_);conv=>whnf)
       revert h
       refine brk (fun c10 h=>?_) (fun c10 h=>?_)
       ·conv=>whnf
        repeat((first|refine dw ?_|refine bct c10 ?_);conv=>whnf)
        exact ih1 (wr .i64 (shrI .u64 (wr .u64 (wr .i64 (v2 + v1))) 1)) v2 h
       ·conv=>whnf
        repeat((first|refine dw ?_|refine bcf c10 ?_);conv=>whnf)
        exact ih1 (wr .i64 (shrI .u64 (wr .u64 (wr .i64 (v2 + v1))) 1)) v2 h
   ·conv=>whnf
    repeat((first|refine dw ?_|refine bcf c3 ?_);conv=>whnf)
    revert h
    refine brk (fun c11 h=>?_) (fun c11 h=>?_)
    ·revert h
     refine bndk fun x12 a13 h=>?_
     conv=>whnf
     repeat((first|refine dw ?_|refine bct c11 ?_|refine bct (at_in a13) ?_|refine bct (andt (at_in a13) rfl) ?_|refine row_in (at_row a13) ?_|refine bct (andt (at_in (at_nat a13)) rfl) ?_|refine row_in (at_row (at_nat a13)) ?_);conv=>whnf)
     refine call_intro hX Tryz.func212 rfl rfl ?_
     conv=>whnf
     repeat((first|refine dw ?_);conv=>whnf)
     refine call_intro hX Tryz.func213 rfl rfl ?_
     conv=>whnf
     repeat((first|refine dw ?_);conv=>whnf)
     refine call_intro hX Tryz.func240 rfl rfl ?_
     conv=>whnf
     repeat((first|refine dw ?_);conv=>whnf)
     refine call_intro hX Tryz.func240 rfl rfl ?_
     conv=>whnf
     repeat((first|refine dw ?_);conv=>whnf)
     revert h
     refine brk (fun c14 h=>?_) (fun c14 h=>?_)
     ·conv=>whnf
      repeat((first|refine dw ?_|refine bct c14 ?_);conv=>whnf)
      revert h
      refine brk (fun c15 h=>?_) (fun c15 h=>?_)
      ·conv=>whnf
       repeat((first|refine dw ?_|refine bct c15 ?_|refine bct c11 ?_);conv=>whnf)
       exact K _ h
      ·conv=>whnf
       repeat((first|refine dw ?_|refine bcf c15 ?_|refine bct c11 ?_);conv=>whnf)
       exact K _ h
     ·conv=>whnf
      repeat((first|refine dw ?_|refine bcf c14 ?_);conv=>whnf)
      revert h
      refine brk (fun c16 h=>?_) (fun c16 h=>?_)
      ·conv=>whnf
       repeat((first|refine dw ?_|refine bct c16 ?_|refine bct c11 ?_);conv=>whnf)
       exact K _ h
      ·conv=>whnf
       repeat((first|refine dw ?_|refine bcf c16 ?_);conv=>whnf)
       revert h
       refine brk (fun c17 h=>?_) (fun c17 h=>?_)
       ·conv=>whnf
        repeat((first|refine dw ?_|refine bct c17 ?_|refine bct c11 ?_);conv=>whnf)
        exact K _ h
       ·conv=>whnf
        repeat((first|refine dw ?_|refine bcf c17 ?_);conv=>whnf)
        revert h
        refine brk (fun c18 h=>?_) (fun c18 h=>?_)
        ·conv=>whnf
         repeat((first|refine dw ?_|refine bct c18 ?_|refine bct c11 ?_);conv=>whnf)
         exact K _ h
        ·conv=>whnf
         repeat((first|refine dw ?_|refine bcf c18 ?_|refine bct c11 ?_);conv=>whnf)
         exact K _ h
    ·conv=>whnf
     repeat((first|refine dw ?_|refine bcf c11 ?_);conv=>whnf)
     exact K _ h
theorem list_Get_c  {p0:List Item} {p1:ByteArray} {r:Item × Bool} (h:list_Get_s p0 p1=some r) (hQ:Q (.tup [.agg (Item.cs r.1),.one (.p (.v (.bool r.2)))]) []):X (.call 95 [.one (.p (.sl (p0.map Item.row))),.one (.p (.v (.string p1)))] [] Q):=by
  have K:=fun a (e:some a=some r)=>ret_some (f:=fun y=>.tup [.agg (Item.cs y.1),.one (.p (.v (.bool y.2)))]) (g:=fun y=>[]) e hQ
  unfold list_Get_s at h
  refine call_intro hX Tryz.func95 rfl rfl ?_
  revert h
  refine bndk fun y1 e2 h=>?_
  conv=>whnf
  repeat((first|refine dw ?_);conv=>whnf)
  refine list_find_c hX e2 ?_
  conv=>whnf
  repeat((first|refine dw ?_);conv=>whnf)
  revert h
  refine brk (fun c3 h=>?_) (fun c3 h=>?_)
  ·revert h
   refine bndk fun x4 a5 h=>?_
   conv=>whnf
   repeat((first|refine dw ?_|refine bct c3 ?_|refine bct (at_in a5) ?_|refine bct (andt (at_in a5) rfl) ?_|refine row_in (at_row a5) ?_|refine bct (andt (at_in (at_nat a5)) rfl) ?_|refine row_in (at_row (at_nat a5)) ?_);conv=>whnf)
   exact K _ h
  ·conv=>whnf
   repeat((first|refine dw ?_|refine bcf c3 ?_);conv=>whnf)
   exact K _ h
theorem list_Put_c  {p0:List Item} {p1:Item} {r:(List Item)} (h:list_Put_s p0 p1=some r) (hQ:Q (.one (.p (.sl (r.map Item.row)))) []):X (.call 99 [.one (.p (.sl (p0.map Item.row))),.agg (Item.cs p1)] [] Q):=by
  have K:=fun a (e:some a=some r)=>ret_some (f:=fun y=>.one (.p (.sl (y.map Item.row)))) (g:=fun y=>[]) e hQ
  unfold list_Put_s at h
  refine call_nz hX ?_
  conv=>whnf
  refine call_intro hX Tryz.func99 rfl rfl ?_
  revert h
  refine bndk fun y1 e2 h=>?_
  conv=>whnf
  repeat((first|refine dw ?_);conv=>whnf)
  refine list_find_c hX e2 ?_
  revert h
  refine bndk fun y3 e4 h=>?_
  conv=>whnf
  repeat((first|refine dw ?_);conv=>whnf)
  refine clone_c (f:=Item.row) (k:=8) (fun _=>rfl) (by decide) hX e4 ?_
  conv=>whnf
  repeat((first|refine dw ?_);conv=>whnf)
  revert h
  refine brk (fun c5 h=>?_) (fun c5 h=>?_)
  ·revert h
   refine bndk fun x6 a7 h=>?_
   conv=>whnf
   repeat((first|refine dw ?_|refine bct c5 ?_|refine bct (at_in a7) ?_|refine bct (andt (at_in a7) rfl) ?_|refine row_in (at_row a7) ?_|refine bct (andt (at_in (at_nat a7)) rfl) ?_|refine row_in (at_row (at_nat a7)) ?_|refine eqv_to (set_map (f:=Item.row) y3 y1.1.toNat p1) ?_);conv=>whnf)
   exact K _ h
  ·revert h
   refine bndk fun y8 e9 h=>?_
   conv=>whnf
   repeat((first|refine dw ?_|refine bcf c5 ?_);conv=>whnf)
   refine Or.inr (Or.inr ?_)
   conv=>whnf
   refine ins_c hX (l:=y3) (i:=y1.1) (x:=p1) e9 ?_
   conv=>whnf
   repeat((first|refine dw ?_);conv=>whnf)
   exact K _ h
theorem list_Drop_c  {p0:List Item} {p1:ByteArray} {r:(List Item)} (h:list_Drop_s p0 p1=some r) (hQ:Q (.one (.p (.sl (r.map Item.row)))) []):X (.call 98 [.one (.p (.sl (p0.map Item.row))),.one (.p (.v (.string p1)))] [] Q):=by
  have K:=fun a (e:some a=some r)=>ret_some (f:=fun y=>.one (.p (.sl (y.map Item.row)))) (g:=fun y=>[]) e hQ
  unfold list_Drop_s at h
  refine call_nz hX ?_
  conv=>whnf
  refine call_intro hX Tryz.func98 rfl rfl ?_
  revert h
  refine bndk fun y1 e2 h=>?_
  conv=>whnf
  repeat((first|refine dw ?_);conv=>whnf)
  refine clone_c (f:=Item.row) (k:=8) (fun _=>rfl) (by decide) hX e2 ?_
  revert h
  refine bndk fun y3 e4 h=>?_
  conv=>whnf
  repeat((first|refine dw ?_);conv=>whnf)
  refine list_find_c hX e4 ?_
  conv=>whnf
  repeat((first|refine dw ?_);conv=>whnf)
  revert h
  refine brk (fun c5 h=>?_) (fun c5 h=>?_)
  ·revert h
   refine bndk fun y6 e7 h=>?_
   conv=>whnf
   repeat((first|refine dw ?_|refine bct c5 ?_);conv=>whnf)
   refine Or.inr (Or.inr ?_)
   conv=>whnf
   refine del_c hX (l:=y1) (i:=y3.1) e7 ?_
   conv=>whnf
   repeat((first|refine dw ?_);conv=>whnf)
   exact K _ h
  ·conv=>whnf
   repeat((first|refine dw ?_|refine bcf c5 ?_);conv=>whnf)
   exact K _ h
theorem list_Both_c  {p0:List Item} {p1:List Item} {r:(List Item)} (h:list_Both_s p0 p1=some r) (hQ:Q (.one (.p (.sl (r.map Item.row)))) []):X (.call 84 [.one (.p (.sl (p0.map Item.row))),.one (.p (.sl (p1.map Item.row)))] [] Q):=by
  have K:=fun a (e:some a=some r)=>ret_some (f:=fun y=>.one (.p (.sl (y.map Item.row)))) (g:=fun y=>[]) e hQ
  unfold list_Both_s at h
  refine call_nz hX ?_
  conv=>whnf
  refine call_intro hX Tryz.func84 rfl rfl ?_
  conv=>whnf
  repeat((first|refine dw ?_);conv=>whnf)
  refine loop_k hX [8] ?_
  conv=>whnf
  refine loop_fuel3 (fun (v1:List Item) (v2:List Item) (v3:List Item)=>pad [(0,.one (.p (.sl (v1.map Item.row)))),(0,.one (.p (.sl (v3.map Item.row)))),(3,.one (.own 0))] 62) (fun (v1:List Item) (v2:List Item) (v3:List Item)=>[.rows 8 (v2.map Item.row)]) _ (fun _ _ _ h=>?_) (fun fl1 v1 v2 v3 h ih1=>?_) fuelN p0 ([]:List Item) p1 h
  ·rw [list_Both_l1] at h
   cases h
  ·rw [list_Both_l1] at h
   refine loop_intro hX ?_
   conv=>whnf
   repeat((first|refine dw ?_|refine eqv_to (map_len _) ?_);conv=>whnf)
   revert h
   refine brk (fun c4 h=>?_) (fun c4 h=>?_)
   ·conv=>whnf
    repeat((first|refine dw ?_|refine bct c4 ?_|refine eqv_to (map_len _) ?_);conv=>whnf)
    revert h
    refine brk (fun c5 h=>?_) (fun c5 h=>?_)
    ·revert h
     refine bndk fun x6 a7 h=>?_
     revert h
     refine bndk fun x8 a9 h=>?_
     conv=>whnf
     repeat((first|refine dw ?_|refine bct c5 ?_|refine bct (at_in a7) ?_|refine bct (andt (at_in a7) rfl) ?_|refine row_in (at_row a7) ?_|refine bct (andt (at_in (at_nat a7)) rfl) ?_|refine row_in (at_row (at_nat a7)) ?_|refine bct (at_in a9) ?_|refine bct (andt (at_in a9) rfl) ?_|refine row_in (at_row a9) ?_|refine bct (andt (at_in (at_nat a9)) rfl) ?_|refine row_in (at_row (at_nat a9)) ?_);conv=>whnf)
     revert h
     refine brk (fun c10 h=>?_) (fun c10 h=>?_)
     ·revert h
      refine chkk fun c11 h=>?_
      revert h
      refine chkk fun c12 h=>?_
      conv=>whnf
      repeat((first|refine dw ?_|refine bct c10 ?_|refine bct (at_in a7) ?_|refine bct (andt (at_in a7) rfl) ?_|refine row_in (at_row a7) ?_|refine bct (andt (at_in (at_nat a7)) rfl) ?_|refine row_in (at_row (at_nat a7)) ?_|refine bct (room_map c11 rfl rfl rfl rfl) ?_|refine eqv_to (cat_one (f:=Item.row) v2 x6) ?_|refine bct (drop_ok (f:=Item.row) 1 (sz:=8) c12 (fun _=>rfl)) ?_|refine eqv_to (in_drop (f:=Item.row) v1 1) ?_);conv=>whnf)
      exact ih1 (v1.drop 1) (v2++[x6]) v3 h
     ·conv=>whnf
      repeat((first|refine dw ?_|refine bcf c10 ?_|refine bct (at_in a7) ?_|refine bct (andt (at_in a7) rfl) ?_|refine row_in (at_row a7) ?_|refine bct (andt (at_in (at_nat a7)) rfl) ?_|refine row_in (at_row (at_nat a7)) ?_|refine bct (at_in a9) ?_|refine bct (andt (at_in a9) rfl) ?_|refine row_in (at_row a9) ?_|refine bct (andt (at_in (at_nat a9)) rfl) ?_|refine row_in (at_row (at_nat a9)) ?_);conv=>whnf)
      revert h
      refine brk (fun c13 h=>?_) (fun c13 h=>?_)
      ·revert h
       refine chkk fun c14 h=>?_
       revert h
       refine chkk fun c15 h=>?_
       conv=>whnf
       repeat((first|refine dw ?_|refine bct c13 ?_|refine bct (at_in a9) ?_|refine bct (andt (at_in a9) rfl) ?_|refine row_in (at_row a9) ?_|refine bct (andt (at_in (at_nat a9)) rfl) ?_|refine row_in (at_row (at_nat a9)) ?_|refine bct (room_map c14 rfl rfl rfl rfl) ?_|refine eqv_to (cat_one (f:=Item.row) v2 x8) ?_|refine bct (drop_ok (f:=Item.row) 1 (sz:=8) c15 (fun _=>rfl)) ?_|refine eqv_to (in_drop (f:=Item.row) v3 1) ?_);conv=>whnf)
       exact ih1 v1 (v2++[x8]) (v3.drop 1) h
      ·revert h
       refine bndk fun y16 e17 h=>?_
       conv=>whnf
       repeat((first|refine dw ?_|refine bcf c13 ?_|refine bct (at_in a9) ?_|refine bct (andt (at_in a9) rfl) ?_|refine row_in (at_row a9) ?_|refine bct (andt (at_in (at_nat a9)) rfl) ?_|refine row_in (at_row (at_nat a9)) ?_|refine bct (at_in a7) ?_|refine bct (andt (at_in a7) rfl) ?_|refine row_in (at_row a7) ?_|refine bct (andt (at_in (at_nat a7)) rfl) ?_|refine row_in (at_row (at_nat a7)) ?_);conv=>whnf)
       refine item_Compare_c hX e17 ?_
       conv=>whnf
       repeat((first|refine dw ?_);conv=>whnf)
       revert h
       refine brk (fun c18 h=>?_) (fun c18 h=>?_)
       ·revert h
        refine chkk fun c19 h=>?_
        conv=>whnf
        repeat((first|refine dw ?_|refine bct c18 ?_|refine bct (drop_ok (f:=Item.row) 1 (sz:=8) c19 (fun _=>rfl)) ?_|refine eqv_to (in_drop (f:=Item.row) v1 1) ?_);conv=>whnf)
        exact ih1 (v1.drop 1) v2 v3 h
       ·revert h
        refine chkk fun c20 h=>?_
        conv=>whnf
        repeat((first|refine dw ?_|refine bcf c18 ?_|refine bct (drop_ok (f:=Item.row) 1 (sz:=8) c20 (fun _=>rfl)) ?_|refine eqv_to (in_drop (f:=Item.row) v3 1) ?_);conv=>whnf)
        exact ih1 v1 v2 (v3.drop 1) h
    ·revert h
     refine chkk fun c21 h=>?_
     revert h
     refine chkk fun c22 h=>?_
     conv=>whnf
     repeat((first|refine dw ?_|refine bcf c5 ?_|refine bct (room_map c21 (List.length_map ..) rfl (rowsOk_map (f:=Item.row) (sz:=8) (fun _=>rfl) _) rfl) ?_|refine eqv_to (cat_map (f:=Item.row) v2 _) ?_|refine bct (room_map c22 (List.length_map ..) rfl (rowsOk_map (f:=Item.row) (sz:=8) (fun _=>rfl) _) rfl) ?_|refine eqv_to (cat_map (f:=Item.row) (v2++v1) _) ?_);conv=>whnf)
     exact K _ h
   ·revert h
    refine chkk fun c23 h=>?_
    revert h
    refine chkk fun c24 h=>?_
    conv=>whnf
    repeat((first|refine dw ?_|refine bcf c4 ?_|refine bct (room_map c23 (List.length_map ..) rfl (rowsOk_map (f:=Item.row) (sz:=8) (fun _=>rfl) _) rfl) ?_|refine eqv_to (cat_map (f:=Item.row) v2 _) ?_|refine bct (room_map c24 (List.length_map ..) rfl (rowsOk_map (f:=Item.row) (sz:=8) (fun _=>rfl) _) rfl) ?_|refine eqv_to (cat_map (f:=Item.row) (v2++v1) _) ?_);conv=>whnf)
    exact K _ h
end
end Go.Proofs.YtidkmoohgadjkaaGreat
set_option maxHeartbeats 0
namespace Go.Proofs.YtidkmoohgadjkaaGreat
open Go E
noncomputable section
open Pred
def know_beyond_j8 (v1:Int) (v2:Int) (v3:Int) (v4:Int) (v5:Int) (v6:Int) (v7:Int) (v8:Int):Option (V8) :=
 some (V8.mk v1 v2 v3 v4 v5 v6 v7 v8)
def know_beyond_j7 (p0:V8) (p1:V8) (v1:Int) (v2:Int) (v3:Int) (v4:Int) (v5:Int) (v6:Int) (v7:Int):Option (V8) :=
 (br (leI p0.x7 p1.x7)
  (know_beyond_j8 v1 v2 v3 v4 v5 v6 v7 0)
  (br (leI p0.x7 0)
   (know_beyond_j8 v1 v2 v3 v4 v5 v6 v7 0)
   (know_beyond_j8 v1 v2 v3 v4 v5 v6 v7 p0.x7)))
def know_beyond_j6 (p0:V8) (p1:V8) (v1:Int) (v2:Int) (v3:Int) (v4:Int) (v5:Int) (v6:Int):Option (V8) :=
 (br (leI p0.x6 p1.x6)
  (know_beyond_j7 p0 p1 v1 v2 v3 v4 v5 v6 0)
  (br (leI p0.x6 0)
   (know_beyond_j7 p0 p1 v1 v2 v3 v4 v5 v6 0)
   (know_beyond_j7 p0 p1 v1 v2 v3 v4 v5 v6 p0.x6)))
def know_beyond_j5 (p0:V8) (p1:V8) (v1:Int) (v2:Int) (v3:Int) (v4:Int) (v5:Int):Option (V8) :=
 (br (leI p0.x5 p1.x5)
  (know_beyond_j6 p0 p1 v1 v2 v3 v4 v5 0)
  (br (leI p0.x5 0)
   (know_beyond_j6 p0 p1 v1 v2 v3 v4 v5 0)
   (know_beyond_j6 p0 p1 v1 v2 v3 v4 v5 p0.x5)))
def know_beyond_j4 (p0:V8) (p1:V8) (v1:Int) (v2:Int) (v3:Int) (v4:Int):Option (V8) :=
 (br (leI p0.x4 p1.x4)
  (know_beyond_j5 p0 p1 v1 v2 v3 v4 0)
  (br (leI p0.x4 0)
   (know_beyond_j5 p0 p1 v1 v2 v3 v4 0)
   (know_beyond_j5 p0 p1 v1 v2 v3 v4 p0.x4)))
def know_beyond_j3 (p0:V8) (p1:V8) (v1:Int) (v2:Int) (v3:Int):Option (V8) :=
 (br (leI p0.x3 p1.x3)
  (know_beyond_j4 p0 p1 v1 v2 v3 0)
  (br (leI p0.x3 0)
   (know_beyond_j4 p0 p1 v1 v2 v3 0)
   (know_beyond_j4 p0 p1 v1 v2 v3 p0.x3)))
def know_beyond_j2 (p0:V8) (p1:V8) (v1:Int) (v2:Int):Option (V8) :=
 (br (leI p0.x2 p1.x2)
  (know_beyond_j3 p0 p1 v1 v2 0)
  (br (leI p0.x2 0)
   (know_beyond_j3 p0 p1 v1 v2 0)
   (know_beyond_j3 p0 p1 v1 v2 p0.x2)))
def know_beyond_j1 (p0:V8) (p1:V8) (v1:Int):Option (V8) :=
 (br (leI p0.x1 p1.x1)
  (know_beyond_j2 p0 p1 v1 0)
  (br (leI p0.x1 0)
   (know_beyond_j2 p0 p1 v1 0)
   (know_beyond_j2 p0 p1 v1 p0.x1)))
def know_beyond_s (p0:V8) (p1:V8):Option (V8) :=
 (br (leI p0.x0 p1.x0)
  (know_beyond_j1 p0 p1 0)
  (br (leI p0.x0 0)
   (know_beyond_j1 p0 p1 0)
   (know_beyond_j1 p0 p1 p0.x0)))
def know_alike_l2 (x4:Frag) (k1:Option (Bool)):List ByteArray→Int→Option (Bool)
  | [],v8 =>
  (k1 )
  | x2e::xs2,v8 =>
  (bnd (atL x4.ids v8) fun x9 =>
   (br (!eqS x2e x9)
    (some false)
    (know_alike_l2 x4 k1 xs2 (v8 + 1) )))
def know_alike_l1 (p1:Know):List Frag→Int→Option (Bool)
  | [],v3 =>
  some true
  | x1e::xs1,v3 =>
  (bnd (atL p1.l v3) fun x4 =>
   (br (eq8 x1e.vec x4.vec)
    (br (!eqI (x1e.ids.length:Int) (x4.ids.length:Int))
     (some false)
     (chk (smallL x1e.ids)
       ((know_alike_l2 x4 (know_alike_l1 p1 xs1 (v3 + 1))) x1e.ids 0 )))
    (some false)))
def know_alike_s (p0:Know) (p1:Know):Option (Bool) :=
 (br (eq8 p0.star p1.star)
  (br (!eqI (p0.l.length:Int) (p1.l.length:Int))
   (some false)
   (chk (smallL p0.l)
     ((know_alike_l1 p1) p0.l 0 )))
  (some false))
variable {X:Task→Prop} (hX:Closed X) {Q:A→List Blk→Prop}
include hX
theorem know_beyond_c  {p0:V8} {p1:V8} {r:V8} (h:know_beyond_s p0 p1=some r) (hQ:Q (.agg (V8.cs r)) []):X (.call 202 [.agg (V8.cs p0),.agg (V8.cs p1)] [] Q):=by
  unfold know_beyond_s at h
  refine call_intro hX Tryz.func202 rfl rfl ?_
  conv=>whnf
  repeat((first|refine dw ?_);conv=>whnf)
  refine loop_intro hX ?_
  apply join1 (X:=X) (r:=r) (fun (v1:Int)=>pad [(2,.one (.ptr 0 0)),(0,.one (.ptr 1 0)),(0,.one (.ptr 2 0)),(2,.agg (V8.cs p0)),(0,iv 0)] 16) (fun (v1:Int)=>[.box [ic v1,ic p0.x1,ic p0.x2,ic p0.x3,ic p0.x4,ic p0.x5,ic p0.x6,ic p0.x7],.box (V8.cs p1),.box [ic 0,ic 0,ic 0,ic 0,ic 0,ic 0,ic 0,ic 0]])
  ·intro tl1
   conv=>whnf
   repeat((first|refine dw ?_);conv=>whnf)
   refine br_some h (fun c23 g=>?_) (fun c23 g=>?_)
   ·replace h:=g
    clear g
    conv=>whnf
    repeat((first|refine dw ?_|refine bct c23 ?_);conv=>whnf)
    exact tl1.h 0 h
   ·replace h:=g
    clear g
    conv=>whnf
    repeat((first|refine dw ?_|refine bcf c23 ?_);conv=>whnf)
    refine br_some h (fun c24 g=>?_) (fun c24 g=>?_)
    ·replace h:=g
     clear g
     conv=>whnf
     repeat((first|refine dw ?_|refine bct c24 ?_);conv=>whnf)
     exact tl1.h 0 h
    ·replace h:=g
     clear g
     conv=>whnf
     repeat((first|refine dw ?_|refine bcf c24 ?_);conv=>whnf)
     exact tl1.h p0.x0 h
  ·intro v1 h
   unfold know_beyond_j1 at h
   refine rest_intro hX ?_
   conv=>whnf
   repeat((first|refine dw ?_);conv=>whnf)
   refine loop_intro hX ?_
   apply join1 (X:=X) (r:=r) (fun (v2:Int)=>pad [(2,.one (.ptr 0 0)),(0,.one (.ptr 1 0)),(0,.one (.ptr 2 0)),(2,.agg (V8.cs p0)),(0,iv 1)] 16) (fun (v2:Int)=>[.box [ic v1,ic v2,ic p0.x2,ic p0.x3,ic p0.x4,ic p0.x5,ic p0.x6,ic p0.x7],.box (V8.cs p1),.box [ic 0,ic 0,ic 0,ic 0,ic 0,ic 0,ic 0,ic 0]])
   ·intro tl2
    conv=>whnf
    repeat((first|refine dw ?_);conv=>whnf)
    refine br_some h (fun c21 g=>?_) (fun c21 g=>?_)
    ·replace h:=g
     clear g
     conv=>whnf
     repeat((first|refine dw ?_|refine bct c21 ?_);conv=>whnf)
     exact tl2.h 0 h
    ·replace h:=g
     clear g
     conv=>whnf
     repeat((first|refine dw ?_|refine bcf c21 ?_);conv=>whnf)
     refine br_some h (fun c22 g=>?_) (fun c22 g=>?_)
     ·replace h:=g
      clear g
      conv=>whnf
      repeat((first|refine dw ?_|refine bct c22 ?_);conv=>whnf)
      exact tl2.h 0 h
     ·replace h:=g
      clear g
      conv=>whnf
      repeat((first|refine dw ?_|refine bcf c22 ?_);conv=>whnf)
      exact tl2.h p0.x1 h
   ·intro v2 h
    unfold know_beyond_j2 at h
    refine rest_intro hX ?_
    conv=>whnf
    repeat((first|refine dw ?_);conv=>whnf)
    refine loop_intro hX ?_
    apply join1 (X:=X) (r:=r) (fun (v3:Int)=>pad [(2,.one (.ptr 0 0)),(0,.one (.ptr 1 0)),(0,.one (.ptr 2 0)),(2,.agg (V8.cs p0)),(0,iv 2)] 16) (fun (v3:Int)=>[.box [ic v1,ic v2,ic v3,ic p0.x3,ic p0.x4,ic p0.x5,ic p0.x6,ic p0.x7],.box (V8.cs p1),.box [ic 0,ic 0,ic 0,ic 0,ic 0,ic 0,ic 0,ic 0]])
    ·intro tl3
     conv=>whnf
     repeat((first|refine dw ?_);conv=>whnf)
     refine br_some h (fun c19 g=>?_) (fun c19 g=>?_)
     ·replace h:=g
      clear g
      conv=>whnf
      repeat((first|refine dw ?_|refine bct c19 ?_);conv=>whnf)
      exact tl3.h 0 h
     ·replace h:=g
      clear g
      conv=>whnf
      repeat((first|refine dw ?_|refine bcf c19 ?_);conv=>whnf)
      refine br_some h (fun c20 g=>?_) (fun c20 g=>?_)
      ·replace h:=g
       clear g
       conv=>whnf
       repeat((first|refine dw ?_|refine bct c20 ?_);conv=>whnf)
       exact tl3.h 0 h
      ·replace h:=g
       clear g
       conv=>whnf
       repeat((first|refine dw ?_|refine bcf c20 ?_);conv=>whnf)
       exact tl3.h p0.x2 h
    ·intro v3 h
     unfold know_beyond_j3 at h
     refine rest_intro hX ?_
     conv=>whnf
     repeat((first|refine dw ?_);conv=>whnf)
     refine loop_intro hX ?_
     apply join1 (X:=X) (r:=r) (fun (v4:Int)=>pad [(2,.one (.ptr 0 0)),(0,.one (.ptr 1 0)),(0,.one (.ptr 2 0)),(2,.agg (V8.cs p0)),(0,iv 3)] 16) (fun (v4:Int)=>[.box [ic v1,ic v2,ic v3,ic v4,ic p0.x4,ic p0.x5,ic p0.x6,ic p0.x7],.box (V8.cs p1),.box [ic 0,ic 0,ic 0,ic 0,ic 0,ic 0,ic 0,ic 0]])
     ·intro tl4
      conv=>whnf
      repeat((first|refine dw ?_);conv=>whnf)
      refine br_some h (fun c17 g=>?_) (fun c17 g=>?_)
      ·replace h:=g
       clear g
       conv=>whnf
       repeat((first|refine dw ?_|refine bct c17 ?_);conv=>whnf)
       exact tl4.h 0 h
      ·replace h:=g
       clear g
       conv=>whnf
       repeat((first|refine dw ?_|refine bcf c17 ?_);conv=>whnf)
       refine br_some h (fun c18 g=>?_) (fun c18 g=>?_)
       ·replace h:=g
        clear g
        conv=>whnf
        repeat((first|refine dw ?_|refine bct c18 ?_);conv=>whnf)
        exact tl4.h 0 h
       ·replace h:=g
        clear g
        conv=>whnf
        repeat((first|refine dw ?_|refine bcf c18 ?_);conv=>whnf)
        exact tl4.h p0.x3 h
     ·intro v4 h
      unfold know_beyond_j4 at h
      refine rest_intro hX ?_
      conv=>whnf
      repeat((first|refine dw ?_);conv=>whnf)
      refine loop_intro hX ?_
      apply join1 (X:=X) (r:=r) (fun (v5:Int)=>pad [(2,.one (.ptr 0 0)),(0,.one (.ptr 1 0)),(0,.one (.ptr 2 0)),(2,.agg (V8.cs p0)),(0,iv 4)] 16) (fun (v5:Int)=>[.box [ic v1,ic v2,ic v3,ic v4,ic v5,ic p0.x5,ic p0.x6,ic p0.x7],.box (V8.cs p1),.box [ic 0,ic 0,ic 0,ic 0,ic 0,ic 0,ic 0,ic 0]])
      ·intro tl5
       conv=>whnf
       repeat((first|refine dw ?_);conv=>whnf)
       refine br_some h (fun c15 g=>?_) (fun c15 g=>?_)
       ·replace h:=g
        clear g
        conv=>whnf
        repeat((first|refine dw ?_|refine bct c15 ?_);conv=>whnf)
        exact tl5.h 0 h
       ·replace h:=g
        clear g
        conv=>whnf
        repeat((first|refine dw ?_|refine bcf c15 ?_);conv=>whnf)
        refine br_some h (fun c16 g=>?_) (fun c16 g=>?_)
        ·replace h:=g
         clear g
         conv=>whnf
         repeat((first|refine dw ?_|refine bct c16 ?_);conv=>whnf)
         exact tl5.h 0 h
        ·replace h:=g
         clear g
         conv=>whnf
         repeat((first|refine dw ?_|refine bcf c16 ?_);conv=>whnf)
         exact tl5.h p0.x4 h
      ·intro v5 h
       unfold know_beyond_j5 at h
       refine rest_intro hX ?_
       conv=>whnf
       repeat((first|refine dw ?_);conv=>whnf)
       refine loop_intro hX ?_
       apply join1 (X:=X) (r:=r) (fun (v6:Int)=>pad [(2,.one (.ptr 0 0)),(0,.one (.ptr 1 0)),(0,.one (.ptr 2 0)),(2,.agg (V8.cs p0)),(0,iv 5)] 16) (fun (v6:Int)=>[.box [ic v1,ic v2,ic v3,ic v4,ic v5,ic v6,ic p0.x6,ic p0.x7],.box (V8.cs p1),.box [ic 0,ic 0,ic 0,ic 0,ic 0,ic 0,ic 0,ic 0]])
       ·intro tl6
        conv=>whnf
        repeat((first|refine dw ?_);conv=>whnf)
        refine br_some h (fun c13 g=>?_) (fun c13 g=>?_)
        ·replace h:=g
         clear g
         conv=>whnf
         repeat((first|refine dw ?_|refine bct c13 ?_);conv=>whnf)
         exact tl6.h 0 h
        ·replace h:=g
         clear g
         conv=>whnf
         repeat((first|refine dw ?_|refine bcf c13 ?_);conv=>whnf)
         refine br_some h (fun c14 g=>?_) (fun c14 g=>?_)
         ·replace h:=g
          clear g
          conv=>whnf
          repeat((first|refine dw ?_|refine bct c14 ?_);conv=>whnf)
          exact tl6.h 0 h
         ·replace h:=g
          clear g
          conv=>whnf
          repeat((first|refine dw ?_|refine bcf c14 ?_);conv=>whnf)
          exact tl6.h p0.x5 h
       ·intro v6 h
        unfold know_beyond_j6 at h
        refine rest_intro hX ?_
        conv=>whnf
        repeat((first|refine dw ?_);conv=>whnf)
        refine loop_intro hX ?_
        apply join1 (X:=X) (r:=r) (fun (v7:Int)=>pad [(2,.one (.ptr 0 0)),(0,.one (.ptr 1 0)),(0,.one (.ptr 2 0)),(2,.agg (V8.cs p0)),(0,iv 6)] 16) (fun (v7:Int)=>[.box [ic v1,ic v2,ic v3,ic v4,ic v5,ic v6,ic v7,ic p0.x7],.box (V8.cs p1),.box [ic 0,ic 0,ic 0,ic 0,ic 0,ic 0,ic 0,ic 0]])
        ·intro tl7
         conv=>whnf
         repeat((first|refine dw ?_);conv=>whnf)
         refine br_some h (fun c11 g=>?_) (fun c11 g=>?_)
         ·replace h:=g
          clear g
          conv=>whnf
          repeat((first|refine dw ?_|refine bct c11 ?_);conv=>whnf)
          exact tl7.h 0 h
         ·replace h:=g
          clear g
          conv=>whnf
          repeat((first|refine dw ?_|refine bcf c11 ?_);conv=>whnf)
          refine br_some h (fun c12 g=>?_) (fun c12 g=>?_)
          ·replace h:=g
           clear g
           conv=>whnf
           repeat((first|refine dw ?_|refine bct c12 ?_);conv=>whnf)
           exact tl7.h 0 h
          ·replace h:=g
           clear g
           conv=>whnf
           repeat((first|refine dw ?_|refine bcf c12 ?_);conv=>whnf)
           exact tl7.h p0.x6 h
        ·intro v7 h
         unfold know_beyond_j7 at h
         refine rest_intro hX ?_
         conv=>whnf
         repeat((first|refine dw ?_);conv=>whnf)
         refine loop_intro hX ?_
         apply join1 (X:=X) (r:=r) (fun (v8:Int)=>pad [(2,.one (.ptr 0 0)),(0,.one (.ptr 1 0)),(0,.one (.ptr 2 0)),(2,.agg (V8.cs p0)),(0,iv 7)] 16) (fun (v8:Int)=>[.box [ic v1,ic v2,ic v3,ic v4,ic v5,ic v6,ic v7,ic v8],.box (V8.cs p1),.box [ic 0,ic 0,ic 0,ic 0,ic 0,ic 0,ic 0,ic 0]])
         ·intro tl8
          conv=>whnf
          repeat((first|refine dw ?_);conv=>whnf)
          refine br_some h (fun c9 g=>?_) (fun c9 g=>?_)
          ·replace h:=g
           clear g
           conv=>whnf
           repeat((first|refine dw ?_|refine bct c9 ?_);conv=>whnf)
           exact tl8.h 0 h
          ·replace h:=g
           clear g
           conv=>whnf
           repeat((first|refine dw ?_|refine bcf c9 ?_);conv=>whnf)
           refine br_some h (fun c10 g=>?_) (fun c10 g=>?_)
           ·replace h:=g
            clear g
            conv=>whnf
            repeat((first|refine dw ?_|refine bct c10 ?_);conv=>whnf)
            exact tl8.h 0 h
           ·replace h:=g
            clear g
            conv=>whnf
            repeat((first|refine dw ?_|refine bcf c10 ?_);conv=>whnf)
            exact tl8.h p0.x7 h
         ·intro v8 h
          unfold know_beyond_j8 at h
          refine rest_intro hX ?_
          conv=>whnf
          repeat((first|refine dw ?_);conv=>whnf)
          refine loop_intro hX ?_
          conv=>whnf
          repeat((first|refine dw ?_);conv=>whnf)
          exact ret_some (f:=fun y=>.agg (V8.cs y)) (g:=fun y=>[]) h hQ
theorem know_alike_c  {p0:Know} {p1:Know} {r:Bool} (h:know_alike_s p0 p1=some r) (hQ:Q (.one (.p (.v (.bool r)))) []):X (.call 144 [.agg (Know.cs p0),.agg (Know.cs p1)] [] Q):=by
  have K:=fun a (e:some a=some r)=>ret_some (f:=fun y=>.one (.p (.v (.bool y)))) (g:=fun y=>[]) e hQ
  unfold know_alike_s at h
  refine call_intro hX Tryz.func144 rfl rfl ?_
  conv=>whnf
  repeat((first|refine dw ?_);conv=>whnf)
  revert h
  refine brk (fun c1 h=>?_) (fun c1 h=>?_)
  ·conv=>whnf
   repeat((first|refine dw ?_|with_reducible refine bct (eq8_b c1) ?_|refine bct c1 ?_);conv=>whnf)
   refine call_intro hX Tryz.func197 rfl rfl ?_
   conv=>whnf
   repeat((first|refine dw ?_|refine eqv_to (map_len _) ?_);conv=>whnf)
   revert h
   refine brk (fun c2 h=>?_) (fun c2 h=>?_)
   ·conv=>whnf
    repeat((first|refine dw ?_|refine bct c2 ?_|with_reducible refine bct (eq8_b c1) ?_|refine bct c1 ?_);conv=>whnf)
    exact K _ h
   ·revert h
    refine chkk fun hs1 h=>?_
    conv=>whnf
    repeat((first|refine dw ?_|refine bcf c2 ?_|refine eqv_to (map_len _) ?_);conv=>whnf)
    refine loop_list0 (fun (v3:Int)=>pad [(1,.one (.p (.sl (p1.l.map Frag.row)))),(0,.one (.fn 198 [])),(12,.one (.p (.sl (p0.l.map Frag.row)))),(0,iv (p0.l.length:Int)),(0,iv v3)] 14) (fun (v3:Int)=>[]) _ p0.l (fun pre1 x1e xs1 v3  hl1 hi1 h ih1=>?_) (fun v3  hi1 h=>?_)  h
    ·rw [know_alike_l1] at h
     have am1:=at_mid hl1 hi1
     refine loop_intro hX ?_
     revert h
     refine bndk fun x4 a5 h=>?_
     conv=>whnf
     repeat((first|refine dw ?_|refine bct (lt_mid hl1 hi1) ?_|refine bct (at_in am1) ?_|refine bct (andt (at_in am1) rfl) ?_|refine row_in (at_row am1) ?_|refine bct (andt (at_in (at_nat am1)) rfl) ?_|refine row_in (at_row (at_nat am1)) ?_|refine bct (at_in a5) ?_|refine bct (andt (at_in a5) rfl) ?_|refine row_in (at_row a5) ?_|refine bct (andt (at_in (at_nat a5)) rfl) ?_|refine row_in (at_row (at_nat a5)) ?_);conv=>whnf)
     refine call_intro hX Tryz.func198 rfl rfl ?_
     conv=>whnf
     repeat((first|refine dw ?_);conv=>whnf)
     revert h
     refine brk (fun c6 h=>?_) (fun c6 h=>?_)
     ·conv=>whnf
      repeat((first|refine dw ?_|with_reducible refine bct (eq8_b c6) ?_|refine bct c6 ?_);conv=>whnf)
      refine call_intro hX Tryz.func199 rfl rfl ?_
      conv=>whnf
      repeat((first|refine dw ?_|refine eqv_to (map_len _) ?_);conv=>whnf)
      revert h
      refine brk (fun c7 h=>?_) (fun c7 h=>?_)
      ·conv=>whnf
       repeat((first|refine dw ?_|refine bct c7 ?_|with_reducible refine bct (eq8_b c6) ?_|with_reducible refine bct (eq8_b c1) ?_|refine bct c6 ?_|refine bct c1 ?_);conv=>whnf)
       exact K _ h
      ·revert h
       refine chkk fun hs2 h=>?_
       conv=>whnf
       repeat((first|refine dw ?_|refine bcf c7 ?_|refine eqv_to (map_len _) ?_);conv=>whnf)
       refine loop_list0 (fun (v8:Int)=>pad [(0,.one (.p (.sl (x1e.ids.map srw)))),(0,.one (.p (.sl (x4.ids.map srw)))),(10,iv (x1e.ids.length:Int)),(0,iv v8)] 12) (fun (v8:Int)=>[]) _ x1e.ids (fun pre2 x2e xs2 v8  hl2 hi2 h ih2=>?_) (fun v8  hi2 h=>?_)  h
       ·rw [know_alike_l2] at h
        have am2:=at_mid hl2 hi2
        refine loop_intro hX ?_
        revert h
        refine bndk fun x9 a10 h=>?_
        conv=>whnf
        repeat((first|refine dw ?_|refine bct (lt_mid hl2 hi2) ?_|refine bct (at_in am2) ?_|refine bct (andt (at_in am2) rfl) ?_|refine row_in (at_row am2) ?_|refine bct (andt (at_in (at_nat am2)) rfl) ?_|refine row_in (at_row (at_nat am2)) ?_|refine bct (at_in a10) ?_|refine bct (andt (at_in a10) rfl) ?_|refine row_in (at_row a10) ?_|refine bct (andt (at_in (at_nat a10)) rfl) ?_|refine row_in (at_row (at_nat a10)) ?_);conv=>whnf)
        revert h
        refine brk (fun c11 h=>?_) (fun c11 h=>?_)
        ·conv=>whnf
         repeat((first|refine dw ?_|refine bct c11 ?_|with_reducible refine bct (eq8_b c6) ?_|with_reducible refine bct (eq8_b c1) ?_|refine bct c6 ?_|refine bct c1 ?_);conv=>whnf)
         exact K _ h
        ·conv=>whnf
         repeat((first|refine dw ?_|refine bcf c11 ?_);conv=>whnf)
         exact ih2 _  (wrL hs2 hl2 hi2) h
       ·rw [know_alike_l2] at h
        refine loop_intro hX ?_
        conv=>whnf
        repeat((first|refine dw ?_|refine bcf (lt_end hi2) ?_|with_reducible refine bct (eq8_b c6) ?_|refine bct c6 ?_);conv=>whnf)
        exact ih1 _  (wrL hs1 hl1 hi1) h
     ·conv=>whnf
      repeat((first|refine dw ?_|with_reducible refine bcf (eq8_b c6) ?_|with_reducible refine bct (eq8_b c1) ?_|refine bcf c6 ?_|refine bct c1 ?_);conv=>whnf)
      exact K _ h
    ·rw [know_alike_l1] at h
     refine loop_intro hX ?_
     conv=>whnf
     repeat((first|refine dw ?_|refine bcf (lt_end hi1) ?_|with_reducible refine bct (eq8_b c1) ?_|refine bct c1 ?_);conv=>whnf)
     exact K _ h
  ·conv=>whnf
   repeat((first|refine dw ?_|with_reducible refine bcf (eq8_b c1) ?_|refine bcf c1 ?_);conv=>whnf)
   exact K _ h
end
end Go.Proofs.YtidkmoohgadjkaaGreat
set_option maxHeartbeats 0
namespace Go.Proofs.YtidkmoohgadjkaaGreat
open Go E
noncomputable section
open Pred
def know_Plain_l2 (x1e:Frag) (k1:(List (ByteArray × V8))→Option (Know)):List ByteArray→(List (ByteArray × V8))→Option (Know)
  | [],v4 =>
  (k1 v4)
  | x2e::xs2,v4 =>
  (opt (mget srw v4 x2e) (fun x5 =>
   (bnd (vec_Max_s x5 x1e.vec) fun y7 =>
    (know_Plain_l2 x1e k1 xs2  (mset srw v4 x2e y7))))
   (bnd (vec_Max_s (V8.mk 0 0 0 0 0 0 0 0) x1e.vec) fun y9 =>
    (know_Plain_l2 x1e k1 xs2  (mset srw v4 x2e y9))))
def know_Plain_l4 (p0:Know) (v2:List (ByteArray × V8)):List ByteArray→(List Frag)→(List (V8 × Int))→Option (Know)
  | [],v26,v27 =>
  some (Know.mk p0.star v26)
  | x4e::xs4,v26,v27 =>
  (opt (mget srw v2 x4e) (fun x28 =>
   (bnd (know_beyond_s x28 p0.star) fun y30 =>
    (br (eq8 y30 (V8.mk 0 0 0 0 0 0 0 0))
     (know_Plain_l4 p0 v2 xs4  v26 v27)
     (opt (mget V8.row v27 y30) (fun x33 =>
      (bnd (atL v26 x33) fun x35 =>
       (chk (roomL x35.ids.length 1)
        (know_Plain_l4 p0 v2 xs4  (v26.set x33.toNat (Frag.mk (x35.ids++[x4e]) x35.vec)) v27))))
      (chk (roomL v26.length 1)
       (bnd (atL (v26++[(Frag.mk ([]:List ByteArray) y30)]) (v26.length:Int)) fun x40 =>
        (chk (roomL x40.ids.length 1)
         (know_Plain_l4 p0 v2 xs4  ((v26++[(Frag.mk ([]:List ByteArray) y30)]).set (v26.length:Int).toNat (Frag.mk (x40.ids++[x4e]) x40.vec)) (mset V8.row v27 y30 (v26.length:Int))))))))))
   (bnd (know_beyond_s (V8.mk 0 0 0 0 0 0 0 0) p0.star) fun y43 =>
    (br (eq8 y43 (V8.mk 0 0 0 0 0 0 0 0))
     (know_Plain_l4 p0 v2 xs4  v26 v27)
     (opt (mget V8.row v27 y43) (fun x46 =>
      (bnd (atL v26 x46) fun x48 =>
       (chk (roomL x48.ids.length 1)
        (know_Plain_l4 p0 v2 xs4  (v26.set x46.toNat (Frag.mk (x48.ids++[x4e]) x48.vec)) v27))))
      (chk (roomL v26.length 1)
       (bnd (atL (v26++[(Frag.mk ([]:List ByteArray) y43)]) (v26.length:Int)) fun x53 =>
        (chk (roomL x53.ids.length 1)
         (know_Plain_l4 p0 v2 xs4  ((v26++[(Frag.mk ([]:List ByteArray) y43)]).set (v26.length:Int).toNat (Frag.mk (x53.ids++[x4e]) x53.vec)) (mset V8.row v27 y43 (v26.length:Int))))))))))
def know_Plain_l5 (p0:Know) (v2:List (ByteArray × V8)):List ByteArray→(List Frag)→(List (V8 × Int))→Option (Know)
  | [],v64,v65 =>
  some (Know.mk p0.star v64)
  | x5e::xs5,v64,v65 =>
  (opt (mget srw v2 x5e) (fun x66 =>
   (bnd (know_beyond_s x66 p0.star) fun y68 =>
    (br (eq8 y68 (V8.mk 0 0 0 0 0 0 0 0))
     (know_Plain_l5 p0 v2 xs5  v64 v65)
     (opt (mget V8.row v65 y68) (fun x71 =>
      (bnd (atL v64 x71) fun x73 =>
       (chk (roomL x73.ids.length 1)
        (know_Plain_l5 p0 v2 xs5  (v64.set x71.toNat (Frag.mk (x73.ids++[x5e]) x73.vec)) v65))))
      (chk (roomL v64.length 1)
       (bnd (atL (v64++[(Frag.mk ([]:List ByteArray) y68)]) (v64.length:Int)) fun x78 =>
        (chk (roomL x78.ids.length 1)
         (know_Plain_l5 p0 v2 xs5  ((v64++[(Frag.mk ([]:List ByteArray) y68)]).set (v64.length:Int).toNat (Frag.mk (x78.ids++[x5e]) x78.vec)) (mset V8.row v65 y68 (v64.length:Int))))))))))
   (bnd (know_beyond_s (V8.mk 0 0 0 0 0 0 0 0) p0.star) fun y81 =>
    (br (eq8 y81 (V8.mk 0 0 0 0 0 0 0 0))
     (know_Plain_l5 p0 v2 xs5  v64 v65)
     (opt (mget V8.row v65 y81) (fun x84 =>
      (bnd (atL v64 x84) fun x86 =>
       (chk (roomL x86.ids.length 1)
        (know_Plain_l5 p0 v2 xs5  (v64.set x84.toNat (Frag.mk (x86.ids++[x5e]) x86.vec)) v65))))
      (chk (roomL v64.length 1)
       (bnd (atL (v64++[(Frag.mk ([]:List ByteArray) y81)]) (v64.length:Int)) fun x91 =>
        (chk (roomL x91.ids.length 1)
         (know_Plain_l5 p0 v2 xs5  ((v64++[(Frag.mk ([]:List ByteArray) y81)]).set (v64.length:Int).toNat (Frag.mk (x91.ids++[x5e]) x91.vec)) (mset V8.row v65 y81 (v64.length:Int))))))))))
def know_Plain_l3 (p0:Know) (v2:List (ByteArray × V8)):List ByteArray→Option (Know)
  | [] =>
  some (Know.mk p0.star [])
  | x3e::xs3 =>
  (opt (mget srw v2 x3e) (fun x16 =>
   (bnd (know_beyond_s x16 p0.star) fun y18 =>
    (br (eq8 y18 (V8.mk 0 0 0 0 0 0 0 0))
     (know_Plain_l3 p0 v2 xs3  )
     (opt (mget V8.row ([]:List (V8 × Int)) y18) (fun x21 =>
      none)
      (chk (roomL 0 1)
       ((know_Plain_l4 p0 v2) xs3 [(Frag.mk [x3e] y18)] (mset V8.row ([]:List (V8 × Int)) y18 0)))))))
   (bnd (know_beyond_s (V8.mk 0 0 0 0 0 0 0 0) p0.star) fun y56 =>
    (br (eq8 y56 (V8.mk 0 0 0 0 0 0 0 0))
     (know_Plain_l3 p0 v2 xs3  )
     (opt (mget V8.row ([]:List (V8 × Int)) y56) (fun x59 =>
      none)
      (chk (roomL 0 1)
       ((know_Plain_l5 p0 v2) xs3 [(Frag.mk [x3e] y56)] (mset V8.row ([]:List (V8 × Int)) y56 0)))))))
def know_Plain_l1 (p0:Know):List Frag→(List (ByteArray × V8))→Option (Know)
  | [],v2 =>
  (bnd (sorted_s v2) fun y11 =>
   (chk (smallL y11)
     ((know_Plain_l3 p0 v2) y11 )))
  | x1e::xs1,v2 =>
  (chk (smallL x1e.ids)
    ((know_Plain_l2 x1e (fun w0=>know_Plain_l1 p0 xs1  w0)) x1e.ids v2))
def know_Plain_s (p0:Know):Option (Know) :=
 (chk (smallL p0.l)
   ((know_Plain_l1 p0) p0.l ([]:List (ByteArray × V8))))
variable {X:Task→Prop} (hX:Closed X) {Q:A→List Blk→Prop}
include hX
theorem know_Plain_c  {p0:Know} {r:Know} (h:know_Plain_s p0=some r) (hQ:Q (.agg (Know.cs r)) []):X (.call 145 [.agg (Know.cs p0)] [] Q):=by
  have K:=fun a (e:some a=some r)=>ret_some (f:=fun y=>.agg (Know.cs y)) (g:=fun y=>[]) e hQ
  unfold know_Plain_s at h
  refine call_nz hX ?_
  conv=>whnf
  refine call_intro hX Tryz.func145 rfl rfl ?_
  revert h
  refine chkk fun hs1 h=>?_
  conv=>whnf
  repeat((first|refine dw ?_|refine eqv_to (map_len _) ?_);conv=>whnf)
  refine loop_lisx1 (fun (v1:Int) (v2:List (ByteArray × V8))=>pad [(1,.one (.ptr 0 0)),(0,.one (.ptr 1 0)),(0,.one (.mp 3)),(13,.one (.p (.sl (p0.l.map Frag.row)))),(0,iv (p0.l.length:Int)),(0,iv v1)] 78) (fun (v1:Int) (v2:List (ByteArray × V8))=>[.box (Know.cs p0),.box [ic 0,ic 0,ic 0,ic 0,ic 0,ic 0,ic 0,ic 0,.own 2],.rows 0 [],.mp .str true (v2.map fun e=>(srw e.1,V8.row e.2))]) _ p0.l (fun pre1 x1e xs1 v1 v2 hl1 hi1 h ih1=>?_) (fun v1 v2 hi1 h=>?_) ([]:List (ByteArray × V8)) h
  ·rw [know_Plain_l1] at h
   have am1:=at_mid hl1 hi1
   refine loop_intro hX ?_
   revert h
   refine chkk fun hs2 h=>?_
   conv=>whnf
   repeat((first|refine dw ?_|refine bct (lt_mid hl1 hi1) ?_|refine bct (at_in am1) ?_|refine bct (andt (at_in am1) rfl) ?_|refine row_in (at_row am1) ?_|refine bct (andt (at_in (at_nat am1)) rfl) ?_|refine row_in (at_row (at_nat am1)) ?_|refine eqv_to (map_len _) ?_);conv=>whnf)
   refine loop_lisx1 (fun (v3:Int) (v4:List (ByteArray × V8))=>pad [(1,.one (.ptr 0 0)),(0,.one (.ptr 1 0)),(0,.one (.mp 3)),(1,.one (.ptr 4 0)),(11,.one (.p (.sl (p0.l.map Frag.row)))),(0,iv (p0.l.length:Int)),(0,iv v1),(4,.one (.p (.sl (x1e.ids.map srw)))),(0,iv (x1e.ids.length:Int)),(0,iv v3)] 71) (fun (v3:Int) (v4:List (ByteArray × V8))=>[.box (Know.cs p0),.box [ic 0,ic 0,ic 0,ic 0,ic 0,ic 0,ic 0,ic 0,.own 2],.rows 0 [],.mp .str true (v4.map fun e=>(srw e.1,V8.row e.2)),.box (Frag.cs x1e)]) _ x1e.ids (fun pre2 x2e xs2 v3 v4 hl2 hi2 h ih2=>?_) (fun v3 v4 hi2 h=>?_) v2 h
   ·rw [know_Plain_l2] at h
    have am2:=at_mid hl2 hi2
    refine loop_intro hX ?_
    conv=>whnf
    repeat((first|refine dw ?_|refine bct (lt_mid hl2 hi2) ?_|refine bct (at_in am2) ?_|refine bct (andt (at_in am2) rfl) ?_|refine row_in (at_row am2) ?_|refine bct (andt (at_in (at_nat am2)) rfl) ?_|refine row_in (at_row (at_nat am2)) ?_);conv=>whnf)
    refine map_look h (fun x5 e6 h=>?_) (fun e6 h=>?_) (get_mp (f:=srw) (g:=V8.row) _ x2e)
    ·revert h
     refine bndk fun y7 e8 h=>?_
     conv=>whnf
     repeat((first|refine dw ?_);conv=>whnf)
     refine vec_Max_c hX e8 ?_
     conv=>whnf
     repeat((first|refine dw ?_|refine eqv_to (set_mp (f:=srw) (g:=V8.row) v4 x2e y7) ?_);conv=>whnf)
     exact ih2 _ (mset srw v4 x2e y7) (wrL hs2 hl2 hi2) h
    ·revert h
     refine bndk fun y9 e10 h=>?_
     conv=>whnf
     repeat((first|refine dw ?_);conv=>whnf)
     refine vec_Max_c hX e10 ?_
     conv=>whnf
     repeat((first|refine dw ?_|refine eqv_to (set_mp (f:=srw) (g:=V8.row) v4 x2e y9) ?_);conv=>whnf)
     exact ih2 _ (mset srw v4 x2e y9) (wrL hs2 hl2 hi2) h
   ·rw [know_Plain_l2] at h
    refine loop_intro hX ?_
    conv=>whnf
    repeat((first|refine dw ?_|refine bcf (lt_end hi2) ?_);conv=>whnf)
    exact ih1 _ v4 (wrL hs1 hl1 hi1) h
  ·rw [know_Plain_l1] at h
   refine loop_intro hX ?_
   conv=>whnf
   repeat((first|refine dw ?_|refine bcf (lt_end hi1) ?_);conv=>whnf)
   refine call_intro hX Tryz.func201 rfl rfl ?_
   revert h
   refine bndk fun y11 e12 h=>?_
   conv=>whnf
   repeat((first|refine dw ?_);conv=>whnf)
   refine Or.inl ?_
   conv=>whnf
   refine sorted_c (g:=V8.row) hX e12 ?_
   revert h
   refine chkk fun hs3 h=>?_
   conv=>whnf
   repeat((first|refine dw ?_|refine eqv_to (map_len _) ?_);conv=>whnf)
   refine loop_nc hX ?_
   conv=>whnf
   refine loop_lisx0 (fun (v15:Int)=>pad [(1,.one (.ptr 0 0)),(0,.one (.ptr 1 0)),(0,.one (.mp 3)),(4,.one (.ptr 4 0)),(0,.one (.mp 6)),(36,.one (.own 7)),(0,iv (y11.length:Int)),(0,iv v15)] 49) (fun (v15:Int)=>[.box (Know.cs p0),.box [ic 0,ic 0,ic 0,ic 0,ic 0,ic 0,ic 0,ic 0,.own 2],.rows 0 [],.mp .str true (v2.map fun e=>(srw e.1,V8.row e.2)),.box [ic p0.star.x0,ic p0.star.x1,ic p0.star.x2,ic p0.star.x3,ic p0.star.x4,ic p0.star.x5,ic p0.star.x6,ic p0.star.x7,.own 5],.rows 0 [],.mp (.ints .i64 8) false (([]:List (V8 × Int)).map fun e=>(V8.row e.1,irw e.2)),.rows 1 (y11.map srw)]) _ y11 (fun pre3 x3e xs3 v15  hl3 hi3 h ih3=>?_) (fun v15  hi3 h=>?_)  h
   ·rw [know_Plain_l3] at h
    have am3:=at_mid hl3 hi3
    refine loop_intro hX ?_
    conv=>whnf
    repeat((first|refine dw ?_|refine bct (lt_mid hl3 hi3) ?_|refine bct (at_in am3) ?_|refine bct (andt (at_in am3) rfl) ?_|refine row_in (at_row am3) ?_|refine bct (andt (at_in (at_nat am3)) rfl) ?_|refine row_in (at_row (at_nat am3)) ?_);conv=>whnf)
    refine map_look h (fun x16 e17 h=>?_) (fun e17 h=>?_) (get_mp (f:=srw) (g:=V8.row) _ x3e)
    ·revert h
     refine bndk fun y18 e19 h=>?_
     conv=>whnf
     repeat((first|refine dw ?_);conv=>whnf)
     refine know_beyond_c hX e19 ?_
     conv=>whnf
     repeat((first|refine dw ?_);conv=>whnf)
     revert h
     refine brk (fun c20 h=>?_) (fun c20 h=>?_)
     ·conv=>whnf
      repeat((first|refine dw ?_|with_reducible refine bct (eq8_b c20) ?_|refine bct c20 ?_);conv=>whnf)
      exact ih3 _  (wrL hs3 hl3 hi3) h
     ·conv=>whnf
      repeat((first|refine dw ?_|with_reducible refine bcf (eq8_b c20) ?_|refine bcf c20 ?_);conv=>whnf)
      refine map_look h (fun x21 e22 h=>?_) (fun e22 h=>?_) (get_mp (f:=V8.row) (g:=irw) _ y18)
      ·exact no_some h
      ·revert h
       refine chkk fun c24 h=>?_
       have hs4:=hs3
       conv=>whnf
       repeat((first|refine dw ?_|refine eqv_to (b:=0) rfl ?_|refine eqv_to (set_mp (f:=V8.row) (g:=irw) ([]:List (V8 × Int)) y18 0) ?_|refine Two.r ?_|refine bct (by rfl) ?_|refine bct (by decide) ?_|refine bct (room_zero c24 rfl rfl rfl rfl) ?_|refine eqv_to (nil_one (f:=srw) x3e) ?_|refine eqv_to (b:=([(Frag.mk [x3e] y18)].map Frag.row)) rfl ?_);conv=>whnf)
       refine loop_nc hX ?_
       conv=>whnf
       refine loop_lisz2 (fun (v25:Int) (v26:List Frag) (v27:List (V8 × Int))=>pad [(1,.one (.ptr 0 0)),(0,.one (.ptr 1 0)),(0,.one (.mp 3)),(4,.one (.ptr 4 0)),(0,.one (.mp 6)),(36,.one (.own 7)),(0,iv (y11.length:Int)),(0,iv v25)] 49) (fun (v25:Int) (v26:List Frag) (v27:List (V8 × Int))=>[.box (Know.cs p0),.box [ic 0,ic 0,ic 0,ic 0,ic 0,ic 0,ic 0,ic 0,.own 2],.rows 0 [],.mp .str true (v2.map fun e=>(srw e.1,V8.row e.2)),.box [ic p0.star.x0,ic p0.star.x1,ic p0.star.x2,ic p0.star.x3,ic p0.star.x4,ic p0.star.x5,ic p0.star.x6,ic p0.star.x7,.own 5],.nest 9 0 1 (v26.map Frag.row),.mp (.ints .i64 8) false (v27.map fun e=>(V8.row e.1,irw e.2)),.rows 1 (y11.map srw)]) _ y11 _ xs3 _ (next_cut hl3) (next_len hs3 hl3 hi3) (fun pre4 x4e xs4 v25 v26 v27 hl4 hi4 h ih4=>?_) (fun v25 v26 v27 hi4 h=>?_) [(Frag.mk [x3e] y18)] (mset V8.row ([]:List (V8 × Int)) y18 0) h
       ·rw [know_Plain_l4] at h
        have am4:=at_mid hl4 hi4
        refine loop_intro hX ?_
        conv=>whnf
        repeat((first|refine dw ?_|refine bct (lt_mid hl4 hi4) ?_|refine bct (at_in am4) ?_|refine bct (andt (at_in am4) rfl) ?_|refine row_in (at_row am4) ?_|refine bct (andt (at_in (at_nat am4)) rfl) ?_|refine row_in (at_row (at_nat am4)) ?_);conv=>whnf)
        refine map_look h (fun x28 e29 h=>?_) (fun e29 h=>?_) (get_mp (f:=srw) (g:=V8.row) _ x4e)
        ·revert h
         refine bndk fun y30 e31 h=>?_
         conv=>whnf
         repeat((first|refine dw ?_);conv=>whnf)
         refine know_beyond_c hX e31 ?_
         conv=>whnf
         repeat((first|refine dw ?_);conv=>whnf)
         revert h
         refine brk (fun c32 h=>?_) (fun c32 h=>?_)
         ·conv=>whnf
          repeat((first|refine dw ?_|with_reducible refine bct (eq8_b c32) ?_|refine bct c32 ?_);conv=>whnf)
          exact ih4 _ v26 v27 (wrL hs4 hl4 hi4) h
         ·conv=>whnf
          repeat((first|refine dw ?_|with_reducible refine bcf (eq8_b c32) ?_|refine bcf c32 ?_);conv=>whnf)
          refine map_look h (fun x33 e34 h=>?_) (fun e34 h=>?_) (get_mp (f:=V8.row) (g:=irw) _ y30)
          ·revert h
           refine bndk fun x35 a36 h=>?_
           revert h
           refine chkk fun c37 h=>?_
           conv=>whnf
           repeat((first|refine dw ?_|refine bct (at_in a36) ?_|refine bct (andt (at_in a36) rfl) ?_|refine row_in (at_row a36) ?_|refine bct (andt (at_in (at_nat a36)) rfl) ?_|refine row_in (at_row (at_nat a36)) ?_|refine bct (and3 (at_in (at_nat a36)) rfl rfl) ?_|refine bct (and3 (at_in a36) rfl rfl) ?_|refine bct (room_map c37 rfl rfl rfl rfl) ?_|refine eqv_to (cat_one (f:=srw) x35.ids x4e) ?_|refine bct (and4 (at_in (at_nat a36)) rfl rfl (natbeq_self _)) ?_|refine bct (and4 (at_in a36) rfl rfl (natbeq_self _)) ?_|refine eqv_to (set_map (f:=Frag.row) v26 x33.toNat (Frag.mk (x35.ids++[x4e]) x35.vec)) ?_);conv=>whnf)
           exact ih4 _ (v26.set x33.toNat (Frag.mk (x35.ids++[x4e]) x35.vec)) v27 (wrL hs4 hl4 hi4) h
          ·revert h
           refine chkk fun c39 h=>?_
           revert h
           refine bndk fun x40 a41 h=>?_
           revert h
           refine chkk fun c42 h=>?_
           conv=>whnf
           repeat((first|refine dw ?_|refine eqv_to (map_len _) ?_|refine eqv_to (set_mp (f:=V8.row) (g:=irw) v27 y30 (v26.length:Int)) ?_|refine Two.r ?_|refine bct (room_nest c39 rfl rfl rfl) ?_|refine eqv_to (cat_one (f:=Frag.row) v26 (Frag.mk ([]:List ByteArray) y30)) ?_|refine bct (at_in a41) ?_|refine bct (andt (at_in a41) rfl) ?_|refine row_in (at_row a41) ?_|refine bct (andt (at_in (at_nat a41)) rfl) ?_|refine row_in (at_row (at_nat a41)) ?_|refine bct (and3 (at_in (at_nat a41)) rfl rfl) ?_|refine bct (and3 (at_in a41) rfl rfl) ?_|refine bct (room_map c42 rfl rfl rfl rfl) ?_|refine eqv_to (cat_one (f:=srw) x40.ids x4e) ?_|refine bct (and4 (at_in (at_nat a41)) rfl rfl (natbeq_self _)) ?_|refine bct (and4 (at_in a41) rfl rfl (natbeq_self _)) ?_|refine eqv_to (set_map (f:=Frag.row) (v26++[(Frag.mk ([]:List ByteArray) y30)]) (v26.length:Int).toNat (Frag.mk (x40.ids++[x4e]) x40.vec)) ?_);conv=>whnf)
           exact ih4 _ ((v26++[(Frag.mk ([]:List ByteArray) y30)]).set (v26.length:Int).toNat (Frag.mk (x40.ids++[x4e]) x40.vec)) (mset V8.row v27 y30 (v26.length:Int)) (wrL hs4 hl4 hi4) h
        ·revert h
         refine bndk fun y43 e44 h=>?_
         conv=>whnf
         repeat((first|refine dw ?_);conv=>whnf)
         refine know_beyond_c hX e44 ?_
         conv=>whnf
         repeat((first|refine dw ?_);conv=>whnf)
         revert h
         refine brk (fun c45 h=>?_) (fun c45 h=>?_)
         ·conv=>whnf
          repeat((first|refine dw ?_|with_reducible refine bct (eq8_b c45) ?_|refine bct c45 ?_);conv=>whnf)
          exact ih4 _ v26 v27 (wrL hs4 hl4 hi4) h
         ·conv=>whnf
          repeat((first|refine dw ?_|with_reducible refine bcf (eq8_b c45) ?_|refine bcf c45 ?_);conv=>whnf)
          refine map_look h (fun x46 e47 h=>?_) (fun e47 h=>?_) (get_mp (f:=V8.row) (g:=irw) _ y43)
          ·revert h
           refine bndk fun x48 a49 h=>?_
           revert h
           refine chkk fun c50 h=>?_
           conv=>whnf
           repeat((first|refine dw ?_|refine bct (at_in a49) ?_|refine bct (andt (at_in a49) rfl) ?_|refine row_in (at_row a49) ?_|refine bct (andt (at_in (at_nat a49)) rfl) ?_|refine row_in (at_row (at_nat a49)) ?_|refine bct (and3 (at_in (at_nat a49)) rfl rfl) ?_|refine bct (and3 (at_in a49) rfl rfl) ?_|refine bct (room_map c50 rfl rfl rfl rfl) ?_|refine eqv_to (cat_one (f:=srw) x48.ids x4e) ?_|refine bct (and4 (at_in (at_nat a49)) rfl rfl (natbeq_self _)) ?_|refine bct (and4 (at_in a49) rfl rfl (natbeq_self _)) ?_|refine eqv_to (set_map (f:=Frag.row) v26 x46.toNat (Frag.mk (x48.ids++[x4e]) x48.vec)) ?_);conv=>whnf)
           exact ih4 _ (v26.set x46.toNat (Frag.mk (x48.ids++[x4e]) x48.vec)) v27 (wrL hs4 hl4 hi4) h
          ·revert h
           refine chkk fun c52 h=>?_
           revert h
           refine bndk fun x53 a54 h=>?_
           revert h
           refine chkk fun c55 h=>?_
           conv=>whnf
           repeat((first|refine dw ?_|refine eqv_to (map_len _) ?_|refine eqv_to (set_mp (f:=V8.row) (g:=irw) v27 y43 (v26.length:Int)) ?_|refine Two.r ?_|refine bct (room_nest c52 rfl rfl rfl) ?_|refine eqv_to (cat_one (f:=Frag.row) v26 (Frag.mk ([]:List ByteArray) y43)) ?_|refine bct (at_in a54) ?_|refine bct (andt (at_in a54) rfl) ?_|refine row_in (at_row a54) ?_|refine bct (andt (at_in (at_nat a54)) rfl) ?_|refine row_in (at_row (at_nat a54)) ?_|refine bct (and3 (at_in (at_nat a54)) rfl rfl) ?_|refine bct (and3 (at_in a54) rfl rfl) ?_|refine bct (room_map c55 rfl rfl rfl rfl) ?_|refine eqv_to (cat_one (f:=srw) x53.ids x4e) ?_|refine bct (and4 (at_in (at_nat a54)) rfl rfl (natbeq_self _)) ?_|refine bct (and4 (at_in a54) rfl rfl (natbeq_self _)) ?_|refine eqv_to (set_map (f:=Frag.row) (v26++[(Frag.mk ([]:List ByteArray) y43)]) (v26.length:Int).toNat (Frag.mk (x53.ids++[x4e]) x53.vec)) ?_);conv=>whnf)
           exact ih4 _ ((v26++[(Frag.mk ([]:List ByteArray) y43)]).set (v26.length:Int).toNat (Frag.mk (x53.ids++[x4e]) x53.vec)) (mset V8.row v27 y43 (v26.length:Int)) (wrL hs4 hl4 hi4) h
       ·rw [know_Plain_l4] at h
        refine loop_intro hX ?_
        conv=>whnf
        repeat((first|refine dw ?_|refine bcf (lt_end hi4) ?_);conv=>whnf)
        exact K _ h
    ·revert h
     refine bndk fun y56 e57 h=>?_
     conv=>whnf
     repeat((first|refine dw ?_);conv=>whnf)
     refine know_beyond_c hX e57 ?_
     conv=>whnf
     repeat((first|refine dw ?_);conv=>whnf)
     revert h
     refine brk (fun c58 h=>?_) (fun c58 h=>?_)
     ·conv=>whnf
      repeat((first|refine dw ?_|with_reducible refine bct (eq8_b c58) ?_|refine bct c58 ?_);conv=>whnf)
      exact ih3 _  (wrL hs3 hl3 hi3) h
     ·conv=>whnf
      repeat((first|refine dw ?_|with_reducible refine bcf (eq8_b c58) ?_|refine bcf c58 ?_);conv=>whnf)
      refine map_look h (fun x59 e60 h=>?_) (fun e60 h=>?_) (get_mp (f:=V8.row) (g:=irw) _ y56)
      ·exact no_some h
      ·revert h
       refine chkk fun c62 h=>?_
       have hs5:=hs3
       conv=>whnf
       repeat((first|refine dw ?_|refine eqv_to (b:=0) rfl ?_|refine eqv_to (set_mp (f:=V8.row) (g:=irw) ([]:List (V8 × Int)) y56 0) ?_|refine Two.r ?_|refine bct (by rfl) ?_|refine bct (by decide) ?_|refine bct (room_zero c62 rfl rfl rfl rfl) ?_|refine eqv_to (nil_one (f:=srw) x3e) ?_|refine eqv_to (b:=([(Frag.mk [x3e] y56)].map Frag.row)) rfl ?_);conv=>whnf)
       refine loop_nc hX ?_
       conv=>whnf
       refine loop_lisz2 (fun (v63:Int) (v64:List Frag) (v65:List (V8 × Int))=>pad [(1,.one (.ptr 0 0)),(0,.one (.ptr 1 0)),(0,.one (.mp 3)),(4,.one (.ptr 4 0)),(0,.one (.mp 6)),(36,.one (.own 7)),(0,iv (y11.length:Int)),(0,iv v63)] 49) (fun (v63:Int) (v64:List Frag) (v65:List (V8 × Int))=>[.box (Know.cs p0),.box [ic 0,ic 0,ic 0,ic 0,ic 0,ic 0,ic 0,ic 0,.own 2],.rows 0 [],.mp .str true (v2.map fun e=>(srw e.1,V8.row e.2)),.box [ic p0.star.x0,ic p0.star.x1,ic p0.star.x2,ic p0.star.x3,ic p0.star.x4,ic p0.star.x5,ic p0.star.x6,ic p0.star.x7,.own 5],.nest 9 0 1 (v64.map Frag.row),.mp (.ints .i64 8) false (v65.map fun e=>(V8.row e.1,irw e.2)),.rows 1 (y11.map srw)]) _ y11 _ xs3 _ (next_cut hl3) (next_len hs3 hl3 hi3) (fun pre5 x5e xs5 v63 v64 v65 hl5 hi5 h ih5=>?_) (fun v63 v64 v65 hi5 h=>?_) [(Frag.mk [x3e] y56)] (mset V8.row ([]:List (V8 × Int)) y56 0) h
       ·rw [know_Plain_l5] at h
        have am5:=at_mid hl5 hi5
        refine loop_intro hX ?_
        conv=>whnf
        repeat((first|refine dw ?_|refine bct (lt_mid hl5 hi5) ?_|refine bct (at_in am5) ?_|refine bct (andt (at_in am5) rfl) ?_|refine row_in (at_row am5) ?_|refine bct (andt (at_in (at_nat am5)) rfl) ?_|refine row_in (at_row (at_nat am5)) ?_);conv=>whnf)
        refine map_look h (fun x66 e67 h=>?_) (fun e67 h=>?_) (get_mp (f:=srw) (g:=V8.row) _ x5e)
        ·revert h
         refine bndk fun y68 e69 h=>?_
         conv=>whnf
         repeat((first|refine dw ?_);conv=>whnf)
         refine know_beyond_c hX e69 ?_
         conv=>whnf
         repeat((first|refine dw ?_);conv=>whnf)
         revert h
         refine brk (fun c70 h=>?_) (fun c70 h=>?_)
         ·conv=>whnf
          repeat((first|refine dw ?_|with_reducible refine bct (eq8_b c70) ?_|refine bct c70 ?_);conv=>whnf)
          exact ih5 _ v64 v65 (wrL hs5 hl5 hi5) h
         ·conv=>whnf
          repeat((first|refine dw ?_|with_reducible refine bcf (eq8_b c70) ?_|refine bcf c70 ?_);conv=>whnf)
          refine map_look h (fun x71 e72 h=>?_) (fun e72 h=>?_) (get_mp (f:=V8.row) (g:=irw) _ y68)
          ·revert h
           refine bndk fun x73 a74 h=>?_
           revert h
           refine chkk fun c75 h=>?_
           conv=>whnf
           repeat((first|refine dw ?_|refine bct (at_in a74) ?_|refine bct (andt (at_in a74) rfl) ?_|refine row_in (at_row a74) ?_|refine bct (andt (at_in (at_nat a74)) rfl) ?_|refine row_in (at_row (at_nat a74)) ?_|refine bct (and3 (at_in (at_nat a74)) rfl rfl) ?_|refine bct (and3 (at_in a74) rfl rfl) ?_|refine bct (room_map c75 rfl rfl rfl rfl) ?_|refine eqv_to (cat_one (f:=srw) x73.ids x5e) ?_|refine bct (and4 (at_in (at_nat a74)) rfl rfl (natbeq_self _)) ?_|refine bct (and4 (at_in a74) rfl rfl (natbeq_self _)) ?_|refine eqv_to (set_map (f:=Frag.row) v64 x71.toNat (Frag.mk (x73.ids++[x5e]) x73.vec)) ?_);conv=>whnf)
           exact ih5 _ (v64.set x71.toNat (Frag.mk (x73.ids++[x5e]) x73.vec)) v65 (wrL hs5 hl5 hi5) h
          ·revert h
           refine chkk fun c77 h=>?_
           revert h
           refine bndk fun x78 a79 h=>?_
           revert h
           refine chkk fun c80 h=>?_
           conv=>whnf
           repeat((first|refine dw ?_|refine eqv_to (map_len _) ?_|refine eqv_to (set_mp (f:=V8.row) (g:=irw) v65 y68 (v64.length:Int)) ?_|refine Two.r ?_|refine bct (room_nest c77 rfl rfl rfl) ?_|refine eqv_to (cat_one (f:=Frag.row) v64 (Frag.mk ([]:List ByteArray) y68)) ?_|refine bct (at_in a79) ?_|refine bct (andt (at_in a79) rfl) ?_|refine row_in (at_row a79) ?_|refine bct (andt (at_in (at_nat a79)) rfl) ?_|refine row_in (at_row (at_nat a79)) ?_|refine bct (and3 (at_in (at_nat a79)) rfl rfl) ?_|refine bct (and3 (at_in a79) rfl rfl) ?_|refine bct (room_map c80 rfl rfl rfl rfl) ?_|refine eqv_to (cat_one (f:=srw) x78.ids x5e) ?_|refine bct (and4 (at_in (at_nat a79)) rfl rfl (natbeq_self _)) ?_|refine bct (and4 (at_in a79) rfl rfl (natbeq_self _)) ?_|refine eqv_to (set_map (f:=Frag.row) (v64++[(Frag.mk ([]:List ByteArray) y68)]) (v64.length:Int).toNat (Frag.mk (x78.ids++[x5e]) x78.vec)) ?_);conv=>whnf)
           exact ih5 _ ((v64++[(Frag.mk ([]:List ByteArray) y68)]).set (v64.length:Int).toNat (Frag.mk (x78.ids++[x5e]) x78.vec)) (mset V8.row v65 y68 (v64.length:Int)) (wrL hs5 hl5 hi5) h
        ·revert h
         refine bndk fun y81 e82 h=>?_
         conv=>whnf
         repeat((first|refine dw ?_);conv=>whnf)
         refine know_beyond_c hX e82 ?_
         conv=>whnf
         repeat((first|refine dw ?_);conv=>whnf)
         revert h
         refine brk (fun c83 h=>?_) (fun c83 h=>?_)
         ·conv=>whnf
          repeat((first|refine dw ?_|with_reducible refine bct (eq8_b c83) ?_|refine bct c83 ?_);conv=>whnf)
          exact ih5 _ v64 v65 (wrL hs5 hl5 hi5) h
         ·conv=>whnf
          repeat((first|refine dw ?_|with_reducible refine bcf (eq8_b c83) ?_|refine bcf c83 ?_);conv=>whnf)
          refine map_look h (fun x84 e85 h=>?_) (fun e85 h=>?_) (get_mp (f:=V8.row) (g:=irw) _ y81)
          ·revert h
           refine bndk fun x86 a87 h=>?_
           revert h
           refine chkk fun c88 h=>?_
           conv=>whnf
           repeat((first|refine dw ?_|refine bct (at_in a87) ?_|refine bct (andt (at_in a87) rfl) ?_|refine row_in (at_row a87) ?_|refine bct (andt (at_in (at_nat a87)) rfl) ?_|refine row_in (at_row (at_nat a87)) ?_|refine bct (and3 (at_in (at_nat a87)) rfl rfl) ?_|refine bct (and3 (at_in a87) rfl rfl) ?_|refine bct (room_map c88 rfl rfl rfl rfl) ?_|refine eqv_to (cat_one (f:=srw) x86.ids x5e) ?_|refine bct (and4 (at_in (at_nat a87)) rfl rfl (natbeq_self _)) ?_|refine bct (and4 (at_in a87) rfl rfl (natbeq_self _)) ?_|refine eqv_to (set_map (f:=Frag.row) v64 x84.toNat (Frag.mk (x86.ids++[x5e]) x86.vec)) ?_);conv=>whnf)
           exact ih5 _ (v64.set x84.toNat (Frag.mk (x86.ids++[x5e]) x86.vec)) v65 (wrL hs5 hl5 hi5) h
          ·revert h
           refine chkk fun c90 h=>?_
           revert h
           refine bndk fun x91 a92 h=>?_
           revert h
           refine chkk fun c93 h=>?_
           conv=>whnf
           repeat((first|refine dw ?_|refine eqv_to (map_len _) ?_|refine eqv_to (set_mp (f:=V8.row) (g:=irw) v65 y81 (v64.length:Int)) ?_|refine Two.r ?_|refine bct (room_nest c90 rfl rfl rfl) ?_|refine eqv_to (cat_one (f:=Frag.row) v64 (Frag.mk ([]:List ByteArray) y81)) ?_|refine bct (at_in a92) ?_|refine bct (andt (at_in a92) rfl) ?_|refine row_in (at_row a92) ?_|refine bct (andt (at_in (at_nat a92)) rfl) ?_|refine row_in (at_row (at_nat a92)) ?_|refine bct (and3 (at_in (at_nat a92)) rfl rfl) ?_|refine bct (and3 (at_in a92) rfl rfl) ?_|refine bct (room_map c93 rfl rfl rfl rfl) ?_|refine eqv_to (cat_one (f:=srw) x91.ids x5e) ?_|refine bct (and4 (at_in (at_nat a92)) rfl rfl (natbeq_self _)) ?_|refine bct (and4 (at_in a92) rfl rfl (natbeq_self _)) ?_|refine eqv_to (set_map (f:=Frag.row) (v64++[(Frag.mk ([]:List ByteArray) y81)]) (v64.length:Int).toNat (Frag.mk (x91.ids++[x5e]) x91.vec)) ?_);conv=>whnf)
           exact ih5 _ ((v64++[(Frag.mk ([]:List ByteArray) y81)]).set (v64.length:Int).toNat (Frag.mk (x91.ids++[x5e]) x91.vec)) (mset V8.row v65 y81 (v64.length:Int)) (wrL hs5 hl5 hi5) h
       ·rw [know_Plain_l5] at h
        refine loop_intro hX ?_
        conv=>whnf
        repeat((first|refine dw ?_|refine bcf (lt_end hi5) ?_);conv=>whnf)
        exact K _ h
   ·rw [know_Plain_l3] at h
    refine loop_intro hX ?_
    conv=>whnf
    repeat((first|refine dw ?_|refine bcf (lt_end hi3) ?_);conv=>whnf)
    exact K _ h
end
end Go.Proofs.YtidkmoohgadjkaaGreat
set_option maxHeartbeats 0
namespace Go.Proofs.YtidkmoohgadjkaaGreat
open Go E
noncomputable section
open Pred
def know_With_s (p0:Know) (p1:ByteArray) (p2:Ver):Option (Know) :=
 (bnd (vec_With_s (V8.mk 0 0 0 0 0 0 0 0) p2) fun y1 =>
  (bnd (clone_s p0.l) fun y3 =>
   (chk (roomL y3.length 1)
    (bnd (know_Plain_s (Know.mk p0.star (y3++[(Frag.mk [p1] y1)]))) fun y6 =>
     some y6))))
def know_Own_j1 (p0:Know) (p1:ByteArray) (p2_c:Int):Option (Know) :=
 (bnd (know_With_s p0 p1 (Ver.mk 1 p2_c)) fun y101 =>
  some y101)
def know_Own_j2 (p0:Know) (p1:ByteArray) (p2_c:Int):Option (Know) :=
 (bnd (know_With_s p0 p1 (Ver.mk 2 p2_c)) fun y209 =>
  some y209)
def know_Own_j3 (p0:Know) (p1:ByteArray) (p2_c:Int):Option (Know) :=
 (bnd (know_With_s p0 p1 (Ver.mk 3 p2_c)) fun y317 =>
  some y317)
def know_Own_j4 (p0:Know) (p1:ByteArray) (p2_c:Int):Option (Know) :=
 (bnd (know_With_s p0 p1 (Ver.mk 4 p2_c)) fun y425 =>
  some y425)
def know_Own_j5 (p0:Know) (p1:ByteArray) (p2_c:Int):Option (Know) :=
 (bnd (know_With_s p0 p1 (Ver.mk 5 p2_c)) fun y533 =>
  some y533)
def know_Own_j6 (p0:Know) (p1:ByteArray) (p2_c:Int):Option (Know) :=
 (bnd (know_With_s p0 p1 (Ver.mk 6 p2_c)) fun y641 =>
  some y641)
def know_Own_j7 (p0:Know) (p1:ByteArray) (p2_c:Int):Option (Know) :=
 (bnd (know_With_s p0 p1 (Ver.mk 7 p2_c)) fun y749 =>
  some y749)
def know_Own_j8 (p0:Know) (p1:ByteArray) (p2_c:Int):Option (Know) :=
 (bnd (know_With_s p0 p1 (Ver.mk 8 p2_c)) fun y857 =>
  some y857)
def know_Own_j9 (p0:Know) (p1:ByteArray) (p2_r:Int) (p2_c:Int):Option (Know) :=
 (bnd (know_With_s p0 p1 (Ver.mk p2_r p2_c)) fun y965 =>
  some y965)
def know_Own_s (p0:Know) (p1:ByteArray) (p2:Ver):Option (Know) :=
 match p2 with
 | ⟨p2_r,p2_c⟩ =>
  (br (eqI p2_r 1)
   (br (leI 1 p2_c)
    (br (eqI p0.star.x0 (wr .i64 (p2_c - 1)))
     (bnd (vec_With_s p0.star (Ver.mk 1 p2_c)) fun y105 =>
      (bnd (know_Plain_s (Know.mk y105 p0.l)) fun y107 =>
       some y107))
     (know_Own_j1 p0 p1 p2_c ))
    (know_Own_j1 p0 p1 p2_c ))
   (br (eqI p2_r 2)
    (br (leI 1 p2_c)
     (br (eqI p0.star.x1 (wr .i64 (p2_c - 1)))
      (bnd (vec_With_s p0.star (Ver.mk 2 p2_c)) fun y213 =>
       (bnd (know_Plain_s (Know.mk y213 p0.l)) fun y215 =>
        some y215))
      (know_Own_j2 p0 p1 p2_c ))
     (know_Own_j2 p0 p1 p2_c ))
    (br (eqI p2_r 3)
     (br (leI 1 p2_c)
      (br (eqI p0.star.x2 (wr .i64 (p2_c - 1)))
       (bnd (vec_With_s p0.star (Ver.mk 3 p2_c)) fun y321 =>
        (bnd (know_Plain_s (Know.mk y321 p0.l)) fun y323 =>
         some y323))
       (know_Own_j3 p0 p1 p2_c ))
      (know_Own_j3 p0 p1 p2_c ))
     (br (eqI p2_r 4)
      (br (leI 1 p2_c)
       (br (eqI p0.star.x3 (wr .i64 (p2_c - 1)))
        (bnd (vec_With_s p0.star (Ver.mk 4 p2_c)) fun y429 =>
         (bnd (know_Plain_s (Know.mk y429 p0.l)) fun y431 =>
          some y431))
        (know_Own_j4 p0 p1 p2_c ))
       (know_Own_j4 p0 p1 p2_c ))
      (br (eqI p2_r 5)
       (br (leI 1 p2_c)
        (br (eqI p0.star.x4 (wr .i64 (p2_c - 1)))
         (bnd (vec_With_s p0.star (Ver.mk 5 p2_c)) fun y537 =>
          (bnd (know_Plain_s (Know.mk y537 p0.l)) fun y539 =>
           some y539))
         (know_Own_j5 p0 p1 p2_c ))
        (know_Own_j5 p0 p1 p2_c ))
       (br (eqI p2_r 6)
        (br (leI 1 p2_c)
         (br (eqI p0.star.x5 (wr .i64 (p2_c - 1)))
          (bnd (vec_With_s p0.star (Ver.mk 6 p2_c)) fun y645 =>
           (bnd (know_Plain_s (Know.mk y645 p0.l)) fun y647 =>
            some y647))
          (know_Own_j6 p0 p1 p2_c ))
         (know_Own_j6 p0 p1 p2_c ))
        (br (eqI p2_r 7)
         (br (leI 1 p2_c)
          (br (eqI p0.star.x6 (wr .i64 (p2_c - 1)))
           (bnd (vec_With_s p0.star (Ver.mk 7 p2_c)) fun y753 =>
            (bnd (know_Plain_s (Know.mk y753 p0.l)) fun y755 =>
             some y755))
           (know_Own_j7 p0 p1 p2_c ))
          (know_Own_j7 p0 p1 p2_c ))
         (br (eqI p2_r 8)
          (br (leI 1 p2_c)
           (br (eqI p0.star.x7 (wr .i64 (p2_c - 1)))
            (bnd (vec_With_s p0.star (Ver.mk 8 p2_c)) fun y861 =>
             (bnd (know_Plain_s (Know.mk y861 p0.l)) fun y863 =>
              some y863))
            (know_Own_j8 p0 p1 p2_c ))
           (know_Own_j8 p0 p1 p2_c ))
          (br (leI 1 p2_r)
           (br (leI p2_r 8)
            (br (leI 1 p2_c)
             none
             (know_Own_j9 p0 p1 p2_r p2_c ))
            (know_Own_j9 p0 p1 p2_r p2_c ))
           (know_Own_j9 p0 p1 p2_r p2_c ))))))))))
variable {X:Task→Prop} (hX:Closed X) {Q:A→List Blk→Prop}
include hX
theorem know_With_c  {p0:Know} {p1:ByteArray} {p2:Ver} {r:Know} (h:know_With_s p0 p1 p2=some r) (hQ:Q (.agg (Know.cs r)) []):X (.call 97 [.agg (Know.cs p0),.one (.p (.v (.string p1))),.agg (Ver.cs p2)] [] Q):=by
 unfold know_With_s at h
 refine call_nz hX ?_
 conv=>whnf
 refine call_intro hX Tryz.func97 rfl rfl ?_
 revert h
 refine bndk fun y1 e2 h=>?_
 conv=>whnf
 repeat((first|refine dw ?_);conv=>whnf)
 refine vec_With_c hX e2 ?_
 revert h
 refine bndk fun y3 e4 h=>?_
 conv=>whnf
 repeat((first|refine dw ?_);conv=>whnf)
 refine clone_c (f:=Frag.row) (k:=9) (fun _=>rfl) (by decide) hX e4 ?_
 revert h
 refine chkk fun c5 h=>?_
 revert h
 refine bndk fun y6 e7 h=>?_
 conv=>whnf
 repeat((first|refine dw ?_|refine bct (room_map c5 rfl rfl rfl rfl) ?_|refine eqv_to (cat_one (f:=Frag.row) y3 (Frag.mk [p1] y1)) ?_);conv=>whnf)
 refine Or.inl ?_
 conv=>whnf
 refine know_Plain_c hX e7 ?_
 conv=>whnf
 repeat((first|refine dw ?_);conv=>whnf)
 exact ret_some (f:=fun y=>.agg (Know.cs y)) (g:=fun y=>[]) h hQ
theorem know_Own_c  {p0:Know} {p1:ByteArray} {p2:Ver} {r:Know} (h:know_Own_s p0 p1 p2=some r) (hQ:Q (.agg (Know.cs r)) []):X (.call 217 [.agg (Know.cs p0),.one (.p (.v (.string p1))),.agg (Ver.cs p2)] [] Q):=by
  have K:=fun a (e:some a=some r)=>ret_some (f:=fun y=>.agg (Know.cs y)) (g:=fun y=>[]) e hQ
  obtain ⟨p2_r,p2_c⟩:=p2
  unfold know_Own_s at h
  dsimp only at h
  refine br_case h (fun c g=>?_) (fun c g=>?_)
  ·replace h:=g
   clear g
   obtain rfl:=eqI_t.1 c
   clear c
   refine call_nz hX ?_
   conv=>whnf
   refine call_intro hX Tryz.func217 rfl rfl ?_
   apply join0 (X:=X) (r:=r) (pad [(1,.one (.p (.v (.string p1)))),(1,.one (.ptr 0 0)),(1,.one (.ptr 1 0)),(0,.one (.ptr 2 0))] 36) ([.box (Know.cs p0),.box [ic 1,ic p2_c],.box [ic 0,ic 0,ic 0,ic 0,ic 0,ic 0,ic 0,ic 0,.own 3],.rows 0 []])
   ·intro tl1
    conv=>whnf
    repeat((first|refine dw ?_);conv=>whnf)
    refine br_some h (fun c103 g=>?_) (fun c103 g=>?_)
    ·replace h:=g
     clear g
     conv=>whnf
     repeat((first|refine dw ?_|refine bct c103 ?_);conv=>whnf)
     refine br_some h (fun c104 g=>?_) (fun c104 g=>?_)
     ·replace h:=g
      clear g
      replace h:=bnd_some h
      obtain ⟨y105,e106,h⟩:=h
      conv=>whnf
      repeat((first|refine dw ?_|refine bct c104 ?_);conv=>whnf)
      refine vec_With_c hX e106 ?_
      replace h:=bnd_some h
      obtain ⟨y107,e108,h⟩:=h
      conv=>whnf
      repeat((first|refine dw ?_);conv=>whnf)
      refine know_Plain_c hX e108 ?_
      conv=>whnf
      repeat((first|refine dw ?_);conv=>whnf)
      exact K _ h
     ·replace h:=g
      clear g
      conv=>whnf
      repeat((first|refine dw ?_|refine bcf c104 ?_);conv=>whnf)
      exact tl1.h  h
    ·replace h:=g
     clear g
     conv=>whnf
     repeat((first|refine dw ?_|refine bcf c103 ?_);conv=>whnf)
     exact tl1.h  h
   ·intro h
    unfold know_Own_j1 at h
    refine rest_intro hX ?_
    replace h:=bnd_some h
    obtain ⟨y101,e102,h⟩:=h
    conv=>whnf
    repeat((first|refine dw ?_);conv=>whnf)
    refine know_With_c hX e102 ?_
    conv=>whnf
    repeat((first|refine dw ?_);conv=>whnf)
    exact K _ h
  ·replace h:=g
   clear g c
   refine br_case h (fun c g=>?_) (fun c g=>?_)
   ·replace h:=g
    clear g
    obtain rfl:=eqI_t.1 c
    clear c
    refine call_nz hX ?_
    conv=>whnf
    refine call_intro hX Tryz.func217 rfl rfl ?_
    apply join0 (X:=X) (r:=r) (pad [(1,.one (.p (.v (.string p1)))),(1,.one (.ptr 0 0)),(1,.one (.ptr 1 0)),(0,.one (.ptr 2 0))] 36) ([.box (Know.cs p0),.box [ic 2,ic p2_c],.box [ic 0,ic 0,ic 0,ic 0,ic 0,ic 0,ic 0,ic 0,.own 3],.rows 0 []])
    ·intro tl2
     conv=>whnf
     repeat((first|refine dw ?_);conv=>whnf)
     refine br_some h (fun c211 g=>?_) (fun c211 g=>?_)
     ·replace h:=g
      clear g
      conv=>whnf
      repeat((first|refine dw ?_|refine bct c211 ?_);conv=>whnf)
      refine br_some h (fun c212 g=>?_) (fun c212 g=>?_)
      ·replace h:=g
       clear g
       replace h:=bnd_some h
       obtain ⟨y213,e214,h⟩:=h
       conv=>whnf
       repeat((first|refine dw ?_|refine bct c212 ?_);conv=>whnf)
       refine vec_With_c hX e214 ?_
       replace h:=bnd_some h
       obtain ⟨y215,e216,h⟩:=h
       conv=>whnf
       repeat((first|refine dw ?_);conv=>whnf)
       refine know_Plain_c hX e216 ?_
       conv=>whnf
       repeat((first|refine dw ?_);conv=>whnf)
       exact K _ h
      ·replace h:=g
       clear g
       conv=>whnf
       repeat((first|refine dw ?_|refine bcf c212 ?_);conv=>whnf)
       exact tl2.h  h
     ·replace h:=g
      clear g
      conv=>whnf
      repeat((first|refine dw ?_|refine bcf c211 ?_);conv=>whnf)
      exact tl2.h  h
    ·intro h
     unfold know_Own_j2 at h
     refine rest_intro hX ?_
     replace h:=bnd_some h
     obtain ⟨y209,e210,h⟩:=h
     conv=>whnf
     repeat((first|refine dw ?_);conv=>whnf)
     refine know_With_c hX e210 ?_
     conv=>whnf
     repeat((first|refine dw ?_);conv=>whnf)
     exact K _ h
   ·replace h:=g
    clear g c
    refine br_case h (fun c g=>?_) (fun c g=>?_)
    ·replace h:=g
     clear g
     obtain rfl:=eqI_t.1 c
     clear c
     refine call_nz hX ?_
     conv=>whnf
     refine call_intro hX Tryz.func217 rfl rfl ?_
     apply join0 (X:=X) (r:=r) (pad [(1,.one (.p (.v (.string p1)))),(1,.one (.ptr 0 0)),(1,.one (.ptr 1 0)),(0,.one (.ptr 2 0))] 36) ([.box (Know.cs p0),.box [ic 3,ic p2_c],.box [ic 0,ic 0,ic 0,ic 0,ic 0,ic 0,ic 0,ic 0,.own 3],.rows 0 []])
     ·intro tl3
      conv=>whnf
      repeat((first|refine dw ?_);conv=>whnf)
      refine br_some h (fun c319 g=>?_) (fun c319 g=>?_)
      ·replace h:=g
       clear g
       conv=>whnf
       repeat((first|refine dw ?_|refine bct c319 ?_);conv=>whnf)
       refine br_some h (fun c320 g=>?_) (fun c320 g=>?_)
       ·replace h:=g
        clear g
        replace h:=bnd_some h
        obtain ⟨y321,e322,h⟩:=h
        conv=>whnf
        repeat((first|refine dw ?_|refine bct c320 ?_);conv=>whnf)
        refine vec_With_c hX e322 ?_
        replace h:=bnd_some h
        obtain ⟨y323,e324,h⟩:=h
        conv=>whnf
        repeat((first|refine dw ?_);conv=>whnf)
        refine know_Plain_c hX e324 ?_
        conv=>whnf
        repeat((first|refine dw ?_);conv=>whnf)
        exact K _ h
       ·replace h:=g
        clear g
        conv=>whnf
        repeat((first|refine dw ?_|refine bcf c320 ?_);conv=>whnf)
        exact tl3.h  h
      ·replace h:=g
       clear g
       conv=>whnf
       repeat((first|refine dw ?_|refine bcf c319 ?_);conv=>whnf)
       exact tl3.h  h
     ·intro h
      unfold know_Own_j3 at h
      refine rest_intro hX ?_
      replace h:=bnd_some h
      obtain ⟨y317,e318,h⟩:=h
      conv=>whnf
      repeat((first|refine dw ?_);conv=>whnf)
      refine know_With_c hX e318 ?_
      conv=>whnf
      repeat((first|refine dw ?_);conv=>whnf)
      exact K _ h
    ·replace h:=g
     clear g c
     refine br_case h (fun c g=>?_) (fun c g=>?_)
     ·replace h:=g
      clear g
      obtain rfl:=eqI_t.1 c
      clear c
      refine call_nz hX ?_
      conv=>whnf
      refine call_intro hX Tryz.func217 rfl rfl ?_
      apply join0 (X:=X) (r:=r) (pad [(1,.one (.p (.v (.string p1)))),(1,.one (.ptr 0 0)),(1,.one (.ptr 1 0)),(0,.one (.ptr 2 0))] 36) ([.box (Know.cs p0),.box [ic 4,ic p2_c],.box [ic 0,ic 0,ic 0,ic 0,ic 0,ic 0,ic 0,ic 0,.own 3],.rows 0 []])
      ·intro tl4
       conv=>whnf
       repeat((first|refine dw ?_);conv=>whnf)
       refine br_some h (fun c427 g=>?_) (fun c427 g=>?_)
       ·replace h:=g
        clear g
        conv=>whnf
        repeat((first|refine dw ?_|refine bct c427 ?_);conv=>whnf)
        refine br_some h (fun c428 g=>?_) (fun c428 g=>?_)
        ·replace h:=g
         clear g
         replace h:=bnd_some h
         obtain ⟨y429,e430,h⟩:=h
         conv=>whnf
         repeat((first|refine dw ?_|refine bct c428 ?_);conv=>whnf)
         refine vec_With_c hX e430 ?_
         replace h:=bnd_some h
         obtain ⟨y431,e432,h⟩:=h
         conv=>whnf
         repeat((first|refine dw ?_);conv=>whnf)
         refine know_Plain_c hX e432 ?_
         conv=>whnf
         repeat((first|refine dw ?_);conv=>whnf)
         exact K _ h
        ·replace h:=g
         clear g
         conv=>whnf
         repeat((first|refine dw ?_|refine bcf c428 ?_);conv=>whnf)
         exact tl4.h  h
       ·replace h:=g
        clear g
        conv=>whnf
        repeat((first|refine dw ?_|refine bcf c427 ?_);conv=>whnf)
        exact tl4.h  h
      ·intro h
       unfold know_Own_j4 at h
       refine rest_intro hX ?_
       replace h:=bnd_some h
       obtain ⟨y425,e426,h⟩:=h
       conv=>whnf
       repeat((first|refine dw ?_);conv=>whnf)
       refine know_With_c hX e426 ?_
       conv=>whnf
       repeat((first|refine dw ?_);conv=>whnf)
       exact K _ h
     ·replace h:=g
      clear g c
      refine br_case h (fun c g=>?_) (fun c g=>?_)
      ·replace h:=g
       clear g
       obtain rfl:=eqI_t.1 c
       clear c
       refine call_nz hX ?_
       conv=>whnf
       refine call_intro hX Tryz.func217 rfl rfl ?_
       apply join0 (X:=X) (r:=r) (pad [(1,.one (.p (.v (.string p1)))),(1,.one (.ptr 0 0)),(1,.one (.ptr 1 0)),(0,.one (.ptr 2 0))] 36) ([.box (Know.cs p0),.box [ic 5,ic p2_c],.box [ic 0,ic 0,ic 0,ic 0,ic 0,ic 0,ic 0,ic 0,.own 3],.rows 0 []])
       ·intro tl5
        conv=>whnf
        repeat((first|refine dw ?_);conv=>whnf)
        refine br_some h (fun c535 g=>?_) (fun c535 g=>?_)
        ·replace h:=g
         clear g
         conv=>whnf
         repeat((first|refine dw ?_|refine bct c535 ?_);conv=>whnf)
         refine br_some h (fun c536 g=>?_) (fun c536 g=>?_)
         ·replace h:=g
          clear g
          replace h:=bnd_some h
          obtain ⟨y537,e538,h⟩:=h
          conv=>whnf
          repeat((first|refine dw ?_|refine bct c536 ?_);conv=>whnf)
          refine vec_With_c hX e538 ?_
          replace h:=bnd_some h
          obtain ⟨y539,e540,h⟩:=h
          conv=>whnf
          repeat((first|refine dw ?_);conv=>whnf)
          refine know_Plain_c hX e540 ?_
          conv=>whnf
          repeat((first|refine dw ?_);conv=>whnf)
          exact K _ h
         ·replace h:=g
          clear g
          conv=>whnf
          repeat((first|refine dw ?_|refine bcf c536 ?_);conv=>whnf)
          exact tl5.h  h
        ·replace h:=g
         clear g
         conv=>whnf
         repeat((first|refine dw ?_|refine bcf c535 ?_);conv=>whnf)
         exact tl5.h  h
       ·intro h
        unfold know_Own_j5 at h
        refine rest_intro hX ?_
        replace h:=bnd_some h
        obtain ⟨y533,e534,h⟩:=h
        conv=>whnf
        repeat((first|refine dw ?_);conv=>whnf)
        refine know_With_c hX e534 ?_
        conv=>whnf
        repeat((first|refine dw ?_);conv=>whnf)
        exact K _ h
      ·replace h:=g
       clear g c
       refine br_case h (fun c g=>?_) (fun c g=>?_)
       ·replace h:=g
        clear g
        obtain rfl:=eqI_t.1 c
        clear c
        refine call_nz hX ?_
        conv=>whnf
        refine call_intro hX Tryz.func217 rfl rfl ?_
        apply join0 (X:=X) (r:=r) (pad [(1,.one (.p (.v (.string p1)))),(1,.one (.ptr 0 0)),(1,.one (.ptr 1 0)),(0,.one (.ptr 2 0))] 36) ([.box (Know.cs p0),.box [ic 6,ic p2_c],.box [ic 0,ic 0,ic 0,ic 0,ic 0,ic 0,ic 0,ic 0,.own 3],.rows 0 []])
        ·intro tl6
         conv=>whnf
         repeat((first|refine dw ?_);conv=>whnf)
         refine br_some h (fun c643 g=>?_) (fun c643 g=>?_)
         ·replace h:=g
          clear g
          conv=>whnf
          repeat((first|refine dw ?_|refine bct c643 ?_);conv=>whnf)
          refine br_some h (fun c644 g=>?_) (fun c644 g=>?_)
          ·replace h:=g
           clear g
           replace h:=bnd_some h
           obtain ⟨y645,e646,h⟩:=h
           conv=>whnf
           repeat((first|refine dw ?_|refine bct c644 ?_);conv=>whnf)
           refine vec_With_c hX e646 ?_
           replace h:=bnd_some h
           obtain ⟨y647,e648,h⟩:=h
           conv=>whnf
           repeat((first|refine dw ?_);conv=>whnf)
           refine know_Plain_c hX e648 ?_
           conv=>whnf
           repeat((first|refine dw ?_);conv=>whnf)
           exact K _ h
          ·replace h:=g
           clear g
           conv=>whnf
           repeat((first|refine dw ?_|refine bcf c644 ?_);conv=>whnf)
           exact tl6.h  h
         ·replace h:=g
          clear g
          conv=>whnf
          repeat((first|refine dw ?_|refine bcf c643 ?_);conv=>whnf)
          exact tl6.h  h
        ·intro h
         unfold know_Own_j6 at h
         refine rest_intro hX ?_
         replace h:=bnd_some h
         obtain ⟨y641,e642,h⟩:=h
         conv=>whnf
         repeat((first|refine dw ?_);conv=>whnf)
         refine know_With_c hX e642 ?_
         conv=>whnf
         repeat((first|refine dw ?_);conv=>whnf)
         exact K _ h
       ·replace h:=g
        clear g c
        refine br_case h (fun c g=>?_) (fun c g=>?_)
        ·replace h:=g
         clear g
         obtain rfl:=eqI_t.1 c
         clear c
         refine call_nz hX ?_
         conv=>whnf
         refine call_intro hX Tryz.func217 rfl rfl ?_
         apply join0 (X:=X) (r:=r) (pad [(1,.one (.p (.v (.string p1)))),(1,.one (.ptr 0 0)),(1,.one (.ptr 1 0)),(0,.one (.ptr 2 0))] 36) ([.box (Know.cs p0),.box [ic 7,ic p2_c],.box [ic 0,ic 0,ic 0,ic 0,ic 0,ic 0,ic 0,ic 0,.own 3],.rows 0 []])
         ·intro tl7
          conv=>whnf
          repeat((first|refine dw ?_);conv=>whnf)
          refine br_some h (fun c751 g=>?_) (fun c751 g=>?_)
          ·replace h:=g
           clear g
           conv=>whnf
           repeat((first|refine dw ?_|refine bct c751 ?_);conv=>whnf)
           refine br_some h (fun c752 g=>?_) (fun c752 g=>?_)
           ·replace h:=g
            clear g
            replace h:=bnd_some h
            obtain ⟨y753,e754,h⟩:=h
            conv=>whnf
            repeat((first|refine dw ?_|refine bct c752 ?_);conv=>whnf)
            refine vec_With_c hX e754 ?_
            replace h:=bnd_some h
            obtain ⟨y755,e756,h⟩:=h
            conv=>whnf
            repeat((first|refine dw ?_);conv=>whnf)
            refine know_Plain_c hX e756 ?_
            conv=>whnf
            repeat((first|refine dw ?_);conv=>whnf)
            exact K _ h
           ·replace h:=g
            clear g
            conv=>whnf
            repeat((first|refine dw ?_|refine bcf c752 ?_);conv=>whnf)
            exact tl7.h  h
          ·replace h:=g
           clear g
           conv=>whnf
           repeat((first|refine dw ?_|refine bcf c751 ?_);conv=>whnf)
           exact tl7.h  h
         ·intro h
          unfold know_Own_j7 at h
          refine rest_intro hX ?_
          replace h:=bnd_some h
          obtain ⟨y749,e750,h⟩:=h
          conv=>whnf
          repeat((first|refine dw ?_);conv=>whnf)
          refine know_With_c hX e750 ?_
          conv=>whnf
          repeat((first|refine dw ?_);conv=>whnf)
          exact K _ h
        ·replace h:=g
         clear g c
         refine br_case h (fun c g=>?_) (fun c g=>?_)
         ·replace h:=g
          clear g
          obtain rfl:=eqI_t.1 c
          clear c
          refine call_nz hX ?_
          conv=>whnf
          refine call_intro hX Tryz.func217 rfl rfl ?_
          apply join0 (X:=X) (r:=r) (pad [(1,.one (.p (.v (.string p1)))),(1,.one (.ptr 0 0)),(1,.one (.ptr 1 0)),(0,.one (.ptr 2 0))] 36) ([.box (Know.cs p0),.box [ic 8,ic p2_c],.box [ic 0,ic 0,ic 0,ic 0,ic 0,ic 0,ic 0,ic 0,.own 3],.rows 0 []])
          ·intro tl8
           conv=>whnf
           repeat((first|refine dw ?_);conv=>whnf)
           refine br_some h (fun c859 g=>?_) (fun c859 g=>?_)
           ·replace h:=g
            clear g
            conv=>whnf
            repeat((first|refine dw ?_|refine bct c859 ?_);conv=>whnf)
            refine br_some h (fun c860 g=>?_) (fun c860 g=>?_)
            ·replace h:=g
             clear g
             replace h:=bnd_some h
             obtain ⟨y861,e862,h⟩:=h
             conv=>whnf
             repeat((first|refine dw ?_|refine bct c860 ?_);conv=>whnf)
             refine vec_With_c hX e862 ?_
             replace h:=bnd_some h
             obtain ⟨y863,e864,h⟩:=h
             conv=>whnf
             repeat((first|refine dw ?_);conv=>whnf)
             refine know_Plain_c hX e864 ?_
             conv=>whnf
             repeat((first|refine dw ?_);conv=>whnf)
             exact K _ h
            ·replace h:=g
             clear g
             conv=>whnf
             repeat((first|refine dw ?_|refine bcf c860 ?_);conv=>whnf)
             exact tl8.h  h
           ·replace h:=g
            clear g
            conv=>whnf
            repeat((first|refine dw ?_|refine bcf c859 ?_);conv=>whnf)
            exact tl8.h  h
          ·intro h
           unfold know_Own_j8 at h
           refine rest_intro hX ?_
           replace h:=bnd_some h
           obtain ⟨y857,e858,h⟩:=h
           conv=>whnf
           repeat((first|refine dw ?_);conv=>whnf)
           refine know_With_c hX e858 ?_
           conv=>whnf
           repeat((first|refine dw ?_);conv=>whnf)
           exact K _ h
         ·replace h:=g
          clear g c
          refine call_nz hX ?_
          conv=>whnf
          refine call_intro hX Tryz.func217 rfl rfl ?_
          apply join0 (X:=X) (r:=r) (pad [(1,.one (.p (.v (.string p1)))),(1,.one (.ptr 0 0)),(1,.one (.ptr 1 0)),(0,.one (.ptr 2 0))] 36) ([.box (Know.cs p0),.box [ic p2_r,ic p2_c],.box [ic 0,ic 0,ic 0,ic 0,ic 0,ic 0,ic 0,ic 0,.own 3],.rows 0 []])
          ·intro tl9
           conv=>whnf
           repeat((first|refine dw ?_);conv=>whnf)
           refine br_some h (fun c967 g=>?_) (fun c967 g=>?_)
           ·replace h:=g
            clear g
            conv=>whnf
            repeat((first|refine dw ?_|refine bct c967 ?_);conv=>whnf)
            refine br_some h (fun c968 g=>?_) (fun c968 g=>?_)
            ·replace h:=g
             clear g
             conv=>whnf
             repeat((first|refine dw ?_|refine bct c968 ?_);conv=>whnf)
             refine br_some h (fun c969 g=>?_) (fun c969 g=>?_)
             ·replace h:=g
              clear g
              exact no_some h
             ·replace h:=g
              clear g
              conv=>whnf
              repeat((first|refine dw ?_|refine bcf c969 ?_);conv=>whnf)
              exact tl9.h  h
            ·replace h:=g
             clear g
             conv=>whnf
             repeat((first|refine dw ?_|refine bcf c968 ?_);conv=>whnf)
             exact tl9.h  h
           ·replace h:=g
            clear g
            conv=>whnf
            repeat((first|refine dw ?_|refine bcf c967 ?_);conv=>whnf)
            exact tl9.h  h
          ·intro h
           unfold know_Own_j9 at h
           refine rest_intro hX ?_
           replace h:=bnd_some h
           obtain ⟨y965,e966,h⟩:=h
           conv=>whnf
           repeat((first|refine dw ?_);conv=>whnf)
           refine know_With_c hX e966 ?_
           conv=>whnf
           repeat((first|refine dw ?_);conv=>whnf)
           exact K _ h
end
end Go.Proofs.YtidkmoohgadjkaaGreat
set_option maxHeartbeats 0
namespace Go.Proofs.YtidkmoohgadjkaaGreat
open Go E
noncomputable section
open Pred
def know_Has_l2 (p1:ByteArray) (p2:Ver) (x1e:Frag) (k1:Option (Bool)):List ByteArray→Int→Option (Bool)
  | [],v5 =>
  (k1 )
  | x2e::xs2,v5 =>
  (br (eqS p1 x2e)
   (br (leI 0 v5)
    (bnd (vec_Has_s x1e.vec p2) fun y8 =>
     (br y8
      (some true)
      (k1 )))
    (k1 ))
   (know_Has_l2 p1 p2 x1e k1 xs2 (v5 + 1) ))
def know_Has_l1 (p1:ByteArray) (p2:Ver):List Frag→Option (Bool)
 | [] =>
 some false
 | x1e::xs1 =>
 (chk (smallL x1e.ids)
  ((know_Has_l2 p1 p2 x1e (know_Has_l1 p1 p2 xs1 )) x1e.ids 0 ))
def know_Has_s (p0:Know) (p1:ByteArray) (p2:Ver):Option (Bool) :=
 (bnd (vec_Has_s p0.star p2) fun y1 =>
  (br y1
   (some true)
   (chk (smallL p0.l)
     ((know_Has_l1 p1 p2) p0.l ))))
def know_May_l2 (k1:Option (Bool)):List ByteArray→Int→Option (Bool)
  | [],v13 =>
  (k1 )
  | x2e::xs2,v13 =>
  (bnd (item_Name_s x2e) fun y14 =>
   (br (!y14)
    (br (leI 0 v13)
     (some false)
     (k1 ))
    (know_May_l2 k1 xs2 (v13 + 1) )))
def know_May_l1:List Frag→Option (Bool)
  | [] =>
  some true
  | x1e::xs1 =>
  (bnd (vec_May_s x1e.vec) fun y10 =>
   (br (!y10)
    (some false)
    (chk (smallL x1e.ids)
      ((know_May_l2 (know_May_l1 xs1 )) x1e.ids 0 ))))
def know_May_s (p0:Know):Option (Bool) :=
 (bnd (vec_May_s p0.star) fun y1 =>
  (br (!y1)
   (some false)
   (bnd (know_Plain_s p0) fun y4 =>
    (bnd (know_alike_s p0 y4) fun y6 =>
     (br (!y6)
      (some false)
      (chk (smallL p0.l)
        ((know_May_l1) p0.l )))))))
variable {X:Task→Prop} (hX:Closed X) {Q:A→List Blk→Prop}
include hX
theorem know_Has_c  {p0:Know} {p1:ByteArray} {p2:Ver} {r:Bool} (h:know_Has_s p0 p1 p2=some r) (hQ:Q (.one (.p (.v (.bool r)))) []):X (.call 40 [.agg (Know.cs p0),.one (.p (.v (.string p1))),.agg (Ver.cs p2)] [] Q):=by
  have K:=fun a (e:some a=some r)=>ret_some (f:=fun y=>.one (.p (.v (.bool y)))) (g:=fun y=>[]) e hQ
  unfold know_Has_s at h
  refine call_intro hX Tryz.func40 rfl rfl ?_
  revert h
  refine bndk fun y1 e2 h=>?_
  conv=>whnf
  repeat((first|refine dw ?_);conv=>whnf)
  refine vec_Has_c hX e2 ?_
  conv=>whnf
  repeat((first|refine dw ?_);conv=>whnf)
  revert h
  refine brk (fun c3 h=>?_) (fun c3 h=>?_)
  ·conv=>whnf
   repeat((first|refine dw ?_|refine bct c3 ?_);conv=>whnf)
   exact K _ h
  ·revert h
   refine chkk fun hs1 h=>?_
   conv=>whnf
   repeat((first|refine dw ?_|refine bcf c3 ?_|refine eqv_to (map_len _) ?_);conv=>whnf)
   refine loop_lisx0 (fun (v4:Int)=>pad [(1,.one (.p (.v (.string p1)))),(3,.one (.ptr 0 0)),(8,.one (.p (.sl (p0.l.map Frag.row)))),(0,iv (p0.l.length:Int)),(0,iv v4)] 14) (fun (v4:Int)=>[.box (Ver.cs p2)]) _ p0.l (fun pre1 x1e xs1 v4  hl1 hi1 h ih1=>?_) (fun v4  hi1 h=>?_)  h
   ·rw [know_Has_l1] at h
    have am1:=at_mid hl1 hi1
    refine loop_intro hX ?_
    conv=>whnf
    repeat((first|refine dw ?_|refine bct (lt_mid hl1 hi1) ?_|refine bct (at_in am1) ?_|refine bct (andt (at_in am1) rfl) ?_|refine row_in (at_row am1) ?_|refine bct (andt (at_in (at_nat am1)) rfl) ?_|refine row_in (at_row (at_nat am1)) ?_);conv=>whnf)
    refine call_intro hX Tryz.func110 rfl rfl ?_
    conv=>whnf
    repeat((first|refine dw ?_);conv=>whnf)
    refine call_intro hX Tryz.func176 rfl rfl ?_
    revert h
    refine chkk fun hs2 h=>?_
    conv=>whnf
    repeat((first|refine dw ?_|refine eqv_to (map_len _) ?_);conv=>whnf)
    refine loop_list0 (fun (v5:Int)=>pad [(0,.one (.p (.sl (x1e.ids.map srw)))),(0,.one (.p (.v (.string p1)))),(5,iv (x1e.ids.length:Int)),(0,iv v5)] 10) (fun (v5:Int)=>[]) _ x1e.ids (fun pre2 x2e xs2 v5  hl2 hi2 h ih2=>?_) (fun v5  hi2 h=>?_)  h
    ·rw [know_Has_l2] at h
     have am2:=at_mid hl2 hi2
     refine loop_intro hX ?_
     conv=>whnf
     repeat((first|refine dw ?_|refine bct (lt_mid hl2 hi2) ?_|refine bct (at_in am2) ?_|refine bct (andt (at_in am2) rfl) ?_|refine row_in (at_row am2) ?_|refine bct (andt (at_in (at_nat am2)) rfl) ?_|refine row_in (at_row (at_nat am2)) ?_);conv=>whnf)
     revert h
     refine brk (fun c6 h=>?_) (fun c6 h=>?_)
     ·conv=>whnf
      repeat((first|refine dw ?_|refine bct c6 ?_);conv=>whnf)
      revert h
      refine brk (fun c7 h=>?_) (fun c7 h=>?_)
      ·revert h
       refine bndk fun y8 e9 h=>?_
       conv=>whnf
       repeat((first|refine dw ?_|refine bct c7 ?_);conv=>whnf)
       refine vec_Has_c hX e9 ?_
       conv=>whnf
       repeat((first|refine dw ?_|refine bct c7 ?_);conv=>whnf)
       revert h
       refine brk (fun c10 h=>?_) (fun c10 h=>?_)
       ·conv=>whnf
        repeat((first|refine dw ?_|refine bct c10 ?_);conv=>whnf)
        exact K _ h
       ·conv=>whnf
        repeat((first|refine dw ?_|refine bcf c10 ?_);conv=>whnf)
        exact ih1 _  (wrL hs1 hl1 hi1) h
      ·conv=>whnf
       repeat((first|refine dw ?_|refine bcf c7 ?_);conv=>whnf)
       exact ih1 _  (wrL hs1 hl1 hi1) h
     ·conv=>whnf
      repeat((first|refine dw ?_|refine bcf c6 ?_);conv=>whnf)
      exact ih2 _  (wrL hs2 hl2 hi2) h
    ·rw [know_Has_l2] at h
     refine loop_intro hX ?_
     conv=>whnf
     repeat((first|refine dw ?_|refine bcf (lt_end hi2) ?_);conv=>whnf)
     exact ih1 _  (wrL hs1 hl1 hi1) h
   ·rw [know_Has_l1] at h
    refine loop_intro hX ?_
    conv=>whnf
    repeat((first|refine dw ?_|refine bcf (lt_end hi1) ?_);conv=>whnf)
    exact K _ h
theorem know_May_c  {p0:Know} {r:Bool} (h:know_May_s p0=some r) (hQ:Q (.one (.p (.v (.bool r)))) []):X (.call 73 [.agg (Know.cs p0)] [] Q):=by
  have K:=fun a (e:some a=some r)=>ret_some (f:=fun y=>.one (.p (.v (.bool y)))) (g:=fun y=>[]) e hQ
  unfold know_May_s at h
  refine call_intro hX Tryz.func73 rfl rfl ?_
  revert h
  refine bndk fun y1 e2 h=>?_
  conv=>whnf
  repeat((first|refine dw ?_);conv=>whnf)
  refine vec_May_c hX e2 ?_
  conv=>whnf
  repeat((first|refine dw ?_);conv=>whnf)
  revert h
  refine brk (fun c3 h=>?_) (fun c3 h=>?_)
  ·conv=>whnf
   repeat((first|refine dw ?_|refine bct c3 ?_);conv=>whnf)
   exact K _ h
  ·revert h
   refine bndk fun y4 e5 h=>?_
   conv=>whnf
   repeat((first|refine dw ?_|refine bcf c3 ?_);conv=>whnf)
   refine know_Plain_c hX e5 ?_
   revert h
   refine bndk fun y6 e7 h=>?_
   conv=>whnf
   repeat((first|refine dw ?_|refine bcf c3 ?_);conv=>whnf)
   refine know_alike_c hX e7 ?_
   conv=>whnf
   repeat((first|refine dw ?_|refine bcf c3 ?_);conv=>whnf)
   revert h
   refine brk (fun c8 h=>?_) (fun c8 h=>?_)
   ·conv=>whnf
    repeat((first|refine dw ?_|refine bct c8 ?_);conv=>whnf)
    exact K _ h
   ·revert h
    refine chkk fun hs1 h=>?_
    conv=>whnf
    repeat((first|refine dw ?_|refine bcf c8 ?_|refine eqv_to (map_len _) ?_);conv=>whnf)
    refine loop_lisx0 (fun (v9:Int)=>pad [(18,.one (.p (.sl (p0.l.map Frag.row)))),(0,iv (p0.l.length:Int)),(0,iv v9)] 14) (fun (v9:Int)=>[]) _ p0.l (fun pre1 x1e xs1 v9  hl1 hi1 h ih1=>?_) (fun v9  hi1 h=>?_)  h
    ·rw [know_May_l1] at h
     have am1:=at_mid hl1 hi1
     refine loop_intro hX ?_
     revert h
     refine bndk fun y10 e11 h=>?_
     conv=>whnf
     repeat((first|refine dw ?_|refine bct (lt_mid hl1 hi1) ?_|refine bct (at_in am1) ?_|refine bct (andt (at_in am1) rfl) ?_|refine row_in (at_row am1) ?_|refine bct (andt (at_in (at_nat am1)) rfl) ?_|refine row_in (at_row (at_nat am1)) ?_);conv=>whnf)
     refine vec_May_c hX e11 ?_
     conv=>whnf
     repeat((first|refine dw ?_);conv=>whnf)
     revert h
     refine brk (fun c12 h=>?_) (fun c12 h=>?_)
     ·conv=>whnf
      repeat((first|refine dw ?_|refine bct c12 ?_);conv=>whnf)
      exact K _ h
     ·conv=>whnf
      repeat((first|refine dw ?_|refine bcf c12 ?_);conv=>whnf)
      refine call_intro hX Tryz.func148 rfl rfl ?_
      conv=>whnf
      repeat((first|refine dw ?_);conv=>whnf)
      refine call_intro hX Tryz.func203 rfl rfl ?_
      revert h
      refine chkk fun hs2 h=>?_
      conv=>whnf
      repeat((first|refine dw ?_|refine eqv_to (map_len _) ?_);conv=>whnf)
      refine loop_list0 (fun (v13:Int)=>pad [(0,.one (.p (.sl (x1e.ids.map srw)))),(0,.one (.fn 146 [])),(5,iv (x1e.ids.length:Int)),(0,iv v13)] 10) (fun (v13:Int)=>[]) _ x1e.ids (fun pre2 x2e xs2 v13  hl2 hi2 h ih2=>?_) (fun v13  hi2 h=>?_)  h
      ·rw [know_May_l2] at h
       have am2:=at_mid hl2 hi2
       refine loop_intro hX ?_
       conv=>whnf
       repeat((first|refine dw ?_|refine bct (lt_mid hl2 hi2) ?_|refine bct (at_in am2) ?_|refine bct (andt (at_in am2) rfl) ?_|refine row_in (at_row am2) ?_|refine bct (andt (at_in (at_nat am2)) rfl) ?_|refine row_in (at_row (at_nat am2)) ?_);conv=>whnf)
       refine call_intro hX Tryz.func146 rfl rfl ?_
       revert h
       refine bndk fun y14 e15 h=>?_
       conv=>whnf
       repeat((first|refine dw ?_);conv=>whnf)
       refine item_Name_c hX e15 ?_
       conv=>whnf
       repeat((first|refine dw ?_);conv=>whnf)
       revert h
       refine brk (fun c16 h=>?_) (fun c16 h=>?_)
       ·conv=>whnf
        repeat((first|refine dw ?_|refine bct c16 ?_|refine bcf c12 ?_);conv=>whnf)
        revert h
        refine brk (fun c17 h=>?_) (fun c17 h=>?_)
        ·conv=>whnf
         repeat((first|refine dw ?_|refine bct c17 ?_);conv=>whnf)
         exact K _ h
        ·conv=>whnf
         repeat((first|refine dw ?_|refine bcf c17 ?_);conv=>whnf)
         exact ih1 _  (wrL hs1 hl1 hi1) h
       ·conv=>whnf
        repeat((first|refine dw ?_|refine bcf c16 ?_);conv=>whnf)
        exact ih2 _  (wrL hs2 hl2 hi2) h
      ·rw [know_May_l2] at h
       refine loop_intro hX ?_
       conv=>whnf
       repeat((first|refine dw ?_|refine bcf (lt_end hi2) ?_|refine bcf c12 ?_);conv=>whnf)
       exact ih1 _  (wrL hs1 hl1 hi1) h
    ·rw [know_May_l1] at h
     refine loop_intro hX ?_
     conv=>whnf
     repeat((first|refine dw ?_|refine bcf (lt_end hi1) ?_);conv=>whnf)
     exact K _ h
end
end Go.Proofs.YtidkmoohgadjkaaGreat
set_option maxHeartbeats 0
namespace Go.Proofs.YtidkmoohgadjkaaGreat
open Go E
noncomputable section
open Pred
def ref06_Alike_l2 (x4:Frag) (k1:Option (Bool)):List ByteArray→Int→Option (Bool)
  | [],v8 =>
  (k1 )
  | x2e::xs2,v8 =>
  (bnd (atL x4.ids v8) fun x9 =>
   (br (!eqS x2e x9)
    (some false)
    (ref06_Alike_l2 x4 k1 xs2 (v8 + 1) )))
def ref06_Alike_l1 (p1:Know):List Frag→Int→Option (Bool)
  | [],v3 =>
  some true
  | x1e::xs1,v3 =>
  (bnd (atL p1.l v3) fun x4 =>
   (br (!(eq8 x1e.vec x4.vec))
    (some false)
    (br (!eqI (x1e.ids.length:Int) (x4.ids.length:Int))
     (some false)
     (chk (smallL x1e.ids)
       ((ref06_Alike_l2 x4 (ref06_Alike_l1 p1 xs1 (v3 + 1))) x1e.ids 0 )))))
def ref06_Alike_s (p0:Know) (p1:Know):Option (Bool) :=
 (br (!(eq8 p0.star p1.star))
  (some false)
  (br (!eqI (p0.l.length:Int) (p1.l.length:Int))
   (some false)
   (chk (smallL p0.l)
     ((ref06_Alike_l1 p1) p0.l 0 ))))
def ref06_Get_l1 (p1:ByteArray):List Item→Option (Item × Bool)
  | [] =>
  some ((Item.mk ⟨#[]⟩ 0 0 0 ⟨#[]⟩ 0 0 0 false),false)
  | x1e::xs1 =>
  (br (eqS x1e.id p1)
   (some (x1e,true))
   (ref06_Get_l1 p1 xs1  ))
def ref06_Get_s (p0:List Item) (p1:ByteArray):Option (Item × Bool) :=
 (chk (smallL p0)
   ((ref06_Get_l1 p1) p0 ))
variable {X:Task→Prop} (hX:Closed X) {Q:A→List Blk→Prop}
include hX
theorem ref06_Alike_c  {p0:Know} {p1:Know} {r:Bool} (h:ref06_Alike_s p0 p1=some r) (hQ:Q (.one (.p (.v (.bool r)))) []):X (.call 103 [.agg (Know.cs p0),.agg (Know.cs p1)] [] Q):=by
  have K:=fun a (e:some a=some r)=>ret_some (f:=fun y=>.one (.p (.v (.bool y)))) (g:=fun y=>[]) e hQ
  unfold ref06_Alike_s at h
  refine call_intro hX Tryz.func103 rfl rfl ?_
  conv=>whnf
  repeat((first|refine dw ?_);conv=>whnf)
  revert h
  refine brk (fun c1 h=>?_) (fun c1 h=>?_)
  ·conv=>whnf
   repeat((first|refine dw ?_|refine bct c1 ?_);conv=>whnf)
   exact K _ h
  ·conv=>whnf
   repeat((first|refine dw ?_|refine bcf c1 ?_|refine eqv_to (map_len _) ?_);conv=>whnf)
   revert h
   refine brk (fun c2 h=>?_) (fun c2 h=>?_)
   ·conv=>whnf
    repeat((first|refine dw ?_|refine bct c2 ?_);conv=>whnf)
    exact K _ h
   ·revert h
    refine chkk fun hs1 h=>?_
    conv=>whnf
    repeat((first|refine dw ?_|refine bcf c2 ?_);conv=>whnf)
    refine loop_list0 (fun (v3:Int)=>pad [(2,.one (.ptr 0 0)),(0,.one (.ptr 1 0)),(1,iv v3)] 82) (fun (v3:Int)=>[.box (Know.cs p0),.box (Know.cs p1)]) _ p0.l (fun pre1 x1e xs1 v3  hl1 hi1 h ih1=>?_) (fun v3  hi1 h=>?_)  h
    ·rw [ref06_Alike_l1] at h
     have am1:=at_mid hl1 hi1
     refine loop_intro hX ?_
     revert h
     refine bndk fun x4 a5 h=>?_
     conv=>whnf
     repeat((first|refine dw ?_|refine eqv_to (map_len _) ?_|refine bct (lt_mid hl1 hi1) ?_|refine bct (at_in am1) ?_|refine bct (andt (at_in am1) rfl) ?_|refine row_in (at_row am1) ?_|refine bct (andt (at_in (at_nat am1)) rfl) ?_|refine row_in (at_row (at_nat am1)) ?_|refine bct (at_in a5) ?_|refine bct (andt (at_in a5) rfl) ?_|refine row_in (at_row a5) ?_|refine bct (andt (at_in (at_nat a5)) rfl) ?_|refine row_in (at_row (at_nat a5)) ?_);conv=>whnf)
     revert h
     refine brk (fun c6 h=>?_) (fun c6 h=>?_)
     ·conv=>whnf
      repeat((first|refine dw ?_|refine bct c6 ?_);conv=>whnf)
      exact K _ h
     ·conv=>whnf
      repeat((first|refine dw ?_|refine bcf c6 ?_|refine bct (at_in am1) ?_|refine bct (andt (at_in am1) rfl) ?_|refine row_in (at_row am1) ?_|refine bct (andt (at_in (at_nat am1)) rfl) ?_|refine row_in (at_row (at_nat am1)) ?_|refine eqv_to (map_len _) ?_|refine bct (at_in a5) ?_|refine bct (andt (at_in a5) rfl) ?_|refine row_in (at_row a5) ?_|refine bct (andt (at_in (at_nat a5)) rfl) ?_|refine row_in (at_row (at_nat a5)) ?_);conv=>whnf)
      revert h
      refine brk (fun c7 h=>?_) (fun c7 h=>?_)
      ·conv=>whnf
       repeat((first|refine dw ?_|refine bct c7 ?_);conv=>whnf)
       exact K _ h
      ·revert h
       refine chkk fun hs2 h=>?_
       conv=>whnf
       repeat((first|refine dw ?_|refine bcf c7 ?_);conv=>whnf)
       refine loop_list0 (fun (v8:Int)=>pad [(2,.one (.ptr 0 0)),(0,.one (.ptr 1 0)),(1,iv v3),(0,iv v8)] 81) (fun (v8:Int)=>[.box (Know.cs p0),.box (Know.cs p1)]) _ x1e.ids (fun pre2 x2e xs2 v8  hl2 hi2 h ih2=>?_) (fun v8  hi2 h=>?_)  h
       ·rw [ref06_Alike_l2] at h
        have am2:=at_mid hl2 hi2
        refine loop_intro hX ?_
        revert h
        refine bndk fun x9 a10 h=>?_
        conv=>whnf
        repeat((first|refine dw ?_|refine bct (at_in am1) ?_|refine bct (andt (at_in am1) rfl) ?_|refine row_in (at_row am1) ?_|refine bct (andt (at_in (at_nat am1)) rfl) ?_|refine row_in (at_row (at_nat am1)) ?_|refine eqv_to (map_len _) ?_|refine bct (lt_mid hl2 hi2) ?_|refine bct (at_in am2) ?_|refine bct (andt (at_in am2) rfl) ?_|refine row_in (at_row am2) ?_|refine bct (andt (at_in (at_nat am2)) rfl) ?_|refine row_in (at_row (at_nat am2)) ?_|refine bct (at_in a5) ?_|refine bct (andt (at_in a5) rfl) ?_|refine row_in (at_row a5) ?_|refine bct (andt (at_in (at_nat a5)) rfl) ?_|refine row_in (at_row (at_nat a5)) ?_|refine bct (at_in a10) ?_|refine bct (andt (at_in a10) rfl) ?_|refine row_in (at_row a10) ?_|refine bct (andt (at_in (at_nat a10)) rfl) ?_|refine row_in (at_row (at_nat a10)) ?_);conv=>whnf)
        revert h
        refine brk (fun c11 h=>?_) (fun c11 h=>?_)
        ·conv=>whnf
         repeat((first|refine dw ?_|refine bct c11 ?_);conv=>whnf)
         exact K _ h
        ·conv=>whnf
         repeat((first|refine dw ?_|refine bcf c11 ?_);conv=>whnf)
         exact ih2 _  (wrL hs2 hl2 hi2) h
       ·rw [ref06_Alike_l2] at h
        refine loop_intro hX ?_
        conv=>whnf
        repeat((first|refine dw ?_|refine bct (at_in am1) ?_|refine bct (andt (at_in am1) rfl) ?_|refine row_in (at_row am1) ?_|refine bct (andt (at_in (at_nat am1)) rfl) ?_|refine row_in (at_row (at_nat am1)) ?_|refine eqv_to (map_len _) ?_|refine bcf (lt_end hi2) ?_);conv=>whnf)
        exact ih1 _  (wrL hs1 hl1 hi1) h
    ·rw [ref06_Alike_l1] at h
     refine loop_intro hX ?_
     conv=>whnf
     repeat((first|refine dw ?_|refine eqv_to (map_len _) ?_|refine bcf (lt_end hi1) ?_);conv=>whnf)
     exact K _ h
theorem ref06_Get_c  {p0:List Item} {p1:ByteArray} {r:Item × Bool} (h:ref06_Get_s p0 p1=some r) (hQ:Q (.tup [.agg (Item.cs r.1),.one (.p (.v (.bool r.2)))]) []):X (.call 49 [.one (.p (.sl (p0.map Item.row))),.one (.p (.v (.string p1)))] [] Q):=by
  have K:=fun a (e:some a=some r)=>ret_some (f:=fun y=>.tup [.agg (Item.cs y.1),.one (.p (.v (.bool y.2)))]) (g:=fun y=>[]) e hQ
  unfold ref06_Get_s at h
  refine call_intro hX Tryz.func49 rfl rfl ?_
  revert h
  refine chkk fun hs1 h=>?_
  conv=>whnf
  repeat((first|refine dw ?_);conv=>whnf)
  refine loop_lisx0 (fun (v1:Int)=>pad [(0,.one (.p (.sl (p0.map Item.row)))),(0,.one (.p (.v (.string p1)))),(2,.one (.ptr 0 0)),(1,iv v1)] 18) (fun (v1:Int)=>[.box [.p (.v (.string ⟨#[]⟩)),ic 0,ic 0,ic 0,.p (.v (.string ⟨#[]⟩)),ic 0,.p (.v (.complex .f64 0 0)),.p (.v (.bool false))]]) _ p0 (fun pre1 x1e xs1 v1  hl1 hi1 h ih1=>?_) (fun v1  hi1 h=>?_)  h
  ·rw [ref06_Get_l1] at h
   have am1:=at_mid hl1 hi1
   refine loop_intro hX ?_
   conv=>whnf
   repeat((first|refine dw ?_|refine eqv_to (map_len _) ?_|refine bct (lt_mid hl1 hi1) ?_|refine bct (at_in am1) ?_|refine bct (andt (at_in am1) rfl) ?_|refine row_in (at_row am1) ?_|refine bct (andt (at_in (at_nat am1)) rfl) ?_|refine row_in (at_row (at_nat am1)) ?_);conv=>whnf)
   revert h
   refine brk (fun c2 h=>?_) (fun c2 h=>?_)
   ·conv=>whnf
    repeat((first|refine dw ?_|refine bct c2 ?_|refine bct (at_in am1) ?_|refine bct (andt (at_in am1) rfl) ?_|refine row_in (at_row am1) ?_|refine bct (andt (at_in (at_nat am1)) rfl) ?_|refine row_in (at_row (at_nat am1)) ?_);conv=>whnf)
    exact K _ h
   ·conv=>whnf
    repeat((first|refine dw ?_|refine bcf c2 ?_);conv=>whnf)
    exact ih1 _  (wrL hs1 hl1 hi1) h
  ·rw [ref06_Get_l1] at h
   refine loop_intro hX ?_
   conv=>whnf
   repeat((first|refine dw ?_|refine eqv_to (map_len _) ?_|refine bcf (lt_end hi1) ?_);conv=>whnf)
   exact K _ h
end
end Go.Proofs.YtidkmoohgadjkaaGreat
set_option maxHeartbeats 0
namespace Go.Proofs.YtidkmoohgadjkaaGreat
open Go E
noncomputable section
end
end Go.Proofs.YtidkmoohgadjkaaGreat
namespace Go.Proofs.YtidkmoohgadjkaaGreat
open Go E Pred
section
variable {α β:Type}
theorem br_if (c:Bool) (x y:Option α):br c x y=if c=true then x else y:=by cases c<;>rfl
theorem br_t {c:Bool} {x y:Option α} (h:c=true):br c x y=x:=by rw [h]; rfl
theorem br_f {c:Bool} {x y:Option α} (h:c=false):br c x y=y:=by rw [h]; rfl
theorem chk_t {c:Bool} {x:Option α} (h:c=true):chk c x=x:=by rw [h]; rfl
theorem bnd_of {x:Option α} {a:α} {f:α→Option β} (h:x=some a):bnd x f=f a:=by rw [h]; rfl
theorem roomL_of {a b:Nat} (h:a + b≤1000000):roomL a b=true:=decide_eq_true h
theorem smallL_of {l:List α} (h:l.length≤1000000000):smallL l=true:=decide_eq_true h
theorem atL_of {l:List α} {j:Nat} (h:j < l.length):atL l (j:Int)=some l[j]:=by
 unfold atL; rw [if_pos (by omega),Int.toNat_natCast,List.getElem?_eq_getElem h]
end
noncomputable section
open Classical
theorem rsame_s {p q:Pred} (h:p.Ok):ref03_Same_s p q=some (sameP p q):=by
 unfold ref03_Same_s; rw [chk_t (decide_eq_true h)]
end
end Go.Proofs.YtidkmoohgadjkaaGreat
namespace Go.Proofs.YtidkmoohgadjkaaGreat
open Go E Pred
noncomputable section
open Classical
def memB (l:List ByteArray) (x:ByteArray):Bool:=l.any fun y=>eqS y x
def hasF (f:Frag) (id:ByteArray) (r c:Int):Bool:=memB f.ids id&&hasV f.vec r c
def hasK (k:Know) (id:ByteArray) (r c:Int):Bool:=hasV k.star r c || k.l.any fun f=>hasF f id r c
structure KB (k:Know) (N:Nat):Prop where
 l:k.l.length≤N
 ids:∀ f∈k.l,f.ids.length≤N
def insG (x:ByteArray):Bool→List ByteArray→List ByteArray
 | v,[]=>if v then [] else [x]
 | v,y::ys=>(if !v&&(ltS x y || eqS x y) then [x] else [])++((if eqS y x then [] else [y])++insG x (v || (ltS x y || eqS x y)) ys)
def insV (l:List ByteArray) (x:ByteArray):List ByteArray:=insG x false l
def namesG (acc:List ByteArray) (l:List Frag):List ByteArray:=l.foldl (fun a f=>f.ids.foldl insV a) acc
def namesK (k:Know):List ByteArray:=namesG [] k.l
def cutI (a s:Int):Int:=if leI a s then 0 else a
def cutV (v s:V8):V8:=⟨cutI v.x0 s.x0,cutI v.x1 s.x1,cutI v.x2 s.x2,cutI v.x3 s.x3,cutI v.x4 s.x4,cutI v.x5 s.x5,cutI v.x6 s.x6,cutI v.x7 s.x7⟩
def zero8:V8:=⟨0,0,0,0,0,0,0,0⟩
def sumV (id:ByteArray) (l:List Frag) (acc:V8):V8:=l.foldl (fun a f=>if memB f.ids id then maxV a f.vec else a) acc
def beyondV (k:Know) (id:ByteArray):V8:=cutV (sumV id k.l zero8) k.star
end
end Go.Proofs.YtidkmoohgadjkaaGreat
namespace Go.Proofs.YtidkmoohgadjkaaGreat
open Go E Pred
noncomputable section
open Classical
def addF (id:ByteArray) (v:V8):List Frag→List Frag
 | []=>[⟨[id],v⟩]
 | f::fs=>if eq8 f.vec v then ⟨f.ids++[id],f.vec⟩::fs else f::addF id v fs
theorem at_app {α:Type} (l:List α) (x:α) (m:List α):atL (l++x::m) (l.length:Int)=some x:=at_mid (l:=l++x::m) rfl rfl
theorem set_app {α:Type} (l:List α) (x y:α) (m:List α):(l++x::m).set l.length y=l++y::m:=by simp
def stepP (k:Know) (out:List Frag) (id:ByteArray):List Frag:=if eq8 (beyondV k id) zero8 then out else addF id (beyondV k id) out
theorem addF_len (id:ByteArray) (v:V8):∀ l:List Frag,(addF id v l).length≤l.length + 1
 | []=>by simp [addF]
 | f::l=>by rw [addF]; have:=addF_len id v l; split<;>simp<;>omega
theorem stepP_t {k:Know} {out:List Frag} {id:ByteArray} (h:eq8 (beyondV k id) zero8=true):stepP k out id=out:=by unfold stepP; rw [if_pos h]
theorem stepP_f {k:Know} {out:List Frag} {id:ByteArray} (h:eq8 (beyondV k id) zero8=false):stepP k out id=addF id (beyondV k id) out:=by unfold stepP; rw [if_neg (by rw [h]; simp)]
def plainK (k:Know):Know:=⟨k.star,(namesK k).foldl (stepP k) []⟩
def eqL:List ByteArray→List ByteArray→Bool
 | [],[]=>true
 | x::xs,y::ys=>eqS x y&&eqL xs ys
 | _,_=>false
def alikeF (f g:Frag):Bool:=eq8 f.vec g.vec&&eqL f.ids g.ids
def alikeL:List Frag→List Frag→Bool
 | [],[]=>true
 | x::xs,y::ys=>alikeF x y&&alikeL xs ys
 | _,_=>false
def alikeK (a b:Know):Bool:=eq8 a.star b.star&&alikeL a.l b.l
theorem eqL_len:∀ {a b:List ByteArray},a.length≠b.length→eqL a b=false
 | [],[],h=>absurd rfl h
 | x::xs,y::ys,h=>by rw [eqL,eqL_len (a:=xs) (b:=ys) (by simpa using h),Bool.and_false]
 | [],_::_,_=>rfl
 | _::_,[],_=>rfl
theorem alikeL_len:∀ {a b:List Frag},a.length≠b.length→alikeL a b=false
 | [],[],h=>absurd rfl h
 | x::xs,y::ys,h=>by rw [alikeL,alikeL_len (a:=xs) (b:=ys) (by simpa using h),Bool.and_false]
 | [],_::_,_=>rfl
 | _::_,[],_=>rfl
theorem alike_l2 {k:Option Bool}:∀ (xs pre ys:List ByteArray) (g:Frag),g.ids=pre++ys→xs.length=ys.length→ref06_Alike_l2 g k xs (pre.length:Int)=if eqL xs ys then k else some false
 | [],pre,[],g,_,_=>by rw [ref06_Alike_l2]; rfl
 | x::xs,pre,y::ys,g,hg,hl=>by
  have ih:=alike_l2 (k:=k) xs (pre++[y]) ys g (by simpa using hg) (by simpa using hl)
  rw [List.length_append] at ih
  rw [ref06_Alike_l2,bnd_of (by rw [hg]; exact at_app pre y ys),eqL]
  cases eqS x y with
  | false=>rfl
  | true=>rw [br_f (by rfl),Bool.true_and]; exact ih
 | [],_,_::_,_,_,h=>by simp at h
 | _::_,_,[],_,_,h=>by simp at h
theorem alike_l1:∀ (fs pre gs:List Frag) (b:Know),b.l=pre++gs→fs.length=gs.length→(∀ f∈fs,f.ids.length≤1000000000)→ref06_Alike_l1 b fs (pre.length:Int)=some (alikeL fs gs)
 | [],pre,[],b,_,_,_=>by rw [ref06_Alike_l1]; rfl
 | f::fs,pre,g::gs,b,hb,hl,hi=>by
  have ih:=alike_l1 fs (pre++[g]) gs b (by simpa using hb) (by simpa using hl) fun x hx=>hi x (List.mem_cons_of_mem _ hx)
  rw [List.length_append] at ih
  rw [ref06_Alike_l1,bnd_of (by rw [hb]; exact at_app pre g gs),alikeL]
  unfold alikeF
  cases eq8 f.vec g.vec with
  | false=>rfl
  | true =>
   rw [br_f (by rfl),Bool.true_and]
   by_cases hn:f.ids.length=g.ids.length
   ·rw [br_f (by rw [hn,eqI_t.2 rfl]; rfl),chk_t (smallL_of (hi f (List.mem_cons_self ..)))]
    have h2:=alike_l2 (k:=ref06_Alike_l1 b fs ((pre.length:Int) + 1)) f.ids [] g.ids g rfl hn
    rw [show (([]:List ByteArray).length:Int)=0 from rfl] at h2
    rw [h2]
    cases eqL f.ids g.ids with
    | true=>rw [if_pos rfl,Bool.true_and]; exact ih
    | false=>rfl
   ·rw [br_t (by rw [eqI_f.2 (by omega)]; rfl),eqL_len hn]; rfl
 | [],_,_::_,_,_,h,_=>by simp at h
 | _::_,_,[],_,_,h,_=>by simp at h
theorem alike_s {a b:Know} {N:Nat} (hN:N≤1000000000) (h:KB a N):ref06_Alike_s a b=some (alikeK a b):=by
 unfold ref06_Alike_s alikeK
 cases eq8 a.star b.star with
 | false=>rfl
 | true =>
  rw [br_f (by rfl),Bool.true_and]
  by_cases hl:a.l.length=b.l.length
  ·rw [br_f (by rw [hl,eqI_t.2 rfl]; rfl),chk_t (smallL_of (Nat.le_trans h.l hN))]
   exact alike_l1 a.l [] b.l b rfl hl fun f hf=>Nat.le_trans (h.ids f hf) hN
  ·rw [br_t (by rw [eqI_f.2 (by omega)]; rfl),alikeL_len hl]
def IdsOk (k:Know):Prop:=∀ f∈k.l, ∀ x∈f.ids,x.size≤9223372036854775807
def mayF (f:Frag):Bool:=mayV f.vec&&f.ids.all fun x=>lettersB x 1
def mayK (k:Know):Bool:=alikeK k (plainK k)&&(mayV k.star&&k.l.all mayF)
end
end Go.Proofs.YtidkmoohgadjkaaGreat
namespace Go.Proofs.YtidkmoohgadjkaaGreat
open Go E
theorem ltS_lt (a b:ByteArray):ltS a b=decide (a.data.toList < b.data.toList):=bytesLess_eq _ _
theorem byt_ext {a b:ByteArray} (h:a.data.toList=b.data.toList):a=b:=by
 cases a; cases b; simp at h; rw [h]
theorem eqS_t {a b:ByteArray}:eqS a b=true↔a=b:=by
 unfold eqS; rw [beq_iff_eq]; exact ⟨byt_ext,fun h=>by rw [h]⟩
theorem eqS_self (a:ByteArray):eqS a a=true:=eqS_t.2 rfl
theorem eqS_f {a b:ByteArray}:eqS a b=false↔a≠b:=by
 rw [←Bool.not_eq_true,eqS_t]
theorem eqS_comm' (a b:ByteArray):eqS a b=eqS b a:=by
 cases h:eqS b a with
 | true=>rw [eqS_t] at h ⊢; exact h.symm
 | false=>rw [eqS_f] at h ⊢; exact fun e=>h e.symm
theorem ltS_self (a:ByteArray):ltS a a=false:=by rw [ltS_lt,decide_eq_false_iff_not]; exact List.lt_irrefl _
theorem ltS_tr {a b c:ByteArray} (h:ltS a b=true) (h':ltS b c=true):ltS a c=true:=by
 rw [ltS_lt,decide_eq_true_eq] at *; exact List.lt_trans h h'
theorem ltS_asym {a b:ByteArray} (h:ltS a b=true):ltS b a=false:=by
 cases h':ltS b a with
 | false=>rfl
 | true=>have:=ltS_tr h h'; rw [ltS_self] at this; cases this
theorem ltS_tri {a b:ByteArray} (h:ltS a b=false) (h':ltS b a=false):a=b:=by
 rw [ltS_lt,decide_eq_false_iff_not] at *
 exact byt_ext (List.le_antisymm (List.not_lt.1 h') (List.not_lt.1 h))
theorem ltS_ne {a b:ByteArray} (h:ltS a b=true):eqS a b=false:=by
 rw [eqS_f]; rintro rfl; rw [ltS_self] at h; cases h
theorem le_ltS_tr {a b c:ByteArray} (h:ltS b a=false) (h':ltS b c=true):ltS a c=true:=by
 cases h2:ltS a b with
 | true=>exact ltS_tr h2 h'
 | false=>rw [ltS_tri h2 h]; exact h'
def Ris (l:List Item):Prop:=l.Pairwise fun a b=>ltS a.id b.id=true
end Go.Proofs.YtidkmoohgadjkaaGreat
