/- Filters (layer 3): as trees; how large and how deep they are, and whether two are the same. Counts of replicas (layer 6), the program's and the document's. The cluster's values by their Go types; rows of filters. Filters (layer 3): which ones may be. The statements of layer 3, walked. Which items a filter has (layer 4): the program's answer, and the document's. Which filter is seen in which (layer 5): the program's answer, and the document's. Which filter is seen in which (layer 5): the document's answer. Which filter is seen in which (layer 5): both answers, and what they are. Filters made plain (layer 4): what is told to be the same, and both answers, without the program. Filters made plain (layer 4): the program's answer. The contracts that were proved by hand, as decomp.py asks for them. Rounds: over a list, with fuel; ways that meet. (Only those that are used.) Layers 6 to 8, the document's. Written by decomp.py. slices.Insert at rows of eight cells (items): its contract, walked. slices.Insert at items, told of slices as lists: its contract. slices.Delete of one item: its contract. slices.Insert and slices.Delete at items, told of slices as lists: as decomp.py asks for them. slices.Grow of nil: its contract. Layers 6 to 8, the document's, more of them. Written by decomp.py. What the statements hand in. Written by decomp.py. -/
import Derived.Test.YtidkmoohgadjkaaGreatUC
import Derived.Lib.AppendZerosOnto
import Derived.Lib.Overlaps
import Derived.Shelf.RegionOpenPlain
import Derived.WalkKit
import Derived.WalkSpells
import Derived.Deep.RegionLaw
import Derived.Lib.Walk
import Derived.Laws.NewBlocks
set_option linter.unusedVariables false
set_option linter.unusedSimpArgs false
set_option maxRecDepth 100000
set_option maxHeartbeats 4000000
namespace Go.Proofs.YtidkmoohgadjkaaGreat
open Go E
inductive Pred where
 | mk (op:Int) (text:ByteArray) (n:Int) (re im:Nat) (kids:List Pred)
namespace Pred
def op:Pred→Int | mk a _ _ _ _ _=>a
def text:Pred→ByteArray | mk _ a _ _ _ _=>a
def n:Pred→Int | mk _ _ a _ _ _=>a
def re:Pred→Nat | mk _ _ _ a _ _=>a
def im:Pred→Nat | mk _ _ _ _ a _=>a
def kids:Pred→List Pred | mk _ _ _ _ _ a=>a
mutual
def row:Pred→List PC
 | mk a t n re im ks=>[ip a,.v (.string t),ip n,.v (.complex .f64 re im),.sl (rows0 ks)]
def rows0:List Pred→List (List PC)
 | []=>[]
 | k::ks=>row k::rows0 ks
end
def rows (l:List Pred):List (List PC):=l.map row
theorem rows0_eq (l:List Pred):rows0 l=rows l:=by
 induction l with
 | nil=>rw [rows0]; rfl
 | cons a l ih=>rw [rows0,ih]; rfl
mutual
def lrow:Pred→List PC
 | mk a t n re im ks=>[ip a,.v (.string t),ip n,.v (.float .f64 re),.v (.float .f64 im),.sl (lrows ks)]
def lrows:List Pred→List (List PC)
 | []=>[]
 | k::ks=>lrow k::lrows ks
end
mutual
def size:Pred→Nat
 | mk _ _ _ _ _ ks=>sizes ks + 1
def sizes:List Pred→Nat
 | []=>0
 | k::ks=>size k + sizes ks
end
mutual
def depth:Pred→Nat
 | mk _ _ _ _ _ ks=>depths ks + 1
def depths:List Pred→Nat
 | []=>0
 | k::ks=>max (depth k) (depths ks)
end
mutual
def Ok:Pred→Prop
 | mk a t n _ _ ks=>(-9223372036854775808≤a∧a≤9223372036854775807)∧t.size≤9223372036854775807∧(-9223372036854775808≤n∧n≤9223372036854775807)∧ks.length≤9223372036854775807∧Oks ks
def Oks:List Pred→Prop
 | []=>True
 | k::ks=>Ok k∧Oks ks
end
abbrev cs (p:Pred):List C:=[ic p.op,.p (.v (.string p.text)),ic p.n,.p (.v (.complex .f64 p.re p.im)),.p (.sl (rows p.kids))]
abbrev a (p:Pred):A:=.agg p.cs
abbrev la (p:Pred):A:=.agg [ic p.op,.p (.v (.string p.text)),ic p.n,.p (.v (.float .f64 p.re)),.p (.v (.float .f64 p.im)),.p (.sl (lrows p.kids))]
theorem row_eq (p:Pred):row p=[ip p.op,.v (.string p.text),ip p.n,.v (.complex .f64 p.re p.im),.sl (rows p.kids)]:=by cases p; rw [row,rows0_eq]; rfl
theorem lrow_eq (p:Pred):lrow p=[ip p.op,.v (.string p.text),ip p.n,.v (.float .f64 p.re),.v (.float .f64 p.im),.sl (lrows p.kids)]:=by cases p; rw [lrow]; rfl
theorem rows_eq (l:List Pred):rows l=l.map row:=rfl
theorem lrows_eq (l:List Pred):lrows l=l.map lrow:=by induction l with | nil=>rw [lrows]; rfl | cons a l ih=>rw [lrows,ih]; rfl
theorem size_eq (p:Pred):p.size=sizes p.kids + 1:=by cases p; rw [size]; rfl
theorem depth_eq (p:Pred):p.depth=depths p.kids + 1:=by cases p; rw [depth]; rfl
theorem sizes_app (l m:List Pred):sizes (l++m)=sizes l + sizes m:=by
 induction l with
 | nil=>rw [sizes]; simp
 | cons a l ih=>rw [List.cons_append,sizes,sizes,ih]; omega
theorem sizes_nil:sizes []=0:=by rw [sizes]
theorem sizes_one (p:Pred):sizes [p]=p.size:=by rw [sizes,sizes_nil]; rfl
theorem depths_nil:depths []=0:=by rw [depths]
theorem depths_app (l m:List Pred):depths (l++m)=max (depths l) (depths m):=by
 induction l with
 | nil=>rw [depths_nil]; simp
 | cons a l ih=>rw [List.cons_append,depths,depths,ih]; omega
theorem depths_one (p:Pred):depths [p]=p.depth:=by rw [depths,depths_nil]; omega
theorem size_mem {l : List Pred} {k : Pred} (h : k ∈ l) : k.size ≤ sizes l := by
  induction l with
  | nil => cases h
  | cons a l ih => rw [sizes]; rcases List.mem_cons.1 h with rfl | h
                   · omega
                   · have := ih h; omega
theorem size_kid {p:Pred} {j:Nat} (h:j < p.kids.length):p.kids[j].size < p.size:=by
 have:=size_mem (List.getElem_mem h); rw [size_eq p]; omega
theorem size_pos (p:Pred):0 < p.size:=by rw [size_eq]; omega
theorem len_sizes (l:List Pred):l.length≤sizes l:=by
 induction l with
 | nil=>simp
 | cons a l ih=>rw [sizes]; have:=size_pos a; simp; omega
theorem Oks_mem {l : List Pred} (h : Oks l) {k : Pred} (hk : k ∈ l) : Ok k := by
  induction l with
  | nil => cases hk
  | cons a l ih => rw [Oks] at h; rcases List.mem_cons.1 hk with rfl | hk
                   · exact h.1
                   · exact ih h.2 hk
theorem Oks_of {l:List Pred} (h:∀ k∈l,Ok k):Oks l:=by
 induction l with
 | nil=>rw [Oks]; trivial
 | cons a l ih=>rw [Oks]; exact ⟨h a (by simp),ih fun k hk=>h k (by simp [hk])⟩
theorem Ok.kids {p:Pred} (h:p.Ok):Oks p.kids:=by cases p; rw [Ok] at h; exact h.2.2.2.2
theorem Ok.kid {p:Pred} (h:p.Ok) {j:Nat} (hj:j < p.kids.length):p.kids[j].Ok:=Oks_mem h.kids (List.getElem_mem hj)
theorem Ok.text {p:Pred} (h:p.Ok):p.text.size≤9223372036854775807:=by cases p; rw [Ok] at h; exact h.2.1
theorem Ok.len {p:Pred} (h:p.Ok):p.kids.length≤9223372036854775807:=by cases p; rw [Ok] at h; exact h.2.2.2.1
theorem Ok.op {p:Pred} (h:p.Ok) : -9223372036854775808≤p.op∧p.op≤9223372036854775807:=by cases p; rw [Ok] at h; exact h.1
theorem Ok.n {p:Pred} (h:p.Ok) : -9223372036854775808≤p.n∧p.n≤9223372036854775807:=by cases p; rw [Ok] at h; exact h.2.2.1
theorem len_rows (l:List Pred):lenL (rows l)=(l.length:Int):=by rw [rows_eq,lenL_map]
theorem len_lrows (l:List Pred):lenL (lrows l)=(l.length:Int):=by rw [lrows_eq,lenL_map]
theorem lenB_rows {l:List Pred} {j:Nat} (h:j < l.length):lenB (rows l) (j:Int)=true:=by rw [rows_eq]; exact lenB_map h
theorem lenB_lrows {l:List Pred} {j:Nat} (h:j < l.length):lenB (lrows l) (j:Int)=true:=by rw [lrows_eq]; exact lenB_map h
theorem at_rows {l:List Pred} {j:Nat} (h:j < l.length):E.rowAt (rows l) (j:Int)=[ip l[j].op,.v (.string l[j].text),ip l[j].n,.v (.complex .f64 l[j].re l[j].im),.sl (rows l[j].kids)]:=by
 rw [rows_eq,rowAt_map h,row_eq]
theorem at_lrows {l:List Pred} {j:Nat} (h:j < l.length):E.rowAt (lrows l) (j:Int)=[ip l[j].op,.v (.string l[j].text),ip l[j].n,.v (.float .f64 l[j].re),.v (.float .f64 l[j].im),.sl (lrows l[j].kids)]:=by
 rw [lrows_eq,rowAt_map h,lrow_eq]
theorem take_sizes {l:List Pred} {j:Nat} (h:j < l.length):sizes (l.take (j + 1))=sizes (l.take j) + l[j].size:=by
 rw [List.take_succ_eq_append_getElem h,sizes_app,sizes_one]
theorem take_sizes_le (l:List Pred) (j:Nat):sizes (l.take j)≤sizes l:=by
 have:=sizes_app (l.take j) (l.drop j); rw [List.take_append_drop] at this; omega
theorem take_depths {l:List Pred} {j:Nat} (h:j < l.length):depths (l.take (j + 1))=max (depths (l.take j)) l[j].depth:=by
 rw [List.take_succ_eq_append_getElem h,depths_app,depths_one]
theorem depth_le_size:∀ (p:Pred),p.depth≤p.size:=by
 have key:∀ (n:Nat) (p:Pred),p.size≤n→p.depth≤p.size:=by
  intro n
  induction n with
  | zero=>intro p h; have:=size_pos p; omega
  | succ n ih =>
   intro p h
   rw [size_eq] at h ⊢; rw [depth_eq]
   have:∀ l:List Pred,sizes l≤n→depths l≤sizes l:=by
    intro l
    induction l with
    | nil=>intro _; rw [depths_nil]; omega
    | cons a l ihl=>intro hl; rw [sizes] at hl ⊢; rw [depths]; have:=ih a (by omega); have:=ihl (by omega); omega
   have:=this p.kids (by omega)
   omega
 exact fun p=>key p.size p (Nat.le_refl _)
end Pred
open Pred
attribute [irreducible] Pred.lrows Pred.size Pred.sizes Pred.depth Pred.depths Pred.Ok Pred.Oks
def leftV (p:Pred) (m:Int):Int:=if (p.size:Int)≤m then m - p.size else -1
theorem wrAdd {a b:Nat} (h:a + b < 9223372036854775807):wr .i64 ((a:Int) + (b:Int))=((a + b:Nat):Int):=by rw [wr64 (by omega) (by omega)]; omega
theorem rsize_ok {X:Task→Prop} (hX:Closed X):∀ (N:Nat) {p:Pred} {Q:A→List Blk→Prop},p.size≤N→p.size≤1000→Q (iv p.size) []→X (.call 150 [p.a] [] Q)
 | 0,p,_,h,_,_=>absurd h (by have:=size_pos p; omega)
 | N + 1,p,Q,h,h1,hQ=>by
  refine call_intro hX Tryz.func150 rfl rfl ?_
  repeat' ((conv=>whnf); first | exact hQ | refine eqv_id ?_ | refine Two.l ?_ | refine ⟨by kernel_rfl,?_⟩ | refine bct (by assumption) ?_ | refine bcf (by assumption) ?_ | refine bcf (nt (by assumption)) ?_ | refine bct (nf (by assumption)) ?_)
  have hsz:=size_eq p
  have hln:=len_sizes p.kids
  refine range_loop (fun j (n:Nat)=>pad [(1,.one (.ptr 0 0)),(1,iv (n:Int)),(0,iv (j:Int))] 16) (fun _ _=>[.box p.cs]) (fun j n=>n=1 + sizes (p.kids.take j)) p.kids.length (fun j n hj hI ih=>?_) (fun n hI=>?_) 1 (by rw [List.take_zero,sizes_nil])
  ·have q1:ltI (j:Int) (lenL (rows p.kids))=true:=by rw [len_rows,ltI_t]; omega
   have q2:=lenB_rows hj
   have hk:=size_kid hj
   have ht:=take_sizes hj
   have hl:=take_sizes_le p.kids (j + 1)
   refine loop_intro hX ?_
   repeat' ((conv=>whnf); first | exact hQ | refine eqv_id ?_ | refine Two.l ?_ | refine ⟨by kernel_rfl,?_⟩ | refine bct (by assumption) ?_ | refine bcf (by assumption) ?_ | refine bcf (nt (by assumption)) ?_ | refine bct (nf (by assumption)) ?_ | (rw [at_rows hj]) | refine rsize_ok hX N (p:=p.kids[j]) (by omega) (by omega) ?_ | (rw [wrS (by omega),wrAdd (by omega)]; exact ih _ (by omega)))
  ·have q1:ltI (p.kids.length:Int) (lenL (rows p.kids))=false:=by rw [len_rows,ltI_f]; omega
   rw [List.take_length] at hI
   refine loop_intro hX ?_
   repeat' ((conv=>whnf); first | exact hQ | refine eqv_id ?_ | refine Two.l ?_ | refine ⟨by kernel_rfl,?_⟩ | refine bct (by assumption) ?_ | refine bcf (by assumption) ?_ | refine bcf (nt (by assumption)) ?_ | refine bct (nf (by assumption)) ?_ | (exact Qi hQ (by omega)))
theorem left_ok {X:Task→Prop} (hX:Closed X):∀ (N:Nat) {p:Pred} {m:Int} {Q:A→List Blk→Prop},p.size≤N→p.Ok→m≤1000 → -1000≤m→Q (iv (leftV p m)) []→X (.call 112 [p.la,iv m] [] Q)
 | 0,p,_,_,h,_,_,_,_=>absurd h (by have:=size_pos p; omega)
 | N + 1,p,m,Q,h,ok,h1,h2,hQ=>by
  have hsz:=size_eq p
  refine call_intro hX Tryz.func112 rfl rfl ?_
  cases q1:leI m 0 with
  | true=>repeat' ((conv=>whnf); first | exact hQ | refine eqv_id ?_ | refine Two.l ?_ | refine ⟨by kernel_rfl,?_⟩ | refine bct (by assumption) ?_ | refine bcf (by assumption) ?_ | refine bcf (nt (by assumption)) ?_ | refine bct (nf (by assumption)) ?_ | (exact Qi hQ (by unfold leftV; rw [leI_t] at q1; rw [if_neg (by omega)])))
  | false =>
   repeat' ((conv=>whnf); first | exact hQ | refine eqv_id ?_ | refine Two.l ?_ | refine ⟨by kernel_rfl,?_⟩ | refine bct (by assumption) ?_ | refine bcf (by assumption) ?_ | refine bcf (nt (by assumption)) ?_ | refine bct (nf (by assumption)) ?_)
   (conv=>whnf)
   rw [leI_f] at q1
   rw [wr64 (n:=m - 1) (by omega) (by omega)]
   have hln:=ok.len
   refine range_loop (fun j (n:Int)=>pad [(1,iv n),(0,.one (.ptr 0 0)),(2,iv (j:Int))] 21) (fun _ _=>[.box [ic p.op,.p (.v (.string p.text)),ic p.n,.p (.v (.float .f64 p.re)),.p (.v (.float .f64 p.im)),.p (.sl (lrows p.kids))]]) (fun j n=>n=m - 1 - sizes (p.kids.take j)∧0≤n) p.kids.length (fun j n hj hI ih=>?_) (fun n hI=>?_) (m - 1) (by rw [List.take_zero,sizes_nil]; omega)
   ·have q1:ltI (j:Int) (lenL (lrows p.kids))=true:=by rw [len_lrows,ltI_t]; omega
    have q2:=lenB_lrows hj
    have hk:=size_kid hj
    have ht:=take_sizes hj
    have hl:=take_sizes_le p.kids (j + 1)
    obtain ⟨hI,hn⟩:=hI
    refine loop_intro hX ?_
    by_cases hle:(p.kids[j].size:Int)≤n
    ·have e:leftV p.kids[j] n=n - p.kids[j].size:=if_pos hle
     have q3:ltI (n - p.kids[j].size) 0=false:=ltI_f.2 (by omega)
     repeat' ((conv=>whnf); first | exact hQ | refine eqv_id ?_ | refine Two.l ?_ | refine ⟨by kernel_rfl,?_⟩ | refine bct (by assumption) ?_ | refine bcf (by assumption) ?_ | refine bcf (nt (by assumption)) ?_ | refine bct (nf (by assumption)) ?_ | (rw [at_lrows hj]) | (refine left_ok hX N (p:=p.kids[j]) (by omega) (ok.kid hj) (by omega) (by omega) ?_; rw [e]) | (rw [wrS (by omega)]; exact ih _ (by omega)))
    ·have e:leftV p.kids[j] n = -1:=if_neg hle
     repeat' ((conv=>whnf); first | exact hQ | refine eqv_id ?_ | refine Two.l ?_ | refine ⟨by kernel_rfl,?_⟩ | refine bct (by assumption) ?_ | refine bcf (by assumption) ?_ | refine bcf (nt (by assumption)) ?_ | refine bct (nf (by assumption)) ?_ | (exact Qi hQ (by unfold leftV; rw [if_neg (by omega)])) | (rw [at_lrows hj]) | (refine left_ok hX N (p:=p.kids[j]) (by omega) (ok.kid hj) (by omega) (by omega) ?_; rw [e]))
   ·have q1:ltI (p.kids.length:Int) (lenL (lrows p.kids))=false:=by rw [len_lrows,ltI_f]; omega
    rw [List.take_length] at hI
    refine loop_intro hX ?_
    repeat' ((conv=>whnf); first | exact hQ | refine eqv_id ?_ | refine Two.l ?_ | refine ⟨by kernel_rfl,?_⟩ | refine bct (by assumption) ?_ | refine bcf (by assumption) ?_ | refine bcf (nt (by assumption)) ?_ | refine bct (nf (by assumption)) ?_ | (exact Qi hQ (by unfold leftV; rw [if_pos (by omega)]; omega)))
theorem small_ok {X:Task→Prop} (hX:Closed X) {p:Pred} {Q:A→List Blk→Prop} (ok:p.Ok) (hQ:Q (iv (if p.size≤60 then 1 else 0)) []):X (.call 44 [p.la] [] Q):=by
 refine call_intro hX Tryz.func44 rfl rfl ?_
 by_cases hle:p.size≤60
 ·have e:leftV p 60=60 - p.size:=if_pos (by omega)
  have q1:ltI (60 - (p.size:Int)) 0=false:=ltI_f.2 (by omega)
  repeat' ((conv=>whnf); first | exact hQ | refine eqv_id ?_ | refine Two.l ?_ | refine ⟨by kernel_rfl,?_⟩ | refine bct (by assumption) ?_ | refine bcf (by assumption) ?_ | refine bcf (nt (by assumption)) ?_ | refine bct (nf (by assumption)) ?_ | (exact Qi hQ (if_pos hle)) | (refine left_ok hX p.size (p:=p) (Nat.le_refl _) ok (by omega) (by omega) ?_; rw [e]))
 ·have e:leftV p 60 = -1:=if_neg (by omega)
  repeat' ((conv=>whnf); first | exact hQ | refine eqv_id ?_ | refine Two.l ?_ | refine ⟨by kernel_rfl,?_⟩ | refine bct (by assumption) ?_ | refine bcf (by assumption) ?_ | refine bcf (nt (by assumption)) ?_ | refine bct (nf (by assumption)) ?_ | (exact Qi hQ (if_neg hle)) | (refine left_ok hX p.size (p:=p) (Nat.le_refl _) ok (by omega) (by omega) ?_; rw [e]))
theorem rows_take {l:List Pred} {j:Nat} (h:j < l.length):catL (rows (l.take j)) [[ip l[j].op,.v (.string l[j].text),ip l[j].n,.v (.complex .f64 l[j].re l[j].im),.sl (rows l[j].kids)]]=rows (l.take (j + 1)):=by
 unfold catL
 rw [rows_eq,rows_eq (l.take (j + 1)),List.take_succ_eq_append_getElem h,List.map_append,List.map_cons,List.map_nil,row_eq]
theorem lpred_ok {X:Task→Prop} (hX:Closed X):∀ (N:Nat) {p:Pred} {Q:A→List Blk→Prop},p.size≤N→p.size≤1000→p.Ok→Q p.a []→X (.call 46 [p.la] [] Q)
 | 0,p,_,h,_,_,_=>absurd h (by have:=size_pos p; omega)
 | N + 1,p,Q,h,h1,ok,hQ=>by
  refine call_nz hX ?_
  (conv=>whnf)
  refine call_intro hX Tryz.func46 rfl rfl ?_
  repeat' ((conv=>whnf); first | exact hQ | refine eqv_id ?_ | refine Two.l ?_ | refine ⟨by kernel_rfl,?_⟩ | refine bct (by assumption) ?_ | refine bcf (by assumption) ?_ | refine bcf (nt (by assumption)) ?_ | refine bct (nf (by assumption)) ?_)
  have hsz:=size_eq p
  have hln:=len_sizes p.kids
  refine loop_intro hX ?_
  by_cases h0:0 < p.kids.length
  ·have q1:ltI 0 (lenL (lrows p.kids))=true:=by rw [len_lrows,ltI_t]; omega
   have q2:lenB (lrows p.kids) 0=true:=lenB_lrows h0
   have q3:=at_lrows h0
   have hk:=size_kid h0
   repeat' ((conv=>whnf); first | exact hQ | refine eqv_id ?_ | refine Two.l ?_ | refine ⟨by kernel_rfl,?_⟩ | refine bct (by assumption) ?_ | refine bcf (by assumption) ?_ | refine bcf (nt (by assumption)) ?_ | refine bct (nf (by assumption)) ?_ | (erw [q3]) | refine lpred_ok hX N (p:=p.kids[0]) (by omega) (by omega) (ok.kid h0) ?_ | refine bct (room2 (by decide) rfl rfl rfl) ?_)
   all_goals (conv=>whnf)
   have e0:rows (p.kids.take 0)=[]:=by rw [List.take_zero,rows_eq]; rfl
   have e1:=rows_take h0
   rw [e0] at e1
   refine range_from (fun j (_:Rw)=>pad [(1,.one (.ptr 0 0)),(0,.one (.ptr 1 0)),(0,.one (.ptr 3 0)),(0,iv (j:Int))] 31) (fun j r=>[.box [ic p.op,.p (.v (.string p.text)),ic p.n,.p (.v (.float .f64 p.re)),.p (.v (.float .f64 p.im)),.p (.sl (lrows p.kids))],.box [ic 0,.p (.v (.string ⟨#[]⟩)),ic 0,.p (.v (.complex .f64 0 0)),.own 2],.rows 0 [],.box [ic p.op,.p (.v (.string p.text)),ic p.n,.p (.v (.complex .f64 p.re p.im)),.own 4],.rows r.k r.l]) (fun j r=>r.k=5∧r.l=rows (p.kids.take j)) p.kids.length 1 (by omega) (fun j r hj1 hj hI ih=>?_) (fun r hI=>?_) ⟨_,_⟩ ⟨rfl,e1⟩
   ·obtain ⟨rk,rl⟩:=r
    obtain ⟨rfl,rfl⟩:=hI
    have q1:ltI (j:Int) (lenL (lrows p.kids))=true:=by rw [len_lrows,ltI_t]; omega
    have q2:=lenB_lrows hj
    have hk:=size_kid hj
    have hlr:(rows (p.kids.take j)).length≤1000:=by rw [rows_eq,List.length_map,List.length_take]; omega
    have e3:=rows_take hj
    refine loop_intro hX ?_
    repeat' ((conv=>whnf); first | exact hQ | refine eqv_id ?_ | refine Two.l ?_ | refine ⟨by kernel_rfl,?_⟩ | refine bct (by assumption) ?_ | refine bcf (by assumption) ?_ | refine bcf (nt (by assumption)) ?_ | refine bct (nf (by assumption)) ?_ | (rw [at_lrows hj]) | refine lpred_ok hX N (p:=p.kids[j]) (by omega) (by omega) (ok.kid hj) ?_ | refine bct (room3 (Nat.le_trans hlr (by decide)) rfl rfl rfl rfl) ?_ | (rw [wrS (by omega)]; exact ih ⟨_,_⟩ ⟨rfl,e3⟩))
   ·obtain ⟨rk,rl⟩:=r
    obtain ⟨rfl,rfl⟩:=hI
    have q1:ltI (p.kids.length:Int) (lenL (lrows p.kids))=false:=by rw [len_lrows,ltI_f]; omega
    rw [List.take_length]
    refine loop_intro hX ?_
    repeat' ((conv=>whnf); first | exact hQ | refine eqv_id ?_ | refine Two.l ?_ | refine ⟨by kernel_rfl,?_⟩ | refine bct (by assumption) ?_ | refine bcf (by assumption) ?_ | refine bcf (nt (by assumption)) ?_ | refine bct (nf (by assumption)) ?_)
  ·have q1:ltI 0 (lenL (lrows p.kids))=false:=by rw [len_lrows,ltI_f]; omega
   have e:p.kids=[]:=List.eq_nil_of_length_eq_zero (by omega)
   have e2:rows p.kids=[]:=by rw [e,rows_eq]; rfl
   simp only [Pred.a,Pred.cs,e2] at hQ
   repeat' ((conv=>whnf); first | exact hQ | refine eqv_id ?_ | refine Two.l ?_ | refine ⟨by kernel_rfl,?_⟩ | refine bct (by assumption) ?_ | refine bcf (by assumption) ?_ | refine bcf (nt (by assumption)) ?_ | refine bct (nf (by assumption)) ?_)
theorem rdepth_ok {X:Task→Prop} (hX:Closed X):∀ (N:Nat) {p:Pred} {Q:A→List Blk→Prop},p.size≤N→p.size≤1000→Q (iv p.depth) []→X (.call 151 [p.a] [] Q)
 | 0,p,_,h,_,_=>absurd h (by have:=size_pos p; omega)
 | N + 1,p,Q,h,h1,hQ=>by
  refine call_intro hX Tryz.func151 rfl rfl ?_
  repeat' ((conv=>whnf); first | exact hQ | refine eqv_id ?_ | refine Two.l ?_ | refine ⟨by kernel_rfl,?_⟩ | refine bct (by assumption) ?_ | refine bcf (by assumption) ?_ | refine bcf (nt (by assumption)) ?_ | refine bct (nf (by assumption)) ?_)
  have hsz:=size_eq p
  have hde:=depth_eq p
  have hds:=depth_le_size p
  have hln:=len_sizes p.kids
  refine range_loop (fun j (n:Nat)=>pad [(1,.one (.ptr 0 0)),(1,iv (n:Int)),(0,iv (j:Int))] 20) (fun _ _=>[.box p.cs]) (fun j n=>n=1 + depths (p.kids.take j)) p.kids.length (fun j n hj hI ih=>?_) (fun n hI=>?_) 1 (by rw [List.take_zero,depths_nil])
  ·have q1:ltI (j:Int) (lenL (rows p.kids))=true:=by rw [len_rows,ltI_t]; omega
   have q2:=lenB_rows hj
   have hk:=size_kid hj
   have ht:=take_depths hj
   have hd1:=depth_le_size p.kids[j]
   have e:wr .i64 (1 + (p.kids[j].depth:Int))=((1 + p.kids[j].depth:Nat):Int):=by rw [wr64 (by omega) (by omega)]; omega
   refine loop_intro hX ?_
   by_cases hlt:n < 1 + p.kids[j].depth
   ·have q3:ltI (n:Int) ((1 + p.kids[j].depth:Nat):Int)=true:=ltI_t.2 (by omega)
    rw [←e] at q3
    repeat' ((conv=>whnf); first | exact hQ | refine eqv_id ?_ | refine Two.l ?_ | refine ⟨by kernel_rfl,?_⟩ | refine bct (by assumption) ?_ | refine bcf (by assumption) ?_ | refine bcf (nt (by assumption)) ?_ | refine bct (nf (by assumption)) ?_ | (rw [at_rows hj]) | refine rdepth_ok hX N (p:=p.kids[j]) (by omega) (by omega) ?_ | (rw [wrS (by omega),e]; exact ih _ (by omega)))
   ·have q3:ltI (n:Int) ((1 + p.kids[j].depth:Nat):Int)=false:=ltI_f.2 (by omega)
    rw [←e] at q3
    repeat' ((conv=>whnf); first | exact hQ | refine eqv_id ?_ | refine Two.l ?_ | refine ⟨by kernel_rfl,?_⟩ | refine bct (by assumption) ?_ | refine bcf (by assumption) ?_ | refine bcf (nt (by assumption)) ?_ | refine bct (nf (by assumption)) ?_ | (rw [at_rows hj]) | refine rdepth_ok hX N (p:=p.kids[j]) (by omega) (by omega) ?_ | (rw [wrS (by omega)]; exact ih _ (by omega)))
  ·have q1:ltI (p.kids.length:Int) (lenL (rows p.kids))=false:=by rw [len_rows,ltI_f]; omega
   rw [List.take_length] at hI
   refine loop_intro hX ?_
   repeat' ((conv=>whnf); first | exact hQ | refine eqv_id ?_ | refine Two.l ?_ | refine ⟨by kernel_rfl,?_⟩ | refine bct (by assumption) ?_ | refine bcf (by assumption) ?_ | refine bcf (nt (by assumption)) ?_ | refine bct (nf (by assumption)) ?_ | (exact Qi hQ (by omega)))
mutual
def sameP:Pred→Pred→Bool
 | .mk a t n x y ks,q=>eqI a q.op&&(eqS t q.text&&(eqI n q.n&&((eqFl .f64 x q.re&&eqFl .f64 y q.im)&&sameL ks q.kids)))
def sameL:List Pred→List Pred→Bool
 | [],[]=>true
 | k::ks,m::ms=>sameP k m&&sameL ks ms
 | [],_::_=>false
 | _::_,[]=>false
end
theorem sameP_eq (p q:Pred):sameP p q=(eqI p.op q.op&&(eqS p.text q.text&&(eqI p.n q.n&&((eqFl .f64 p.re q.re&&eqFl .f64 p.im q.im)&&sameL p.kids q.kids)))):=by cases p; rw [sameP]; rfl
theorem sameL_of:∀ {l m:List Pred} (hlen:l.length=m.length),(∀ j (h:j < l.length),sameP l[j] (m[j]'(by omega))=true)→sameL l m=true
 | [],[],_,_=>by rw [sameL]
 | k::ks,m::ms,hl,h=>by
  rw [sameL,Bool.and_eq_true]
  exact ⟨h 0 (by simp),sameL_of (by simpa using hl) fun j hj=>h (j + 1) (by simpa using hj)⟩
 | [],_::_,hl,_=>by simp at hl
 | _::_,[],hl,_=>by simp at hl
theorem sameL_len:∀ {l m:List Pred},l.length≠m.length→sameL l m=false
 | [],[],h=>absurd rfl h
 | k::ks,m::ms,h=>by rw [sameL,sameL_len (l:=ks) (m:=ms) (by simpa using h),Bool.and_false]
 | [],_::_,_=>by rw [sameL]
 | _::_,[],_=>by rw [sameL]
theorem sameL_bad:∀ {l m:List Pred} (hlen:l.length=m.length) {j:Nat} (h:j < l.length),sameP l[j] (m[j]'(by omega))=false→sameL l m=false
 | k::ks,m::ms,hl,0,_,h=>by rw [sameL]; simp only [List.getElem_cons_zero] at h; rw [h]; rfl
 | k::ks,m::ms,hl,j + 1,hj,h=>by rw [sameL,sameL_bad (l:=ks) (m:=ms) (by simpa using hl) (j:=j) (by simpa using hj) h,Bool.and_false]
theorem rsame_pred_ok {X:Task→Prop} (hX:Closed X):∀ (N:Nat) {p q:Pred} {Q:A→List Blk→Prop},p.size≤N→p.Ok→Q (bv (sameP p q)) []→X (.call 68 [p.a,q.a] [] Q)
 | 0,p,_,_,h,_,_=>absurd h (by have:=size_pos p; omega)
 | N + 1,p,q,Q,h,ok,hQ=>by
  by_cases hlen:p.kids.length=q.kids.length
  rotate_left
  ·have hf:sameP p q=false:=by rw [sameP_eq,sameL_len hlen]; simp
   have q5:eqI (lenL (rows p.kids)) (lenL (rows q.kids))=false:=by rw [len_rows,len_rows,eqI_f]; omega
   refine call_intro hX Tryz.func68 rfl rfl ?_
   repeat' ((conv=>whnf); first | exact hQ | refine eqv_id ?_ | refine Two.l ?_ | refine ⟨by kernel_rfl,?_⟩ | refine bct (by assumption) ?_ | refine bcf (by assumption) ?_ | refine bcf (nt (by assumption)) ?_ | refine bct (nf (by assumption)) ?_ | (exact Qb hQ hf) | refine bc (fun _=>?_) (fun _=>?_))
  have q5:eqI (lenL (rows p.kids)) (lenL (rows q.kids))=true:=by rw [len_rows,len_rows,eqI_t]; omega
  refine call_intro hX Tryz.func68 rfl rfl ?_
  repeat' ((conv=>whnf); first | exact hQ | refine eqv_id ?_ | refine Two.l ?_ | refine ⟨by kernel_rfl,?_⟩ | refine bct (by assumption) ?_ | refine bcf (by assumption) ?_ | refine bcf (nt (by assumption)) ?_ | refine bct (nf (by assumption)) ?_ | (refine Qb hQ ?_; rw [sameP_eq]; cases h7:eqFl .f64 p.re q.re<;>cases h8:eqFl .f64 p.im q.im<;>simp_all; done) | refine bc (fun _=>?_) (fun _=>?_))
  have hln:=ok.len
  have hk:=fun (j:Nat) (hj:j < p.kids.length)=>size_kid hj
  refine range_loop (fun j (_:Unit)=>pad [(2,.one (.ptr 0 0)),(0,.one (.ptr 1 0)),(1,iv (j:Int))] 67) (fun _ _=>[.box p.cs,.box q.cs]) (fun j _=>∀ i (hi:i < p.kids.length),i < j→sameP p.kids[i] (q.kids[i]'(by omega))=true) p.kids.length (fun j st hj hI ih=>?_) (fun st hI=>?_) () (fun i hi h=>absurd h (Nat.not_lt_zero _))
  ·have q1:ltI (j:Int) (lenL (rows p.kids))=true:=by rw [len_rows,ltI_t]; omega
   have q2:=lenB_rows hj
   have hj':j < q.kids.length:=by omega
   have q3:=lenB_rows hj'
   have hk:=hk j hj
   refine loop_intro hX ?_
   cases hs:sameP p.kids[j] q.kids[j] with
   | true=>repeat' ((conv=>whnf); first | exact hQ | refine eqv_id ?_ | refine Two.l ?_ | refine ⟨by kernel_rfl,?_⟩ | refine bct (by assumption) ?_ | refine bcf (by assumption) ?_ | refine bcf (nt (by assumption)) ?_ | refine bct (nf (by assumption)) ?_ | (rw [at_rows hj]) | (rw [at_rows hj']) | (refine rsame_pred_ok hX N (p:=p.kids[j]) (q:=q.kids[j]) (by omega) (ok.kid hj) ?_; rw [hs]) | (rw [wrS (by omega)]; refine ih () (fun i hi hij=>?_); rcases Nat.lt_succ_iff_lt_or_eq.1 hij with h' | rfl; exact hI i hi h'; exact hs))
   | false=>repeat' ((conv=>whnf); first | exact hQ | refine eqv_id ?_ | refine Two.l ?_ | refine ⟨by kernel_rfl,?_⟩ | refine bct (by assumption) ?_ | refine bcf (by assumption) ?_ | refine bcf (nt (by assumption)) ?_ | refine bct (nf (by assumption)) ?_ | (exact Qb hQ (by rw [sameP_eq,sameL_bad hlen hj hs]; simp)) | (rw [at_rows hj]) | (rw [at_rows hj']) | (refine rsame_pred_ok hX N (p:=p.kids[j]) (q:=q.kids[j]) (by omega) (ok.kid hj) ?_; rw [hs]))
  ·have q1:ltI (p.kids.length:Int) (lenL (rows p.kids))=false:=by rw [len_rows,ltI_f]; omega
   have hs:=sameL_of hlen (fun j hj=>hI j hj hj)
   refine loop_intro hX ?_
   repeat' ((conv=>whnf); first | exact hQ | refine eqv_id ?_ | refine Two.l ?_ | refine ⟨by kernel_rfl,?_⟩ | refine bct (by assumption) ?_ | refine bcf (by assumption) ?_ | refine bcf (nt (by assumption)) ?_ | refine bct (nf (by assumption)) ?_ | (refine Qb hQ ?_; rw [sameP_eq,hs]; simp_all; done))
attribute [irreducible] sameP sameL leftV
end Go.Proofs.YtidkmoohgadjkaaGreat
set_option maxHeartbeats 4000000
namespace Go.Proofs.YtidkmoohgadjkaaGreat
open Go E
structure V8 where
 x0:Int
 x1:Int
 x2:Int
 x3:Int
 x4:Int
 x5:Int
 x6:Int
 x7:Int
abbrev V8.cells (v:V8):List C:=[ic v.x0,ic v.x1,ic v.x2,ic v.x3,ic v.x4,ic v.x5,ic v.x6,ic v.x7]
abbrev V8.a (v:V8):A:=.agg v.cells
abbrev ver (r c:Int):A:=.agg [ic r,ic c]
def placeV (n:Int):Int:=if n < 1∨8 < n then -1 else n - 1
def V8.at (v:V8) (r:Int):Int:=if r=1 then v.x0 else if r=2 then v.x1 else if r=3 then v.x2 else if r=4 then v.x3 else if r=5 then v.x4 else if r=6 then v.x5 else if r=7 then v.x6 else if r=8 then v.x7 else 0
def V8.put (v:V8) (r c:Int):V8 :=
 if r=1 then { v with x0:=c } else if r=2 then { v with x1:=c } else if r=3 then { v with x2:=c } else if r=4 then { v with x3:=c }
 else if r=5 then { v with x4:=c } else if r=6 then { v with x5:=c } else if r=7 then { v with x6:=c } else if r=8 then { v with x7:=c } else v
def hasV (v:V8) (r c:Int):Bool:=decide (1≤r∧r≤8∧1≤c∧c≤v.at r)
def maxV (a b:V8):V8:=⟨maxI a.x0 b.x0,maxI a.x1 b.x1,maxI a.x2 b.x2,maxI a.x3 b.x3,maxI a.x4 b.x4,maxI a.x5 b.x5,maxI a.x6 b.x6,maxI a.x7 b.x7⟩
def withV (v:V8) (r c:Int):V8:=v.put r (maxI (v.at r) c)
def eq8 (a b:V8):Bool:=andB (eqI a.x0 b.x0) (andB (eqI a.x1 b.x1) (andB (eqI a.x2 b.x2) (andB (eqI a.x3 b.x3) (andB (eqI a.x4 b.x4) (andB (eqI a.x5 b.x5) (andB (eqI a.x6 b.x6) (andB (eqI a.x7 b.x7) true)))))))
theorem r8 (r:Int):(r < 1∨8 < r)∨r=1∨r=2∨r=3∨r=4∨r=5∨r=6∨r=7∨r=8:=by omega
theorem vplace_ok {X:Task→Prop} (hX:Closed X) {n:Int} {Q:A→List Blk→Prop} (hQ:Q (iv (placeV n)) []):X (.call 175 [iv n] [] Q):=by
 refine call_intro hX Tryz.func175 rfl rfl ?_
 repeat' ((conv=>whnf); first | refine ⟨by kernel_rfl,?_⟩ | refine eqv_id ?_ | refine Two.l ?_ | refine bct (by assumption) ?_ | refine bcf (by assumption) ?_ | refine bc (fun _=>?_) (fun _=>?_))
 all_goals (conv=>whnf)
 all_goals (refine Qa hQ ?_; simp only [ltI_t,ltI_f] at *; unfold placeV)
 ·rw [if_pos (by omega)]
 ·rw [if_pos (by omega)]
 ·rw [if_neg (by omega),wr64 (by omega) (by omega)]
theorem vmax_ok {X:Task→Prop} (hX:Closed X) {a b:V8} {Q:A→List Blk→Prop} (hQ:Q (maxV a b).a []):X (.call 189 [a.a,b.a] [] Q):=by
 refine call_intro hX Tryz.func189 rfl rfl ?_
 repeat' ((conv=>whnf); first | refine ⟨by kernel_rfl,?_⟩ | refine eqv_id ?_ | refine Two.l ?_ | refine bct (by assumption) ?_ | refine bcf (by assumption) ?_ | refine bc (fun _=>?_) (fun _=>?_) | refine loop_intro hX ?_)
 exact hQ
theorem placeV_out {n:Int} (h:n < 1∨8 < n):placeV n = -1:=if_pos h
theorem vhas_ok {X:Task→Prop} (hX:Closed X) {v:V8} {r c:Int} {Q:A→List Blk→Prop} (hQ:Q (bv (hasV v r c)) []):X (.call 109 [v.a,ver r c] [] Q):=by
 refine call_intro hX Tryz.func109 rfl rfl ?_
 rcases r8 r with h | rfl | rfl | rfl | rfl | rfl | rfl | rfl | rfl
 ·(conv=>whnf)
  refine vplace_ok hX ?_
  rw [placeV_out h]
  repeat' ((conv=>whnf); first | refine ⟨by kernel_rfl,?_⟩ | refine eqv_id ?_ | refine Two.l ?_ | refine bct (by assumption) ?_ | refine bcf (by assumption) ?_ | refine bc (fun _=>?_) (fun _=>?_))
  (conv=>whnf)
  refine Qb hQ ?_
  unfold hasV
  exact decide_eq_false (by omega)
 all_goals
  (conv=>whnf)
  refine vplace_ok hX ?_
  repeat' ((conv=>whnf); first | refine ⟨by kernel_rfl,?_⟩ | refine eqv_id ?_ | refine Two.l ?_ | refine bct (by assumption) ?_ | refine bcf (by assumption) ?_ | refine bc (fun _=>?_) (fun _=>?_))
 all_goals (conv=>whnf)
 all_goals refine Qb hQ ?_
 all_goals (simp only [leI_t,leI_f] at *; simp [hasV,V8.at,leI]; try omega)
theorem vwith_ok {X:Task→Prop} (hX:Closed X) {v:V8} {r c:Int} {Q:A→List Blk→Prop} (hQ:Q (withV v r c).a []):X (.call 169 [v.a,ver r c] [] Q):=by
 refine call_intro hX Tryz.func169 rfl rfl ?_
 rcases r8 r with h | rfl | rfl | rfl | rfl | rfl | rfl | rfl | rfl
 ·(conv=>whnf)
  refine vplace_ok hX ?_
  rw [placeV_out h]
  repeat' ((conv=>whnf); first | refine ⟨by kernel_rfl,?_⟩ | refine eqv_id ?_ | refine Two.l ?_ | refine bct (by assumption) ?_ | refine bcf (by assumption) ?_ | refine bc (fun _=>?_) (fun _=>?_))
  (conv=>whnf)
  refine Qa hQ ?_
  unfold withV V8.put
  rw [if_neg (by omega),if_neg (by omega),if_neg (by omega),if_neg (by omega),if_neg (by omega),if_neg (by omega),if_neg (by omega),if_neg (by omega)]
 all_goals
  (conv=>whnf)
  refine vplace_ok hX ?_
  repeat' ((conv=>whnf); first | refine ⟨by kernel_rfl,?_⟩ | refine eqv_id ?_ | refine Two.l ?_ | refine bct (by assumption) ?_ | refine bcf (by assumption) ?_ | refine bc (fun _=>?_) (fun _=>?_))
 all_goals exact hQ
def mayV (v:V8):Bool:=decide ((0≤v.x0∧v.x0≤1000)∧(0≤v.x1∧v.x1≤1000)∧(0≤v.x2∧v.x2≤1000)∧(0≤v.x3∧v.x3≤1000)∧(0≤v.x4∧v.x4≤1000)∧(0≤v.x5∧v.x5≤1000)∧(0≤v.x6∧v.x6≤1000)∧(0≤v.x7∧v.x7≤1000))
theorem vmay_ok {X:Task→Prop} (hX:Closed X) {v:V8} {Q:A→List Blk→Prop} (hQ:Q (bv (mayV v)) []):X (.call 143 [v.a] [] Q):=by
 refine call_intro hX Tryz.func143 rfl rfl ?_
 repeat' ((conv=>whnf); first | refine ⟨by kernel_rfl,?_⟩ | refine eqv_id ?_ | refine Two.l ?_ | refine bct (by assumption) ?_ | refine bcf (by assumption) ?_ | refine bc (fun _=>?_) (fun _=>?_) | refine loop_intro hX ?_)
 all_goals (conv=>whnf)
 all_goals refine Qb hQ ?_
 all_goals (simp only [ltI_t,ltI_f] at *; unfold mayV; first | exact decide_eq_true (by omega) | exact decide_eq_false (by omega))
theorem eq8_iff {a b:V8}:eq8 a b=true↔a.x0=b.x0∧a.x1=b.x1∧a.x2=b.x2∧a.x3=b.x3∧a.x4=b.x4∧a.x5=b.x5∧a.x6=b.x6∧a.x7=b.x7:=by
 simp [eq8,andB,eqI]
section
variable {X:Task→Prop} (hX:Closed X) {Q:A→List Blk→Prop}
include hX
end
section
variable {a b w c m:V8} {r n:Int}
end
theorem count_ok {X:Task→Prop} (hX:Closed X) {v:V8} {r:Int} {Q:A→List Blk→Prop} (hQ:Q (iv (v.at r)) []):X (.call 157 [v.a,iv r] [] Q):=by
 refine call_intro hX Tryz.func157 rfl rfl ?_
 rcases r8 r with h | rfl | rfl | rfl | rfl | rfl | rfl | rfl | rfl
 ·have e:v.at r=0:=by
   unfold V8.at
   rw [if_neg (by omega),if_neg (by omega),if_neg (by omega),if_neg (by omega),if_neg (by omega),if_neg (by omega),if_neg (by omega),if_neg (by omega)]
  rw [e] at hQ
  repeat' ((conv=>whnf); first | exact hQ | refine eqv_id ?_ | refine Two.l ?_ | refine ⟨by kernel_rfl,?_⟩ | refine bct (by assumption) ?_ | refine bcf (by assumption) ?_ | refine bc (fun _=>?_) (fun _=>?_))
  all_goals (simp only [ltI_t,ltI_f] at *; omega)
 all_goals exact hQ
theorem hasVec_ok {X:Task→Prop} (hX:Closed X) {v:V8} {r c:Int} {Q:A→List Blk→Prop} (hQ:Q (bv (hasV v r c)) []):X (.call 88 [v.a,ver r c] [] Q):=by
 refine call_intro hX Tryz.func88 rfl rfl ?_
 repeat' ((conv=>whnf); first | refine ⟨by kernel_rfl,?_⟩ | refine eqv_id ?_ | refine Two.l ?_ | refine bct (by assumption) ?_ | refine bcf (by assumption) ?_ | refine bc (fun _=>?_) (fun _=>?_) | refine count_ok hX ?_)
 all_goals (conv=>whnf)
 all_goals refine Qb hQ ?_
 all_goals (simp only [leI_t,leI_f] at *; unfold hasV)
 ·by_cases h:1≤r∧r≤8
  ·unfold leI; rw [Bool.eq_iff_iff]; simp; omega
  ·have e:v.at r=0:=by
    unfold V8.at
    rw [if_neg (by omega),if_neg (by omega),if_neg (by omega),if_neg (by omega),if_neg (by omega),if_neg (by omega),if_neg (by omega),if_neg (by omega)]
   rw [e,leI_f.2 (by omega)]; exact decide_eq_false (by omega)
 ·exact decide_eq_false (by omega)
theorem withVec_ok {X:Task→Prop} (hX:Closed X) {v:V8} {r c:Int} {Q:A→List Blk→Prop} (hQ:Q (withV v r c).a []):X (.call 174 [v.a,ver r c] [] Q):=by
 refine call_intro hX Tryz.func174 rfl rfl ?_
 rcases r8 r with h | rfl | rfl | rfl | rfl | rfl | rfl | rfl | rfl
 ·repeat' ((conv=>whnf); first | refine ⟨by kernel_rfl,?_⟩ | refine eqv_id ?_ | refine Two.l ?_ | refine bct (by assumption) ?_ | refine bcf (by assumption) ?_ | refine bc (fun _=>?_) (fun _=>?_) | (simp only [ltI_t,ltI_f] at *; omega))
  all_goals (conv=>whnf)
  all_goals (refine Qa hQ ?_; unfold withV V8.put; rw [if_neg (by omega),if_neg (by omega),if_neg (by omega),if_neg (by omega),if_neg (by omega),if_neg (by omega),if_neg (by omega),if_neg (by omega)])
 all_goals
  repeat' ((conv=>whnf); first | refine ⟨by kernel_rfl,?_⟩ | refine eqv_id ?_ | refine Two.l ?_ | refine bct (by assumption) ?_ | refine bcf (by assumption) ?_ | refine bc (fun _=>?_) (fun _=>?_))
 all_goals (conv=>whnf)
 all_goals (refine Qa hQ ?_; simp only [leI_t,leI_f] at *; simp [withV,V8.put,V8.at,maxI]; omega)
theorem mayVec_ok {X:Task→Prop} (hX:Closed X) {v:V8} {Q:A→List Blk→Prop} (hQ:Q (bv (mayV v)) []):X (.call 154 [v.a] [] Q):=by
 refine call_intro hX Tryz.func154 rfl rfl ?_
 repeat' ((conv=>whnf); first | refine ⟨by kernel_rfl,?_⟩ | refine eqv_id ?_ | refine Two.l ?_ | refine bct (by assumption) ?_ | refine bcf (by assumption) ?_ | refine bc (fun _=>?_) (fun _=>?_) | refine loop_intro hX ?_)
 all_goals (conv=>whnf)
 all_goals refine Qb hQ ?_
 all_goals (simp only [ltI_t,ltI_f] at *; unfold mayV; first | exact decide_eq_true (by omega) | exact decide_eq_false (by omega))
section
variable {X:Task→Prop} (hX:Closed X) {a b:V8} {K:Ex→List A→List Blk→Prop}
include hX
abbrev refMaxAt (X:Task→Prop) (a b o:V8) (i:Int) (K:Ex→List A→List Blk→Prop):Prop :=
 X (.loop 191 0 (loopN Tryz.f191 0) (pad [(2,.one (.ptr 0 0)),(0,.one (.ptr 1 0)),(0,.one (.ptr 2 0)),(0,.one (.ptr 3 0)),(0,iv i)] 22) [.box a.cells,.box b.cells,.box [ic 0,ic 0,ic 0,ic 0,ic 0,ic 0,ic 0,ic 0],.box o.cells] K)
abbrev refMaxEnd (a b o:V8) (K:Ex→List A→List Blk→Prop):Prop :=
 K (.exit 0) (pad [(2,.one (.ptr 0 0)),(0,.one (.ptr 1 0)),(0,.one (.ptr 2 0)),(0,.one (.ptr 3 0)),(0,iv 8),(0,iv 8),(0,bv false)] 20) [.box a.cells,.box b.cells,.box [ic 0,ic 0,ic 0,ic 0,ic 0,ic 0,ic 0,ic 0],.box o.cells]
theorem refMax8 {o:V8} (h:refMaxEnd a b o K):refMaxAt X a b o 8 K:=by
 refine loop_intro hX ?_
 exact h
theorem refMax7 {o:V8} (h:refMaxEnd a b { o with x7:=maxI a.x7 b.x7 } K):refMaxAt X a b o 7 K:=by
 refine loop_intro hX ?_
 repeat' ((conv=>whnf); first | refine ⟨by kernel_rfl,?_⟩ | refine eqv_id ?_ | refine Two.l ?_ | refine bc (fun _=>?_) (fun _=>?_) | refine refMax8 hX (o:={ o with x7:=b.x7 }) ?_ | refine refMax8 hX (o:={ o with x7:=a.x7 }) ?_)
 ·have e:maxI a.x7 b.x7=b.x7:=by rw [ltI_t] at *; unfold maxI; rw [if_pos (by omega)]
  rw [e] at h; exact h
 ·have e:maxI a.x7 b.x7=a.x7:=by rw [ltI_f] at *; unfold maxI; rw [if_neg (by omega)]
  rw [e] at h; exact h
theorem refMax6 {o:V8} (h:refMaxEnd a b { o with x6:=maxI a.x6 b.x6,x7:=maxI a.x7 b.x7 } K):refMaxAt X a b o 6 K:=by
 refine loop_intro hX ?_
 repeat' ((conv=>whnf); first | refine ⟨by kernel_rfl,?_⟩ | refine eqv_id ?_ | refine Two.l ?_ | refine bc (fun _=>?_) (fun _=>?_) | refine refMax7 hX (o:={ o with x6:=b.x6 }) ?_ | refine refMax7 hX (o:={ o with x6:=a.x6 }) ?_)
 ·have e:maxI a.x6 b.x6=b.x6:=by rw [ltI_t] at *; unfold maxI; rw [if_pos (by omega)]
  rw [e] at h; exact h
 ·have e:maxI a.x6 b.x6=a.x6:=by rw [ltI_f] at *; unfold maxI; rw [if_neg (by omega)]
  rw [e] at h; exact h
theorem refMax5 {o:V8} (h:refMaxEnd a b { o with x5:=maxI a.x5 b.x5,x6:=maxI a.x6 b.x6,x7:=maxI a.x7 b.x7 } K):refMaxAt X a b o 5 K:=by
 refine loop_intro hX ?_
 repeat' ((conv=>whnf); first | refine ⟨by kernel_rfl,?_⟩ | refine eqv_id ?_ | refine Two.l ?_ | refine bc (fun _=>?_) (fun _=>?_) | refine refMax6 hX (o:={ o with x5:=b.x5 }) ?_ | refine refMax6 hX (o:={ o with x5:=a.x5 }) ?_)
 ·have e:maxI a.x5 b.x5=b.x5:=by rw [ltI_t] at *; unfold maxI; rw [if_pos (by omega)]
  rw [e] at h; exact h
 ·have e:maxI a.x5 b.x5=a.x5:=by rw [ltI_f] at *; unfold maxI; rw [if_neg (by omega)]
  rw [e] at h; exact h
theorem refMax4 {o:V8} (h:refMaxEnd a b { o with x4:=maxI a.x4 b.x4,x5:=maxI a.x5 b.x5,x6:=maxI a.x6 b.x6,x7:=maxI a.x7 b.x7 } K):refMaxAt X a b o 4 K:=by
 refine loop_intro hX ?_
 repeat' ((conv=>whnf); first | refine ⟨by kernel_rfl,?_⟩ | refine eqv_id ?_ | refine Two.l ?_ | refine bc (fun _=>?_) (fun _=>?_) | refine refMax5 hX (o:={ o with x4:=b.x4 }) ?_ | refine refMax5 hX (o:={ o with x4:=a.x4 }) ?_)
 ·have e:maxI a.x4 b.x4=b.x4:=by rw [ltI_t] at *; unfold maxI; rw [if_pos (by omega)]
  rw [e] at h; exact h
 ·have e:maxI a.x4 b.x4=a.x4:=by rw [ltI_f] at *; unfold maxI; rw [if_neg (by omega)]
  rw [e] at h; exact h
theorem refMax3 {o:V8} (h:refMaxEnd a b { o with x3:=maxI a.x3 b.x3,x4:=maxI a.x4 b.x4,x5:=maxI a.x5 b.x5,x6:=maxI a.x6 b.x6,x7:=maxI a.x7 b.x7 } K):refMaxAt X a b o 3 K:=by
 refine loop_intro hX ?_
 repeat' ((conv=>whnf); first | refine ⟨by kernel_rfl,?_⟩ | refine eqv_id ?_ | refine Two.l ?_ | refine bc (fun _=>?_) (fun _=>?_) | refine refMax4 hX (o:={ o with x3:=b.x3 }) ?_ | refine refMax4 hX (o:={ o with x3:=a.x3 }) ?_)
 ·have e:maxI a.x3 b.x3=b.x3:=by rw [ltI_t] at *; unfold maxI; rw [if_pos (by omega)]
  rw [e] at h; exact h
 ·have e:maxI a.x3 b.x3=a.x3:=by rw [ltI_f] at *; unfold maxI; rw [if_neg (by omega)]
  rw [e] at h; exact h
theorem refMax2 {o:V8} (h:refMaxEnd a b { o with x2:=maxI a.x2 b.x2,x3:=maxI a.x3 b.x3,x4:=maxI a.x4 b.x4,x5:=maxI a.x5 b.x5,x6:=maxI a.x6 b.x6,x7:=maxI a.x7 b.x7 } K):refMaxAt X a b o 2 K:=by
 refine loop_intro hX ?_
 repeat' ((conv=>whnf); first | refine ⟨by kernel_rfl,?_⟩ | refine eqv_id ?_ | refine Two.l ?_ | refine bc (fun _=>?_) (fun _=>?_) | refine refMax3 hX (o:={ o with x2:=b.x2 }) ?_ | refine refMax3 hX (o:={ o with x2:=a.x2 }) ?_)
 ·have e:maxI a.x2 b.x2=b.x2:=by rw [ltI_t] at *; unfold maxI; rw [if_pos (by omega)]
  rw [e] at h; exact h
 ·have e:maxI a.x2 b.x2=a.x2:=by rw [ltI_f] at *; unfold maxI; rw [if_neg (by omega)]
  rw [e] at h; exact h
theorem refMax1 {o:V8} (h:refMaxEnd a b { o with x1:=maxI a.x1 b.x1,x2:=maxI a.x2 b.x2,x3:=maxI a.x3 b.x3,x4:=maxI a.x4 b.x4,x5:=maxI a.x5 b.x5,x6:=maxI a.x6 b.x6,x7:=maxI a.x7 b.x7 } K):refMaxAt X a b o 1 K:=by
 refine loop_intro hX ?_
 repeat' ((conv=>whnf); first | refine ⟨by kernel_rfl,?_⟩ | refine eqv_id ?_ | refine Two.l ?_ | refine bc (fun _=>?_) (fun _=>?_) | refine refMax2 hX (o:={ o with x1:=b.x1 }) ?_ | refine refMax2 hX (o:={ o with x1:=a.x1 }) ?_)
 ·have e:maxI a.x1 b.x1=b.x1:=by rw [ltI_t] at *; unfold maxI; rw [if_pos (by omega)]
  rw [e] at h; exact h
 ·have e:maxI a.x1 b.x1=a.x1:=by rw [ltI_f] at *; unfold maxI; rw [if_neg (by omega)]
  rw [e] at h; exact h
theorem refMax0 {o:V8} (h:refMaxEnd a b { o with x0:=maxI a.x0 b.x0,x1:=maxI a.x1 b.x1,x2:=maxI a.x2 b.x2,x3:=maxI a.x3 b.x3,x4:=maxI a.x4 b.x4,x5:=maxI a.x5 b.x5,x6:=maxI a.x6 b.x6,x7:=maxI a.x7 b.x7 } K):refMaxAt X a b o 0 K:=by
 refine loop_intro hX ?_
 repeat' ((conv=>whnf); first | refine ⟨by kernel_rfl,?_⟩ | refine eqv_id ?_ | refine Two.l ?_ | refine bc (fun _=>?_) (fun _=>?_) | refine refMax1 hX (o:={ o with x0:=b.x0 }) ?_ | refine refMax1 hX (o:={ o with x0:=a.x0 }) ?_)
 ·have e:maxI a.x0 b.x0=b.x0:=by rw [ltI_t] at *; unfold maxI; rw [if_pos (by omega)]
  rw [e] at h; exact h
 ·have e:maxI a.x0 b.x0=a.x0:=by rw [ltI_f] at *; unfold maxI; rw [if_neg (by omega)]
  rw [e] at h; exact h
theorem refMax_ok {Q:A→List Blk→Prop} (hQ:Q (maxV a b).a []):X (.call 191 [a.a,b.a] [] Q):=by
 refine call_intro hX Tryz.func191 rfl rfl ?_
 (conv=>whnf)
 refine refMax0 hX (o:=⟨0,0,0,0,0,0,0,0⟩) ?_
 exact hQ
end
end Go.Proofs.YtidkmoohgadjkaaGreat
namespace Go.Proofs.YtidkmoohgadjkaaGreat
open Go E
abbrev V8.row (v:V8):List PC:=[ip v.x0,ip v.x1,ip v.x2,ip v.x3,ip v.x4,ip v.x5,ip v.x6,ip v.x7]
structure Ver where
 r:Int
 c:Int
abbrev Ver.row (v:Ver):List PC:=[ip v.r,ip v.c]
structure Frag where
 ids:List ByteArray
 vec:V8
abbrev Frag.row (x:Frag):List PC:=[.sl (x.ids.map srw),ip x.vec.x0,ip x.vec.x1,ip x.vec.x2,ip x.vec.x3,ip x.vec.x4,ip x.vec.x5,ip x.vec.x6,ip x.vec.x7]
structure Know where
 star:V8
 l:List Frag
abbrev Know.row (x:Know):List PC:=[ip x.star.x0,ip x.star.x1,ip x.star.x2,ip x.star.x3,ip x.star.x4,ip x.star.x5,ip x.star.x6,ip x.star.x7,.sl (x.l.map Frag.row)]
structure Has where
 id:ByteArray
 vr:Int
 vc:Int
 stamp:Int
abbrev Has.row (x:Has):List PC:=[.v (.string x.id),ip x.vr,ip x.vc,ip x.stamp]
structure Entry where
 item:Item
 goes:Bool
 nr:Int
 nc:Int
abbrev Entry.row (x:Entry):List PC:=[.v (.string x.item.id),ip x.item.vr,ip x.item.vc,ip x.item.stamp,.v (.string x.item.kind),ip x.item.num,.v (.complex .f64 x.item.re x.item.im),.v (.bool x.item.dead),.v (.bool x.goes),ip x.nr,ip x.nc]
structure State where
 r:Int
 f:Pred
 store:List Item
 out:List Item
 k:Know
 count:Int
 clock:Int
 epoch:Int
structure Msg where
 kind:Int
 src:Int
 dst:Int
 sid:Int
 turn:Int
 f:Pred
 k:Know
 have_:List Has
 n:Int
 l:List Entry
 star:Bool
structure Sess where
 sid:Int
 with_:Int
 epoch:Int
 turn:Int
 got:List Int
 bad:Bool
 told:Bool
 over:Bool
 n:Int
 k:Know
 l:List Entry
structure Sit where
 r:Int
 f:Pred
 store:List Item
 out:List Item
 k:Know
 count:Int
 clock:Int
 epoch:Int
structure Line where
 item:Item
 goes:Bool
 r:Int
 c:Int
abbrev Line.row (x:Line):List PC:=[.v (.string x.item.id),ip x.item.vr,ip x.item.vc,ip x.item.stamp,.v (.string x.item.kind),ip x.item.num,.v (.float .f64 x.item.re),.v (.float .f64 x.item.im),.v (.bool x.item.dead),.v (.bool x.goes),ip x.r,ip x.c]
structure Note where
 kind:Int
 src:Int
 dst:Int
 sid:Int
 turn:Int
 f:Pred
 k:Know
 have_:List Has
 n:Int
 l:List Line
 star:Bool
abbrev V8.cs (v:V8):List C:=[ic v.x0,ic v.x1,ic v.x2,ic v.x3,ic v.x4,ic v.x5,ic v.x6,ic v.x7]
abbrev Ver.cs (v:Ver):List C:=[ic v.r,ic v.c]
abbrev Frag.cs (x:Frag):List C:=[.p (.sl (x.ids.map srw)),ic x.vec.x0,ic x.vec.x1,ic x.vec.x2,ic x.vec.x3,ic x.vec.x4,ic x.vec.x5,ic x.vec.x6,ic x.vec.x7]
abbrev Know.cs (x:Know):List C:=[ic x.star.x0,ic x.star.x1,ic x.star.x2,ic x.star.x3,ic x.star.x4,ic x.star.x5,ic x.star.x6,ic x.star.x7,.p (.sl (x.l.map Frag.row))]
abbrev Has.cs (x:Has):List C:=[.p (.v (.string x.id)),ic x.vr,ic x.vc,ic x.stamp]
abbrev Entry.cs (x:Entry):List C:=[.p (.v (.string x.item.id)),ic x.item.vr,ic x.item.vc,ic x.item.stamp,.p (.v (.string x.item.kind)),ic x.item.num,.p (.v (.complex .f64 x.item.re x.item.im)),.p (.v (.bool x.item.dead)),.p (.v (.bool x.goes)),ic x.nr,ic x.nc]
abbrev State.cs (x:State):List C:=[ic x.r,ic x.f.op,.p (.v (.string x.f.text)),ic x.f.n,.p (.v (.complex .f64 x.f.re x.f.im)),.p (.sl (Pred.rows x.f.kids)),.p (.sl (x.store.map Item.row)),.p (.sl (x.out.map Item.row)),
 ic x.k.star.x0,ic x.k.star.x1,ic x.k.star.x2,ic x.k.star.x3,ic x.k.star.x4,ic x.k.star.x5,ic x.k.star.x6,ic x.k.star.x7,.p (.sl (x.k.l.map Frag.row)),ic x.count,ic x.clock,ic x.epoch]
abbrev Msg.cs (x:Msg):List C:=[ic x.kind,ic x.src,ic x.dst,ic x.sid,ic x.turn,ic x.f.op,.p (.v (.string x.f.text)),ic x.f.n,.p (.v (.complex .f64 x.f.re x.f.im)),.p (.sl (Pred.rows x.f.kids)),
 ic x.k.star.x0,ic x.k.star.x1,ic x.k.star.x2,ic x.k.star.x3,ic x.k.star.x4,ic x.k.star.x5,ic x.k.star.x6,ic x.k.star.x7,.p (.sl (x.k.l.map Frag.row)),.p (.sl (x.have_.map Has.row)),ic x.n,.p (.sl (x.l.map Entry.row)),.p (.v (.bool x.star))]
abbrev Sess.cs (x:Sess):List C:=[ic x.sid,ic x.with_,ic x.epoch,ic x.turn,.p (.sl (x.got.map irw)),.p (.v (.bool x.bad)),.p (.v (.bool x.told)),.p (.v (.bool x.over)),ic x.n,
 ic x.k.star.x0,ic x.k.star.x1,ic x.k.star.x2,ic x.k.star.x3,ic x.k.star.x4,ic x.k.star.x5,ic x.k.star.x6,ic x.k.star.x7,.p (.sl (x.k.l.map Frag.row)),.p (.sl (x.l.map Entry.row))]
structure Deed9 where
 what:Int
 id:ByteArray
 kind:ByteArray
 num:Int
 re:Nat
 im:Nat
 f:Pred
abbrev Deed9.row (x:Deed9):List PC:=[ip x.what,.v (.string x.id),.v (.string x.kind),ip x.num,.v (.float .f64 x.re),.v (.float .f64 x.im),ip x.f.op,.v (.string x.f.text),ip x.f.n,.v (.float .f64 x.f.re),.v (.float .f64 x.f.im),.sl (Pred.lrows x.f.kids)]
structure Deed10 where
 what:Int
 n:Int
 x:Item
 old:Ver
 new:Ver
 d:Deed9
abbrev Deed10.row (y:Deed10):List PC:=[ip y.what,ip y.n,.v (.string y.x.id),ip y.x.vr,ip y.x.vc,ip y.x.stamp,.v (.string y.x.kind),ip y.x.num,.v (.float .f64 y.x.re),.v (.float .f64 y.x.im),.v (.bool y.x.dead),ip y.old.r,ip y.old.c,ip y.new.r,ip y.new.c,
 ip y.d.what,.v (.string y.d.id),.v (.string y.d.kind),ip y.d.num,.v (.float .f64 y.d.re),.v (.float .f64 y.d.im),ip y.d.f.op,.v (.string y.d.f.text),ip y.d.f.n,.v (.float .f64 y.d.f.re),.v (.float .f64 y.d.f.im),.sl (Pred.lrows y.d.f.kids)]
structure Talk where
 sid:Int
 with_:Int
 epoch:Int
 turn:Int
 got:List Int
 bad:Bool
 told:Bool
 over:Bool
 n:Int
 k:Know
 l:List Line
namespace Msg
abbrev row (x:Msg):List PC:=[ip x.kind,ip x.src,ip x.dst,ip x.sid,ip x.turn,ip x.f.op,.v (.string x.f.text),ip x.f.n,.v (.complex .f64 x.f.re x.f.im),.sl (Pred.rows x.f.kids),
 ip x.k.star.x0,ip x.k.star.x1,ip x.k.star.x2,ip x.k.star.x3,ip x.k.star.x4,ip x.k.star.x5,ip x.k.star.x6,ip x.k.star.x7,.sl (x.k.l.map Frag.row),.sl (x.have_.map Has.row),ip x.n,.sl (x.l.map Entry.row),.v (.bool x.star)]
end Msg
namespace Pred
theorem pmap_len (l:List Pred):lenL (rows l)=(l.length:Int):=len_rows l
theorem pat_in {l:List Pred} {j:Int} {x:Pred} (h:atL l j=some x):lenB (rows l) j=true:=by rw [rows_eq]; exact at_in h
theorem pat_row {l:List Pred} {j:Int} {x:Pred} (h:atL l j=some x):E.rowAt (rows l) j=[ip x.op,.v (.string x.text),ip x.n,.v (.complex .f64 x.re x.im),.sl (rows x.kids)]:=by rw [rows_eq,at_row h,row_eq]
theorem one_rows (x:Pred):rows [x]=[[ip x.op,.v (.string x.text),ip x.n,.v (.complex .f64 x.re x.im),.sl (rows x.kids)]]:=by rw [rows_eq,List.map_cons,row_eq]; rfl
theorem pcat_one (l:List Pred) (x:Pred):catL (rows l) [[ip x.op,.v (.string x.text),ip x.n,.v (.complex .f64 x.re x.im),.sl (rows x.kids)]]=rows (l++[x]):=by rw [←one_rows,rows_eq,rows_eq,rows_eq]; exact cat_map l [x]
theorem proom_map {l:List Pred} {news:List (List PC)} {m b sz k:Nat} (c:roomL l.length m=true) (hn:news.length=m) (hb:Nat.ble b 100000000=true) (h2:rowsOk news sz=true) (h3:(Nat.beq k sz || Nat.beq k 0)=true):(roomFor (rows l) news b&&rowsOk news sz&&(Nat.beq k sz || Nat.beq k 0))=true:=by rw [rows_eq]; exact room_map c hn hb h2 h3
end Pred
end Go.Proofs.YtidkmoohgadjkaaGreat
set_option maxHeartbeats 4000000
namespace Go.Proofs.YtidkmoohgadjkaaGreat
open Go E Pred
def nearP (x y:Nat) (n:Int):Bool:=placeB x y&&(leI 0 n&&leI n 8000000)
def partB (o:Int) (t:ByteArray) (n:Int) (x y:Nat) (ks:List Pred):Bool :=
 if o=1∨o=2 then ((eqS t ⟨#[]⟩&&(eqI n 0&&(eqFl .f64 x 0&&eqFl .f64 y 0)))&&eqI (lenL (rows ks)) 0)
 else if o=3∨o=4 then (lettersB t 0&&(eqI n 0&&((eqFl .f64 x 0&&eqFl .f64 y 0)&&eqI (lenL (rows ks)) 0)))
 else if o=5∨o=6 then (eqS t ⟨#[]⟩&&(leI (-1000000) n&&(leI n 1000000&&((eqFl .f64 x 0&&eqFl .f64 y 0)&&eqI (lenL (rows ks)) 0))))
 else if o=7 then (eqS t ⟨#[]⟩&&(nearP x y n&&eqI (lenL (rows ks)) 0))
 else if o=8∨o=9 then (eqS t ⟨#[]⟩&&(eqI n 0&&(eqFl .f64 x 0&&eqFl .f64 y 0)))
 else if o=10 then ((eqS t ⟨#[]⟩&&(eqI n 0&&(eqFl .f64 x 0&&eqFl .f64 y 0)))&&eqI (lenL (rows ks)) 1)
 else false
theorem r10 (o:Int):o=1∨o=2∨o=3∨o=4∨o=5∨o=6∨o=7∨o=8∨o=9∨o=10∨(o≠1∧o≠2∧o≠3∧o≠4∧o≠5∧o≠6∧o≠7∧o≠8∧o≠9∧o≠10):=by omega
abbrev prow (o:Int) (t:ByteArray) (n:Int) (x y:Nat) (ks:List Pred):A:=.agg [ic o,.p (.v (.string t)),ic n,.p (.v (.complex .f64 x y)),.p (.sl (rows ks))]
def zeroB (t:ByteArray) (n:Int) (x y:Nat) (ks:List Pred) (bt bn ba bk:Bool):Bool:=(bt || eqS t ⟨#[]⟩)&&((bn || eqI n 0)&&((bk || !ltI 0 (lenL (rows ks)))&&(ba || (eqFl .f64 x 0&&eqFl .f64 y 0))))
theorem zero_ok {X:Task→Prop} (hX:Closed X) {o:Int} {t:ByteArray} {n:Int} {x y:Nat} {ks:List Pred} {bt bn ba bk:Bool} {Q:A→List Blk→Prop} (hQ:Q (bv (zeroB t n x y ks bt bn ba bk)) []):X (.call 204 [prow o t n x y ks,bv bt,bv bn,bv ba,bv bk] [] Q):=by
 refine call_intro hX Tryz.func204 rfl rfl ?_
 repeat' ((conv=>whnf); first | exact hQ | refine eqv_id ?_ | refine Two.l ?_ | refine ⟨by kernel_rfl,?_⟩ | refine bct (by assumption) ?_ | refine bcf (by assumption) ?_ | refine bcf (nt (by assumption)) ?_ | refine bct (nf (by assumption)) ?_ | (refine Qb hQ ?_; unfold zeroB; simp_all; done) | refine bc (fun _=>?_) (fun _=>?_))
def condB (o:Int) (t:ByteArray) (n:Int) (x y:Nat) (ks:List Pred):Bool :=
 if o=1∨o=2 then zeroB t n x y ks false false false false
 else if o=3∨o=4 then zeroB t n x y ks true false false false&&lettersB t 0
 else if o=5∨o=6 then zeroB t n x y ks false true false false&&(leI (-1000000) n&&leI n 1000000)
 else if o=7 then zeroB t n x y ks false true true false&&(placeB x y&&(leI 0 n&&leI n 8000000))
 else if o=8∨o=9 then zeroB t n x y ks false false false true
 else if o=10 then zeroB t n x y ks false false false true&&eqI (lenL (rows ks)) 1
 else false
theorem len0 (ks:List Pred):(!ltI 0 (lenL (rows ks)))=eqI (lenL (rows ks)) 0:=by
 rw [len_rows]
 cases h:eqI (ks.length:Int) 0 with
 | true=>rw [eqI_t] at h; rw [ltI_f.2 (by omega)]; rfl
 | false=>rw [eqI_f] at h; rw [ltI_t.2 (by omega)]; rfl
theorem cond_eq (o:Int) (t:ByteArray) (n:Int) (x y:Nat) (ks:List Pred):condB o t n x y ks=partB o t n x y ks:=by
 unfold condB partB zeroB nearP
 rw [len0]
 rcases r10 o with rfl | rfl | rfl | rfl | rfl | rfl | rfl | rfl | rfl | rfl | ⟨n1,n2,n3,n4,n5,n6,n7,n8,n9,n10⟩
 rotate_right
 ·simp [*]
 all_goals
  first | (simp only [Int.reduceEq,or_true,true_or,or_false,false_or,if_true,if_false,Bool.true_or,Bool.false_or,Bool.true_and,Bool.and_true]; done) | skip
  try simp only [Int.reduceEq,or_true,true_or,or_false,false_or,if_true,if_false,Bool.true_or,Bool.false_or,Bool.true_and,Bool.and_true]
  try cases eqS t ⟨#[]⟩<;>cases eqI n 0<;>cases eqI (lenL (rows ks)) 0<;>cases (eqFl .f64 x 0&&eqFl .f64 y 0)<;>simp
mutual
def fitsP:Pred→Bool
 | .mk o t n x y ks=>partB o t n x y ks&&fitsL ks
def fitsL:List Pred→Bool
 | []=>true
 | k::ks=>fitsP k&&fitsL ks
end
theorem fitsP_eq (p:Pred):fitsP p=(partB p.op p.text p.n p.re p.im p.kids&&fitsL p.kids):=by cases p; rw [fitsP]; rfl
theorem fitsL_nil:fitsL []=true:=by rw [fitsL]
theorem fitsL_app (l m:List Pred):fitsL (l++m)=(fitsL l&&fitsL m):=by
 induction l with
 | nil=>rw [fitsL_nil]; simp
 | cons a l ih=>rw [List.cons_append,fitsL,fitsL,ih,Bool.and_assoc]
theorem fitsL_take {l:List Pred} {j:Nat} (h:j < l.length):fitsL (l.take (j + 1))=(fitsL (l.take j)&&fitsP l[j]):=by
 rw [List.take_succ_eq_append_getElem h,fitsL_app]
 congr 1
 rw [fitsL,fitsL_nil,Bool.and_true]
attribute [irreducible] partB zeroB condB nearP fitsP fitsL
theorem fits_ok {X:Task→Prop} (hX:Closed X):∀ (N:Nat) {p:Pred} {Q:A→List Blk→Prop},p.size≤N→p.Ok→Q (bv (fitsP p)) []→X (.call 152 [p.a] [] Q)
 | 0,p,_,h,_,_=>absurd h (by have:=size_pos p; omega)
 | N + 1,p,Q,h,ok,hQ=>by
  have ht:=ok.text
  have hln:=ok.len
  have hk:=fun (j:Nat) (hj:j < p.kids.length)=>size_kid hj
  have hok:=fun (j:Nat) (hj:j < p.kids.length)=>ok.kid hj
  have hf:=fitsP_eq p
  rw [←cond_eq] at hf
  refine call_intro hX Tryz.func152 rfl rfl ?_
  rw [hf] at hQ
  clear hf ok
  simp only [Pred.a,Pred.cs]
  generalize p.op=o at *
  generalize p.text=t at *
  generalize p.n=n at *
  generalize p.re=x at *
  generalize p.im=y at *
  generalize p.kids=ks at *
  refine merge (G:=∀ b:Bool,b=condB o t n x y ks→X (.rest 152 0 ?c (pad [(1,.one (.ptr 0 0)),(1,bv b)] 90) [.box [ic o,.p (.v (.string t)),ic n,.p (.v (.complex .f64 x y)),.p (.sl (rows ks))]] ?K)) (fun tail=>?_) ?_
  rotate_left 2
  ·rcases r10 o with rfl | rfl | rfl | rfl | rfl | rfl | rfl | rfl | rfl | rfl | ⟨n1,n2,n3,n4,n5,n6,n7,n8,n9,n10⟩
   rotate_right
   ·have e1:eqI o 1=false:=eqI_f.2 n1
    have e2:eqI o 2=false:=eqI_f.2 n2
    have e3:eqI o 3=false:=eqI_f.2 n3
    have e4:eqI o 4=false:=eqI_f.2 n4
    have e5:eqI o 5=false:=eqI_f.2 n5
    have e6:eqI o 6=false:=eqI_f.2 n6
    have e7:eqI o 7=false:=eqI_f.2 n7
    have e8:eqI o 8=false:=eqI_f.2 n8
    have e9:eqI o 9=false:=eqI_f.2 n9
    have e10:eqI o 10=false:=eqI_f.2 n10
    repeat' ((conv=>whnf); first | exact hQ | refine eqv_id ?_ | refine Two.l ?_ | refine ⟨by kernel_rfl,?_⟩ | refine bct (by assumption) ?_ | refine bcf (by assumption) ?_ | refine bcf (nt (by assumption)) ?_ | refine bct (nf (by assumption)) ?_ | (refine tail.h _ ?_; unfold condB; simp [*]; done) | refine rtext_ok hX ht ?_ | refine ref_place_ok hX ?_ | refine zero_ok hX ?_ | refine bc (fun _=>?_) (fun _=>?_))
   all_goals
    repeat' ((conv=>whnf); first | exact hQ | refine eqv_id ?_ | refine Two.l ?_ | refine ⟨by kernel_rfl,?_⟩ | refine bct (by assumption) ?_ | refine bcf (by assumption) ?_ | refine bcf (nt (by assumption)) ?_ | refine bct (nf (by assumption)) ?_ | (refine tail.h _ ?_; unfold condB; simp [*]; done) | (refine tail.h _ ?_; unfold condB; simp_all; done) | refine rtext_ok hX ht ?_ | refine ref_place_ok hX ?_ | refine zero_ok hX ?_ | refine bc (fun _=>?_) (fun _=>?_))
  ·intro b hb
   refine rest_intro hX ?_
   repeat' ((conv=>whnf); first | exact hQ | refine eqv_id ?_ | refine Two.l ?_ | refine ⟨by kernel_rfl,?_⟩ | refine bct (by assumption) ?_ | refine bcf (by assumption) ?_ | refine bcf (nt (by assumption)) ?_ | refine bct (nf (by assumption)) ?_)
   refine range_loop (fun j (b:Bool)=>pad [(1,.one (.ptr 0 0)),(1,bv b),(2,iv (j:Int))] 87) (fun _ _=>[.box [ic o,.p (.v (.string t)),ic n,.p (.v (.complex .f64 x y)),.p (.sl (rows ks))]]) (fun j b=>b=(condB o t n x y ks&&fitsL (ks.take j))) ks.length (fun j b hj hI ih=>?_) (fun b hI=>?_) b (by rw [List.take_zero,fitsL_nil,Bool.and_true]; exact hb)
   ·have q1:ltI (j:Int) (lenL (rows ks))=true:=by rw [len_rows,ltI_t]; omega
    have q2:=lenB_rows hj
    have hk:=hk j hj
    have ht:=fitsL_take hj
    refine loop_intro hX ?_
    cases b with
    | true=>repeat' ((conv=>whnf); first | exact hQ | refine eqv_id ?_ | refine Two.l ?_ | refine ⟨by kernel_rfl,?_⟩ | refine bct (by assumption) ?_ | refine bcf (by assumption) ?_ | refine bcf (nt (by assumption)) ?_ | refine bct (nf (by assumption)) ?_ | (rw [at_rows hj]) | refine fits_ok hX N (p:=ks[j]) (by omega) (hok j hj) ?_ | (rw [wrS (by omega)]; exact ih _ (by rw [ht,←Bool.and_assoc,←hI]; rfl)))
    | false=>repeat' ((conv=>whnf); first | exact hQ | refine eqv_id ?_ | refine Two.l ?_ | refine ⟨by kernel_rfl,?_⟩ | refine bct (by assumption) ?_ | refine bcf (by assumption) ?_ | refine bcf (nt (by assumption)) ?_ | refine bct (nf (by assumption)) ?_ | (rw [at_rows hj]) | refine fits_ok hX N (p:=ks[j]) (by omega) (hok j hj) ?_ | (rw [wrS (by omega)]; exact ih _ (by rw [ht,←Bool.and_assoc,←hI]; rfl)))
   ·have q1:ltI (ks.length:Int) (lenL (rows ks))=false:=by rw [len_rows,ltI_f]; omega
    rw [List.take_length] at hI
    refine loop_intro hX ?_
    repeat' ((conv=>whnf); first | exact hQ | refine eqv_id ?_ | refine Two.l ?_ | refine ⟨by kernel_rfl,?_⟩ | refine bct (by assumption) ?_ | refine bcf (by assumption) ?_ | refine bcf (nt (by assumption)) ?_ | refine bct (nf (by assumption)) ?_ | (exact Qb hQ hI.symm))
def mayP (p:Pred):Bool:=decide (p.size≤30)&&(decide (p.depth≤6)&&fitsP p)
theorem rmay_pred_ok {X:Task→Prop} (hX:Closed X) {p:Pred} {Q:A→List Blk→Prop} (hs:p.size≤1000) (ok:p.Ok) (hQ:Q (bv (mayP p)) []):X (.call 76 [p.a] [] Q):=by
 refine call_intro hX Tryz.func76 rfl rfl ?_
 have e1:leI (p.size:Int) 30=decide (p.size≤30):=by unfold leI; exact decide_eq_decide.2 (by omega)
 have e2:leI (p.depth:Int) 6=decide (p.depth≤6):=by unfold leI; exact decide_eq_decide.2 (by omega)
 repeat' ((conv=>whnf); first | exact hQ | refine eqv_id ?_ | refine Two.l ?_ | refine ⟨by kernel_rfl,?_⟩ | refine bct (by assumption) ?_ | refine bcf (by assumption) ?_ | refine bcf (nt (by assumption)) ?_ | refine bct (nf (by assumption)) ?_ | (refine Qb hQ ?_; unfold mayP; rw [←e1,←e2]; simp_all; done) | refine rsize_ok hX p.size (Nat.le_refl _) hs ?_ | refine rdepth_ok hX p.size (Nat.le_refl _) hs ?_ | refine fits_ok hX p.size (Nat.le_refl _) ok ?_ | refine bc (fun _=>?_) (fun _=>?_))
attribute [irreducible] mayP
end Go.Proofs.YtidkmoohgadjkaaGreat
set_option maxHeartbeats 4000000
namespace Go.Proofs.YtidkmoohgadjkaaGreat
open Go E Pred
abbrev pagg (o:Int) (t:ByteArray) (n:Int) (x y:Nat) (r:List (List PC)):A:=.agg [ic o,.p (.v (.string t)),ic n,.p (.v (.complex .f64 x y)),.p (.sl r)]
section
variable {X:Task→Prop} (hX:Closed X) {o:Int} {t:ByteArray} {n:Int} {x y:Nat} {r:List (List PC)} {Q:A→List Blk→Prop}
include hX
end
theorem mk_size (o:Int) (t:ByteArray) (n:Int) (x y:Nat) (ks:List Pred):(Pred.mk o t n x y ks).size=sizes ks + 1:=size_eq _
theorem eqFl_self {x y:Nat} (h:eqFl .f64 x y=true):eqFl .f64 x x=true:=by
 have h':(Ieee.Datum.order (Ieee.double.read x) (Ieee.double.read y) == some .eq)=true:=h
 show (Ieee.Datum.order (Ieee.double.read x) (Ieee.double.read x) == some .eq)=true
 cases hx:Ieee.double.read x with
 | nan s f=>rw [hx] at h'; cases h'
 | infinity s=>cases s<;>rfl
 | number s m i=>rw [order_num]; simp
theorem part_self {o:Int} {t:ByteArray} {n:Int} {x y:Nat} {ks:List Pred} (h:partB o t n x y ks=true):(eqFl .f64 x x&&eqFl .f64 y y)=true:=by
 have key:(eqFl .f64 x 0&&eqFl .f64 y 0)=true∨placeB x y=true:=by
  unfold partB nearP at h
  rcases r10 o with rfl | rfl | rfl | rfl | rfl | rfl | rfl | rfl | rfl | rfl | ⟨n1,n2,n3,n4,n5,n6,n7,n8,n9,n10⟩
  rotate_right
  ·simp [*] at h
  all_goals
   simp at h
   simp [h]
 rcases key with h | h
 ·rw [Bool.and_eq_true] at h ⊢
  exact ⟨eqFl_self h.1,eqFl_self h.2⟩
 ·obtain ⟨⟨w1,_⟩,⟨w2,_⟩⟩:=placeB_ok h
  rw [w1.self,w2.self]; rfl
theorem sameL_refl:∀ (N:Nat) {l:List Pred},sizes l≤N→fitsL l=true→sameL l l=true
 | _,[],_,_=>by rw [sameL]
 | 0,k::ks,h,_=>absurd h (by rw [Pred.sizes]; have:=size_pos k; omega)
 | N + 1,k::ks,h,hs=>by
  rw [Pred.sizes] at h
  rw [fitsL,Bool.and_eq_true] at hs
  have hk:=size_eq k
  have hf:=hs.1
  rw [fitsP_eq,Bool.and_eq_true] at hf
  have h1:=sameL_refl N (l:=k.kids) (by omega) hf.2
  have h2:=sameL_refl N (l:=ks) (by omega) hs.2
  rw [sameL,h2,sameP_eq,h1,part_self hf.1,eqS_refl]
  simp [eqI]
theorem sameP_refl {p:Pred} (h:fitsP p=true):sameP p p=true:=by
 rw [fitsP_eq,Bool.and_eq_true] at h
 rw [sameP_eq,sameL_refl _ (Nat.le_refl _) h.2,part_self h.1,eqS_refl]
 simp [eqI]
theorem mayP_iff {p:Pred}:mayP p=true↔p.size≤30∧p.depth≤6∧fitsP p=true:=by
 unfold mayP; simp only [Bool.and_eq_true,decide_eq_true_eq]
end Go.Proofs.YtidkmoohgadjkaaGreat
set_option maxHeartbeats 4000000
namespace Go.Proofs.YtidkmoohgadjkaaGreat
open Go E Pred
def prefB (s t:ByteArray):Bool:=(bytesOf t).isPrefixOf (bytesOf s)
theorem bytes_sub (s:ByteArray) (n:Nat):bytesOf (subS s 0 n)=(bytesOf s).take n:=by
 unfold bytesOf subS
 rw [ByteArray.data_extract,Array.toList_extract]
 simp
theorem eqS_iff (s t:ByteArray):eqS s t=true↔bytesOf s=bytesOf t:=by unfold eqS bytesOf; exact beq_iff_eq
theorem pref_eq (s t:ByteArray):prefB s t=(leI (lenS t) (lenS s)&&eqS (subS s 0 t.size) t):=by
 unfold prefB
 rw [Bool.eq_iff_iff,Bool.and_eq_true,eqS_iff,bytes_sub,List.isPrefixOf_iff_prefix,leI_t,lenS_def,lenS_def,←bytes_len,←bytes_len]
 constructor
 ·intro h; exact ⟨by have:=h.length_le; omega,(List.prefix_iff_eq_take.1 h).symm⟩
 ·intro h; exact List.prefix_iff_eq_take.2 h.2.symm
theorem slite_ok {X:Task→Prop} (hX:Closed X) {s t:ByteArray} {Q:A→List Blk→Prop} (hQ:Q (bv (prefB s t)) []):X (.call 193 [sv s,sv t] [] Q):=by
 have hp:=pref_eq s t
 refine call_intro hX Tryz.func193 rfl rfl ?_
 cases h1:leI (lenS t) (lenS s) with
 | false=>repeat' ((conv=>whnf); first | exact hQ | refine eqv_id ?_ | refine Two.l ?_ | refine ⟨by kernel_rfl,?_⟩ | refine bct (by assumption) ?_ | refine bcf (by assumption) ?_ | refine bcf (nt (by assumption)) ?_ | refine bct (nf (by assumption)) ?_ | (exact Qb hQ (by rw [hp,h1]; rfl)))
 | true =>
  rw [h1,Bool.true_and] at hp
  have q1:(inC (lenS t) s.size&&leI 0 0&&leI 0 (lenS t))=true:=by
   rw [leI_t,lenS_def,lenS_def] at h1
   have e1:inC (lenS t) s.size=true:=by unfold inC; rw [decide_eq_true_eq,lenS_def]; omega
   have e2:leI 0 (lenS t)=true:=by rw [leI_t,lenS_def]; omega
   rw [e1,e2]; rfl
  repeat' ((conv=>whnf); first | exact hQ | refine eqv_id ?_ | refine Two.l ?_ | refine ⟨by kernel_rfl,?_⟩ | refine bct (by assumption) ?_ | refine bcf (by assumption) ?_ | refine bcf (nt (by assumption)) ?_ | refine bct (nf (by assumption)) ?_ | (exact Qb hQ (by rw [hp]; rfl)))
theorem hasPrefix_ok {X:Task→Prop} (hX:Closed X) {s t:ByteArray} {Q:A→List Blk→Prop} (hQ:Q (bv (prefB s t)) []):X (.call 139 [sv s,sv t] [] Q):=by
 refine call_intro hX Tryz.func139 rfl rfl ?_
 repeat' ((conv=>whnf); first | exact hQ | refine eqv_id ?_ | refine Two.l ?_ | refine ⟨by kernel_rfl,?_⟩ | refine bct (by assumption) ?_ | refine bcf (by assumption) ?_ | refine bcf (nt (by assumption)) ?_ | refine bct (nf (by assumption)) ?_ | refine slite_ok hX ?_)
theorem pref_take {a b:List UInt8} {j:Nat} (hj:j < b.length) (h:b.take j=a.take j) (ha:j < a.length) (he:a[j]=b[j]):b.take (j + 1)=a.take (j + 1):=by
 rw [List.take_succ_eq_append_getElem hj,List.take_succ_eq_append_getElem ha,h,he]
theorem begins_ok {X:Task→Prop} (hX:Closed X) {s t:ByteArray} {Q:A→List Blk→Prop} (ht:t.size≤9223372036854775807) (hQ:Q (bv (prefB s t)) []):X (.call 90 [sv s,sv t] [] Q):=by
 refine call_intro hX Tryz.func90 rfl rfl ?_
 repeat' ((conv=>whnf); first | exact hQ | refine eqv_id ?_ | refine Two.l ?_ | refine ⟨by kernel_rfl,?_⟩ | refine bct (by assumption) ?_ | refine bcf (by assumption) ?_ | refine bcf (nt (by assumption)) ?_ | refine bct (nf (by assumption)) ?_)
 have hlt:=bytes_len t
 refine range_loop (fun j (_:Unit)=>pad [(0,sv s),(0,sv t),(3,iv (j:Int))] 19) (fun _ _=>[]) (fun j _=>(bytesOf t).take j=(bytesOf s).take j) (bytesOf t).length (fun j st hj hI ih=>?_) (fun st hI=>?_) () rfl
 ·have q1:ltI (j:Int) (lenS t)=true:=by rw [len_bytes,ltI_t]; omega
  have q2:=inB_j hj
  have q3:=atS_eq hj
  have hbad:¬ ((bytesOf t).take (j + 1)=(bytesOf s).take (j + 1))→prefB s t=false:=fun h=>by
   cases hp:prefB s t with
   | false=>rfl
   | true =>
    unfold prefB at hp
    rw [List.isPrefixOf_iff_prefix] at hp
    obtain ⟨r,hr⟩:=hp
    exact absurd (by rw [←hr,List.take_append_of_le_length (by omega)]) h
  refine loop_intro hX ?_
  by_cases hs:j < (bytesOf s).length
  ·have q4:leI (lenS s) (j:Int)=false:=by rw [len_bytes,leI_f]; omega
   have q5:=inB_j hs
   have q6:=atS_eq hs
   by_cases he:(bytesOf s)[j]=(bytesOf t)[j]
   ·have q7:eqI (atS s (j:Int)) (atS t (j:Int))=true:=by rw [q3,q6,he,eqI_t]
    repeat' ((conv=>whnf); first | exact hQ | refine eqv_id ?_ | refine Two.l ?_ | refine ⟨by kernel_rfl,?_⟩ | refine bct (by assumption) ?_ | refine bcf (by assumption) ?_ | refine bcf (nt (by assumption)) ?_ | refine bct (nf (by assumption)) ?_ | (rw [wrS (by omega)]; exact ih () (pref_take hj hI hs he)))
   ·have q7:eqI (atS s (j:Int)) (atS t (j:Int))=false:=by
     rw [q3,q6,eqI_f]
     intro h
     exact he (UInt8.toNat.inj (by omega))
    have hb:=hbad fun h=>he (by
     rw [List.take_succ_eq_append_getElem hj,List.take_succ_eq_append_getElem hs] at h
     have:=List.append_inj_right h (by rw [List.length_take,List.length_take]; omega)
     simpa using this.symm)
    repeat' ((conv=>whnf); first | exact hQ | refine eqv_id ?_ | refine Two.l ?_ | refine ⟨by kernel_rfl,?_⟩ | refine bct (by assumption) ?_ | refine bcf (by assumption) ?_ | refine bcf (nt (by assumption)) ?_ | refine bct (nf (by assumption)) ?_ | (exact Qb hQ hb))
  ·have q4:leI (lenS s) (j:Int)=true:=by rw [len_bytes,leI_t]; omega
   have hb:=hbad fun h=>by
    have:=congrArg List.length h
    rw [List.length_take,List.length_take] at this
    omega
   repeat' ((conv=>whnf); first | exact hQ | refine eqv_id ?_ | refine Two.l ?_ | refine ⟨by kernel_rfl,?_⟩ | refine bct (by assumption) ?_ | refine bcf (by assumption) ?_ | refine bcf (nt (by assumption)) ?_ | refine bct (nf (by assumption)) ?_ | (exact Qb hQ hb))
 ·have q1:ltI ((bytesOf t).length:Int) (lenS t)=false:=by rw [len_bytes,ltI_f]; omega
  have hp:prefB s t=true:=by
   unfold prefB
   rw [List.isPrefixOf_iff_prefix,List.prefix_iff_eq_take]
   rw [List.take_length] at hI
   exact hI
  refine loop_intro hX ?_
  repeat' ((conv=>whnf); first | exact hQ | refine eqv_id ?_ | refine Two.l ?_ | refine ⟨by kernel_rfl,?_⟩ | refine bct (by assumption) ?_ | refine bcf (by assumption) ?_ | refine bcf (nt (by assumption)) ?_ | refine bct (nf (by assumption)) ?_ | (exact Qb hQ hp))
def idxP {α:Type} (p:α→Bool):List α→Nat→Int
 | [],_ => -1
 | a::l,i=>if p a then (i:Int) else idxP p l (i + 1)
theorem idxP_any {α:Type} (p:α→Bool):∀ (l:List α) (i:Nat),leI 0 (idxP p l i)=l.any p
 | [],i=>rfl
 | a::l,i=>by
  unfold idxP
  cases h:p a with
  | true=>rw [if_pos rfl,List.any_cons,h]; exact leI_t.2 (by omega)
  | false=>rw [if_neg (by simp),List.any_cons,h,idxP_any p l (i + 1)]; rfl
theorem idxP_at {α:Type} {p:α→Bool}:∀ {l:List α} {j:Nat} (h:j < l.length) (i:Nat),(∀ k (hk:k < j),p (l[k]'(by omega))=false)→p l[j]=true→idxP p l i=((i + j:Nat):Int)
 | a::l,0,h,i,_,hp=>by unfold idxP; rw [if_pos (by simpa using hp)]; rfl
 | a::l,j + 1,h,i,hk,hp=>by
  unfold idxP
  have h0:=hk 0 (by omega)
  simp only [List.getElem_cons_zero] at h0
  rw [if_neg (by rw [h0]; simp),idxP_at (l:=l) (j:=j) (by simpa using h) (i + 1) (fun k hk'=>by simpa using hk (k + 1) (by omega)) (by simpa using hp)]
  congr 1; omega
theorem idxP_none {α:Type} {p:α→Bool}:∀ {l:List α} (i:Nat),(∀ k (hk:k < l.length),p l[k]=false)→idxP p l i = -1
 | [],i,_=>rfl
 | a::l,i,h=>by
  unfold idxP
  have h0:=h 0 (by simp)
  simp only [List.getElem_cons_zero] at h0
  rw [if_neg (by rw [h0]; simp)]
  exact idxP_none (i + 1) fun k hk=>by
   have:=h (k + 1) (by simpa using hk)
   simp only [List.getElem_cons_succ] at this
   exact this
section
variable {X:Task→Prop} (hX:Closed X) {g:Nat} {cells:List PC} {ks:List Pred} {P:Pred→Bool} {Q:A→List Blk→Prop}
include hX
theorem indexFunc_ok (hln:ks.length≤9223372036854775807) (hg:∀ (j:Nat) (hj:j < ks.length) (Q':A→List Blk→Prop),Q' (bv (P ks[j])) []→X (.call g [ks[j].a,.one (.rp cells)] [] Q')) (hQ:Q (iv (idxP P ks 0)) []):X (.call 195 [sl (rows ks),.one (.pf g [cells])] [] Q):=by
 refine call_intro hX Tryz.func195 rfl rfl ?_
 repeat' ((conv=>whnf); first | exact hQ | refine eqv_id ?_ | refine Two.l ?_ | refine ⟨by kernel_rfl,?_⟩ | refine bct (by assumption) ?_ | refine bcf (by assumption) ?_ | refine bcf (nt (by assumption)) ?_ | refine bct (nf (by assumption)) ?_)
 refine range_loop (fun j (_:Unit)=>pad [(0,sl (rows ks)),(0,.one (.pf g [cells])),(5,iv (lenL (rows ks))),(0,iv (j:Int))] 10) (fun _ _=>[]) (fun j _=>∀ k (hk:k < ks.length),k < j→P ks[k]=false) ks.length (fun j st hj hI ih=>?_) (fun st hI=>?_) () (fun k hk h=>absurd h (Nat.not_lt_zero _))
 ·have q1:ltI (j:Int) (lenL (rows ks))=true:=by rw [len_rows,ltI_t]; omega
  have q2:=lenB_rows hj
  refine loop_intro hX ?_
  cases hP:P ks[j] with
  | true=>repeat' ((conv=>whnf); first | exact hQ | refine eqv_id ?_ | refine Two.l ?_ | refine ⟨by kernel_rfl,?_⟩ | refine bct (by assumption) ?_ | refine bcf (by assumption) ?_ | refine bcf (nt (by assumption)) ?_ | refine bct (nf (by assumption)) ?_ | (exact Qi hQ (by rw [idxP_at hj 0 (fun k hk=>hI k (by omega) hk) hP,Nat.zero_add])) | refine row_in (at_rows hj) ?_ | refine known bv (hg j hj) hP ?_)
  | false=>repeat' ((conv=>whnf); first | exact hQ | refine eqv_id ?_ | refine Two.l ?_ | refine ⟨by kernel_rfl,?_⟩ | refine bct (by assumption) ?_ | refine bcf (by assumption) ?_ | refine bcf (nt (by assumption)) ?_ | refine bct (nf (by assumption)) ?_ | refine row_in (at_rows hj) ?_ | refine known bv (hg j hj) hP ?_ | (rw [wrS (by omega)]; refine ih () (fun k hk hkj=>?_); rcases Nat.lt_succ_iff_lt_or_eq.1 hkj with h' | rfl; exact hI k hk h'; exact hP))
 ·have q1:ltI (ks.length:Int) (lenL (rows ks))=false:=by rw [len_rows,ltI_f]; omega
  refine loop_intro hX ?_
  repeat' ((conv=>whnf); first | exact hQ | refine eqv_id ?_ | refine Two.l ?_ | refine ⟨by kernel_rfl,?_⟩ | refine bct (by assumption) ?_ | refine bcf (by assumption) ?_ | refine bcf (nt (by assumption)) ?_ | refine bct (nf (by assumption)) ?_ | (exact Qi hQ (idxP_none 0 fun k hk=>hI k hk hk)))
theorem containsFunc_ok (hln:ks.length≤9223372036854775807) (hg:∀ (j:Nat) (hj:j < ks.length) (Q':A→List Blk→Prop),Q' (bv (P ks[j])) []→X (.call g [ks[j].a,.one (.rp cells)] [] Q')) (hQ:Q (bv (ks.any P)) []):X (.call 141 [sl (rows ks),.one (.pf g [cells])] [] Q):=by
 refine call_intro hX Tryz.func141 rfl rfl ?_
 repeat' ((conv=>whnf); first | exact hQ | refine eqv_id ?_ | refine Two.l ?_ | refine ⟨by kernel_rfl,?_⟩ | refine bct (by assumption) ?_ | refine bcf (by assumption) ?_ | refine bcf (nt (by assumption)) ?_ | refine bct (nf (by assumption)) ?_ | (exact Qb hQ (idxP_any P ks 0).symm) | refine indexFunc_ok hX hln hg ?_)
end
mutual
def hasP:Pred→Item→Bool
 | .mk o t n a b ks,x=>if o=1 then true else if o=3 then eqS x.kind t else if o=4 then prefB x.id t else if o=5 then ltI x.num n else if o=6 then leI n x.num
  else if o=7 then nearB x.re x.im a b n else if o=8 then hasAll ks x else if o=9 then hasAny ks x else if o=10 then hasNot ks x else false
def hasAll:List Pred→Item→Bool
 | [],_=>true
 | k::ks,x=>hasP k x&&hasAll ks x
def hasAny:List Pred→Item→Bool
 | [],_=>false
 | k::ks,x=>hasP k x || hasAny ks x
def hasNot:List Pred→Item→Bool
 | [],_=>false
 | k::_,x=>!hasP k x
end
def has0 (o:Int) (t:ByteArray) (n:Int) (a b:Nat) (ks:List Pred) (x:Item):Bool:=if o=1 then true else if o=3 then eqS x.kind t else if o=4 then prefB x.id t else if o=5 then ltI x.num n else if o=6 then leI n x.num
  else if o=7 then nearB x.re x.im a b n else if o=8 then hasAll ks x else if o=9 then hasAny ks x else if o=10 then hasNot ks x else false
theorem hasP_eq (p:Pred) (x:Item):hasP p x=has0 p.op p.text p.n p.re p.im p.kids x:=by cases p; rw [hasP]; rfl
theorem hasAll_eq (ks:List Pred) (x:Item):hasAll ks x=!(ks.any fun k=>!hasP k x):=by
 induction ks with
 | nil=>rw [hasAll]; rfl
 | cons k ks ih=>rw [hasAll,ih,List.any_cons]; simp
theorem hasAny_eq (ks:List Pred) (x:Item):hasAny ks x=ks.any fun k=>hasP k x:=by
 induction ks with
 | nil=>rw [hasAny]; rfl
 | cons k ks ih=>rw [hasAny,ih,List.any_cons]
theorem hasNot_cons {ks:List Pred} {x:Item} (h:0 < ks.length):hasNot ks x=!hasP ks[0] x:=by
 cases ks with
 | nil=>cases h
 | cons k ks=>rw [hasNot]; rfl
theorem hasNot_nil {ks:List Pred} {x:Item} (h:¬ 0 < ks.length):hasNot ks x=false:=by
 cases ks with
 | nil=>rw [hasNot]
 | cons k ks=>simp at h
theorem has_all_count (ks:List Pred) (x:Item):hasAll ks x=decide (ks.countP (fun k=>hasP k x)=ks.length):=by
 rw [hasAll_eq,Bool.eq_iff_iff,decide_eq_true_iff,List.countP_eq_length]; simp
theorem has_any_count (ks:List Pred) (x:Item):hasAny ks x=decide (0 < ks.countP (fun k=>hasP k x)):=by
 rw [hasAny_eq,Bool.eq_iff_iff,decide_eq_true_iff,List.countP_pos_iff]; simp
theorem count_take {ks:List Pred} {P:Pred→Bool} {j:Nat} (h:j < ks.length):(ks.take (j + 1)).countP P=(ks.take j).countP P + (if P ks[j] then 1 else 0):=by
 rw [List.take_succ_eq_append_getElem h,List.countP_append,List.countP_singleton]
attribute [irreducible] hasP hasAll hasAny hasNot has0 prefB
theorem nearB_eq2 (a b c d:Nat) (n:Int):nearB a b c d n=(leI 0 (farV a b c d)&&leI (farV a b c d) n):=by
 unfold nearB leI; rw [Bool.decide_and]
section
variable {X:Task→Prop} (hX:Closed X) {k:Pred} {x:Item} {b:Bool} {Q:A→List Blk→Prop}
include hX
theorem has_rp (hk:∀ Q':A→List Blk→Prop,Q' (bv b) []→X (.call 69 [k.a,x.a] [] Q')) (hQ:Q (bv b) []):X (.call 137 [k.a,.one (.rp x.row)] [] Q):=by
 refine call_intro hX Tryz.func137 rfl rfl ?_
 repeat' ((conv=>whnf); first | exact hQ | refine eqv_id ?_ | refine Two.l ?_ | refine ⟨by kernel_rfl,?_⟩ | refine bct (by assumption) ?_ | refine bcf (by assumption) ?_ | refine bcf (nt (by assumption)) ?_ | refine bct (nf (by assumption)) ?_ | refine hk _ ?_)
theorem lacks_rp (hk:∀ Q':A→List Blk→Prop,Q' (bv b) []→X (.call 69 [k.a,x.a] [] Q')) (hQ:Q (bv (!b)) []):X (.call 138 [k.a,.one (.rp x.row)] [] Q):=by
 refine call_intro hX Tryz.func138 rfl rfl ?_
 repeat' ((conv=>whnf); first | exact hQ | refine eqv_id ?_ | refine Two.l ?_ | refine ⟨by kernel_rfl,?_⟩ | refine bct (by assumption) ?_ | refine bcf (by assumption) ?_ | refine bcf (nt (by assumption)) ?_ | refine bct (nf (by assumption)) ?_ | refine hk _ ?_)
theorem lacks_ptr (hk:∀ Q':A→List Blk→Prop,Q' (bv b) []→X (.call 69 [k.a,x.a] [] Q')) (hQ:Q (bv (!b)) [.box x.cs]):X (.call 138 [k.a,.one (.ptr 0 0)] [.box x.cs] Q):=by
 refine call_intro hX Tryz.func138 rfl rfl ?_
 repeat' ((conv=>whnf); first | exact hQ | refine eqv_id ?_ | refine Two.l ?_ | refine ⟨by kernel_rfl,?_⟩ | refine bct (by assumption) ?_ | refine bcf (by assumption) ?_ | refine bcf (nt (by assumption)) ?_ | refine bct (nf (by assumption)) ?_ | refine hk _ ?_)
end
theorem has_ok {X:Task→Prop} (hX:Closed X):∀ (N:Nat) {p:Pred} {x:Item} {Q:A→List Blk→Prop},p.size≤N→p.Ok→x.Ok→Q (bv (hasP p x)) []→X (.call 69 [p.a,x.a] [] Q)
 | 0,p,_,_,h,_,_,_=>absurd h (by have:=size_pos p; omega)
 | N + 1,p,x,Q,h,ok,ox,hQ=>by
  have hln:=ok.len
  have hkid:∀ (j:Nat) (hj:j < p.kids.length) (Q':A→List Blk→Prop),Q' (bv (hasP p.kids[j] x)) []→X (.call 69 [p.kids[j].a,x.a] [] Q'):=fun j hj Q' hQ'=>has_ok hX N (by have:=size_kid hj; omega) (ok.kid hj) ox hQ'
  rw [hasP_eq] at hQ
  refine call_intro hX Tryz.func69 rfl rfl ?_
  clear ok
  simp only [Pred.a,Pred.cs]
  generalize p.op=o at *
  generalize p.text=t at *
  generalize p.n=n at *
  generalize p.re=a at *
  generalize p.im=b at *
  generalize p.kids=ks at *
  rcases r10 o with rfl | rfl | rfl | rfl | rfl | rfl | rfl | rfl | rfl | rfl | ⟨n1,n2,n3,n4,n5,n6,n7,n8,n9,n10⟩
  rotate_right
  ·have e1:eqI o 1=false:=eqI_f.2 n1
   have e3:eqI o 3=false:=eqI_f.2 n3
   have e4:eqI o 4=false:=eqI_f.2 n4
   have e5:eqI o 5=false:=eqI_f.2 n5
   have e6:eqI o 6=false:=eqI_f.2 n6
   have e7:eqI o 7=false:=eqI_f.2 n7
   have e8:eqI o 8=false:=eqI_f.2 n8
   have e9:eqI o 9=false:=eqI_f.2 n9
   have e10:eqI o 10=false:=eqI_f.2 n10
   repeat' ((conv=>whnf); first | exact hQ | refine eqv_id ?_ | refine Two.l ?_ | refine ⟨by kernel_rfl,?_⟩ | refine bct (by assumption) ?_ | refine bcf (by assumption) ?_ | refine bcf (nt (by assumption)) ?_ | refine bct (nf (by assumption)) ?_ | (refine Qb hQ ?_; unfold has0; simp [*]; done))
  rotate_right
  ·by_cases h0:0 < ks.length
   ·have q1:ltI 0 (lenL (rows ks))=true:=by rw [len_rows,ltI_t]; omega
    have q2:lenB (rows ks) 0=true:=lenB_rows h0
    have q3:=at_rows h0
    repeat' ((conv=>whnf); first | exact hQ | refine eqv_id ?_ | refine Two.l ?_ | refine ⟨by kernel_rfl,?_⟩ | refine bct (by assumption) ?_ | refine bcf (by assumption) ?_ | refine bcf (nt (by assumption)) ?_ | refine bct (nf (by assumption)) ?_ | (refine Qb hQ ?_; unfold has0; simp [hasNot_cons h0]; done) | refine row_in q3 ?_ | refine lacks_ptr hX (hkid 0 h0) ?_)
   ·have q1:ltI 0 (lenL (rows ks))=false:=by rw [len_rows,ltI_f]; omega
    repeat' ((conv=>whnf); first | exact hQ | refine eqv_id ?_ | refine Two.l ?_ | refine ⟨by kernel_rfl,?_⟩ | refine bct (by assumption) ?_ | refine bcf (by assumption) ?_ | refine bcf (nt (by assumption)) ?_ | refine bct (nf (by assumption)) ?_ | (refine Qb hQ ?_; unfold has0; simp [hasNot_nil h0]; done))
  rotate_right
  ·repeat' ((conv=>whnf); first | exact hQ | refine eqv_id ?_ | refine Two.l ?_ | refine ⟨by kernel_rfl,?_⟩ | refine bct (by assumption) ?_ | refine bcf (by assumption) ?_ | refine bcf (nt (by assumption)) ?_ | refine bct (nf (by assumption)) ?_ | refine Or.inr (Or.inl ?_) | (refine containsFunc_ok hX (P:=fun k=>hasP k x) hln (fun j hj Q' hQ'=>has_rp hX (hkid j hj) hQ') ?_) | (refine Qb hQ ?_; unfold has0; simp [hasAny_eq]; done))
  rotate_right
  ·repeat' ((conv=>whnf); first | exact hQ | refine eqv_id ?_ | refine Two.l ?_ | refine ⟨by kernel_rfl,?_⟩ | refine bct (by assumption) ?_ | refine bcf (by assumption) ?_ | refine bcf (nt (by assumption)) ?_ | refine bct (nf (by assumption)) ?_ | refine Or.inr (Or.inl ?_) | (refine containsFunc_ok hX (P:=fun k=>!hasP k x) hln (fun j hj Q' hQ'=>lacks_rp hX (hkid j hj) hQ') ?_) | (refine Qb hQ ?_; unfold has0; simp [hasAll_eq]; done))
  all_goals
   repeat' ((conv=>whnf); first | exact hQ | refine eqv_id ?_ | refine Two.l ?_ | refine ⟨by kernel_rfl,?_⟩ | refine bct (by assumption) ?_ | refine bcf (by assumption) ?_ | refine bcf (nt (by assumption)) ?_ | refine bct (nf (by assumption)) ?_ | (refine Qb hQ ?_; unfold has0; simp; done) | refine near_ok hX ?_ | refine hasPrefix_ok hX ?_)
theorem rhas_ok {X:Task→Prop} (hX:Closed X):∀ (N:Nat) {p:Pred} {x:Item} {Q:A→List Blk→Prop},p.size≤N→p.Ok→x.Ok→Q (bv (hasP p x)) []→X (.call 28 [p.a,x.a] [] Q)
 | 0,p,_,_,h,_,_,_=>absurd h (by have:=size_pos p; omega)
 | N + 1,p,x,Q,h,ok,ox,hQ=>by
  have hln:=ok.len
  have htx:=ok.text
  have hkid:∀ (j:Nat) (hj:j < p.kids.length) (Q':A→List Blk→Prop),Q' (bv (hasP p.kids[j] x)) []→X (.call 28 [p.kids[j].a,x.a] [] Q'):=fun j hj Q' hQ'=>rhas_ok hX N (by have:=size_kid hj; omega) (ok.kid hj) ox hQ'
  rw [hasP_eq] at hQ
  refine call_intro hX Tryz.func28 rfl rfl ?_
  clear ok
  simp only [Pred.a,Pred.cs]
  generalize p.op=o at *
  generalize p.text=t at *
  generalize p.n=n at *
  generalize p.re=a at *
  generalize p.im=b at *
  generalize p.kids=ks at *
  repeat' ((conv=>whnf); first | exact hQ | refine eqv_id ?_ | refine Two.l ?_ | refine ⟨by kernel_rfl,?_⟩ | refine bct (by assumption) ?_ | refine bcf (by assumption) ?_ | refine bcf (nt (by assumption)) ?_ | refine bct (nf (by assumption)) ?_)
  refine range_ix (fun i (m:Int)=>pad [(2,.one (.ptr 0 0)),(0,.one (.ptr 1 0)),(1,iv m),(0,iv i)] 90) (fun _ _=>[.box [ic o,.p (.v (.string t)),ic n,.p (.v (.complex .f64 a b)),.p (.sl (rows ks))],.box x.cs]) (fun j m=>m=(((ks.take j).countP fun k=>hasP k x:Nat):Int)) ks.length 0 (Nat.zero_le _) (fun j m _ hj hI ih=>?_) (fun m hI=>?_) 0 0 rfl rfl
  ·have q1:ltI (j:Int) (lenL (rows ks))=true:=by rw [len_rows,ltI_t]; omega
   have q2:=lenB_rows hj
   have hct:=count_take (P:=fun k=>hasP k x) hj
   have hcl:=List.countP_le_length (p:=fun k=>hasP k x) (l:=ks.take j)
   rw [List.length_take] at hcl
   refine loop_intro hX ?_
   cases hh:hasP ks[j] x with
   | true =>
    rw [hh,if_pos rfl] at hct
    have e:wr .i64 (m + 1)=(((ks.take (j + 1)).countP fun k=>hasP k x:Nat):Int):=by rw [hct,hI,wrS (by omega)]
    clear hct hI hcl
    repeat' ((conv=>whnf); first | exact hQ | refine eqv_id ?_ | refine Two.l ?_ | refine ⟨by kernel_rfl,?_⟩ | refine bct (by assumption) ?_ | refine bcf (by assumption) ?_ | refine bcf (nt (by assumption)) ?_ | refine bct (nf (by assumption)) ?_ | refine row_in (at_rows hj) ?_ | refine known bv (hkid j hj) hh ?_ | (exact ih _ _ (wrS (by omega)) e))
   | false =>
    rw [hh,if_neg (by simp),Nat.add_zero] at hct
    have e:m=(((ks.take (j + 1)).countP fun k=>hasP k x:Nat):Int):=by rw [hct]; exact hI
    clear hct hI hcl
    repeat' ((conv=>whnf); first | exact hQ | refine eqv_id ?_ | refine Two.l ?_ | refine ⟨by kernel_rfl,?_⟩ | refine bct (by assumption) ?_ | refine bcf (by assumption) ?_ | refine bcf (nt (by assumption)) ?_ | refine bct (nf (by assumption)) ?_ | refine row_in (at_rows hj) ?_ | refine known bv (hkid j hj) hh ?_ | (exact ih _ _ (wrS (by omega)) e))
  ·have q1:ltI (ks.length:Int) (lenL (rows ks))=false:=by rw [len_rows,ltI_f]; omega
   rw [List.take_length] at hI
   subst hI
   refine loop_intro hX ?_
   rcases r10 o with rfl | rfl | rfl | rfl | rfl | rfl | rfl | rfl | rfl | rfl | ⟨n1,n2,n3,n4,n5,n6,n7,n8,n9,n10⟩
   rotate_right
   ·have e1:eqI o 1=false:=eqI_f.2 n1
    have e3:eqI o 3=false:=eqI_f.2 n3
    have e4:eqI o 4=false:=eqI_f.2 n4
    have e5:eqI o 5=false:=eqI_f.2 n5
    have e6:eqI o 6=false:=eqI_f.2 n6
    have e7:eqI o 7=false:=eqI_f.2 n7
    have e8:eqI o 8=false:=eqI_f.2 n8
    have e9:eqI o 9=false:=eqI_f.2 n9
    have e10:eqI o 10=false:=eqI_f.2 n10
    repeat' ((conv=>whnf); first | exact hQ | refine eqv_id ?_ | refine Two.l ?_ | refine ⟨by kernel_rfl,?_⟩ | refine bct (by assumption) ?_ | refine bcf (by assumption) ?_ | refine bcf (nt (by assumption)) ?_ | refine bct (nf (by assumption)) ?_ | (refine Qb hQ ?_; unfold has0; simp [*]; done))
   rotate_right
   ·by_cases h0:0 < ks.length
    ·have q1:eqI (lenL (rows ks)) 0=false:=by rw [len_rows,eqI_f]; omega
     have q2:lenB (rows ks) 0=true:=lenB_rows h0
     have q3:=at_rows h0
     repeat' ((conv=>whnf); first | exact hQ | refine eqv_id ?_ | refine Two.l ?_ | refine ⟨by kernel_rfl,?_⟩ | refine bct (by assumption) ?_ | refine bcf (by assumption) ?_ | refine bcf (nt (by assumption)) ?_ | refine bct (nf (by assumption)) ?_ | (refine Qb hQ ?_; unfold has0; simp [hasNot_cons h0]; done) | refine row_in q3 ?_ | refine hkid 0 h0 _ ?_)
    ·have q1:eqI (lenL (rows ks)) 0=true:=by rw [len_rows,eqI_t]; omega
     repeat' ((conv=>whnf); first | exact hQ | refine eqv_id ?_ | refine Two.l ?_ | refine ⟨by kernel_rfl,?_⟩ | refine bct (by assumption) ?_ | refine bcf (by assumption) ?_ | refine bcf (nt (by assumption)) ?_ | refine bct (nf (by assumption)) ?_ | (refine Qb hQ ?_; unfold has0; simp [hasNot_nil h0]; done))
   rotate_right
   ·repeat' ((conv=>whnf); first | exact hQ | refine eqv_id ?_ | refine Two.l ?_ | refine ⟨by kernel_rfl,?_⟩ | refine bct (by assumption) ?_ | refine bcf (by assumption) ?_ | refine bcf (nt (by assumption)) ?_ | refine bct (nf (by assumption)) ?_ | (refine Qb hQ ?_; unfold has0; simp [has_any_count,ltI]; done))
   rotate_right
   ·have e8:hasAll ks x=eqI ((ks.countP fun k=>hasP k x:Nat):Int) (lenL (rows ks)):=by
     rw [has_all_count,len_rows]; unfold eqI; rw [Bool.eq_iff_iff,decide_eq_true_iff,beq_iff_eq]; omega
    repeat' ((conv=>whnf); first | exact hQ | refine eqv_id ?_ | refine Two.l ?_ | refine ⟨by kernel_rfl,?_⟩ | refine bct (by assumption) ?_ | refine bcf (by assumption) ?_ | refine bcf (nt (by assumption)) ?_ | refine bct (nf (by assumption)) ?_ | (refine Qb hQ ?_; unfold has0; simp [e8]; done))
   rotate_right
   ·repeat' ((conv=>whnf); first | exact hQ | refine eqv_id ?_ | refine Two.l ?_ | refine ⟨by kernel_rfl,?_⟩ | refine bct (by assumption) ?_ | refine bcf (by assumption) ?_ | refine bcf (nt (by assumption)) ?_ | refine bct (nf (by assumption)) ?_ | (refine Qb hQ ?_; unfold has0; simp_all [nearB_eq2]; done) | refine ref_far_ok hX ?_ | refine bc (fun _=>?_) (fun _=>?_))
   all_goals
    repeat' ((conv=>whnf); first | exact hQ | refine eqv_id ?_ | refine Two.l ?_ | refine ⟨by kernel_rfl,?_⟩ | refine bct (by assumption) ?_ | refine bcf (by assumption) ?_ | refine bcf (nt (by assumption)) ?_ | refine bct (nf (by assumption)) ?_ | (refine Qb hQ ?_; unfold has0; simp; done) | refine begins_ok hX htx ?_)
end Go.Proofs.YtidkmoohgadjkaaGreat
set_option maxHeartbeats 4000000
namespace Go.Proofs.YtidkmoohgadjkaaGreat
open Go E Pred
section
variable {X:Task→Prop} (hX:Closed X) {k p q:Pred} {b:Bool} {Q:A→List Blk→Prop}
include hX
end
end Go.Proofs.YtidkmoohgadjkaaGreat
set_option maxHeartbeats 4000000
namespace Go.Proofs.YtidkmoohgadjkaaGreat
open Go E Pred
structure AS where
 a:Bool
 s:Bool
end Go.Proofs.YtidkmoohgadjkaaGreat
set_option maxHeartbeats 4000000
namespace Go.Proofs.YtidkmoohgadjkaaGreat
open Go E Pred
end Go.Proofs.YtidkmoohgadjkaaGreat
namespace Go.Proofs.YtidkmoohgadjkaaGreat
open Go E Pred
theorem sameP_iff (p q:Pred):sameP p q=true↔p.op=q.op∧bytesOf p.text=bytesOf q.text∧p.n=q.n∧(eqFl .f64 p.re q.re=true∧eqFl .f64 p.im q.im=true)∧sameL p.kids q.kids=true:=by
 rw [sameP_eq]; simp only [Bool.and_eq_true,eqI_t,eqS_iff]
theorem sameL_nil:sameL [] []=true:=by rw [sameL]
abbrev bare (o:Int) (ks:List Pred):Pred:=.mk o ⟨#[]⟩ 0 0 0 ks
def addP (none:Int) (acc:List Pred) (k:Pred):List Pred:=if !eqI k.op none&&!(acc.any fun o=>sameP k o) then acc++[k] else acc
def flatP (o:Int):List Pred→List Pred
 | []=>[]
 | k::ks=>(if eqI k.op o then k.kids else [k])++flatP o ks
theorem eqFl_zero:eqFl .f64 0 0=true:=by kernel_rfl
theorem bare_self (o:Int):sameP (bare o []) (bare o [])=true:=(sameP_iff _ _).2 ⟨rfl,rfl,rfl,⟨eqFl_zero,eqFl_zero⟩,sameL_nil⟩
structure Plainly (p:Pred):Prop where
 text:bytesOf p.text=bytesOf ⟨#[]⟩
 n:p.n=0
 re:eqFl .f64 p.re 0=true
 im:eqFl .f64 p.im 0=true
end Go.Proofs.YtidkmoohgadjkaaGreat
set_option maxHeartbeats 4000000
namespace Go.Proofs.YtidkmoohgadjkaaGreat
open Go E Pred
section
variable {X:Task→Prop} (hX:Closed X) {k:Pred} {none:Int} {acc:List Pred} {kk:Nat} {Q:A→List Blk→Prop}
include hX
end
end Go.Proofs.YtidkmoohgadjkaaGreat
namespace Go.Proofs.YtidkmoohgadjkaaGreat
open Go E Pred
noncomputable section
open Classical
theorem eq8_b {a b:V8} {v:Bool} (h:eq8 a b=v):andB (eqI a.x0 b.x0) (andB (eqI a.x1 b.x1) (andB (eqI a.x2 b.x2) (andB (eqI a.x3 b.x3) (andB (eqI a.x4 b.x4) (andB (eqI a.x5 b.x5) (andB (eqI a.x6 b.x6) (andB (eqI a.x7 b.x7) true)))))))=v:=h
def ref06_Count_s (a:V8) (b:Int):Option Int:=some (V8.at a b)
theorem ref06_Count_c {X:Task→Prop} (hX:Closed X) {a:V8} {b:Int} {r:Int} {Q:A→List Blk→Prop} (h:ref06_Count_s a b=some r) (hQ:Q (iv r) []):X (.call 157 [.agg [ic a.x0,ic a.x1,ic a.x2,ic a.x3,ic a.x4,ic a.x5,ic a.x6,ic a.x7],iv b] [] Q):=by
 unfold ref06_Count_s at h
 injection h with h
 subst h
 exact count_ok hX hQ
def ref06_HasVec_s (a:V8) (b:Ver):Option Bool:=some (hasV a b.r b.c)
theorem ref06_HasVec_c {X:Task→Prop} (hX:Closed X) {a:V8} {b:Ver} {r:Bool} {Q:A→List Blk→Prop} (h:ref06_HasVec_s a b=some r) (hQ:Q (.one (.p (.v (.bool r)))) []):X (.call 88 [.agg [ic a.x0,ic a.x1,ic a.x2,ic a.x3,ic a.x4,ic a.x5,ic a.x6,ic a.x7],.agg [ic b.r,ic b.c]] [] Q):=by
 unfold ref06_HasVec_s at h
 injection h with h
 subst h
 exact hasVec_ok hX hQ
def ref06_WithVec_s (a:V8) (b:Ver):Option V8:=some (withV a b.r b.c)
theorem ref06_WithVec_c {X:Task→Prop} (hX:Closed X) {a:V8} {b:Ver} {r:V8} {Q:A→List Blk→Prop} (h:ref06_WithVec_s a b=some r) (hQ:Q (.agg [ic r.x0,ic r.x1,ic r.x2,ic r.x3,ic r.x4,ic r.x5,ic r.x6,ic r.x7]) []):X (.call 174 [.agg [ic a.x0,ic a.x1,ic a.x2,ic a.x3,ic a.x4,ic a.x5,ic a.x6,ic a.x7],.agg [ic b.r,ic b.c]] [] Q):=by
 unfold ref06_WithVec_s at h
 injection h with h
 subst h
 exact withVec_ok hX hQ
def ref06_MayVec_s (a:V8):Option Bool:=some (mayV a)
theorem ref06_MayVec_c {X:Task→Prop} (hX:Closed X) {a:V8} {r:Bool} {Q:A→List Blk→Prop} (h:ref06_MayVec_s a=some r) (hQ:Q (.one (.p (.v (.bool r)))) []):X (.call 154 [.agg [ic a.x0,ic a.x1,ic a.x2,ic a.x3,ic a.x4,ic a.x5,ic a.x6,ic a.x7]] [] Q):=by
 unfold ref06_MayVec_s at h
 injection h with h
 subst h
 exact mayVec_ok hX hQ
def ref06_Max_s (a:V8) (b:V8):Option V8:=some (maxV a b)
theorem ref06_Max_c {X:Task→Prop} (hX:Closed X) {a:V8} {b:V8} {r:V8} {Q:A→List Blk→Prop} (h:ref06_Max_s a b=some r) (hQ:Q (.agg [ic r.x0,ic r.x1,ic r.x2,ic r.x3,ic r.x4,ic r.x5,ic r.x6,ic r.x7]) []):X (.call 191 [.agg [ic a.x0,ic a.x1,ic a.x2,ic a.x3,ic a.x4,ic a.x5,ic a.x6,ic a.x7],.agg [ic b.x0,ic b.x1,ic b.x2,ic b.x3,ic b.x4,ic b.x5,ic b.x6,ic b.x7]] [] Q):=by
 unfold ref06_Max_s at h
 injection h with h
 subst h
 exact refMax_ok hX hQ
def vec_Has_s (a:V8) (b:Ver):Option Bool:=some (hasV a b.r b.c)
theorem vec_Has_c {X:Task→Prop} (hX:Closed X) {a:V8} {b:Ver} {r:Bool} {Q:A→List Blk→Prop} (h:vec_Has_s a b=some r) (hQ:Q (.one (.p (.v (.bool r)))) []):X (.call 109 [.agg [ic a.x0,ic a.x1,ic a.x2,ic a.x3,ic a.x4,ic a.x5,ic a.x6,ic a.x7],.agg [ic b.r,ic b.c]] [] Q):=by
 unfold vec_Has_s at h
 injection h with h
 subst h
 exact vhas_ok hX hQ
def vec_With_s (a:V8) (b:Ver):Option V8:=some (withV a b.r b.c)
theorem vec_With_c {X:Task→Prop} (hX:Closed X) {a:V8} {b:Ver} {r:V8} {Q:A→List Blk→Prop} (h:vec_With_s a b=some r) (hQ:Q (.agg [ic r.x0,ic r.x1,ic r.x2,ic r.x3,ic r.x4,ic r.x5,ic r.x6,ic r.x7]) []):X (.call 169 [.agg [ic a.x0,ic a.x1,ic a.x2,ic a.x3,ic a.x4,ic a.x5,ic a.x6,ic a.x7],.agg [ic b.r,ic b.c]] [] Q):=by
 unfold vec_With_s at h
 injection h with h
 subst h
 exact vwith_ok hX hQ
def vec_Max_s (a:V8) (b:V8):Option V8:=some (maxV a b)
theorem vec_Max_c {X:Task→Prop} (hX:Closed X) {a:V8} {b:V8} {r:V8} {Q:A→List Blk→Prop} (h:vec_Max_s a b=some r) (hQ:Q (.agg [ic r.x0,ic r.x1,ic r.x2,ic r.x3,ic r.x4,ic r.x5,ic r.x6,ic r.x7]) []):X (.call 189 [.agg [ic a.x0,ic a.x1,ic a.x2,ic a.x3,ic a.x4,ic a.x5,ic a.x6,ic a.x7],.agg [ic b.x0,ic b.x1,ic b.x2,ic b.x3,ic b.x4,ic b.x5,ic b.x6,ic b.x7]] [] Q):=by
 unfold vec_Max_s at h
 injection h with h
 subst h
 exact vmax_ok hX hQ
def vec_May_s (a:V8):Option Bool:=some (mayV a)
theorem vec_May_c {X:Task→Prop} (hX:Closed X) {a:V8} {r:Bool} {Q:A→List Blk→Prop} (h:vec_May_s a=some r) (hQ:Q (.one (.p (.v (.bool r)))) []):X (.call 143 [.agg [ic a.x0,ic a.x1,ic a.x2,ic a.x3,ic a.x4,ic a.x5,ic a.x6,ic a.x7]] [] Q):=by
 unfold vec_May_s at h
 injection h with h
 subst h
 exact vmay_ok hX hQ
def ref01_Ver_s (a:Ver):Option Bool:=some (verB a.r a.c)
theorem ref01_Ver_c {X:Task→Prop} (hX:Closed X) {a:Ver} {r:Bool} {Q:A→List Blk→Prop} (h:ref01_Ver_s a=some r) (hQ:Q (.one (.p (.v (.bool r)))) []):X (.call 79 [.agg [ic a.r,ic a.c]] [] Q):=by
 unfold ref01_Ver_s at h
 injection h with h
 subst h
 exact rver_ok hX hQ
def item_Name_s (a:ByteArray):Option Bool:=chk (decide (a.size≤9223372036854775807)) (some (lettersB a 1))
theorem item_Name_c {X:Task→Prop} (hX:Closed X) {a:ByteArray} {r:Bool} {Q:A→List Blk→Prop} (h:item_Name_s a=some r) (hQ:Q (.one (.p (.v (.bool r)))) []):X (.call 147 [.one (.p (.v (.string a)))] [] Q):=by
 unfold item_Name_s at h
 obtain ⟨d1,h⟩:=chk_some h
 have c1:=of_decide_eq_true d1
 injection h with h
 subst h
 exact name_ok hX c1 hQ
def ref01_Name_s (a:ByteArray):Option Bool:=chk (decide (a.size≤9223372036854775807)) (some (lettersB a 1))
theorem ref01_Name_c {X:Task→Prop} (hX:Closed X) {a:ByteArray} {r:Bool} {Q:A→List Blk→Prop} (h:ref01_Name_s a=some r) (hQ:Q (.one (.p (.v (.bool r)))) []):X (.call 78 [.one (.p (.v (.string a)))] [] Q):=by
 unfold ref01_Name_s at h
 obtain ⟨d1,h⟩:=chk_some h
 have c1:=of_decide_eq_true d1
 injection h with h
 subst h
 exact rname_ok hX c1 hQ
def item_May_s (a:Item):Option Bool:=chk (decide (a.Ok)) (some (mayI a))
theorem item_May_c {X:Task→Prop} (hX:Closed X) {a:Item} {r:Bool} {Q:A→List Blk→Prop} (h:item_May_s a=some r) (hQ:Q (.one (.p (.v (.bool r)))) []):X (.call 94 [.agg [.p (.v (.string a.id)),ic a.vr,ic a.vc,ic a.stamp,.p (.v (.string a.kind)),ic a.num,.p (.v (.complex .f64 a.re a.im)),.p (.v (.bool a.dead))]] [] Q):=by
 unfold item_May_s at h
 obtain ⟨d1,h⟩:=chk_some h
 have c1:=of_decide_eq_true d1
 injection h with h
 subst h
 exact may_item_ok hX c1 hQ
def ref01_May_s (a:Item):Option Bool:=chk (decide (a.Ok)) (some (mayI a))
theorem ref01_May_c {X:Task→Prop} (hX:Closed X) {a:Item} {r:Bool} {Q:A→List Blk→Prop} (h:ref01_May_s a=some r) (hQ:Q (.one (.p (.v (.bool r)))) []):X (.call 100 [.agg [.p (.v (.string a.id)),ic a.vr,ic a.vc,ic a.stamp,.p (.v (.string a.kind)),ic a.num,.p (.v (.complex .f64 a.re a.im)),.p (.v (.bool a.dead))]] [] Q):=by
 unfold ref01_May_s at h
 obtain ⟨d1,h⟩:=chk_some h
 have c1:=of_decide_eq_true d1
 injection h with h
 subst h
 exact rmay_item_ok hX c1 hQ
def item_Compare_s (a:Item) (b:Item):Option Int:=some (compareV a b)
theorem item_Compare_c {X:Task→Prop} (hX:Closed X) {a:Item} {b:Item} {r:Int} {Q:A→List Blk→Prop} (h:item_Compare_s a b=some r) (hQ:Q (iv r) []):X (.call 96 [.agg [.p (.v (.string a.id)),ic a.vr,ic a.vc,ic a.stamp,.p (.v (.string a.kind)),ic a.num,.p (.v (.complex .f64 a.re a.im)),.p (.v (.bool a.dead))],.agg [.p (.v (.string b.id)),ic b.vr,ic b.vc,ic b.stamp,.p (.v (.string b.kind)),ic b.num,.p (.v (.complex .f64 b.re b.im)),.p (.v (.bool b.dead))]] [] Q):=by
 unfold item_Compare_s at h
 injection h with h
 subst h
 exact compare_ok hX hQ
def ref01_Behind_s (a:Item) (b:Item):Option Bool:=some (behindB a b)
theorem ref01_Behind_c {X:Task→Prop} (hX:Closed X) {a:Item} {b:Item} {r:Bool} {Q:A→List Blk→Prop} (h:ref01_Behind_s a b=some r) (hQ:Q (.one (.p (.v (.bool r)))) []):X (.call 42 [.agg [.p (.v (.string a.id)),ic a.vr,ic a.vc,ic a.stamp,.p (.v (.string a.kind)),ic a.num,.p (.v (.complex .f64 a.re a.im)),.p (.v (.bool a.dead))],.agg [.p (.v (.string b.id)),ic b.vr,ic b.vc,ic b.stamp,.p (.v (.string b.kind)),ic b.num,.p (.v (.complex .f64 b.re b.im)),.p (.v (.bool b.dead))]] [] Q):=by
 unfold ref01_Behind_s at h
 injection h with h
 subst h
 exact behind_ok hX hQ
def ref01_Same_s (a:Item) (b:Item):Option Bool:=some (sameI a b)
theorem ref01_Same_c {X:Task→Prop} (hX:Closed X) {a:Item} {b:Item} {r:Bool} {Q:A→List Blk→Prop} (h:ref01_Same_s a b=some r) (hQ:Q (.one (.p (.v (.bool r)))) []):X (.call 111 [.agg [.p (.v (.string a.id)),ic a.vr,ic a.vc,ic a.stamp,.p (.v (.string a.kind)),ic a.num,.p (.v (.complex .f64 a.re a.im)),.p (.v (.bool a.dead))],.agg [.p (.v (.string b.id)),ic b.vr,ic b.vc,ic b.stamp,.p (.v (.string b.kind)),ic b.num,.p (.v (.complex .f64 b.re b.im)),.p (.v (.bool b.dead))]] [] Q):=by
 unfold ref01_Same_s at h
 injection h with h
 subst h
 exact rsame_ok hX hQ
def law00_Item_s (a:Item):Option Item:=some (a)
theorem law00_Item_c {X:Task→Prop} (hX:Closed X) {a:Item} {r:Item} {Q:A→List Blk→Prop} (h:law00_Item_s a=some r) (hQ:Q (.agg [.p (.v (.string r.id)),ic r.vr,ic r.vc,ic r.stamp,.p (.v (.string r.kind)),ic r.num,.p (.v (.complex .f64 r.re r.im)),.p (.v (.bool r.dead))]) []):X (.call 32 [.agg [.p (.v (.string a.id)),ic a.vr,ic a.vc,ic a.stamp,.p (.v (.string a.kind)),ic a.num,.p (.v (.float .f64 a.re)),.p (.v (.float .f64 a.im)),.p (.v (.bool a.dead))]] [] Q):=by
 unfold law00_Item_s at h
 injection h with h
 subst h
 exact item_ok hX hQ
def law00_Small_s (a:Pred):Option Int:=chk (decide (a.Ok)) (some (if a.size≤60 then 1 else 0))
theorem law00_Small_c {X:Task→Prop} (hX:Closed X) {a:Pred} {r:Int} {Q:A→List Blk→Prop} (h:law00_Small_s a=some r) (hQ:Q (iv r) []):X (.call 44 [.agg [ic a.op,.p (.v (.string a.text)),ic a.n,.p (.v (.float .f64 a.re)),.p (.v (.float .f64 a.im)),.p (.sl (Pred.lrows a.kids))]] [] Q):=by
 unfold law00_Small_s at h
 obtain ⟨d1,h⟩:=chk_some h
 have c1:=of_decide_eq_true d1
 injection h with h
 subst h
 exact small_ok hX c1 hQ
def law00_Pred_s (a:Pred):Option Pred:=chk (decide (a.size≤1000)) (chk (decide (a.Ok)) (some (a)))
theorem law00_Pred_c {X:Task→Prop} (hX:Closed X) {a:Pred} {r:Pred} {Q:A→List Blk→Prop} (h:law00_Pred_s a=some r) (hQ:Q (.agg [ic r.op,.p (.v (.string r.text)),ic r.n,.p (.v (.complex .f64 r.re r.im)),.p (.sl (Pred.rows r.kids))]) []):X (.call 46 [.agg [ic a.op,.p (.v (.string a.text)),ic a.n,.p (.v (.float .f64 a.re)),.p (.v (.float .f64 a.im)),.p (.sl (Pred.lrows a.kids))]] [] Q):=by
 unfold law00_Pred_s at h
 obtain ⟨d1,h⟩:=chk_some h
 have c1:=of_decide_eq_true d1
 obtain ⟨d2,h⟩:=chk_some h
 have c2:=of_decide_eq_true d2
 injection h with h
 subst h
 exact lpred_ok hX _ (Nat.le_refl _) c1 c2 hQ
def ref03_Same_s (a:Pred) (b:Pred):Option Bool:=chk (decide (a.Ok)) (some (sameP a b))
theorem ref03_Same_c {X:Task→Prop} (hX:Closed X) {a:Pred} {b:Pred} {r:Bool} {Q:A→List Blk→Prop} (h:ref03_Same_s a b=some r) (hQ:Q (.one (.p (.v (.bool r)))) []):X (.call 68 [.agg [ic a.op,.p (.v (.string a.text)),ic a.n,.p (.v (.complex .f64 a.re a.im)),.p (.sl (Pred.rows a.kids))],.agg [ic b.op,.p (.v (.string b.text)),ic b.n,.p (.v (.complex .f64 b.re b.im)),.p (.sl (Pred.rows b.kids))]] [] Q):=by
 unfold ref03_Same_s at h
 obtain ⟨d1,h⟩:=chk_some h
 have c1:=of_decide_eq_true d1
 injection h with h
 subst h
 exact rsame_pred_ok hX _ (Nat.le_refl _) c1 hQ
def ref03_May_s (a:Pred):Option Bool:=chk (decide (a.size≤1000)) (chk (decide (a.Ok)) (some (mayP a)))
theorem ref03_May_c {X:Task→Prop} (hX:Closed X) {a:Pred} {r:Bool} {Q:A→List Blk→Prop} (h:ref03_May_s a=some r) (hQ:Q (.one (.p (.v (.bool r)))) []):X (.call 76 [.agg [ic a.op,.p (.v (.string a.text)),ic a.n,.p (.v (.complex .f64 a.re a.im)),.p (.sl (Pred.rows a.kids))]] [] Q):=by
 unfold ref03_May_s at h
 obtain ⟨d1,h⟩:=chk_some h
 have c1:=of_decide_eq_true d1
 obtain ⟨d2,h⟩:=chk_some h
 have c2:=of_decide_eq_true d2
 injection h with h
 subst h
 exact rmay_pred_ok hX c1 c2 hQ
def eval_Has_s (a:Pred) (b:Item):Option Bool:=chk (decide (a.Ok)) (chk (decide (b.Ok)) (some (hasP a b)))
theorem eval_Has_c {X:Task→Prop} (hX:Closed X) {a:Pred} {b:Item} {r:Bool} {Q:A→List Blk→Prop} (h:eval_Has_s a b=some r) (hQ:Q (.one (.p (.v (.bool r)))) []):X (.call 69 [.agg [ic a.op,.p (.v (.string a.text)),ic a.n,.p (.v (.complex .f64 a.re a.im)),.p (.sl (Pred.rows a.kids))],.agg [.p (.v (.string b.id)),ic b.vr,ic b.vc,ic b.stamp,.p (.v (.string b.kind)),ic b.num,.p (.v (.complex .f64 b.re b.im)),.p (.v (.bool b.dead))]] [] Q):=by
 unfold eval_Has_s at h
 obtain ⟨d1,h⟩:=chk_some h
 have c1:=of_decide_eq_true d1
 obtain ⟨d2,h⟩:=chk_some h
 have c2:=of_decide_eq_true d2
 injection h with h
 subst h
 exact has_ok hX _ (Nat.le_refl _) c1 c2 hQ
def ref03_Has_s (a:Pred) (b:Item):Option Bool:=chk (decide (a.Ok)) (chk (decide (b.Ok)) (some (hasP a b)))
theorem ref03_Has_c {X:Task→Prop} (hX:Closed X) {a:Pred} {b:Item} {r:Bool} {Q:A→List Blk→Prop} (h:ref03_Has_s a b=some r) (hQ:Q (.one (.p (.v (.bool r)))) []):X (.call 28 [.agg [ic a.op,.p (.v (.string a.text)),ic a.n,.p (.v (.complex .f64 a.re a.im)),.p (.sl (Pred.rows a.kids))],.agg [.p (.v (.string b.id)),ic b.vr,ic b.vc,ic b.stamp,.p (.v (.string b.kind)),ic b.num,.p (.v (.complex .f64 b.re b.im)),.p (.v (.bool b.dead))]] [] Q):=by
 unfold ref03_Has_s at h
 obtain ⟨d1,h⟩:=chk_some h
 have c1:=of_decide_eq_true d1
 obtain ⟨d2,h⟩:=chk_some h
 have c2:=of_decide_eq_true d2
 injection h with h
 subst h
 exact rhas_ok hX _ (Nat.le_refl _) c1 c2 hQ
end
end Go.Proofs.YtidkmoohgadjkaaGreat
namespace Go.Proofs.YtidkmoohgadjkaaGreat
open Go E
theorem loop_lisx0 {R α:Type} {X:Task→Prop} {f m:Nat} {c:Code} {K:Ex→List A→List Blk→Prop} {r:R} (T':Int→List A) (S':Int→List Blk) (L:List α→Option R) (l:List α)
  (hstep:∀ (pre:List α) (x:α) (xs:List α) (i:Int),l=pre++x::xs→i=(pre.length:Int)→L (x::xs)=some r→(∀ (i':Int),i'=i + 1→L xs=some r→X (.loop f m c (T' i') (S' i') K))→X (.loop f m c (T' i) (S' i) K))
  (hend:∀ (i:Int),i=(l.length:Int)→L []=some r→X (.loop f m c (T' i) (S' i) K)) (h:L l=some r):X (.loop f m c (T' 0) (S' 0) K):=by
 have key:∀ (xs pre:List α) (i:Int),l=pre++xs→i=(pre.length:Int)→L xs=some r→X (.loop f m c (T' i) (S' i) K):=by
  intro xs
  induction xs with
  | nil=>intro pre i hl hi h; exact hend i (by rw [hl,hi]; simp) h
  | cons x xs ih=>intro pre i hl hi h; exact hstep pre x xs i hl hi h fun i' hi' h'=>by subst hi'; exact ih (pre++[x]) (i + 1) (by rw [hl]; simp) (by rw [hi]; simp) h'
 exact key l [] 0 rfl rfl h
theorem loop_list0 {R α:Type} {X:Task→Prop} {f m:Nat} {c:Code} {K:Ex→List A→List Blk→Prop} {r:R} (T':Int→List A) (S':Int→List Blk) (L:List α→Int→Option R) (l:List α)
  (hstep:∀ (pre:List α) (x:α) (xs:List α) (i:Int),l=pre++x::xs→i=(pre.length:Int)→L (x::xs) i=some r→(∀ (i':Int),i'=i + 1→L xs (i + 1)=some r→X (.loop f m c (T' i') (S' i') K))→X (.loop f m c (T' i) (S' i) K))
  (hend:∀ (i:Int),i=(l.length:Int)→L [] i=some r→X (.loop f m c (T' i) (S' i) K)) (h:L l 0=some r):X (.loop f m c (T' 0) (S' 0) K):=by
 have key:∀ (xs pre:List α) (i:Int),l=pre++xs→i=(pre.length:Int)→L xs i=some r→X (.loop f m c (T' i) (S' i) K):=by
  intro xs
  induction xs with
  | nil=>intro pre i hl hi h; exact hend i (by rw [hl,hi]; simp) h
  | cons x xs ih=>intro pre i hl hi h; exact hstep pre x xs i hl hi h fun i' hi' h'=>by subst hi'; exact ih (pre++[x]) (i + 1) (by rw [hl]; simp) (by rw [hi]; simp) h'
 exact key l [] 0 rfl rfl h
theorem join0 {R:Type} {X:Task→Prop} {f m:Nat} {c:Code} {K:Ex→List A→List Blk→Prop} {r:R} {G:Prop} {j:Option R} (T':List A) (S':List Blk)
  (main:Hold (j=some r→X (.rest f m c T' S' K))→G) (tail:j=some r→X (.rest f m c T' S' K)):G:=main ⟨tail⟩
theorem loop_lisz1 {R α:Type} {S0:Type} {X:Task→Prop} {f m:Nat} {c:Code} {K:Ex→List A→List Blk→Prop} {r:R} (T':Int→S0→List A) (S':Int→S0→List Blk) (L:List α→S0→Option R) (l pre0 l0:List α) (i0:Int) (hl0:l=pre0++l0) (hi0:i0=(pre0.length:Int))
  (hstep:∀ (pre:List α) (x:α) (xs:List α) (i:Int) (a0:S0),l=pre++x::xs→i=(pre.length:Int)→L (x::xs) a0=some r→(∀ (i':Int) (b0:S0),i'=i + 1→L xs b0=some r→X (.loop f m c (T' i' b0) (S' i' b0) K))→X (.loop f m c (T' i a0) (S' i a0) K))
  (hend:∀ (i:Int) (a0:S0),i=(l.length:Int)→L [] a0=some r→X (.loop f m c (T' i a0) (S' i a0) K)) (a0:S0) (h:L l0 a0=some r):X (.loop f m c (T' i0 a0) (S' i0 a0) K):=by
 have key:∀ (xs pre:List α) (i:Int) (a0:S0),l=pre++xs→i=(pre.length:Int)→L xs a0=some r→X (.loop f m c (T' i a0) (S' i a0) K):=by
  intro xs
  induction xs with
  | nil=>intro pre i a0 hl hi h; exact hend i a0 (by rw [hl,hi]; simp) h
  | cons x xs ih=>intro pre i a0 hl hi h; exact hstep pre x xs i a0 hl hi h fun i' b0 hi' h'=>by subst hi'; exact ih (pre++[x]) (i + 1) b0 (by rw [hl]; simp) (by rw [hi]; simp) h'
 exact key l0 pre0 i0 a0 hl0 hi0 h
theorem loop_lisx1 {R α:Type} {S0:Type} {X:Task→Prop} {f m:Nat} {c:Code} {K:Ex→List A→List Blk→Prop} {r:R} (T':Int→S0→List A) (S':Int→S0→List Blk) (L:List α→S0→Option R) (l:List α)
  (hstep:∀ (pre:List α) (x:α) (xs:List α) (i:Int) (a0:S0),l=pre++x::xs→i=(pre.length:Int)→L (x::xs) a0=some r→(∀ (i':Int) (b0:S0),i'=i + 1→L xs b0=some r→X (.loop f m c (T' i' b0) (S' i' b0) K))→X (.loop f m c (T' i a0) (S' i a0) K))
  (hend:∀ (i:Int) (a0:S0),i=(l.length:Int)→L [] a0=some r→X (.loop f m c (T' i a0) (S' i a0) K)) (a0:S0) (h:L l a0=some r):X (.loop f m c (T' 0 a0) (S' 0 a0) K):=by
 have key:∀ (xs pre:List α) (i:Int) (a0:S0),l=pre++xs→i=(pre.length:Int)→L xs a0=some r→X (.loop f m c (T' i a0) (S' i a0) K):=by
  intro xs
  induction xs with
  | nil=>intro pre i a0 hl hi h; exact hend i a0 (by rw [hl,hi]; simp) h
  | cons x xs ih=>intro pre i a0 hl hi h; exact hstep pre x xs i a0 hl hi h fun i' b0 hi' h'=>by subst hi'; exact ih (pre++[x]) (i + 1) b0 (by rw [hl]; simp) (by rw [hi]; simp) h'
 exact key l [] 0 a0 rfl rfl h
theorem loop_fuel1 {R:Type} {S0:Type} {X:Task→Prop} {f m:Nat} {c:Code} {K:Ex→List A→List Blk→Prop} {r:R} (T':S0→List A) (S':S0→List Blk) (L:Nat→S0→Option R)
  (h0:∀ (a0:S0),L 0 a0=some r→False)
  (hstep:∀ (n:Nat) (a0:S0),L (n + 1) a0=some r→(∀ (b0:S0),L n b0=some r→X (.loop f m c (T' b0) (S' b0) K))→X (.loop f m c (T' a0) (S' a0) K)) (N:Nat) (a0:S0) (h:L N a0=some r):X (.loop f m c (T' a0) (S' a0) K):=by
 induction N generalizing a0 with
 | zero=>exact (h0 a0 h).elim
 | succ N ih=>exact hstep N a0 h fun b0 h'=>ih b0 h'
theorem join1 {R:Type} {S0:Type} {X:Task→Prop} {f m:Nat} {c:Code} {K:Ex→List A→List Blk→Prop} {r:R} {G:Prop} {j:S0→Option R} (T':S0→List A) (S':S0→List Blk)
  (main:Hold (∀ (a0:S0),j a0=some r→X (.rest f m c (T' a0) (S' a0) K))→G) (tail:∀ (a0:S0),j a0=some r→X (.rest f m c (T' a0) (S' a0) K)):G:=main ⟨tail⟩
theorem loop_lisz2 {R α:Type} {S0 S1:Type} {X:Task→Prop} {f m:Nat} {c:Code} {K:Ex→List A→List Blk→Prop} {r:R} (T':Int→S0→S1→List A) (S':Int→S0→S1→List Blk) (L:List α→S0→S1→Option R) (l pre0 l0:List α) (i0:Int) (hl0:l=pre0++l0) (hi0:i0=(pre0.length:Int))
  (hstep:∀ (pre:List α) (x:α) (xs:List α) (i:Int) (a0:S0) (a1:S1),l=pre++x::xs→i=(pre.length:Int)→L (x::xs) a0 a1=some r→(∀ (i':Int) (b0:S0) (b1:S1),i'=i + 1→L xs b0 b1=some r→X (.loop f m c (T' i' b0 b1) (S' i' b0 b1) K))→X (.loop f m c (T' i a0 a1) (S' i a0 a1) K))
  (hend:∀ (i:Int) (a0:S0) (a1:S1),i=(l.length:Int)→L [] a0 a1=some r→X (.loop f m c (T' i a0 a1) (S' i a0 a1) K)) (a0:S0) (a1:S1) (h:L l0 a0 a1=some r):X (.loop f m c (T' i0 a0 a1) (S' i0 a0 a1) K):=by
 have key:∀ (xs pre:List α) (i:Int) (a0:S0) (a1:S1),l=pre++xs→i=(pre.length:Int)→L xs a0 a1=some r→X (.loop f m c (T' i a0 a1) (S' i a0 a1) K):=by
  intro xs
  induction xs with
  | nil=>intro pre i a0 a1 hl hi h; exact hend i a0 a1 (by rw [hl,hi]; simp) h
  | cons x xs ih=>intro pre i a0 a1 hl hi h; exact hstep pre x xs i a0 a1 hl hi h fun i' b0 b1 hi' h'=>by subst hi'; exact ih (pre++[x]) (i + 1) b0 b1 (by rw [hl]; simp) (by rw [hi]; simp) h'
 exact key l0 pre0 i0 a0 a1 hl0 hi0 h
theorem loop_lisx2 {R α:Type} {S0 S1:Type} {X:Task→Prop} {f m:Nat} {c:Code} {K:Ex→List A→List Blk→Prop} {r:R} (T':Int→S0→S1→List A) (S':Int→S0→S1→List Blk) (L:List α→S0→S1→Option R) (l:List α)
  (hstep:∀ (pre:List α) (x:α) (xs:List α) (i:Int) (a0:S0) (a1:S1),l=pre++x::xs→i=(pre.length:Int)→L (x::xs) a0 a1=some r→(∀ (i':Int) (b0:S0) (b1:S1),i'=i + 1→L xs b0 b1=some r→X (.loop f m c (T' i' b0 b1) (S' i' b0 b1) K))→X (.loop f m c (T' i a0 a1) (S' i a0 a1) K))
  (hend:∀ (i:Int) (a0:S0) (a1:S1),i=(l.length:Int)→L [] a0 a1=some r→X (.loop f m c (T' i a0 a1) (S' i a0 a1) K)) (a0:S0) (a1:S1) (h:L l a0 a1=some r):X (.loop f m c (T' 0 a0 a1) (S' 0 a0 a1) K):=by
 have key:∀ (xs pre:List α) (i:Int) (a0:S0) (a1:S1),l=pre++xs→i=(pre.length:Int)→L xs a0 a1=some r→X (.loop f m c (T' i a0 a1) (S' i a0 a1) K):=by
  intro xs
  induction xs with
  | nil=>intro pre i a0 a1 hl hi h; exact hend i a0 a1 (by rw [hl,hi]; simp) h
  | cons x xs ih=>intro pre i a0 a1 hl hi h; exact hstep pre x xs i a0 a1 hl hi h fun i' b0 b1 hi' h'=>by subst hi'; exact ih (pre++[x]) (i + 1) b0 b1 (by rw [hl]; simp) (by rw [hi]; simp) h'
 exact key l [] 0 a0 a1 rfl rfl h
theorem loop_fuel2 {R:Type} {S0 S1:Type} {X:Task→Prop} {f m:Nat} {c:Code} {K:Ex→List A→List Blk→Prop} {r:R} (T':S0→S1→List A) (S':S0→S1→List Blk) (L:Nat→S0→S1→Option R)
  (h0:∀ (a0:S0) (a1:S1),L 0 a0 a1=some r→False)
  (hstep:∀ (n:Nat) (a0:S0) (a1:S1),L (n + 1) a0 a1=some r→(∀ (b0:S0) (b1:S1),L n b0 b1=some r→X (.loop f m c (T' b0 b1) (S' b0 b1) K))→X (.loop f m c (T' a0 a1) (S' a0 a1) K)) (N:Nat) (a0:S0) (a1:S1) (h:L N a0 a1=some r):X (.loop f m c (T' a0 a1) (S' a0 a1) K):=by
 induction N generalizing a0 a1 with
 | zero=>exact (h0 a0 a1 h).elim
 | succ N ih=>exact hstep N a0 a1 h fun b0 b1 h'=>ih b0 b1 h'
theorem join2 {R:Type} {S0 S1:Type} {X:Task→Prop} {f m:Nat} {c:Code} {K:Ex→List A→List Blk→Prop} {r:R} {G:Prop} {j:S0→S1→Option R} (T':S0→S1→List A) (S':S0→S1→List Blk)
  (main:Hold (∀ (a0:S0) (a1:S1),j a0 a1=some r→X (.rest f m c (T' a0 a1) (S' a0 a1) K))→G) (tail:∀ (a0:S0) (a1:S1),j a0 a1=some r→X (.rest f m c (T' a0 a1) (S' a0 a1) K)):G:=main ⟨tail⟩
theorem loop_fuel3 {R:Type} {S0 S1 S2:Type} {X:Task→Prop} {f m:Nat} {c:Code} {K:Ex→List A→List Blk→Prop} {r:R} (T':S0→S1→S2→List A) (S':S0→S1→S2→List Blk) (L:Nat→S0→S1→S2→Option R)
  (h0:∀ (a0:S0) (a1:S1) (a2:S2),L 0 a0 a1 a2=some r→False)
  (hstep:∀ (n:Nat) (a0:S0) (a1:S1) (a2:S2),L (n + 1) a0 a1 a2=some r→(∀ (b0:S0) (b1:S1) (b2:S2),L n b0 b1 b2=some r→X (.loop f m c (T' b0 b1 b2) (S' b0 b1 b2) K))→X (.loop f m c (T' a0 a1 a2) (S' a0 a1 a2) K)) (N:Nat) (a0:S0) (a1:S1) (a2:S2) (h:L N a0 a1 a2=some r):X (.loop f m c (T' a0 a1 a2) (S' a0 a1 a2) K):=by
 induction N generalizing a0 a1 a2 with
 | zero=>exact (h0 a0 a1 a2 h).elim
 | succ N ih=>exact hstep N a0 a1 a2 h fun b0 b1 b2 h'=>ih b0 b1 b2 h'
theorem join7 {R:Type} {S0 S1 S2 S3 S4 S5 S6:Type} {X:Task→Prop} {f m:Nat} {c:Code} {K:Ex→List A→List Blk→Prop} {r:R} {G:Prop} {j:S0→S1→S2→S3→S4→S5→S6→Option R} (T':S0→S1→S2→S3→S4→S5→S6→List A) (S':S0→S1→S2→S3→S4→S5→S6→List Blk)
  (main:Hold (∀ (a0:S0) (a1:S1) (a2:S2) (a3:S3) (a4:S4) (a5:S5) (a6:S6),j a0 a1 a2 a3 a4 a5 a6=some r→X (.rest f m c (T' a0 a1 a2 a3 a4 a5 a6) (S' a0 a1 a2 a3 a4 a5 a6) K))→G) (tail:∀ (a0:S0) (a1:S1) (a2:S2) (a3:S3) (a4:S4) (a5:S5) (a6:S6),j a0 a1 a2 a3 a4 a5 a6=some r→X (.rest f m c (T' a0 a1 a2 a3 a4 a5 a6) (S' a0 a1 a2 a3 a4 a5 a6) K)):G:=main ⟨tail⟩
theorem loop_lisx8 {R α:Type} {S0 S1 S2 S3 S4 S5 S6 S7:Type} {X:Task→Prop} {f m:Nat} {c:Code} {K:Ex→List A→List Blk→Prop} {r:R} (T':Int→S0→S1→S2→S3→S4→S5→S6→S7→List A) (S':Int→S0→S1→S2→S3→S4→S5→S6→S7→List Blk) (L:List α→S0→S1→S2→S3→S4→S5→S6→S7→Option R) (l:List α)
  (hstep:∀ (pre:List α) (x:α) (xs:List α) (i:Int) (a0:S0) (a1:S1) (a2:S2) (a3:S3) (a4:S4) (a5:S5) (a6:S6) (a7:S7),l=pre++x::xs→i=(pre.length:Int)→L (x::xs) a0 a1 a2 a3 a4 a5 a6 a7=some r→(∀ (i':Int) (b0:S0) (b1:S1) (b2:S2) (b3:S3) (b4:S4) (b5:S5) (b6:S6) (b7:S7),i'=i + 1→L xs b0 b1 b2 b3 b4 b5 b6 b7=some r→X (.loop f m c (T' i' b0 b1 b2 b3 b4 b5 b6 b7) (S' i' b0 b1 b2 b3 b4 b5 b6 b7) K))→X (.loop f m c (T' i a0 a1 a2 a3 a4 a5 a6 a7) (S' i a0 a1 a2 a3 a4 a5 a6 a7) K))
  (hend:∀ (i:Int) (a0:S0) (a1:S1) (a2:S2) (a3:S3) (a4:S4) (a5:S5) (a6:S6) (a7:S7),i=(l.length:Int)→L [] a0 a1 a2 a3 a4 a5 a6 a7=some r→X (.loop f m c (T' i a0 a1 a2 a3 a4 a5 a6 a7) (S' i a0 a1 a2 a3 a4 a5 a6 a7) K)) (a0:S0) (a1:S1) (a2:S2) (a3:S3) (a4:S4) (a5:S5) (a6:S6) (a7:S7) (h:L l a0 a1 a2 a3 a4 a5 a6 a7=some r):X (.loop f m c (T' 0 a0 a1 a2 a3 a4 a5 a6 a7) (S' 0 a0 a1 a2 a3 a4 a5 a6 a7) K):=by
 have key:∀ (xs pre:List α) (i:Int) (a0:S0) (a1:S1) (a2:S2) (a3:S3) (a4:S4) (a5:S5) (a6:S6) (a7:S7),l=pre++xs→i=(pre.length:Int)→L xs a0 a1 a2 a3 a4 a5 a6 a7=some r→X (.loop f m c (T' i a0 a1 a2 a3 a4 a5 a6 a7) (S' i a0 a1 a2 a3 a4 a5 a6 a7) K):=by
  intro xs
  induction xs with
  | nil=>intro pre i a0 a1 a2 a3 a4 a5 a6 a7 hl hi h; exact hend i a0 a1 a2 a3 a4 a5 a6 a7 (by rw [hl,hi]; simp) h
  | cons x xs ih=>intro pre i a0 a1 a2 a3 a4 a5 a6 a7 hl hi h; exact hstep pre x xs i a0 a1 a2 a3 a4 a5 a6 a7 hl hi h fun i' b0 b1 b2 b3 b4 b5 b6 b7 hi' h'=>by subst hi'; exact ih (pre++[x]) (i + 1) b0 b1 b2 b3 b4 b5 b6 b7 (by rw [hl]; simp) (by rw [hi]; simp) h'
 exact key l [] 0 a0 a1 a2 a3 a4 a5 a6 a7 rfl rfl h
end Go.Proofs.YtidkmoohgadjkaaGreat
set_option maxHeartbeats 0
namespace Go.Proofs.YtidkmoohgadjkaaGreat
open Go E
noncomputable section
open Pred
def ref06_Among_l1 (p1:ByteArray):List ByteArray→Option (Bool)
  | [] =>
  some false
  | x1e::xs1 =>
  (br (eqS x1e p1)
   (some true)
   (ref06_Among_l1 p1 xs1  ))
def ref06_Among_s (p0:List ByteArray) (p1:ByteArray):Option (Bool) :=
 (chk (smallL p0)
   ((ref06_Among_l1 p1) p0 ))
def ref06_Has_l1 (p1:ByteArray) (p2:Ver):List Frag→Option (Bool)
  | [] =>
  some false
  | x1e::xs1 =>
  (bnd (ref06_Among_s x1e.ids p1) fun y5 =>
   (br y5
    (bnd (ref06_HasVec_s x1e.vec p2) fun y8 =>
     (br y8
      (some true)
      (ref06_Has_l1 p1 p2 xs1  )))
    (ref06_Has_l1 p1 p2 xs1  )))
def ref06_Has_s (p0:Know) (p1:ByteArray) (p2:Ver):Option (Bool) :=
 (bnd (ref06_HasVec_s p0.star p2) fun y1 =>
  (br y1
   (some true)
   (chk (smallL p0.l)
     ((ref06_Has_l1 p1 p2) p0.l ))))
def ref06_insert_j2 (p1:ByteArray) (x1e:ByteArray) (k1:Bool→(List ByteArray)→Option ((List ByteArray))) (v4:Bool) (v5:List ByteArray):Option ((List ByteArray)) :=
 (br (!eqS x1e p1)
  (chk (roomL v5.length 1)
   (k1 v4 (v5++[x1e])))
  (k1 v4 v5))
def ref06_insert_l1 (p1:ByteArray):List ByteArray→Bool→(List ByteArray)→Option ((List ByteArray))
  | [],v1,v3 =>
  (br (!v1)
   (chk (roomL v3.length 1)
    (some (v3++[p1])))
   (some v3))
  | x1e::xs1,v1,v3 =>
  (br (!v1)
   (br (ltS p1 x1e || eqS p1 x1e)
    (chk (roomL v3.length 1)
     (ref06_insert_j2 p1 x1e (fun w0 w1=>ref06_insert_l1 p1 xs1  w0 w1) true (v3++[p1])))
    (ref06_insert_j2 p1 x1e (fun w0 w1=>ref06_insert_l1 p1 xs1  w0 w1) v1 v3))
   (ref06_insert_j2 p1 x1e (fun w0 w1=>ref06_insert_l1 p1 xs1  w0 w1) v1 v3))
def ref06_insert_s (p0:List ByteArray) (p1:ByteArray):Option ((List ByteArray)) :=
 (chk (smallL p0)
   ((ref06_insert_l1 p1) p0 false ([]:List ByteArray)))
def ref06_Names_l2 (k1:(List ByteArray)→Option ((List ByteArray))):List ByteArray→(List ByteArray)→Option ((List ByteArray))
  | [],v4 =>
  (k1 v4)
  | x2e::xs2,v4 =>
  (bnd (ref06_insert_s v4 x2e) fun y5 =>
   (ref06_Names_l2 k1 xs2  y5))
def ref06_Names_l1:List Frag→(List ByteArray)→Option ((List ByteArray))
 | [],v2 =>
 some v2
 | x1e::xs1,v2 =>
 (chk (smallL x1e.ids)
  ((ref06_Names_l2 (fun w0=>ref06_Names_l1 xs1  w0)) x1e.ids v2))
def ref06_Names_s (p0:Know):Option ((List ByteArray)) :=
 (chk (smallL p0.l)
   ((ref06_Names_l1) p0.l ([]:List ByteArray)))
def ref06_beyond_j9 (v15:Int) (v16:Int) (v17:Int) (v18:Int) (v19:Int) (v20:Int) (v21:Int) (v22:Int):Option (V8) :=
 some (V8.mk v15 v16 v17 v18 v19 v20 v21 v22)
def ref06_beyond_j8 (p0:Know) (v9:Int) (v15:Int) (v16:Int) (v17:Int) (v18:Int) (v19:Int) (v20:Int) (v21:Int):Option (V8) :=
 (br (leI v9 p0.star.x7)
  (ref06_beyond_j9 v15 v16 v17 v18 v19 v20 v21 0)
  (ref06_beyond_j9 v15 v16 v17 v18 v19 v20 v21 v9))
def ref06_beyond_j7 (p0:Know) (v8:Int) (v9:Int) (v15:Int) (v16:Int) (v17:Int) (v18:Int) (v19:Int) (v20:Int):Option (V8) :=
 (br (leI v8 p0.star.x6)
  (ref06_beyond_j8 p0 v9 v15 v16 v17 v18 v19 v20 0)
  (ref06_beyond_j8 p0 v9 v15 v16 v17 v18 v19 v20 v8))
def ref06_beyond_j6 (p0:Know) (v7:Int) (v8:Int) (v9:Int) (v15:Int) (v16:Int) (v17:Int) (v18:Int) (v19:Int):Option (V8) :=
 (br (leI v7 p0.star.x5)
  (ref06_beyond_j7 p0 v8 v9 v15 v16 v17 v18 v19 0)
  (ref06_beyond_j7 p0 v8 v9 v15 v16 v17 v18 v19 v7))
def ref06_beyond_j5 (p0:Know) (v6:Int) (v7:Int) (v8:Int) (v9:Int) (v15:Int) (v16:Int) (v17:Int) (v18:Int):Option (V8) :=
 (br (leI v6 p0.star.x4)
  (ref06_beyond_j6 p0 v7 v8 v9 v15 v16 v17 v18 0)
  (ref06_beyond_j6 p0 v7 v8 v9 v15 v16 v17 v18 v6))
def ref06_beyond_j4 (p0:Know) (v5:Int) (v6:Int) (v7:Int) (v8:Int) (v9:Int) (v15:Int) (v16:Int) (v17:Int):Option (V8) :=
 (br (leI v5 p0.star.x3)
  (ref06_beyond_j5 p0 v6 v7 v8 v9 v15 v16 v17 0)
  (ref06_beyond_j5 p0 v6 v7 v8 v9 v15 v16 v17 v5))
def ref06_beyond_j3 (p0:Know) (v4:Int) (v5:Int) (v6:Int) (v7:Int) (v8:Int) (v9:Int) (v15:Int) (v16:Int):Option (V8) :=
 (br (leI v4 p0.star.x2)
  (ref06_beyond_j4 p0 v5 v6 v7 v8 v9 v15 v16 0)
  (ref06_beyond_j4 p0 v5 v6 v7 v8 v9 v15 v16 v4))
def ref06_beyond_j2 (p0:Know) (v3:Int) (v4:Int) (v5:Int) (v6:Int) (v7:Int) (v8:Int) (v9:Int) (v15:Int):Option (V8) :=
 (br (leI v3 p0.star.x1)
  (ref06_beyond_j3 p0 v4 v5 v6 v7 v8 v9 v15 0)
  (ref06_beyond_j3 p0 v4 v5 v6 v7 v8 v9 v15 v3))
def ref06_beyond_l1 (p0:Know) (p1:ByteArray):List Frag→Int→Int→Int→Int→Int→Int→Int→Int→Option (V8)
  | [],v2,v3,v4,v5,v6,v7,v8,v9 =>
  (br (leI v2 p0.star.x0)
   (ref06_beyond_j2 p0 v3 v4 v5 v6 v7 v8 v9 0)
   (ref06_beyond_j2 p0 v3 v4 v5 v6 v7 v8 v9 v2))
  | x1e::xs1,v2,v3,v4,v5,v6,v7,v8,v9 =>
  (bnd (ref06_Among_s x1e.ids p1) fun y10 =>
   (br y10
    (bnd (ref06_Max_s (V8.mk v2 v3 v4 v5 v6 v7 v8 v9) x1e.vec) fun y13 =>
     (ref06_beyond_l1 p0 p1 xs1  y13.x0 y13.x1 y13.x2 y13.x3 y13.x4 y13.x5 y13.x6 y13.x7))
    (ref06_beyond_l1 p0 p1 xs1  v2 v3 v4 v5 v6 v7 v8 v9)))
def ref06_beyond_s (p0:Know) (p1:ByteArray):Option (V8) :=
 (chk (smallL p0.l)
   ((ref06_beyond_l1 p0 p1) p0.l 0 0 0 0 0 0 0 0))
def ref06_Plain_j3 (v12:List Frag) (x2e:ByteArray) (y13:V8) (k2:(List Frag)→Option (Know)) (v16:Int):Option (Know) :=
 (br (eqI v16 (v12.length:Int))
  (chk (roomL v12.length 1)
   (bnd (atL (v12++[(Frag.mk ([]:List ByteArray) y13)]) v16) fun x20 =>
    (chk (roomL x20.ids.length 1)
     (k2 ((v12++[(Frag.mk ([]:List ByteArray) y13)]).set v16.toNat (Frag.mk (x20.ids++[x2e]) x20.vec))))))
  (bnd (atL v12 v16) fun x23 =>
   (chk (roomL x23.ids.length 1)
    (k2 (v12.set v16.toNat (Frag.mk (x23.ids++[x2e]) x23.vec))))))
def ref06_Plain_l4 (v12:List Frag) (x2e:ByteArray) (y13:V8) (k2:(List Frag)→Option (Know)):List Frag→Int→Option (Know)
  | [],v26 =>
  (ref06_Plain_j3 v12 x2e y13 k2 v26)
  | x4e::xs4,v26 =>
  (br (!(eq8 x4e.vec y13))
   (ref06_Plain_l4 v12 x2e y13 k2 xs4 (v26 + 1) )
   (ref06_Plain_j3 v12 x2e y13 k2 v26))
def ref06_Plain_l2 (p0:Know):List ByteArray→(List Frag)→Option (Know)
  | [],v12 =>
  some (Know.mk p0.star v12)
  | x2e::xs2,v12 =>
  (bnd (ref06_beyond_s p0 x2e) fun y13 =>
   (br (eq8 y13 (V8.mk 0 0 0 0 0 0 0 0))
    (ref06_Plain_l2 p0 xs2  v12)
    (chk (smallL v12)
      ((ref06_Plain_l4 v12 x2e y13 (fun w0=>ref06_Plain_l2 p0 xs2  w0)) v12 0 ))))
def ref06_Plain_l1 (p0:Know):List ByteArray→Option (Know)
  | [] =>
  some (Know.mk p0.star [])
  | x1e::xs1 =>
  (bnd (ref06_beyond_s p0 x1e) fun y6 =>
   (br (eq8 y6 (V8.mk 0 0 0 0 0 0 0 0))
    (ref06_Plain_l1 p0 xs1  )
    (chk (roomL 0 1)
     ((ref06_Plain_l2 p0) xs1 [(Frag.mk [x1e] y6)]))))
def ref06_Plain_s (p0:Know):Option (Know) :=
 (bnd (ref06_Names_s p0) fun y1 =>
  (chk (smallL y1)
    ((ref06_Plain_l1 p0) y1 )))
def ref06_Alike_l2 (x4:Frag) (k1:Option (Bool)):List ByteArray→Int→Option (Bool)
  | [],v8 =>
  (k1 )
  | x2e::xs2,v8 =>
  (bnd (atL x4.ids v8) fun x9 =>
   (br (!eqS x2e x9)
    (some false)
    (ref06_Alike_l2 x4 k1 xs2 (v8 + 1) )))
def ref06_Alike_l1 (p1:Know):List Frag→Int→Option (Bool)
  | [],v3 =>
  some true
  | x1e::xs1,v3 =>
  (bnd (atL p1.l v3) fun x4 =>
   (br (!(eq8 x1e.vec x4.vec))
    (some false)
    (br (!eqI (x1e.ids.length:Int) (x4.ids.length:Int))
     (some false)
     (chk (smallL x1e.ids)
       ((ref06_Alike_l2 x4 (ref06_Alike_l1 p1 xs1 (v3 + 1))) x1e.ids 0 )))))
def ref06_Alike_s (p0:Know) (p1:Know):Option (Bool) :=
 (br (!(eq8 p0.star p1.star))
  (some false)
  (br (!eqI (p0.l.length:Int) (p1.l.length:Int))
   (some false)
   (chk (smallL p0.l)
     ((ref06_Alike_l1 p1) p0.l 0 ))))
def ref06_May_l2 (k1:Option (Bool)):List ByteArray→Option (Bool)
  | [] =>
  (k1 )
  | x2e::xs2 =>
  (bnd (ref01_Name_s x2e) fun y14 =>
   (br (!y14)
    (some false)
    (ref06_May_l2 k1 xs2  )))
def ref06_May_l1:List Frag→Option (Bool)
  | [] =>
  some true
  | x1e::xs1 =>
  (bnd (ref06_MayVec_s x1e.vec) fun y10 =>
   (br (!y10)
    (some false)
    (chk (smallL x1e.ids)
      ((ref06_May_l2 (ref06_May_l1 xs1 )) x1e.ids ))))
def ref06_May_s (p0:Know):Option (Bool) :=
 (bnd (ref06_Plain_s p0) fun y1 =>
  (bnd (ref06_Alike_s p0 y1) fun y3 =>
   (bnd (ref06_MayVec_s p0.star) fun y5 =>
    (br (!y3)
     (some false)
     (br (!y5)
      (some false)
      (chk (smallL p0.l)
        ((ref06_May_l1) p0.l )))))))
def ref06_Rises_l1 (p0:List Item):Nat→Int→Option (Bool)
  | 0,_=>none
  | fl1 + 1,v1 =>
  (br (ltI v1 (p0.length:Int))
   (bnd (atL p0 v1) fun x3 =>
    (bnd (atL p0 (wr .i64 (v1 - 1))) fun x5 =>
     (br (ltS x3.id x5.id || eqS x3.id x5.id)
      (some false)
      (ref06_Rises_l1 p0 fl1 (wr .i64 (v1 + 1))))))
   (some true))
def ref06_Rises_s (p0:List Item):Option (Bool) :=
 ((ref06_Rises_l1 p0) fuelN 1)
def ref06_Get_l1 (p1:ByteArray):List Item→Option (Item × Bool)
  | [] =>
  some ((Item.mk ⟨#[]⟩ 0 0 0 ⟨#[]⟩ 0 0 0 false),false)
  | x1e::xs1 =>
  (br (eqS x1e.id p1)
   (some (x1e,true))
   (ref06_Get_l1 p1 xs1  ))
def ref06_Get_s (p0:List Item) (p1:ByteArray):Option (Item × Bool) :=
 (chk (smallL p0)
   ((ref06_Get_l1 p1) p0 ))
def ref06_MayList_l1 (p0:List Item):List Item→Option (Bool)
  | [] =>
  (bnd (ref06_Rises_s p0) fun y5 =>
   some y5)
  | x1e::xs1 =>
  (bnd (ref01_May_s x1e) fun y2 =>
   (br (!y2)
    (some false)
    (ref06_MayList_l1 p0 xs1  )))
def ref06_MayList_s (p0:List Item):Option (Bool) :=
 (chk (smallL p0)
   ((ref06_MayList_l1 p0) p0 ))
variable {X:Task→Prop} (hX:Closed X) {Q:A→List Blk→Prop}
include hX
theorem ref06_Among_c  {p0:List ByteArray} {p1:ByteArray} {r:Bool} (h:ref06_Among_s p0 p1=some r) (hQ:Q (.one (.p (.v (.bool r)))) []):X (.call 89 [.one (.p (.sl (p0.map srw))),.one (.p (.v (.string p1)))] [] Q):=by
  have K:=fun a (e:some a=some r)=>ret_some (f:=fun y=>.one (.p (.v (.bool y)))) (g:=fun y=>[]) e hQ
  unfold ref06_Among_s at h
  refine call_intro hX Tryz.func89 rfl rfl ?_
  revert h
  refine chkk fun hs1 h=>?_
  conv=>whnf
  repeat((first|refine dw ?_);conv=>whnf)
  refine loop_lisx0 (fun (v1:Int)=>pad [(0,.one (.p (.sl (p0.map srw)))),(0,.one (.p (.v (.string p1)))),(3,iv v1)] 12) (fun (v1:Int)=>[]) _ p0 (fun pre1 x1e xs1 v1  hl1 hi1 h ih1=>?_) (fun v1  hi1 h=>?_)  h
  ·rw [ref06_Among_l1] at h
   have am1:=at_mid hl1 hi1
   refine loop_intro hX ?_
   conv=>whnf
   repeat((first|refine dw ?_|refine eqv_to (map_len _) ?_|refine bct (lt_mid hl1 hi1) ?_|refine bct (at_in am1) ?_|refine bct (andt (at_in am1) rfl) ?_|refine row_in (at_row am1) ?_|refine bct (andt (at_in (at_nat am1)) rfl) ?_|refine row_in (at_row (at_nat am1)) ?_);conv=>whnf)
   revert h
   refine brk (fun c2 h=>?_) (fun c2 h=>?_)
   ·conv=>whnf
    repeat((first|refine dw ?_|refine bct c2 ?_);conv=>whnf)
    exact K _ h
   ·conv=>whnf
    repeat((first|refine dw ?_|refine bcf c2 ?_);conv=>whnf)
    exact ih1 _  (wrL hs1 hl1 hi1) h
  ·rw [ref06_Among_l1] at h
   refine loop_intro hX ?_
   conv=>whnf
   repeat((first|refine dw ?_|refine eqv_to (map_len _) ?_|refine bcf (lt_end hi1) ?_);conv=>whnf)
   exact K _ h
theorem ref06_Has_c  {p0:Know} {p1:ByteArray} {p2:Ver} {r:Bool} (h:ref06_Has_s p0 p1 p2=some r) (hQ:Q (.one (.p (.v (.bool r)))) []):X (.call 27 [.agg (Know.cs p0),.one (.p (.v (.string p1))),.agg (Ver.cs p2)] [] Q):=by
  have K:=fun a (e:some a=some r)=>ret_some (f:=fun y=>.one (.p (.v (.bool y)))) (g:=fun y=>[]) e hQ
  unfold ref06_Has_s at h
  refine call_intro hX Tryz.func27 rfl rfl ?_
  revert h
  refine bndk fun y1 e2 h=>?_
  conv=>whnf
  repeat((first|refine dw ?_);conv=>whnf)
  refine ref06_HasVec_c hX e2 ?_
  conv=>whnf
  repeat((first|refine dw ?_);conv=>whnf)
  revert h
  refine brk (fun c3 h=>?_) (fun c3 h=>?_)
  ·conv=>whnf
   repeat((first|refine dw ?_|refine bct c3 ?_);conv=>whnf)
   exact K _ h
  ·revert h
   refine chkk fun hs1 h=>?_
   conv=>whnf
   repeat((first|refine dw ?_|refine bcf c3 ?_);conv=>whnf)
   refine loop_lisx0 (fun (v4:Int)=>pad [(1,.one (.p (.v (.string p1)))),(1,.one (.ptr 0 0)),(1,.one (.ptr 1 0)),(1,iv v4)] 29) (fun (v4:Int)=>[.box (Know.cs p0),.box (Ver.cs p2)]) _ p0.l (fun pre1 x1e xs1 v4  hl1 hi1 h ih1=>?_) (fun v4  hi1 h=>?_)  h
   ·rw [ref06_Has_l1] at h
    have am1:=at_mid hl1 hi1
    refine loop_intro hX ?_
    revert h
    refine bndk fun y5 e6 h=>?_
    conv=>whnf
    repeat((first|refine dw ?_|refine eqv_to (map_len _) ?_|refine bct (lt_mid hl1 hi1) ?_|refine bct (at_in am1) ?_|refine bct (andt (at_in am1) rfl) ?_|refine row_in (at_row am1) ?_|refine bct (andt (at_in (at_nat am1)) rfl) ?_|refine row_in (at_row (at_nat am1)) ?_);conv=>whnf)
    refine ref06_Among_c hX e6 ?_
    conv=>whnf
    repeat((first|refine dw ?_);conv=>whnf)
    revert h
    refine brk (fun c7 h=>?_) (fun c7 h=>?_)
    ·revert h
     refine bndk fun y8 e9 h=>?_
     conv=>whnf
     repeat((first|refine dw ?_|refine bct c7 ?_|refine bct (at_in am1) ?_|refine bct (andt (at_in am1) rfl) ?_|refine row_in (at_row am1) ?_|refine bct (andt (at_in (at_nat am1)) rfl) ?_|refine row_in (at_row (at_nat am1)) ?_);conv=>whnf)
     refine ref06_HasVec_c hX e9 ?_
     conv=>whnf
     repeat((first|refine dw ?_|refine bct c7 ?_);conv=>whnf)
     revert h
     refine brk (fun c10 h=>?_) (fun c10 h=>?_)
     ·conv=>whnf
      repeat((first|refine dw ?_|refine bct c10 ?_);conv=>whnf)
      exact K _ h
     ·conv=>whnf
      repeat((first|refine dw ?_|refine bcf c10 ?_);conv=>whnf)
      exact ih1 _  (wrL hs1 hl1 hi1) h
    ·conv=>whnf
     repeat((first|refine dw ?_|refine bcf c7 ?_);conv=>whnf)
     exact ih1 _  (wrL hs1 hl1 hi1) h
   ·rw [ref06_Has_l1] at h
    refine loop_intro hX ?_
    conv=>whnf
    repeat((first|refine dw ?_|refine eqv_to (map_len _) ?_|refine bcf (lt_end hi1) ?_);conv=>whnf)
    exact K _ h
theorem ref06_insert_c  {p0:List ByteArray} {p1:ByteArray} {r:(List ByteArray)} (h:ref06_insert_s p0 p1=some r) (hQ:Q (.one (.own 0)) [.rows 1 (r.map srw)]):X (.call 232 [.one (.p (.sl (p0.map srw))),.one (.p (.v (.string p1)))] [] Q):=by
  have K:=fun a (e:some a=some r)=>ret_some (f:=fun y=>.one (.own 0)) (g:=fun y=>[.rows 1 (y.map srw)]) e hQ
  unfold ref06_insert_s at h
  refine call_intro hX Tryz.func232 rfl rfl ?_
  replace h:=chk_some h
  obtain ⟨hs1,h⟩:=h
  conv=>whnf
  repeat((first|refine dw ?_);conv=>whnf)
  refine loop_k hX [1] ?_
  conv=>whnf
  refine loop_lisx2 (fun (v2:Int) (v1:Bool) (v3:List ByteArray)=>pad [(0,.one (.p (.sl (p0.map srw)))),(0,.one (.p (.v (.string p1)))),(3,.one (.own 0)),(0,.one (.p (.v (.bool v1)))),(0,iv v2)] 40) (fun (v2:Int) (v1:Bool) (v3:List ByteArray)=>[.rows 1 (v3.map srw)]) _ p0 (fun pre1 x1e xs1 v2 v1 v3 hl1 hi1 h ih1=>?_) (fun v2 v1 v3 hi1 h=>?_) false ([]:List ByteArray) h
  ·rw [ref06_insert_l1] at h
   have am1:=at_mid hl1 hi1
   refine loop_intro hX ?_
   apply join2 (X:=X) (r:=r) (fun (v4:Bool) (v5:List ByteArray)=>pad [(0,.one (.p (.sl (p0.map srw)))),(0,.one (.p (.v (.string p1)))),(3,.one (.own 0)),(0,.one (.p (.v (.bool v4)))),(0,iv v2)] 40) (fun (v4:Bool) (v5:List ByteArray)=>[.rows 1 (v5.map srw)])
   ·intro tl2
    conv=>whnf
    repeat((first|refine dw ?_|refine eqv_to (map_len _) ?_|refine bct (lt_mid hl1 hi1) ?_);conv=>whnf)
    refine br_some h (fun c8 g=>?_) (fun c8 g=>?_)
    ·replace h:=g
     clear g
     conv=>whnf
     repeat((first|refine dw ?_|refine bct c8 ?_|refine bct (at_in am1) ?_|refine bct (andt (at_in am1) rfl) ?_|refine row_in (at_row am1) ?_|refine bct (andt (at_in (at_nat am1)) rfl) ?_|refine row_in (at_row (at_nat am1)) ?_);conv=>whnf)
     refine br_some h (fun c9 g=>?_) (fun c9 g=>?_)
     ·replace h:=g
      clear g
      replace h:=chk_some h
      obtain ⟨c10,h⟩:=h
      conv=>whnf
      repeat((first|refine dw ?_|refine bct c9 ?_|refine bct (room_map c10 rfl rfl rfl rfl) ?_|refine eqv_to (cat_one (f:=srw) v3 p1) ?_);conv=>whnf)
      exact tl2.h true (v3++[p1]) h
     ·replace h:=g
      clear g
      conv=>whnf
      repeat((first|refine dw ?_|refine bcf c9 ?_);conv=>whnf)
      exact tl2.h v1 v3 h
    ·replace h:=g
     clear g
     conv=>whnf
     repeat((first|refine dw ?_|refine bcf c8 ?_);conv=>whnf)
     exact tl2.h v1 v3 h
   ·intro v4 v5 h
    unfold ref06_insert_j2 at h
    refine rest_intro hX ?_
    conv=>whnf
    repeat((first|refine dw ?_|refine bct (at_in am1) ?_|refine bct (andt (at_in am1) rfl) ?_|refine row_in (at_row am1) ?_|refine bct (andt (at_in (at_nat am1)) rfl) ?_|refine row_in (at_row (at_nat am1)) ?_);conv=>whnf)
    refine br_some h (fun c6 g=>?_) (fun c6 g=>?_)
    ·replace h:=g
     clear g
     replace h:=chk_some h
     obtain ⟨c7,h⟩:=h
     conv=>whnf
     repeat((first|refine dw ?_|refine bct c6 ?_|refine bct (at_in am1) ?_|refine bct (andt (at_in am1) rfl) ?_|refine row_in (at_row am1) ?_|refine bct (andt (at_in (at_nat am1)) rfl) ?_|refine row_in (at_row (at_nat am1)) ?_|refine bct (room_map c7 rfl rfl rfl rfl) ?_|refine eqv_to (cat_one (f:=srw) v5 x1e) ?_);conv=>whnf)
     exact ih1 _ v4 (v5++[x1e]) (wrL hs1 hl1 hi1) h
    ·replace h:=g
     clear g
     conv=>whnf
     repeat((first|refine dw ?_|refine bcf c6 ?_);conv=>whnf)
     exact ih1 _ v4 v5 (wrL hs1 hl1 hi1) h
  ·rw [ref06_insert_l1] at h
   refine loop_intro hX ?_
   conv=>whnf
   repeat((first|refine dw ?_|refine eqv_to (map_len _) ?_|refine bcf (lt_end hi1) ?_);conv=>whnf)
   refine br_some h (fun c11 g=>?_) (fun c11 g=>?_)
   ·replace h:=g
    clear g
    replace h:=chk_some h
    obtain ⟨c12,h⟩:=h
    conv=>whnf
    repeat((first|refine dw ?_|refine bct c11 ?_|refine bct (room_map c12 rfl rfl rfl rfl) ?_|refine eqv_to (cat_one (f:=srw) v3 p1) ?_);conv=>whnf)
    exact K _ h
   ·replace h:=g
    clear g
    conv=>whnf
    repeat((first|refine dw ?_|refine bcf c11 ?_);conv=>whnf)
    exact K _ h
theorem ref06_Names_c  {p0:Know} {r:(List ByteArray)} (h:ref06_Names_s p0=some r) (hQ:Q (.one (.p (.sl (r.map srw)))) []):X (.call 205 [.agg (Know.cs p0)] [] Q):=by
  unfold ref06_Names_s at h
  refine call_nz hX ?_
  conv=>whnf
  refine call_intro hX Tryz.func205 rfl rfl ?_
  revert h
  refine chkk fun hs1 h=>?_
  conv=>whnf
  repeat((first|refine dw ?_);conv=>whnf)
  refine loop_k hX [1] ?_
  conv=>whnf
  refine loop_lisx1 (fun (v1:Int) (v2:List ByteArray)=>pad [(1,.one (.ptr 0 0)),(1,.one (.own 1)),(0,iv v1)] 31) (fun (v1:Int) (v2:List ByteArray)=>[.box (Know.cs p0),.rows 1 (v2.map srw)]) _ p0.l (fun pre1 x1e xs1 v1 v2 hl1 hi1 h ih1=>?_) (fun v1 v2 hi1 h=>?_) ([]:List ByteArray) h
  ·rw [ref06_Names_l1] at h
   have am1:=at_mid hl1 hi1
   refine loop_intro hX ?_
   revert h
   refine chkk fun hs2 h=>?_
   conv=>whnf
   repeat((first|refine dw ?_|refine eqv_to (map_len _) ?_|refine bct (lt_mid hl1 hi1) ?_);conv=>whnf)
   refine loop_lisx1 (fun (v3:Int) (v4:List ByteArray)=>pad [(1,.one (.ptr 0 0)),(1,.one (.own 1)),(0,iv v1),(0,iv v3)] 30) (fun (v3:Int) (v4:List ByteArray)=>[.box (Know.cs p0),.rows 1 (v4.map srw)]) _ x1e.ids (fun pre2 x2e xs2 v3 v4 hl2 hi2 h ih2=>?_) (fun v3 v4 hi2 h=>?_) v2 h
   ·rw [ref06_Names_l2] at h
    have am2:=at_mid hl2 hi2
    refine loop_intro hX ?_
    revert h
    refine bndk fun y5 e6 h=>?_
    conv=>whnf
    repeat((first|refine dw ?_|refine bct (at_in am1) ?_|refine bct (andt (at_in am1) rfl) ?_|refine row_in (at_row am1) ?_|refine bct (andt (at_in (at_nat am1)) rfl) ?_|refine row_in (at_row (at_nat am1)) ?_|refine eqv_to (map_len _) ?_|refine bct (lt_mid hl2 hi2) ?_|refine bct (at_in am2) ?_|refine bct (andt (at_in am2) rfl) ?_|refine row_in (at_row am2) ?_|refine bct (andt (at_in (at_nat am2)) rfl) ?_|refine row_in (at_row (at_nat am2)) ?_);conv=>whnf)
    refine Or.inl ?_
    conv=>whnf
    refine ref06_insert_c hX e6 ?_
    conv=>whnf
    repeat((first|refine dw ?_);conv=>whnf)
    exact ih2 _ y5 (wrL hs2 hl2 hi2) h
   ·rw [ref06_Names_l2] at h
    refine loop_intro hX ?_
    conv=>whnf
    repeat((first|refine dw ?_|refine bct (at_in am1) ?_|refine bct (andt (at_in am1) rfl) ?_|refine row_in (at_row am1) ?_|refine bct (andt (at_in (at_nat am1)) rfl) ?_|refine row_in (at_row (at_nat am1)) ?_|refine eqv_to (map_len _) ?_|refine bcf (lt_end hi2) ?_);conv=>whnf)
    exact ih1 _ v4 (wrL hs1 hl1 hi1) h
  ·rw [ref06_Names_l1] at h
   refine loop_intro hX ?_
   conv=>whnf
   repeat((first|refine dw ?_|refine eqv_to (map_len _) ?_|refine bcf (lt_end hi1) ?_);conv=>whnf)
   exact ret_some (f:=fun y=>.one (.p (.sl (y.map srw)))) (g:=fun y=>[]) h hQ
theorem ref06_beyond_c  {p0:Know} {p1:ByteArray} {r:V8} (h:ref06_beyond_s p0 p1=some r) (hQ:Q (.agg (V8.cs r)) []):X (.call 206 [.agg (Know.cs p0),.one (.p (.v (.string p1)))] [] Q):=by
  unfold ref06_beyond_s at h
  refine call_intro hX Tryz.func206 rfl rfl ?_
  replace h:=chk_some h
  obtain ⟨hs1,h⟩:=h
  conv=>whnf
  repeat((first|refine dw ?_);conv=>whnf)
  refine loop_lisx8 (fun (v1:Int) (v2:Int) (v3:Int) (v4:Int) (v5:Int) (v6:Int) (v7:Int) (v8:Int) (v9:Int)=>pad [(1,.one (.p (.v (.string p1)))),(0,.one (.ptr 0 0)),(1,.one (.ptr 1 0)),(0,.one (.ptr 2 0)),(0,iv v1)] 39) (fun (v1:Int) (v2:Int) (v3:Int) (v4:Int) (v5:Int) (v6:Int) (v7:Int) (v8:Int) (v9:Int)=>[.box (Know.cs p0),.box [ic 0,ic 0,ic 0,ic 0,ic 0,ic 0,ic 0,ic 0],.box [ic v2,ic v3,ic v4,ic v5,ic v6,ic v7,ic v8,ic v9]]) _ p0.l (fun pre1 x1e xs1 v1 v2 v3 v4 v5 v6 v7 v8 v9 hl1 hi1 h ih1=>?_) (fun v1 v2 v3 v4 v5 v6 v7 v8 v9 hi1 h=>?_) 0 0 0 0 0 0 0 0 h
  ·rw [ref06_beyond_l1] at h
   have am1:=at_mid hl1 hi1
   refine loop_intro hX ?_
   replace h:=bnd_some h
   obtain ⟨y10,e11,h⟩:=h
   conv=>whnf
   repeat((first|refine dw ?_|refine eqv_to (map_len _) ?_|refine bct (lt_mid hl1 hi1) ?_|refine bct (at_in am1) ?_|refine bct (andt (at_in am1) rfl) ?_|refine row_in (at_row am1) ?_|refine bct (andt (at_in (at_nat am1)) rfl) ?_|refine row_in (at_row (at_nat am1)) ?_);conv=>whnf)
   refine ref06_Among_c hX e11 ?_
   conv=>whnf
   repeat((first|refine dw ?_);conv=>whnf)
   refine br_some h (fun c12 g=>?_) (fun c12 g=>?_)
   ·replace h:=g
    clear g
    replace h:=bnd_some h
    obtain ⟨y13,e14,h⟩:=h
    conv=>whnf
    repeat((first|refine dw ?_|refine bct c12 ?_|refine bct (at_in am1) ?_|refine bct (andt (at_in am1) rfl) ?_|refine row_in (at_row am1) ?_|refine bct (andt (at_in (at_nat am1)) rfl) ?_|refine row_in (at_row (at_nat am1)) ?_);conv=>whnf)
    refine ref06_Max_c hX e14 ?_
    conv=>whnf
    repeat((first|refine dw ?_);conv=>whnf)
    exact ih1 _ y13.x0 y13.x1 y13.x2 y13.x3 y13.x4 y13.x5 y13.x6 y13.x7 (wrL hs1 hl1 hi1) h
   ·replace h:=g
    clear g
    conv=>whnf
    repeat((first|refine dw ?_|refine bcf c12 ?_);conv=>whnf)
    exact ih1 _ v2 v3 v4 v5 v6 v7 v8 v9 (wrL hs1 hl1 hi1) h
  ·rw [ref06_beyond_l1] at h
   refine loop_intro hX ?_
   conv=>whnf
   repeat((first|refine dw ?_|refine eqv_to (map_len _) ?_|refine bcf (lt_end hi1) ?_);conv=>whnf)
   refine loop_intro hX ?_
   apply join1 (X:=X) (r:=r) (fun (v15:Int)=>pad [(2,.one (.ptr 0 0)),(1,.one (.ptr 1 0)),(0,.one (.ptr 2 0)),(1,iv 0)] 38) (fun (v15:Int)=>[.box (Know.cs p0),.box [ic 0,ic 0,ic 0,ic 0,ic 0,ic 0,ic 0,ic 0],.box [ic v15,ic v3,ic v4,ic v5,ic v6,ic v7,ic v8,ic v9]])
   ·intro tl2
    conv=>whnf
    repeat((first|refine dw ?_);conv=>whnf)
    refine br_some h (fun c30 g=>?_) (fun c30 g=>?_)
    ·replace h:=g
     clear g
     conv=>whnf
     repeat((first|refine dw ?_|refine bct c30 ?_);conv=>whnf)
     exact tl2.h 0 h
    ·replace h:=g
     clear g
     conv=>whnf
     repeat((first|refine dw ?_|refine bcf c30 ?_);conv=>whnf)
     exact tl2.h v2 h
   ·intro v15 h
    unfold ref06_beyond_j2 at h
    refine rest_intro hX ?_
    conv=>whnf
    repeat((first|refine dw ?_);conv=>whnf)
    refine loop_intro hX ?_
    apply join1 (X:=X) (r:=r) (fun (v16:Int)=>pad [(2,.one (.ptr 0 0)),(1,.one (.ptr 1 0)),(0,.one (.ptr 2 0)),(1,iv 1)] 38) (fun (v16:Int)=>[.box (Know.cs p0),.box [ic 0,ic 0,ic 0,ic 0,ic 0,ic 0,ic 0,ic 0],.box [ic v15,ic v16,ic v4,ic v5,ic v6,ic v7,ic v8,ic v9]])
    ·intro tl3
     conv=>whnf
     repeat((first|refine dw ?_);conv=>whnf)
     refine br_some h (fun c29 g=>?_) (fun c29 g=>?_)
     ·replace h:=g
      clear g
      conv=>whnf
      repeat((first|refine dw ?_|refine bct c29 ?_);conv=>whnf)
      exact tl3.h 0 h
     ·replace h:=g
      clear g
      conv=>whnf
      repeat((first|refine dw ?_|refine bcf c29 ?_);conv=>whnf)
      exact tl3.h v3 h
    ·intro v16 h
     unfold ref06_beyond_j3 at h
     refine rest_intro hX ?_
     conv=>whnf
     repeat((first|refine dw ?_);conv=>whnf)
     refine loop_intro hX ?_
     apply join1 (X:=X) (r:=r) (fun (v17:Int)=>pad [(2,.one (.ptr 0 0)),(1,.one (.ptr 1 0)),(0,.one (.ptr 2 0)),(1,iv 2)] 38) (fun (v17:Int)=>[.box (Know.cs p0),.box [ic 0,ic 0,ic 0,ic 0,ic 0,ic 0,ic 0,ic 0],.box [ic v15,ic v16,ic v17,ic v5,ic v6,ic v7,ic v8,ic v9]])
     ·intro tl4
      conv=>whnf
      repeat((first|refine dw ?_);conv=>whnf)
      refine br_some h (fun c28 g=>?_) (fun c28 g=>?_)
      ·replace h:=g
       clear g
       conv=>whnf
       repeat((first|refine dw ?_|refine bct c28 ?_);conv=>whnf)
       exact tl4.h 0 h
      ·replace h:=g
       clear g
       conv=>whnf
       repeat((first|refine dw ?_|refine bcf c28 ?_);conv=>whnf)
       exact tl4.h v4 h
     ·intro v17 h
      unfold ref06_beyond_j4 at h
      refine rest_intro hX ?_
      conv=>whnf
      repeat((first|refine dw ?_);conv=>whnf)
      refine loop_intro hX ?_
      apply join1 (X:=X) (r:=r) (fun (v18:Int)=>pad [(2,.one (.ptr 0 0)),(1,.one (.ptr 1 0)),(0,.one (.ptr 2 0)),(1,iv 3)] 38) (fun (v18:Int)=>[.box (Know.cs p0),.box [ic 0,ic 0,ic 0,ic 0,ic 0,ic 0,ic 0,ic 0],.box [ic v15,ic v16,ic v17,ic v18,ic v6,ic v7,ic v8,ic v9]])
      ·intro tl5
       conv=>whnf
       repeat((first|refine dw ?_);conv=>whnf)
       refine br_some h (fun c27 g=>?_) (fun c27 g=>?_)
       ·replace h:=g
        clear g
        conv=>whnf
        repeat((first|refine dw ?_|refine bct c27 ?_);conv=>whnf)
        exact tl5.h 0 h
       ·replace h:=g
        clear g
        conv=>whnf
        repeat((first|refine dw ?_|refine bcf c27 ?_);conv=>whnf)
        exact tl5.h v5 h
      ·intro v18 h
       unfold ref06_beyond_j5 at h
       refine rest_intro hX ?_
       conv=>whnf
       repeat((first|refine dw ?_);conv=>whnf)
       refine loop_intro hX ?_
       apply join1 (X:=X) (r:=r) (fun (v19:Int)=>pad [(2,.one (.ptr 0 0)),(1,.one (.ptr 1 0)),(0,.one (.ptr 2 0)),(1,iv 4)] 38) (fun (v19:Int)=>[.box (Know.cs p0),.box [ic 0,ic 0,ic 0,ic 0,ic 0,ic 0,ic 0,ic 0],.box [ic v15,ic v16,ic v17,ic v18,ic v19,ic v7,ic v8,ic v9]])
       ·intro tl6
        conv=>whnf
        repeat((first|refine dw ?_);conv=>whnf)
        refine br_some h (fun c26 g=>?_) (fun c26 g=>?_)
        ·replace h:=g
         clear g
         conv=>whnf
         repeat((first|refine dw ?_|refine bct c26 ?_);conv=>whnf)
         exact tl6.h 0 h
        ·replace h:=g
         clear g
         conv=>whnf
         repeat((first|refine dw ?_|refine bcf c26 ?_);conv=>whnf)
         exact tl6.h v6 h
       ·intro v19 h
        unfold ref06_beyond_j6 at h
        refine rest_intro hX ?_
        conv=>whnf
        repeat((first|refine dw ?_);conv=>whnf)
        refine loop_intro hX ?_
        apply join1 (X:=X) (r:=r) (fun (v20:Int)=>pad [(2,.one (.ptr 0 0)),(1,.one (.ptr 1 0)),(0,.one (.ptr 2 0)),(1,iv 5)] 38) (fun (v20:Int)=>[.box (Know.cs p0),.box [ic 0,ic 0,ic 0,ic 0,ic 0,ic 0,ic 0,ic 0],.box [ic v15,ic v16,ic v17,ic v18,ic v19,ic v20,ic v8,ic v9]])
        ·intro tl7
         conv=>whnf
         repeat((first|refine dw ?_);conv=>whnf)
         refine br_some h (fun c25 g=>?_) (fun c25 g=>?_)
         ·replace h:=g
          clear g
          conv=>whnf
          repeat((first|refine dw ?_|refine bct c25 ?_);conv=>whnf)
          exact tl7.h 0 h
         ·replace h:=g
          clear g
          conv=>whnf
          repeat((first|refine dw ?_|refine bcf c25 ?_);conv=>whnf)
          exact tl7.h v7 h
        ·intro v20 h
         unfold ref06_beyond_j7 at h
         refine rest_intro hX ?_
         conv=>whnf
         repeat((first|refine dw ?_);conv=>whnf)
         refine loop_intro hX ?_
         apply join1 (X:=X) (r:=r) (fun (v21:Int)=>pad [(2,.one (.ptr 0 0)),(1,.one (.ptr 1 0)),(0,.one (.ptr 2 0)),(1,iv 6)] 38) (fun (v21:Int)=>[.box (Know.cs p0),.box [ic 0,ic 0,ic 0,ic 0,ic 0,ic 0,ic 0,ic 0],.box [ic v15,ic v16,ic v17,ic v18,ic v19,ic v20,ic v21,ic v9]])
         ·intro tl8
          conv=>whnf
          repeat((first|refine dw ?_);conv=>whnf)
          refine br_some h (fun c24 g=>?_) (fun c24 g=>?_)
          ·replace h:=g
           clear g
           conv=>whnf
           repeat((first|refine dw ?_|refine bct c24 ?_);conv=>whnf)
           exact tl8.h 0 h
          ·replace h:=g
           clear g
           conv=>whnf
           repeat((first|refine dw ?_|refine bcf c24 ?_);conv=>whnf)
           exact tl8.h v8 h
         ·intro v21 h
          unfold ref06_beyond_j8 at h
          refine rest_intro hX ?_
          conv=>whnf
          repeat((first|refine dw ?_);conv=>whnf)
          refine loop_intro hX ?_
          apply join1 (X:=X) (r:=r) (fun (v22:Int)=>pad [(2,.one (.ptr 0 0)),(1,.one (.ptr 1 0)),(0,.one (.ptr 2 0)),(1,iv 7)] 38) (fun (v22:Int)=>[.box (Know.cs p0),.box [ic 0,ic 0,ic 0,ic 0,ic 0,ic 0,ic 0,ic 0],.box [ic v15,ic v16,ic v17,ic v18,ic v19,ic v20,ic v21,ic v22]])
          ·intro tl9
           conv=>whnf
           repeat((first|refine dw ?_);conv=>whnf)
           refine br_some h (fun c23 g=>?_) (fun c23 g=>?_)
           ·replace h:=g
            clear g
            conv=>whnf
            repeat((first|refine dw ?_|refine bct c23 ?_);conv=>whnf)
            exact tl9.h 0 h
           ·replace h:=g
            clear g
            conv=>whnf
            repeat((first|refine dw ?_|refine bcf c23 ?_);conv=>whnf)
            exact tl9.h v9 h
          ·intro v22 h
           unfold ref06_beyond_j9 at h
           refine rest_intro hX ?_
           conv=>whnf
           repeat((first|refine dw ?_);conv=>whnf)
           refine loop_intro hX ?_
           conv=>whnf
           repeat((first|refine dw ?_);conv=>whnf)
           exact ret_some (f:=fun y=>.agg (V8.cs y)) (g:=fun y=>[]) h hQ
theorem ref06_Plain_c  {p0:Know} {r:Know} (h:ref06_Plain_s p0=some r) (hQ:Q (.agg (Know.cs r)) []):X (.call 153 [.agg (Know.cs p0)] [] Q):=by
  have K:=fun a (e:some a=some r)=>ret_some (f:=fun y=>.agg (Know.cs y)) (g:=fun y=>[]) e hQ
  unfold ref06_Plain_s at h
  refine call_nz hX ?_
  conv=>whnf
  refine call_intro hX Tryz.func153 rfl rfl ?_
  replace h:=bnd_some h
  obtain ⟨y1,e2,h⟩:=h
  conv=>whnf
  repeat((first|refine dw ?_);conv=>whnf)
  refine ref06_Names_c hX e2 ?_
  replace h:=chk_some h
  obtain ⟨hs1,h⟩:=h
  conv=>whnf
  repeat((first|refine dw ?_);conv=>whnf)
  refine loop_nc hX ?_
  conv=>whnf
  refine loop_lisx0 (fun (v5:Int)=>pad [(1,.one (.ptr 0 0)),(0,.one (.ptr 1 0)),(0,.one (.ptr 3 0)),(0,.one (.p (.sl (y1.map srw)))),(0,iv v5)] 69) (fun (v5:Int)=>[.box (Know.cs p0),.box [ic 0,ic 0,ic 0,ic 0,ic 0,ic 0,ic 0,ic 0,.own 2],.rows 0 [],.box [ic p0.star.x0,ic p0.star.x1,ic p0.star.x2,ic p0.star.x3,ic p0.star.x4,ic p0.star.x5,ic p0.star.x6,ic p0.star.x7,.own 4],.rows 0 []]) _ y1 (fun pre1 x1e xs1 v5  hl1 hi1 h ih1=>?_) (fun v5  hi1 h=>?_)  h
  ·rw [ref06_Plain_l1] at h
   have am1:=at_mid hl1 hi1
   refine loop_intro hX ?_
   replace h:=bnd_some h
   obtain ⟨y6,e7,h⟩:=h
   conv=>whnf
   repeat((first|refine dw ?_|refine eqv_to (map_len _) ?_|refine bct (lt_mid hl1 hi1) ?_|refine bct (at_in am1) ?_|refine bct (andt (at_in am1) rfl) ?_|refine row_in (at_row am1) ?_|refine bct (andt (at_in (at_nat am1)) rfl) ?_|refine row_in (at_row (at_nat am1)) ?_);conv=>whnf)
   refine ref06_beyond_c hX e7 ?_
   conv=>whnf
   repeat((first|refine dw ?_);conv=>whnf)
   refine br_some h (fun c8 g=>?_) (fun c8 g=>?_)
   ·replace h:=g
    clear g
    conv=>whnf
    repeat((first|refine dw ?_|with_reducible refine bct (eq8_b c8) ?_|refine bct c8 ?_);conv=>whnf)
    exact ih1 _  (wrL hs1 hl1 hi1) h
   ·replace h:=g
    clear g
    conv=>whnf
    repeat((first|refine dw ?_|with_reducible refine bcf (eq8_b c8) ?_|refine bcf c8 ?_);conv=>whnf)
    refine loop_intro hX ?_
    conv=>whnf
    repeat((first|refine dw ?_|refine eqv_to (b:=0) rfl ?_);conv=>whnf)
    refine rest_intro hX ?_
    replace h:=chk_some h
    obtain ⟨c10,h⟩:=h
    have hs2:=hs1
    conv=>whnf
    repeat((first|refine dw ?_|refine eqv_to (b:=0) rfl ?_|refine Two.r ?_|refine bct (by rfl) ?_|refine bct (by decide) ?_|refine bct (at_in am1) ?_|refine bct (andt (at_in am1) rfl) ?_|refine row_in (at_row am1) ?_|refine bct (andt (at_in (at_nat am1)) rfl) ?_|refine row_in (at_row (at_nat am1)) ?_|refine bct (room_zero c10 rfl rfl rfl rfl) ?_|refine eqv_to (nil_one (f:=srw) x1e) ?_|refine eqv_to (b:=([(Frag.mk [x1e] y6)].map Frag.row)) rfl ?_);conv=>whnf)
    refine loop_nc hX ?_
    conv=>whnf
    refine loop_lisz1 (fun (v11:Int) (v12:List Frag)=>pad [(1,.one (.ptr 0 0)),(0,.one (.ptr 1 0)),(0,.one (.ptr 3 0)),(0,.one (.p (.sl (y1.map srw)))),(0,iv v11)] 69) (fun (v11:Int) (v12:List Frag)=>[.box (Know.cs p0),.box [ic 0,ic 0,ic 0,ic 0,ic 0,ic 0,ic 0,ic 0,.own 2],.rows 0 [],.box [ic p0.star.x0,ic p0.star.x1,ic p0.star.x2,ic p0.star.x3,ic p0.star.x4,ic p0.star.x5,ic p0.star.x6,ic p0.star.x7,.own 4],.nest 9 0 1 (v12.map Frag.row)]) _ y1 _ xs1 _ (next_cut hl1) (next_len hs1 hl1 hi1) (fun pre2 x2e xs2 v11 v12 hl2 hi2 h ih2=>?_) (fun v11 v12 hi2 h=>?_) [(Frag.mk [x1e] y6)] h
    ·rw [ref06_Plain_l2] at h
     have am2:=at_mid hl2 hi2
     refine loop_intro hX ?_
     replace h:=bnd_some h
     obtain ⟨y13,e14,h⟩:=h
     conv=>whnf
     repeat((first|refine dw ?_|refine eqv_to (map_len _) ?_|refine bct (lt_mid hl2 hi2) ?_|refine bct (at_in am2) ?_|refine bct (andt (at_in am2) rfl) ?_|refine row_in (at_row am2) ?_|refine bct (andt (at_in (at_nat am2)) rfl) ?_|refine row_in (at_row (at_nat am2)) ?_);conv=>whnf)
     refine ref06_beyond_c hX e14 ?_
     conv=>whnf
     repeat((first|refine dw ?_);conv=>whnf)
     refine br_some h (fun c15 g=>?_) (fun c15 g=>?_)
     ·replace h:=g
      clear g
      conv=>whnf
      repeat((first|refine dw ?_|with_reducible refine bct (eq8_b c15) ?_|refine bct c15 ?_);conv=>whnf)
      exact ih2 _ v12 (wrL hs2 hl2 hi2) h
     ·replace h:=g
      clear g
      apply join1 (X:=X) (r:=r) (fun (v16:Int)=>pad [(1,.one (.ptr 0 0)),(0,.one (.ptr 1 0)),(0,.one (.ptr 3 0)),(0,.one (.p (.sl (y1.map srw)))),(0,iv v11),(0,.one (.ptr 5 0)),(0,iv v16)] 67) (fun (v16:Int)=>[.box (Know.cs p0),.box [ic 0,ic 0,ic 0,ic 0,ic 0,ic 0,ic 0,ic 0,.own 2],.rows 0 [],.box [ic p0.star.x0,ic p0.star.x1,ic p0.star.x2,ic p0.star.x3,ic p0.star.x4,ic p0.star.x5,ic p0.star.x6,ic p0.star.x7,.own 4],.nest 9 0 1 (v12.map Frag.row),.box (V8.cs y13)])
      ·intro tl3
       replace h:=chk_some h
       obtain ⟨hs4,h⟩:=h
       conv=>whnf
       repeat((first|refine dw ?_|with_reducible refine bcf (eq8_b c15) ?_|refine bcf c15 ?_);conv=>whnf)
       refine loop_list0 (fun (v26:Int)=>pad [(1,.one (.ptr 0 0)),(0,.one (.ptr 1 0)),(0,.one (.ptr 3 0)),(0,.one (.p (.sl (y1.map srw)))),(0,iv v11),(0,.one (.ptr 5 0)),(0,iv v26)] 67) (fun (v26:Int)=>[.box (Know.cs p0),.box [ic 0,ic 0,ic 0,ic 0,ic 0,ic 0,ic 0,ic 0,.own 2],.rows 0 [],.box [ic p0.star.x0,ic p0.star.x1,ic p0.star.x2,ic p0.star.x3,ic p0.star.x4,ic p0.star.x5,ic p0.star.x6,ic p0.star.x7,.own 4],.nest 9 0 1 (v12.map Frag.row),.box (V8.cs y13)]) _ v12 (fun pre4 x4e xs4 v26  hl4 hi4 h ih4=>?_) (fun v26  hi4 h=>?_)  h
       ·rw [ref06_Plain_l4] at h
        have am4:=at_mid hl4 hi4
        refine loop_intro hX ?_
        conv=>whnf
        repeat((first|refine dw ?_|refine eqv_to (map_len _) ?_|refine bct (lt_mid hl4 hi4) ?_|refine bct (at_in am4) ?_|refine bct (andt (at_in am4) rfl) ?_|refine row_in (at_row am4) ?_|refine bct (andt (at_in (at_nat am4)) rfl) ?_|refine row_in (at_row (at_nat am4)) ?_|refine bct (and3 (at_in (at_nat am4)) rfl rfl) ?_|refine bct (andt rfl rfl) ?_);conv=>whnf)
        refine br_some h (fun c27 g=>?_) (fun c27 g=>?_)
        ·replace h:=g
         clear g
         conv=>whnf
         repeat((first|refine dw ?_|refine bct c27 ?_);conv=>whnf)
         exact ih4 _  (wrL hs4 hl4 hi4) h
        ·replace h:=g
         clear g
         conv=>whnf
         repeat((first|refine dw ?_|refine bcf c27 ?_);conv=>whnf)
         exact tl3.h v26 h
       ·rw [ref06_Plain_l4] at h
        refine loop_intro hX ?_
        conv=>whnf
        repeat((first|refine dw ?_|refine eqv_to (map_len _) ?_|refine bcf (lt_end hi4) ?_);conv=>whnf)
        exact tl3.h v26 h
      ·intro v16 h
       unfold ref06_Plain_j3 at h
       refine rest_intro hX ?_
       conv=>whnf
       repeat((first|refine dw ?_|refine eqv_to (map_len _) ?_);conv=>whnf)
       refine br_some h (fun c17 g=>?_) (fun c17 g=>?_)
       ·replace h:=g
        clear g
        replace h:=chk_some h
        obtain ⟨c19,h⟩:=h
        replace h:=bnd_some h
        obtain ⟨x20,a21,h⟩:=h
        replace h:=chk_some h
        obtain ⟨c22,h⟩:=h
        conv=>whnf
        repeat((first|refine dw ?_|refine bct c17 ?_|refine Two.r ?_|refine bct (room_nest c19 rfl rfl rfl) ?_|refine eqv_to (cat_one (f:=Frag.row) v12 (Frag.mk ([]:List ByteArray) y13)) ?_|refine bct (at_in a21) ?_|refine bct (andt (at_in a21) rfl) ?_|refine row_in (at_row a21) ?_|refine bct (andt (at_in (at_nat a21)) rfl) ?_|refine row_in (at_row (at_nat a21)) ?_|refine bct (and3 (at_in (at_nat a21)) rfl rfl) ?_|refine bct (and3 (at_in a21) rfl rfl) ?_|refine bct (at_in am2) ?_|refine bct (andt (at_in am2) rfl) ?_|refine row_in (at_row am2) ?_|refine bct (andt (at_in (at_nat am2)) rfl) ?_|refine row_in (at_row (at_nat am2)) ?_|refine bct (room_map c22 rfl rfl rfl rfl) ?_|refine eqv_to (cat_one (f:=srw) x20.ids x2e) ?_|refine bct (and4 (at_in (at_nat a21)) rfl rfl (natbeq_self _)) ?_|refine bct (and4 (at_in a21) rfl rfl (natbeq_self _)) ?_|refine eqv_to (set_map (f:=Frag.row) (v12++[(Frag.mk ([]:List ByteArray) y13)]) v16.toNat (Frag.mk (x20.ids++[x2e]) x20.vec)) ?_);conv=>whnf)
        exact ih2 _ ((v12++[(Frag.mk ([]:List ByteArray) y13)]).set v16.toNat (Frag.mk (x20.ids++[x2e]) x20.vec)) (wrL hs2 hl2 hi2) h
       ·replace h:=g
        clear g
        replace h:=bnd_some h
        obtain ⟨x23,a24,h⟩:=h
        replace h:=chk_some h
        obtain ⟨c25,h⟩:=h
        conv=>whnf
        repeat((first|refine dw ?_|refine bcf c17 ?_|refine bct (at_in a24) ?_|refine bct (andt (at_in a24) rfl) ?_|refine row_in (at_row a24) ?_|refine bct (andt (at_in (at_nat a24)) rfl) ?_|refine row_in (at_row (at_nat a24)) ?_|refine bct (and3 (at_in (at_nat a24)) rfl rfl) ?_|refine bct (and3 (at_in a24) rfl rfl) ?_|refine bct (at_in am2) ?_|refine bct (andt (at_in am2) rfl) ?_|refine row_in (at_row am2) ?_|refine bct (andt (at_in (at_nat am2)) rfl) ?_|refine row_in (at_row (at_nat am2)) ?_|refine bct (room_map c25 rfl rfl rfl rfl) ?_|refine eqv_to (cat_one (f:=srw) x23.ids x2e) ?_|refine bct (and4 (at_in (at_nat a24)) rfl rfl (natbeq_self _)) ?_|refine bct (and4 (at_in a24) rfl rfl (natbeq_self _)) ?_|refine eqv_to (set_map (f:=Frag.row) v12 v16.toNat (Frag.mk (x23.ids++[x2e]) x23.vec)) ?_);conv=>whnf)
        exact ih2 _ (v12.set v16.toNat (Frag.mk (x23.ids++[x2e]) x23.vec)) (wrL hs2 hl2 hi2) h
    ·rw [ref06_Plain_l2] at h
     refine loop_intro hX ?_
     conv=>whnf
     repeat((first|refine dw ?_|refine eqv_to (map_len _) ?_|refine bcf (lt_end hi2) ?_);conv=>whnf)
     exact K _ h
  ·rw [ref06_Plain_l1] at h
   refine loop_intro hX ?_
   conv=>whnf
   repeat((first|refine dw ?_|refine eqv_to (map_len _) ?_|refine bcf (lt_end hi1) ?_);conv=>whnf)
   exact K _ h
theorem ref06_Alike_c  {p0:Know} {p1:Know} {r:Bool} (h:ref06_Alike_s p0 p1=some r) (hQ:Q (.one (.p (.v (.bool r)))) []):X (.call 103 [.agg (Know.cs p0),.agg (Know.cs p1)] [] Q):=by
  have K:=fun a (e:some a=some r)=>ret_some (f:=fun y=>.one (.p (.v (.bool y)))) (g:=fun y=>[]) e hQ
  unfold ref06_Alike_s at h
  refine call_intro hX Tryz.func103 rfl rfl ?_
  conv=>whnf
  repeat((first|refine dw ?_);conv=>whnf)
  revert h
  refine brk (fun c1 h=>?_) (fun c1 h=>?_)
  ·conv=>whnf
   repeat((first|refine dw ?_|refine bct c1 ?_);conv=>whnf)
   exact K _ h
  ·conv=>whnf
   repeat((first|refine dw ?_|refine bcf c1 ?_|refine eqv_to (map_len _) ?_);conv=>whnf)
   revert h
   refine brk (fun c2 h=>?_) (fun c2 h=>?_)
   ·conv=>whnf
    repeat((first|refine dw ?_|refine bct c2 ?_);conv=>whnf)
    exact K _ h
   ·revert h
    refine chkk fun hs1 h=>?_
    conv=>whnf
    repeat((first|refine dw ?_|refine bcf c2 ?_);conv=>whnf)
    refine loop_list0 (fun (v3:Int)=>pad [(2,.one (.ptr 0 0)),(0,.one (.ptr 1 0)),(1,iv v3)] 82) (fun (v3:Int)=>[.box (Know.cs p0),.box (Know.cs p1)]) _ p0.l (fun pre1 x1e xs1 v3  hl1 hi1 h ih1=>?_) (fun v3  hi1 h=>?_)  h
    ·rw [ref06_Alike_l1] at h
     have am1:=at_mid hl1 hi1
     refine loop_intro hX ?_
     revert h
     refine bndk fun x4 a5 h=>?_
     conv=>whnf
     repeat((first|refine dw ?_|refine eqv_to (map_len _) ?_|refine bct (lt_mid hl1 hi1) ?_|refine bct (at_in am1) ?_|refine bct (andt (at_in am1) rfl) ?_|refine row_in (at_row am1) ?_|refine bct (andt (at_in (at_nat am1)) rfl) ?_|refine row_in (at_row (at_nat am1)) ?_|refine bct (at_in a5) ?_|refine bct (andt (at_in a5) rfl) ?_|refine row_in (at_row a5) ?_|refine bct (andt (at_in (at_nat a5)) rfl) ?_|refine row_in (at_row (at_nat a5)) ?_);conv=>whnf)
     revert h
     refine brk (fun c6 h=>?_) (fun c6 h=>?_)
     ·conv=>whnf
      repeat((first|refine dw ?_|refine bct c6 ?_);conv=>whnf)
      exact K _ h
     ·conv=>whnf
      repeat((first|refine dw ?_|refine bcf c6 ?_|refine bct (at_in am1) ?_|refine bct (andt (at_in am1) rfl) ?_|refine row_in (at_row am1) ?_|refine bct (andt (at_in (at_nat am1)) rfl) ?_|refine row_in (at_row (at_nat am1)) ?_|refine eqv_to (map_len _) ?_|refine bct (at_in a5) ?_|refine bct (andt (at_in a5) rfl) ?_|refine row_in (at_row a5) ?_|refine bct (andt (at_in (at_nat a5)) rfl) ?_|refine row_in (at_row (at_nat a5)) ?_);conv=>whnf)
      revert h
      refine brk (fun c7 h=>?_) (fun c7 h=>?_)
      ·conv=>whnf
       repeat((first|refine dw ?_|refine bct c7 ?_);conv=>whnf)
       exact K _ h
      ·revert h
       refine chkk fun hs2 h=>?_
       conv=>whnf
       repeat((first|refine dw ?_|refine bcf c7 ?_);conv=>whnf)
       refine loop_list0 (fun (v8:Int)=>pad [(2,.one (.ptr 0 0)),(0,.one (.ptr 1 0)),(1,iv v3),(0,iv v8)] 81) (fun (v8:Int)=>[.box (Know.cs p0),.box (Know.cs p1)]) _ x1e.ids (fun pre2 x2e xs2 v8  hl2 hi2 h ih2=>?_) (fun v8  hi2 h=>?_)  h
       ·rw [ref06_Alike_l2] at h
        have am2:=at_mid hl2 hi2
        refine loop_intro hX ?_
        revert h
        refine bndk fun x9 a10 h=>?_
        conv=>whnf
        repeat((first|refine dw ?_|refine bct (at_in am1) ?_|refine bct (andt (at_in am1) rfl) ?_|refine row_in (at_row am1) ?_|refine bct (andt (at_in (at_nat am1)) rfl) ?_|refine row_in (at_row (at_nat am1)) ?_|refine eqv_to (map_len _) ?_|refine bct (lt_mid hl2 hi2) ?_|refine bct (at_in am2) ?_|refine bct (andt (at_in am2) rfl) ?_|refine row_in (at_row am2) ?_|refine bct (andt (at_in (at_nat am2)) rfl) ?_|refine row_in (at_row (at_nat am2)) ?_|refine bct (at_in a5) ?_|refine bct (andt (at_in a5) rfl) ?_|refine row_in (at_row a5) ?_|refine bct (andt (at_in (at_nat a5)) rfl) ?_|refine row_in (at_row (at_nat a5)) ?_|refine bct (at_in a10) ?_|refine bct (andt (at_in a10) rfl) ?_|refine row_in (at_row a10) ?_|refine bct (andt (at_in (at_nat a10)) rfl) ?_|refine row_in (at_row (at_nat a10)) ?_);conv=>whnf)
        revert h
        refine brk (fun c11 h=>?_) (fun c11 h=>?_)
        ·conv=>whnf
         repeat((first|refine dw ?_|refine bct c11 ?_);conv=>whnf)
         exact K _ h
        ·conv=>whnf
         repeat((first|refine dw ?_|refine bcf c11 ?_);conv=>whnf)
         exact ih2 _  (wrL hs2 hl2 hi2) h
       ·rw [ref06_Alike_l2] at h
        refine loop_intro hX ?_
        conv=>whnf
        repeat((first|refine dw ?_|refine bct (at_in am1) ?_|refine bct (andt (at_in am1) rfl) ?_|refine row_in (at_row am1) ?_|refine bct (andt (at_in (at_nat am1)) rfl) ?_|refine row_in (at_row (at_nat am1)) ?_|refine eqv_to (map_len _) ?_|refine bcf (lt_end hi2) ?_);conv=>whnf)
        exact ih1 _  (wrL hs1 hl1 hi1) h
    ·rw [ref06_Alike_l1] at h
     refine loop_intro hX ?_
     conv=>whnf
     repeat((first|refine dw ?_|refine eqv_to (map_len _) ?_|refine bcf (lt_end hi1) ?_);conv=>whnf)
     exact K _ h
theorem ref06_May_c  {p0:Know} {r:Bool} (h:ref06_May_s p0=some r) (hQ:Q (.one (.p (.v (.bool r)))) []):X (.call 77 [.agg (Know.cs p0)] [] Q):=by
  have K:=fun a (e:some a=some r)=>ret_some (f:=fun y=>.one (.p (.v (.bool y)))) (g:=fun y=>[]) e hQ
  unfold ref06_May_s at h
  refine call_intro hX Tryz.func77 rfl rfl ?_
  revert h
  refine bndk fun y1 e2 h=>?_
  conv=>whnf
  repeat((first|refine dw ?_);conv=>whnf)
  refine ref06_Plain_c hX e2 ?_
  revert h
  refine bndk fun y3 e4 h=>?_
  conv=>whnf
  repeat((first|refine dw ?_);conv=>whnf)
  refine ref06_Alike_c hX e4 ?_
  revert h
  refine bndk fun y5 e6 h=>?_
  conv=>whnf
  repeat((first|refine dw ?_);conv=>whnf)
  refine ref06_MayVec_c hX e6 ?_
  conv=>whnf
  repeat((first|refine dw ?_);conv=>whnf)
  revert h
  refine brk (fun c7 h=>?_) (fun c7 h=>?_)
  ·conv=>whnf
   repeat((first|refine dw ?_|refine bct c7 ?_);conv=>whnf)
   exact K _ h
  ·conv=>whnf
   repeat((first|refine dw ?_|refine bcf c7 ?_);conv=>whnf)
   revert h
   refine brk (fun c8 h=>?_) (fun c8 h=>?_)
   ·conv=>whnf
    repeat((first|refine dw ?_|refine bct c8 ?_);conv=>whnf)
    exact K _ h
   ·revert h
    refine chkk fun hs1 h=>?_
    conv=>whnf
    repeat((first|refine dw ?_|refine bcf c8 ?_);conv=>whnf)
    refine loop_lisx0 (fun (v9:Int)=>pad [(1,.one (.ptr 0 0)),(3,iv v9)] 55) (fun (v9:Int)=>[.box (Know.cs p0)]) _ p0.l (fun pre1 x1e xs1 v9  hl1 hi1 h ih1=>?_) (fun v9  hi1 h=>?_)  h
    ·rw [ref06_May_l1] at h
     have am1:=at_mid hl1 hi1
     refine loop_intro hX ?_
     revert h
     refine bndk fun y10 e11 h=>?_
     conv=>whnf
     repeat((first|refine dw ?_|refine eqv_to (map_len _) ?_|refine bct (lt_mid hl1 hi1) ?_|refine bct (at_in am1) ?_|refine bct (andt (at_in am1) rfl) ?_|refine row_in (at_row am1) ?_|refine bct (andt (at_in (at_nat am1)) rfl) ?_|refine row_in (at_row (at_nat am1)) ?_);conv=>whnf)
     refine ref06_MayVec_c hX e11 ?_
     conv=>whnf
     repeat((first|refine dw ?_);conv=>whnf)
     revert h
     refine brk (fun c12 h=>?_) (fun c12 h=>?_)
     ·conv=>whnf
      repeat((first|refine dw ?_|refine bct c12 ?_);conv=>whnf)
      exact K _ h
     ·revert h
      refine chkk fun hs2 h=>?_
      conv=>whnf
      repeat((first|refine dw ?_|refine bcf c12 ?_);conv=>whnf)
      refine loop_lisx0 (fun (v13:Int)=>pad [(1,.one (.ptr 0 0)),(3,iv v9),(1,iv v13)] 53) (fun (v13:Int)=>[.box (Know.cs p0)]) _ x1e.ids (fun pre2 x2e xs2 v13  hl2 hi2 h ih2=>?_) (fun v13  hi2 h=>?_)  h
      ·rw [ref06_May_l2] at h
       have am2:=at_mid hl2 hi2
       refine loop_intro hX ?_
       revert h
       refine bndk fun y14 e15 h=>?_
       conv=>whnf
       repeat((first|refine dw ?_|refine bct (at_in am1) ?_|refine bct (andt (at_in am1) rfl) ?_|refine row_in (at_row am1) ?_|refine bct (andt (at_in (at_nat am1)) rfl) ?_|refine row_in (at_row (at_nat am1)) ?_|refine eqv_to (map_len _) ?_|refine bct (lt_mid hl2 hi2) ?_|refine bct (at_in am2) ?_|refine bct (andt (at_in am2) rfl) ?_|refine row_in (at_row am2) ?_|refine bct (andt (at_in (at_nat am2)) rfl) ?_|refine row_in (at_row (at_nat am2)) ?_);conv=>whnf)
       refine ref01_Name_c hX e15 ?_
       conv=>whnf
       repeat((first|refine dw ?_);conv=>whnf)
       revert h
       refine brk (fun c16 h=>?_) (fun c16 h=>?_)
       ·conv=>whnf
        repeat((first|refine dw ?_|refine bct c16 ?_);conv=>whnf)
        exact K _ h
       ·conv=>whnf
        repeat((first|refine dw ?_|refine bcf c16 ?_);conv=>whnf)
        exact ih2 _  (wrL hs2 hl2 hi2) h
      ·rw [ref06_May_l2] at h
       refine loop_intro hX ?_
       conv=>whnf
       repeat((first|refine dw ?_|refine bct (at_in am1) ?_|refine bct (andt (at_in am1) rfl) ?_|refine row_in (at_row am1) ?_|refine bct (andt (at_in (at_nat am1)) rfl) ?_|refine row_in (at_row (at_nat am1)) ?_|refine eqv_to (map_len _) ?_|refine bcf (lt_end hi2) ?_);conv=>whnf)
       exact ih1 _  (wrL hs1 hl1 hi1) h
    ·rw [ref06_May_l1] at h
     refine loop_intro hX ?_
     conv=>whnf
     repeat((first|refine dw ?_|refine eqv_to (map_len _) ?_|refine bcf (lt_end hi1) ?_);conv=>whnf)
     exact K _ h
theorem ref06_Rises_c  {p0:List Item} {r:Bool} (h:ref06_Rises_s p0=some r) (hQ:Q (.one (.p (.v (.bool r)))) []):X (.call 156 [.one (.p (.sl (p0.map Item.row)))] [] Q):=by
  have K:=fun a (e:some a=some r)=>ret_some (f:=fun y=>.one (.p (.v (.bool y)))) (g:=fun y=>[]) e hQ
  unfold ref06_Rises_s at h
  refine call_intro hX Tryz.func156 rfl rfl ?_
  conv=>whnf
  repeat((first|refine dw ?_);conv=>whnf)
  refine loop_fuel1 (fun (v1:Int)=>pad [(0,.one (.p (.sl (p0.map Item.row)))),(2,iv v1)] 18) (fun (v1:Int)=>[]) _ (fun _ h=>?_) (fun fl1 v1 h ih1=>?_) fuelN 1 h
  ·rw [ref06_Rises_l1] at h
   cases h
  ·rw [ref06_Rises_l1] at h
   refine loop_intro hX ?_
   conv=>whnf
   repeat((first|refine dw ?_|refine eqv_to (map_len _) ?_);conv=>whnf)
   revert h
   refine brk (fun c2 h=>?_) (fun c2 h=>?_)
   ·revert h
    refine bndk fun x3 a4 h=>?_
    revert h
    refine bndk fun x5 a6 h=>?_
    conv=>whnf
    repeat((first|refine dw ?_|refine bct c2 ?_|refine bct (at_in a4) ?_|refine bct (andt (at_in a4) rfl) ?_|refine row_in (at_row a4) ?_|refine bct (andt (at_in (at_nat a4)) rfl) ?_|refine row_in (at_row (at_nat a4)) ?_|refine bct (at_in a6) ?_|refine bct (andt (at_in a6) rfl) ?_|refine row_in (at_row a6) ?_|refine bct (andt (at_in (at_nat a6)) rfl) ?_|refine row_in (at_row (at_nat a6)) ?_);conv=>whnf)
    revert h
    refine brk (fun c7 h=>?_) (fun c7 h=>?_)
    ·conv=>whnf
     repeat((first|refine dw ?_|refine bct c7 ?_);conv=>whnf)
     exact K _ h
    ·conv=>whnf
     repeat((first|refine dw ?_|refine bcf c7 ?_);conv=>whnf)
     exact ih1 (wr .i64 (v1 + 1)) h
   ·conv=>whnf
    repeat((first|refine dw ?_|refine bcf c2 ?_);conv=>whnf)
    exact K _ h
theorem ref06_Get_c  {p0:List Item} {p1:ByteArray} {r:Item × Bool} (h:ref06_Get_s p0 p1=some r) (hQ:Q (.tup [.agg (Item.cs r.1),.one (.p (.v (.bool r.2)))]) []):X (.call 49 [.one (.p (.sl (p0.map Item.row))),.one (.p (.v (.string p1)))] [] Q):=by
  have K:=fun a (e:some a=some r)=>ret_some (f:=fun y=>.tup [.agg (Item.cs y.1),.one (.p (.v (.bool y.2)))]) (g:=fun y=>[]) e hQ
  unfold ref06_Get_s at h
  refine call_intro hX Tryz.func49 rfl rfl ?_
  revert h
  refine chkk fun hs1 h=>?_
  conv=>whnf
  repeat((first|refine dw ?_);conv=>whnf)
  refine loop_lisx0 (fun (v1:Int)=>pad [(0,.one (.p (.sl (p0.map Item.row)))),(0,.one (.p (.v (.string p1)))),(2,.one (.ptr 0 0)),(1,iv v1)] 18) (fun (v1:Int)=>[.box [.p (.v (.string ⟨#[]⟩)),ic 0,ic 0,ic 0,.p (.v (.string ⟨#[]⟩)),ic 0,.p (.v (.complex .f64 0 0)),.p (.v (.bool false))]]) _ p0 (fun pre1 x1e xs1 v1  hl1 hi1 h ih1=>?_) (fun v1  hi1 h=>?_)  h
  ·rw [ref06_Get_l1] at h
   have am1:=at_mid hl1 hi1
   refine loop_intro hX ?_
   conv=>whnf
   repeat((first|refine dw ?_|refine eqv_to (map_len _) ?_|refine bct (lt_mid hl1 hi1) ?_|refine bct (at_in am1) ?_|refine bct (andt (at_in am1) rfl) ?_|refine row_in (at_row am1) ?_|refine bct (andt (at_in (at_nat am1)) rfl) ?_|refine row_in (at_row (at_nat am1)) ?_);conv=>whnf)
   revert h
   refine brk (fun c2 h=>?_) (fun c2 h=>?_)
   ·conv=>whnf
    repeat((first|refine dw ?_|refine bct c2 ?_|refine bct (at_in am1) ?_|refine bct (andt (at_in am1) rfl) ?_|refine row_in (at_row am1) ?_|refine bct (andt (at_in (at_nat am1)) rfl) ?_|refine row_in (at_row (at_nat am1)) ?_);conv=>whnf)
    exact K _ h
   ·conv=>whnf
    repeat((first|refine dw ?_|refine bcf c2 ?_);conv=>whnf)
    exact ih1 _  (wrL hs1 hl1 hi1) h
  ·rw [ref06_Get_l1] at h
   refine loop_intro hX ?_
   conv=>whnf
   repeat((first|refine dw ?_|refine eqv_to (map_len _) ?_|refine bcf (lt_end hi1) ?_);conv=>whnf)
   exact K _ h
theorem ref06_MayList_c  {p0:List Item} {r:Bool} (h:ref06_MayList_s p0=some r) (hQ:Q (.one (.p (.v (.bool r)))) []):X (.call 81 [.one (.p (.sl (p0.map Item.row)))] [] Q):=by
  have K:=fun a (e:some a=some r)=>ret_some (f:=fun y=>.one (.p (.v (.bool y)))) (g:=fun y=>[]) e hQ
  unfold ref06_MayList_s at h
  refine call_intro hX Tryz.func81 rfl rfl ?_
  revert h
  refine chkk fun hs1 h=>?_
  conv=>whnf
  repeat((first|refine dw ?_);conv=>whnf)
  refine loop_lisx0 (fun (v1:Int)=>pad [(0,.one (.p (.sl (p0.map Item.row)))),(2,iv v1)] 16) (fun (v1:Int)=>[]) _ p0 (fun pre1 x1e xs1 v1  hl1 hi1 h ih1=>?_) (fun v1  hi1 h=>?_)  h
  ·rw [ref06_MayList_l1] at h
   have am1:=at_mid hl1 hi1
   refine loop_intro hX ?_
   revert h
   refine bndk fun y2 e3 h=>?_
   conv=>whnf
   repeat((first|refine dw ?_|refine eqv_to (map_len _) ?_|refine bct (lt_mid hl1 hi1) ?_|refine bct (at_in am1) ?_|refine bct (andt (at_in am1) rfl) ?_|refine row_in (at_row am1) ?_|refine bct (andt (at_in (at_nat am1)) rfl) ?_|refine row_in (at_row (at_nat am1)) ?_);conv=>whnf)
   refine ref01_May_c hX e3 ?_
   conv=>whnf
   repeat((first|refine dw ?_);conv=>whnf)
   revert h
   refine brk (fun c4 h=>?_) (fun c4 h=>?_)
   ·conv=>whnf
    repeat((first|refine dw ?_|refine bct c4 ?_);conv=>whnf)
    exact K _ h
   ·conv=>whnf
    repeat((first|refine dw ?_|refine bcf c4 ?_);conv=>whnf)
    exact ih1 _  (wrL hs1 hl1 hi1) h
  ·rw [ref06_MayList_l1] at h
   refine loop_intro hX ?_
   revert h
   refine bndk fun y5 e6 h=>?_
   conv=>whnf
   repeat((first|refine dw ?_|refine eqv_to (map_len _) ?_|refine bcf (lt_end hi1) ?_);conv=>whnf)
   refine ref06_Rises_c hX e6 ?_
   conv=>whnf
   repeat((first|refine dw ?_);conv=>whnf)
   exact K _ h
end
end Go.Proofs.YtidkmoohgadjkaaGreat
namespace Go.Proofs.YtidkmoohgadjkaaGreat
open Go E Go.Lib Go.RowKit
theorem run_copy_row {P:Program} (w:World) (dT sT ty elem:TypeId) {k:Nat} (g o dLen dCap:Nat) (a:Addr) (sLen sCap n:Nat) (cs:List Value) (cur:Array Value) (e:TypeId)
  (hu:P.underlying dT=some (.slice elem)) (hs:∀ w,(Go.sizeOf elem).run P w=.ok k w) (hmin:Nat.min sLen dLen=n) (hn:cs.length=n * k)
  (hsrc:∀ j v,cs[j]?=some v→w.cell? (a.add j)=some v) (hh:w.heap[g]?=some (.cells cur e (0,0))) (hle:o + cs.length≤cur.size) (h1:∀ v∈cs,v.oneCell'=true) :
  (Builtin.copy_ #[dT,sT] ty #[.slice (some ⟨g,o,none⟩) dLen dCap,.slice (some a) sLen sCap]).run P w=.ok (goInt n) (w.setRow g (cur.toList.take o++cs++cur.toList.drop (o + cs.length)).toArray):=by
 have hl:=run_loadCells_list (P:=P) w a cs hsrc
 have hst:=run_storeCells_at P g o e cs 0 cur w hh (by simpa using hle) h1
 simp only [Nat.add_zero] at hst
 simp [Builtin.copy_,run_underlying hu,Builtin.lenOf,Builtin.firstCells,hs,hmin,←hn,hl,hst]
theorem wpList_copy_runI' (w:World) {P:Program} {ops:Array Oper} {rest:List Oper} {o:Oper} {a:Act} {Q:Exit→Act→World→Prop} (hgd:o.guard=none) (d s:Operand) (t t':TypeId)
  (ho:o.op=.call { callee:=.builtin .copy,args := #[d,s],argTypes := #[t,t'] }) (v u:Value) (hd:a.eval d=v) (hs:a.eval s=u) {v':Value} {w':World}
  (hr:(Builtin.copy_ #[t,t'] o.type #[v,u]).run P w=.ok v' w') (h:wpList P ops Q rest (a.put o.dst v') w'):wpList P ops Q (o::rest) a w:=by
 refine wpList_plain hgd fun _ hK=>?_
 have hK:=hK _ _ h
 unfold Oper.wp execOp
 simp only [ho,resolve,invoke,builtin,Sem.run_bind,Sem.run_pure,Result.andThen_ok,List.map_toArray,List.map_cons,List.map_nil,hd,hs,hr]
 exact hK
theorem size_item:∀ w,(Go.sizeOf 68).run Tryz.prog w=.ok 8 w:=((T_ok 68).known (of_decide_eq_true (by kernel_rfl))).size
set_option maxHeartbeats 4000000 in
set_option maxRecDepth 100000 in
theorem ins_shift (g n c i vb vc:Nat) (cur new:Array Value) (e e2:TypeId) (w:World) (hi:i < n) (hroom:n + 1≤c) (hc63:c≤9223372036854775807) (hvb:vb≠g)
  (hg:w.heap[g]?=some (.cells cur e (0,0))) (hv:w.heap[vb]?=some (.cells new e2 (0,0))) (hcs:cur.size=c * 8) (hnew:8≤new.size)
  (h1:∀ v∈cur.toList.take (n * 8),v.oneCell'=true) (h2:∀ v∈new.toList.take 8,v.oneCell'=true) :
  Calls Tryz.prog 172 #[.slice (some ⟨g,0,none⟩) n c,.int .i64 i,.slice (some ⟨vb,0,none⟩) 1 vc] w fun x w'=>x=.returned (.slice (some ⟨g,0,none⟩) (n + 1) c) ∧
   ∃ w1:World,w1.heap=w.heap∧w1.os=w.os∧w1.tape=w.tape∧w1.output=w.output∧w'=(w1.setRow g (cur.toList.take ((i + 1) * 8)++(cur.toList.take (n * 8)).drop (i * 8)++cur.toList.drop ((n + 1) * 8)).toArray).setRow g
    (cur.toList.take (i * 8)++new.toList.take 8++((cur.toList.take (n * 8)).drop (i * 8)++cur.toList.drop ((n + 1) * 8))).toArray:=by
 have hw1:IntKind.i64.wrap ((i:Int) + (1:Int))=(i:Int) + (1:Int):=by rw [IntKind.wrap_i64]; omega
 have hz2:¬ ((i:Int)=(n:Int)):=by omega
 have hb1:(0:Int)≤(i:Int) + (1:Int):=by omega
 have hin:i≤n:=by omega
 have htn:((i:Int) + (1:Int)).toNat=i + 1:=by omega
 have hb2:¬ (c=i + 1):=by omega
 have hb3:(i:Int)≤(n:Int) + (1:Int):=by omega
 have hb4:¬ (c=i):=by omega
 go_enter Tryz.func172,Tryz.ntmps172
 have hov:∀ (ad:Addr) lb cb,ad.block=g→(callFunc 215 #[.slice (some ⟨vb,0,none⟩) 1 vc,.slice (some ad) lb cb]).run Tryz.prog w=.ok (.value (.bool false)) w:=fun ad lb cb had=>by
  rw [run_callFunc_extern Tryz.func215 (by kernel_rfl) (by kernel_rfl) (by kernel_rfl) (e:=Extern.SlicesOverlaps.overlaps #[50,50] #[4]) (by kernel_rfl),
   Lib.run_overlaps_apart w 50 4 68 Tryz.underlying50 8 size_item ⟨vb,0,none⟩ ad 1 vc lb cb (by rw [had]; exact hvb) e2 e new.size cur.size (by simp [World.shape?,hv]) (by simp [World.shape?,had,hg]) (by rw [hcs]; omega) (by simp [World.frozen?,hv]) (by simp [World.frozen?,hv])]
  rfl
 have hd2:(((cur.toList.take (n * 8)).drop (i * 8)).length)=(n - i) * 8:=by rw [List.length_drop,List.length_take,Array.length_toList,Nat.sub_mul]; omega
 have hcp1:∀ (W:World) ty dc sc,W.heap=w.heap→(Builtin.copy_ #[50,50] ty #[.slice (some ⟨g,(i + 1) * 8,none⟩) (n - i) dc,.slice (some ⟨g,i * 8,none⟩) (n + 1 - i) sc]).run Tryz.prog W=.ok (goInt (n - i:Nat)) (W.setRow g (cur.toList.take ((i + 1) * 8)++(cur.toList.take (n * 8)).drop (i * 8)++cur.toList.drop ((n + 1) * 8)).toArray):=fun W ty dc sc hW=>by
  have:=run_copy_row (P:=Tryz.prog) (ty:=ty) W 50 50 68 g ((i + 1) * 8) (n - i) dc ⟨g,i * 8,none⟩ (n + 1 - i) sc (n - i) ((cur.toList.take (n * 8)).drop (i * 8)) cur e Tryz.underlying50 size_item (by simp only [Nat.min_def]; split<;>omega) hd2 (fun j v hj=>by
    rw [addr_add,World.cell?,hW,hg]
    rw [List.getElem?_drop,List.getElem?_take] at hj
    split at hj
    ·simpa using hj
    ·cases hj) (by rw [hW]; exact hg) (by rw [hd2,hcs,←Nat.add_mul]; exact Nat.mul_le_mul_right _ (by omega)) (fun v hv=>h1 v (List.mem_of_mem_drop hv))
  rw [this]
  congr 4
  rw [hd2,←Nat.add_mul]
  congr 2
  omega
 obtain ⟨R1,hR1⟩:∃ R1,R1=(cur.toList.take ((i + 1) * 8)++(cur.toList.take (n * 8)).drop (i * 8)++cur.toList.drop ((n + 1) * 8)).toArray:=⟨_,rfl⟩
 obtain ⟨R2,hR2⟩:∃ R2,R2=(cur.toList.take (i * 8)++new.toList.take 8++((cur.toList.take (n * 8)).drop (i * 8)++cur.toList.drop ((n + 1) * 8))).toArray:=⟨_,rfl⟩
 have hcp2:∀ (W:World) ty dc sc,W.heap=(w.setRow g R1).heap→(Builtin.copy_ #[50,50] ty #[.slice (some ⟨g,i * 8,none⟩) (n + 1 - i) dc,.slice (some ⟨vb,0,none⟩) 1 sc]).run Tryz.prog W=.ok (goInt (1:Nat)) (W.setRow g R2):=fun W ty dc sc hW=>by
  have hsz:R1.size=cur.size:=by
   rw [hR1,List.size_toArray,List.length_append,List.length_append,hd2,List.length_take,List.length_drop,Array.length_toList,hcs,Nat.sub_mul,Nat.add_mul,Nat.add_mul]
   have:=Nat.mul_le_mul_right 8 hroom
   have:=Nat.mul_le_mul_right 8 hin
   omega
  have:=run_copy_row (P:=Tryz.prog) (ty:=ty) W 50 50 68 g (i * 8) (n + 1 - i) dc ⟨vb,0,none⟩ 1 sc 1 (new.toList.take 8) R1 e Tryz.underlying50 size_item (by simp only [Nat.min_def]; split<;>omega) (by rw [List.length_take,Array.length_toList]; omega) (fun j v hj=>by
    rw [addr_add,World.cell?,hW,setRow_other w g vb _ hvb,hv]
    rw [List.getElem?_take] at hj
    split at hj
    ·simpa using hj
    ·cases hj) (by rw [hW]; exact setRow_heap w g _ _ _ _ hg) (by rw [List.length_take,Array.length_toList,hsz,hcs]; have:=Nat.mul_le_mul_right 8 hroom; omega) h2
  rw [this]
  congr 2
  rw [hR2,hR1]
  congr 1
  have hl8:(List.take 8 new.toList).length=8:=by rw [List.length_take,Array.length_toList]; omega
  have hlt:(List.take ((i + 1) * 8) cur.toList).length=(i + 1) * 8:=by rw [List.length_take,Array.length_toList]; omega
  rw [hl8,List.append_assoc,List.append_assoc,List.take_append_of_le_length (by rw [hlt]; omega),List.take_take,Nat.min_eq_left (by omega),show i * 8 + 8=(i + 1) * 8 by omega,List.drop_append_of_le_length (by rw [hlt]; omega),List.drop_of_length_le (by rw [hlt]; omega),List.nil_append,List.append_assoc]
 rw [←hR1] at hcp1
 rw [←hR1,←hR2]
 have hcpD:=fun ty dc sc=>hcp1 w.drew ty dc sc rfl
 have hcpE:=fun ty dc sc=>hcp2 (w.drew.setRow g R1) ty dc sc rfl
 have hcpF:=fun ty dc sc=>hcp2 (w.drew.setRow g R1).drew ty dc sc rfl
 clear hd2 hR1 hR2 hcp1 hcp2
 go_wp2
 go_region
 go_wp2
 go_ret
 exact ⟨rfl,w.drew,rfl,rfl,rfl,rfl,rfl⟩
theorem list_mid {α:Type} {A V Z D Y:List α} {a v d:Nat} (ha:A.length=a) (hv:V.length=v) (hZ:v + d=Z.length) (hd:D.length=d) :
  (A++Z++Y).take a++V++(A++Z++Y).drop (a + v)=A++V++Z.drop v++Y∧(A++V++Z.drop v++Y).take (a + v)++D++(A++V++Z.drop v++Y).drop (a + v + d)=A++V++D++Y:=by
 subst ha; subst hv; subst hd
 constructor
 ·have h:A++Z++Y=A++(Z++Y):=by simp
  rw [h,List.take_left,←List.drop_drop,List.drop_left,List.drop_append_of_le_length (by omega)]
  simp
 ·have h:A++V++Z.drop V.length++Y=(A++V)++(Z.drop V.length++Y):=by simp
  have hl:A.length + V.length=(A++V).length:=by simp
  have hz:(Z.drop V.length).length=D.length:=by rw [List.length_drop]; omega
  rw [h,hl,List.take_left,←List.drop_drop,List.drop_left,←hz,List.drop_left]
theorem heap_alloc_new (w:World) (o:Obj):(w.alloc o).heap[w.heap.size]?=some o:=han w o
theorem heap_alloc_old (w:World) (o:Obj) {k:Nat} (hk:k < w.heap.size):(w.alloc o).heap[k]?=w.heap[k]?:=hao w o k hk
set_option maxHeartbeats 4000000 in
set_option maxRecDepth 100000 in
theorem ins_grow (g n c i vb vc:Nat) (cur new:Array Value) (e e2:TypeId) (w:World) (hi:i < n) (hnc:n≤c) (hroom:c < n + 1) (hbig:n≤1000000)
  (hg:w.heap[g]?=some (.cells cur e (0,0))) (hv:w.heap[vb]?=some (.cells new e2 (0,0))) (hcs:cur.size=c * 8) (hnew:8≤new.size)
  (h1:∀ v∈cur.toList.take (n * 8),v.oneCell'=true) (h2:∀ v∈new.toList.take 8,v.oneCell'=true) :
  Calls Tryz.prog 172 #[.slice (some ⟨g,0,none⟩) n c,.int .i64 i,.slice (some ⟨vb,0,none⟩) 1 vc] w fun x w'=>∃ (G:Nat) (R0 R1:Array Value) (rest:List Value),n + 1≤G∧G≤maxLen∧rest.length=(G - (n + 1)) * 8∧x=.returned (.slice (some ⟨w.heap.size,0,none⟩) (n + 1) G) ∧
   ∃ w1:World,w1.heap=w.heap∧w1.os=w.os∧w1.tape=w.tape∧w1.output=w.output∧w'=((w1.alloc (.cells R0 68)).setRow w.heap.size R1).setRow w.heap.size
    (cur.toList.take (i * 8)++new.toList.take 8++(cur.toList.take (n * 8)).drop (i * 8)++rest).toArray:=by
 have hI:=(T_ok 68).known (of_decide_eq_true (by kernel_rfl))
 obtain ⟨i0,z,hi0,hzs,hzb,hz0,hzc,_⟩:=hI.info
 have hzs:i0.size=8:=hzs
 have hzl:z.cells.size=8:=by
  have:=hI.z
  rw [←Array.length_toList,hzc]; rfl
 have hzb:i0.bytes≤1000:=by rw [hzb]; exact of_decide_eq_true (by kernel_rfl)
 have hbb:(n + 1) * i0.bytes≤140737488355328:=by
  have:=Nat.mul_le_mul (show n + 1≤1000001 by omega) hzb
  omega
 have hkk:(n:Int) + (1:Int) - (i:Int)=((n + 1 - i:Nat):Int):=by omega
 have hik:i + (n + 1 - i)=n + 1:=by omega
 have hold:(Builtin.firstCells i0.size i (.slice (some ⟨g,0,none⟩) i c)).run Tryz.prog w.drew=.ok (cur.toList.take (i * 8)).toArray w.drew:=by
  rw [hzs]
  exact run_firstCells_some w.drew 8 i ⟨g,0,none⟩ i c (cur.toList.take (i * 8)) (by rw [List.length_take,Array.length_toList]; omega) (fun j v hj=>by
   rw [addr_add,Nat.zero_add,World.cell?_drew,World.cell?,hg]
   rw [List.getElem?_take] at hj
   split at hj
   ·simpa using hj
   ·cases hj)
 obtain ⟨G,hG⟩:∃ G,G=grownCap w (n + 1) c 68:=⟨_,rfl⟩
 have hGn:n + 1≤G:=by rw [hG]; exact grownCap_ge w _ _ _
 have hG63:G≤maxLen:=by rw [hG]; exact grownCap_le_maxLen w (n + 1) c _ (by unfold maxLen; omega)
 obtain ⟨R0,hR0⟩:∃ R0:Array Value,R0=(cur.toList.take (i * 8)).toArray++Builtin.zeroCells z.cells (n + 1 - i)++Builtin.zeroCells z.cells (G - (n + 1)):=⟨_,rfl⟩
 have hrz:∀ ty,(Builtin.append_ #[50,3] ty #[.slice (some ⟨g,0,none⟩) i c,.int .i64 ((n:Int) + (1:Int) - (i:Int))]).run Tryz.prog w=.ok (.slice (some ⟨w.heap.size,0,none⟩) (n + 1) G) (w.drew.alloc (.cells R0 68)):=fun ty=>by
  have h:=Lib.run_append_grow_zeros w 50 3 ty 68 i0 z .i64 .i64 Tryz.underlying50 Tryz.underlying3 hi0 hz0 (some ⟨g,0,none⟩) i c (cur.toList.take (i * 8)) hold (n + 1 - i) (by omega) (by omega) (by omega) (by omega)
   (by have:=Nat.mul_le_mul_right i0.bytes (show n + 1 - i≤n + 1 by omega); omega) (by rw [hik]; exact growslice_fits hroom hbb)
  rw [hik,←hG] at h
  rw [hkk,hR0]
  exact h
 obtain ⟨A,hA⟩:∃ A,A=cur.toList.take (i * 8):=⟨_,rfl⟩
 obtain ⟨V,hV⟩:∃ V,V=new.toList.take 8:=⟨_,rfl⟩
 obtain ⟨D,hD⟩:∃ D,D=(cur.toList.take (n * 8)).drop (i * 8):=⟨_,rfl⟩
 obtain ⟨Z,hZ⟩:∃ Z,Z=(Builtin.zeroCells z.cells (n + 1 - i)).toList:=⟨_,rfl⟩
 obtain ⟨Y,hY⟩:∃ Y,Y=(Builtin.zeroCells z.cells (G - (n + 1))).toList:=⟨_,rfl⟩
 have lA:A.length=i * 8:=by rw [hA,List.length_take,Array.length_toList]; omega
 have lV:V.length=8:=by rw [hV,List.length_take,Array.length_toList]; omega
 have lD:D.length=(n - i) * 8:=by rw [hD,List.length_drop,List.length_take,Array.length_toList,Nat.sub_mul]; omega
 have lZ:8 + (n - i) * 8=Z.length:=by rw [hZ,Array.length_toList,size_zeroCells,hzl]; omega
 have lY:Y.length=(G - (n + 1)) * 8:=by rw [hY,Array.length_toList,size_zeroCells,hzl]
 have eR0:R0.toList=A++Z++Y:=by rw [hR0,hA,hZ,hY]; simp
 obtain ⟨m1,m2⟩:=list_mid (A:=A) (V:=V) (Z:=Z) (D:=D) (Y:=Y) lA lV lZ lD
 have sR0:R0.size=G * 8:=by
  rw [←Array.length_toList,eR0,List.length_append,List.length_append,lA,←lZ,lY,Nat.sub_mul,Nat.sub_mul]
  have:=Nat.mul_le_mul_right 8 hGn
  omega
 obtain ⟨R1,hR1⟩:∃ R1:Array Value,R1=(A++V++Z.drop 8++Y).toArray:=⟨_,rfl⟩
 have sR1:R1.size=G * 8:=by
  rw [hR1,List.size_toArray,List.length_append,List.length_append,List.length_append,lA,lV,List.length_drop,←lZ,lY,Nat.sub_mul,Nat.sub_mul]
  have:=Nat.mul_le_mul_right 8 hGn
  omega
 obtain ⟨R2,hR2⟩:∃ R2:Array Value,R2=(A++V++D++Y).toArray:=⟨_,rfl⟩
 have hgw:g < w.heap.size:=(Array.getElem?_eq_some_iff.1 hg).1
 have hvw:vb < w.heap.size:=(Array.getElem?_eq_some_iff.1 hv).1
 have hcpA:∀ (W:World) ty dc sc,W.heap=(w.alloc (.cells R0 68)).heap→(Builtin.copy_ #[50,50] ty #[.slice (some ⟨w.heap.size,i * 8,none⟩) (n + 1 - i) dc,.slice (some ⟨vb,0,none⟩) 1 sc]).run Tryz.prog W=.ok (goInt (1:Nat)) (W.setRow w.heap.size R1):=fun W ty dc sc hW=>by
  have:=run_copy_row (P:=Tryz.prog) (ty:=ty) W 50 50 68 w.heap.size (i * 8) (n + 1 - i) dc ⟨vb,0,none⟩ 1 sc 1 V R0 68 Tryz.underlying50 size_item (by simp only [Nat.min_def]; split<;>omega) (by rw [lV]) (fun j v hj=>by
    rw [addr_add,World.cell?,hW,heap_alloc_old _ _ hvw,hv]
    rw [hV,List.getElem?_take] at hj
    split at hj
    ·simpa using hj
    ·cases hj) (by rw [hW]; exact heap_alloc_new _ _) (by rw [lV,sR0]; have:=Nat.mul_le_mul_right 8 hGn; omega) (by rw [hV]; exact h2)
  rw [this,eR0,lV,m1,hR1]
 have hcpB:∀ (W:World) ty dc sc,W.heap=((w.alloc (.cells R0 68)).setRow w.heap.size R1).heap→(Builtin.copy_ #[50,50] ty #[.slice (some ⟨w.heap.size,(i + 1) * 8,none⟩) (n - i) dc,.slice (some ⟨g,i * 8,none⟩) (n - i) sc]).run Tryz.prog W=.ok (goInt (n - i:Nat)) (W.setRow w.heap.size R2):=fun W ty dc sc hW=>by
  have:=run_copy_row (P:=Tryz.prog) (ty:=ty) W 50 50 68 w.heap.size ((i + 1) * 8) (n - i) dc ⟨g,i * 8,none⟩ (n - i) sc (n - i) D R1 68 Tryz.underlying50 size_item (by simp) lD (fun j v hj=>by
    rw [addr_add,World.cell?,hW,setRow_other _ _ _ _ (Nat.ne_of_lt hgw),heap_alloc_old _ _ hgw,hg]
    rw [hD,List.getElem?_drop,List.getElem?_take] at hj
    split at hj
    ·simpa using hj
    ·cases hj) (by rw [hW]; exact setRow_heap _ _ _ _ _ _ (heap_alloc_new _ _)) (by rw [lD,sR1,←Nat.add_mul]; exact Nat.mul_le_mul_right 8 (by omega)) (by rw [hD]; exact fun v hv=>h1 v (List.mem_of_mem_drop hv))
  rw [this,lD,show (i + 1) * 8=i * 8 + 8 by omega,hR1,List.toList_toArray,m2,hR2]
 have hres:Hold (R2=(A++V++D++Y).toArray):=⟨hR2⟩
 have hcA1:=fun ty dc sc=>hcpA (w.drew.alloc (.cells R0 68)) ty dc sc rfl
 have hcA2:=fun ty dc sc=>hcpA (w.alloc (.cells R0 68)).drew ty dc sc rfl
 have hcB1:=fun ty dc sc=>hcpB (((w.alloc (.cells R0 68)).drew.setRow w.heap.size R1).drew) ty dc sc rfl
 have hcB2:=fun ty dc sc=>hcpB (((w.drew.alloc (.cells R0 68)).setRow w.heap.size R1).drew) ty dc sc rfl
 have hz2:¬ ((i:Int)=(n:Int)):=by omega
 have hz3:(c:Int) < (n:Int) + (1:Int):=by omega
 have hw1:IntKind.i64.wrap ((i:Int) + (1:Int))=(i:Int) + (1:Int):=by rw [IntKind.wrap_i64]; omega
 have hb1:(0:Int)≤(i:Int) + (1:Int):=by omega
 have hin:i≤n:=by omega
 have htn:((i:Int) + (1:Int)).toNat=i + 1:=by omega
 have hb3:(i:Int)≤(n:Int):=by omega
 have hGi:¬ (G=i):=by omega
 have hGim:¬ (G=i + 1):=by omega
 have hci:¬ (c=i):=by omega
 have hG6:G≤9223372036854775807:=hG63
 rw [←hA,←hV,←hD]
 clear hR0 hR1 hR2 hA hV hD hZ hY hcpA hcpB hkk hik hold hG sR0 sR1 m1 m2 eR0 hI hi0 hzs hzl hzb hz0 hzc hbb hG63
 go_enter Tryz.func172,Tryz.ntmps172
 go_wp2_with (first
  | (at_builtin; refine Lib.wpList_append_run _ rfl _ _ _ _ rfl _ _ rfl rfl _ _ (hrz _) ?_)
  | (at_builtin; refine wpList_copy_runI' _ rfl _ _ 50 50 rfl _ _ rfl rfl (hcA1 _ _ _) ?_)
  | (at_builtin; refine wpList_copy_runI' _ rfl _ _ 50 50 rfl _ _ rfl rfl (hcA2 _ _ _) ?_))
 go_region
 go_wp2
 go_ret
 exact ⟨G,R0,R1,Y,hGn,hG6,lY,rfl,w.drew.drew,rfl,rfl,rfl,rfl,by rw [←hres.h]; rfl⟩
set_option maxHeartbeats 4000000 in
set_option maxRecDepth 100000 in
theorem ins_end (n c vc:Nat) (base:Option Addr) (vb:Nat) (w w2:World) (v2:Value)
  (hr:(Builtin.append_ #[50,50] 50 #[.slice base n c,.slice (some ⟨vb,0,none⟩) 1 vc]).run Tryz.prog w=.ok v2 w2) :
  Calls Tryz.prog 172 #[.slice base n c,.int .i64 n,.slice (some ⟨vb,0,none⟩) 1 vc] w fun x w'=>x=.returned v2∧w'=w2:=by
 go_enter Tryz.func172,Tryz.ntmps172
 cases base with
 | none =>
  go_wp2_with (at_builtin; refine Lib.wpList_append_run _ rfl _ _ _ _ rfl _ _ rfl rfl _ _ hr ?_)
  all_goals (go_ret; exact ⟨rfl,rfl⟩)
 | some a =>
  obtain ⟨ab,ao,asp⟩:=a
  go_wp2_with (at_builtin; refine Lib.wpList_append_run _ rfl _ _ _ _ rfl _ _ rfl rfl _ _ hr ?_)
  all_goals (go_ret; exact ⟨rfl,rfl⟩)
end Go.Proofs.YtidkmoohgadjkaaGreat
set_option maxHeartbeats 4000000
namespace Go.Proofs.YtidkmoohgadjkaaGreat.E
open Go Go.Lib Go.RowKit
noncomputable section
open Classical
theorem fin_own {w w' : World} {S : Zone} {inj : Nat → Loc} {σ : List Blk} {n k : Nat} {l : List (List PC)} {ad : Option Addr} {m c : Nat} {g : Option Nat} (hI : Inv w S inj (look σ)) (hn : σ.length = n) (hfree : ∀ b, n ≤ b → inj b = .free)
    (hG : Grow w S w' S) (hR : RowOk w' S k l (.slice ad m c) g) : ∃ inj', Done w S inj n (.one (.own n)) (List.replicate n .dead ++ [.rows k l]) (.slice ad m c) w' S inj' := by
  refine ⟨fun b => if b = n then .row (.slice ad m c) g else if inj b = .free then .free else .dead, hG, fun b => ?_, fun b hb hc => ?_, .ofc (.own (.inr ⟨g, ?_⟩)), fun b => ?_, fun b b' g' hb hb' h1 h2 => ?_, fun g' hg' => Nat.lt_of_lt_of_le (hI.lt g' hg') hG.size, hI.dj⟩
  · by_cases hf : inj b = .free
    · exact .inl hf
    · refine .inr (.inr ?_)
      have : b ≠ n := by rintro rfl; exact hf (hfree b (Nat.le_refl _))
      simp [this, hf]
  · have : b ≠ n := by rintro rfl; simp only [List.length_append, List.length_replicate, List.length_singleton] at hc; omega
    simp [this, hb]
  · simp [Loc.val]
  · by_cases hb : b = n
    · subst hb
      have : look (List.replicate b .dead ++ [.rows k l]) b = .rows k l := by rw [look_eq]; simp [List.getD_eq_getElem?_getD]
      rw [this]
      exact ⟨_, _, by simp, hR⟩
    · have : look (List.replicate n .dead ++ [.rows k l]) b = .dead := by
        rw [look_eq, List.getD_eq_getElem?_getD]
        by_cases h : b < n
        · rw [List.getElem?_append_left (by simpa using h)]; simp [h]
        · rw [List.getElem?_append_right (by simp; omega)]
          rw [List.getElem?_eq_none (by simp; omega)]; rfl
      rw [this]; trivial
  · have key : ∀ b, look (List.replicate n .dead ++ [.rows k l]) b ≠ .dead → b = n := fun b hb => Classical.byContradiction fun h => hb (by
        rw [look_eq, List.getD_eq_getElem?_getD]
        by_cases h' : b < n
        · rw [List.getElem?_append_left (by simpa using h')]; simp [h']
        · rw [List.getElem?_append_right (by simp; omega)]
          rw [List.getElem?_eq_none (by simp; omega)]; rfl)
    rw [key b hb, key b' hb']
theorem flat_take {l:List (List PC)} {k:Nat} (hl:∀ r∈l,r.length=k) (i:Nat):(l.take i).flatten=l.flatten.take (i * k)∧(l.drop i).flatten=l.flatten.drop (i * k):=by
 induction l generalizing i with
 | nil=>simp
 | cons r l ih =>
  have hr:=hl r (by simp)
  cases i with
  | zero=>simp
  | succ i =>
   obtain ⟨h1,h2⟩:=ih (fun r hr=>hl r (by simp [hr])) i
   have e:(i + 1) * k=r.length + i * k:=by rw [hr,Nat.succ_mul]; omega
   rw [List.take_succ_cons,List.drop_succ_cons,List.flatten_cons,List.flatten_cons,h1,h2,e]
   constructor
   ·rw [List.take_append,List.take_of_length_le (show r.length≤r.length + i * k by omega),Nat.add_sub_cancel_left]
   ·rw [List.drop_append,List.drop_of_length_le (show r.length≤r.length + i * k by omega),Nat.add_sub_cancel_left]; rfl
theorem ins_rows {l:List (List PC)} {x:List PC} {i:Nat} (hl:∀ r∈l,r.length=8) (hi:i≤l.length):(l.take i++x::l.drop i).flatten=l.flatten.take (i * 8)++x++l.flatten.drop (i * 8):=by
 obtain ⟨h1,h2⟩:=flat_take hl i
 rw [List.flatten_append,List.flatten_cons,h1,h2]; simp
theorem ins_len {l:List (List PC)} {x:List PC} {i:Nat} (hi:i≤l.length):(l.take i++x::l.drop i).length=l.length + 1:=by simp; omega
theorem ins_8 {l:List (List PC)} {x:List PC} {i:Nat} (hl:∀ r∈l,r.length=8) (hx:x.length=8):∀ r∈l.take i++x::l.drop i,r.length=8:=by
 intro r hr
 rcases List.mem_append.1 hr with hr | hr
 ·exact hl r (List.mem_of_mem_take hr)
 ·rcases List.mem_cons.1 hr with rfl | hr
  ·exact hx
  ·exact hl r (List.mem_of_mem_drop hr)
theorem ins_rowOk {w':World} {S:Zone} {l:List (List PC)} {x:List PC} {i g cap:Nat} {e:TypeId} {A V D Y:List Value} (hl:∀ r∈l,r.length=8) (hx:x.length=8) (hi:i≤l.length) (hS:¬ S.all g) (hg:w'.heap[g]?=some (.cells (A++V++D++Y).toArray e (0,0)))
  (hc:l.length + 1≤cap) (hm:cap≤maxLen) (hsz:(A++V++D++Y).length=cap * 8) (hA:F2 (PR w' S) (l.flatten.take (i * 8)) A) (hV:F2 (PR w' S) x V) (hD:F2 (PR w' S) (l.flatten.drop (i * 8)) D) :
  RowOk w' S 8 (l.take i++x::l.drop i) (.slice (some ⟨g,0,none⟩) (l.length + 1) cap) (some g):=by
 refine .inr ⟨g,cap,_,e,by decide,rfl,by rw [ins_len hi],hS,hg,by rw [ins_len hi]; exact hc,hm,by simpa using hsz,ins_8 hl hx,?_⟩
 rw [ins_len hi,ins_rows hl hi]
 have hh:F2 (PR w' S) (l.flatten.take (i * 8)++x++l.flatten.drop (i * 8)) (A++V++D):=(hA.app hV).app hD
 have hlen:(A++V++D).length=(l.length + 1) * 8:=by
  rw [←hh.len,List.length_append,List.length_append,hx,List.length_take,List.length_drop]
  have:l.flatten.length=l.length * 8:=flatten_len hl
  have:=Nat.mul_le_mul_right 8 hi
  omega
 rw [show (A++V++D++Y).toArray.toList=(A++V++D)++Y by simp,←hlen,List.take_left]
 exact hh
theorem insert_callOk {l:List (List PC)} {x:List PC} {i:Nat} (hl:∀ r∈l,r.length=8) (hx:x.length=8) (hi:i≤l.length) (hn:l.length≤1000000) :
  CallOk Tryz.prog 172 [.one (.own 0),iv i,.one (.own 1)] [.rows 8 l,.rows 8 [x]] (.one (.own 2)) [.dead,.dead,.rows 8 (l.take i++x::l.drop i)]:=by
 refine ⟨⟨_,_,Tryz.func172,rfl,rfl⟩,fun w S inj vs hv hI hfree=>?_⟩
 have hIt:=(T_ok 68).known (of_decide_eq_true (by kernel_rfl))
 cases hv with
 | cons h0 hv =>
 cases hv with
 | cons h1 hv =>
 cases hv with
 | cons h2 hv =>
 cases hv
 obtain ⟨v0,g0,hg0,hro0⟩:=hI.rows (b:=0) (k:=8) (l:=l) rfl
 obtain ⟨v1,g1,hg1,hro1⟩:=hI.rows (b:=1) (k:=8) (l:=[x]) rfl
 have e0:=(h0.cellv (by simp)).ownv hg0
 have e1:=h1.flatv.1
 have e2:=(h2.cellv (by simp)).ownv hg1
 subst e0 e1 e2
 rcases hro1 with ⟨h,_⟩ | ⟨vb,vc,new,en,_,rfl,rfl,hnS,hnh,hnc,hnm,hns,_,hnf⟩
 ·cases h
 have hnew:8≤new.size:=by rw [hns]; simp at hnc; omega
 have hV:F2 (PR w S) x (new.toList.take 8):=by simpa using hnf
 have hV1:∀ v∈new.toList.take 8,v.oneCell'=true:=fun v hv=>by
  obtain ⟨j,hj⟩:=List.getElem?_of_mem hv
  obtain ⟨c,_,hc⟩:=hV.getR hj
  exact hc.one
 have hvw:vb < w.heap.size:=(Array.getElem?_eq_some_iff.1 hnh).1
 have fin:∀ {w':World} {cap g:Nat},Grow w S w' S→RowOk w' S 8 (l.take i++x::l.drop i) (.slice (some ⟨g,0,none⟩) (l.length + 1) cap) (some g) →
   ∃ v S' inj',(Ending.returned (.slice (some ⟨g,0,none⟩) (l.length + 1) cap):Ending)=.returned v∧Done w S inj 2 (.one (.own 2)) [.dead,.dead,.rows 8 (l.take i++x::l.drop i)] v w' S' inj':=fun hG hR=>by
  obtain ⟨inj',hd⟩:=fin_own (n:=2) hI rfl hfree hG hR
  exact ⟨_,S,inj',rfl,hd⟩
 have hsrc:Src Tryz.prog w 8 1 (.slice (some ⟨vb,0,none⟩) 1 vc) (new.toList.take 8):=by
  have hc:∀ j v,(new.toList.take 8)[j]?=some v→w.cell? ((⟨vb,0,none⟩:Addr).add j)=some v:=fun j v hj=>by
   rw [addr_add,Nat.zero_add,World.cell?,hnh]
   rw [List.getElem?_take] at hj
   split at hj
   ·simpa using hj
   ·cases hj
  have hl8:(new.toList.take 8).length=1 * 8:=by rw [List.length_take,Array.length_toList]; omega
  exact ⟨fun w'=>by simp [Builtin.lenOf],run_firstCells_some w _ _ _ _ _ _ hl8 hc,run_firstCells_some w.drew _ _ _ _ _ _ hl8 (by simpa using hc),hl8,hV1⟩
 have h8:(ty T 68).sz=8:=by kernel_rfl
 have hbytes:(ty T 68).bytes≤1000:=of_decide_eq_true (by kernel_rfl)
 have hroom:∀ m,m≤1000001→m * (ty T 68).bytes≤140737488355328:=fun m hm=>by have:=Nat.mul_le_mul hm hbytes; omega
 rcases hro0 with ⟨rfl,rfl,ad,rfl⟩ | ⟨g,cap,cur,e,_,rfl,rfl,hS,hh,hcap,hmax,hcs,_,hf⟩
 ·
  obtain rfl:i=0:=by simpa using hi
  have ho0:(Builtin.firstCells 8 0 (.slice ad 0 0)).run Tryz.prog w.drew=.ok ([]:List Value).toArray w.drew:=by
   cases ad<;>simp [Builtin.firstCells,loadCells,loadCellsFrom]
  obtain ⟨zs,hzl,hr⟩:=append_grow (ty:=50) (x:=ty T 68) Tryz.underlying50 Tryz.underlying50 (.inr ⟨_,rfl⟩) hIt hsrc ho0 (by omega) (hroom _ (by omega)) (by omega)
  simp only [h8] at hr hzl
  refine (ins_end 0 0 vc ad vb w _ _ hr).mono ?_
  rintro e' w' ⟨rfl,rfl⟩
  have hge:=grownCap_ge w (0 + 1) 0 68
  have hgm:=grownCap_le_maxLen w (0 + 1) 0 68 (by simp only [maxLen]; omega)
  have hG:Grow w S (w.drew.alloc (.cells ([]++new.toList.take 8++zs).toArray 68)) S:=⟨rfl,rfl,rfl,by simp,fun g' hg'=>hao w.drew _ g' (hI.lt g' hg'),fun _ h=>h,rfl⟩
  refine fin hG (ins_rowOk (A:=[]) (V:=new.toList.take 8) (D:=[]) (Y:=zs) hl hx hi (fun h=>absurd (hI.lt _ h) (by omega)) (e:=68) ?_ (by simpa using hge) hgm ?_ .nil (hV.mono' fun _ _ h=>h.grow hG) .nil)
  ·have:=han w.drew (.cells ([]++new.toList.take 8++zs).toArray 68)
   simpa using this
  ·rw [List.append_nil,List.nil_append,List.length_append,hsrc.l,hzl,←Nat.add_mul]; congr 1; omega
 ·have hne:vb≠g:=by
   rintro rfl
   have:=hI.sep 0 1 vb (by intro h; cases h) (by intro h; cases h) (by rw [hg0]; rfl) (by rw [hg1]; rfl)
   cases this
  have hgw:g < w.heap.size:=(Array.getElem?_eq_some_iff.1 hh).1
  have hnc':l.length * 8≤cap * 8:=Nat.mul_le_mul_right 8 hcap
  have hold:(cur.toList.take (l.length * 8)).length=l.length * 8:=by rw [List.length_take,Array.length_toList (xs:=cur)]; omega
  have hC1:∀ v∈cur.toList.take (l.length * 8),v.oneCell'=true:=fun v hv=>by
   obtain ⟨j,hj⟩:=List.getElem?_of_mem hv
   obtain ⟨c,_,hc⟩:=hf.getR hj
   exact hc.one
  have hil:i * 8≤l.length * 8:=Nat.mul_le_mul_right 8 hi
  have hA:F2 (PR w S) (l.flatten.take (i * 8)) (cur.toList.take (i * 8)):=by
   have:=hf.take (i * 8)
   rwa [List.take_take,Nat.min_eq_left hil] at this
  have hD:=hf.drop (i * 8)
  by_cases hend:i=l.length
  ·
   subst hend
   have hDe:F2 (PR w S) (l.flatten.drop (l.length * 8)) []:=by
    have e1:l.flatten.length=l.length * 8:=flatten_len hl
    rw [←e1,List.drop_length]; exact .nil
   by_cases hm:l.length + 1≤cap
   ·have hr:=append_room (ty:=50) (x:=ty T 68) Tryz.underlying50 Tryz.underlying50 (.inr ⟨_,rfl⟩) hIt hsrc hh hm (by
     show l.length * 8 + _≤_
     rw [hsrc.l,hcs]; have:=Nat.mul_le_mul_right 8 hm; omega)
    simp only [h8] at hr
    refine (ins_end l.length cap vc _ vb w _ _ hr).mono ?_
    rintro e' w' ⟨rfl,rfl⟩
    have hG:Grow w S (w.setRow g (cur.toList.take (l.length * 8)++new.toList.take 8++cur.toList.drop (l.length * 8 + (new.toList.take 8).length)).toArray) S:=.setRow hS
    refine fin hG (ins_rowOk (A:=cur.toList.take (l.length * 8)) (V:=new.toList.take 8) (D:=[]) (Y:=cur.toList.drop (l.length * 8 + (new.toList.take 8).length)) hl hx hi hS (e:=e) ?_ hm hmax ?_ (hA.mono' fun _ _ h=>h.grow hG) (hV.mono' fun _ _ h=>h.grow hG) (hDe.mono' fun _ _ h=>h.grow hG))
    ·refine (setRow_heap w g cur _ e (0,0) hh).trans ?_
     rw [List.append_nil]
    ·rw [List.append_nil,List.length_append,List.length_append,hsrc.l,List.length_drop,hold,Array.length_toList (xs:=cur),hcs]
     have:=Nat.mul_le_mul_right 8 hm; omega
   ·have ho0:(Builtin.firstCells 8 l.length (.slice (some ⟨g,0,none⟩) l.length cap)).run Tryz.prog w.drew=.ok (cur.toList.take (l.length * 8)).toArray w.drew:=by
     refine run_firstCells_some w.drew _ _ _ _ _ _ hold (fun j v hj=>?_)
     rw [List.getElem?_take] at hj
     split at hj
     ·rw [addr_add,Nat.zero_add,World.cell?_drew]
      simpa [World.cell?,hh] using hj
     ·cases hj
    obtain ⟨zs,hzl,hr⟩:=append_grow (ty:=50) (x:=ty T 68) Tryz.underlying50 Tryz.underlying50 (.inr ⟨_,rfl⟩) hIt hsrc ho0 (by omega) (hroom _ (by omega)) (by omega)
    simp only [h8] at hr hzl
    refine (ins_end l.length cap vc _ vb w _ _ hr).mono ?_
    rintro e' w' ⟨rfl,rfl⟩
    have hge:=grownCap_ge w (l.length + 1) cap 68
    have hgm:=grownCap_le_maxLen w (l.length + 1) cap 68 (by simp only [maxLen]; omega)
    have hG:Grow w S (w.drew.alloc (.cells (cur.toList.take (l.length * 8)++new.toList.take 8++zs).toArray 68)) S:=⟨rfl,rfl,rfl,by simp,fun g' hg'=>hao w.drew _ g' (hI.lt g' hg'),fun _ h=>h,rfl⟩
    refine fin hG (ins_rowOk (A:=cur.toList.take (l.length * 8)) (V:=new.toList.take 8) (D:=[]) (Y:=zs) hl hx hi (fun h=>absurd (hI.lt _ h) (by omega)) (e:=68) ?_ hge hgm ?_ (hA.mono' fun _ _ h=>h.grow hG) (hV.mono' fun _ _ h=>h.grow hG) (hDe.mono' fun _ _ h=>h.grow hG))
    ·have:=han w.drew (.cells (cur.toList.take (l.length * 8)++new.toList.take 8++zs).toArray 68)
     simpa using this
    ·rw [List.append_nil,List.length_append,List.length_append,hold,hsrc.l,hzl,←Nat.add_mul,←Nat.add_mul]; congr 1; omega
  ·have hi':i < l.length:=by omega
   by_cases hm:l.length + 1≤cap
   ·
    refine (ins_shift g l.length cap i vb vc cur new e en w hi' hm hmax hne hh hnh hcs hnew hC1 hV1).mono ?_
    rintro e' w' ⟨rfl,w1,hw1,hos,htape,hout,rfl⟩
    have hG1:Grow w S w1 S:=⟨hos,htape,hout,by rw [hw1]; exact Nat.le_refl _,fun g' _=>by rw [hw1],fun _ h=>h,rfl⟩
    have hh1:w1.heap[g]?=some (.cells cur e (0,0)):=by rw [hw1]; exact hh
    have hh2:=setRow_heap w1 g cur (cur.toList.take ((i + 1) * 8)++(cur.toList.take (l.length * 8)).drop (i * 8)++cur.toList.drop ((l.length + 1) * 8)).toArray e (0,0) hh1
    have hG:=(hG1.trans (.setRow hS)).trans (Grow.setRow (w:=w1.setRow g (cur.toList.take ((i + 1) * 8)++(cur.toList.take (l.length * 8)).drop (i * 8)++cur.toList.drop ((l.length + 1) * 8)).toArray) (cs:=(cur.toList.take (i * 8)++new.toList.take 8++((cur.toList.take (l.length * 8)).drop (i * 8)++cur.toList.drop ((l.length + 1) * 8))).toArray) hS)
    refine fin hG (ins_rowOk (A:=cur.toList.take (i * 8)) (V:=new.toList.take 8) (D:=(cur.toList.take (l.length * 8)).drop (i * 8)) (Y:=cur.toList.drop ((l.length + 1) * 8)) hl hx hi hS (e:=e) ?_ hm hmax ?_ (hA.mono' fun _ _ h=>h.grow hG) (hV.mono' fun _ _ h=>h.grow hG) (hD.mono' fun _ _ h=>h.grow hG))
    ·refine (setRow_heap _ g _ _ e (0,0) hh2).trans ?_
     rw [List.append_assoc (cur.toList.take (i * 8)++new.toList.take 8)]
    ·rw [List.length_append,List.length_append,List.length_append,hsrc.l,List.length_drop,List.length_drop,hold,List.length_take,Array.length_toList (xs:=cur),hcs]
     have:=Nat.mul_le_mul_right 8 hm; omega
   ·
    refine (ins_grow g l.length cap i vb vc cur new e en w hi' hcap (by omega) hn hh hnh hcs hnew hC1 hV1).mono ?_
    rintro e' w' ⟨G,R0,R1,rest,hGn,hGm,hrl,rfl,w1,hw1,hos,htape,hout,rfl⟩
    have hz:w1.heap.size=w.heap.size:=by rw [hw1]
    have hnS':¬ S.all w.heap.size:=fun h=>absurd (hI.lt _ h) (by omega)
    have hG1:Grow w S (w1.alloc (.cells R0 68)) S:=⟨hos,htape,hout,by simp [hz],fun g' hg'=>by rw [hao _ _ _ (by rw [hz]; exact hI.lt g' hg'),hw1],fun _ h=>h,rfl⟩
    have hh1:(w1.alloc (.cells R0 68)).heap[w.heap.size]?=some (.cells R0 68 (0,0)):=by have:=han w1 (.cells R0 68); rwa [hz] at this
    have hh2:=setRow_heap _ w.heap.size _ R1 _ (0,0) hh1
    have hG:=(hG1.trans (.setRow (cs:=R1) hnS')).trans (Grow.setRow (w:=(w1.alloc (.cells R0 68)).setRow w.heap.size R1) (cs:=(cur.toList.take (i * 8)++new.toList.take 8++(cur.toList.take (l.length * 8)).drop (i * 8)++rest).toArray) hnS')
    refine fin hG (ins_rowOk (A:=cur.toList.take (i * 8)) (V:=new.toList.take 8) (D:=(cur.toList.take (l.length * 8)).drop (i * 8)) (Y:=rest) hl hx hi hnS' (e:=68) ?_ hGn hGm ?_ (hA.mono' fun _ _ h=>h.grow hG) (hV.mono' fun _ _ h=>h.grow hG) (hD.mono' fun _ _ h=>h.grow hG))
    ·exact setRow_heap _ w.heap.size _ _ _ (0,0) hh2
    ·rw [List.length_append,List.length_append,List.length_append,hsrc.l,List.length_drop,hold,List.length_take,Array.length_toList (xs:=cur),hrl,Nat.sub_mul]
     have:=Nat.mul_le_mul_right 8 hGn; omega
end
end Go.Proofs.YtidkmoohgadjkaaGreat.E
namespace Go.Proofs.YtidkmoohgadjkaaGreat.E
open Go Go.Lib Go.RowKit
theorem run_clear_row {P:Program} (w:World) (t elem ty:TypeId) (z:Value) {k:Nat} (ht:P.underlying t=some (.slice elem)) (hv:∀ w,(zeroValue elem).run P w=.ok z w) (hz:z.cells.size=k) (h1:∀ v∈z.cells.toList,v.oneCell'=true) (g o n c:Nat) (hn:0 < n)
  (cur:Array Value) (e:TypeId) (hh:w.heap[g]?=some (.cells cur e (0,0))) (hle:o + n * k≤cur.size) :
  (Builtin.clear_ #[t] ty #[.slice (some ⟨g,o,none⟩) n c]).run P w=.ok (.tuple #[]) (w.setRow g (cur.toList.take o++(Builtin.zeroCells z.cells n).toList++cur.toList.drop (o + n * k)).toArray):=by
 have hl:(Builtin.zeroCells z.cells n).toList.length=n * k:=by rw [Array.length_toList,size_zeroCells,hz]
 have hst:=run_storeCells_at P g o e (Builtin.zeroCells z.cells n).toList 0 cur w hh (by rw [hl]; simpa using hle) (fun v hv=>by
  have hv:v∈Builtin.zeroCells z.cells n:=by simpa using hv
  obtain ⟨j,hj⟩:=Array.getElem?_of_mem hv
  obtain ⟨hj1,rfl⟩:=Array.getElem?_eq_some_iff.1 hj
  rw [size_zeroCells] at hj1
  have hp:0 < z.cells.size:=Nat.pos_of_ne_zero fun h0=>by rw [h0] at hj1; simp at hj1
  refine h1 _ ?_
  simp only [Builtin.zeroCells,Array.getElem_map,Array.getElem_range]
  rw [getElem!_pos z.cells (j % z.cells.size) (Nat.mod_lt _ hp)]
  simp)
 simp only [Nat.add_zero,hl] at hst
 obtain ⟨m,rfl⟩:∃ m,n=m + 1:=⟨n - 1,by omega⟩
 simp [Builtin.clear_,run_underlying ht,hv,hst]
theorem step_append_run {P:Program} {ops:Array Oper} {o:Oper} {a:Act} {w:World} {K:Act→World→Prop} {Q:Exit→Act→World→Prop} {E:Prop}
  (hg:o.guard=none) (d x:Operand) (dT sT:TypeId) (hop:o.op=Op.call { callee:=Callee.builtin Builtin.append,args := #[d,x],argTypes := #[dT,sT] })
  (v u:Value) (hd:a.eval d=v) (hx:a.eval x=u) {v':Value} {w':World} (hr:(Builtin.append_ #[dT,sT] o.type #[v,u]).run P w=.ok v' w') (hK:K (a.put o.dst v') w') :
  if Region.wanted o (yielded ops a.tmps)=true then Oper.wp P o a w K Q else E:=by
 have hw:Region.wanted o (yielded ops a.tmps)=true:=by simp [Region.wanted,hg]
 rw [if_pos hw]
 unfold Oper.wp
 simp only [execOp,hop,resolve,invoke,builtin,Sem.run_bind,Sem.run_pure,Result.andThen_ok,List.map_toArray,List.map_cons,List.map_nil,hd,hx,hr]
 exact hK
set_option maxHeartbeats 4000000 in
set_option maxRecDepth 100000 in
theorem del_one (g i m c:Nat) (cur:Array Value) (e:TypeId) (w:World) (hc:i + 1 + m≤c) (hc63:c≤9223372036854775807) (hg:w.heap[g]?=some (.cells cur e (0,0))) (hcs:cur.size=c * 8)
  (h1:∀ v∈cur.toList.take ((i + 1 + m) * 8),v.oneCell'=true) :
  Calls Tryz.prog 171 #[.slice (some ⟨g,0,none⟩) (i + 1 + m) c,.int .i64 i,.int .i64 ((i:Int) + 1)] w fun x w'=>x=.returned (.slice (some ⟨g,0,none⟩) (i + m) c) ∧
   ∃ (w1:World) (R1:Array Value) (rest:List Value),rest.length=(c - (i + m)) * 8∧w1.heap=w.heap∧w1.os=w.os∧w1.tape=w.tape∧w1.output=w.output∧w'=(w1.setRow g R1).setRow g (cur.toList.take (i * 8)++(cur.toList.take ((i + 1 + m) * 8)).drop ((i + 1) * 8)++rest).toArray:=by
 have hI:=(T_ok 68).known (of_decide_eq_true (by kernel_rfl))
 have h8:(ty T 68).sz=8:=by kernel_rfl
 obtain ⟨M,hM⟩:∃ M,M=(cur.toList.take ((i + 1 + m) * 8)).drop ((i + 1) * 8):=⟨_,rfl⟩
 have lM:M.length=m * 8:=by rw [hM,List.length_drop,List.length_take,Array.length_toList (xs:=cur),hcs]; omega
 have hM1:∀ v∈M,v.oneCell'=true:=fun v hv=>h1 v (by rw [hM] at hv; exact List.mem_of_mem_drop hv)
 obtain ⟨Ad,hAd,hsrc⟩:∃ Ad:Addr,(if c=i + 1 then (⟨g,0,none⟩:Addr) else ⟨g,(i + 1) * 8,none⟩)=Ad∧∀ (W:World),W.heap=w.heap→Src Tryz.prog W 8 m (.slice (some Ad) m (c - (i + 1))) M:=by
  refine ⟨_,rfl,fun W hW=>?_⟩
  have hcell:∀ (W:World),W.heap=w.heap→∀ j v,M[j]?=some v→W.cell? ((if c=i + 1 then (⟨g,0,none⟩:Addr) else ⟨g,(i + 1) * 8,none⟩).add j)=some v:=fun W hW j v hj=>by
   by_cases h:c=i + 1
   ·have h0:M=[]:=List.eq_nil_of_length_eq_zero (by rw [lM]; omega)
    rw [h0] at hj; simp at hj
   ·rw [if_neg h,addr_add,World.cell?,hW,hg]
    rw [hM,List.getElem?_drop,List.getElem?_take] at hj
    split at hj
    ·simpa using hj
    ·cases hj
  exact ⟨fun w'=>by simp [Builtin.lenOf],run_firstCells_some W _ _ _ _ _ _ lM (hcell W hW),run_firstCells_some W.drew _ _ _ _ _ _ lM (hcell W.drew hW),lM,hM1⟩
 obtain ⟨R1,hR1⟩:∃ R1:Array Value,R1=(cur.toList.take (i * 8)++M++cur.toList.drop (i * 8 + m * 8)).toArray:=⟨_,rfl⟩
 have hap:=append_room (ty:=50) (x:=ty T 68) Tryz.underlying50 Tryz.underlying50 (.inr ⟨_,rfl⟩) hI (hsrc w.drew rfl) (g:=g) (n:=i) (cap:=c) (cur:=cur) (e':=e) hg (by omega) (by
  show i * 8 + _≤_
  rw [lM,hcs]; omega)
 simp only [h8,lM] at hap
 rw [←hR1] at hap
 obtain ⟨i0,z,hi0,hzs,hzb,hz0,hzc,_⟩:=hI.info
 have hzl:z.cells.size=8:=by
  have:=hI.z
  rw [←Array.length_toList,hzc]; rfl
 obtain ⟨R2,hR2⟩:∃ R2:Array Value,R2=(R1.toList.take ((i + m) * 8)++(Builtin.zeroCells z.cells 1).toList++R1.toList.drop ((i + m) * 8 + 1 * 8)).toArray:=⟨_,rfl⟩
 have sR1:R1.size=c * 8:=by
  rw [hR1,List.size_toArray,List.length_append,List.length_append,lM,List.length_drop,List.length_take,Array.length_toList (xs:=cur),hcs]; omega
 have hzv:∀ w,(zeroValue 68).run Tryz.prog w=.ok z w:=fun w=>by simp [zeroValue,typeInfo,hi0,hz0]
 have hcl:∀ (W:World),W.heap=(w.setRow g R1).heap→(Builtin.clear_ #[50] 0 #[.slice (some ⟨g,(i + m) * 8,none⟩) 1 (c - (i + m))]).run Tryz.prog W=.ok (.tuple #[]) (W.setRow g R2):=fun W hW=>by
  rw [hR2]
  exact run_clear_row W _ _ _ z Tryz.underlying50 hzv hzl (by rw [hzc]; exact fun v hv=>flat_one (hI.fl v hv)) g ((i + m) * 8) 1 _ (by omega) R1 e (by rw [hW]; exact setRow_heap _ _ _ _ _ _ hg) (by rw [sR1]; omega)
 have eR2:R2=(cur.toList.take (i * 8)++M++((Builtin.zeroCells z.cells 1).toList++R1.toList.drop ((i + m) * 8 + 1 * 8))).toArray:=by
  rw [hR2]
  congr 1
  have hl:(cur.toList.take (i * 8)++M).length=(i + m) * 8:=by
   rw [List.length_append,lM,List.length_take,Array.length_toList (xs:=cur),hcs]; omega
  have:R1.toList.take ((i + m) * 8)=cur.toList.take (i * 8)++M:=by
   rw [hR1,List.toList_toArray,←hl,List.take_left]
  rw [this]; simp
 have lR:((Builtin.zeroCells z.cells 1).toList++R1.toList.drop ((i + m) * 8 + 1 * 8)).length=(c - (i + m)) * 8:=by
  rw [List.length_append,Array.length_toList,size_zeroCells,hzl,List.length_drop,Array.length_toList (xs:=R1),sR1]; omega
 have hres:Hold (R2=(cur.toList.take (i * 8)++M++((Builtin.zeroCells z.cells 1).toList++R1.toList.drop ((i + m) * 8 + 1 * 8))).toArray):=⟨eR2⟩
 have lR':Hold (((Builtin.zeroCells z.cells 1).toList++R1.toList.drop ((i + m) * 8 + 1 * 8)).length=(c - (i + m)) * 8):=⟨lR⟩
 have hc1:=hcl (w.drew.setRow g R1) rfl
 have hc2:=hcl (w.drew.setRow g R1).drew rfl
 have h9:c≤9223372036854775807:=hc63
 have hn1:¬ ((i:Int)=(i:Int) + 1):=by omega
 have hb1:(i:Int) + 1≤((i + 1 + m:Nat):Int):=by omega
 have hb2:((i + 1 + m:Nat):Int)≤(c:Int):=by omega
 have ht:((i:Int) + 1).toNat=i + 1:=by omega
 have hic:i≤c:=by omega
 have hi1:(i:Int)≤(i:Int) + 1:=by omega
 have hi2:i + 1≤c:=by omega
 have hcim:¬ (c=i + m):=by omega
 have hle1:(i:Int) + (m:Int)≤(i:Int) + 1 + (m:Int):=by omega
 have hle2:(i:Int) + 1 + (m:Int)≤(c:Int):=by omega
 have hsub:i + 1 + m - (i + m)=1:=by omega
 have h0i:(0:Int)≤(i:Int) + 1:=by omega
 have hbm:(i:Int) + 1≤(i:Int) + 1 + (m:Int):=by omega
 rw [←hM]
 clear hI hM hsrc hR1 hR2 hcl hzl hzc hz0 hzv hi0 hzs hzb sR1 eR2 lR hM1 h1 lM h8
 by_cases hce:c=i + 1
 ·rw [if_pos hce] at hAd
  subst hAd
  subst hce
  obtain rfl:m=0:=by omega
  rw [Nat.sub_self] at hap
  simp only [Nat.add_zero,Nat.add_sub_cancel_left] at hap hc1 hc2 hres lR' hb1 hb2 hbm hcim hle1 hle2 hsub ⊢
  go_enter Tryz.func171,Tryz.ntmps171
  go_wp2
  go_region_law (refine step_append_run rfl _ _ 50 50 rfl _ _ (by simp [Act.eval,Act.put]) (by simp [Act.eval,Act.put]) hap ?_)
  go_wp2
  go_ret
  exact ⟨rfl,w.drew,R1,_,lR'.h,rfl,rfl,rfl,rfl,by rw [←hres.h]⟩
 ·rw [if_neg hce] at hAd
  subst hAd
  go_enter Tryz.func171,Tryz.ntmps171
  go_wp2
  go_region_law (refine step_append_run rfl _ _ 50 50 rfl _ _ (by simp [Act.eval,Act.put]) (by simp [Act.eval,Act.put]) hap ?_)
  go_wp2
  go_ret
  exact ⟨rfl,w.drew,R1,_,lR'.h,rfl,rfl,rfl,rfl,by rw [←hres.h]⟩
end Go.Proofs.YtidkmoohgadjkaaGreat.E
set_option maxHeartbeats 4000000
namespace Go.Proofs.YtidkmoohgadjkaaGreat.E
open Go Go.Lib Go.RowKit
theorem delete_callOk {l:List (List PC)} {i:Nat} (hl:∀ r∈l,r.length=8) (hi:i < l.length) (hn:l.length≤1000000) :
  CallOk Tryz.prog 171 [.one (.own 0),iv i,iv ((i:Int) + 1)] [.rows 8 l] (.one (.own 1)) [.dead,.rows 8 (l.take i++l.drop (i + 1))]:=by
 refine ⟨⟨_,_,Tryz.func171,rfl,rfl⟩,fun w S inj vs hv hI hfree=>?_⟩
 cases hv with
 | cons h0 hv =>
 cases hv with
 | cons h1 hv =>
 cases hv with
 | cons h2 hv =>
 cases hv
 obtain ⟨v0,g0,hg0,hro0⟩:=hI.rows (b:=0) (k:=8) (l:=l) rfl
 have e0:=(h0.cellv (by simp)).ownv hg0
 have e1:=h1.flatv.1
 have e2:=h2.flatv.1
 subst e0 e1 e2
 rcases hro0 with ⟨rfl,_⟩ | ⟨g,cap,cur,e,_,rfl,rfl,hS,hh,hcap,hmax,hcs,_,hf⟩
 ·simp at hi
 obtain ⟨m,hm⟩:∃ m,l.length=i + 1 + m:=⟨l.length - (i + 1),by omega⟩
 have hC1:∀ v∈cur.toList.take ((i + 1 + m) * 8),v.oneCell'=true:=fun v hv=>by
  rw [←hm] at hv
  obtain ⟨j,hj⟩:=List.getElem?_of_mem hv
  obtain ⟨c,_,hc⟩:=hf.getR hj
  exact hc.one
 rw [hm] at hcap ⊢
 rw [hm] at hf
 refine (del_one g i m cap cur e w hcap hmax hh hcs hC1).mono ?_
 rintro e' w' ⟨rfl,w1,R1,rest,hrl,hw1,hos,htape,hout,rfl⟩
 have hG1:Grow w S w1 S:=⟨hos,htape,hout,by rw [hw1]; exact Nat.le_refl _,fun g' _=>by rw [hw1],fun _ h=>h,rfl⟩
 have hh1:w1.heap[g]?=some (.cells cur e (0,0)):=by rw [hw1]; exact hh
 have hh2:=setRow_heap w1 g cur R1 e (0,0) hh1
 have hG:=(hG1.trans (.setRow (cs:=R1) hS)).trans (Grow.setRow (w:=w1.setRow g R1) (cs:=(cur.toList.take (i * 8)++(cur.toList.take ((i + 1 + m) * 8)).drop ((i + 1) * 8)++rest).toArray) hS)
 obtain ⟨f1,_⟩:=flat_take hl i
 obtain ⟨_,f2⟩:=flat_take hl (i + 1)
 have hlen:(l.take i++l.drop (i + 1)).length=i + m:=by rw [List.length_append,List.length_take,List.length_drop]; omega
 have hF:F2 (PR w S) (l.take i++l.drop (i + 1)).flatten (cur.toList.take (i * 8)++(cur.toList.take ((i + 1 + m) * 8)).drop ((i + 1) * 8)):=by
  rw [List.flatten_append,f1,f2]
  refine F2.app ?_ (hf.drop _)
  have:=hf.take (i * 8)
  rwa [List.take_take,Nat.min_eq_left (by omega)] at this
 have hR:RowOk ((w1.setRow g R1).setRow g (cur.toList.take (i * 8)++(cur.toList.take ((i + 1 + m) * 8)).drop ((i + 1) * 8)++rest).toArray) S 8 (l.take i++l.drop (i + 1)) (.slice (some ⟨g,0,none⟩) (i + m) cap) (some g):=by
  refine .inr ⟨g,cap,_,e,by decide,rfl,by rw [hlen],hS,setRow_heap _ g _ _ e (0,0) hh2,by rw [hlen]; omega,hmax,?_,fun r hr=>?_,?_⟩
  ·have:=hF.len
   rw [List.size_toArray,List.length_append,←hF.len,flatten_len (k:=8) (fun r hr=>?_),hlen,hrl,Nat.sub_mul]
   ·have:=Nat.mul_le_mul_right 8 (show i + m≤cap by omega); omega
   ·rcases List.mem_append.1 hr with hr | hr
    ·exact hl r (List.mem_of_mem_take hr)
    ·exact hl r (List.mem_of_mem_drop hr)
  ·rcases List.mem_append.1 hr with hr | hr
   ·exact hl r (List.mem_of_mem_take hr)
   ·exact hl r (List.mem_of_mem_drop hr)
  ·have hl8:(cur.toList.take (i * 8)++(cur.toList.take ((i + 1 + m) * 8)).drop ((i + 1) * 8)).length=(l.take i++l.drop (i + 1)).length * 8:=by
    rw [←hF.len]
    exact flatten_len (k:=8) (fun r hr=>by
     rcases List.mem_append.1 hr with hr | hr
     ·exact hl r (List.mem_of_mem_take hr)
     ·exact hl r (List.mem_of_mem_drop hr))
   rw [List.toList_toArray,←hl8,List.take_left]
   exact hF.mono' fun _ _ h=>h.grow hG
 obtain ⟨inj',hd⟩:=fin_own (n:=1) hI rfl hfree hG hR
 exact ⟨_,S,inj',rfl,hd⟩
end Go.Proofs.YtidkmoohgadjkaaGreat.E
namespace Go.Proofs.YtidkmoohgadjkaaGreat
open Go E
def ins_s (l:List Item) (i:Int) (x:Item):Option (List Item):=chk (decide (0≤i∧i≤(l.length:Int)∧l.length≤1000000)) (some (l.take i.toNat++x::l.drop i.toNat))
theorem ins_c {X:Task→Prop} (hX:Closed X) {l r:List Item} {i:Int} {x:Item} {Q:A→List Blk→Prop} (h:ins_s l i x=some r) (hQ:Q (.one (.own 2)) [.dead,.dead,.rows 8 (r.map Item.row)]) :
  X (.call 172 [.one (.own 0),iv i,.one (.own 1)] [.rows 8 (l.map Item.row),.rows 8 [x.row]] Q):=by
 unfold ins_s at h
 obtain ⟨d,h⟩:=chk_some h
 injection h with h; subst h
 obtain ⟨h0,h1,h2⟩:=of_decide_eq_true d
 obtain ⟨n,rfl⟩:=Int.eq_ofNat_of_zero_le h0
 have hc:=insert_callOk (l:=l.map Item.row) (x:=x.row) (i:=n) (fun r hr=>by obtain ⟨y,_,rfl⟩:=List.mem_map.1 hr; rfl) rfl (by rw [List.length_map]; omega) (by rw [List.length_map]; exact h2)
 rw [Int.toNat_natCast,List.map_append,List.map_cons,List.map_take,List.map_drop] at hQ
 exact prim_call hX hc hQ
def del_s (l:List Item) (i:Int):Option (List Item):=chk (decide (0≤i∧i < (l.length:Int)∧l.length≤1000000)) (some (l.take i.toNat++l.drop (i.toNat + 1)))
theorem del_c {X:Task→Prop} (hX:Closed X) {l r:List Item} {i:Int} {Q:A→List Blk→Prop} (h:del_s l i=some r) (hQ:Q (.one (.own 1)) [.dead,.rows 8 (r.map Item.row)]) :
  X (.call 171 [.one (.own 0),iv i,iv (wr .i64 (i + 1))] [.rows 8 (l.map Item.row)] Q):=by
 unfold del_s at h
 obtain ⟨d,h⟩:=chk_some h
 injection h with h; subst h
 obtain ⟨h0,h1,h2⟩:=of_decide_eq_true d
 obtain ⟨n,rfl⟩:=Int.eq_ofNat_of_zero_le h0
 have hc:=delete_callOk (l:=l.map Item.row) (i:=n) (fun r hr=>by obtain ⟨y,_,rfl⟩:=List.mem_map.1 hr; rfl) (by rw [List.length_map]; omega) (by rw [List.length_map]; exact h2)
 rw [Int.toNat_natCast,List.map_append,List.map_take,List.map_drop] at hQ
 rw [wr64 (by omega) (by omega)]
 exact prim_call hX hc hQ
end Go.Proofs.YtidkmoohgadjkaaGreat
namespace Go.Proofs.YtidkmoohgadjkaaGreat.E
open Go Go.Lib Go.RowKit
set_option maxHeartbeats 4000000 in
set_option maxRecDepth 100000 in
theorem grow_some (n:Nat) (w:World) (h0:0 < n) (hn:n≤10000000):Calls Tryz.prog 226 #[.slice none 0 0,.int .i64 n] w fun x w'=>∃ (G:Nat) (R0:Array Value),G≤maxLen∧R0.size=G * 9∧x=.returned (.slice (some ⟨w.heap.size,0,none⟩) 0 G) ∧
  ∃ w1:World,w1.heap=w.heap∧w1.os=w.os∧w1.tape=w.tape∧w1.output=w.output∧w'=w1.alloc (.cells R0 153):=by
 have hI:=(T_ok 153).known (of_decide_eq_true (by kernel_rfl))
 have h9:(ty T 153).sz=9:=by kernel_rfl
 obtain ⟨i0,z,hi0,hzs,hzb,hz0,hzc,_⟩:=hI.info
 rw [h9] at hzs
 have hzl:z.cells.size=9:=by
  have:=hI.z
  rw [←Array.length_toList,hzc,this,h9]
 have hzb:i0.bytes≤1000:=by rw [hzb]; exact of_decide_eq_true (by kernel_rfl)
 have hold:(Builtin.firstCells i0.size 0 (.slice none 0 0)).run Tryz.prog w.drew=.ok ([]:List Value).toArray w.drew:=by
  simp [Builtin.firstCells]
 have hbb:(0 + n) * i0.bytes≤140737488355328:=by
  have:=Nat.mul_le_mul (show 0 + n≤10000000 by omega) hzb
  omega
 obtain ⟨G,hG⟩:∃ G,G=grownCap w (0 + n) 0 153:=⟨_,rfl⟩
 have hGn:0 + n≤G:=by rw [hG]; exact grownCap_ge w _ _ _
 have hG63:G≤maxLen:=by rw [hG]; exact grownCap_le_maxLen w (0 + n) 0 _ (by unfold maxLen; omega)
 obtain ⟨R0,hR0⟩:∃ R0:Array Value,R0=([]:List Value).toArray++Builtin.zeroCells z.cells n++Builtin.zeroCells z.cells (G - (0 + n)):=⟨_,rfl⟩
 have hrz:∀ ty,(Builtin.append_ #[29,3] ty #[.slice none 0 0,.int .i64 n]).run Tryz.prog w=.ok (.slice (some ⟨w.heap.size,0,none⟩) (0 + n) G) (w.drew.alloc (.cells R0 153)):=fun ty=>by
  have h:=Lib.run_append_grow_zeros w 29 3 ty 153 i0 z .i64 .i64 Tryz.underlying29 Tryz.underlying3 hi0 hz0 none 0 0 [] hold n (by omega) (by omega) (by omega) (by omega)
   (by have:=Nat.mul_le_mul_right i0.bytes (show n≤0 + n by omega); omega) (growslice_fits (by omega) hbb)
  rw [←hG] at h
  rw [hR0]
  exact h
 have sR0:Hold (R0.size=G * 9):=⟨by
  rw [hR0,Array.size_append,Array.size_append,size_zeroCells,size_zeroCells,hzl]
  simp; omega⟩
 rw [Nat.zero_add] at hrz hGn
 have hpos:¬ ((n:Int) < 0):=by omega
 have hp2:(0:Int) < (n:Int):=by omega
 have hG6:G≤9223372036854775807:=hG63
 clear hR0 hG hold hbb hzl hzs hzb hz0 hzc hi0 hI h9 hG63
 go_enter Tryz.func226,Tryz.ntmps226
 go_wp2_with (at_builtin; refine Lib.wpList_append_run _ rfl _ _ _ _ rfl _ _ rfl rfl _ _ (hrz _) ?_)
 go_ret
 first | exact ⟨G,R0,hG6,sR0.h,rfl,w.drew,rfl,rfl,rfl,rfl,rfl⟩ | exact ⟨G,hG6,R0,sR0.h,rfl,w.drew,rfl,rfl,rfl,rfl,rfl⟩
set_option maxHeartbeats 4000000 in
set_option maxRecDepth 100000 in
theorem grow_none (w:World):Calls Tryz.prog 226 #[.slice none 0 0,.int .i64 0] w fun x w'=>x=.returned (.slice none 0 0)∧w'=w:=by
 go_enter Tryz.func226,Tryz.ntmps226
 go_wp2
 go_ret
 exact ⟨rfl,rfl⟩
set_option maxRecDepth 100000 in
theorem grow_callOk {n:Int} (h0:0≤n) (hn:n≤10000000):CallOk Tryz.prog 226 [.one (.p (.v (.slice none 0 0))),iv n] [] (.one (.own 0)) [.rows 9 []]:=by
 refine ⟨⟨_,_,Tryz.func226,rfl,rfl⟩,fun w S inj vs hv hI hfree=>?_⟩
 cases hv with
 | cons h1 hv =>
 cases hv with
 | cons h2 hv =>
 cases hv
 have e1:=h1.flatv.1
 have e2:=h2.flatv.1
 subst e1 e2
 obtain ⟨n,rfl⟩:=Int.eq_ofNat_of_zero_le h0
 by_cases hz:n=0
 ·subst hz
  refine (grow_none w).mono ?_
  rintro e' w' ⟨rfl,rfl⟩
  obtain ⟨inj',hd⟩:=fin_own (n:=0) (k:=9) (l:=[]) hI rfl hfree (.refl _ _) (.inl ⟨rfl,rfl,none,rfl⟩)
  exact ⟨_,S,inj',rfl,hd⟩
 ·refine (grow_some n w (by omega) (by omega)).mono ?_
  rintro e' w' ⟨G,R0,hGm,hs,rfl,w1,hw1,hos,htape,hout,rfl⟩
  have hz:w1.heap.size=w.heap.size:=by rw [hw1]
  have hG:Grow w S (w1.alloc (.cells R0 153)) S:=⟨hos,htape,hout,by simp [hz],fun g' hg'=>by rw [hao _ _ _ (by rw [hz]; exact hI.lt g' hg'),hw1],fun _ h=>h,rfl⟩
  have hh1:(w1.alloc (.cells R0 153)).heap[w.heap.size]?=some (.cells R0 153 (0,0)):=by have:=han w1 (.cells R0 153); rwa [hz] at this
  obtain ⟨inj',hd⟩:=fin_own (n:=0) (k:=9) (l:=[]) hI rfl hfree hG (.inr ⟨w.heap.size,G,R0,_,by decide,rfl,rfl,fun h=>absurd (hI.lt _ h) (by omega),hh1,by simp,hGm,hs,by simp,by simpa using F2.nil⟩)
  exact ⟨_,S,inj',rfl,hd⟩
end Go.Proofs.YtidkmoohgadjkaaGreat.E
namespace Go.Proofs.YtidkmoohgadjkaaGreat
open Go E
def grow_s (n:Int):Option (List Frag):=chk (decide (0≤n∧n≤10000000)) (some [])
theorem grow_c {X:Task→Prop} (hX:Closed X) {n:Int} {r:List Frag} {Q:A→List Blk→Prop} (h:grow_s n=some r) (hQ:Q (.one (.own 0)) [.rows 9 (r.map Frag.row)]) :
  X (.call 226 [.one (.p (.v (.slice Option.none 0 0))),iv n] [] Q):=by
 unfold grow_s at h
 obtain ⟨d,h⟩:=chk_some h
 injection h with h; subst h
 obtain ⟨h0,h1⟩:=of_decide_eq_true d
 exact prim_call hX (grow_callOk h0 h1) hQ
end Go.Proofs.YtidkmoohgadjkaaGreat
set_option maxHeartbeats 0
namespace Go.Proofs.YtidkmoohgadjkaaGreat
open Go E
noncomputable section
open Pred
def ref06_With_s (p0:Know) (p1:ByteArray) (p2:Ver):Option (Know) :=
 (chk (roomL 0 p0.l.length)
  (bnd (ref06_WithVec_s (V8.mk 0 0 0 0 0 0 0 0) p2) fun y2 =>
   (chk (roomL p0.l.length 1)
    (bnd (ref06_Plain_s (Know.mk p0.star (p0.l++[(Frag.mk [p1] y2)]))) fun y5 =>
     some y5))))
def ref06_Join_s (p0:Know) (p1:Know):Option (Know) :=
 (bnd (ref06_Max_s p0.star p1.star) fun y1 =>
  (chk (roomL 0 p0.l.length)
   (chk (roomL p0.l.length p1.l.length)
    (bnd (ref06_Plain_s (Know.mk y1 (p0.l++p1.l))) fun y5 =>
     some y5))))
def ref06_Drop_l1 (p1:ByteArray):List Item→(List Item)→Option ((List Item))
  | [],v2 =>
  some v2
  | x1e::xs1,v2 =>
  (br (!eqS x1e.id p1)
   (chk (roomL v2.length 1)
    (ref06_Drop_l1 p1 xs1  (v2++[x1e])))
   (ref06_Drop_l1 p1 xs1  v2))
def ref06_Drop_s (p0:List Item) (p1:ByteArray):Option ((List Item)) :=
 (chk (smallL p0)
   ((ref06_Drop_l1 p1) p0 ([]:List Item)))
def ref06_Put_l2 (p1:Item):List Item→(List Item)→Option ((List Item))
  | [],v7 =>
  some v7
  | x2e::xs2,v7 =>
  (br (!(ltS x2e.id p1.id || eqS x2e.id p1.id))
   (chk (roomL v7.length 1)
    (ref06_Put_l2 p1 xs2  (v7++[x2e])))
   (ref06_Put_l2 p1 xs2  v7))
def ref06_Put_l1 (p0:List Item) (p1:Item):List Item→(List Item)→Option ((List Item))
  | [],v2 =>
  (chk (roomL v2.length 1)
   (chk (smallL p0)
     ((ref06_Put_l2 p1) p0 (v2++[p1]))))
  | x1e::xs1,v2 =>
  (br (ltS x1e.id p1.id)
   (chk (roomL v2.length 1)
    (ref06_Put_l1 p0 p1 xs1  (v2++[x1e])))
   (ref06_Put_l1 p0 p1 xs1  v2))
def ref06_Put_s (p0:List Item) (p1:Item):Option ((List Item)) :=
 (chk (smallL p0)
   ((ref06_Put_l1 p0 p1) p0 ([]:List Item)))
def ref06_Both_l1:List Item→(List Item)→Option ((List Item))
  | [],v3 =>
  some v3
  | x1e::xs1,v3 =>
  (bnd (ref06_Get_s v3 x1e.id) fun y4 =>
   (br (!y4.2)
    (bnd (ref06_Put_s v3 x1e) fun y7 =>
     (ref06_Both_l1 xs1  y7))
    (bnd (ref01_Behind_s x1e y4.1) fun y9 =>
     (br y9
      (bnd (ref06_Put_s v3 x1e) fun y12 =>
       (ref06_Both_l1 xs1  y12))
      (ref06_Both_l1 xs1  v3)))))
def ref06_Both_s (p0:List Item) (p1:List Item):Option ((List Item)) :=
 (chk (roomL 0 p0.length)
  (chk (smallL p1)
    ((ref06_Both_l1) p1 p0)))
def ref06_SameList_l1 (p1:List Item):List Item→Int→Option (Bool)
  | [],v2 =>
  some true
  | x1e::xs1,v2 =>
  (bnd (atL p1 v2) fun x3 =>
   (bnd (ref01_Same_s x1e x3) fun y5 =>
    (br (!y5)
     (some false)
     (ref06_SameList_l1 p1 xs1 (v2 + 1) ))))
def ref06_SameList_s (p0:List Item) (p1:List Item):Option (Bool) :=
 (br (!eqI (p0.length:Int) (p1.length:Int))
  (some false)
  (chk (smallL p0)
    ((ref06_SameList_l1 p1) p0 0 )))
variable {X:Task→Prop} (hX:Closed X) {Q:A→List Blk→Prop}
include hX
theorem ref06_With_c  {p0:Know} {p1:ByteArray} {p2:Ver} {r:Know} (h:ref06_With_s p0 p1 p2=some r) (hQ:Q (.agg (Know.cs r)) []):X (.call 101 [.agg (Know.cs p0),.one (.p (.v (.string p1))),.agg (Ver.cs p2)] [] Q):=by
 unfold ref06_With_s at h
 refine call_nz hX ?_
 conv=>whnf
 refine call_intro hX Tryz.func101 rfl rfl ?_
 revert h
 refine chkk fun c1 h=>?_
 revert h
 refine bndk fun y2 e3 h=>?_
 conv=>whnf
 repeat((first|refine dw ?_|refine bct (room_zero c1 (List.length_map ..) rfl (rowsOk_map (f:=Frag.row) (sz:=9) (fun _=>rfl) _) rfl) ?_|refine eqv_to (nil_map (f:=Frag.row) _) ?_);conv=>whnf)
 refine ref06_WithVec_c hX e3 ?_
 revert h
 refine chkk fun c4 h=>?_
 revert h
 refine bndk fun y5 e6 h=>?_
 conv=>whnf
 repeat((first|refine dw ?_|refine bct (room_map c4 rfl rfl rfl rfl) ?_|refine eqv_to (cat_one (f:=Frag.row) p0.l (Frag.mk [p1] y2)) ?_);conv=>whnf)
 refine Or.inl ?_
 conv=>whnf
 refine ref06_Plain_c hX e6 ?_
 conv=>whnf
 repeat((first|refine dw ?_);conv=>whnf)
 exact ret_some (f:=fun y=>.agg (Know.cs y)) (g:=fun y=>[]) h hQ
theorem ref06_Join_c  {p0:Know} {p1:Know} {r:Know} (h:ref06_Join_s p0 p1=some r) (hQ:Q (.agg (Know.cs r)) []):X (.call 135 [.agg (Know.cs p0),.agg (Know.cs p1)] [] Q):=by
 unfold ref06_Join_s at h
 refine call_nz hX ?_
 conv=>whnf
 refine call_intro hX Tryz.func135 rfl rfl ?_
 revert h
 refine bndk fun y1 e2 h=>?_
 conv=>whnf
 repeat((first|refine dw ?_);conv=>whnf)
 refine ref06_Max_c hX e2 ?_
 revert h
 refine chkk fun c3 h=>?_
 revert h
 refine chkk fun c4 h=>?_
 revert h
 refine bndk fun y5 e6 h=>?_
 conv=>whnf
 repeat((first|refine dw ?_|refine bct (room_zero c3 (List.length_map ..) rfl (rowsOk_map (f:=Frag.row) (sz:=9) (fun _=>rfl) _) rfl) ?_|refine eqv_to (nil_map (f:=Frag.row) _) ?_|refine bct (room_map c4 (List.length_map ..) rfl (rowsOk_map (f:=Frag.row) (sz:=9) (fun _=>rfl) _) rfl) ?_|refine eqv_to (cat_map (f:=Frag.row) p0.l _) ?_);conv=>whnf)
 refine Or.inl ?_
 conv=>whnf
 refine ref06_Plain_c hX e6 ?_
 conv=>whnf
 repeat((first|refine dw ?_);conv=>whnf)
 exact ret_some (f:=fun y=>.agg (Know.cs y)) (g:=fun y=>[]) h hQ
theorem ref06_Drop_c  {p0:List Item} {p1:ByteArray} {r:(List Item)} (h:ref06_Drop_s p0 p1=some r) (hQ:Q (.one (.own 0)) [.rows 8 (r.map Item.row)]):X (.call 104 [.one (.p (.sl (p0.map Item.row))),.one (.p (.v (.string p1)))] [] Q):=by
  unfold ref06_Drop_s at h
  refine call_intro hX Tryz.func104 rfl rfl ?_
  revert h
  refine chkk fun hs1 h=>?_
  conv=>whnf
  repeat((first|refine dw ?_);conv=>whnf)
  refine loop_k hX [8] ?_
  conv=>whnf
  refine loop_lisx1 (fun (v1:Int) (v2:List Item)=>pad [(0,.one (.p (.sl (p0.map Item.row)))),(0,.one (.p (.v (.string p1)))),(3,.one (.own 0)),(0,iv v1)] 21) (fun (v1:Int) (v2:List Item)=>[.rows 8 (v2.map Item.row)]) _ p0 (fun pre1 x1e xs1 v1 v2 hl1 hi1 h ih1=>?_) (fun v1 v2 hi1 h=>?_) ([]:List Item) h
  ·rw [ref06_Drop_l1] at h
   have am1:=at_mid hl1 hi1
   refine loop_intro hX ?_
   conv=>whnf
   repeat((first|refine dw ?_|refine eqv_to (map_len _) ?_|refine bct (lt_mid hl1 hi1) ?_|refine bct (at_in am1) ?_|refine bct (andt (at_in am1) rfl) ?_|refine row_in (at_row am1) ?_|refine bct (andt (at_in (at_nat am1)) rfl) ?_|refine row_in (at_row (at_nat am1)) ?_);conv=>whnf)
   revert h
   refine brk (fun c3 h=>?_) (fun c3 h=>?_)
   ·revert h
    refine chkk fun c4 h=>?_
    conv=>whnf
    repeat((first|refine dw ?_|refine bct c3 ?_|refine bct (at_in am1) ?_|refine bct (andt (at_in am1) rfl) ?_|refine row_in (at_row am1) ?_|refine bct (andt (at_in (at_nat am1)) rfl) ?_|refine row_in (at_row (at_nat am1)) ?_|refine bct (room_map c4 rfl rfl rfl rfl) ?_|refine eqv_to (cat_one (f:=Item.row) v2 x1e) ?_);conv=>whnf)
    exact ih1 _ (v2++[x1e]) (wrL hs1 hl1 hi1) h
   ·conv=>whnf
    repeat((first|refine dw ?_|refine bcf c3 ?_);conv=>whnf)
    exact ih1 _ v2 (wrL hs1 hl1 hi1) h
  ·rw [ref06_Drop_l1] at h
   refine loop_intro hX ?_
   conv=>whnf
   repeat((first|refine dw ?_|refine eqv_to (map_len _) ?_|refine bcf (lt_end hi1) ?_);conv=>whnf)
   exact ret_some (f:=fun y=>.one (.own 0)) (g:=fun y=>[.rows 8 (y.map Item.row)]) h hQ
theorem ref06_Put_c  {p0:List Item} {p1:Item} {r:(List Item)} (h:ref06_Put_s p0 p1=some r) (hQ:Q (.one (.own 0)) [.rows 8 (r.map Item.row)]):X (.call 92 [.one (.p (.sl (p0.map Item.row))),.agg (Item.cs p1)] [] Q):=by
  unfold ref06_Put_s at h
  refine call_intro hX Tryz.func92 rfl rfl ?_
  revert h
  refine chkk fun hs1 h=>?_
  conv=>whnf
  repeat((first|refine dw ?_);conv=>whnf)
  refine loop_k hX [8] ?_
  conv=>whnf
  refine loop_lisx1 (fun (v1:Int) (v2:List Item)=>pad [(0,.one (.p (.sl (p0.map Item.row)))),(2,.one (.ptr 0 0)),(1,.one (.own 1)),(0,iv v1)] 48) (fun (v1:Int) (v2:List Item)=>[.box (Item.cs p1),.rows 8 (v2.map Item.row)]) _ p0 (fun pre1 x1e xs1 v1 v2 hl1 hi1 h ih1=>?_) (fun v1 v2 hi1 h=>?_) ([]:List Item) h
  ·rw [ref06_Put_l1] at h
   have am1:=at_mid hl1 hi1
   refine loop_intro hX ?_
   conv=>whnf
   repeat((first|refine dw ?_|refine eqv_to (map_len _) ?_|refine bct (lt_mid hl1 hi1) ?_|refine bct (at_in am1) ?_|refine bct (andt (at_in am1) rfl) ?_|refine row_in (at_row am1) ?_|refine bct (andt (at_in (at_nat am1)) rfl) ?_|refine row_in (at_row (at_nat am1)) ?_);conv=>whnf)
   revert h
   refine brk (fun c3 h=>?_) (fun c3 h=>?_)
   ·revert h
    refine chkk fun c4 h=>?_
    conv=>whnf
    repeat((first|refine dw ?_|refine bct c3 ?_|refine bct (at_in am1) ?_|refine bct (andt (at_in am1) rfl) ?_|refine row_in (at_row am1) ?_|refine bct (andt (at_in (at_nat am1)) rfl) ?_|refine row_in (at_row (at_nat am1)) ?_|refine bct (room_map c4 rfl rfl rfl rfl) ?_|refine eqv_to (cat_one (f:=Item.row) v2 x1e) ?_);conv=>whnf)
    exact ih1 _ (v2++[x1e]) (wrL hs1 hl1 hi1) h
   ·conv=>whnf
    repeat((first|refine dw ?_|refine bcf c3 ?_);conv=>whnf)
    exact ih1 _ v2 (wrL hs1 hl1 hi1) h
  ·rw [ref06_Put_l1] at h
   refine loop_intro hX ?_
   revert h
   refine chkk fun c5 h=>?_
   revert h
   refine chkk fun hs2 h=>?_
   conv=>whnf
   repeat((first|refine dw ?_|refine eqv_to (map_len _) ?_|refine bcf (lt_end hi1) ?_|refine bct (room_map c5 rfl rfl rfl rfl) ?_|refine eqv_to (cat_one (f:=Item.row) v2 p1) ?_);conv=>whnf)
   refine loop_lisx1 (fun (v6:Int) (v7:List Item)=>pad [(0,.one (.p (.sl (p0.map Item.row)))),(2,.one (.ptr 0 0)),(1,.one (.own 1)),(1,iv v6)] 47) (fun (v6:Int) (v7:List Item)=>[.box (Item.cs p1),.rows 8 (v7.map Item.row)]) _ p0 (fun pre2 x2e xs2 v6 v7 hl2 hi2 h ih2=>?_) (fun v6 v7 hi2 h=>?_) (v2++[p1]) h
   ·rw [ref06_Put_l2] at h
    have am2:=at_mid hl2 hi2
    refine loop_intro hX ?_
    conv=>whnf
    repeat((first|refine dw ?_|refine eqv_to (map_len _) ?_|refine bct (lt_mid hl2 hi2) ?_|refine bct (at_in am2) ?_|refine bct (andt (at_in am2) rfl) ?_|refine row_in (at_row am2) ?_|refine bct (andt (at_in (at_nat am2)) rfl) ?_|refine row_in (at_row (at_nat am2)) ?_);conv=>whnf)
    revert h
    refine brk (fun c8 h=>?_) (fun c8 h=>?_)
    ·revert h
     refine chkk fun c9 h=>?_
     conv=>whnf
     repeat((first|refine dw ?_|refine bct c8 ?_|refine bct (at_in am2) ?_|refine bct (andt (at_in am2) rfl) ?_|refine row_in (at_row am2) ?_|refine bct (andt (at_in (at_nat am2)) rfl) ?_|refine row_in (at_row (at_nat am2)) ?_|refine bct (room_map c9 rfl rfl rfl rfl) ?_|refine eqv_to (cat_one (f:=Item.row) v7 x2e) ?_);conv=>whnf)
     exact ih2 _ (v7++[x2e]) (wrL hs2 hl2 hi2) h
    ·conv=>whnf
     repeat((first|refine dw ?_|refine bcf c8 ?_);conv=>whnf)
     exact ih2 _ v7 (wrL hs2 hl2 hi2) h
   ·rw [ref06_Put_l2] at h
    refine loop_intro hX ?_
    conv=>whnf
    repeat((first|refine dw ?_|refine eqv_to (map_len _) ?_|refine bcf (lt_end hi2) ?_);conv=>whnf)
    exact ret_some (f:=fun y=>.one (.own 0)) (g:=fun y=>[.rows 8 (y.map Item.row)]) h hQ
theorem ref06_Both_c  {p0:List Item} {p1:List Item} {r:(List Item)} (h:ref06_Both_s p0 p1=some r) (hQ:Q (.one (.p (.sl (r.map Item.row)))) []):X (.call 29 [.one (.p (.sl (p0.map Item.row))),.one (.p (.sl (p1.map Item.row)))] [] Q):=by
  unfold ref06_Both_s at h
  refine call_nz hX ?_
  conv=>whnf
  refine call_intro hX Tryz.func29 rfl rfl ?_
  revert h
  refine chkk fun c1 h=>?_
  revert h
  refine chkk fun hs1 h=>?_
  conv=>whnf
  repeat((first|refine dw ?_|refine bct (room_zero c1 (List.length_map ..) rfl (rowsOk_map (f:=Item.row) (sz:=8) (fun _=>rfl) _) rfl) ?_|refine eqv_to (nil_map (f:=Item.row) _) ?_);conv=>whnf)
  refine loop_lisx1 (fun (v2:Int) (v3:List Item)=>pad [(1,.one (.p (.sl (p1.map Item.row)))),(3,.one (.own 0)),(0,iv v2)] 38) (fun (v2:Int) (v3:List Item)=>[.rows 8 (v3.map Item.row)]) _ p1 (fun pre1 x1e xs1 v2 v3 hl1 hi1 h ih1=>?_) (fun v2 v3 hi1 h=>?_) p0 h
  ·rw [ref06_Both_l1] at h
   have am1:=at_mid hl1 hi1
   refine loop_intro hX ?_
   revert h
   refine bndk fun y4 e5 h=>?_
   conv=>whnf
   repeat((first|refine dw ?_|refine eqv_to (map_len _) ?_|refine bct (lt_mid hl1 hi1) ?_|refine bct (at_in am1) ?_|refine bct (andt (at_in am1) rfl) ?_|refine row_in (at_row am1) ?_|refine bct (andt (at_in (at_nat am1)) rfl) ?_|refine row_in (at_row (at_nat am1)) ?_);conv=>whnf)
   refine Or.inl ?_
   conv=>whnf
   refine ref06_Get_c hX e5 ?_
   conv=>whnf
   repeat((first|refine dw ?_);conv=>whnf)
   revert h
   refine brk (fun c6 h=>?_) (fun c6 h=>?_)
   ·revert h
    refine bndk fun y7 e8 h=>?_
    conv=>whnf
    repeat((first|refine dw ?_|refine bct c6 ?_|refine bct (at_in am1) ?_|refine bct (andt (at_in am1) rfl) ?_|refine row_in (at_row am1) ?_|refine bct (andt (at_in (at_nat am1)) rfl) ?_|refine row_in (at_row (at_nat am1)) ?_);conv=>whnf)
    refine Or.inl ?_
    conv=>whnf
    refine ref06_Put_c hX e8 ?_
    conv=>whnf
    repeat((first|refine dw ?_);conv=>whnf)
    exact ih1 _ y7 (wrL hs1 hl1 hi1) h
   ·revert h
    refine bndk fun y9 e10 h=>?_
    conv=>whnf
    repeat((first|refine dw ?_|refine bcf c6 ?_|refine bct (at_in am1) ?_|refine bct (andt (at_in am1) rfl) ?_|refine row_in (at_row am1) ?_|refine bct (andt (at_in (at_nat am1)) rfl) ?_|refine row_in (at_row (at_nat am1)) ?_);conv=>whnf)
    refine ref01_Behind_c hX e10 ?_
    conv=>whnf
    repeat((first|refine dw ?_|refine bcf c6 ?_);conv=>whnf)
    revert h
    refine brk (fun c11 h=>?_) (fun c11 h=>?_)
    ·revert h
     refine bndk fun y12 e13 h=>?_
     conv=>whnf
     repeat((first|refine dw ?_|refine bct c11 ?_|refine bct (at_in am1) ?_|refine bct (andt (at_in am1) rfl) ?_|refine row_in (at_row am1) ?_|refine bct (andt (at_in (at_nat am1)) rfl) ?_|refine row_in (at_row (at_nat am1)) ?_);conv=>whnf)
     refine Or.inl ?_
     conv=>whnf
     refine ref06_Put_c hX e13 ?_
     conv=>whnf
     repeat((first|refine dw ?_);conv=>whnf)
     exact ih1 _ y12 (wrL hs1 hl1 hi1) h
    ·conv=>whnf
     repeat((first|refine dw ?_|refine bcf c11 ?_);conv=>whnf)
     exact ih1 _ v3 (wrL hs1 hl1 hi1) h
  ·rw [ref06_Both_l1] at h
   refine loop_intro hX ?_
   conv=>whnf
   repeat((first|refine dw ?_|refine eqv_to (map_len _) ?_|refine bcf (lt_end hi1) ?_);conv=>whnf)
   exact ret_some (f:=fun y=>.one (.p (.sl (y.map Item.row)))) (g:=fun y=>[]) h hQ
theorem ref06_SameList_c  {p0:List Item} {p1:List Item} {r:Bool} (h:ref06_SameList_s p0 p1=some r) (hQ:Q (.one (.p (.v (.bool r)))) []):X (.call 43 [.one (.p (.sl (p0.map Item.row))),.one (.p (.sl (p1.map Item.row)))] [] Q):=by
  have K:=fun a (e:some a=some r)=>ret_some (f:=fun y=>.one (.p (.v (.bool y)))) (g:=fun y=>[]) e hQ
  unfold ref06_SameList_s at h
  refine call_intro hX Tryz.func43 rfl rfl ?_
  conv=>whnf
  repeat((first|refine dw ?_|refine eqv_to (map_len _) ?_);conv=>whnf)
  revert h
  refine brk (fun c1 h=>?_) (fun c1 h=>?_)
  ·conv=>whnf
   repeat((first|refine dw ?_|refine bct c1 ?_);conv=>whnf)
   exact K _ h
  ·revert h
   refine chkk fun hs1 h=>?_
   conv=>whnf
   repeat((first|refine dw ?_|refine bcf c1 ?_);conv=>whnf)
   refine loop_list0 (fun (v2:Int)=>pad [(0,.one (.p (.sl (p0.map Item.row)))),(0,.one (.p (.sl (p1.map Item.row)))),(3,iv v2)] 23) (fun (v2:Int)=>[]) _ p0 (fun pre1 x1e xs1 v2  hl1 hi1 h ih1=>?_) (fun v2  hi1 h=>?_)  h
   ·rw [ref06_SameList_l1] at h
    have am1:=at_mid hl1 hi1
    refine loop_intro hX ?_
    revert h
    refine bndk fun x3 a4 h=>?_
    revert h
    refine bndk fun y5 e6 h=>?_
    conv=>whnf
    repeat((first|refine dw ?_|refine eqv_to (map_len _) ?_|refine bct (lt_mid hl1 hi1) ?_|refine bct (at_in am1) ?_|refine bct (andt (at_in am1) rfl) ?_|refine row_in (at_row am1) ?_|refine bct (andt (at_in (at_nat am1)) rfl) ?_|refine row_in (at_row (at_nat am1)) ?_|refine bct (at_in a4) ?_|refine bct (andt (at_in a4) rfl) ?_|refine row_in (at_row a4) ?_|refine bct (andt (at_in (at_nat a4)) rfl) ?_|refine row_in (at_row (at_nat a4)) ?_);conv=>whnf)
    refine ref01_Same_c hX e6 ?_
    conv=>whnf
    repeat((first|refine dw ?_);conv=>whnf)
    revert h
    refine brk (fun c7 h=>?_) (fun c7 h=>?_)
    ·conv=>whnf
     repeat((first|refine dw ?_|refine bct c7 ?_);conv=>whnf)
     exact K _ h
    ·conv=>whnf
     repeat((first|refine dw ?_|refine bcf c7 ?_);conv=>whnf)
     exact ih1 _  (wrL hs1 hl1 hi1) h
   ·rw [ref06_SameList_l1] at h
    refine loop_intro hX ?_
    conv=>whnf
    repeat((first|refine dw ?_|refine eqv_to (map_len _) ?_|refine bcf (lt_end hi1) ?_);conv=>whnf)
    exact K _ h
end
end Go.Proofs.YtidkmoohgadjkaaGreat
set_option maxHeartbeats 0
namespace Go.Proofs.YtidkmoohgadjkaaGreat
open Go E
noncomputable section
open Pred
def law00_Items_l1:List Item→(List Item)→Option ((List Item))
  | [],v2 =>
  some v2
  | x1e::xs1,v2 =>
  (bnd (law00_Item_s x1e) fun y3 =>
   (chk (roomL v2.length 1)
    (law00_Items_l1 xs1  (v2++[y3]))))
def law00_Items_s (p0:List Item):Option ((List Item)) :=
 (chk (smallL p0)
   ((law00_Items_l1) p0 ([]:List Item)))
def law00_Known_l1:List Frag→Option (Int)
  | [] =>
  some 1
  | x1e::xs1 =>
  (br (ltI 60 (x1e.ids.length:Int))
   (some 0)
   (law00_Known_l1 xs1  ))
def law00_Known_s (p0:Know):Option (Int) :=
 (br (ltI 30 (p0.l.length:Int))
  (some 0)
  (chk (smallL p0.l)
    ((law00_Known_l1) p0.l )))
def law00_Fits_s (p0:Sit):Option (Int) :=
 (br (ltI 60 (p0.store.length:Int))
  (some 0)
  (br (ltI 60 (p0.out.length:Int))
   (some 0)
   (bnd (law00_Small_s p0.f) fun y3 =>
    (bnd (law00_Known_s p0.k) fun y5 =>
     some (wr .i64 (y3 * y5))))))
def law00_State_s (p0:Sit):Option (State) :=
 (bnd (law00_Pred_s p0.f) fun y1 =>
  (bnd (law00_Items_s p0.store) fun y3 =>
   (bnd (law00_Items_s p0.out) fun y5 =>
    some (State.mk p0.r y1 y3 y5 p0.k p0.count p0.clock p0.epoch))))
def law00_Real_l1:List Item→Option (Int)
  | [] =>
  some 1
  | x1e::xs1 =>
  (br (!eqFl .f64 x1e.re x1e.re)
   (some 0)
   (br (!eqFl .f64 x1e.im x1e.im)
    (some 0)
    (law00_Real_l1 xs1  )))
def law00_Real_s (p0:List Item):Option (Int) :=
 (chk (smallL p0)
   ((law00_Real_l1) p0 ))
variable {X:Task→Prop} (hX:Closed X) {Q:A→List Blk→Prop}
include hX
theorem law00_Items_c  {p0:List Item} {r:(List Item)} (h:law00_Items_s p0=some r) (hQ:Q (.one (.p (.sl (r.map Item.row)))) []):X (.call 80 [.one (.p (.sl (p0.map Item.lrow)))] [] Q):=by
  unfold law00_Items_s at h
  refine call_nz hX ?_
  conv=>whnf
  refine call_intro hX Tryz.func80 rfl rfl ?_
  revert h
  refine chkk fun hs1 h=>?_
  conv=>whnf
  repeat((first|refine dw ?_);conv=>whnf)
  refine loop_k hX [8] ?_
  conv=>whnf
  refine loop_lisx1 (fun (v1:Int) (v2:List Item)=>pad [(0,.one (.p (.sl (p0.map Item.lrow)))),(2,.one (.own 0)),(0,iv v1)] 15) (fun (v1:Int) (v2:List Item)=>[.rows 8 (v2.map Item.row)]) _ p0 (fun pre1 x1e xs1 v1 v2 hl1 hi1 h ih1=>?_) (fun v1 v2 hi1 h=>?_) ([]:List Item) h
  ·rw [law00_Items_l1] at h
   have am1:=at_mid hl1 hi1
   refine loop_intro hX ?_
   revert h
   refine bndk fun y3 e4 h=>?_
   conv=>whnf
   repeat((first|refine dw ?_|refine eqv_to (map_len _) ?_|refine bct (lt_mid hl1 hi1) ?_|refine bct (at_in am1) ?_|refine bct (andt (at_in am1) rfl) ?_|refine row_in (at_row am1) ?_|refine bct (andt (at_in (at_nat am1)) rfl) ?_|refine row_in (at_row (at_nat am1)) ?_);conv=>whnf)
   refine law00_Item_c hX e4 ?_
   revert h
   refine chkk fun c5 h=>?_
   conv=>whnf
   repeat((first|refine dw ?_|refine bct (room_map c5 rfl rfl rfl rfl) ?_|refine eqv_to (cat_one (f:=Item.row) v2 y3) ?_);conv=>whnf)
   exact ih1 _ (v2++[y3]) (wrL hs1 hl1 hi1) h
  ·rw [law00_Items_l1] at h
   refine loop_intro hX ?_
   conv=>whnf
   repeat((first|refine dw ?_|refine eqv_to (map_len _) ?_|refine bcf (lt_end hi1) ?_);conv=>whnf)
   exact ret_some (f:=fun y=>.one (.p (.sl (y.map Item.row)))) (g:=fun y=>[]) h hQ
theorem law00_Known_c  {p0:Know} {r:Int} (h:law00_Known_s p0=some r) (hQ:Q (iv r) []):X (.call 54 [.agg (Know.cs p0)] [] Q):=by
  have K:=fun a (e:some a=some r)=>ret_some (f:=fun y=>iv y) (g:=fun y=>[]) e hQ
  unfold law00_Known_s at h
  refine call_intro hX Tryz.func54 rfl rfl ?_
  conv=>whnf
  repeat((first|refine dw ?_|refine eqv_to (map_len _) ?_);conv=>whnf)
  revert h
  refine brk (fun c1 h=>?_) (fun c1 h=>?_)
  ·conv=>whnf
   repeat((first|refine dw ?_|refine bct c1 ?_);conv=>whnf)
   exact K _ h
  ·revert h
   refine chkk fun hs1 h=>?_
   conv=>whnf
   repeat((first|refine dw ?_|refine bcf c1 ?_);conv=>whnf)
   refine loop_lisx0 (fun (v2:Int)=>pad [(1,.one (.ptr 0 0)),(1,iv v2)] 19) (fun (v2:Int)=>[.box (Know.cs p0)]) _ p0.l (fun pre1 x1e xs1 v2  hl1 hi1 h ih1=>?_) (fun v2  hi1 h=>?_)  h
   ·rw [law00_Known_l1] at h
    have am1:=at_mid hl1 hi1
    refine loop_intro hX ?_
    conv=>whnf
    repeat((first|refine dw ?_|refine eqv_to (map_len _) ?_|refine bct (lt_mid hl1 hi1) ?_|refine bct (at_in am1) ?_|refine bct (andt (at_in am1) rfl) ?_|refine row_in (at_row am1) ?_|refine bct (andt (at_in (at_nat am1)) rfl) ?_|refine row_in (at_row (at_nat am1)) ?_);conv=>whnf)
    revert h
    refine brk (fun c3 h=>?_) (fun c3 h=>?_)
    ·conv=>whnf
     repeat((first|refine dw ?_|refine bct c3 ?_);conv=>whnf)
     exact K _ h
    ·conv=>whnf
     repeat((first|refine dw ?_|refine bcf c3 ?_);conv=>whnf)
     exact ih1 _  (wrL hs1 hl1 hi1) h
   ·rw [law00_Known_l1] at h
    refine loop_intro hX ?_
    conv=>whnf
    repeat((first|refine dw ?_|refine eqv_to (map_len _) ?_|refine bcf (lt_end hi1) ?_);conv=>whnf)
    exact K _ h
theorem law00_Fits_c  {p0:Sit} {r:Int} (h:law00_Fits_s p0=some r) (hQ:Q (iv r) []):X (.call 16 [.agg [ic p0.r,ic p0.f.op,.p (.v (.string p0.f.text)),ic p0.f.n,.p (.v (.float .f64 p0.f.re)),.p (.v (.float .f64 p0.f.im)),.p (.sl (Pred.lrows p0.f.kids)),.p (.sl (p0.store.map Item.lrow)),.p (.sl (p0.out.map Item.lrow)),ic p0.k.star.x0,ic p0.k.star.x1,ic p0.k.star.x2,ic p0.k.star.x3,ic p0.k.star.x4,ic p0.k.star.x5,ic p0.k.star.x6,ic p0.k.star.x7,.p (.sl (p0.k.l.map Frag.row)),ic p0.count,ic p0.clock,ic p0.epoch]] [] Q):=by
  have K:=fun a (e:some a=some r)=>ret_some (f:=fun y=>iv y) (g:=fun y=>[]) e hQ
  unfold law00_Fits_s at h
  refine call_intro hX Tryz.func16 rfl rfl ?_
  conv=>whnf
  repeat((first|refine dw ?_|refine eqv_to (map_len _) ?_);conv=>whnf)
  revert h
  refine brk (fun c1 h=>?_) (fun c1 h=>?_)
  ·conv=>whnf
   repeat((first|refine dw ?_|refine bct c1 ?_);conv=>whnf)
   exact K _ h
  ·conv=>whnf
   repeat((first|refine dw ?_|refine bcf c1 ?_|refine eqv_to (map_len _) ?_);conv=>whnf)
   revert h
   refine brk (fun c2 h=>?_) (fun c2 h=>?_)
   ·conv=>whnf
    repeat((first|refine dw ?_|refine bct c2 ?_);conv=>whnf)
    exact K _ h
   ·revert h
    refine bndk fun y3 e4 h=>?_
    conv=>whnf
    repeat((first|refine dw ?_|refine bcf c2 ?_);conv=>whnf)
    refine law00_Small_c hX e4 ?_
    revert h
    refine bndk fun y5 e6 h=>?_
    conv=>whnf
    repeat((first|refine dw ?_);conv=>whnf)
    refine law00_Known_c hX e6 ?_
    conv=>whnf
    repeat((first|refine dw ?_);conv=>whnf)
    exact K _ h
theorem law00_State_c  {p0:Sit} {r:State} (h:law00_State_s p0=some r) (hQ:Q (.agg (State.cs r)) []):X (.call 21 [.agg [ic p0.r,ic p0.f.op,.p (.v (.string p0.f.text)),ic p0.f.n,.p (.v (.float .f64 p0.f.re)),.p (.v (.float .f64 p0.f.im)),.p (.sl (Pred.lrows p0.f.kids)),.p (.sl (p0.store.map Item.lrow)),.p (.sl (p0.out.map Item.lrow)),ic p0.k.star.x0,ic p0.k.star.x1,ic p0.k.star.x2,ic p0.k.star.x3,ic p0.k.star.x4,ic p0.k.star.x5,ic p0.k.star.x6,ic p0.k.star.x7,.p (.sl (p0.k.l.map Frag.row)),ic p0.count,ic p0.clock,ic p0.epoch]] [] Q):=by
 unfold law00_State_s at h
 refine call_nz hX ?_
 conv=>whnf
 refine call_intro hX Tryz.func21 rfl rfl ?_
 revert h
 refine bndk fun y1 e2 h=>?_
 conv=>whnf
 repeat((first|refine dw ?_);conv=>whnf)
 refine law00_Pred_c hX e2 ?_
 revert h
 refine bndk fun y3 e4 h=>?_
 conv=>whnf
 repeat((first|refine dw ?_);conv=>whnf)
 refine law00_Items_c hX e4 ?_
 revert h
 refine bndk fun y5 e6 h=>?_
 conv=>whnf
 repeat((first|refine dw ?_);conv=>whnf)
 refine law00_Items_c hX e6 ?_
 conv=>whnf
 repeat((first|refine dw ?_);conv=>whnf)
 exact ret_some (f:=fun y=>.agg (State.cs y)) (g:=fun y=>[]) h hQ
theorem law00_Real_c  {p0:List Item} {r:Int} (h:law00_Real_s p0=some r) (hQ:Q (iv r) []):X (.call 122 [.one (.p (.sl (p0.map Item.lrow)))] [] Q):=by
  have K:=fun a (e:some a=some r)=>ret_some (f:=fun y=>iv y) (g:=fun y=>[]) e hQ
  unfold law00_Real_s at h
  refine call_intro hX Tryz.func122 rfl rfl ?_
  revert h
  refine chkk fun hs1 h=>?_
  conv=>whnf
  repeat((first|refine dw ?_);conv=>whnf)
  refine loop_lisx0 (fun (v1:Int)=>pad [(0,.one (.p (.sl (p0.map Item.lrow)))),(2,iv v1)] 30) (fun (v1:Int)=>[]) _ p0 (fun pre1 x1e xs1 v1  hl1 hi1 h ih1=>?_) (fun v1  hi1 h=>?_)  h
  ·rw [law00_Real_l1] at h
   have am1:=at_mid hl1 hi1
   refine loop_intro hX ?_
   conv=>whnf
   repeat((first|refine dw ?_|refine eqv_to (map_len _) ?_|refine bct (lt_mid hl1 hi1) ?_|refine bct (at_in am1) ?_|refine bct (andt (at_in am1) rfl) ?_|refine row_in (at_row am1) ?_|refine bct (andt (at_in (at_nat am1)) rfl) ?_|refine row_in (at_row (at_nat am1)) ?_);conv=>whnf)
   revert h
   refine brk (fun c2 h=>?_) (fun c2 h=>?_)
   ·conv=>whnf
    repeat((first|refine dw ?_|refine bct c2 ?_);conv=>whnf)
    exact K _ h
   ·conv=>whnf
    repeat((first|refine dw ?_|refine bcf c2 ?_|refine bct (at_in am1) ?_|refine bct (andt (at_in am1) rfl) ?_|refine row_in (at_row am1) ?_|refine bct (andt (at_in (at_nat am1)) rfl) ?_|refine row_in (at_row (at_nat am1)) ?_);conv=>whnf)
    revert h
    refine brk (fun c3 h=>?_) (fun c3 h=>?_)
    ·conv=>whnf
     repeat((first|refine dw ?_|refine bct c3 ?_);conv=>whnf)
     exact K _ h
    ·conv=>whnf
     repeat((first|refine dw ?_|refine bcf c3 ?_);conv=>whnf)
     exact ih1 _  (wrL hs1 hl1 hi1) h
  ·rw [law00_Real_l1] at h
   refine loop_intro hX ?_
   conv=>whnf
   repeat((first|refine dw ?_|refine eqv_to (map_len _) ?_|refine bcf (lt_end hi1) ?_);conv=>whnf)
   exact K _ h
end
end Go.Proofs.YtidkmoohgadjkaaGreat
