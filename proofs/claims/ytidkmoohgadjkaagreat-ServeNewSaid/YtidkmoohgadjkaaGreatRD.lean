/- Filters (layer 3): as trees; how large and how deep they are, and whether two are the same. Counts of replicas (layer 6), the program's and the document's. The cluster's values by their Go types; rows of filters. Filters (layer 3): which ones may be. The statements of layer 3, walked. Which items a filter has (layer 4): the program's answer, and the document's. Which filter is seen in which (layer 5): the program's answer, and the document's. Which filter is seen in which (layer 5): the document's answer. Which filter is seen in which (layer 5): both answers, and what they are. Filters made plain (layer 4): what is told to be the same, and both answers, without the program. Filters made plain (layer 4): the program's answer. The contracts that were proved by hand, as decomp.py asks for them. slices.Insert at rows of eight cells (items): its contract, walked. slices.Insert at items, told of slices as lists: its contract. slices.Delete of one item: its contract. slices.Insert and slices.Delete at items, told of slices as lists: as decomp.py asks for them. slices.Sorted(maps.Keys(m)), m a map of the call's own whose keys are texts: contracts, laid out of the kit's library. slices.Grow of nil: its contract. Rounds: over a list, with fuel; ways that meet. (Only those that are used.) Layer 8, the program's. Written by decomp.py. Layer 7, the program's. Written by decomp.py. Layer 7, the program's. Written by decomp.py. Layer 7, the program's. Written by decomp.py. Layer 7, the prog -/
import Derived.Test.YtidkmoohgadjkaaGreatRC
import Derived.Lib.AppendZerosOnto
import Derived.Lib.Overlaps
import Derived.Shelf.RegionOpenPlain
import Derived.WalkKit
import Derived.WalkSpells
import Derived.Deep.RegionLaw
import Derived.Lib.Walk
import Derived.Laws.NewBlocks
import Derived.Shelf.SlIter.Nil
import Derived.Shelf.SortM.Plain
import Derived.Shelf.SortM.SortNone
import Derived.Ground.GgzProg
import Derived.Ground.SlgmProg
set_option linter.unusedVariables false
set_option linter.unusedSimpArgs false
set_option maxRecDepth 100000
set_option maxHeartbeats 4000000
namespace Go.Proofs.YtidkmoohgadjkaaGreat
open Go E
inductive Pred where
 | mk (op:Int) (text:ByteArray) (n:Int) (re im:Nat) (kids:List Pred)
namespace Pred
def op:Pred→Int | mk a _ _ _ _ _=>a
def text:Pred→ByteArray | mk _ a _ _ _ _=>a
def n:Pred→Int | mk _ _ a _ _ _=>a
def re:Pred→Nat | mk _ _ _ a _ _=>a
def im:Pred→Nat | mk _ _ _ _ a _=>a
def kids:Pred→List Pred | mk _ _ _ _ _ a=>a
mutual
def row:Pred→List PC
 | mk a t n re im ks=>[ip a,.v (.string t),ip n,.v (.complex .f64 re im),.sl (rows0 ks)]
def rows0:List Pred→List (List PC)
 | []=>[]
 | k::ks=>row k::rows0 ks
end
def rows (l:List Pred):List (List PC):=l.map row
theorem rows0_eq (l:List Pred):rows0 l=rows l:=by
 induction l with
 | nil=>rw [rows0]; rfl
 | cons a l ih=>rw [rows0,ih]; rfl
mutual
def lrow:Pred→List PC
 | mk a t n re im ks=>[ip a,.v (.string t),ip n,.v (.float .f64 re),.v (.float .f64 im),.sl (lrows ks)]
def lrows:List Pred→List (List PC)
 | []=>[]
 | k::ks=>lrow k::lrows ks
end
mutual
def size:Pred→Nat
 | mk _ _ _ _ _ ks=>sizes ks + 1
def sizes:List Pred→Nat
 | []=>0
 | k::ks=>size k + sizes ks
end
mutual
def depth:Pred→Nat
 | mk _ _ _ _ _ ks=>depths ks + 1
def depths:List Pred→Nat
 | []=>0
 | k::ks=>max (depth k) (depths ks)
end
mutual
def Ok:Pred→Prop
 | mk a t n _ _ ks=>(-9223372036854775808≤a∧a≤9223372036854775807)∧t.size≤9223372036854775807∧(-9223372036854775808≤n∧n≤9223372036854775807)∧ks.length≤9223372036854775807∧Oks ks
def Oks:List Pred→Prop
 | []=>True
 | k::ks=>Ok k∧Oks ks
end
abbrev cs (p:Pred):List C:=[ic p.op,.p (.v (.string p.text)),ic p.n,.p (.v (.complex .f64 p.re p.im)),.p (.sl (rows p.kids))]
abbrev a (p:Pred):A:=.agg p.cs
abbrev la (p:Pred):A:=.agg [ic p.op,.p (.v (.string p.text)),ic p.n,.p (.v (.float .f64 p.re)),.p (.v (.float .f64 p.im)),.p (.sl (lrows p.kids))]
theorem row_eq (p:Pred):row p=[ip p.op,.v (.string p.text),ip p.n,.v (.complex .f64 p.re p.im),.sl (rows p.kids)]:=by cases p; rw [row,rows0_eq]; rfl
theorem lrow_eq (p:Pred):lrow p=[ip p.op,.v (.string p.text),ip p.n,.v (.float .f64 p.re),.v (.float .f64 p.im),.sl (lrows p.kids)]:=by cases p; rw [lrow]; rfl
theorem rows_eq (l:List Pred):rows l=l.map row:=rfl
theorem lrows_eq (l:List Pred):lrows l=l.map lrow:=by induction l with | nil=>rw [lrows]; rfl | cons a l ih=>rw [lrows,ih]; rfl
theorem size_eq (p:Pred):p.size=sizes p.kids + 1:=by cases p; rw [size]; rfl
theorem depth_eq (p:Pred):p.depth=depths p.kids + 1:=by cases p; rw [depth]; rfl
theorem sizes_app (l m:List Pred):sizes (l++m)=sizes l + sizes m:=by
 induction l with
 | nil=>rw [sizes]; simp
 | cons a l ih=>rw [List.cons_append,sizes,sizes,ih]; omega
theorem sizes_nil:sizes []=0:=by rw [sizes]
theorem sizes_one (p:Pred):sizes [p]=p.size:=by rw [sizes,sizes_nil]; rfl
theorem depths_nil:depths []=0:=by rw [depths]
theorem depths_app (l m:List Pred):depths (l++m)=max (depths l) (depths m):=by
 induction l with
 | nil=>rw [depths_nil]; simp
 | cons a l ih=>rw [List.cons_append,depths,depths,ih]; omega
theorem depths_one (p:Pred):depths [p]=p.depth:=by rw [depths,depths_nil]; omega
theorem size_mem {l : List Pred} {k : Pred} (h : k ∈ l) : k.size ≤ sizes l := by
  induction l with
  | nil => cases h
  | cons a l ih => rw [sizes]; rcases List.mem_cons.1 h with rfl | h
                   · omega
                   · have := ih h; omega
theorem size_kid {p:Pred} {j:Nat} (h:j < p.kids.length):p.kids[j].size < p.size:=by
 have:=size_mem (List.getElem_mem h); rw [size_eq p]; omega
theorem depth_mem {l : List Pred} {k : Pred} (h : k ∈ l) : k.depth ≤ depths l := by
  induction l with
  | nil => cases h
  | cons a l ih => rw [depths]; rcases List.mem_cons.1 h with rfl | h
                   · omega
                   · have := ih h; omega
theorem size_pos (p:Pred):0 < p.size:=by rw [size_eq]; omega
theorem len_sizes (l:List Pred):l.length≤sizes l:=by
 induction l with
 | nil=>simp
 | cons a l ih=>rw [sizes]; have:=size_pos a; simp; omega
theorem Oks_mem {l : List Pred} (h : Oks l) {k : Pred} (hk : k ∈ l) : Ok k := by
  induction l with
  | nil => cases hk
  | cons a l ih => rw [Oks] at h; rcases List.mem_cons.1 hk with rfl | hk
                   · exact h.1
                   · exact ih h.2 hk
theorem Oks_of {l:List Pred} (h:∀ k∈l,Ok k):Oks l:=by
 induction l with
 | nil=>rw [Oks]; trivial
 | cons a l ih=>rw [Oks]; exact ⟨h a (by simp),ih fun k hk=>h k (by simp [hk])⟩
theorem Ok.kids {p:Pred} (h:p.Ok):Oks p.kids:=by cases p; rw [Ok] at h; exact h.2.2.2.2
theorem Ok.kid {p:Pred} (h:p.Ok) {j:Nat} (hj:j < p.kids.length):p.kids[j].Ok:=Oks_mem h.kids (List.getElem_mem hj)
theorem Ok.text {p:Pred} (h:p.Ok):p.text.size≤9223372036854775807:=by cases p; rw [Ok] at h; exact h.2.1
theorem Ok.len {p:Pred} (h:p.Ok):p.kids.length≤9223372036854775807:=by cases p; rw [Ok] at h; exact h.2.2.2.1
theorem Ok.op {p:Pred} (h:p.Ok) : -9223372036854775808≤p.op∧p.op≤9223372036854775807:=by cases p; rw [Ok] at h; exact h.1
theorem Ok.n {p:Pred} (h:p.Ok) : -9223372036854775808≤p.n∧p.n≤9223372036854775807:=by cases p; rw [Ok] at h; exact h.2.2.1
theorem len_rows (l:List Pred):lenL (rows l)=(l.length:Int):=by rw [rows_eq,lenL_map]
theorem len_lrows (l:List Pred):lenL (lrows l)=(l.length:Int):=by rw [lrows_eq,lenL_map]
theorem lenB_rows {l:List Pred} {j:Nat} (h:j < l.length):lenB (rows l) (j:Int)=true:=by rw [rows_eq]; exact lenB_map h
theorem lenB_lrows {l:List Pred} {j:Nat} (h:j < l.length):lenB (lrows l) (j:Int)=true:=by rw [lrows_eq]; exact lenB_map h
theorem at_rows {l:List Pred} {j:Nat} (h:j < l.length):E.rowAt (rows l) (j:Int)=[ip l[j].op,.v (.string l[j].text),ip l[j].n,.v (.complex .f64 l[j].re l[j].im),.sl (rows l[j].kids)]:=by
 rw [rows_eq,rowAt_map h,row_eq]
theorem at_lrows {l:List Pred} {j:Nat} (h:j < l.length):E.rowAt (lrows l) (j:Int)=[ip l[j].op,.v (.string l[j].text),ip l[j].n,.v (.float .f64 l[j].re),.v (.float .f64 l[j].im),.sl (lrows l[j].kids)]:=by
 rw [lrows_eq,rowAt_map h,lrow_eq]
theorem take_sizes {l:List Pred} {j:Nat} (h:j < l.length):sizes (l.take (j + 1))=sizes (l.take j) + l[j].size:=by
 rw [List.take_succ_eq_append_getElem h,sizes_app,sizes_one]
theorem take_sizes_le (l:List Pred) (j:Nat):sizes (l.take j)≤sizes l:=by
 have:=sizes_app (l.take j) (l.drop j); rw [List.take_append_drop] at this; omega
theorem take_depths {l:List Pred} {j:Nat} (h:j < l.length):depths (l.take (j + 1))=max (depths (l.take j)) l[j].depth:=by
 rw [List.take_succ_eq_append_getElem h,depths_app,depths_one]
theorem depth_le_size:∀ (p:Pred),p.depth≤p.size:=by
 have key:∀ (n:Nat) (p:Pred),p.size≤n→p.depth≤p.size:=by
  intro n
  induction n with
  | zero=>intro p h; have:=size_pos p; omega
  | succ n ih =>
   intro p h
   rw [size_eq] at h ⊢; rw [depth_eq]
   have:∀ l:List Pred,sizes l≤n→depths l≤sizes l:=by
    intro l
    induction l with
    | nil=>intro _; rw [depths_nil]; omega
    | cons a l ihl=>intro hl; rw [sizes] at hl ⊢; rw [depths]; have:=ih a (by omega); have:=ihl (by omega); omega
   have:=this p.kids (by omega)
   omega
 exact fun p=>key p.size p (Nat.le_refl _)
end Pred
open Pred
attribute [irreducible] Pred.lrows Pred.size Pred.sizes Pred.depth Pred.depths Pred.Ok Pred.Oks
def leftV (p:Pred) (m:Int):Int:=if (p.size:Int)≤m then m - p.size else -1
theorem wrAdd {a b:Nat} (h:a + b < 9223372036854775807):wr .i64 ((a:Int) + (b:Int))=((a + b:Nat):Int):=by rw [wr64 (by omega) (by omega)]; omega
theorem rsize_ok {X:Task→Prop} (hX:Closed X):∀ (N:Nat) {p:Pred} {Q:A→List Blk→Prop},p.size≤N→p.size≤1000→Q (iv p.size) []→X (.call 150 [p.a] [] Q)
 | 0,p,_,h,_,_=>absurd h (by have:=size_pos p; omega)
 | N + 1,p,Q,h,h1,hQ=>by
  refine call_intro hX Tryz.func150 rfl rfl ?_
  repeat' ((conv=>whnf); first | exact hQ | refine eqv_id ?_ | refine Two.l ?_ | refine ⟨by kernel_rfl,?_⟩ | refine bct (by assumption) ?_ | refine bcf (by assumption) ?_ | refine bcf (nt (by assumption)) ?_ | refine bct (nf (by assumption)) ?_)
  have hsz:=size_eq p
  have hln:=len_sizes p.kids
  refine range_loop (fun j (n:Nat)=>pad [(1,.one (.ptr 0 0)),(1,iv (n:Int)),(0,iv (j:Int))] 16) (fun _ _=>[.box p.cs]) (fun j n=>n=1 + sizes (p.kids.take j)) p.kids.length (fun j n hj hI ih=>?_) (fun n hI=>?_) 1 (by rw [List.take_zero,sizes_nil])
  ·have q1:ltI (j:Int) (lenL (rows p.kids))=true:=by rw [len_rows,ltI_t]; omega
   have q2:=lenB_rows hj
   have hk:=size_kid hj
   have ht:=take_sizes hj
   have hl:=take_sizes_le p.kids (j + 1)
   refine loop_intro hX ?_
   repeat' ((conv=>whnf); first | exact hQ | refine eqv_id ?_ | refine Two.l ?_ | refine ⟨by kernel_rfl,?_⟩ | refine bct (by assumption) ?_ | refine bcf (by assumption) ?_ | refine bcf (nt (by assumption)) ?_ | refine bct (nf (by assumption)) ?_ | (rw [at_rows hj]) | refine rsize_ok hX N (p:=p.kids[j]) (by omega) (by omega) ?_ | (rw [wrS (by omega),wrAdd (by omega)]; exact ih _ (by omega)))
  ·have q1:ltI (p.kids.length:Int) (lenL (rows p.kids))=false:=by rw [len_rows,ltI_f]; omega
   rw [List.take_length] at hI
   refine loop_intro hX ?_
   repeat' ((conv=>whnf); first | exact hQ | refine eqv_id ?_ | refine Two.l ?_ | refine ⟨by kernel_rfl,?_⟩ | refine bct (by assumption) ?_ | refine bcf (by assumption) ?_ | refine bcf (nt (by assumption)) ?_ | refine bct (nf (by assumption)) ?_ | (exact Qi hQ (by omega)))
theorem left_ok {X:Task→Prop} (hX:Closed X):∀ (N:Nat) {p:Pred} {m:Int} {Q:A→List Blk→Prop},p.size≤N→p.Ok→m≤1000 → -1000≤m→Q (iv (leftV p m)) []→X (.call 112 [p.la,iv m] [] Q)
 | 0,p,_,_,h,_,_,_,_=>absurd h (by have:=size_pos p; omega)
 | N + 1,p,m,Q,h,ok,h1,h2,hQ=>by
  have hsz:=size_eq p
  refine call_intro hX Tryz.func112 rfl rfl ?_
  cases q1:leI m 0 with
  | true=>repeat' ((conv=>whnf); first | exact hQ | refine eqv_id ?_ | refine Two.l ?_ | refine ⟨by kernel_rfl,?_⟩ | refine bct (by assumption) ?_ | refine bcf (by assumption) ?_ | refine bcf (nt (by assumption)) ?_ | refine bct (nf (by assumption)) ?_ | (exact Qi hQ (by unfold leftV; rw [leI_t] at q1; rw [if_neg (by omega)])))
  | false =>
   repeat' ((conv=>whnf); first | exact hQ | refine eqv_id ?_ | refine Two.l ?_ | refine ⟨by kernel_rfl,?_⟩ | refine bct (by assumption) ?_ | refine bcf (by assumption) ?_ | refine bcf (nt (by assumption)) ?_ | refine bct (nf (by assumption)) ?_)
   (conv=>whnf)
   rw [leI_f] at q1
   rw [wr64 (n:=m - 1) (by omega) (by omega)]
   have hln:=ok.len
   refine range_loop (fun j (n:Int)=>pad [(1,iv n),(0,.one (.ptr 0 0)),(2,iv (j:Int))] 21) (fun _ _=>[.box [ic p.op,.p (.v (.string p.text)),ic p.n,.p (.v (.float .f64 p.re)),.p (.v (.float .f64 p.im)),.p (.sl (lrows p.kids))]]) (fun j n=>n=m - 1 - sizes (p.kids.take j)∧0≤n) p.kids.length (fun j n hj hI ih=>?_) (fun n hI=>?_) (m - 1) (by rw [List.take_zero,sizes_nil]; omega)
   ·have q1:ltI (j:Int) (lenL (lrows p.kids))=true:=by rw [len_lrows,ltI_t]; omega
    have q2:=lenB_lrows hj
    have hk:=size_kid hj
    have ht:=take_sizes hj
    have hl:=take_sizes_le p.kids (j + 1)
    obtain ⟨hI,hn⟩:=hI
    refine loop_intro hX ?_
    by_cases hle:(p.kids[j].size:Int)≤n
    ·have e:leftV p.kids[j] n=n - p.kids[j].size:=if_pos hle
     have q3:ltI (n - p.kids[j].size) 0=false:=ltI_f.2 (by omega)
     repeat' ((conv=>whnf); first | exact hQ | refine eqv_id ?_ | refine Two.l ?_ | refine ⟨by kernel_rfl,?_⟩ | refine bct (by assumption) ?_ | refine bcf (by assumption) ?_ | refine bcf (nt (by assumption)) ?_ | refine bct (nf (by assumption)) ?_ | (rw [at_lrows hj]) | (refine left_ok hX N (p:=p.kids[j]) (by omega) (ok.kid hj) (by omega) (by omega) ?_; rw [e]) | (rw [wrS (by omega)]; exact ih _ (by omega)))
    ·have e:leftV p.kids[j] n = -1:=if_neg hle
     repeat' ((conv=>whnf); first | exact hQ | refine eqv_id ?_ | refine Two.l ?_ | refine ⟨by kernel_rfl,?_⟩ | refine bct (by assumption) ?_ | refine bcf (by assumption) ?_ | refine bcf (nt (by assumption)) ?_ | refine bct (nf (by assumption)) ?_ | (exact Qi hQ (by unfold leftV; rw [if_neg (by omega)])) | (rw [at_lrows hj]) | (refine left_ok hX N (p:=p.kids[j]) (by omega) (ok.kid hj) (by omega) (by omega) ?_; rw [e]))
   ·have q1:ltI (p.kids.length:Int) (lenL (lrows p.kids))=false:=by rw [len_lrows,ltI_f]; omega
    rw [List.take_length] at hI
    refine loop_intro hX ?_
    repeat' ((conv=>whnf); first | exact hQ | refine eqv_id ?_ | refine Two.l ?_ | refine ⟨by kernel_rfl,?_⟩ | refine bct (by assumption) ?_ | refine bcf (by assumption) ?_ | refine bcf (nt (by assumption)) ?_ | refine bct (nf (by assumption)) ?_ | (exact Qi hQ (by unfold leftV; rw [if_pos (by omega)]; omega)))
theorem small_ok {X:Task→Prop} (hX:Closed X) {p:Pred} {Q:A→List Blk→Prop} (ok:p.Ok) (hQ:Q (iv (if p.size≤60 then 1 else 0)) []):X (.call 44 [p.la] [] Q):=by
 refine call_intro hX Tryz.func44 rfl rfl ?_
 by_cases hle:p.size≤60
 ·have e:leftV p 60=60 - p.size:=if_pos (by omega)
  have q1:ltI (60 - (p.size:Int)) 0=false:=ltI_f.2 (by omega)
  repeat' ((conv=>whnf); first | exact hQ | refine eqv_id ?_ | refine Two.l ?_ | refine ⟨by kernel_rfl,?_⟩ | refine bct (by assumption) ?_ | refine bcf (by assumption) ?_ | refine bcf (nt (by assumption)) ?_ | refine bct (nf (by assumption)) ?_ | (exact Qi hQ (if_pos hle)) | (refine left_ok hX p.size (p:=p) (Nat.le_refl _) ok (by omega) (by omega) ?_; rw [e]))
 ·have e:leftV p 60 = -1:=if_neg (by omega)
  repeat' ((conv=>whnf); first | exact hQ | refine eqv_id ?_ | refine Two.l ?_ | refine ⟨by kernel_rfl,?_⟩ | refine bct (by assumption) ?_ | refine bcf (by assumption) ?_ | refine bcf (nt (by assumption)) ?_ | refine bct (nf (by assumption)) ?_ | (exact Qi hQ (if_neg hle)) | (refine left_ok hX p.size (p:=p) (Nat.le_refl _) ok (by omega) (by omega) ?_; rw [e]))
theorem rows_take {l:List Pred} {j:Nat} (h:j < l.length):catL (rows (l.take j)) [[ip l[j].op,.v (.string l[j].text),ip l[j].n,.v (.complex .f64 l[j].re l[j].im),.sl (rows l[j].kids)]]=rows (l.take (j + 1)):=by
 unfold catL
 rw [rows_eq,rows_eq (l.take (j + 1)),List.take_succ_eq_append_getElem h,List.map_append,List.map_cons,List.map_nil,row_eq]
theorem lpred_ok {X:Task→Prop} (hX:Closed X):∀ (N:Nat) {p:Pred} {Q:A→List Blk→Prop},p.size≤N→p.size≤1000→p.Ok→Q p.a []→X (.call 46 [p.la] [] Q)
 | 0,p,_,h,_,_,_=>absurd h (by have:=size_pos p; omega)
 | N + 1,p,Q,h,h1,ok,hQ=>by
  refine call_nz hX ?_
  (conv=>whnf)
  refine call_intro hX Tryz.func46 rfl rfl ?_
  repeat' ((conv=>whnf); first | exact hQ | refine eqv_id ?_ | refine Two.l ?_ | refine ⟨by kernel_rfl,?_⟩ | refine bct (by assumption) ?_ | refine bcf (by assumption) ?_ | refine bcf (nt (by assumption)) ?_ | refine bct (nf (by assumption)) ?_)
  have hsz:=size_eq p
  have hln:=len_sizes p.kids
  refine loop_intro hX ?_
  by_cases h0:0 < p.kids.length
  ·have q1:ltI 0 (lenL (lrows p.kids))=true:=by rw [len_lrows,ltI_t]; omega
   have q2:lenB (lrows p.kids) 0=true:=lenB_lrows h0
   have q3:=at_lrows h0
   have hk:=size_kid h0
   repeat' ((conv=>whnf); first | exact hQ | refine eqv_id ?_ | refine Two.l ?_ | refine ⟨by kernel_rfl,?_⟩ | refine bct (by assumption) ?_ | refine bcf (by assumption) ?_ | refine bcf (nt (by assumption)) ?_ | refine bct (nf (by assumption)) ?_ | (erw [q3]) | refine lpred_ok hX N (p:=p.kids[0]) (by omega) (by omega) (ok.kid h0) ?_ | refine bct (room2 (by decide) rfl rfl rfl) ?_)
   all_goals (conv=>whnf)
   have e0:rows (p.kids.take 0)=[]:=by rw [List.take_zero,rows_eq]; rfl
   have e1:=rows_take h0
   rw [e0] at e1
   refine range_from (fun j (_:Rw)=>pad [(1,.one (.ptr 0 0)),(0,.one (.ptr 1 0)),(0,.one (.ptr 3 0)),(0,iv (j:Int))] 31) (fun j r=>[.box [ic p.op,.p (.v (.string p.text)),ic p.n,.p (.v (.float .f64 p.re)),.p (.v (.float .f64 p.im)),.p (.sl (lrows p.kids))],.box [ic 0,.p (.v (.string ⟨#[]⟩)),ic 0,.p (.v (.complex .f64 0 0)),.own 2],.rows 0 [],.box [ic p.op,.p (.v (.string p.text)),ic p.n,.p (.v (.complex .f64 p.re p.im)),.own 4],.rows r.k r.l]) (fun j r=>r.k=5∧r.l=rows (p.kids.take j)) p.kids.length 1 (by omega) (fun j r hj1 hj hI ih=>?_) (fun r hI=>?_) ⟨_,_⟩ ⟨rfl,e1⟩
   ·obtain ⟨rk,rl⟩:=r
    obtain ⟨rfl,rfl⟩:=hI
    have q1:ltI (j:Int) (lenL (lrows p.kids))=true:=by rw [len_lrows,ltI_t]; omega
    have q2:=lenB_lrows hj
    have hk:=size_kid hj
    have hlr:(rows (p.kids.take j)).length≤1000:=by rw [rows_eq,List.length_map,List.length_take]; omega
    have e3:=rows_take hj
    refine loop_intro hX ?_
    repeat' ((conv=>whnf); first | exact hQ | refine eqv_id ?_ | refine Two.l ?_ | refine ⟨by kernel_rfl,?_⟩ | refine bct (by assumption) ?_ | refine bcf (by assumption) ?_ | refine bcf (nt (by assumption)) ?_ | refine bct (nf (by assumption)) ?_ | (rw [at_lrows hj]) | refine lpred_ok hX N (p:=p.kids[j]) (by omega) (by omega) (ok.kid hj) ?_ | refine bct (room3 (Nat.le_trans hlr (by decide)) rfl rfl rfl rfl) ?_ | (rw [wrS (by omega)]; exact ih ⟨_,_⟩ ⟨rfl,e3⟩))
   ·obtain ⟨rk,rl⟩:=r
    obtain ⟨rfl,rfl⟩:=hI
    have q1:ltI (p.kids.length:Int) (lenL (lrows p.kids))=false:=by rw [len_lrows,ltI_f]; omega
    rw [List.take_length]
    refine loop_intro hX ?_
    repeat' ((conv=>whnf); first | exact hQ | refine eqv_id ?_ | refine Two.l ?_ | refine ⟨by kernel_rfl,?_⟩ | refine bct (by assumption) ?_ | refine bcf (by assumption) ?_ | refine bcf (nt (by assumption)) ?_ | refine bct (nf (by assumption)) ?_)
  ·have q1:ltI 0 (lenL (lrows p.kids))=false:=by rw [len_lrows,ltI_f]; omega
   have e:p.kids=[]:=List.eq_nil_of_length_eq_zero (by omega)
   have e2:rows p.kids=[]:=by rw [e,rows_eq]; rfl
   simp only [Pred.a,Pred.cs,e2] at hQ
   repeat' ((conv=>whnf); first | exact hQ | refine eqv_id ?_ | refine Two.l ?_ | refine ⟨by kernel_rfl,?_⟩ | refine bct (by assumption) ?_ | refine bcf (by assumption) ?_ | refine bcf (nt (by assumption)) ?_ | refine bct (nf (by assumption)) ?_)
theorem rdepth_ok {X:Task→Prop} (hX:Closed X):∀ (N:Nat) {p:Pred} {Q:A→List Blk→Prop},p.size≤N→p.size≤1000→Q (iv p.depth) []→X (.call 151 [p.a] [] Q)
 | 0,p,_,h,_,_=>absurd h (by have:=size_pos p; omega)
 | N + 1,p,Q,h,h1,hQ=>by
  refine call_intro hX Tryz.func151 rfl rfl ?_
  repeat' ((conv=>whnf); first | exact hQ | refine eqv_id ?_ | refine Two.l ?_ | refine ⟨by kernel_rfl,?_⟩ | refine bct (by assumption) ?_ | refine bcf (by assumption) ?_ | refine bcf (nt (by assumption)) ?_ | refine bct (nf (by assumption)) ?_)
  have hsz:=size_eq p
  have hde:=depth_eq p
  have hds:=depth_le_size p
  have hln:=len_sizes p.kids
  refine range_loop (fun j (n:Nat)=>pad [(1,.one (.ptr 0 0)),(1,iv (n:Int)),(0,iv (j:Int))] 20) (fun _ _=>[.box p.cs]) (fun j n=>n=1 + depths (p.kids.take j)) p.kids.length (fun j n hj hI ih=>?_) (fun n hI=>?_) 1 (by rw [List.take_zero,depths_nil])
  ·have q1:ltI (j:Int) (lenL (rows p.kids))=true:=by rw [len_rows,ltI_t]; omega
   have q2:=lenB_rows hj
   have hk:=size_kid hj
   have ht:=take_depths hj
   have hd1:=depth_le_size p.kids[j]
   have e:wr .i64 (1 + (p.kids[j].depth:Int))=((1 + p.kids[j].depth:Nat):Int):=by rw [wr64 (by omega) (by omega)]; omega
   refine loop_intro hX ?_
   by_cases hlt:n < 1 + p.kids[j].depth
   ·have q3:ltI (n:Int) ((1 + p.kids[j].depth:Nat):Int)=true:=ltI_t.2 (by omega)
    rw [←e] at q3
    repeat' ((conv=>whnf); first | exact hQ | refine eqv_id ?_ | refine Two.l ?_ | refine ⟨by kernel_rfl,?_⟩ | refine bct (by assumption) ?_ | refine bcf (by assumption) ?_ | refine bcf (nt (by assumption)) ?_ | refine bct (nf (by assumption)) ?_ | (rw [at_rows hj]) | refine rdepth_ok hX N (p:=p.kids[j]) (by omega) (by omega) ?_ | (rw [wrS (by omega),e]; exact ih _ (by omega)))
   ·have q3:ltI (n:Int) ((1 + p.kids[j].depth:Nat):Int)=false:=ltI_f.2 (by omega)
    rw [←e] at q3
    repeat' ((conv=>whnf); first | exact hQ | refine eqv_id ?_ | refine Two.l ?_ | refine ⟨by kernel_rfl,?_⟩ | refine bct (by assumption) ?_ | refine bcf (by assumption) ?_ | refine bcf (nt (by assumption)) ?_ | refine bct (nf (by assumption)) ?_ | (rw [at_rows hj]) | refine rdepth_ok hX N (p:=p.kids[j]) (by omega) (by omega) ?_ | (rw [wrS (by omega)]; exact ih _ (by omega)))
  ·have q1:ltI (p.kids.length:Int) (lenL (rows p.kids))=false:=by rw [len_rows,ltI_f]; omega
   rw [List.take_length] at hI
   refine loop_intro hX ?_
   repeat' ((conv=>whnf); first | exact hQ | refine eqv_id ?_ | refine Two.l ?_ | refine ⟨by kernel_rfl,?_⟩ | refine bct (by assumption) ?_ | refine bcf (by assumption) ?_ | refine bcf (nt (by assumption)) ?_ | refine bct (nf (by assumption)) ?_ | (exact Qi hQ (by omega)))
mutual
def sameP:Pred→Pred→Bool
 | .mk a t n x y ks,q=>eqI a q.op&&(eqS t q.text&&(eqI n q.n&&((eqFl .f64 x q.re&&eqFl .f64 y q.im)&&sameL ks q.kids)))
def sameL:List Pred→List Pred→Bool
 | [],[]=>true
 | k::ks,m::ms=>sameP k m&&sameL ks ms
 | [],_::_=>false
 | _::_,[]=>false
end
theorem sameP_eq (p q:Pred):sameP p q=(eqI p.op q.op&&(eqS p.text q.text&&(eqI p.n q.n&&((eqFl .f64 p.re q.re&&eqFl .f64 p.im q.im)&&sameL p.kids q.kids)))):=by cases p; rw [sameP]; rfl
theorem sameL_of:∀ {l m:List Pred} (hlen:l.length=m.length),(∀ j (h:j < l.length),sameP l[j] (m[j]'(by omega))=true)→sameL l m=true
 | [],[],_,_=>by rw [sameL]
 | k::ks,m::ms,hl,h=>by
  rw [sameL,Bool.and_eq_true]
  exact ⟨h 0 (by simp),sameL_of (by simpa using hl) fun j hj=>h (j + 1) (by simpa using hj)⟩
 | [],_::_,hl,_=>by simp at hl
 | _::_,[],hl,_=>by simp at hl
theorem sameL_len:∀ {l m:List Pred},l.length≠m.length→sameL l m=false
 | [],[],h=>absurd rfl h
 | k::ks,m::ms,h=>by rw [sameL,sameL_len (l:=ks) (m:=ms) (by simpa using h),Bool.and_false]
 | [],_::_,_=>by rw [sameL]
 | _::_,[],_=>by rw [sameL]
theorem sameL_bad:∀ {l m:List Pred} (hlen:l.length=m.length) {j:Nat} (h:j < l.length),sameP l[j] (m[j]'(by omega))=false→sameL l m=false
 | k::ks,m::ms,hl,0,_,h=>by rw [sameL]; simp only [List.getElem_cons_zero] at h; rw [h]; rfl
 | k::ks,m::ms,hl,j + 1,hj,h=>by rw [sameL,sameL_bad (l:=ks) (m:=ms) (by simpa using hl) (j:=j) (by simpa using hj) h,Bool.and_false]
theorem psame_ok {X:Task→Prop} (hX:Closed X):∀ (N:Nat) {p q:Pred} {Q:A→List Blk→Prop},p.size≤N→p.Ok→Q (bv (sameP p q)) []→X (.call 233 [p.a,q.a] [] Q)
 | 0,p,_,_,h,_,_=>absurd h (by have:=size_pos p; omega)
 | N + 1,p,q,Q,h,ok,hQ=>by
  by_cases hlen:p.kids.length=q.kids.length
  rotate_left
  ·have hf:sameP p q=false:=by rw [sameP_eq,sameL_len hlen]; simp
   have q5:eqI (lenL (rows p.kids)) (lenL (rows q.kids))=false:=by rw [len_rows,len_rows,eqI_f]; omega
   refine call_intro hX Tryz.func233 rfl rfl ?_
   repeat' ((conv=>whnf); first | exact hQ | refine eqv_id ?_ | refine Two.l ?_ | refine ⟨by kernel_rfl,?_⟩ | refine bct (by assumption) ?_ | refine bcf (by assumption) ?_ | refine bcf (nt (by assumption)) ?_ | refine bct (nf (by assumption)) ?_ | (exact Qb hQ hf) | refine bc (fun _=>?_) (fun _=>?_))
  have q5:eqI (lenL (rows p.kids)) (lenL (rows q.kids))=true:=by rw [len_rows,len_rows,eqI_t]; omega
  refine call_intro hX Tryz.func233 rfl rfl ?_
  repeat' ((conv=>whnf); first | exact hQ | refine eqv_id ?_ | refine Two.l ?_ | refine ⟨by kernel_rfl,?_⟩ | refine bct (by assumption) ?_ | refine bcf (by assumption) ?_ | refine bcf (nt (by assumption)) ?_ | refine bct (nf (by assumption)) ?_ | (refine Qb hQ ?_; rw [sameP_eq]; cases h7:eqFl .f64 p.re q.re<;>cases h8:eqFl .f64 p.im q.im<;>simp_all; done) | refine bc (fun _=>?_) (fun _=>?_))
  have hln:=ok.len
  have hk:=fun (j:Nat) (hj:j < p.kids.length)=>size_kid hj
  refine range_loop (fun j (_:Unit)=>pad [(2,.one (.ptr 0 0)),(0,.one (.ptr 1 0)),(39,iv (lenL (rows p.kids))),(0,iv (j:Int))] 15) (fun _ _=>[.box p.cs,.box q.cs]) (fun j _=>∀ i (hi:i < p.kids.length),i < j→sameP p.kids[i] (q.kids[i]'(by omega))=true) p.kids.length (fun j st hj hI ih=>?_) (fun st hI=>?_) () (fun i hi h=>absurd h (Nat.not_lt_zero _))
  ·have q1:ltI (j:Int) (lenL (rows p.kids))=true:=by rw [len_rows,ltI_t]; omega
   have q2:=lenB_rows hj
   have hj':j < q.kids.length:=by omega
   have q3:=lenB_rows hj'
   have hk:=hk j hj
   refine loop_intro hX ?_
   cases hs:sameP p.kids[j] q.kids[j] with
   | true=>repeat' ((conv=>whnf); first | exact hQ | refine eqv_id ?_ | refine Two.l ?_ | refine ⟨by kernel_rfl,?_⟩ | refine bct (by assumption) ?_ | refine bcf (by assumption) ?_ | refine bcf (nt (by assumption)) ?_ | refine bct (nf (by assumption)) ?_ | (rw [at_rows hj]) | (rw [at_rows hj']) | (refine psame_ok hX N (p:=p.kids[j]) (q:=q.kids[j]) (by omega) (ok.kid hj) ?_; rw [hs]) | (rw [wrS (by omega)]; refine ih () (fun i hi hij=>?_); rcases Nat.lt_succ_iff_lt_or_eq.1 hij with h' | rfl; exact hI i hi h'; exact hs))
   | false=>repeat' ((conv=>whnf); first | exact hQ | refine eqv_id ?_ | refine Two.l ?_ | refine ⟨by kernel_rfl,?_⟩ | refine bct (by assumption) ?_ | refine bcf (by assumption) ?_ | refine bcf (nt (by assumption)) ?_ | refine bct (nf (by assumption)) ?_ | (exact Qb hQ (by rw [sameP_eq,sameL_bad hlen hj hs]; simp)) | (rw [at_rows hj]) | (rw [at_rows hj']) | (refine psame_ok hX N (p:=p.kids[j]) (q:=q.kids[j]) (by omega) (ok.kid hj) ?_; rw [hs]))
  ·have q1:ltI (p.kids.length:Int) (lenL (rows p.kids))=false:=by rw [len_rows,ltI_f]; omega
   have hs:=sameL_of hlen (fun j hj=>hI j hj hj)
   refine loop_intro hX ?_
   repeat' ((conv=>whnf); first | exact hQ | refine eqv_id ?_ | refine Two.l ?_ | refine ⟨by kernel_rfl,?_⟩ | refine bct (by assumption) ?_ | refine bcf (by assumption) ?_ | refine bcf (nt (by assumption)) ?_ | refine bct (nf (by assumption)) ?_ | (refine Qb hQ ?_; rw [sameP_eq,hs]; simp_all; done))
attribute [irreducible] sameP sameL leftV
end Go.Proofs.YtidkmoohgadjkaaGreat
set_option maxHeartbeats 4000000
namespace Go.Proofs.YtidkmoohgadjkaaGreat
open Go E
structure V8 where
 x0:Int
 x1:Int
 x2:Int
 x3:Int
 x4:Int
 x5:Int
 x6:Int
 x7:Int
abbrev V8.cells (v:V8):List C:=[ic v.x0,ic v.x1,ic v.x2,ic v.x3,ic v.x4,ic v.x5,ic v.x6,ic v.x7]
abbrev V8.a (v:V8):A:=.agg v.cells
abbrev ver (r c:Int):A:=.agg [ic r,ic c]
def placeV (n:Int):Int:=if n < 1∨8 < n then -1 else n - 1
def V8.at (v:V8) (r:Int):Int:=if r=1 then v.x0 else if r=2 then v.x1 else if r=3 then v.x2 else if r=4 then v.x3 else if r=5 then v.x4 else if r=6 then v.x5 else if r=7 then v.x6 else if r=8 then v.x7 else 0
def V8.put (v:V8) (r c:Int):V8 :=
 if r=1 then { v with x0:=c } else if r=2 then { v with x1:=c } else if r=3 then { v with x2:=c } else if r=4 then { v with x3:=c }
 else if r=5 then { v with x4:=c } else if r=6 then { v with x5:=c } else if r=7 then { v with x6:=c } else if r=8 then { v with x7:=c } else v
def hasV (v:V8) (r c:Int):Bool:=decide (1≤r∧r≤8∧1≤c∧c≤v.at r)
def maxV (a b:V8):V8:=⟨maxI a.x0 b.x0,maxI a.x1 b.x1,maxI a.x2 b.x2,maxI a.x3 b.x3,maxI a.x4 b.x4,maxI a.x5 b.x5,maxI a.x6 b.x6,maxI a.x7 b.x7⟩
def eq8 (a b:V8):Bool:=andB (eqI a.x0 b.x0) (andB (eqI a.x1 b.x1) (andB (eqI a.x2 b.x2) (andB (eqI a.x3 b.x3) (andB (eqI a.x4 b.x4) (andB (eqI a.x5 b.x5) (andB (eqI a.x6 b.x6) (andB (eqI a.x7 b.x7) true)))))))
theorem r8 (r:Int):(r < 1∨8 < r)∨r=1∨r=2∨r=3∨r=4∨r=5∨r=6∨r=7∨r=8:=by omega
theorem vplace_ok {X:Task→Prop} (hX:Closed X) {n:Int} {Q:A→List Blk→Prop} (hQ:Q (iv (placeV n)) []):X (.call 175 [iv n] [] Q):=by
 refine call_intro hX Tryz.func175 rfl rfl ?_
 repeat' ((conv=>whnf); first | refine ⟨by kernel_rfl,?_⟩ | refine eqv_id ?_ | refine Two.l ?_ | refine bct (by assumption) ?_ | refine bcf (by assumption) ?_ | refine bc (fun _=>?_) (fun _=>?_))
 all_goals (conv=>whnf)
 all_goals (refine Qa hQ ?_; simp only [ltI_t,ltI_f] at *; unfold placeV)
 ·rw [if_pos (by omega)]
 ·rw [if_pos (by omega)]
 ·rw [if_neg (by omega),wr64 (by omega) (by omega)]
theorem vmax_ok {X:Task→Prop} (hX:Closed X) {a b:V8} {Q:A→List Blk→Prop} (hQ:Q (maxV a b).a []):X (.call 189 [a.a,b.a] [] Q):=by
 refine call_intro hX Tryz.func189 rfl rfl ?_
 repeat' ((conv=>whnf); first | refine ⟨by kernel_rfl,?_⟩ | refine eqv_id ?_ | refine Two.l ?_ | refine bct (by assumption) ?_ | refine bcf (by assumption) ?_ | refine bc (fun _=>?_) (fun _=>?_) | refine loop_intro hX ?_)
 exact hQ
theorem placeV_out {n:Int} (h:n < 1∨8 < n):placeV n = -1:=if_pos h
theorem vhas_ok {X:Task→Prop} (hX:Closed X) {v:V8} {r c:Int} {Q:A→List Blk→Prop} (hQ:Q (bv (hasV v r c)) []):X (.call 109 [v.a,ver r c] [] Q):=by
 refine call_intro hX Tryz.func109 rfl rfl ?_
 rcases r8 r with h | rfl | rfl | rfl | rfl | rfl | rfl | rfl | rfl
 ·(conv=>whnf)
  refine vplace_ok hX ?_
  rw [placeV_out h]
  repeat' ((conv=>whnf); first | refine ⟨by kernel_rfl,?_⟩ | refine eqv_id ?_ | refine Two.l ?_ | refine bct (by assumption) ?_ | refine bcf (by assumption) ?_ | refine bc (fun _=>?_) (fun _=>?_))
  (conv=>whnf)
  refine Qb hQ ?_
  unfold hasV
  exact decide_eq_false (by omega)
 all_goals
  (conv=>whnf)
  refine vplace_ok hX ?_
  repeat' ((conv=>whnf); first | refine ⟨by kernel_rfl,?_⟩ | refine eqv_id ?_ | refine Two.l ?_ | refine bct (by assumption) ?_ | refine bcf (by assumption) ?_ | refine bc (fun _=>?_) (fun _=>?_))
 all_goals (conv=>whnf)
 all_goals refine Qb hQ ?_
 all_goals (simp only [leI_t,leI_f] at *; simp [hasV,V8.at,leI]; try omega)
def mayV (v:V8):Bool:=decide ((0≤v.x0∧v.x0≤1000)∧(0≤v.x1∧v.x1≤1000)∧(0≤v.x2∧v.x2≤1000)∧(0≤v.x3∧v.x3≤1000)∧(0≤v.x4∧v.x4≤1000)∧(0≤v.x5∧v.x5≤1000)∧(0≤v.x6∧v.x6≤1000)∧(0≤v.x7∧v.x7≤1000))
theorem vmay_ok {X:Task→Prop} (hX:Closed X) {v:V8} {Q:A→List Blk→Prop} (hQ:Q (bv (mayV v)) []):X (.call 143 [v.a] [] Q):=by
 refine call_intro hX Tryz.func143 rfl rfl ?_
 repeat' ((conv=>whnf); first | refine ⟨by kernel_rfl,?_⟩ | refine eqv_id ?_ | refine Two.l ?_ | refine bct (by assumption) ?_ | refine bcf (by assumption) ?_ | refine bc (fun _=>?_) (fun _=>?_) | refine loop_intro hX ?_)
 all_goals (conv=>whnf)
 all_goals refine Qb hQ ?_
 all_goals (simp only [ltI_t,ltI_f] at *; unfold mayV; first | exact decide_eq_true (by omega) | exact decide_eq_false (by omega))
theorem eq8_iff {a b:V8}:eq8 a b=true↔a.x0=b.x0∧a.x1=b.x1∧a.x2=b.x2∧a.x3=b.x3∧a.x4=b.x4∧a.x5=b.x5∧a.x6=b.x6∧a.x7=b.x7:=by
 simp [eq8,andB,eqI]
section
variable {X:Task→Prop} (hX:Closed X) {Q:A→List Blk→Prop}
include hX
end
section
variable {a b w c m:V8} {r n:Int}
end
theorem count_ok {X:Task→Prop} (hX:Closed X) {v:V8} {r:Int} {Q:A→List Blk→Prop} (hQ:Q (iv (v.at r)) []):X (.call 157 [v.a,iv r] [] Q):=by
 refine call_intro hX Tryz.func157 rfl rfl ?_
 rcases r8 r with h | rfl | rfl | rfl | rfl | rfl | rfl | rfl | rfl
 ·have e:v.at r=0:=by
   unfold V8.at
   rw [if_neg (by omega),if_neg (by omega),if_neg (by omega),if_neg (by omega),if_neg (by omega),if_neg (by omega),if_neg (by omega),if_neg (by omega)]
  rw [e] at hQ
  repeat' ((conv=>whnf); first | exact hQ | refine eqv_id ?_ | refine Two.l ?_ | refine ⟨by kernel_rfl,?_⟩ | refine bct (by assumption) ?_ | refine bcf (by assumption) ?_ | refine bc (fun _=>?_) (fun _=>?_))
  all_goals (simp only [ltI_t,ltI_f] at *; omega)
 all_goals exact hQ
theorem hasVec_ok {X:Task→Prop} (hX:Closed X) {v:V8} {r c:Int} {Q:A→List Blk→Prop} (hQ:Q (bv (hasV v r c)) []):X (.call 88 [v.a,ver r c] [] Q):=by
 refine call_intro hX Tryz.func88 rfl rfl ?_
 repeat' ((conv=>whnf); first | refine ⟨by kernel_rfl,?_⟩ | refine eqv_id ?_ | refine Two.l ?_ | refine bct (by assumption) ?_ | refine bcf (by assumption) ?_ | refine bc (fun _=>?_) (fun _=>?_) | refine count_ok hX ?_)
 all_goals (conv=>whnf)
 all_goals refine Qb hQ ?_
 all_goals (simp only [leI_t,leI_f] at *; unfold hasV)
 ·by_cases h:1≤r∧r≤8
  ·unfold leI; rw [Bool.eq_iff_iff]; simp; omega
  ·have e:v.at r=0:=by
    unfold V8.at
    rw [if_neg (by omega),if_neg (by omega),if_neg (by omega),if_neg (by omega),if_neg (by omega),if_neg (by omega),if_neg (by omega),if_neg (by omega)]
   rw [e,leI_f.2 (by omega)]; exact decide_eq_false (by omega)
 ·exact decide_eq_false (by omega)
theorem mayVec_ok {X:Task→Prop} (hX:Closed X) {v:V8} {Q:A→List Blk→Prop} (hQ:Q (bv (mayV v)) []):X (.call 154 [v.a] [] Q):=by
 refine call_intro hX Tryz.func154 rfl rfl ?_
 repeat' ((conv=>whnf); first | refine ⟨by kernel_rfl,?_⟩ | refine eqv_id ?_ | refine Two.l ?_ | refine bct (by assumption) ?_ | refine bcf (by assumption) ?_ | refine bc (fun _=>?_) (fun _=>?_) | refine loop_intro hX ?_)
 all_goals (conv=>whnf)
 all_goals refine Qb hQ ?_
 all_goals (simp only [ltI_t,ltI_f] at *; unfold mayV; first | exact decide_eq_true (by omega) | exact decide_eq_false (by omega))
section
variable {X:Task→Prop} (hX:Closed X) {a b:V8} {K:Ex→List A→List Blk→Prop}
include hX
abbrev refMaxAt (X:Task→Prop) (a b o:V8) (i:Int) (K:Ex→List A→List Blk→Prop):Prop :=
 X (.loop 191 0 (loopN Tryz.f191 0) (pad [(2,.one (.ptr 0 0)),(0,.one (.ptr 1 0)),(0,.one (.ptr 2 0)),(0,.one (.ptr 3 0)),(0,iv i)] 22) [.box a.cells,.box b.cells,.box [ic 0,ic 0,ic 0,ic 0,ic 0,ic 0,ic 0,ic 0],.box o.cells] K)
abbrev refMaxEnd (a b o:V8) (K:Ex→List A→List Blk→Prop):Prop :=
 K (.exit 0) (pad [(2,.one (.ptr 0 0)),(0,.one (.ptr 1 0)),(0,.one (.ptr 2 0)),(0,.one (.ptr 3 0)),(0,iv 8),(0,iv 8),(0,bv false)] 20) [.box a.cells,.box b.cells,.box [ic 0,ic 0,ic 0,ic 0,ic 0,ic 0,ic 0,ic 0],.box o.cells]
theorem refMax8 {o:V8} (h:refMaxEnd a b o K):refMaxAt X a b o 8 K:=by
 refine loop_intro hX ?_
 exact h
theorem refMax7 {o:V8} (h:refMaxEnd a b { o with x7:=maxI a.x7 b.x7 } K):refMaxAt X a b o 7 K:=by
 refine loop_intro hX ?_
 repeat' ((conv=>whnf); first | refine ⟨by kernel_rfl,?_⟩ | refine eqv_id ?_ | refine Two.l ?_ | refine bc (fun _=>?_) (fun _=>?_) | refine refMax8 hX (o:={ o with x7:=b.x7 }) ?_ | refine refMax8 hX (o:={ o with x7:=a.x7 }) ?_)
 ·have e:maxI a.x7 b.x7=b.x7:=by rw [ltI_t] at *; unfold maxI; rw [if_pos (by omega)]
  rw [e] at h; exact h
 ·have e:maxI a.x7 b.x7=a.x7:=by rw [ltI_f] at *; unfold maxI; rw [if_neg (by omega)]
  rw [e] at h; exact h
theorem refMax6 {o:V8} (h:refMaxEnd a b { o with x6:=maxI a.x6 b.x6,x7:=maxI a.x7 b.x7 } K):refMaxAt X a b o 6 K:=by
 refine loop_intro hX ?_
 repeat' ((conv=>whnf); first | refine ⟨by kernel_rfl,?_⟩ | refine eqv_id ?_ | refine Two.l ?_ | refine bc (fun _=>?_) (fun _=>?_) | refine refMax7 hX (o:={ o with x6:=b.x6 }) ?_ | refine refMax7 hX (o:={ o with x6:=a.x6 }) ?_)
 ·have e:maxI a.x6 b.x6=b.x6:=by rw [ltI_t] at *; unfold maxI; rw [if_pos (by omega)]
  rw [e] at h; exact h
 ·have e:maxI a.x6 b.x6=a.x6:=by rw [ltI_f] at *; unfold maxI; rw [if_neg (by omega)]
  rw [e] at h; exact h
theorem refMax5 {o:V8} (h:refMaxEnd a b { o with x5:=maxI a.x5 b.x5,x6:=maxI a.x6 b.x6,x7:=maxI a.x7 b.x7 } K):refMaxAt X a b o 5 K:=by
 refine loop_intro hX ?_
 repeat' ((conv=>whnf); first | refine ⟨by kernel_rfl,?_⟩ | refine eqv_id ?_ | refine Two.l ?_ | refine bc (fun _=>?_) (fun _=>?_) | refine refMax6 hX (o:={ o with x5:=b.x5 }) ?_ | refine refMax6 hX (o:={ o with x5:=a.x5 }) ?_)
 ·have e:maxI a.x5 b.x5=b.x5:=by rw [ltI_t] at *; unfold maxI; rw [if_pos (by omega)]
  rw [e] at h; exact h
 ·have e:maxI a.x5 b.x5=a.x5:=by rw [ltI_f] at *; unfold maxI; rw [if_neg (by omega)]
  rw [e] at h; exact h
theorem refMax4 {o:V8} (h:refMaxEnd a b { o with x4:=maxI a.x4 b.x4,x5:=maxI a.x5 b.x5,x6:=maxI a.x6 b.x6,x7:=maxI a.x7 b.x7 } K):refMaxAt X a b o 4 K:=by
 refine loop_intro hX ?_
 repeat' ((conv=>whnf); first | refine ⟨by kernel_rfl,?_⟩ | refine eqv_id ?_ | refine Two.l ?_ | refine bc (fun _=>?_) (fun _=>?_) | refine refMax5 hX (o:={ o with x4:=b.x4 }) ?_ | refine refMax5 hX (o:={ o with x4:=a.x4 }) ?_)
 ·have e:maxI a.x4 b.x4=b.x4:=by rw [ltI_t] at *; unfold maxI; rw [if_pos (by omega)]
  rw [e] at h; exact h
 ·have e:maxI a.x4 b.x4=a.x4:=by rw [ltI_f] at *; unfold maxI; rw [if_neg (by omega)]
  rw [e] at h; exact h
theorem refMax3 {o:V8} (h:refMaxEnd a b { o with x3:=maxI a.x3 b.x3,x4:=maxI a.x4 b.x4,x5:=maxI a.x5 b.x5,x6:=maxI a.x6 b.x6,x7:=maxI a.x7 b.x7 } K):refMaxAt X a b o 3 K:=by
 refine loop_intro hX ?_
 repeat' ((conv=>whnf); first | refine ⟨by kernel_rfl,?_⟩ | refine eqv_id ?_ | refine Two.l ?_ | refine bc (fun _=>?_) (fun _=>?_) | refine refMax4 hX (o:={ o with x3:=b.x3 }) ?_ | refine refMax4 hX (o:={ o with x3:=a.x3 }) ?_)
 ·have e:maxI a.x3 b.x3=b.x3:=by rw [ltI_t] at *; unfold maxI; rw [if_pos (by omega)]
  rw [e] at h; exact h
 ·have e:maxI a.x3 b.x3=a.x3:=by rw [ltI_f] at *; unfold maxI; rw [if_neg (by omega)]
  rw [e] at h; exact h
theorem refMax2 {o:V8} (h:refMaxEnd a b { o with x2:=maxI a.x2 b.x2,x3:=maxI a.x3 b.x3,x4:=maxI a.x4 b.x4,x5:=maxI a.x5 b.x5,x6:=maxI a.x6 b.x6,x7:=maxI a.x7 b.x7 } K):refMaxAt X a b o 2 K:=by
 refine loop_intro hX ?_
 repeat' ((conv=>whnf); first | refine ⟨by kernel_rfl,?_⟩ | refine eqv_id ?_ | refine Two.l ?_ | refine bc (fun _=>?_) (fun _=>?_) | refine refMax3 hX (o:={ o with x2:=b.x2 }) ?_ | refine refMax3 hX (o:={ o with x2:=a.x2 }) ?_)
 ·have e:maxI a.x2 b.x2=b.x2:=by rw [ltI_t] at *; unfold maxI; rw [if_pos (by omega)]
  rw [e] at h; exact h
 ·have e:maxI a.x2 b.x2=a.x2:=by rw [ltI_f] at *; unfold maxI; rw [if_neg (by omega)]
  rw [e] at h; exact h
theorem refMax1 {o:V8} (h:refMaxEnd a b { o with x1:=maxI a.x1 b.x1,x2:=maxI a.x2 b.x2,x3:=maxI a.x3 b.x3,x4:=maxI a.x4 b.x4,x5:=maxI a.x5 b.x5,x6:=maxI a.x6 b.x6,x7:=maxI a.x7 b.x7 } K):refMaxAt X a b o 1 K:=by
 refine loop_intro hX ?_
 repeat' ((conv=>whnf); first | refine ⟨by kernel_rfl,?_⟩ | refine eqv_id ?_ | refine Two.l ?_ | refine bc (fun _=>?_) (fun _=>?_) | refine refMax2 hX (o:={ o with x1:=b.x1 }) ?_ | refine refMax2 hX (o:={ o with x1:=a.x1 }) ?_)
 ·have e:maxI a.x1 b.x1=b.x1:=by rw [ltI_t] at *; unfold maxI; rw [if_pos (by omega)]
  rw [e] at h; exact h
 ·have e:maxI a.x1 b.x1=a.x1:=by rw [ltI_f] at *; unfold maxI; rw [if_neg (by omega)]
  rw [e] at h; exact h
theorem refMax0 {o:V8} (h:refMaxEnd a b { o with x0:=maxI a.x0 b.x0,x1:=maxI a.x1 b.x1,x2:=maxI a.x2 b.x2,x3:=maxI a.x3 b.x3,x4:=maxI a.x4 b.x4,x5:=maxI a.x5 b.x5,x6:=maxI a.x6 b.x6,x7:=maxI a.x7 b.x7 } K):refMaxAt X a b o 0 K:=by
 refine loop_intro hX ?_
 repeat' ((conv=>whnf); first | refine ⟨by kernel_rfl,?_⟩ | refine eqv_id ?_ | refine Two.l ?_ | refine bc (fun _=>?_) (fun _=>?_) | refine refMax1 hX (o:={ o with x0:=b.x0 }) ?_ | refine refMax1 hX (o:={ o with x0:=a.x0 }) ?_)
 ·have e:maxI a.x0 b.x0=b.x0:=by rw [ltI_t] at *; unfold maxI; rw [if_pos (by omega)]
  rw [e] at h; exact h
 ·have e:maxI a.x0 b.x0=a.x0:=by rw [ltI_f] at *; unfold maxI; rw [if_neg (by omega)]
  rw [e] at h; exact h
theorem refMax_ok {Q:A→List Blk→Prop} (hQ:Q (maxV a b).a []):X (.call 191 [a.a,b.a] [] Q):=by
 refine call_intro hX Tryz.func191 rfl rfl ?_
 (conv=>whnf)
 refine refMax0 hX (o:=⟨0,0,0,0,0,0,0,0⟩) ?_
 exact hQ
end
end Go.Proofs.YtidkmoohgadjkaaGreat
namespace Go.Proofs.YtidkmoohgadjkaaGreat
open Go E
abbrev V8.row (v:V8):List PC:=[ip v.x0,ip v.x1,ip v.x2,ip v.x3,ip v.x4,ip v.x5,ip v.x6,ip v.x7]
structure Ver where
 r:Int
 c:Int
abbrev Ver.row (v:Ver):List PC:=[ip v.r,ip v.c]
structure Frag where
 ids:List ByteArray
 vec:V8
abbrev Frag.row (x:Frag):List PC:=[.sl (x.ids.map srw),ip x.vec.x0,ip x.vec.x1,ip x.vec.x2,ip x.vec.x3,ip x.vec.x4,ip x.vec.x5,ip x.vec.x6,ip x.vec.x7]
structure Know where
 star:V8
 l:List Frag
abbrev Know.row (x:Know):List PC:=[ip x.star.x0,ip x.star.x1,ip x.star.x2,ip x.star.x3,ip x.star.x4,ip x.star.x5,ip x.star.x6,ip x.star.x7,.sl (x.l.map Frag.row)]
structure Has where
 id:ByteArray
 vr:Int
 vc:Int
 stamp:Int
abbrev Has.row (x:Has):List PC:=[.v (.string x.id),ip x.vr,ip x.vc,ip x.stamp]
structure Entry where
 item:Item
 goes:Bool
 nr:Int
 nc:Int
abbrev Entry.row (x:Entry):List PC:=[.v (.string x.item.id),ip x.item.vr,ip x.item.vc,ip x.item.stamp,.v (.string x.item.kind),ip x.item.num,.v (.complex .f64 x.item.re x.item.im),.v (.bool x.item.dead),.v (.bool x.goes),ip x.nr,ip x.nc]
structure State where
 r:Int
 f:Pred
 store:List Item
 out:List Item
 k:Know
 count:Int
 clock:Int
 epoch:Int
structure Msg where
 kind:Int
 src:Int
 dst:Int
 sid:Int
 turn:Int
 f:Pred
 k:Know
 have_:List Has
 n:Int
 l:List Entry
 star:Bool
structure Sess where
 sid:Int
 with_:Int
 epoch:Int
 turn:Int
 got:List Int
 bad:Bool
 told:Bool
 over:Bool
 n:Int
 k:Know
 l:List Entry
structure Sit where
 r:Int
 f:Pred
 store:List Item
 out:List Item
 k:Know
 count:Int
 clock:Int
 epoch:Int
structure Line where
 item:Item
 goes:Bool
 r:Int
 c:Int
abbrev Line.row (x:Line):List PC:=[.v (.string x.item.id),ip x.item.vr,ip x.item.vc,ip x.item.stamp,.v (.string x.item.kind),ip x.item.num,.v (.float .f64 x.item.re),.v (.float .f64 x.item.im),.v (.bool x.item.dead),.v (.bool x.goes),ip x.r,ip x.c]
structure Note where
 kind:Int
 src:Int
 dst:Int
 sid:Int
 turn:Int
 f:Pred
 k:Know
 have_:List Has
 n:Int
 l:List Line
 star:Bool
abbrev V8.cs (v:V8):List C:=[ic v.x0,ic v.x1,ic v.x2,ic v.x3,ic v.x4,ic v.x5,ic v.x6,ic v.x7]
abbrev Ver.cs (v:Ver):List C:=[ic v.r,ic v.c]
abbrev Frag.cs (x:Frag):List C:=[.p (.sl (x.ids.map srw)),ic x.vec.x0,ic x.vec.x1,ic x.vec.x2,ic x.vec.x3,ic x.vec.x4,ic x.vec.x5,ic x.vec.x6,ic x.vec.x7]
abbrev Know.cs (x:Know):List C:=[ic x.star.x0,ic x.star.x1,ic x.star.x2,ic x.star.x3,ic x.star.x4,ic x.star.x5,ic x.star.x6,ic x.star.x7,.p (.sl (x.l.map Frag.row))]
abbrev Has.cs (x:Has):List C:=[.p (.v (.string x.id)),ic x.vr,ic x.vc,ic x.stamp]
abbrev Entry.cs (x:Entry):List C:=[.p (.v (.string x.item.id)),ic x.item.vr,ic x.item.vc,ic x.item.stamp,.p (.v (.string x.item.kind)),ic x.item.num,.p (.v (.complex .f64 x.item.re x.item.im)),.p (.v (.bool x.item.dead)),.p (.v (.bool x.goes)),ic x.nr,ic x.nc]
abbrev State.cs (x:State):List C:=[ic x.r,ic x.f.op,.p (.v (.string x.f.text)),ic x.f.n,.p (.v (.complex .f64 x.f.re x.f.im)),.p (.sl (Pred.rows x.f.kids)),.p (.sl (x.store.map Item.row)),.p (.sl (x.out.map Item.row)),
 ic x.k.star.x0,ic x.k.star.x1,ic x.k.star.x2,ic x.k.star.x3,ic x.k.star.x4,ic x.k.star.x5,ic x.k.star.x6,ic x.k.star.x7,.p (.sl (x.k.l.map Frag.row)),ic x.count,ic x.clock,ic x.epoch]
abbrev Msg.cs (x:Msg):List C:=[ic x.kind,ic x.src,ic x.dst,ic x.sid,ic x.turn,ic x.f.op,.p (.v (.string x.f.text)),ic x.f.n,.p (.v (.complex .f64 x.f.re x.f.im)),.p (.sl (Pred.rows x.f.kids)),
 ic x.k.star.x0,ic x.k.star.x1,ic x.k.star.x2,ic x.k.star.x3,ic x.k.star.x4,ic x.k.star.x5,ic x.k.star.x6,ic x.k.star.x7,.p (.sl (x.k.l.map Frag.row)),.p (.sl (x.have_.map Has.row)),ic x.n,.p (.sl (x.l.map Entry.row)),.p (.v (.bool x.star))]
abbrev Sess.cs (x:Sess):List C:=[ic x.sid,ic x.with_,ic x.epoch,ic x.turn,.p (.sl (x.got.map irw)),.p (.v (.bool x.bad)),.p (.v (.bool x.told)),.p (.v (.bool x.over)),ic x.n,
 ic x.k.star.x0,ic x.k.star.x1,ic x.k.star.x2,ic x.k.star.x3,ic x.k.star.x4,ic x.k.star.x5,ic x.k.star.x6,ic x.k.star.x7,.p (.sl (x.k.l.map Frag.row)),.p (.sl (x.l.map Entry.row))]
structure Deed9 where
 what:Int
 id:ByteArray
 kind:ByteArray
 num:Int
 re:Nat
 im:Nat
 f:Pred
abbrev Deed9.row (x:Deed9):List PC:=[ip x.what,.v (.string x.id),.v (.string x.kind),ip x.num,.v (.float .f64 x.re),.v (.float .f64 x.im),ip x.f.op,.v (.string x.f.text),ip x.f.n,.v (.float .f64 x.f.re),.v (.float .f64 x.f.im),.sl (Pred.lrows x.f.kids)]
structure Deed10 where
 what:Int
 n:Int
 x:Item
 old:Ver
 new:Ver
 d:Deed9
abbrev Deed10.row (y:Deed10):List PC:=[ip y.what,ip y.n,.v (.string y.x.id),ip y.x.vr,ip y.x.vc,ip y.x.stamp,.v (.string y.x.kind),ip y.x.num,.v (.float .f64 y.x.re),.v (.float .f64 y.x.im),.v (.bool y.x.dead),ip y.old.r,ip y.old.c,ip y.new.r,ip y.new.c,
 ip y.d.what,.v (.string y.d.id),.v (.string y.d.kind),ip y.d.num,.v (.float .f64 y.d.re),.v (.float .f64 y.d.im),ip y.d.f.op,.v (.string y.d.f.text),ip y.d.f.n,.v (.float .f64 y.d.f.re),.v (.float .f64 y.d.f.im),.sl (Pred.lrows y.d.f.kids)]
structure Talk where
 sid:Int
 with_:Int
 epoch:Int
 turn:Int
 got:List Int
 bad:Bool
 told:Bool
 over:Bool
 n:Int
 k:Know
 l:List Line
namespace Msg
abbrev row (x:Msg):List PC:=[ip x.kind,ip x.src,ip x.dst,ip x.sid,ip x.turn,ip x.f.op,.v (.string x.f.text),ip x.f.n,.v (.complex .f64 x.f.re x.f.im),.sl (Pred.rows x.f.kids),
 ip x.k.star.x0,ip x.k.star.x1,ip x.k.star.x2,ip x.k.star.x3,ip x.k.star.x4,ip x.k.star.x5,ip x.k.star.x6,ip x.k.star.x7,.sl (x.k.l.map Frag.row),.sl (x.have_.map Has.row),ip x.n,.sl (x.l.map Entry.row),.v (.bool x.star)]
end Msg
namespace Pred
end Pred
end Go.Proofs.YtidkmoohgadjkaaGreat
set_option maxHeartbeats 4000000
namespace Go.Proofs.YtidkmoohgadjkaaGreat
open Go E Pred
theorem eqS_nil (s:ByteArray):eqS s ⟨#[]⟩=decide (s.size=0):=by
 unfold eqS
 rw [Bool.eq_iff_iff,beq_iff_eq,decide_eq_true_iff]
 show s.data.toList=[]↔s.data.size=0
 rw [←Array.length_toList,List.length_eq_zero_iff]
theorem text_eq (s:ByteArray):(eqS s ⟨#[]⟩ || lettersB s 1)=lettersB s 0:=by
 rw [eqS_nil]
 unfold lettersB
 by_cases h:s.size=0
 ·have hb:bytesOf s=[]:=List.eq_nil_of_length_eq_zero (by rw [bytes_len]; exact h)
  have e1:ltI (lenS s) 0=false:=ltI_f.2 (by rw [lenS_def]; omega)
  have e2:ltI 8 (lenS s)=false:=ltI_f.2 (by rw [lenS_def]; omega)
  rw [hb,e1,e2,decide_eq_true h]; rfl
 ·have e1:ltI (lenS s) 0=false:=ltI_f.2 (by rw [lenS_def]; omega)
  have e2:ltI (lenS s) 1=false:=ltI_f.2 (by rw [lenS_def]; omega)
  rw [e1,e2,decide_eq_false h]; rfl
theorem ptext_ok {X:Task→Prop} (hX:Closed X) {s:ByteArray} {Q:A→List Blk→Prop} (hs:s.size≤9223372036854775807) (hQ:Q (bv (lettersB s 0)) []):X (.call 227 [sv s] [] Q):=by
 refine call_intro hX Tryz.func227 rfl rfl ?_
 repeat' ((conv=>whnf); first | exact hQ | refine eqv_id ?_ | refine Two.l ?_ | refine ⟨by kernel_rfl,?_⟩ | refine bct (by assumption) ?_ | refine bcf (by assumption) ?_ | refine bcf (nt (by assumption)) ?_ | refine bct (nf (by assumption)) ?_ | refine name_ok hX hs ?_ | refine bc (fun _=>?_) (fun _=>?_))
 all_goals (conv=>whnf)
 all_goals (refine Qb hQ ?_; rw [←text_eq]; simp_all)
def nearP (x y:Nat) (n:Int):Bool:=placeB x y&&(leI 0 n&&leI n 8000000)
def partB (o:Int) (t:ByteArray) (n:Int) (x y:Nat) (ks:List Pred):Bool :=
 if o=1∨o=2 then ((eqS t ⟨#[]⟩&&(eqI n 0&&(eqFl .f64 x 0&&eqFl .f64 y 0)))&&eqI (lenL (rows ks)) 0)
 else if o=3∨o=4 then (lettersB t 0&&(eqI n 0&&((eqFl .f64 x 0&&eqFl .f64 y 0)&&eqI (lenL (rows ks)) 0)))
 else if o=5∨o=6 then (eqS t ⟨#[]⟩&&(leI (-1000000) n&&(leI n 1000000&&((eqFl .f64 x 0&&eqFl .f64 y 0)&&eqI (lenL (rows ks)) 0))))
 else if o=7 then (eqS t ⟨#[]⟩&&(nearP x y n&&eqI (lenL (rows ks)) 0))
 else if o=8∨o=9 then (eqS t ⟨#[]⟩&&(eqI n 0&&(eqFl .f64 x 0&&eqFl .f64 y 0)))
 else if o=10 then ((eqS t ⟨#[]⟩&&(eqI n 0&&(eqFl .f64 x 0&&eqFl .f64 y 0)))&&eqI (lenL (rows ks)) 1)
 else false
theorem r10 (o:Int):o=1∨o=2∨o=3∨o=4∨o=5∨o=6∨o=7∨o=8∨o=9∨o=10∨(o≠1∧o≠2∧o≠3∧o≠4∧o≠5∧o≠6∧o≠7∧o≠8∧o≠9∧o≠10):=by omega
abbrev prow (o:Int) (t:ByteArray) (n:Int) (x y:Nat) (ks:List Pred):A:=.agg [ic o,.p (.v (.string t)),ic n,.p (.v (.complex .f64 x y)),.p (.sl (rows ks))]
theorem pnear_ok {X:Task→Prop} (hX:Closed X) {o:Int} {t:ByteArray} {n:Int} {x y:Nat} {ks:List Pred} {Q:A→List Blk→Prop} (hQ:Q (bv (nearP x y n)) []):X (.call 228 [prow o t n x y ks] [] Q):=by
 refine call_intro hX Tryz.func228 rfl rfl ?_
 repeat' ((conv=>whnf); first | exact hQ | refine eqv_id ?_ | refine Two.l ?_ | refine ⟨by kernel_rfl,?_⟩ | refine bct (by assumption) ?_ | refine bcf (by assumption) ?_ | refine bcf (nt (by assumption)) ?_ | refine bct (nf (by assumption)) ?_ | refine place_may_ok hX ?_ | refine bc (fun _=>?_) (fun _=>?_))
 all_goals (conv=>whnf)
 all_goals (refine Qb hQ ?_; unfold nearP; simp_all)
theorem part_raw {X:Task→Prop} (hX:Closed X) {o:Int} {t:ByteArray} {n:Int} {x y:Nat} {ks:List Pred} {Q:A→List Blk→Prop} (ht:t.size≤9223372036854775807) (hQ:Q (bv (partB o t n x y ks)) []):X (.call 196 [prow o t n x y ks] [] Q):=by
 refine call_intro hX Tryz.func196 rfl rfl ?_
 rcases r10 o with rfl | rfl | rfl | rfl | rfl | rfl | rfl | rfl | rfl | rfl | ⟨n1,n2,n3,n4,n5,n6,n7,n8,n9,n10⟩
 rotate_right
 ·have e1:eqI o 1=false:=eqI_f.2 n1
  have e2:eqI o 2=false:=eqI_f.2 n2
  have e3:eqI o 3=false:=eqI_f.2 n3
  have e4:eqI o 4=false:=eqI_f.2 n4
  have e5:eqI o 5=false:=eqI_f.2 n5
  have e6:eqI o 6=false:=eqI_f.2 n6
  have e7:eqI o 7=false:=eqI_f.2 n7
  have e8:eqI o 8=false:=eqI_f.2 n8
  have e9:eqI o 9=false:=eqI_f.2 n9
  have e10:eqI o 10=false:=eqI_f.2 n10
  repeat' ((conv=>whnf); first | exact hQ | refine eqv_id ?_ | refine Two.l ?_ | refine ⟨by kernel_rfl,?_⟩ | refine bct (by assumption) ?_ | refine bcf (by assumption) ?_ | refine bcf (nt (by assumption)) ?_ | refine bct (nf (by assumption)) ?_ | (refine Qb hQ ?_; unfold partB; simp [*]; done) | refine bc (fun _=>?_) (fun _=>?_))
 all_goals
  repeat' ((conv=>whnf); first | exact hQ | refine eqv_id ?_ | refine Two.l ?_ | refine ⟨by kernel_rfl,?_⟩ | refine bct (by assumption) ?_ | refine bcf (by assumption) ?_ | refine bcf (nt (by assumption)) ?_ | refine bct (nf (by assumption)) ?_ | (refine Qb hQ ?_; unfold partB; simp [*]; done) | (refine Qb hQ ?_; unfold partB; simp_all; done) | refine ptext_ok hX ht ?_ | refine pnear_ok hX ?_ | refine bc (fun _=>?_) (fun _=>?_))
def zeroB (t:ByteArray) (n:Int) (x y:Nat) (ks:List Pred) (bt bn ba bk:Bool):Bool:=(bt || eqS t ⟨#[]⟩)&&((bn || eqI n 0)&&((bk || !ltI 0 (lenL (rows ks)))&&(ba || (eqFl .f64 x 0&&eqFl .f64 y 0))))
theorem zero_ok {X:Task→Prop} (hX:Closed X) {o:Int} {t:ByteArray} {n:Int} {x y:Nat} {ks:List Pred} {bt bn ba bk:Bool} {Q:A→List Blk→Prop} (hQ:Q (bv (zeroB t n x y ks bt bn ba bk)) []):X (.call 204 [prow o t n x y ks,bv bt,bv bn,bv ba,bv bk] [] Q):=by
 refine call_intro hX Tryz.func204 rfl rfl ?_
 repeat' ((conv=>whnf); first | exact hQ | refine eqv_id ?_ | refine Two.l ?_ | refine ⟨by kernel_rfl,?_⟩ | refine bct (by assumption) ?_ | refine bcf (by assumption) ?_ | refine bcf (nt (by assumption)) ?_ | refine bct (nf (by assumption)) ?_ | (refine Qb hQ ?_; unfold zeroB; simp_all; done) | refine bc (fun _=>?_) (fun _=>?_))
def condB (o:Int) (t:ByteArray) (n:Int) (x y:Nat) (ks:List Pred):Bool :=
 if o=1∨o=2 then zeroB t n x y ks false false false false
 else if o=3∨o=4 then zeroB t n x y ks true false false false&&lettersB t 0
 else if o=5∨o=6 then zeroB t n x y ks false true false false&&(leI (-1000000) n&&leI n 1000000)
 else if o=7 then zeroB t n x y ks false true true false&&(placeB x y&&(leI 0 n&&leI n 8000000))
 else if o=8∨o=9 then zeroB t n x y ks false false false true
 else if o=10 then zeroB t n x y ks false false false true&&eqI (lenL (rows ks)) 1
 else false
theorem len0 (ks:List Pred):(!ltI 0 (lenL (rows ks)))=eqI (lenL (rows ks)) 0:=by
 rw [len_rows]
 cases h:eqI (ks.length:Int) 0 with
 | true=>rw [eqI_t] at h; rw [ltI_f.2 (by omega)]; rfl
 | false=>rw [eqI_f] at h; rw [ltI_t.2 (by omega)]; rfl
theorem cond_eq (o:Int) (t:ByteArray) (n:Int) (x y:Nat) (ks:List Pred):condB o t n x y ks=partB o t n x y ks:=by
 unfold condB partB zeroB nearP
 rw [len0]
 rcases r10 o with rfl | rfl | rfl | rfl | rfl | rfl | rfl | rfl | rfl | rfl | ⟨n1,n2,n3,n4,n5,n6,n7,n8,n9,n10⟩
 rotate_right
 ·simp [*]
 all_goals
  first | (simp only [Int.reduceEq,or_true,true_or,or_false,false_or,if_true,if_false,Bool.true_or,Bool.false_or,Bool.true_and,Bool.and_true]; done) | skip
  try simp only [Int.reduceEq,or_true,true_or,or_false,false_or,if_true,if_false,Bool.true_or,Bool.false_or,Bool.true_and,Bool.and_true]
  try cases eqS t ⟨#[]⟩<;>cases eqI n 0<;>cases eqI (lenL (rows ks)) 0<;>cases (eqFl .f64 x 0&&eqFl .f64 y 0)<;>simp
mutual
def fitsP:Pred→Bool
 | .mk o t n x y ks=>partB o t n x y ks&&fitsL ks
def fitsL:List Pred→Bool
 | []=>true
 | k::ks=>fitsP k&&fitsL ks
end
theorem fitsP_eq (p:Pred):fitsP p=(partB p.op p.text p.n p.re p.im p.kids&&fitsL p.kids):=by cases p; rw [fitsP]; rfl
theorem fitsL_nil:fitsL []=true:=by rw [fitsL]
theorem fitsL_app (l m:List Pred):fitsL (l++m)=(fitsL l&&fitsL m):=by
 induction l with
 | nil=>rw [fitsL_nil]; simp
 | cons a l ih=>rw [List.cons_append,fitsL,fitsL,ih,Bool.and_assoc]
theorem fitsL_take {l:List Pred} {j:Nat} (h:j < l.length):fitsL (l.take (j + 1))=(fitsL (l.take j)&&fitsP l[j]):=by
 rw [List.take_succ_eq_append_getElem h,fitsL_app]
 congr 1
 rw [fitsL,fitsL_nil,Bool.and_true]
theorem fitsL_mem {l : List Pred} (h : fitsL l = true) {k : Pred} (hk : k ∈ l) : fitsP k = true := by
  induction l with
  | nil => cases hk
  | cons a l ih => rw [fitsL, Bool.and_eq_true] at h; rcases List.mem_cons.1 hk with rfl | hk
                   · exact h.1
                   · exact ih h.2 hk
attribute [irreducible] partB zeroB condB nearP fitsP fitsL
theorem ppart_ok {X:Task→Prop} (hX:Closed X) {p:Pred} {Q:A→List Blk→Prop} (ok:p.Ok) (hQ:Q (bv (partB p.op p.text p.n p.re p.im p.kids)) []):X (.call 196 [p.a] [] Q):=part_raw hX ok.text hQ
theorem fits_ok {X:Task→Prop} (hX:Closed X):∀ (N:Nat) {p:Pred} {Q:A→List Blk→Prop},p.size≤N→p.Ok→Q (bv (fitsP p)) []→X (.call 152 [p.a] [] Q)
 | 0,p,_,h,_,_=>absurd h (by have:=size_pos p; omega)
 | N + 1,p,Q,h,ok,hQ=>by
  have ht:=ok.text
  have hln:=ok.len
  have hk:=fun (j:Nat) (hj:j < p.kids.length)=>size_kid hj
  have hok:=fun (j:Nat) (hj:j < p.kids.length)=>ok.kid hj
  have hf:=fitsP_eq p
  rw [←cond_eq] at hf
  refine call_intro hX Tryz.func152 rfl rfl ?_
  rw [hf] at hQ
  clear hf ok
  simp only [Pred.a,Pred.cs]
  generalize p.op=o at *
  generalize p.text=t at *
  generalize p.n=n at *
  generalize p.re=x at *
  generalize p.im=y at *
  generalize p.kids=ks at *
  refine merge (G:=∀ b:Bool,b=condB o t n x y ks→X (.rest 152 0 ?c (pad [(1,.one (.ptr 0 0)),(1,bv b)] 90) [.box [ic o,.p (.v (.string t)),ic n,.p (.v (.complex .f64 x y)),.p (.sl (rows ks))]] ?K)) (fun tail=>?_) ?_
  rotate_left 2
  ·rcases r10 o with rfl | rfl | rfl | rfl | rfl | rfl | rfl | rfl | rfl | rfl | ⟨n1,n2,n3,n4,n5,n6,n7,n8,n9,n10⟩
   rotate_right
   ·have e1:eqI o 1=false:=eqI_f.2 n1
    have e2:eqI o 2=false:=eqI_f.2 n2
    have e3:eqI o 3=false:=eqI_f.2 n3
    have e4:eqI o 4=false:=eqI_f.2 n4
    have e5:eqI o 5=false:=eqI_f.2 n5
    have e6:eqI o 6=false:=eqI_f.2 n6
    have e7:eqI o 7=false:=eqI_f.2 n7
    have e8:eqI o 8=false:=eqI_f.2 n8
    have e9:eqI o 9=false:=eqI_f.2 n9
    have e10:eqI o 10=false:=eqI_f.2 n10
    repeat' ((conv=>whnf); first | exact hQ | refine eqv_id ?_ | refine Two.l ?_ | refine ⟨by kernel_rfl,?_⟩ | refine bct (by assumption) ?_ | refine bcf (by assumption) ?_ | refine bcf (nt (by assumption)) ?_ | refine bct (nf (by assumption)) ?_ | (refine tail.h _ ?_; unfold condB; simp [*]; done) | refine rtext_ok hX ht ?_ | refine ref_place_ok hX ?_ | refine zero_ok hX ?_ | refine bc (fun _=>?_) (fun _=>?_))
   all_goals
    repeat' ((conv=>whnf); first | exact hQ | refine eqv_id ?_ | refine Two.l ?_ | refine ⟨by kernel_rfl,?_⟩ | refine bct (by assumption) ?_ | refine bcf (by assumption) ?_ | refine bcf (nt (by assumption)) ?_ | refine bct (nf (by assumption)) ?_ | (refine tail.h _ ?_; unfold condB; simp [*]; done) | (refine tail.h _ ?_; unfold condB; simp_all; done) | refine rtext_ok hX ht ?_ | refine ref_place_ok hX ?_ | refine zero_ok hX ?_ | refine bc (fun _=>?_) (fun _=>?_))
  ·intro b hb
   refine rest_intro hX ?_
   repeat' ((conv=>whnf); first | exact hQ | refine eqv_id ?_ | refine Two.l ?_ | refine ⟨by kernel_rfl,?_⟩ | refine bct (by assumption) ?_ | refine bcf (by assumption) ?_ | refine bcf (nt (by assumption)) ?_ | refine bct (nf (by assumption)) ?_)
   refine range_loop (fun j (b:Bool)=>pad [(1,.one (.ptr 0 0)),(1,bv b),(2,iv (j:Int))] 87) (fun _ _=>[.box [ic o,.p (.v (.string t)),ic n,.p (.v (.complex .f64 x y)),.p (.sl (rows ks))]]) (fun j b=>b=(condB o t n x y ks&&fitsL (ks.take j))) ks.length (fun j b hj hI ih=>?_) (fun b hI=>?_) b (by rw [List.take_zero,fitsL_nil,Bool.and_true]; exact hb)
   ·have q1:ltI (j:Int) (lenL (rows ks))=true:=by rw [len_rows,ltI_t]; omega
    have q2:=lenB_rows hj
    have hk:=hk j hj
    have ht:=fitsL_take hj
    refine loop_intro hX ?_
    cases b with
    | true=>repeat' ((conv=>whnf); first | exact hQ | refine eqv_id ?_ | refine Two.l ?_ | refine ⟨by kernel_rfl,?_⟩ | refine bct (by assumption) ?_ | refine bcf (by assumption) ?_ | refine bcf (nt (by assumption)) ?_ | refine bct (nf (by assumption)) ?_ | (rw [at_rows hj]) | refine fits_ok hX N (p:=ks[j]) (by omega) (hok j hj) ?_ | (rw [wrS (by omega)]; exact ih _ (by rw [ht,←Bool.and_assoc,←hI]; rfl)))
    | false=>repeat' ((conv=>whnf); first | exact hQ | refine eqv_id ?_ | refine Two.l ?_ | refine ⟨by kernel_rfl,?_⟩ | refine bct (by assumption) ?_ | refine bcf (by assumption) ?_ | refine bcf (nt (by assumption)) ?_ | refine bct (nf (by assumption)) ?_ | (rw [at_rows hj]) | refine fits_ok hX N (p:=ks[j]) (by omega) (hok j hj) ?_ | (rw [wrS (by omega)]; exact ih _ (by rw [ht,←Bool.and_assoc,←hI]; rfl)))
   ·have q1:ltI (ks.length:Int) (lenL (rows ks))=false:=by rw [len_rows,ltI_f]; omega
    rw [List.take_length] at hI
    refine loop_intro hX ?_
    repeat' ((conv=>whnf); first | exact hQ | refine eqv_id ?_ | refine Two.l ?_ | refine ⟨by kernel_rfl,?_⟩ | refine bct (by assumption) ?_ | refine bcf (by assumption) ?_ | refine bcf (nt (by assumption)) ?_ | refine bct (nf (by assumption)) ?_ | (exact Qb hQ hI.symm))
def mayP (p:Pred):Bool:=decide (p.size≤30)&&(decide (p.depth≤6)&&fitsP p)
theorem rmay_pred_ok {X:Task→Prop} (hX:Closed X) {p:Pred} {Q:A→List Blk→Prop} (hs:p.size≤1000) (ok:p.Ok) (hQ:Q (bv (mayP p)) []):X (.call 76 [p.a] [] Q):=by
 refine call_intro hX Tryz.func76 rfl rfl ?_
 have e1:leI (p.size:Int) 30=decide (p.size≤30):=by unfold leI; exact decide_eq_decide.2 (by omega)
 have e2:leI (p.depth:Int) 6=decide (p.depth≤6):=by unfold leI; exact decide_eq_decide.2 (by omega)
 repeat' ((conv=>whnf); first | exact hQ | refine eqv_id ?_ | refine Two.l ?_ | refine ⟨by kernel_rfl,?_⟩ | refine bct (by assumption) ?_ | refine bcf (by assumption) ?_ | refine bcf (nt (by assumption)) ?_ | refine bct (nf (by assumption)) ?_ | (refine Qb hQ ?_; unfold mayP; rw [←e1,←e2]; simp_all; done) | refine rsize_ok hX p.size (Nat.le_refl _) hs ?_ | refine rdepth_ok hX p.size (Nat.le_refl _) hs ?_ | refine fits_ok hX p.size (Nat.le_refl _) ok ?_ | refine bc (fun _=>?_) (fun _=>?_))
def goodP (p:Pred) (d m:Nat):Bool:=fitsP p&&(decide (p.size≤m)&&decide (p.depth≤d))
theorem pmay_ok {X:Task→Prop} (hX:Closed X):∀ (N:Nat) {p:Pred} {d m:Nat} {Q:A→List Blk→Prop},p.size≤N→p.Ok→d≤1000→m≤1000→(goodP p d m=true→Q (bv true) [.box [ic ((m - p.size:Nat):Int)]])→(goodP p d m=false→∀ l:Int,Q (bv false) [.box [ic l]])→X (.call 142 [p.a,iv (d:Int),.one (.ptr 0 0)] [.box [ic (m:Int)]] Q)
 | 0,p,_,_,_,h,_,_,_,_,_=>absurd h (by have:=size_pos p; omega)
 | N + 1,p,d,m,Q,h,ok,hd,hm,hQ,hF=>by
  have hsz:=size_eq p
  have hde:=depth_eq p
  have hft:=fitsP_eq p
  have hln:=ok.len
  refine call_intro hX Tryz.func142 rfl rfl ?_
  by_cases h0:d=0∨m=0∨partB p.op p.text p.n p.re p.im p.kids=false
  ·have hg:goodP p d m=false:=by
    unfold goodP
    rcases h0 with rfl | rfl | h0
    ·rw [decide_eq_false (p:=p.depth≤0) (by omega)]; simp
    ·rw [decide_eq_false (p:=p.size≤0) (by omega)]; simp
    ·rw [hft,h0]; rfl
   have hF:=hF hg
   by_cases hd0:d=0
   ·have q1:eqI (d:Int) 0=true:=eqI_t.2 (by omega)
    repeat' ((conv=>whnf); first | exact hQ | refine eqv_id ?_ | refine Two.l ?_ | refine ⟨by kernel_rfl,?_⟩ | refine bct (by assumption) ?_ | refine bcf (by assumption) ?_ | refine bcf (nt (by assumption)) ?_ | refine bct (nf (by assumption)) ?_ | (exact hF _))
   ·have q1:eqI (d:Int) 0=false:=eqI_f.2 (by omega)
    by_cases hm0:m=0
    ·have q2:eqI (m:Int) 0=true:=eqI_t.2 (by omega)
     repeat' ((conv=>whnf); first | exact hQ | refine eqv_id ?_ | refine Two.l ?_ | refine ⟨by kernel_rfl,?_⟩ | refine bct (by assumption) ?_ | refine bcf (by assumption) ?_ | refine bcf (nt (by assumption)) ?_ | refine bct (nf (by assumption)) ?_ | (exact hF _))
    ·have q2:eqI (m:Int) 0=false:=eqI_f.2 (by omega)
     have h0:partB p.op p.text p.n p.re p.im p.kids=false:=(h0.resolve_left hd0).resolve_left hm0
     repeat' ((conv=>whnf); first | exact hQ | refine eqv_id ?_ | refine Two.l ?_ | refine ⟨by kernel_rfl,?_⟩ | refine bct (by assumption) ?_ | refine bcf (by assumption) ?_ | refine bcf (nt (by assumption)) ?_ | refine bct (nf (by assumption)) ?_ | (exact hF _) | (refine ppart_ok hX ok ?_; rw [h0]))
  ·have hd0:d≠0:=fun h=>h0 (.inl h)
   have hm0:m≠0:=fun h=>h0 (.inr (.inl h))
   have hp:partB p.op p.text p.n p.re p.im p.kids=true:=by
    cases h:partB p.op p.text p.n p.re p.im p.kids with
    | true=>rfl
    | false=>exact absurd (.inr (.inr h)) h0
   have q1:eqI (d:Int) 0=false:=eqI_f.2 (by omega)
   have q2:eqI (m:Int) 0=false:=eqI_f.2 (by omega)
   repeat' ((conv=>whnf); first | exact hQ | refine eqv_id ?_ | refine Two.l ?_ | refine ⟨by kernel_rfl,?_⟩ | refine bct (by assumption) ?_ | refine bcf (by assumption) ?_ | refine bcf (nt (by assumption)) ?_ | refine bct (nf (by assumption)) ?_ | (refine ppart_ok hX ok ?_; rw [hp]))
   (conv=>whnf)
   refine range_loop (fun j (_:Int)=>pad [(1,iv (d:Int)),(0,.one (.ptr 0 0)),(25,sl (rows p.kids)),(0,iv (lenL (rows p.kids))),(0,iv (j:Int))] 10) (fun _ l=>[.box [ic l]]) (fun j l=>l=((m - 1 - sizes (p.kids.take j):Nat):Int)∧fitsL (p.kids.take j)=true∧sizes (p.kids.take j)≤m - 1∧depths (p.kids.take j)≤d - 1) p.kids.length (fun j l hj hI ih=>?_) (fun l hI=>?_) _ ⟨by rw [wr64 (by omega) (by omega),List.take_zero,sizes_nil]; omega,by rw [List.take_zero,fitsL_nil],by rw [List.take_zero,sizes_nil]; omega,by rw [List.take_zero,depths_nil]; omega⟩
   ·obtain ⟨rfl,hI1,hI2,hI3⟩:=hI
    have q1:ltI (j:Int) (lenL (rows p.kids))=true:=by rw [len_rows,ltI_t]; omega
    have q2:=lenB_rows hj
    have hk:=size_kid hj
    have ht:=fitsL_take hj
    have hs:=take_sizes hj
    have hdp:=take_depths hj
    have hsl:=take_sizes_le p.kids (j + 1)
    have hdm:=depth_mem (List.getElem_mem hj)
    have ew:wr .i64 ((d:Int) - 1)=((d - 1:Nat):Int):=by rw [wr64 (by omega) (by omega)]; omega
    refine loop_intro hX ?_
    repeat' ((conv=>whnf); first | exact hQ | refine eqv_id ?_ | refine Two.l ?_ | refine ⟨by kernel_rfl,?_⟩ | refine bct (by assumption) ?_ | refine bcf (by assumption) ?_ | refine bcf (nt (by assumption)) ?_ | refine bct (nf (by assumption)) ?_ | (rw [at_rows hj]) | (rw [ew]; refine pmay_ok hX N (p:=p.kids[j]) (by omega) (ok.kid hj) (by omega) (by omega) (fun hg=>?_) (fun hg l=>?_)))
    ·have hg':=hg
     unfold goodP at hg'
     simp only [Bool.and_eq_true,decide_eq_true_eq] at hg'
     repeat' ((conv=>whnf); first | exact hQ | refine eqv_id ?_ | refine Two.l ?_ | refine ⟨by kernel_rfl,?_⟩ | refine bct (by assumption) ?_ | refine bcf (by assumption) ?_ | refine bcf (nt (by assumption)) ?_ | refine bct (nf (by assumption)) ?_ | (rw [wrS (by omega)]; exact ih _ ⟨by congr 1; omega,by rw [ht,hI1,hg'.1]; rfl,by omega,by omega⟩))
    ·have hgp:goodP p d m=false:=by
      cases hgp:goodP p d m with
      | false=>rfl
      | true =>
       unfold goodP at hgp hg
       simp only [Bool.and_eq_true,decide_eq_true_eq] at hgp
       obtain ⟨g1,g2,g3⟩:=hgp
       rw [hft,Bool.and_eq_true] at g1
       have:=fitsL_mem g1.2 (List.getElem_mem hj)
       rw [this,decide_eq_true (by omega),decide_eq_true (by omega)] at hg
       cases hg
     repeat' ((conv=>whnf); first | exact hQ | refine eqv_id ?_ | refine Two.l ?_ | refine ⟨by kernel_rfl,?_⟩ | refine bct (by assumption) ?_ | refine bcf (by assumption) ?_ | refine bcf (nt (by assumption)) ?_ | refine bct (nf (by assumption)) ?_ | (exact hF hgp _))
   ·obtain ⟨rfl,hI1,hI2,hI3⟩:=hI
    have q1:ltI (p.kids.length:Int) (lenL (rows p.kids))=false:=by rw [len_rows,ltI_f]; omega
    rw [List.take_length] at *
    have hgp:goodP p d m=true:=by
     unfold goodP
     rw [hft,hp,hI1,decide_eq_true (by omega),decide_eq_true (by omega)]; rfl
    have e:m - 1 - sizes p.kids=m - p.size:=by omega
    rw [e]
    have hQ:=hQ hgp
    refine loop_intro hX ?_
    repeat' ((conv=>whnf); first | exact hQ | refine eqv_id ?_ | refine Two.l ?_ | refine ⟨by kernel_rfl,?_⟩ | refine bct (by assumption) ?_ | refine bcf (by assumption) ?_ | refine bcf (nt (by assumption)) ?_ | refine bct (nf (by assumption)) ?_)
theorem good_may (p:Pred):goodP p 6 30=mayP p:=by unfold goodP mayP; rw [Bool.and_comm,Bool.and_assoc]
theorem may_pred_ok {X:Task→Prop} (hX:Closed X) {p:Pred} {Q:A→List Blk→Prop} (ok:p.Ok) (hQ:Q (bv (mayP p)) []):X (.call 72 [p.a] [] Q):=by
 refine call_intro hX Tryz.func72 rfl rfl ?_
 rw [←good_may] at hQ
 repeat' ((conv=>whnf); first | exact hQ | refine eqv_id ?_ | refine Two.l ?_ | refine ⟨by kernel_rfl,?_⟩ | refine bct (by assumption) ?_ | refine bcf (by assumption) ?_ | refine bcf (nt (by assumption)) ?_ | refine bct (nf (by assumption)) ?_ | (refine pmay_ok hX p.size (d:=6) (m:=30) (Nat.le_refl _) ok (by decide) (by decide) (fun hg=>?_) (fun hg l=>?_); all_goals rw [hg] at hQ))
attribute [irreducible] mayP goodP
end Go.Proofs.YtidkmoohgadjkaaGreat
set_option maxHeartbeats 4000000
namespace Go.Proofs.YtidkmoohgadjkaaGreat
open Go E Pred
abbrev pagg (o:Int) (t:ByteArray) (n:Int) (x y:Nat) (r:List (List PC)):A:=.agg [ic o,.p (.v (.string t)),ic n,.p (.v (.complex .f64 x y)),.p (.sl r)]
section
variable {X:Task→Prop} (hX:Closed X) {o:Int} {t:ByteArray} {n:Int} {x y:Nat} {r:List (List PC)} {Q:A→List Blk→Prop}
include hX
end
theorem mk_size (o:Int) (t:ByteArray) (n:Int) (x y:Nat) (ks:List Pred):(Pred.mk o t n x y ks).size=sizes ks + 1:=size_eq _
theorem mayP_iff {p:Pred}:mayP p=true↔p.size≤30∧p.depth≤6∧fitsP p=true:=by
 unfold mayP; simp only [Bool.and_eq_true,decide_eq_true_eq]
end Go.Proofs.YtidkmoohgadjkaaGreat
set_option maxHeartbeats 4000000
namespace Go.Proofs.YtidkmoohgadjkaaGreat
open Go E Pred
def prefB (s t:ByteArray):Bool:=(bytesOf t).isPrefixOf (bytesOf s)
theorem bytes_sub (s:ByteArray) (n:Nat):bytesOf (subS s 0 n)=(bytesOf s).take n:=by
 unfold bytesOf subS
 rw [ByteArray.data_extract,Array.toList_extract]
 simp
theorem eqS_iff (s t:ByteArray):eqS s t=true↔bytesOf s=bytesOf t:=by unfold eqS bytesOf; exact beq_iff_eq
theorem pref_eq (s t:ByteArray):prefB s t=(leI (lenS t) (lenS s)&&eqS (subS s 0 t.size) t):=by
 unfold prefB
 rw [Bool.eq_iff_iff,Bool.and_eq_true,eqS_iff,bytes_sub,List.isPrefixOf_iff_prefix,leI_t,lenS_def,lenS_def,←bytes_len,←bytes_len]
 constructor
 ·intro h; exact ⟨by have:=h.length_le; omega,(List.prefix_iff_eq_take.1 h).symm⟩
 ·intro h; exact List.prefix_iff_eq_take.2 h.2.symm
theorem slite_ok {X:Task→Prop} (hX:Closed X) {s t:ByteArray} {Q:A→List Blk→Prop} (hQ:Q (bv (prefB s t)) []):X (.call 193 [sv s,sv t] [] Q):=by
 have hp:=pref_eq s t
 refine call_intro hX Tryz.func193 rfl rfl ?_
 cases h1:leI (lenS t) (lenS s) with
 | false=>repeat' ((conv=>whnf); first | exact hQ | refine eqv_id ?_ | refine Two.l ?_ | refine ⟨by kernel_rfl,?_⟩ | refine bct (by assumption) ?_ | refine bcf (by assumption) ?_ | refine bcf (nt (by assumption)) ?_ | refine bct (nf (by assumption)) ?_ | (exact Qb hQ (by rw [hp,h1]; rfl)))
 | true =>
  rw [h1,Bool.true_and] at hp
  have q1:(inC (lenS t) s.size&&leI 0 0&&leI 0 (lenS t))=true:=by
   rw [leI_t,lenS_def,lenS_def] at h1
   have e1:inC (lenS t) s.size=true:=by unfold inC; rw [decide_eq_true_eq,lenS_def]; omega
   have e2:leI 0 (lenS t)=true:=by rw [leI_t,lenS_def]; omega
   rw [e1,e2]; rfl
  repeat' ((conv=>whnf); first | exact hQ | refine eqv_id ?_ | refine Two.l ?_ | refine ⟨by kernel_rfl,?_⟩ | refine bct (by assumption) ?_ | refine bcf (by assumption) ?_ | refine bcf (nt (by assumption)) ?_ | refine bct (nf (by assumption)) ?_ | (exact Qb hQ (by rw [hp]; rfl)))
theorem hasPrefix_ok {X:Task→Prop} (hX:Closed X) {s t:ByteArray} {Q:A→List Blk→Prop} (hQ:Q (bv (prefB s t)) []):X (.call 139 [sv s,sv t] [] Q):=by
 refine call_intro hX Tryz.func139 rfl rfl ?_
 repeat' ((conv=>whnf); first | exact hQ | refine eqv_id ?_ | refine Two.l ?_ | refine ⟨by kernel_rfl,?_⟩ | refine bct (by assumption) ?_ | refine bcf (by assumption) ?_ | refine bcf (nt (by assumption)) ?_ | refine bct (nf (by assumption)) ?_ | refine slite_ok hX ?_)
theorem pref_take {a b:List UInt8} {j:Nat} (hj:j < b.length) (h:b.take j=a.take j) (ha:j < a.length) (he:a[j]=b[j]):b.take (j + 1)=a.take (j + 1):=by
 rw [List.take_succ_eq_append_getElem hj,List.take_succ_eq_append_getElem ha,h,he]
theorem begins_ok {X:Task→Prop} (hX:Closed X) {s t:ByteArray} {Q:A→List Blk→Prop} (ht:t.size≤9223372036854775807) (hQ:Q (bv (prefB s t)) []):X (.call 90 [sv s,sv t] [] Q):=by
 refine call_intro hX Tryz.func90 rfl rfl ?_
 repeat' ((conv=>whnf); first | exact hQ | refine eqv_id ?_ | refine Two.l ?_ | refine ⟨by kernel_rfl,?_⟩ | refine bct (by assumption) ?_ | refine bcf (by assumption) ?_ | refine bcf (nt (by assumption)) ?_ | refine bct (nf (by assumption)) ?_)
 have hlt:=bytes_len t
 refine range_loop (fun j (_:Unit)=>pad [(0,sv s),(0,sv t),(3,iv (j:Int))] 19) (fun _ _=>[]) (fun j _=>(bytesOf t).take j=(bytesOf s).take j) (bytesOf t).length (fun j st hj hI ih=>?_) (fun st hI=>?_) () rfl
 ·have q1:ltI (j:Int) (lenS t)=true:=by rw [len_bytes,ltI_t]; omega
  have q2:=inB_j hj
  have q3:=atS_eq hj
  have hbad:¬ ((bytesOf t).take (j + 1)=(bytesOf s).take (j + 1))→prefB s t=false:=fun h=>by
   cases hp:prefB s t with
   | false=>rfl
   | true =>
    unfold prefB at hp
    rw [List.isPrefixOf_iff_prefix] at hp
    obtain ⟨r,hr⟩:=hp
    exact absurd (by rw [←hr,List.take_append_of_le_length (by omega)]) h
  refine loop_intro hX ?_
  by_cases hs:j < (bytesOf s).length
  ·have q4:leI (lenS s) (j:Int)=false:=by rw [len_bytes,leI_f]; omega
   have q5:=inB_j hs
   have q6:=atS_eq hs
   by_cases he:(bytesOf s)[j]=(bytesOf t)[j]
   ·have q7:eqI (atS s (j:Int)) (atS t (j:Int))=true:=by rw [q3,q6,he,eqI_t]
    repeat' ((conv=>whnf); first | exact hQ | refine eqv_id ?_ | refine Two.l ?_ | refine ⟨by kernel_rfl,?_⟩ | refine bct (by assumption) ?_ | refine bcf (by assumption) ?_ | refine bcf (nt (by assumption)) ?_ | refine bct (nf (by assumption)) ?_ | (rw [wrS (by omega)]; exact ih () (pref_take hj hI hs he)))
   ·have q7:eqI (atS s (j:Int)) (atS t (j:Int))=false:=by
     rw [q3,q6,eqI_f]
     intro h
     exact he (UInt8.toNat.inj (by omega))
    have hb:=hbad fun h=>he (by
     rw [List.take_succ_eq_append_getElem hj,List.take_succ_eq_append_getElem hs] at h
     have:=List.append_inj_right h (by rw [List.length_take,List.length_take]; omega)
     simpa using this.symm)
    repeat' ((conv=>whnf); first | exact hQ | refine eqv_id ?_ | refine Two.l ?_ | refine ⟨by kernel_rfl,?_⟩ | refine bct (by assumption) ?_ | refine bcf (by assumption) ?_ | refine bcf (nt (by assumption)) ?_ | refine bct (nf (by assumption)) ?_ | (exact Qb hQ hb))
  ·have q4:leI (lenS s) (j:Int)=true:=by rw [len_bytes,leI_t]; omega
   have hb:=hbad fun h=>by
    have:=congrArg List.length h
    rw [List.length_take,List.length_take] at this
    omega
   repeat' ((conv=>whnf); first | exact hQ | refine eqv_id ?_ | refine Two.l ?_ | refine ⟨by kernel_rfl,?_⟩ | refine bct (by assumption) ?_ | refine bcf (by assumption) ?_ | refine bcf (nt (by assumption)) ?_ | refine bct (nf (by assumption)) ?_ | (exact Qb hQ hb))
 ·have q1:ltI ((bytesOf t).length:Int) (lenS t)=false:=by rw [len_bytes,ltI_f]; omega
  have hp:prefB s t=true:=by
   unfold prefB
   rw [List.isPrefixOf_iff_prefix,List.prefix_iff_eq_take]
   rw [List.take_length] at hI
   exact hI
  refine loop_intro hX ?_
  repeat' ((conv=>whnf); first | exact hQ | refine eqv_id ?_ | refine Two.l ?_ | refine ⟨by kernel_rfl,?_⟩ | refine bct (by assumption) ?_ | refine bcf (by assumption) ?_ | refine bcf (nt (by assumption)) ?_ | refine bct (nf (by assumption)) ?_ | (exact Qb hQ hp))
def idxP {α:Type} (p:α→Bool):List α→Nat→Int
 | [],_ => -1
 | a::l,i=>if p a then (i:Int) else idxP p l (i + 1)
theorem idxP_any {α:Type} (p:α→Bool):∀ (l:List α) (i:Nat),leI 0 (idxP p l i)=l.any p
 | [],i=>rfl
 | a::l,i=>by
  unfold idxP
  cases h:p a with
  | true=>rw [if_pos rfl,List.any_cons,h]; exact leI_t.2 (by omega)
  | false=>rw [if_neg (by simp),List.any_cons,h,idxP_any p l (i + 1)]; rfl
theorem idxP_at {α:Type} {p:α→Bool}:∀ {l:List α} {j:Nat} (h:j < l.length) (i:Nat),(∀ k (hk:k < j),p (l[k]'(by omega))=false)→p l[j]=true→idxP p l i=((i + j:Nat):Int)
 | a::l,0,h,i,_,hp=>by unfold idxP; rw [if_pos (by simpa using hp)]; rfl
 | a::l,j + 1,h,i,hk,hp=>by
  unfold idxP
  have h0:=hk 0 (by omega)
  simp only [List.getElem_cons_zero] at h0
  rw [if_neg (by rw [h0]; simp),idxP_at (l:=l) (j:=j) (by simpa using h) (i + 1) (fun k hk'=>by simpa using hk (k + 1) (by omega)) (by simpa using hp)]
  congr 1; omega
theorem idxP_none {α:Type} {p:α→Bool}:∀ {l:List α} (i:Nat),(∀ k (hk:k < l.length),p l[k]=false)→idxP p l i = -1
 | [],i,_=>rfl
 | a::l,i,h=>by
  unfold idxP
  have h0:=h 0 (by simp)
  simp only [List.getElem_cons_zero] at h0
  rw [if_neg (by rw [h0]; simp)]
  exact idxP_none (i + 1) fun k hk=>by
   have:=h (k + 1) (by simpa using hk)
   simp only [List.getElem_cons_succ] at this
   exact this
section
variable {X:Task→Prop} (hX:Closed X) {g:Nat} {cells:List PC} {ks:List Pred} {P:Pred→Bool} {Q:A→List Blk→Prop}
include hX
theorem indexFunc_ok (hln:ks.length≤9223372036854775807) (hg:∀ (j:Nat) (hj:j < ks.length) (Q':A→List Blk→Prop),Q' (bv (P ks[j])) []→X (.call g [ks[j].a,.one (.rp cells)] [] Q')) (hQ:Q (iv (idxP P ks 0)) []):X (.call 195 [sl (rows ks),.one (.pf g [cells])] [] Q):=by
 refine call_intro hX Tryz.func195 rfl rfl ?_
 repeat' ((conv=>whnf); first | exact hQ | refine eqv_id ?_ | refine Two.l ?_ | refine ⟨by kernel_rfl,?_⟩ | refine bct (by assumption) ?_ | refine bcf (by assumption) ?_ | refine bcf (nt (by assumption)) ?_ | refine bct (nf (by assumption)) ?_)
 refine range_loop (fun j (_:Unit)=>pad [(0,sl (rows ks)),(0,.one (.pf g [cells])),(5,iv (lenL (rows ks))),(0,iv (j:Int))] 10) (fun _ _=>[]) (fun j _=>∀ k (hk:k < ks.length),k < j→P ks[k]=false) ks.length (fun j st hj hI ih=>?_) (fun st hI=>?_) () (fun k hk h=>absurd h (Nat.not_lt_zero _))
 ·have q1:ltI (j:Int) (lenL (rows ks))=true:=by rw [len_rows,ltI_t]; omega
  have q2:=lenB_rows hj
  refine loop_intro hX ?_
  cases hP:P ks[j] with
  | true=>repeat' ((conv=>whnf); first | exact hQ | refine eqv_id ?_ | refine Two.l ?_ | refine ⟨by kernel_rfl,?_⟩ | refine bct (by assumption) ?_ | refine bcf (by assumption) ?_ | refine bcf (nt (by assumption)) ?_ | refine bct (nf (by assumption)) ?_ | (exact Qi hQ (by rw [idxP_at hj 0 (fun k hk=>hI k (by omega) hk) hP,Nat.zero_add])) | refine row_in (at_rows hj) ?_ | refine known bv (hg j hj) hP ?_)
  | false=>repeat' ((conv=>whnf); first | exact hQ | refine eqv_id ?_ | refine Two.l ?_ | refine ⟨by kernel_rfl,?_⟩ | refine bct (by assumption) ?_ | refine bcf (by assumption) ?_ | refine bcf (nt (by assumption)) ?_ | refine bct (nf (by assumption)) ?_ | refine row_in (at_rows hj) ?_ | refine known bv (hg j hj) hP ?_ | (rw [wrS (by omega)]; refine ih () (fun k hk hkj=>?_); rcases Nat.lt_succ_iff_lt_or_eq.1 hkj with h' | rfl; exact hI k hk h'; exact hP))
 ·have q1:ltI (ks.length:Int) (lenL (rows ks))=false:=by rw [len_rows,ltI_f]; omega
  refine loop_intro hX ?_
  repeat' ((conv=>whnf); first | exact hQ | refine eqv_id ?_ | refine Two.l ?_ | refine ⟨by kernel_rfl,?_⟩ | refine bct (by assumption) ?_ | refine bcf (by assumption) ?_ | refine bcf (nt (by assumption)) ?_ | refine bct (nf (by assumption)) ?_ | (exact Qi hQ (idxP_none 0 fun k hk=>hI k hk hk)))
theorem containsFunc_ok (hln:ks.length≤9223372036854775807) (hg:∀ (j:Nat) (hj:j < ks.length) (Q':A→List Blk→Prop),Q' (bv (P ks[j])) []→X (.call g [ks[j].a,.one (.rp cells)] [] Q')) (hQ:Q (bv (ks.any P)) []):X (.call 141 [sl (rows ks),.one (.pf g [cells])] [] Q):=by
 refine call_intro hX Tryz.func141 rfl rfl ?_
 repeat' ((conv=>whnf); first | exact hQ | refine eqv_id ?_ | refine Two.l ?_ | refine ⟨by kernel_rfl,?_⟩ | refine bct (by assumption) ?_ | refine bcf (by assumption) ?_ | refine bcf (nt (by assumption)) ?_ | refine bct (nf (by assumption)) ?_ | (exact Qb hQ (idxP_any P ks 0).symm) | refine indexFunc_ok hX hln hg ?_)
end
mutual
def hasP:Pred→Item→Bool
 | .mk o t n a b ks,x=>if o=1 then true else if o=3 then eqS x.kind t else if o=4 then prefB x.id t else if o=5 then ltI x.num n else if o=6 then leI n x.num
  else if o=7 then nearB x.re x.im a b n else if o=8 then hasAll ks x else if o=9 then hasAny ks x else if o=10 then hasNot ks x else false
def hasAll:List Pred→Item→Bool
 | [],_=>true
 | k::ks,x=>hasP k x&&hasAll ks x
def hasAny:List Pred→Item→Bool
 | [],_=>false
 | k::ks,x=>hasP k x || hasAny ks x
def hasNot:List Pred→Item→Bool
 | [],_=>false
 | k::_,x=>!hasP k x
end
def has0 (o:Int) (t:ByteArray) (n:Int) (a b:Nat) (ks:List Pred) (x:Item):Bool:=if o=1 then true else if o=3 then eqS x.kind t else if o=4 then prefB x.id t else if o=5 then ltI x.num n else if o=6 then leI n x.num
  else if o=7 then nearB x.re x.im a b n else if o=8 then hasAll ks x else if o=9 then hasAny ks x else if o=10 then hasNot ks x else false
theorem hasP_eq (p:Pred) (x:Item):hasP p x=has0 p.op p.text p.n p.re p.im p.kids x:=by cases p; rw [hasP]; rfl
theorem hasAll_eq (ks:List Pred) (x:Item):hasAll ks x=!(ks.any fun k=>!hasP k x):=by
 induction ks with
 | nil=>rw [hasAll]; rfl
 | cons k ks ih=>rw [hasAll,ih,List.any_cons]; simp
theorem hasAny_eq (ks:List Pred) (x:Item):hasAny ks x=ks.any fun k=>hasP k x:=by
 induction ks with
 | nil=>rw [hasAny]; rfl
 | cons k ks ih=>rw [hasAny,ih,List.any_cons]
theorem hasNot_cons {ks:List Pred} {x:Item} (h:0 < ks.length):hasNot ks x=!hasP ks[0] x:=by
 cases ks with
 | nil=>cases h
 | cons k ks=>rw [hasNot]; rfl
theorem hasNot_nil {ks:List Pred} {x:Item} (h:¬ 0 < ks.length):hasNot ks x=false:=by
 cases ks with
 | nil=>rw [hasNot]
 | cons k ks=>simp at h
theorem has_all_count (ks:List Pred) (x:Item):hasAll ks x=decide (ks.countP (fun k=>hasP k x)=ks.length):=by
 rw [hasAll_eq,Bool.eq_iff_iff,decide_eq_true_iff,List.countP_eq_length]; simp
theorem has_any_count (ks:List Pred) (x:Item):hasAny ks x=decide (0 < ks.countP (fun k=>hasP k x)):=by
 rw [hasAny_eq,Bool.eq_iff_iff,decide_eq_true_iff,List.countP_pos_iff]; simp
theorem count_take {ks:List Pred} {P:Pred→Bool} {j:Nat} (h:j < ks.length):(ks.take (j + 1)).countP P=(ks.take j).countP P + (if P ks[j] then 1 else 0):=by
 rw [List.take_succ_eq_append_getElem h,List.countP_append,List.countP_singleton]
attribute [irreducible] hasP hasAll hasAny hasNot has0 prefB
theorem nearB_eq2 (a b c d:Nat) (n:Int):nearB a b c d n=(leI 0 (farV a b c d)&&leI (farV a b c d) n):=by
 unfold nearB leI; rw [Bool.decide_and]
section
variable {X:Task→Prop} (hX:Closed X) {k:Pred} {x:Item} {b:Bool} {Q:A→List Blk→Prop}
include hX
theorem has_rp (hk:∀ Q':A→List Blk→Prop,Q' (bv b) []→X (.call 69 [k.a,x.a] [] Q')) (hQ:Q (bv b) []):X (.call 137 [k.a,.one (.rp x.row)] [] Q):=by
 refine call_intro hX Tryz.func137 rfl rfl ?_
 repeat' ((conv=>whnf); first | exact hQ | refine eqv_id ?_ | refine Two.l ?_ | refine ⟨by kernel_rfl,?_⟩ | refine bct (by assumption) ?_ | refine bcf (by assumption) ?_ | refine bcf (nt (by assumption)) ?_ | refine bct (nf (by assumption)) ?_ | refine hk _ ?_)
theorem lacks_rp (hk:∀ Q':A→List Blk→Prop,Q' (bv b) []→X (.call 69 [k.a,x.a] [] Q')) (hQ:Q (bv (!b)) []):X (.call 138 [k.a,.one (.rp x.row)] [] Q):=by
 refine call_intro hX Tryz.func138 rfl rfl ?_
 repeat' ((conv=>whnf); first | exact hQ | refine eqv_id ?_ | refine Two.l ?_ | refine ⟨by kernel_rfl,?_⟩ | refine bct (by assumption) ?_ | refine bcf (by assumption) ?_ | refine bcf (nt (by assumption)) ?_ | refine bct (nf (by assumption)) ?_ | refine hk _ ?_)
theorem lacks_ptr (hk:∀ Q':A→List Blk→Prop,Q' (bv b) []→X (.call 69 [k.a,x.a] [] Q')) (hQ:Q (bv (!b)) [.box x.cs]):X (.call 138 [k.a,.one (.ptr 0 0)] [.box x.cs] Q):=by
 refine call_intro hX Tryz.func138 rfl rfl ?_
 repeat' ((conv=>whnf); first | exact hQ | refine eqv_id ?_ | refine Two.l ?_ | refine ⟨by kernel_rfl,?_⟩ | refine bct (by assumption) ?_ | refine bcf (by assumption) ?_ | refine bcf (nt (by assumption)) ?_ | refine bct (nf (by assumption)) ?_ | refine hk _ ?_)
end
theorem has_ok {X:Task→Prop} (hX:Closed X):∀ (N:Nat) {p:Pred} {x:Item} {Q:A→List Blk→Prop},p.size≤N→p.Ok→x.Ok→Q (bv (hasP p x)) []→X (.call 69 [p.a,x.a] [] Q)
 | 0,p,_,_,h,_,_,_=>absurd h (by have:=size_pos p; omega)
 | N + 1,p,x,Q,h,ok,ox,hQ=>by
  have hln:=ok.len
  have hkid:∀ (j:Nat) (hj:j < p.kids.length) (Q':A→List Blk→Prop),Q' (bv (hasP p.kids[j] x)) []→X (.call 69 [p.kids[j].a,x.a] [] Q'):=fun j hj Q' hQ'=>has_ok hX N (by have:=size_kid hj; omega) (ok.kid hj) ox hQ'
  rw [hasP_eq] at hQ
  refine call_intro hX Tryz.func69 rfl rfl ?_
  clear ok
  simp only [Pred.a,Pred.cs]
  generalize p.op=o at *
  generalize p.text=t at *
  generalize p.n=n at *
  generalize p.re=a at *
  generalize p.im=b at *
  generalize p.kids=ks at *
  rcases r10 o with rfl | rfl | rfl | rfl | rfl | rfl | rfl | rfl | rfl | rfl | ⟨n1,n2,n3,n4,n5,n6,n7,n8,n9,n10⟩
  rotate_right
  ·have e1:eqI o 1=false:=eqI_f.2 n1
   have e3:eqI o 3=false:=eqI_f.2 n3
   have e4:eqI o 4=false:=eqI_f.2 n4
   have e5:eqI o 5=false:=eqI_f.2 n5
   have e6:eqI o 6=false:=eqI_f.2 n6
   have e7:eqI o 7=false:=eqI_f.2 n7
   have e8:eqI o 8=false:=eqI_f.2 n8
   have e9:eqI o 9=false:=eqI_f.2 n9
   have e10:eqI o 10=false:=eqI_f.2 n10
   repeat' ((conv=>whnf); first | exact hQ | refine eqv_id ?_ | refine Two.l ?_ | refine ⟨by kernel_rfl,?_⟩ | refine bct (by assumption) ?_ | refine bcf (by assumption) ?_ | refine bcf (nt (by assumption)) ?_ | refine bct (nf (by assumption)) ?_ | (refine Qb hQ ?_; unfold has0; simp [*]; done))
  rotate_right
  ·by_cases h0:0 < ks.length
   ·have q1:ltI 0 (lenL (rows ks))=true:=by rw [len_rows,ltI_t]; omega
    have q2:lenB (rows ks) 0=true:=lenB_rows h0
    have q3:=at_rows h0
    repeat' ((conv=>whnf); first | exact hQ | refine eqv_id ?_ | refine Two.l ?_ | refine ⟨by kernel_rfl,?_⟩ | refine bct (by assumption) ?_ | refine bcf (by assumption) ?_ | refine bcf (nt (by assumption)) ?_ | refine bct (nf (by assumption)) ?_ | (refine Qb hQ ?_; unfold has0; simp [hasNot_cons h0]; done) | refine row_in q3 ?_ | refine lacks_ptr hX (hkid 0 h0) ?_)
   ·have q1:ltI 0 (lenL (rows ks))=false:=by rw [len_rows,ltI_f]; omega
    repeat' ((conv=>whnf); first | exact hQ | refine eqv_id ?_ | refine Two.l ?_ | refine ⟨by kernel_rfl,?_⟩ | refine bct (by assumption) ?_ | refine bcf (by assumption) ?_ | refine bcf (nt (by assumption)) ?_ | refine bct (nf (by assumption)) ?_ | (refine Qb hQ ?_; unfold has0; simp [hasNot_nil h0]; done))
  rotate_right
  ·repeat' ((conv=>whnf); first | exact hQ | refine eqv_id ?_ | refine Two.l ?_ | refine ⟨by kernel_rfl,?_⟩ | refine bct (by assumption) ?_ | refine bcf (by assumption) ?_ | refine bcf (nt (by assumption)) ?_ | refine bct (nf (by assumption)) ?_ | refine Or.inr (Or.inl ?_) | (refine containsFunc_ok hX (P:=fun k=>hasP k x) hln (fun j hj Q' hQ'=>has_rp hX (hkid j hj) hQ') ?_) | (refine Qb hQ ?_; unfold has0; simp [hasAny_eq]; done))
  rotate_right
  ·repeat' ((conv=>whnf); first | exact hQ | refine eqv_id ?_ | refine Two.l ?_ | refine ⟨by kernel_rfl,?_⟩ | refine bct (by assumption) ?_ | refine bcf (by assumption) ?_ | refine bcf (nt (by assumption)) ?_ | refine bct (nf (by assumption)) ?_ | refine Or.inr (Or.inl ?_) | (refine containsFunc_ok hX (P:=fun k=>!hasP k x) hln (fun j hj Q' hQ'=>lacks_rp hX (hkid j hj) hQ') ?_) | (refine Qb hQ ?_; unfold has0; simp [hasAll_eq]; done))
  all_goals
   repeat' ((conv=>whnf); first | exact hQ | refine eqv_id ?_ | refine Two.l ?_ | refine ⟨by kernel_rfl,?_⟩ | refine bct (by assumption) ?_ | refine bcf (by assumption) ?_ | refine bcf (nt (by assumption)) ?_ | refine bct (nf (by assumption)) ?_ | (refine Qb hQ ?_; unfold has0; simp; done) | refine near_ok hX ?_ | refine hasPrefix_ok hX ?_)
theorem rhas_ok {X:Task→Prop} (hX:Closed X):∀ (N:Nat) {p:Pred} {x:Item} {Q:A→List Blk→Prop},p.size≤N→p.Ok→x.Ok→Q (bv (hasP p x)) []→X (.call 28 [p.a,x.a] [] Q)
 | 0,p,_,_,h,_,_,_=>absurd h (by have:=size_pos p; omega)
 | N + 1,p,x,Q,h,ok,ox,hQ=>by
  have hln:=ok.len
  have htx:=ok.text
  have hkid:∀ (j:Nat) (hj:j < p.kids.length) (Q':A→List Blk→Prop),Q' (bv (hasP p.kids[j] x)) []→X (.call 28 [p.kids[j].a,x.a] [] Q'):=fun j hj Q' hQ'=>rhas_ok hX N (by have:=size_kid hj; omega) (ok.kid hj) ox hQ'
  rw [hasP_eq] at hQ
  refine call_intro hX Tryz.func28 rfl rfl ?_
  clear ok
  simp only [Pred.a,Pred.cs]
  generalize p.op=o at *
  generalize p.text=t at *
  generalize p.n=n at *
  generalize p.re=a at *
  generalize p.im=b at *
  generalize p.kids=ks at *
  repeat' ((conv=>whnf); first | exact hQ | refine eqv_id ?_ | refine Two.l ?_ | refine ⟨by kernel_rfl,?_⟩ | refine bct (by assumption) ?_ | refine bcf (by assumption) ?_ | refine bcf (nt (by assumption)) ?_ | refine bct (nf (by assumption)) ?_)
  refine range_ix (fun i (m:Int)=>pad [(2,.one (.ptr 0 0)),(0,.one (.ptr 1 0)),(1,iv m),(0,iv i)] 90) (fun _ _=>[.box [ic o,.p (.v (.string t)),ic n,.p (.v (.complex .f64 a b)),.p (.sl (rows ks))],.box x.cs]) (fun j m=>m=(((ks.take j).countP fun k=>hasP k x:Nat):Int)) ks.length 0 (Nat.zero_le _) (fun j m _ hj hI ih=>?_) (fun m hI=>?_) 0 0 rfl rfl
  ·have q1:ltI (j:Int) (lenL (rows ks))=true:=by rw [len_rows,ltI_t]; omega
   have q2:=lenB_rows hj
   have hct:=count_take (P:=fun k=>hasP k x) hj
   have hcl:=List.countP_le_length (p:=fun k=>hasP k x) (l:=ks.take j)
   rw [List.length_take] at hcl
   refine loop_intro hX ?_
   cases hh:hasP ks[j] x with
   | true =>
    rw [hh,if_pos rfl] at hct
    have e:wr .i64 (m + 1)=(((ks.take (j + 1)).countP fun k=>hasP k x:Nat):Int):=by rw [hct,hI,wrS (by omega)]
    clear hct hI hcl
    repeat' ((conv=>whnf); first | exact hQ | refine eqv_id ?_ | refine Two.l ?_ | refine ⟨by kernel_rfl,?_⟩ | refine bct (by assumption) ?_ | refine bcf (by assumption) ?_ | refine bcf (nt (by assumption)) ?_ | refine bct (nf (by assumption)) ?_ | refine row_in (at_rows hj) ?_ | refine known bv (hkid j hj) hh ?_ | (exact ih _ _ (wrS (by omega)) e))
   | false =>
    rw [hh,if_neg (by simp),Nat.add_zero] at hct
    have e:m=(((ks.take (j + 1)).countP fun k=>hasP k x:Nat):Int):=by rw [hct]; exact hI
    clear hct hI hcl
    repeat' ((conv=>whnf); first | exact hQ | refine eqv_id ?_ | refine Two.l ?_ | refine ⟨by kernel_rfl,?_⟩ | refine bct (by assumption) ?_ | refine bcf (by assumption) ?_ | refine bcf (nt (by assumption)) ?_ | refine bct (nf (by assumption)) ?_ | refine row_in (at_rows hj) ?_ | refine known bv (hkid j hj) hh ?_ | (exact ih _ _ (wrS (by omega)) e))
  ·have q1:ltI (ks.length:Int) (lenL (rows ks))=false:=by rw [len_rows,ltI_f]; omega
   rw [List.take_length] at hI
   subst hI
   refine loop_intro hX ?_
   rcases r10 o with rfl | rfl | rfl | rfl | rfl | rfl | rfl | rfl | rfl | rfl | ⟨n1,n2,n3,n4,n5,n6,n7,n8,n9,n10⟩
   rotate_right
   ·have e1:eqI o 1=false:=eqI_f.2 n1
    have e3:eqI o 3=false:=eqI_f.2 n3
    have e4:eqI o 4=false:=eqI_f.2 n4
    have e5:eqI o 5=false:=eqI_f.2 n5
    have e6:eqI o 6=false:=eqI_f.2 n6
    have e7:eqI o 7=false:=eqI_f.2 n7
    have e8:eqI o 8=false:=eqI_f.2 n8
    have e9:eqI o 9=false:=eqI_f.2 n9
    have e10:eqI o 10=false:=eqI_f.2 n10
    repeat' ((conv=>whnf); first | exact hQ | refine eqv_id ?_ | refine Two.l ?_ | refine ⟨by kernel_rfl,?_⟩ | refine bct (by assumption) ?_ | refine bcf (by assumption) ?_ | refine bcf (nt (by assumption)) ?_ | refine bct (nf (by assumption)) ?_ | (refine Qb hQ ?_; unfold has0; simp [*]; done))
   rotate_right
   ·by_cases h0:0 < ks.length
    ·have q1:eqI (lenL (rows ks)) 0=false:=by rw [len_rows,eqI_f]; omega
     have q2:lenB (rows ks) 0=true:=lenB_rows h0
     have q3:=at_rows h0
     repeat' ((conv=>whnf); first | exact hQ | refine eqv_id ?_ | refine Two.l ?_ | refine ⟨by kernel_rfl,?_⟩ | refine bct (by assumption) ?_ | refine bcf (by assumption) ?_ | refine bcf (nt (by assumption)) ?_ | refine bct (nf (by assumption)) ?_ | (refine Qb hQ ?_; unfold has0; simp [hasNot_cons h0]; done) | refine row_in q3 ?_ | refine hkid 0 h0 _ ?_)
    ·have q1:eqI (lenL (rows ks)) 0=true:=by rw [len_rows,eqI_t]; omega
     repeat' ((conv=>whnf); first | exact hQ | refine eqv_id ?_ | refine Two.l ?_ | refine ⟨by kernel_rfl,?_⟩ | refine bct (by assumption) ?_ | refine bcf (by assumption) ?_ | refine bcf (nt (by assumption)) ?_ | refine bct (nf (by assumption)) ?_ | (refine Qb hQ ?_; unfold has0; simp [hasNot_nil h0]; done))
   rotate_right
   ·repeat' ((conv=>whnf); first | exact hQ | refine eqv_id ?_ | refine Two.l ?_ | refine ⟨by kernel_rfl,?_⟩ | refine bct (by assumption) ?_ | refine bcf (by assumption) ?_ | refine bcf (nt (by assumption)) ?_ | refine bct (nf (by assumption)) ?_ | (refine Qb hQ ?_; unfold has0; simp [has_any_count,ltI]; done))
   rotate_right
   ·have e8:hasAll ks x=eqI ((ks.countP fun k=>hasP k x:Nat):Int) (lenL (rows ks)):=by
     rw [has_all_count,len_rows]; unfold eqI; rw [Bool.eq_iff_iff,decide_eq_true_iff,beq_iff_eq]; omega
    repeat' ((conv=>whnf); first | exact hQ | refine eqv_id ?_ | refine Two.l ?_ | refine ⟨by kernel_rfl,?_⟩ | refine bct (by assumption) ?_ | refine bcf (by assumption) ?_ | refine bcf (nt (by assumption)) ?_ | refine bct (nf (by assumption)) ?_ | (refine Qb hQ ?_; unfold has0; simp [e8]; done))
   rotate_right
   ·repeat' ((conv=>whnf); first | exact hQ | refine eqv_id ?_ | refine Two.l ?_ | refine ⟨by kernel_rfl,?_⟩ | refine bct (by assumption) ?_ | refine bcf (by assumption) ?_ | refine bcf (nt (by assumption)) ?_ | refine bct (nf (by assumption)) ?_ | (refine Qb hQ ?_; unfold has0; simp_all [nearB_eq2]; done) | refine ref_far_ok hX ?_ | refine bc (fun _=>?_) (fun _=>?_))
   all_goals
    repeat' ((conv=>whnf); first | exact hQ | refine eqv_id ?_ | refine Two.l ?_ | refine ⟨by kernel_rfl,?_⟩ | refine bct (by assumption) ?_ | refine bcf (by assumption) ?_ | refine bcf (nt (by assumption)) ?_ | refine bct (nf (by assumption)) ?_ | (refine Qb hQ ?_; unfold has0; simp; done) | refine begins_ok hX htx ?_)
end Go.Proofs.YtidkmoohgadjkaaGreat
set_option maxHeartbeats 4000000
namespace Go.Proofs.YtidkmoohgadjkaaGreat
open Go E Pred
def leafB (p q:Pred):Bool:=eqI p.op q.op &&
 (if p.op=5 then leI p.n q.n else if p.op=6 then leI q.n p.n else if p.op=4 then prefB p.text q.text else if p.op=7 then ((eqFl .f64 p.re q.re&&eqFl .f64 p.im q.im)&&leI p.n q.n) else false)
theorem leaf_pred_ok {X:Task→Prop} (hX:Closed X) {p q:Pred} {Q:A→List Blk→Prop} (hQ:Q (bv (leafB p q)) []):X (.call 234 [p.a,q.a] [] Q):=by
 refine call_intro hX Tryz.func234 rfl rfl ?_
 repeat' ((conv=>whnf); first | exact hQ | refine eqv_id ?_ | refine Two.l ?_ | refine ⟨by kernel_rfl,?_⟩ | refine bct (by assumption) ?_ | refine bcf (by assumption) ?_ | refine bcf (nt (by assumption)) ?_ | refine bct (nf (by assumption)) ?_ | (refine Qb hQ ?_; unfold leafB; simp_all [eqI]; done) | refine hasPrefix_ok hX ?_ | refine bc (fun _=>?_) (fun _=>?_))
def seenF:Nat→Pred→Pred→Bool
 | 0,_,_=>false
 | N + 1,p,q=>((eqI q.op 1 || eqI p.op 2) || (sameP p q || leafB p q)) ||
   ((eqI p.op 9&&!(p.kids.any fun k=>!seenF N k q)) || ((eqI q.op 8&&!(q.kids.any fun k=>!seenF N p k)) || ((eqI p.op 8&&p.kids.any fun k=>seenF N k q) || ((eqI q.op 9&&q.kids.any fun k=>seenF N p k) ||
    (eqI p.op 10&&(eqI q.op 10&&(match q.kids,p.kids with | k::_,m::_=>seenF N k m | _,_=>false)))))))
section
variable {X:Task→Prop} (hX:Closed X) {k p q:Pred} {b:Bool} {Q:A→List Blk→Prop}
include hX
theorem within_rp (hk:∀ Q':A→List Blk→Prop,Q' (bv b) []→X (.call 207 [k.a,q.a] [] Q')) (hQ:Q (bv b) []):X (.call 235 [k.a,.one (.rp [ip q.op,.v (.string q.text),ip q.n,.v (.complex .f64 q.re q.im),.sl (rows q.kids)])] [] Q):=by
 refine call_intro hX Tryz.func235 rfl rfl ?_
 repeat' ((conv=>whnf); first | exact hQ | refine eqv_id ?_ | refine Two.l ?_ | refine ⟨by kernel_rfl,?_⟩ | refine bct (by assumption) ?_ | refine bcf (by assumption) ?_ | refine bcf (nt (by assumption)) ?_ | refine bct (nf (by assumption)) ?_ | refine hk _ ?_)
theorem beside_rp (hk:∀ Q':A→List Blk→Prop,Q' (bv b) []→X (.call 207 [k.a,q.a] [] Q')) (hQ:Q (bv (!b)) []):X (.call 236 [k.a,.one (.rp [ip q.op,.v (.string q.text),ip q.n,.v (.complex .f64 q.re q.im),.sl (rows q.kids)])] [] Q):=by
 refine call_intro hX Tryz.func236 rfl rfl ?_
 repeat' ((conv=>whnf); first | exact hQ | refine eqv_id ?_ | refine Two.l ?_ | refine ⟨by kernel_rfl,?_⟩ | refine bct (by assumption) ?_ | refine bcf (by assumption) ?_ | refine bcf (nt (by assumption)) ?_ | refine bct (nf (by assumption)) ?_ | refine hk _ ?_)
theorem over_rp (hk:∀ Q':A→List Blk→Prop,Q' (bv b) []→X (.call 207 [p.a,k.a] [] Q')) (hQ:Q (bv b) []):X (.call 237 [k.a,.one (.rp [ip p.op,.v (.string p.text),ip p.n,.v (.complex .f64 p.re p.im),.sl (rows p.kids)])] [] Q):=by
 refine call_intro hX Tryz.func237 rfl rfl ?_
 repeat' ((conv=>whnf); first | exact hQ | refine eqv_id ?_ | refine Two.l ?_ | refine ⟨by kernel_rfl,?_⟩ | refine bct (by assumption) ?_ | refine bcf (by assumption) ?_ | refine bcf (nt (by assumption)) ?_ | refine bct (nf (by assumption)) ?_ | refine hk _ ?_)
theorem under_rp (hk:∀ Q':A→List Blk→Prop,Q' (bv b) []→X (.call 207 [p.a,k.a] [] Q')) (hQ:Q (bv (!b)) []):X (.call 238 [k.a,.one (.rp [ip p.op,.v (.string p.text),ip p.n,.v (.complex .f64 p.re p.im),.sl (rows p.kids)])] [] Q):=by
 refine call_intro hX Tryz.func238 rfl rfl ?_
 repeat' ((conv=>whnf); first | exact hQ | refine eqv_id ?_ | refine Two.l ?_ | refine ⟨by kernel_rfl,?_⟩ | refine bct (by assumption) ?_ | refine bcf (by assumption) ?_ | refine bcf (nt (by assumption)) ?_ | refine bct (nf (by assumption)) ?_ | refine hk _ ?_)
end
theorem fits_kid {p:Pred} (h:fitsP p=true) {j:Nat} (hj:j < p.kids.length):fitsP p.kids[j]=true:=by
 rw [fitsP_eq,Bool.and_eq_true] at h; exact fitsL_mem h.2 (List.getElem_mem hj)
theorem fits_ten {p:Pred} (h:fitsP p=true) (ho:p.op=10):∃ k,p.kids=[k]:=by
 rw [fitsP_eq,Bool.and_eq_true,ho] at h
 have h1:=h.1
 unfold partB at h1
 simp [len_rows,eqI] at h1
 match hk:p.kids,h1 with
 | [k],_=>exact ⟨k,rfl⟩
 | [],h1=>simp [hk] at h1
 | _::_::_,h1=>simp [hk] at h1; omega
theorem in_ok {X:Task→Prop} (hX:Closed X):∀ (N:Nat) {p q:Pred} {Q:A→List Blk→Prop},p.size + q.size≤N→p.Ok→q.Ok→fitsP p=true→fitsP q=true→Q (bv (seenF N p q)) []→X (.call 207 [p.a,q.a] [] Q)
 | 0,p,_,_,h,_,_,_,_,_=>absurd h (by have:=size_pos p; omega)
 | N + 1,p,q,Q,h,op,oq,fp,fq,hQ=>by
  have hlp:=op.len
  have hlq:=oq.len
  have hkp:∀ (j:Nat) (hj:j < p.kids.length) (Q':A→List Blk→Prop),Q' (bv (seenF N p.kids[j] q)) []→X (.call 207 [p.kids[j].a,q.a] [] Q'):=fun j hj Q' hQ'=>in_ok hX N (by have:=size_kid hj; omega) (op.kid hj) oq (fits_kid fp hj) fq hQ'
  have hkq:∀ (j:Nat) (hj:j < q.kids.length) (Q':A→List Blk→Prop),Q' (bv (seenF N p q.kids[j])) []→X (.call 207 [p.a,q.kids[j].a] [] Q'):=fun j hj Q' hQ'=>in_ok hX N (by have:=size_kid hj; omega) op (oq.kid hj) fp (fits_kid fq hj) hQ'
  unfold seenF at hQ
  refine call_intro hX Tryz.func207 rfl rfl ?_
  by_cases h10:p.op=10∧q.op=10
  ·obtain ⟨k,hk⟩:=fits_ten fq h10.2
   obtain ⟨m,hm⟩:=fits_ten fp h10.1
   have hqk:0 < q.kids.length:=by rw [hk]; simp
   have hpk:0 < p.kids.length:=by rw [hm]; simp
   have r1:lenB (rows q.kids) 0=true:=lenB_rows hqk
   have r2:lenB (rows p.kids) 0=true:=lenB_rows hpk
   have r3:=at_rows hqk
   have r4:=at_rows hpk
   have e1:eqI p.op 1=false:=by rw [h10.1]; rfl
   have e2:eqI p.op 2=false:=by rw [h10.1]; rfl
   have e8:eqI p.op 8=false:=by rw [h10.1]; rfl
   have e9:eqI p.op 9=false:=by rw [h10.1]; rfl
   have e10:eqI p.op 10=true:=by rw [h10.1]; rfl
   have g1:eqI q.op 1=false:=by rw [h10.2]; rfl
   have g8:eqI q.op 8=false:=by rw [h10.2]; rfl
   have g9:eqI q.op 9=false:=by rw [h10.2]; rfl
   have g10:eqI q.op 10=true:=by rw [h10.2]; rfl
   rw [e2,e8,e9,e10,g1,g8,g9,g10] at hQ
   have hrec:∀ (Q':A→List Blk→Prop),Q' (bv (seenF N q.kids[0] p.kids[0])) []→X (.call 207 [q.kids[0].a,p.kids[0].a] [] Q'):=fun Q' hQ'=>in_ok hX N (by have:=size_kid hqk; have:=size_kid hpk; omega) (oq.kid hqk) (op.kid hpk) (fits_kid fq hqk) (fits_kid fp hpk) hQ'
   have hv:(match q.kids,p.kids with | k::_,m::_=>seenF N k m | _,_=>false)=seenF N q.kids[0] p.kids[0]:=by simp only [hk,hm]; rfl
   rw [hv] at hQ
   simp only [Bool.false_or,Bool.false_and,Bool.true_and] at hQ
   repeat' ((conv=>whnf); first | exact hQ | refine eqv_id ?_ | refine Two.l ?_ | refine ⟨by kernel_rfl,?_⟩ | refine bct (by assumption) ?_ | refine bcf (by assumption) ?_ | refine bcf (nt (by assumption)) ?_ | refine bct (nf (by assumption)) ?_ | (refine Qb hQ ?_; simp_all; done) | (refine psame_ok hX p.size (p:=p) (q:=q) (Nat.le_refl _) op ?_) | refine leaf_pred_ok hX ?_ | refine row_in r3 ?_ | refine row_in r4 ?_ | refine hrec _ ?_ | refine bc (fun _=>?_) (fun _=>?_))
  ·have hz:(eqI p.op 10&&(eqI q.op 10&&(match q.kids,p.kids with | k::_,m::_=>seenF N k m | _,_=>false)))=false:=by
    by_cases h1:p.op=10
    ·rw [show eqI q.op 10=false from eqI_f.2 fun h2=>h10 ⟨h1,h2⟩]; simp
    ·rw [show eqI p.op 10=false from eqI_f.2 h1]; simp
   have hz2:eqI p.op 10=true→eqI q.op 10=false:=fun h1=>eqI_f.2 fun h2=>h10 ⟨eqI_t.1 h1,h2⟩
   rw [hz,Bool.or_false] at hQ
   repeat' ((conv=>whnf); first | exact hQ | refine eqv_id ?_ | refine Two.l ?_ | refine ⟨by kernel_rfl,?_⟩ | refine bct (by assumption) ?_ | refine bcf (by assumption) ?_ | refine bcf (nt (by assumption)) ?_ | refine bct (nf (by assumption)) ?_ | (refine Qb hQ ?_; simp_all; done) | (refine psame_ok hX p.size (p:=p) (q:=q) (Nat.le_refl _) op ?_) | refine leaf_pred_ok hX ?_ | refine Or.inr (Or.inl ?_) | (refine containsFunc_ok hX (P:=fun k=>!seenF N k q) hlp (fun j hj Q' hQ'=>beside_rp hX (hkp j hj) hQ') ?_) | (refine containsFunc_ok hX (P:=fun k=>!seenF N p k) hlq (fun j hj Q' hQ'=>under_rp hX (hkq j hj) hQ') ?_) | (refine containsFunc_ok hX (P:=fun k=>seenF N k q) hlp (fun j hj Q' hQ'=>within_rp hX (hkp j hj) hQ') ?_) | (refine containsFunc_ok hX (P:=fun k=>seenF N p k) hlq (fun j hj Q' hQ'=>over_rp hX (hkq j hj) hQ') ?_) | refine bcf (hz2 (by assumption)) ?_ | refine bc (fun _=>?_) (fun _=>?_))
end Go.Proofs.YtidkmoohgadjkaaGreat
set_option maxHeartbeats 4000000
namespace Go.Proofs.YtidkmoohgadjkaaGreat
open Go E Pred
structure AS where
 a:Bool
 s:Bool
end Go.Proofs.YtidkmoohgadjkaaGreat
set_option maxHeartbeats 4000000
namespace Go.Proofs.YtidkmoohgadjkaaGreat
open Go E Pred
def inP (p q:Pred):Bool:=mayP p&&(mayP q&&seenF (p.size + q.size) p q)
theorem cin_ok {X:Task→Prop} (hX:Closed X) {p q:Pred} {Q:A→List Blk→Prop} (op:p.Ok) (oq:q.Ok) (hQ:Q (bv (inP p q)) []):X (.call 159 [p.a,q.a] [] Q):=by
 unfold inP at hQ
 refine call_intro hX Tryz.func159 rfl rfl ?_
 cases mp:mayP p with
 | false =>
  rw [mp] at hQ
  repeat' ((conv=>whnf); first | exact hQ | refine eqv_id ?_ | refine Two.l ?_ | refine ⟨by kernel_rfl,?_⟩ | refine bct (by assumption) ?_ | refine bcf (by assumption) ?_ | refine bcf (nt (by assumption)) ?_ | refine bct (nf (by assumption)) ?_ | refine known bv (fun _ h=>may_pred_ok hX op h) mp ?_)
 | true =>
  cases mq:mayP q with
  | false =>
   rw [mp,mq] at hQ
   repeat' ((conv=>whnf); first | exact hQ | refine eqv_id ?_ | refine Two.l ?_ | refine ⟨by kernel_rfl,?_⟩ | refine bct (by assumption) ?_ | refine bcf (by assumption) ?_ | refine bcf (nt (by assumption)) ?_ | refine bct (nf (by assumption)) ?_ | refine known bv (fun _ h=>may_pred_ok hX op h) mp ?_ | refine known bv (fun _ h=>may_pred_ok hX oq h) mq ?_)
  | true =>
   rw [mp,mq,Bool.true_and,Bool.true_and] at hQ
   repeat' ((conv=>whnf); first | exact hQ | refine eqv_id ?_ | refine Two.l ?_ | refine ⟨by kernel_rfl,?_⟩ | refine bct (by assumption) ?_ | refine bcf (by assumption) ?_ | refine bcf (nt (by assumption)) ?_ | refine bct (nf (by assumption)) ?_ | refine known bv (fun _ h=>may_pred_ok hX op h) mp ?_ | refine known bv (fun _ h=>may_pred_ok hX oq h) mq ?_ | refine in_ok hX _ (Nat.le_refl _) op oq (mayP_iff.1 mp).2.2 (mayP_iff.1 mq).2.2 ?_)
attribute [irreducible] inP
end Go.Proofs.YtidkmoohgadjkaaGreat
namespace Go.Proofs.YtidkmoohgadjkaaGreat
open Go E Pred
theorem sameP_iff (p q:Pred):sameP p q=true↔p.op=q.op∧bytesOf p.text=bytesOf q.text∧p.n=q.n∧(eqFl .f64 p.re q.re=true∧eqFl .f64 p.im q.im=true)∧sameL p.kids q.kids=true:=by
 rw [sameP_eq]; simp only [Bool.and_eq_true,eqI_t,eqS_iff]
theorem sameL_nil:sameL [] []=true:=by rw [sameL]
abbrev bare (o:Int) (ks:List Pred):Pred:=.mk o ⟨#[]⟩ 0 0 0 ks
def addP (none:Int) (acc:List Pred) (k:Pred):List Pred:=if !eqI k.op none&&!(acc.any fun o=>sameP k o) then acc++[k] else acc
def flatP (o:Int):List Pred→List Pred
 | []=>[]
 | k::ks=>(if eqI k.op o then k.kids else [k])++flatP o ks
theorem eqFl_zero:eqFl .f64 0 0=true:=by kernel_rfl
theorem bare_self (o:Int):sameP (bare o []) (bare o [])=true:=(sameP_iff _ _).2 ⟨rfl,rfl,rfl,⟨eqFl_zero,eqFl_zero⟩,sameL_nil⟩
structure Plainly (p:Pred):Prop where
 text:bytesOf p.text=bytesOf ⟨#[]⟩
 n:p.n=0
 re:eqFl .f64 p.re 0=true
 im:eqFl .f64 p.im 0=true
end Go.Proofs.YtidkmoohgadjkaaGreat
set_option maxHeartbeats 4000000
namespace Go.Proofs.YtidkmoohgadjkaaGreat
open Go E Pred
section
variable {X:Task→Prop} (hX:Closed X) {k:Pred} {none:Int} {acc:List Pred} {kk:Nat} {Q:A→List Blk→Prop}
include hX
end
end Go.Proofs.YtidkmoohgadjkaaGreat
namespace Go.Proofs.YtidkmoohgadjkaaGreat
open Go E Pred
noncomputable section
open Classical
theorem eq8_b {a b:V8} {v:Bool} (h:eq8 a b=v):andB (eqI a.x0 b.x0) (andB (eqI a.x1 b.x1) (andB (eqI a.x2 b.x2) (andB (eqI a.x3 b.x3) (andB (eqI a.x4 b.x4) (andB (eqI a.x5 b.x5) (andB (eqI a.x6 b.x6) (andB (eqI a.x7 b.x7) true)))))))=v:=h
def ref06_Count_s (a:V8) (b:Int):Option Int:=some (V8.at a b)
theorem ref06_Count_c {X:Task→Prop} (hX:Closed X) {a:V8} {b:Int} {r:Int} {Q:A→List Blk→Prop} (h:ref06_Count_s a b=some r) (hQ:Q (iv r) []):X (.call 157 [.agg [ic a.x0,ic a.x1,ic a.x2,ic a.x3,ic a.x4,ic a.x5,ic a.x6,ic a.x7],iv b] [] Q):=by
 unfold ref06_Count_s at h
 injection h with h
 subst h
 exact count_ok hX hQ
def ref06_HasVec_s (a:V8) (b:Ver):Option Bool:=some (hasV a b.r b.c)
theorem ref06_HasVec_c {X:Task→Prop} (hX:Closed X) {a:V8} {b:Ver} {r:Bool} {Q:A→List Blk→Prop} (h:ref06_HasVec_s a b=some r) (hQ:Q (.one (.p (.v (.bool r)))) []):X (.call 88 [.agg [ic a.x0,ic a.x1,ic a.x2,ic a.x3,ic a.x4,ic a.x5,ic a.x6,ic a.x7],.agg [ic b.r,ic b.c]] [] Q):=by
 unfold ref06_HasVec_s at h
 injection h with h
 subst h
 exact hasVec_ok hX hQ
def ref06_MayVec_s (a:V8):Option Bool:=some (mayV a)
theorem ref06_MayVec_c {X:Task→Prop} (hX:Closed X) {a:V8} {r:Bool} {Q:A→List Blk→Prop} (h:ref06_MayVec_s a=some r) (hQ:Q (.one (.p (.v (.bool r)))) []):X (.call 154 [.agg [ic a.x0,ic a.x1,ic a.x2,ic a.x3,ic a.x4,ic a.x5,ic a.x6,ic a.x7]] [] Q):=by
 unfold ref06_MayVec_s at h
 injection h with h
 subst h
 exact mayVec_ok hX hQ
def ref06_Max_s (a:V8) (b:V8):Option V8:=some (maxV a b)
theorem ref06_Max_c {X:Task→Prop} (hX:Closed X) {a:V8} {b:V8} {r:V8} {Q:A→List Blk→Prop} (h:ref06_Max_s a b=some r) (hQ:Q (.agg [ic r.x0,ic r.x1,ic r.x2,ic r.x3,ic r.x4,ic r.x5,ic r.x6,ic r.x7]) []):X (.call 191 [.agg [ic a.x0,ic a.x1,ic a.x2,ic a.x3,ic a.x4,ic a.x5,ic a.x6,ic a.x7],.agg [ic b.x0,ic b.x1,ic b.x2,ic b.x3,ic b.x4,ic b.x5,ic b.x6,ic b.x7]] [] Q):=by
 unfold ref06_Max_s at h
 injection h with h
 subst h
 exact refMax_ok hX hQ
def vec_Has_s (a:V8) (b:Ver):Option Bool:=some (hasV a b.r b.c)
theorem vec_Has_c {X:Task→Prop} (hX:Closed X) {a:V8} {b:Ver} {r:Bool} {Q:A→List Blk→Prop} (h:vec_Has_s a b=some r) (hQ:Q (.one (.p (.v (.bool r)))) []):X (.call 109 [.agg [ic a.x0,ic a.x1,ic a.x2,ic a.x3,ic a.x4,ic a.x5,ic a.x6,ic a.x7],.agg [ic b.r,ic b.c]] [] Q):=by
 unfold vec_Has_s at h
 injection h with h
 subst h
 exact vhas_ok hX hQ
def vec_Max_s (a:V8) (b:V8):Option V8:=some (maxV a b)
theorem vec_Max_c {X:Task→Prop} (hX:Closed X) {a:V8} {b:V8} {r:V8} {Q:A→List Blk→Prop} (h:vec_Max_s a b=some r) (hQ:Q (.agg [ic r.x0,ic r.x1,ic r.x2,ic r.x3,ic r.x4,ic r.x5,ic r.x6,ic r.x7]) []):X (.call 189 [.agg [ic a.x0,ic a.x1,ic a.x2,ic a.x3,ic a.x4,ic a.x5,ic a.x6,ic a.x7],.agg [ic b.x0,ic b.x1,ic b.x2,ic b.x3,ic b.x4,ic b.x5,ic b.x6,ic b.x7]] [] Q):=by
 unfold vec_Max_s at h
 injection h with h
 subst h
 exact vmax_ok hX hQ
def vec_May_s (a:V8):Option Bool:=some (mayV a)
theorem vec_May_c {X:Task→Prop} (hX:Closed X) {a:V8} {r:Bool} {Q:A→List Blk→Prop} (h:vec_May_s a=some r) (hQ:Q (.one (.p (.v (.bool r)))) []):X (.call 143 [.agg [ic a.x0,ic a.x1,ic a.x2,ic a.x3,ic a.x4,ic a.x5,ic a.x6,ic a.x7]] [] Q):=by
 unfold vec_May_s at h
 injection h with h
 subst h
 exact vmay_ok hX hQ
def item_Name_s (a:ByteArray):Option Bool:=chk (decide (a.size≤9223372036854775807)) (some (lettersB a 1))
theorem item_Name_c {X:Task→Prop} (hX:Closed X) {a:ByteArray} {r:Bool} {Q:A→List Blk→Prop} (h:item_Name_s a=some r) (hQ:Q (.one (.p (.v (.bool r)))) []):X (.call 147 [.one (.p (.v (.string a)))] [] Q):=by
 unfold item_Name_s at h
 obtain ⟨d1,h⟩:=chk_some h
 have c1:=of_decide_eq_true d1
 injection h with h
 subst h
 exact name_ok hX c1 hQ
def ref01_Name_s (a:ByteArray):Option Bool:=chk (decide (a.size≤9223372036854775807)) (some (lettersB a 1))
theorem ref01_Name_c {X:Task→Prop} (hX:Closed X) {a:ByteArray} {r:Bool} {Q:A→List Blk→Prop} (h:ref01_Name_s a=some r) (hQ:Q (.one (.p (.v (.bool r)))) []):X (.call 78 [.one (.p (.v (.string a)))] [] Q):=by
 unfold ref01_Name_s at h
 obtain ⟨d1,h⟩:=chk_some h
 have c1:=of_decide_eq_true d1
 injection h with h
 subst h
 exact rname_ok hX c1 hQ
def item_May_s (a:Item):Option Bool:=chk (decide (a.Ok)) (some (mayI a))
theorem item_May_c {X:Task→Prop} (hX:Closed X) {a:Item} {r:Bool} {Q:A→List Blk→Prop} (h:item_May_s a=some r) (hQ:Q (.one (.p (.v (.bool r)))) []):X (.call 94 [.agg [.p (.v (.string a.id)),ic a.vr,ic a.vc,ic a.stamp,.p (.v (.string a.kind)),ic a.num,.p (.v (.complex .f64 a.re a.im)),.p (.v (.bool a.dead))]] [] Q):=by
 unfold item_May_s at h
 obtain ⟨d1,h⟩:=chk_some h
 have c1:=of_decide_eq_true d1
 injection h with h
 subst h
 exact may_item_ok hX c1 hQ
def ref01_May_s (a:Item):Option Bool:=chk (decide (a.Ok)) (some (mayI a))
theorem ref01_May_c {X:Task→Prop} (hX:Closed X) {a:Item} {r:Bool} {Q:A→List Blk→Prop} (h:ref01_May_s a=some r) (hQ:Q (.one (.p (.v (.bool r)))) []):X (.call 100 [.agg [.p (.v (.string a.id)),ic a.vr,ic a.vc,ic a.stamp,.p (.v (.string a.kind)),ic a.num,.p (.v (.complex .f64 a.re a.im)),.p (.v (.bool a.dead))]] [] Q):=by
 unfold ref01_May_s at h
 obtain ⟨d1,h⟩:=chk_some h
 have c1:=of_decide_eq_true d1
 injection h with h
 subst h
 exact rmay_item_ok hX c1 hQ
def item_Compare_s (a:Item) (b:Item):Option Int:=some (compareV a b)
theorem item_Compare_c {X:Task→Prop} (hX:Closed X) {a:Item} {b:Item} {r:Int} {Q:A→List Blk→Prop} (h:item_Compare_s a b=some r) (hQ:Q (iv r) []):X (.call 96 [.agg [.p (.v (.string a.id)),ic a.vr,ic a.vc,ic a.stamp,.p (.v (.string a.kind)),ic a.num,.p (.v (.complex .f64 a.re a.im)),.p (.v (.bool a.dead))],.agg [.p (.v (.string b.id)),ic b.vr,ic b.vc,ic b.stamp,.p (.v (.string b.kind)),ic b.num,.p (.v (.complex .f64 b.re b.im)),.p (.v (.bool b.dead))]] [] Q):=by
 unfold item_Compare_s at h
 injection h with h
 subst h
 exact compare_ok hX hQ
def ref01_Behind_s (a:Item) (b:Item):Option Bool:=some (behindB a b)
theorem ref01_Behind_c {X:Task→Prop} (hX:Closed X) {a:Item} {b:Item} {r:Bool} {Q:A→List Blk→Prop} (h:ref01_Behind_s a b=some r) (hQ:Q (.one (.p (.v (.bool r)))) []):X (.call 42 [.agg [.p (.v (.string a.id)),ic a.vr,ic a.vc,ic a.stamp,.p (.v (.string a.kind)),ic a.num,.p (.v (.complex .f64 a.re a.im)),.p (.v (.bool a.dead))],.agg [.p (.v (.string b.id)),ic b.vr,ic b.vc,ic b.stamp,.p (.v (.string b.kind)),ic b.num,.p (.v (.complex .f64 b.re b.im)),.p (.v (.bool b.dead))]] [] Q):=by
 unfold ref01_Behind_s at h
 injection h with h
 subst h
 exact behind_ok hX hQ
def ref01_Same_s (a:Item) (b:Item):Option Bool:=some (sameI a b)
def law00_Item_s (a:Item):Option Item:=some (a)
theorem law00_Item_c {X:Task→Prop} (hX:Closed X) {a:Item} {r:Item} {Q:A→List Blk→Prop} (h:law00_Item_s a=some r) (hQ:Q (.agg [.p (.v (.string r.id)),ic r.vr,ic r.vc,ic r.stamp,.p (.v (.string r.kind)),ic r.num,.p (.v (.complex .f64 r.re r.im)),.p (.v (.bool r.dead))]) []):X (.call 32 [.agg [.p (.v (.string a.id)),ic a.vr,ic a.vc,ic a.stamp,.p (.v (.string a.kind)),ic a.num,.p (.v (.float .f64 a.re)),.p (.v (.float .f64 a.im)),.p (.v (.bool a.dead))]] [] Q):=by
 unfold law00_Item_s at h
 injection h with h
 subst h
 exact item_ok hX hQ
def law00_Small_s (a:Pred):Option Int:=chk (decide (a.Ok)) (some (if a.size≤60 then 1 else 0))
theorem law00_Small_c {X:Task→Prop} (hX:Closed X) {a:Pred} {r:Int} {Q:A→List Blk→Prop} (h:law00_Small_s a=some r) (hQ:Q (iv r) []):X (.call 44 [.agg [ic a.op,.p (.v (.string a.text)),ic a.n,.p (.v (.float .f64 a.re)),.p (.v (.float .f64 a.im)),.p (.sl (Pred.lrows a.kids))]] [] Q):=by
 unfold law00_Small_s at h
 obtain ⟨d1,h⟩:=chk_some h
 have c1:=of_decide_eq_true d1
 injection h with h
 subst h
 exact small_ok hX c1 hQ
def law00_Pred_s (a:Pred):Option Pred:=chk (decide (a.size≤1000)) (chk (decide (a.Ok)) (some (a)))
theorem law00_Pred_c {X:Task→Prop} (hX:Closed X) {a:Pred} {r:Pred} {Q:A→List Blk→Prop} (h:law00_Pred_s a=some r) (hQ:Q (.agg [ic r.op,.p (.v (.string r.text)),ic r.n,.p (.v (.complex .f64 r.re r.im)),.p (.sl (Pred.rows r.kids))]) []):X (.call 46 [.agg [ic a.op,.p (.v (.string a.text)),ic a.n,.p (.v (.float .f64 a.re)),.p (.v (.float .f64 a.im)),.p (.sl (Pred.lrows a.kids))]] [] Q):=by
 unfold law00_Pred_s at h
 obtain ⟨d1,h⟩:=chk_some h
 have c1:=of_decide_eq_true d1
 obtain ⟨d2,h⟩:=chk_some h
 have c2:=of_decide_eq_true d2
 injection h with h
 subst h
 exact lpred_ok hX _ (Nat.le_refl _) c1 c2 hQ
def ref03_Same_s (a:Pred) (b:Pred):Option Bool:=chk (decide (a.Ok)) (some (sameP a b))
def pred_May_s (a:Pred):Option Bool:=chk (decide (a.Ok)) (some (mayP a))
theorem pred_May_c {X:Task→Prop} (hX:Closed X) {a:Pred} {r:Bool} {Q:A→List Blk→Prop} (h:pred_May_s a=some r) (hQ:Q (.one (.p (.v (.bool r)))) []):X (.call 72 [.agg [ic a.op,.p (.v (.string a.text)),ic a.n,.p (.v (.complex .f64 a.re a.im)),.p (.sl (Pred.rows a.kids))]] [] Q):=by
 unfold pred_May_s at h
 obtain ⟨d1,h⟩:=chk_some h
 have c1:=of_decide_eq_true d1
 injection h with h
 subst h
 exact may_pred_ok hX c1 hQ
def ref03_May_s (a:Pred):Option Bool:=chk (decide (a.size≤1000)) (chk (decide (a.Ok)) (some (mayP a)))
theorem ref03_May_c {X:Task→Prop} (hX:Closed X) {a:Pred} {r:Bool} {Q:A→List Blk→Prop} (h:ref03_May_s a=some r) (hQ:Q (.one (.p (.v (.bool r)))) []):X (.call 76 [.agg [ic a.op,.p (.v (.string a.text)),ic a.n,.p (.v (.complex .f64 a.re a.im)),.p (.sl (Pred.rows a.kids))]] [] Q):=by
 unfold ref03_May_s at h
 obtain ⟨d1,h⟩:=chk_some h
 have c1:=of_decide_eq_true d1
 obtain ⟨d2,h⟩:=chk_some h
 have c2:=of_decide_eq_true d2
 injection h with h
 subst h
 exact rmay_pred_ok hX c1 c2 hQ
def eval_Has_s (a:Pred) (b:Item):Option Bool:=chk (decide (a.Ok)) (chk (decide (b.Ok)) (some (hasP a b)))
theorem eval_Has_c {X:Task→Prop} (hX:Closed X) {a:Pred} {b:Item} {r:Bool} {Q:A→List Blk→Prop} (h:eval_Has_s a b=some r) (hQ:Q (.one (.p (.v (.bool r)))) []):X (.call 69 [.agg [ic a.op,.p (.v (.string a.text)),ic a.n,.p (.v (.complex .f64 a.re a.im)),.p (.sl (Pred.rows a.kids))],.agg [.p (.v (.string b.id)),ic b.vr,ic b.vc,ic b.stamp,.p (.v (.string b.kind)),ic b.num,.p (.v (.complex .f64 b.re b.im)),.p (.v (.bool b.dead))]] [] Q):=by
 unfold eval_Has_s at h
 obtain ⟨d1,h⟩:=chk_some h
 have c1:=of_decide_eq_true d1
 obtain ⟨d2,h⟩:=chk_some h
 have c2:=of_decide_eq_true d2
 injection h with h
 subst h
 exact has_ok hX _ (Nat.le_refl _) c1 c2 hQ
def ref03_Has_s (a:Pred) (b:Item):Option Bool:=chk (decide (a.Ok)) (chk (decide (b.Ok)) (some (hasP a b)))
theorem ref03_Has_c {X:Task→Prop} (hX:Closed X) {a:Pred} {b:Item} {r:Bool} {Q:A→List Blk→Prop} (h:ref03_Has_s a b=some r) (hQ:Q (.one (.p (.v (.bool r)))) []):X (.call 28 [.agg [ic a.op,.p (.v (.string a.text)),ic a.n,.p (.v (.complex .f64 a.re a.im)),.p (.sl (Pred.rows a.kids))],.agg [.p (.v (.string b.id)),ic b.vr,ic b.vc,ic b.stamp,.p (.v (.string b.kind)),ic b.num,.p (.v (.complex .f64 b.re b.im)),.p (.v (.bool b.dead))]] [] Q):=by
 unfold ref03_Has_s at h
 obtain ⟨d1,h⟩:=chk_some h
 have c1:=of_decide_eq_true d1
 obtain ⟨d2,h⟩:=chk_some h
 have c2:=of_decide_eq_true d2
 injection h with h
 subst h
 exact rhas_ok hX _ (Nat.le_refl _) c1 c2 hQ
def contain_In_s (a:Pred) (b:Pred):Option Bool:=chk (decide (a.Ok)) (chk (decide (b.Ok)) (some (inP a b)))
theorem contain_In_c {X:Task→Prop} (hX:Closed X) {a:Pred} {b:Pred} {r:Bool} {Q:A→List Blk→Prop} (h:contain_In_s a b=some r) (hQ:Q (.one (.p (.v (.bool r)))) []):X (.call 159 [.agg [ic a.op,.p (.v (.string a.text)),ic a.n,.p (.v (.complex .f64 a.re a.im)),.p (.sl (Pred.rows a.kids))],.agg [ic b.op,.p (.v (.string b.text)),ic b.n,.p (.v (.complex .f64 b.re b.im)),.p (.sl (Pred.rows b.kids))]] [] Q):=by
 unfold contain_In_s at h
 obtain ⟨d1,h⟩:=chk_some h
 have c1:=of_decide_eq_true d1
 obtain ⟨d2,h⟩:=chk_some h
 have c2:=of_decide_eq_true d2
 injection h with h
 subst h
 exact cin_ok hX c1 c2 hQ
end
end Go.Proofs.YtidkmoohgadjkaaGreat
namespace Go.Proofs.YtidkmoohgadjkaaGreat
open Go E Go.Lib Go.RowKit
end Go.Proofs.YtidkmoohgadjkaaGreat
set_option maxHeartbeats 4000000
namespace Go.Proofs.YtidkmoohgadjkaaGreat.E
open Go Go.Lib Go.RowKit
noncomputable section
open Classical
end
end Go.Proofs.YtidkmoohgadjkaaGreat.E
namespace Go.Proofs.YtidkmoohgadjkaaGreat.E
open Go Go.Lib Go.RowKit
end Go.Proofs.YtidkmoohgadjkaaGreat.E
set_option maxHeartbeats 4000000
namespace Go.Proofs.YtidkmoohgadjkaaGreat.E
open Go Go.Lib Go.RowKit
end Go.Proofs.YtidkmoohgadjkaaGreat.E
namespace Go.Proofs.YtidkmoohgadjkaaGreat
open Go E
end Go.Proofs.YtidkmoohgadjkaaGreat
set_option maxHeartbeats 4000000
namespace Go.Proofs.YtidkmoohgadjkaaGreat
open Go.Shelf Go.RowKit Go.Maps Go.Sort
def keysL_ren:Go.Shelf.Ren:=⟨fun | 7=>201 | 10=>231 | n=>n,fun | 23=>228 | 26=>9 | 3=>28 | 28=>232 | 0=>0 | 27=>231 | 33=>141 | 4=>4 | n=>n,fun | n=>n⟩
theorem keysL:SlLaysZ.n7 Tryz.prog keysL_ren:={
 mixed:=by kernel_rfl
 f7:=⟨Tryz.f201.name,by decide,Tryz.func201.trans (congrArg some (by kernel_rfl))⟩
 f10:=⟨Tryz.f231.name,by decide,Tryz.func231.trans (congrArg some (by kernel_rfl))⟩
 t0:=Tryz.underlying0
 a0:=Tryz.isAgg0
 z0:=Tryz.sizeOf0
 v0:=Tryz.zeroValue0
 t4:=Tryz.underlying4
 a4:=Tryz.isAgg4
 z4:=Tryz.sizeOf4
 v4:=Tryz.zeroValue4
 t23:=Tryz.underlying228
 a23:=Tryz.isAgg228
 z23:=Tryz.sizeOf228
 v23:=Tryz.zeroValue228
 t26:=Tryz.underlying9
 a26:=Tryz.isAgg9
 z26:=Tryz.sizeOf9
 v26:=Tryz.zeroValue9
 t27:=Tryz.underlying231
 a27:=Tryz.isAgg231
 z27:=Tryz.sizeOf231
 v27:=Tryz.zeroValue231
 t28:=Tryz.underlying232
 a28:=Tryz.isAgg232
 z28:=Tryz.sizeOf232
 v28:=Tryz.zeroValue232
 t33:=Tryz.underlying141
 a33:=Tryz.isAgg141
 z33:=Tryz.sizeOf141
 v33:=Tryz.zeroValue141 }
def sortedL_ren:Go.Shelf.Ren:=⟨fun | 6=>200 | 8=>229 | 9=>230 | 11=>244 | 13=>246 | 12=>245 | 23=>260 | 24=>261 | 14=>251 | 15=>252 | 16=>253 | 17=>254 | 18=>255 | 19=>256 | 20=>257 | 21=>258 | 22=>259 | 25=>266 | 26=>267 | 27=>268 | 28=>269 | 29=>270 | 30=>240 | 31=>271 | n=>n,fun | 26=>9 | 28=>232 | 24=>151 | 0=>0 | 3=>3 | 37=>246 | 48=>268 | 50=>270 | 4=>4 | 40=>262 | 39=>261 | 45=>204 | 5=>5 | 9=>9 | 51=>274 | 55=>193 | 57=>279 | 58=>280 | 33=>141 | n=>n,fun | n=>n⟩
theorem sortedL:SlLaysZ.n6 Tryz.prog sortedL_ren:={
 mixed:=by kernel_rfl
 f6:=⟨Tryz.f200.name,by decide,Tryz.func200.trans (congrArg some (by kernel_rfl))⟩
 f8:=⟨Tryz.f229.name,by decide,Tryz.func229.trans (congrArg some (by kernel_rfl))⟩
 f11:=⟨Tryz.f244.name,by decide,Tryz.func244.trans (congrArg some (by kernel_rfl))⟩
 t0:=Tryz.underlying0
 a0:=Tryz.isAgg0
 z0:=Tryz.sizeOf0
 v0:=Tryz.zeroValue0
 t24:=Tryz.underlying151
 a24:=Tryz.isAgg151
 z24:=Tryz.sizeOf151
 v24:=Tryz.zeroValue151
 t26:=Tryz.underlying9
 a26:=Tryz.isAgg9
 z26:=Tryz.sizeOf9
 v26:=Tryz.zeroValue9
 t28:=Tryz.underlying232
 a28:=Tryz.isAgg232
 z28:=Tryz.sizeOf232
 v28:=Tryz.zeroValue232
 i26:=by kernel_rfl }
def sortL_ren:Go.Shelf.Ren:=⟨fun | 6=>230 | 8=>246 | 9=>245 | 19=>260 | 20=>261 | 21=>251 | 22=>252 | 23=>253 | 24=>254 | 25=>255 | 26=>256 | 27=>257 | 28=>258 | 29=>259 | 36=>266 | 31=>267 | 32=>268 | 37=>269 | 38=>270 | 39=>240 | 41=>271 | n=>n,fun | 27=>151 | 29=>9 | 3=>3 | 32=>246 | 26=>151 | 0=>0 | 44=>268 | 46=>270 | 4=>4 | 36=>262 | 35=>261 | 41=>204 | 5=>5 | 9=>9 | 53=>274 | 57=>193 | 63=>279 | 64=>280 | n=>n,fun | n=>n⟩
theorem sortL:SlLaysM.n6 Tryz.prog sortL_ren:={
 mixed:=by kernel_rfl
 f6:=⟨Tryz.f230.name,by decide,Tryz.func230.trans (congrArg some (by kernel_rfl))⟩
 f8:=Tryz.func246.trans (congrArg some (by kernel_rfl))
 f9:=⟨Tryz.f245.name,by decide,Tryz.func245.trans (congrArg some (by kernel_rfl))⟩
 f19:=Tryz.func260.trans (congrArg some (by kernel_rfl))
 f20:=Tryz.func261.trans (congrArg some (by kernel_rfl))
 f21:=⟨Tryz.f251.name,by decide,Tryz.func251.trans (congrArg some (by kernel_rfl))⟩
 f22:=⟨Tryz.f252.name,by decide,Tryz.func252.trans (congrArg some (by kernel_rfl))⟩
 f23:=⟨Tryz.f253.name,by decide,Tryz.func253.trans (congrArg some (by kernel_rfl))⟩
 f24:=⟨Tryz.f254.name,by decide,Tryz.func254.trans (congrArg some (by kernel_rfl))⟩
 f25:=⟨Tryz.f255.name,by decide,Tryz.func255.trans (congrArg some (by kernel_rfl))⟩
 f26:=⟨Tryz.f256.name,by decide,Tryz.func256.trans (congrArg some (by kernel_rfl))⟩
 f27:=⟨Tryz.f257.name,by decide,Tryz.func257.trans (congrArg some (by kernel_rfl))⟩
 f28:=⟨Tryz.f258.name,by decide,Tryz.func258.trans (congrArg some (by kernel_rfl))⟩
 f29:=⟨Tryz.f259.name,by decide,Tryz.func259.trans (congrArg some (by kernel_rfl))⟩
 f31:=Tryz.func267.trans (congrArg some (by kernel_rfl))
 f32:=Tryz.func268.trans (congrArg some (by kernel_rfl))
 f36:=⟨Tryz.f266.name,by decide,Tryz.func266.trans (congrArg some (by kernel_rfl))⟩
 f37:=⟨Tryz.f269.name,by decide,Tryz.func269.trans (congrArg some (by kernel_rfl))⟩
 f38:=⟨Tryz.f270.name,by decide,Tryz.func270.trans (congrArg some (by kernel_rfl))⟩
 f39:=⟨Tryz.f240.name,by decide,Tryz.func240.trans (congrArg some (by kernel_rfl))⟩
 f41:=⟨Tryz.f271.name,by decide,Tryz.func271.trans (congrArg some (by kernel_rfl))⟩
 t0:=Tryz.underlying0
 a0:=Tryz.isAgg0
 z0:=Tryz.sizeOf0
 v0:=Tryz.zeroValue0
 t3:=Tryz.underlying3
 a3:=Tryz.isAgg3
 z3:=Tryz.sizeOf3
 v3:=Tryz.zeroValue3
 t4:=Tryz.underlying4
 a4:=Tryz.isAgg4
 z4:=Tryz.sizeOf4
 v4:=Tryz.zeroValue4
 t5:=Tryz.underlying5
 a5:=Tryz.isAgg5
 z5:=Tryz.sizeOf5
 v5:=Tryz.zeroValue5
 t9:=Tryz.underlying9
 a9:=Tryz.isAgg9
 z9:=Tryz.sizeOf9
 v9:=Tryz.zeroValue9
 t26:=Tryz.underlying151
 a26:=Tryz.isAgg151
 z26:=Tryz.sizeOf151
 v26:=Tryz.zeroValue151
 t27:=Tryz.underlying151
 a27:=Tryz.isAgg151
 z27:=Tryz.sizeOf151
 v27:=Tryz.zeroValue151
 t29:=Tryz.underlying9
 a29:=Tryz.isAgg9
 z29:=Tryz.sizeOf9
 v29:=Tryz.zeroValue9
 t32:=Tryz.underlying246
 a32:=Tryz.isAgg246
 z32:=Tryz.sizeOf246
 v32:=Tryz.zeroValue246
 t35:=Tryz.underlying261
 a35:=Tryz.isAgg261
 z35:=Tryz.sizeOf261
 v35:=Tryz.zeroValue261
 t36:=Tryz.underlying262
 a36:=Tryz.isAgg262
 z36:=Tryz.sizeOf262
 v36:=Tryz.zeroValue262
 t41:=Tryz.underlying204
 a41:=Tryz.isAgg204
 z41:=Tryz.sizeOf204
 v41:=Tryz.zeroValue204
 t44:=Tryz.underlying268
 a44:=Tryz.isAgg268
 z44:=Tryz.sizeOf268
 v44:=Tryz.zeroValue268
 t46:=Tryz.underlying270
 a46:=Tryz.isAgg270
 z46:=Tryz.sizeOf270
 v46:=Tryz.zeroValue270
 t53:=Tryz.underlying274
 a53:=Tryz.isAgg274
 z53:=Tryz.sizeOf274
 v53:=Tryz.zeroValue274
 t57:=Tryz.underlying193
 a57:=Tryz.isAgg193
 z57:=Tryz.sizeOf193
 v57:=Tryz.zeroValue193
 t63:=Tryz.underlying279
 a63:=Tryz.isAgg279
 z63:=Tryz.sizeOf279
 v63:=Tryz.zeroValue279
 t64:=Tryz.underlying280
 a64:=Tryz.isAgg280
 z64:=Tryz.sizeOf280
 v64:=Tryz.zeroValue280 }
theorem sortsL (m:Nat):AnyZ.SortsIn Tryz.prog sortedL_ren Fence.wide m :=
 ⟨fun blk off cap ss W hH hblk hsz=>callsIn_wide.2 (AnyM.slices_Sort_string sortL blk off cap ss W hH hblk hsz),fun p cap W=>callsIn_wide.2 (AnyM.slices_Sort_string_none sortL p cap W)⟩
theorem sortedL_calls {H:Type} (Bm b nn:Nat) (D0:DataW H) (R:Value→Option (DataW H × List MemPlace)) (w:World) (hBm:Bm < w.heap.size) (hm:w.cell? ⟨Bm,0,none⟩=some (.map (some b))) (hown:w.ownsMap Tryz.prog 9 R b nn D0) (hmax:Maps.size D0≤maxLen) (hbytes:Maps.size D0 * 16≤140737488355328) :
  Calls Tryz.prog 200 #[.func (.func 231) #[] #[.pointer (some ⟨Bm,0,none⟩)]] w fun e w'=>∃ (v:Value) (ss:List (List UInt8)),e=.returned v∧ss.Perm (strKeys D0) ∧
   w'.ownsRow w.heap.size 9 1 v ss.length ((ss.mergeSort (fun x y=>decide (x≤y))).map encStr)∧(v=.slice none 0 0↔ss=[])∧Below w.heap.size w w':=by
 have hseq:SeqGives Fence.wide 2 Tryz.prog 231 #[.pointer (some ⟨Bm,0,none⟩)] encStr (fun ss=>ss.Perm (strKeys D0)) (Maps.size D0) w :=
  AnyZ.keys_gives (ρ:=keysL_ren) { keysL with } Fence.wide _ trivial rfl (by omega) Bm b nn D0 _ hBm hm hown
 exact (callsIn_wide (n:=5)).1 (AnyZ.sorted_in sortedL Fence.wide 5 trivial trivial trivial trivial rfl (by omega) (sortsL _) (enters_of Tryz.func230 (by kernel_rfl) rfl) 231 #[.pointer (some ⟨Bm,0,none⟩)] trivial (enters_of Tryz.func231 (by kernel_rfl) rfl) _ _ hmax hbytes _ hseq)
end Go.Proofs.YtidkmoohgadjkaaGreat
namespace Go.Proofs.YtidkmoohgadjkaaGreat.E
open Go Go.Shelf Go.RowKit Go.Maps Go.Sort Go.Lib
def sortS (l:List ByteArray):List ByteArray:=((l.map fun s=>s.data.toList).mergeSort leB).map fun b=>⟨b.toArray⟩
theorem sorted_callOk {ν:Type} {g:ν→List PC} {va:Bool} {l:List (ByteArray × ν)} (hn:l.length≤1000000) (hk:∀ e∈l,e.1.size≤maxLen) :
  CallOk Tryz.prog 200 [.one (.fn 231 [0])] [.box [.mp 1],.mp .str va (l.map fun e=>([.v (.string e.1)],g e.2))] (.one (.own 2))
   [.box [.mp 1],.mp .str va (l.map fun e=>([.v (.string e.1)],g e.2)),.rows 1 ((sortS (l.map (·.1))).map fun s=>[.v (.string s)])]:=by
 refine ⟨⟨_,_,Tryz.func200,rfl,rfl⟩,fun w S inj vs hv hI hfree=>?_⟩
 have hfr:∀ b,2≤b→inj b=.free:=fun b h=>hfree b h
 cases hv with
 | cons h0 hv =>
 cases hv
 obtain ⟨Bm,cs,ee,hB0,hBS,hBh,hBc⟩:=hI.live 0
 obtain ⟨b,es,clock,hM0,hMS,hMh,hMst,hMe⟩:=hI.live 1
 obtain ⟨mv,rfl⟩:∃ mv,cs=[mv]:=by
  cases hBc with
  | cons _ hr=>cases hr; exact ⟨_,rfl⟩
 have hm0:VR w S inj (.mp 1) mv:=by
  cases hBc with
  | cons h _=>exact h
 have hmv:mv=.map (some b):=by
  cases hm0 with
  | mp h =>
   rcases h with h | ⟨g',h,rfl⟩
   ·rw [hM0] at h; cases h
   ·rw [hM0] at h; injection h with h; rw [h]
 subst hmv
 have hfn:=h0.cellv (by simp)
 cases hfn with
 | fn hf =>
 cases hf with
 | cons hp hr =>
 cases hr
 obtain ⟨a,rfl,hp⟩:=hp
 obtain rfl:a=some ⟨Bm,0,none⟩:=by
  rcases hp with h | ⟨g',h,rfl⟩
  ·rw [hB0] at h; cases h
  ·rw [hB0] at h; injection h with h; rw [h]
 have hBw:Bm < w.heap.size:=(Array.getElem?_eq_some_iff.1 hBh).1
 have hcell:w.cell? ⟨Bm,0,none⟩=some (.map (some b)):=by simp [World.cell?,hBh]
 let R:Value→Option (DataW Unit × List MemPlace):=fun _=>some (.nil,[])
 have hkeys:F2 (fun (e:ByteArray × ν) (m:MapEntry)=>m.key=.string e.1) l es.toList:=by
  have:∀ {l:List (ByteArray × ν)} {ms:List MapEntry},F2 (fun (x:List PC × List PC) (m:MapEntry)=>KeyV .str x.1 m.key∧ValV w S va x.2 m.val) (l.map fun e=>([.v (.string e.1)],g e.2)) ms→F2 (fun (e:ByteArray × ν) (m:MapEntry)=>m.key=.string e.1) l ms:=by
   intro l
   induction l with
   | nil=>intro ms h; cases h; exact .nil
   | cons e l ih =>
    intro ms h
    cases h with
    | cons h1 h2 =>
     refine .cons ?_ (ih h2)
     obtain ⟨s,hs1,hs2⟩:=h1.1
     injection hs1 with hs1 _
     injection hs1 with hs1
     injection hs1 with hs1
     rw [hs2,hs1]
  exact this hMe
 have hlen:l.length=es.size:=by have:=hkeys.len; simpa using this
 have hrd:∀ {l:List (ByteArray × ν)} {ms:List MapEntry},F2 (fun (e:ByteArray × ν) (m:MapEntry)=>m.key=.string e.1) l ms→(∀ e∈l,e.1.size≤maxLen)→(∀ x∈ms,∃ y,Go.WideElems.rd Tryz.prog 9 R x=some y)∧ms.map (Go.WideElems.rg Tryz.prog 9 R)=l.map fun e=>(Lit.string e.1.data.toList,DataW.nil):=by
  intro l ms h
  induction h with
  | nil=>intro _; exact ⟨by simp,rfl⟩
  | @cons e m l ms h1 _ ih =>
   intro hk
   obtain ⟨i1,i2⟩:=ih fun e he=>hk e (by simp [he])
   have hy:Go.WideElems.rd Tryz.prog 9 R m=some (.string e.1.data.toList,.nil):=by
    unfold Go.WideElems.rd
    rw [h1,Go.WideMaps.keyOf_string_mk Tryz.underlying9 (hk e (by simp))]; rfl
   refine ⟨fun x hx=>?_,?_⟩
   ·rcases List.mem_cons.1 hx with rfl | hx
    ·exact ⟨_,hy⟩
    ·exact i1 x hx
   ·rw [List.map_cons,List.map_cons,i2,Go.WideElems.rg_of hy]
 obtain ⟨r1,r2⟩:=hrd hkeys hk
 have hsz:es.size≤maxLen:=by rw [←hlen]; unfold maxLen; omega
 have hown:w.ownsMap Tryz.prog 9 R b es.size (.map ((es.toList.map (Go.WideElems.rg Tryz.prog 9 R)).foldr DataW.insert [])):=⟨es,clock,hMh,⟨hsz,hMst,r1⟩,Nat.le_refl _,rfl⟩
 have hD:Maps.size (.map ((es.toList.map (Go.WideElems.rg Tryz.prog 9 R)).foldr DataW.insert []))=l.length:=by
  rw [Maps.size_eq,DataW.length_sorted,List.length_map,Array.length_toList,hlen]
 refine (sortedL_calls Bm b es.size _ R w hBw hcell hown (by rw [hD,hlen]; exact hsz) (by rw [hD]; omega)).mono ?_
 rintro e w' ⟨v',ss,rfl,hperm,hrow,hnil,hbel⟩
 have hks:ss.mergeSort leB=(l.map fun e=>e.1.data.toList).mergeSort leB:=by
  refine mergeSort_of_perm (hperm.trans ?_)
  rw [r2]
  show (List.map _ (List.foldr DataW.insert [] _)).Perm _
  refine ((Go.WideShapes.sorted_perm _).map _).trans ?_
  rw [List.map_map]
  exact List.Perm.refl _
 have hG:=below_grow (S:=S) hI.lt hbel
 have hsl:ss.length=(sortS (l.map (·.1))).length:=by
  unfold sortS
  rw [List.length_map,List.map_map]
  have:=congrArg List.length hks
  simpa using this
 have hrows:F2 (PR w' S) ((sortS (l.map (·.1))).map fun s=>[PC.v (.string s)]).flatten ((ss.mergeSort (fun x y=>decide (x≤y))).map encStr):=by
  have e1:ss.mergeSort (fun x y=>decide (x≤y))=(l.map fun e=>e.1.data.toList).mergeSort leB:=hks
  rw [e1]
  have e2:(l.map (·.1)).map (fun s=>s.data.toList)=l.map fun e=>e.1.data.toList:=by rw [List.map_map]; rfl
  unfold sortS
  rw [e2,List.map_map]
  generalize (l.map fun e=>e.1.data.toList).mergeSort leB=q
  induction q with
  | nil=>exact .nil
  | cons x q ih=>exact .cons (.v rfl) ih
 obtain ⟨a',c',g',rfl,hR,hg⟩:=own_row (S:=S) (l:=(sortS (l.map (·.1))).map fun s=>[PC.v (.string s)]) hI.lt hrow (by rw [List.length_map,hsl]) (by simp) (by decide) hrows
 have hle:=injAt_le (l:=.row (.slice a' ss.length c') g') (hfr 2 (Nat.le_refl _))
 refine ⟨_,S,injAt inj 2 (.row (.slice a' ss.length c') g'),rfl,hG,hle,fun b' hb' h=>?_,.ofc (.own (.inr ⟨g',by rw [injAt_same]; rfl⟩)),?_⟩
 ·rw [injAt_ne (by rcases h with h | h<;>simp at h<;>omega)]; exact hb'
 ·have e:E.look [.box [.mp 1],.mp .str va (l.map fun e=>([.v (.string e.1)],g e.2)),.rows 1 ((sortS (l.map (·.1))).map fun s=>[.v (.string s)])]=setB (E.look [.box [.mp 1],.mp .str va (l.map fun e=>([.v (.string e.1)],g e.2))]) 2 (.rows 1 ((sortS (l.map (·.1))).map fun s=>[.v (.string s)])):=by
   funext b'
   unfold setB
   split
   ·next h=>subst h; rfl
   ·next h=>rw [look_eq,look_eq]; match b',h with | 0,_=>rfl | 1,_=>rfl | 2,h=>exact absurd rfl h | b' + 3,_=>rfl
  rw [e]
  refine hI.set hG hle (fun _ h=>injAt_ne h) injAt_same (fun b' x _ hd hx=>?_) ⟨_,_,rfl,hR⟩ (fun _ b' x _ hd h1 h2=>?_) (fun x h=>Nat.lt_of_lt_of_le (hI.lt x h) hG.size)
  ·obtain ⟨h1,h2⟩:=(hI.live b').blk hd hx
   exact ⟨hbel.block x h2,h1⟩
  ·have:=((hI.live b').blk hd h2).2
   have:=hg x h1
   omega
end Go.Proofs.YtidkmoohgadjkaaGreat.E
namespace Go.Proofs.YtidkmoohgadjkaaGreat
open Go E
def sorted_s {ν:Type} (l:List (ByteArray × ν)):Option (List ByteArray):=chk (decide (l.length≤1000000)&&l.all fun e=>decide (e.1.size≤maxLen)) (some (sortS (l.map (·.1))))
theorem sorted_c {ν:Type} {g:ν→List PC} {va:Bool} {X:Task→Prop} (hX:Closed X) {l:List (ByteArray × ν)} {r:List ByteArray} {Q:A→List Blk→Prop} (h:sorted_s l=some r) (hQ:Q (.one (.own 2)) [.box [.mp 1],.mp .str va (l.map fun e=>(srw e.1,g e.2)),.rows 1 (r.map srw)]) :
  X (.call 200 [.one (.fn 231 [0])] [.box [.mp 1],.mp .str va (l.map fun e=>(srw e.1,g e.2))] Q):=by
 unfold sorted_s at h
 obtain ⟨d,h⟩:=chk_some h
 injection h with h; subst h
 rw [Bool.and_eq_true,List.all_eq_true] at d
 exact prim_call hX (sorted_callOk (of_decide_eq_true d.1) fun e he=>of_decide_eq_true (d.2 e he)) hQ
end Go.Proofs.YtidkmoohgadjkaaGreat
namespace Go.Proofs.YtidkmoohgadjkaaGreat.E
open Go Go.Lib Go.RowKit
end Go.Proofs.YtidkmoohgadjkaaGreat.E
namespace Go.Proofs.YtidkmoohgadjkaaGreat
open Go E
end Go.Proofs.YtidkmoohgadjkaaGreat
namespace Go.Proofs.YtidkmoohgadjkaaGreat
open Go E
theorem loop_lisx0 {R α:Type} {X:Task→Prop} {f m:Nat} {c:Code} {K:Ex→List A→List Blk→Prop} {r:R} (T':Int→List A) (S':Int→List Blk) (L:List α→Option R) (l:List α)
  (hstep:∀ (pre:List α) (x:α) (xs:List α) (i:Int),l=pre++x::xs→i=(pre.length:Int)→L (x::xs)=some r→(∀ (i':Int),i'=i + 1→L xs=some r→X (.loop f m c (T' i') (S' i') K))→X (.loop f m c (T' i) (S' i) K))
  (hend:∀ (i:Int),i=(l.length:Int)→L []=some r→X (.loop f m c (T' i) (S' i) K)) (h:L l=some r):X (.loop f m c (T' 0) (S' 0) K):=by
 have key:∀ (xs pre:List α) (i:Int),l=pre++xs→i=(pre.length:Int)→L xs=some r→X (.loop f m c (T' i) (S' i) K):=by
  intro xs
  induction xs with
  | nil=>intro pre i hl hi h; exact hend i (by rw [hl,hi]; simp) h
  | cons x xs ih=>intro pre i hl hi h; exact hstep pre x xs i hl hi h fun i' hi' h'=>by subst hi'; exact ih (pre++[x]) (i + 1) (by rw [hl]; simp) (by rw [hi]; simp) h'
 exact key l [] 0 rfl rfl h
theorem loop_list0 {R α:Type} {X:Task→Prop} {f m:Nat} {c:Code} {K:Ex→List A→List Blk→Prop} {r:R} (T':Int→List A) (S':Int→List Blk) (L:List α→Int→Option R) (l:List α)
  (hstep:∀ (pre:List α) (x:α) (xs:List α) (i:Int),l=pre++x::xs→i=(pre.length:Int)→L (x::xs) i=some r→(∀ (i':Int),i'=i + 1→L xs (i + 1)=some r→X (.loop f m c (T' i') (S' i') K))→X (.loop f m c (T' i) (S' i) K))
  (hend:∀ (i:Int),i=(l.length:Int)→L [] i=some r→X (.loop f m c (T' i) (S' i) K)) (h:L l 0=some r):X (.loop f m c (T' 0) (S' 0) K):=by
 have key:∀ (xs pre:List α) (i:Int),l=pre++xs→i=(pre.length:Int)→L xs i=some r→X (.loop f m c (T' i) (S' i) K):=by
  intro xs
  induction xs with
  | nil=>intro pre i hl hi h; exact hend i (by rw [hl,hi]; simp) h
  | cons x xs ih=>intro pre i hl hi h; exact hstep pre x xs i hl hi h fun i' hi' h'=>by subst hi'; exact ih (pre++[x]) (i + 1) (by rw [hl]; simp) (by rw [hi]; simp) h'
 exact key l [] 0 rfl rfl h
theorem loop_fuel0 {R:Type} {X:Task→Prop} {f m:Nat} {c:Code} {K:Ex→List A→List Blk→Prop} {r:R} (T':List A) (S':List Blk) (L:Nat→Option R)
  (h0:∀ (_:Unit),L 0=some r→False)
  (hstep:∀ (n:Nat),L (n + 1)=some r→(L n=some r→X (.loop f m c T' S' K))→X (.loop f m c T' S' K)) (N:Nat) (h:L N=some r):X (.loop f m c T' S' K):=by
 induction N with
 | zero=>exact (h0 () h).elim
 | succ N ih=>exact hstep N h fun h'=>ih h'
theorem join0 {R:Type} {X:Task→Prop} {f m:Nat} {c:Code} {K:Ex→List A→List Blk→Prop} {r:R} {G:Prop} {j:Option R} (T':List A) (S':List Blk)
  (main:Hold (j=some r→X (.rest f m c T' S' K))→G) (tail:j=some r→X (.rest f m c T' S' K)):G:=main ⟨tail⟩
theorem loop_lisz1 {R α:Type} {S0:Type} {X:Task→Prop} {f m:Nat} {c:Code} {K:Ex→List A→List Blk→Prop} {r:R} (T':Int→S0→List A) (S':Int→S0→List Blk) (L:List α→S0→Option R) (l pre0 l0:List α) (i0:Int) (hl0:l=pre0++l0) (hi0:i0=(pre0.length:Int))
  (hstep:∀ (pre:List α) (x:α) (xs:List α) (i:Int) (a0:S0),l=pre++x::xs→i=(pre.length:Int)→L (x::xs) a0=some r→(∀ (i':Int) (b0:S0),i'=i + 1→L xs b0=some r→X (.loop f m c (T' i' b0) (S' i' b0) K))→X (.loop f m c (T' i a0) (S' i a0) K))
  (hend:∀ (i:Int) (a0:S0),i=(l.length:Int)→L [] a0=some r→X (.loop f m c (T' i a0) (S' i a0) K)) (a0:S0) (h:L l0 a0=some r):X (.loop f m c (T' i0 a0) (S' i0 a0) K):=by
 have key:∀ (xs pre:List α) (i:Int) (a0:S0),l=pre++xs→i=(pre.length:Int)→L xs a0=some r→X (.loop f m c (T' i a0) (S' i a0) K):=by
  intro xs
  induction xs with
  | nil=>intro pre i a0 hl hi h; exact hend i a0 (by rw [hl,hi]; simp) h
  | cons x xs ih=>intro pre i a0 hl hi h; exact hstep pre x xs i a0 hl hi h fun i' b0 hi' h'=>by subst hi'; exact ih (pre++[x]) (i + 1) b0 (by rw [hl]; simp) (by rw [hi]; simp) h'
 exact key l0 pre0 i0 a0 hl0 hi0 h
theorem loop_lisx1 {R α:Type} {S0:Type} {X:Task→Prop} {f m:Nat} {c:Code} {K:Ex→List A→List Blk→Prop} {r:R} (T':Int→S0→List A) (S':Int→S0→List Blk) (L:List α→S0→Option R) (l:List α)
  (hstep:∀ (pre:List α) (x:α) (xs:List α) (i:Int) (a0:S0),l=pre++x::xs→i=(pre.length:Int)→L (x::xs) a0=some r→(∀ (i':Int) (b0:S0),i'=i + 1→L xs b0=some r→X (.loop f m c (T' i' b0) (S' i' b0) K))→X (.loop f m c (T' i a0) (S' i a0) K))
  (hend:∀ (i:Int) (a0:S0),i=(l.length:Int)→L [] a0=some r→X (.loop f m c (T' i a0) (S' i a0) K)) (a0:S0) (h:L l a0=some r):X (.loop f m c (T' 0 a0) (S' 0 a0) K):=by
 have key:∀ (xs pre:List α) (i:Int) (a0:S0),l=pre++xs→i=(pre.length:Int)→L xs a0=some r→X (.loop f m c (T' i a0) (S' i a0) K):=by
  intro xs
  induction xs with
  | nil=>intro pre i a0 hl hi h; exact hend i a0 (by rw [hl,hi]; simp) h
  | cons x xs ih=>intro pre i a0 hl hi h; exact hstep pre x xs i a0 hl hi h fun i' b0 hi' h'=>by subst hi'; exact ih (pre++[x]) (i + 1) b0 (by rw [hl]; simp) (by rw [hi]; simp) h'
 exact key l [] 0 a0 rfl rfl h
theorem loop_fuel1 {R:Type} {S0:Type} {X:Task→Prop} {f m:Nat} {c:Code} {K:Ex→List A→List Blk→Prop} {r:R} (T':S0→List A) (S':S0→List Blk) (L:Nat→S0→Option R)
  (h0:∀ (a0:S0),L 0 a0=some r→False)
  (hstep:∀ (n:Nat) (a0:S0),L (n + 1) a0=some r→(∀ (b0:S0),L n b0=some r→X (.loop f m c (T' b0) (S' b0) K))→X (.loop f m c (T' a0) (S' a0) K)) (N:Nat) (a0:S0) (h:L N a0=some r):X (.loop f m c (T' a0) (S' a0) K):=by
 induction N generalizing a0 with
 | zero=>exact (h0 a0 h).elim
 | succ N ih=>exact hstep N a0 h fun b0 h'=>ih b0 h'
theorem join1 {R:Type} {S0:Type} {X:Task→Prop} {f m:Nat} {c:Code} {K:Ex→List A→List Blk→Prop} {r:R} {G:Prop} {j:S0→Option R} (T':S0→List A) (S':S0→List Blk)
  (main:Hold (∀ (a0:S0),j a0=some r→X (.rest f m c (T' a0) (S' a0) K))→G) (tail:∀ (a0:S0),j a0=some r→X (.rest f m c (T' a0) (S' a0) K)):G:=main ⟨tail⟩
theorem loop_lisz2 {R α:Type} {S0 S1:Type} {X:Task→Prop} {f m:Nat} {c:Code} {K:Ex→List A→List Blk→Prop} {r:R} (T':Int→S0→S1→List A) (S':Int→S0→S1→List Blk) (L:List α→S0→S1→Option R) (l pre0 l0:List α) (i0:Int) (hl0:l=pre0++l0) (hi0:i0=(pre0.length:Int))
  (hstep:∀ (pre:List α) (x:α) (xs:List α) (i:Int) (a0:S0) (a1:S1),l=pre++x::xs→i=(pre.length:Int)→L (x::xs) a0 a1=some r→(∀ (i':Int) (b0:S0) (b1:S1),i'=i + 1→L xs b0 b1=some r→X (.loop f m c (T' i' b0 b1) (S' i' b0 b1) K))→X (.loop f m c (T' i a0 a1) (S' i a0 a1) K))
  (hend:∀ (i:Int) (a0:S0) (a1:S1),i=(l.length:Int)→L [] a0 a1=some r→X (.loop f m c (T' i a0 a1) (S' i a0 a1) K)) (a0:S0) (a1:S1) (h:L l0 a0 a1=some r):X (.loop f m c (T' i0 a0 a1) (S' i0 a0 a1) K):=by
 have key:∀ (xs pre:List α) (i:Int) (a0:S0) (a1:S1),l=pre++xs→i=(pre.length:Int)→L xs a0 a1=some r→X (.loop f m c (T' i a0 a1) (S' i a0 a1) K):=by
  intro xs
  induction xs with
  | nil=>intro pre i a0 a1 hl hi h; exact hend i a0 a1 (by rw [hl,hi]; simp) h
  | cons x xs ih=>intro pre i a0 a1 hl hi h; exact hstep pre x xs i a0 a1 hl hi h fun i' b0 b1 hi' h'=>by subst hi'; exact ih (pre++[x]) (i + 1) b0 b1 (by rw [hl]; simp) (by rw [hi]; simp) h'
 exact key l0 pre0 i0 a0 a1 hl0 hi0 h
theorem loop_lisx2 {R α:Type} {S0 S1:Type} {X:Task→Prop} {f m:Nat} {c:Code} {K:Ex→List A→List Blk→Prop} {r:R} (T':Int→S0→S1→List A) (S':Int→S0→S1→List Blk) (L:List α→S0→S1→Option R) (l:List α)
  (hstep:∀ (pre:List α) (x:α) (xs:List α) (i:Int) (a0:S0) (a1:S1),l=pre++x::xs→i=(pre.length:Int)→L (x::xs) a0 a1=some r→(∀ (i':Int) (b0:S0) (b1:S1),i'=i + 1→L xs b0 b1=some r→X (.loop f m c (T' i' b0 b1) (S' i' b0 b1) K))→X (.loop f m c (T' i a0 a1) (S' i a0 a1) K))
  (hend:∀ (i:Int) (a0:S0) (a1:S1),i=(l.length:Int)→L [] a0 a1=some r→X (.loop f m c (T' i a0 a1) (S' i a0 a1) K)) (a0:S0) (a1:S1) (h:L l a0 a1=some r):X (.loop f m c (T' 0 a0 a1) (S' 0 a0 a1) K):=by
 have key:∀ (xs pre:List α) (i:Int) (a0:S0) (a1:S1),l=pre++xs→i=(pre.length:Int)→L xs a0 a1=some r→X (.loop f m c (T' i a0 a1) (S' i a0 a1) K):=by
  intro xs
  induction xs with
  | nil=>intro pre i a0 a1 hl hi h; exact hend i a0 a1 (by rw [hl,hi]; simp) h
  | cons x xs ih=>intro pre i a0 a1 hl hi h; exact hstep pre x xs i a0 a1 hl hi h fun i' b0 b1 hi' h'=>by subst hi'; exact ih (pre++[x]) (i + 1) b0 b1 (by rw [hl]; simp) (by rw [hi]; simp) h'
 exact key l [] 0 a0 a1 rfl rfl h
theorem loop_fuel2 {R:Type} {S0 S1:Type} {X:Task→Prop} {f m:Nat} {c:Code} {K:Ex→List A→List Blk→Prop} {r:R} (T':S0→S1→List A) (S':S0→S1→List Blk) (L:Nat→S0→S1→Option R)
  (h0:∀ (a0:S0) (a1:S1),L 0 a0 a1=some r→False)
  (hstep:∀ (n:Nat) (a0:S0) (a1:S1),L (n + 1) a0 a1=some r→(∀ (b0:S0) (b1:S1),L n b0 b1=some r→X (.loop f m c (T' b0 b1) (S' b0 b1) K))→X (.loop f m c (T' a0 a1) (S' a0 a1) K)) (N:Nat) (a0:S0) (a1:S1) (h:L N a0 a1=some r):X (.loop f m c (T' a0 a1) (S' a0 a1) K):=by
 induction N generalizing a0 a1 with
 | zero=>exact (h0 a0 a1 h).elim
 | succ N ih=>exact hstep N a0 a1 h fun b0 b1 h'=>ih b0 b1 h'
theorem join2 {R:Type} {S0 S1:Type} {X:Task→Prop} {f m:Nat} {c:Code} {K:Ex→List A→List Blk→Prop} {r:R} {G:Prop} {j:S0→S1→Option R} (T':S0→S1→List A) (S':S0→S1→List Blk)
  (main:Hold (∀ (a0:S0) (a1:S1),j a0 a1=some r→X (.rest f m c (T' a0 a1) (S' a0 a1) K))→G) (tail:∀ (a0:S0) (a1:S1),j a0 a1=some r→X (.rest f m c (T' a0 a1) (S' a0 a1) K)):G:=main ⟨tail⟩
theorem loop_fuel3 {R:Type} {S0 S1 S2:Type} {X:Task→Prop} {f m:Nat} {c:Code} {K:Ex→List A→List Blk→Prop} {r:R} (T':S0→S1→S2→List A) (S':S0→S1→S2→List Blk) (L:Nat→S0→S1→S2→Option R)
  (h0:∀ (a0:S0) (a1:S1) (a2:S2),L 0 a0 a1 a2=some r→False)
  (hstep:∀ (n:Nat) (a0:S0) (a1:S1) (a2:S2),L (n + 1) a0 a1 a2=some r→(∀ (b0:S0) (b1:S1) (b2:S2),L n b0 b1 b2=some r→X (.loop f m c (T' b0 b1 b2) (S' b0 b1 b2) K))→X (.loop f m c (T' a0 a1 a2) (S' a0 a1 a2) K)) (N:Nat) (a0:S0) (a1:S1) (a2:S2) (h:L N a0 a1 a2=some r):X (.loop f m c (T' a0 a1 a2) (S' a0 a1 a2) K):=by
 induction N generalizing a0 a1 a2 with
 | zero=>exact (h0 a0 a1 a2 h).elim
 | succ N ih=>exact hstep N a0 a1 a2 h fun b0 b1 b2 h'=>ih b0 b1 b2 h'
theorem loop_lisx8 {R α:Type} {S0 S1 S2 S3 S4 S5 S6 S7:Type} {X:Task→Prop} {f m:Nat} {c:Code} {K:Ex→List A→List Blk→Prop} {r:R} (T':Int→S0→S1→S2→S3→S4→S5→S6→S7→List A) (S':Int→S0→S1→S2→S3→S4→S5→S6→S7→List Blk) (L:List α→S0→S1→S2→S3→S4→S5→S6→S7→Option R) (l:List α)
  (hstep:∀ (pre:List α) (x:α) (xs:List α) (i:Int) (a0:S0) (a1:S1) (a2:S2) (a3:S3) (a4:S4) (a5:S5) (a6:S6) (a7:S7),l=pre++x::xs→i=(pre.length:Int)→L (x::xs) a0 a1 a2 a3 a4 a5 a6 a7=some r→(∀ (i':Int) (b0:S0) (b1:S1) (b2:S2) (b3:S3) (b4:S4) (b5:S5) (b6:S6) (b7:S7),i'=i + 1→L xs b0 b1 b2 b3 b4 b5 b6 b7=some r→X (.loop f m c (T' i' b0 b1 b2 b3 b4 b5 b6 b7) (S' i' b0 b1 b2 b3 b4 b5 b6 b7) K))→X (.loop f m c (T' i a0 a1 a2 a3 a4 a5 a6 a7) (S' i a0 a1 a2 a3 a4 a5 a6 a7) K))
  (hend:∀ (i:Int) (a0:S0) (a1:S1) (a2:S2) (a3:S3) (a4:S4) (a5:S5) (a6:S6) (a7:S7),i=(l.length:Int)→L [] a0 a1 a2 a3 a4 a5 a6 a7=some r→X (.loop f m c (T' i a0 a1 a2 a3 a4 a5 a6 a7) (S' i a0 a1 a2 a3 a4 a5 a6 a7) K)) (a0:S0) (a1:S1) (a2:S2) (a3:S3) (a4:S4) (a5:S5) (a6:S6) (a7:S7) (h:L l a0 a1 a2 a3 a4 a5 a6 a7=some r):X (.loop f m c (T' 0 a0 a1 a2 a3 a4 a5 a6 a7) (S' 0 a0 a1 a2 a3 a4 a5 a6 a7) K):=by
 have key:∀ (xs pre:List α) (i:Int) (a0:S0) (a1:S1) (a2:S2) (a3:S3) (a4:S4) (a5:S5) (a6:S6) (a7:S7),l=pre++xs→i=(pre.length:Int)→L xs a0 a1 a2 a3 a4 a5 a6 a7=some r→X (.loop f m c (T' i a0 a1 a2 a3 a4 a5 a6 a7) (S' i a0 a1 a2 a3 a4 a5 a6 a7) K):=by
  intro xs
  induction xs with
  | nil=>intro pre i a0 a1 a2 a3 a4 a5 a6 a7 hl hi h; exact hend i a0 a1 a2 a3 a4 a5 a6 a7 (by rw [hl,hi]; simp) h
  | cons x xs ih=>intro pre i a0 a1 a2 a3 a4 a5 a6 a7 hl hi h; exact hstep pre x xs i a0 a1 a2 a3 a4 a5 a6 a7 hl hi h fun i' b0 b1 b2 b3 b4 b5 b6 b7 hi' h'=>by subst hi'; exact ih (pre++[x]) (i + 1) b0 b1 b2 b3 b4 b5 b6 b7 (by rw [hl]; simp) (by rw [hi]; simp) h'
 exact key l [] 0 a0 a1 a2 a3 a4 a5 a6 a7 rfl rfl h
end Go.Proofs.YtidkmoohgadjkaaGreat
set_option maxHeartbeats 0
namespace Go.Proofs.YtidkmoohgadjkaaGreat
open Go E
noncomputable section
open Pred
def list_find_l1 (p0:List Item) (p1:ByteArray):Nat→Int→Int→Option (Int × Bool)
  | 0,_,_=>none
  | fl1 + 1,v1,v2 =>
  (br (ltI v2 v1)
   (bnd (atL p0 (wr .i64 (shrI .u64 (wr .u64 (wr .i64 (v2 + v1))) 1))) fun x4 =>
    (br (!eqS x4.id x4.id)
     (br (!eqS p1 p1)
      (list_find_l1 p0 p1 fl1 (wr .i64 (shrI .u64 (wr .u64 (wr .i64 (v2 + v1))) 1)) v2)
      (list_find_l1 p0 p1 fl1 v1 (wr .i64 ((wr .i64 (shrI .u64 (wr .u64 (wr .i64 (v2 + v1))) 1)) + 1))))
     (br (!eqS p1 p1)
      (list_find_l1 p0 p1 fl1 (wr .i64 (shrI .u64 (wr .u64 (wr .i64 (v2 + v1))) 1)) v2)
      (br (ltS x4.id p1)
       (list_find_l1 p0 p1 fl1 v1 (wr .i64 ((wr .i64 (shrI .u64 (wr .u64 (wr .i64 (v2 + v1))) 1)) + 1)))
       (br (!(ltS x4.id p1 || eqS x4.id p1))
        (list_find_l1 p0 p1 fl1 (wr .i64 (shrI .u64 (wr .u64 (wr .i64 (v2 + v1))) 1)) v2)
        (list_find_l1 p0 p1 fl1 (wr .i64 (shrI .u64 (wr .u64 (wr .i64 (v2 + v1))) 1)) v2))))))
   (br (ltI v2 (p0.length:Int))
    (bnd (atL p0 v2) fun x12 =>
     (br (!eqS x12.id x12.id)
      (br (!eqS p1 p1)
       (some (v2,true))
       (some (v2,false)))
      (br (!eqS p1 p1)
       (some (v2,false))
       (br (ltS x12.id p1)
        (some (v2,false))
        (br (!(ltS x12.id p1 || eqS x12.id p1))
         (some (v2,false))
         (some (v2,true)))))))
    (some (v2,false))))
def list_find_s (p0:List Item) (p1:ByteArray):Option (Int × Bool) :=
 ((list_find_l1 p0 p1) fuelN (p0.length:Int) 0)
def list_Get_s (p0:List Item) (p1:ByteArray):Option (Item × Bool) :=
 (bnd (list_find_s p0 p1) fun y1 =>
  (br y1.2
   (bnd (atL p0 y1.1) fun x4 =>
    some (x4,true))
   (some ((Item.mk ⟨#[]⟩ 0 0 0 ⟨#[]⟩ 0 0 0 false),false))))
def list_Both_l1:Nat→(List Item)→(List Item)→(List Item)→Option ((List Item))
  | 0,_,_,_=>none
  | fl1 + 1,v1,v2,v3 =>
  (br (ltI 0 (v1.length:Int))
   (br (ltI 0 (v3.length:Int))
    (bnd (atL v1 0) fun x6 =>
     (bnd (atL v3 0) fun x8 =>
      (br (ltS x6.id x8.id)
       (chk (roomL v2.length 1)
        (chk (leI 1 (v1.length:Int))
         (list_Both_l1 fl1 (v1.drop 1) (v2++[x6]) v3)))
       (br (!(ltS x6.id x8.id || eqS x6.id x8.id))
        (chk (roomL v2.length 1)
         (chk (leI 1 (v3.length:Int))
          (list_Both_l1 fl1 v1 (v2++[x8]) (v3.drop 1))))
        (bnd (item_Compare_s x8 x6) fun y16 =>
         (br (ltI 0 y16)
          (chk (leI 1 (v1.length:Int))
           (list_Both_l1 fl1 (v1.drop 1) v2 v3))
          (chk (leI 1 (v3.length:Int))
           (list_Both_l1 fl1 v1 v2 (v3.drop 1)))))))))
    (chk (roomL v2.length v1.length)
     (chk (roomL (v2++v1).length v3.length)
      (some ((v2++v1)++v3)))))
   (chk (roomL v2.length v1.length)
    (chk (roomL (v2++v1).length v3.length)
     (some ((v2++v1)++v3)))))
def list_Both_s (p0:List Item) (p1:List Item):Option ((List Item)) :=
 ((list_Both_l1) fuelN p0 ([]:List Item) p1)
variable {X:Task→Prop} (hX:Closed X) {Q:A→List Blk→Prop}
include hX
theorem list_find_c  {p0:List Item} {p1:ByteArray} {r:Int × Bool} (h:list_find_s p0 p1=some r) (hQ:Q (.tup [iv r.1,.one (.p (.v (.bool r.2)))]) []):X (.call 166 [.one (.p (.sl (p0.map Item.row))),.one (.p (.v (.string p1)))] [] Q):=by
  have K:=fun a (e:some a=some r)=>ret_some (f:=fun y=>.tup [iv y.1,.one (.p (.v (.bool y.2)))]) (g:=fun y=>[]) e hQ
  unfold list_find_s at h
  refine call_intro hX Tryz.func166 rfl rfl ?_
  conv=>whnf
  repeat((first|refine dw ?_);conv=>whnf)
  refine call_intro hX Tryz.func211 rfl rfl ?_
  conv=>whnf
  repeat((first|refine dw ?_|refine eqv_to (map_len _) ?_);conv=>whnf)
  refine loop_fuel2 (fun (v1:Int) (v2:Int)=>pad [(0,.one (.p (.sl (p0.map Item.row)))),(0,.one (.p (.v (.string p1)))),(0,.one (.fn 212 [])),(5,iv (p0.length:Int)),(0,iv v2),(0,iv v1)] 38) (fun (v1:Int) (v2:Int)=>[]) _ (fun _ _ h=>?_) (fun fl1 v1 v2 h ih1=>?_) fuelN (p0.length:Int) 0 h
  ·rw [list_find_l1] at h
   cases h
  ·rw [list_find_l1] at h
   refine loop_intro hX ?_
   conv=>whnf
   repeat((first|refine dw ?_);conv=>whnf)
   revert h
   refine brk (fun c3 h=>?_) (fun c3 h=>?_)
   ·revert h
    refine bndk fun x4 a5 h=>?_
    conv=>whnf
    repeat((first|refine dw ?_|refine bct c3 ?_|refine bct (at_in a5) ?_|refine bct (andt (at_in a5) rfl) ?_|refine row_in (at_row a5) ?_|refine bct (andt (at_in (at_nat a5)) rfl) ?_|refine row_in (at_row (at_nat a5)) ?_);conv=>whnf)
    refine call_intro hX Tryz.func212 rfl rfl ?_
    conv=>whnf
    repeat((first|refine dw ?_);conv=>whnf)
    refine call_intro hX Tryz.func213 rfl rfl ?_
    conv=>whnf
    repeat((first|refine dw ?_);conv=>whnf)
    refine call_intro hX Tryz.func240 rfl rfl ?_
    conv=>whnf
    repeat((first|refine dw ?_);conv=>whnf)
    refine call_intro hX Tryz.func240 rfl rfl ?_
    conv=>whnf
    repeat((first|refine dw ?_);conv=>whnf)
    revert h
    refine brk (fun c6 h=>?_) (fun c6 h=>?_)
    ·conv=>whnf
     repeat((first|refine dw ?_|refine bct c6 ?_);conv=>whnf)
     revert h
     refine brk (fun c7 h=>?_) (fun c7 h=>?_)
     ·conv=>whnf
      repeat((first|refine dw ?_|refine bct c7 ?_);conv=>whnf)
      exact ih1 (wr .i64 (shrI .u64 (wr .u64 (wr .i64 (v2 + v1))) 1)) v2 h
     ·conv=>whnf
      repeat((first|refine dw ?_|refine bcf c7 ?_);conv=>whnf)
      exact ih1 v1 (wr .i64 ((wr .i64 (shrI .u64 (wr .u64 (wr .i64 (v2 + v1))) 1)) + 1)) h
    ·conv=>whnf
     repeat((first|refine dw ?_|refine bcf c6 ?_);conv=>whnf)
     revert h
     refine brk (fun c8 h=>?_) (fun c8 h=>?_)
     ·conv=>whnf
      repeat((first|refine dw ?_|refine bct c8 ?_);conv=>whnf)
      exact ih1 (wr .i64 (shrI .u64 (wr .u64 (wr .i64 (v2 + v1))) 1)) v2 h
     ·conv=>whnf
      repeat((first|refine dw ?_|refine bcf c8 ?_);conv=>whnf)
      revert h
      refine brk (fun c9 h=>?_) (fun c9 h=>?_)
      ·conv=>whnf
       repeat((first|refine dw ?_|refine bct c9 ?_);conv=>whnf)
       exact ih1 v1 (wr .i64 ((wr .i64 (shrI .u64 (wr .u64 (wr .i64 (v2 + v1))) 1)) + 1)) h
      ·conv=>whnf
       repeat((first|refine dw ?_|refine bcf c9 ?_);conv=>whnf)
       revert h
       refine brk (fun c10 h=>?_) (fun c10 h=>?_)
       ·conv=>whnf
        repeat((first|refine dw ?_|refine bct c10 ?_);conv=>whnf)
        exact ih1 (wr .i64 (shrI .u64 (wr .u64 (wr .i64 (v2 + v1))) 1)) v2 h
       ·conv=>whnf
        repeat((first|refine dw ?_|refine bcf c10 ?_);conv=>whnf)
        exact ih1 (wr .i64 (shrI .u64 (wr .u64 (wr .i64 (v2 + v1))) 1)) v2 h
   ·conv=>whnf
    repeat((first|refine dw ?_|refine bcf c3 ?_);conv=>whnf)
    revert h
    refine brk (fun c11 h=>?_) (fun c11 h=>?_)
    ·revert h
     refine bndk fun x12 a13 h=>?_
     conv=>whnf
     repeat((first|refine dw ?_|refine bct c11 ?_|refine bct (at_in a13) ?_|refine bct (andt (at_in a13) rfl) ?_|refine row_in (at_row a13) ?_|refine bct (andt (at_in (at_nat a13)) rfl) ?_|refine row_in (at_row (at_nat a13)) ?_);conv=>whnf)
     refine call_intro hX Tryz.func212 rfl rfl ?_
     conv=>whnf
     repeat((first|refine dw ?_);conv=>whnf)
     refine call_intro hX Tryz.func213 rfl rfl ?_
     conv=>whnf
     repeat((first|refine dw ?_);conv=>whnf)
     refine call_intro hX Tryz.func240 rfl rfl ?_
     conv=>whnf
     repeat((first|refine dw ?_);conv=>whnf)
     refine call_intro hX Tryz.func240 rfl rfl ?_
     conv=>whnf
     repeat((first|refine dw ?_);conv=>whnf)
     revert h
     refine brk (fun c14 h=>?_) (fun c14 h=>?_)
     ·conv=>whnf
      repeat((first|refine dw ?_|refine bct c14 ?_);conv=>whnf)
      revert h
      refine brk (fun c15 h=>?_) (fun c15 h=>?_)
      ·conv=>whnf
       repeat((first|refine dw ?_|refine bct c15 ?_|refine bct c11 ?_);conv=>whnf)
       exact K _ h
      ·conv=>whnf
       repeat((first|refine dw ?_|refine bcf c15 ?_|refine bct c11 ?_);conv=>whnf)
       exact K _ h
     ·conv=>whnf
      repeat((first|refine dw ?_|refine bcf c14 ?_);conv=>whnf)
      revert h
      refine brk (fun c16 h=>?_) (fun c16 h=>?_)
      ·conv=>whnf
       repeat((first|refine dw ?_|refine bct c16 ?_|refine bct c11 ?_);conv=>whnf)
       exact K _ h
      ·conv=>whnf
       repeat((first|refine dw ?_|refine bcf c16 ?_);conv=>whnf)
       revert h
       refine brk (fun c17 h=>?_) (fun c17 h=>?_)
       ·conv=>whnf
        repeat((first|refine dw ?_|refine bct c17 ?_|refine bct c11 ?_);conv=>whnf)
        exact K _ h
       ·conv=>whnf
        repeat((first|refine dw ?_|refine bcf c17 ?_);conv=>whnf)
        revert h
        refine brk (fun c18 h=>?_) (fun c18 h=>?_)
        ·conv=>whnf
         repeat((first|refine dw ?_|refine bct c18 ?_|refine bct c11 ?_);conv=>whnf)
         exact K _ h
        ·conv=>whnf
         repeat((first|refine dw ?_|refine bcf c18 ?_|refine bct c11 ?_);conv=>whnf)
         exact K _ h
    ·conv=>whnf
     repeat((first|refine dw ?_|refine bcf c11 ?_);conv=>whnf)
     exact K _ h
theorem list_Get_c  {p0:List Item} {p1:ByteArray} {r:Item × Bool} (h:list_Get_s p0 p1=some r) (hQ:Q (.tup [.agg (Item.cs r.1),.one (.p (.v (.bool r.2)))]) []):X (.call 95 [.one (.p (.sl (p0.map Item.row))),.one (.p (.v (.string p1)))] [] Q):=by
  have K:=fun a (e:some a=some r)=>ret_some (f:=fun y=>.tup [.agg (Item.cs y.1),.one (.p (.v (.bool y.2)))]) (g:=fun y=>[]) e hQ
  unfold list_Get_s at h
  refine call_intro hX Tryz.func95 rfl rfl ?_
  revert h
  refine bndk fun y1 e2 h=>?_
  conv=>whnf
  repeat((first|refine dw ?_);conv=>whnf)
  refine list_find_c hX e2 ?_
  conv=>whnf
  repeat((first|refine dw ?_);conv=>whnf)
  revert h
  refine brk (fun c3 h=>?_) (fun c3 h=>?_)
  ·revert h
   refine bndk fun x4 a5 h=>?_
   conv=>whnf
   repeat((first|refine dw ?_|refine bct c3 ?_|refine bct (at_in a5) ?_|refine bct (andt (at_in a5) rfl) ?_|refine row_in (at_row a5) ?_|refine bct (andt (at_in (at_nat a5)) rfl) ?_|refine row_in (at_row (at_nat a5)) ?_);conv=>whnf)
   exact K _ h
  ·conv=>whnf
   repeat((first|refine dw ?_|refine bcf c3 ?_);conv=>whnf)
   exact K _ h
theorem list_Both_c  {p0:List Item} {p1:List Item} {r:(List Item)} (h:list_Both_s p0 p1=some r) (hQ:Q (.one (.p (.sl (r.map Item.row)))) []):X (.call 84 [.one (.p (.sl (p0.map Item.row))),.one (.p (.sl (p1.map Item.row)))] [] Q):=by
  have K:=fun a (e:some a=some r)=>ret_some (f:=fun y=>.one (.p (.sl (y.map Item.row)))) (g:=fun y=>[]) e hQ
  unfold list_Both_s at h
  refine call_nz hX ?_
  conv=>whnf
  refine call_intro hX Tryz.func84 rfl rfl ?_
  conv=>whnf
  repeat((first|refine dw ?_);conv=>whnf)
  refine loop_k hX [8] ?_
  conv=>whnf
  refine loop_fuel3 (fun (v1:List Item) (v2:List Item) (v3:List Item)=>pad [(0,.one (.p (.sl (v1.map Item.row)))),(0,.one (.p (.sl (v3.map Item.row)))),(3,.one (.own 0))] 62) (fun (v1:List Item) (v2:List Item) (v3:List Item)=>[.rows 8 (v2.map Item.row)]) _ (fun _ _ _ h=>?_) (fun fl1 v1 v2 v3 h ih1=>?_) fuelN p0 ([]:List Item) p1 h
  ·rw [list_Both_l1] at h
   cases h
  ·rw [list_Both_l1] at h
   refine loop_intro hX ?_
   conv=>whnf
   repeat((first|refine dw ?_|refine eqv_to (map_len _) ?_);conv=>whnf)
   revert h
   refine brk (fun c4 h=>?_) (fun c4 h=>?_)
   ·conv=>whnf
    repeat((first|refine dw ?_|refine bct c4 ?_|refine eqv_to (map_len _) ?_);conv=>whnf)
    revert h
    refine brk (fun c5 h=>?_) (fun c5 h=>?_)
    ·revert h
     refine bndk fun x6 a7 h=>?_
     revert h
     refine bndk fun x8 a9 h=>?_
     conv=>whnf
     repeat((first|refine dw ?_|refine bct c5 ?_|refine bct (at_in a7) ?_|refine bct (andt (at_in a7) rfl) ?_|refine row_in (at_row a7) ?_|refine bct (andt (at_in (at_nat a7)) rfl) ?_|refine row_in (at_row (at_nat a7)) ?_|refine bct (at_in a9) ?_|refine bct (andt (at_in a9) rfl) ?_|refine row_in (at_row a9) ?_|refine bct (andt (at_in (at_nat a9)) rfl) ?_|refine row_in (at_row (at_nat a9)) ?_);conv=>whnf)
     revert h
     refine brk (fun c10 h=>?_) (fun c10 h=>?_)
     ·revert h
      refine chkk fun c11 h=>?_
      revert h
      refine chkk fun c12 h=>?_
      conv=>whnf
      repeat((first|refine dw ?_|refine bct c10 ?_|refine bct (at_in a7) ?_|refine bct (andt (at_in a7) rfl) ?_|refine row_in (at_row a7) ?_|refine bct (andt (at_in (at_nat a7)) rfl) ?_|refine row_in (at_row (at_nat a7)) ?_|refine bct (room_map c11 rfl rfl rfl rfl) ?_|refine eqv_to (cat_one (f:=Item.row) v2 x6) ?_|refine bct (drop_ok (f:=Item.row) 1 (sz:=8) c12 (fun _=>rfl)) ?_|refine eqv_to (in_drop (f:=Item.row) v1 1) ?_);conv=>whnf)
      exact ih1 (v1.drop 1) (v2++[x6]) v3 h
     ·conv=>whnf
      repeat((first|refine dw ?_|refine bcf c10 ?_|refine bct (at_in a7) ?_|refine bct (andt (at_in a7) rfl) ?_|refine row_in (at_row a7) ?_|refine bct (andt (at_in (at_nat a7)) rfl) ?_|refine row_in (at_row (at_nat a7)) ?_|refine bct (at_in a9) ?_|refine bct (andt (at_in a9) rfl) ?_|refine row_in (at_row a9) ?_|refine bct (andt (at_in (at_nat a9)) rfl) ?_|refine row_in (at_row (at_nat a9)) ?_);conv=>whnf)
      revert h
      refine brk (fun c13 h=>?_) (fun c13 h=>?_)
      ·revert h
       refine chkk fun c14 h=>?_
       revert h
       refine chkk fun c15 h=>?_
       conv=>whnf
       repeat((first|refine dw ?_|refine bct c13 ?_|refine bct (at_in a9) ?_|refine bct (andt (at_in a9) rfl) ?_|refine row_in (at_row a9) ?_|refine bct (andt (at_in (at_nat a9)) rfl) ?_|refine row_in (at_row (at_nat a9)) ?_|refine bct (room_map c14 rfl rfl rfl rfl) ?_|refine eqv_to (cat_one (f:=Item.row) v2 x8) ?_|refine bct (drop_ok (f:=Item.row) 1 (sz:=8) c15 (fun _=>rfl)) ?_|refine eqv_to (in_drop (f:=Item.row) v3 1) ?_);conv=>whnf)
       exact ih1 v1 (v2++[x8]) (v3.drop 1) h
      ·revert h
       refine bndk fun y16 e17 h=>?_
       conv=>whnf
       repeat((first|refine dw ?_|refine bcf c13 ?_|refine bct (at_in a9) ?_|refine bct (andt (at_in a9) rfl) ?_|refine row_in (at_row a9) ?_|refine bct (andt (at_in (at_nat a9)) rfl) ?_|refine row_in (at_row (at_nat a9)) ?_|refine bct (at_in a7) ?_|refine bct (andt (at_in a7) rfl) ?_|refine row_in (at_row a7) ?_|refine bct (andt (at_in (at_nat a7)) rfl) ?_|refine row_in (at_row (at_nat a7)) ?_);conv=>whnf)
       refine item_Compare_c hX e17 ?_
       conv=>whnf
       repeat((first|refine dw ?_);conv=>whnf)
       revert h
       refine brk (fun c18 h=>?_) (fun c18 h=>?_)
       ·revert h
        refine chkk fun c19 h=>?_
        conv=>whnf
        repeat((first|refine dw ?_|refine bct c18 ?_|refine bct (drop_ok (f:=Item.row) 1 (sz:=8) c19 (fun _=>rfl)) ?_|refine eqv_to (in_drop (f:=Item.row) v1 1) ?_);conv=>whnf)
        exact ih1 (v1.drop 1) v2 v3 h
       ·revert h
        refine chkk fun c20 h=>?_
        conv=>whnf
        repeat((first|refine dw ?_|refine bcf c18 ?_|refine bct (drop_ok (f:=Item.row) 1 (sz:=8) c20 (fun _=>rfl)) ?_|refine eqv_to (in_drop (f:=Item.row) v3 1) ?_);conv=>whnf)
        exact ih1 v1 v2 (v3.drop 1) h
    ·revert h
     refine chkk fun c21 h=>?_
     revert h
     refine chkk fun c22 h=>?_
     conv=>whnf
     repeat((first|refine dw ?_|refine bcf c5 ?_|refine bct (room_map c21 (List.length_map ..) rfl (rowsOk_map (f:=Item.row) (sz:=8) (fun _=>rfl) _) rfl) ?_|refine eqv_to (cat_map (f:=Item.row) v2 _) ?_|refine bct (room_map c22 (List.length_map ..) rfl (rowsOk_map (f:=Item.row) (sz:=8) (fun _=>rfl) _) rfl) ?_|refine eqv_to (cat_map (f:=Item.row) (v2++v1) _) ?_);conv=>whnf)
     exact K _ h
   ·revert h
    refine chkk fun c23 h=>?_
    revert h
    refine chkk fun c24 h=>?_
    conv=>whnf
    repeat((first|refine dw ?_|refine bcf c4 ?_|refine bct (room_map c23 (List.length_map ..) rfl (rowsOk_map (f:=Item.row) (sz:=8) (fun _=>rfl) _) rfl) ?_|refine eqv_to (cat_map (f:=Item.row) v2 _) ?_|refine bct (room_map c24 (List.length_map ..) rfl (rowsOk_map (f:=Item.row) (sz:=8) (fun _=>rfl) _) rfl) ?_|refine eqv_to (cat_map (f:=Item.row) (v2++v1) _) ?_);conv=>whnf)
    exact K _ h
end
end Go.Proofs.YtidkmoohgadjkaaGreat
set_option maxHeartbeats 0
namespace Go.Proofs.YtidkmoohgadjkaaGreat
open Go E
noncomputable section
open Pred
def know_beyond_j8 (v1:Int) (v2:Int) (v3:Int) (v4:Int) (v5:Int) (v6:Int) (v7:Int) (v8:Int):Option (V8) :=
 some (V8.mk v1 v2 v3 v4 v5 v6 v7 v8)
def know_beyond_j7 (p0:V8) (p1:V8) (v1:Int) (v2:Int) (v3:Int) (v4:Int) (v5:Int) (v6:Int) (v7:Int):Option (V8) :=
 (br (leI p0.x7 p1.x7)
  (know_beyond_j8 v1 v2 v3 v4 v5 v6 v7 0)
  (br (leI p0.x7 0)
   (know_beyond_j8 v1 v2 v3 v4 v5 v6 v7 0)
   (know_beyond_j8 v1 v2 v3 v4 v5 v6 v7 p0.x7)))
def know_beyond_j6 (p0:V8) (p1:V8) (v1:Int) (v2:Int) (v3:Int) (v4:Int) (v5:Int) (v6:Int):Option (V8) :=
 (br (leI p0.x6 p1.x6)
  (know_beyond_j7 p0 p1 v1 v2 v3 v4 v5 v6 0)
  (br (leI p0.x6 0)
   (know_beyond_j7 p0 p1 v1 v2 v3 v4 v5 v6 0)
   (know_beyond_j7 p0 p1 v1 v2 v3 v4 v5 v6 p0.x6)))
def know_beyond_j5 (p0:V8) (p1:V8) (v1:Int) (v2:Int) (v3:Int) (v4:Int) (v5:Int):Option (V8) :=
 (br (leI p0.x5 p1.x5)
  (know_beyond_j6 p0 p1 v1 v2 v3 v4 v5 0)
  (br (leI p0.x5 0)
   (know_beyond_j6 p0 p1 v1 v2 v3 v4 v5 0)
   (know_beyond_j6 p0 p1 v1 v2 v3 v4 v5 p0.x5)))
def know_beyond_j4 (p0:V8) (p1:V8) (v1:Int) (v2:Int) (v3:Int) (v4:Int):Option (V8) :=
 (br (leI p0.x4 p1.x4)
  (know_beyond_j5 p0 p1 v1 v2 v3 v4 0)
  (br (leI p0.x4 0)
   (know_beyond_j5 p0 p1 v1 v2 v3 v4 0)
   (know_beyond_j5 p0 p1 v1 v2 v3 v4 p0.x4)))
def know_beyond_j3 (p0:V8) (p1:V8) (v1:Int) (v2:Int) (v3:Int):Option (V8) :=
 (br (leI p0.x3 p1.x3)
  (know_beyond_j4 p0 p1 v1 v2 v3 0)
  (br (leI p0.x3 0)
   (know_beyond_j4 p0 p1 v1 v2 v3 0)
   (know_beyond_j4 p0 p1 v1 v2 v3 p0.x3)))
def know_beyond_j2 (p0:V8) (p1:V8) (v1:Int) (v2:Int):Option (V8) :=
 (br (leI p0.x2 p1.x2)
  (know_beyond_j3 p0 p1 v1 v2 0)
  (br (leI p0.x2 0)
   (know_beyond_j3 p0 p1 v1 v2 0)
   (know_beyond_j3 p0 p1 v1 v2 p0.x2)))
def know_beyond_j1 (p0:V8) (p1:V8) (v1:Int):Option (V8) :=
 (br (leI p0.x1 p1.x1)
  (know_beyond_j2 p0 p1 v1 0)
  (br (leI p0.x1 0)
   (know_beyond_j2 p0 p1 v1 0)
   (know_beyond_j2 p0 p1 v1 p0.x1)))
def know_beyond_s (p0:V8) (p1:V8):Option (V8) :=
 (br (leI p0.x0 p1.x0)
  (know_beyond_j1 p0 p1 0)
  (br (leI p0.x0 0)
   (know_beyond_j1 p0 p1 0)
   (know_beyond_j1 p0 p1 p0.x0)))
def know_alike_l2 (x4:Frag) (k1:Option (Bool)):List ByteArray→Int→Option (Bool)
  | [],v8 =>
  (k1 )
  | x2e::xs2,v8 =>
  (bnd (atL x4.ids v8) fun x9 =>
   (br (!eqS x2e x9)
    (some false)
    (know_alike_l2 x4 k1 xs2 (v8 + 1) )))
def know_alike_l1 (p1:Know):List Frag→Int→Option (Bool)
  | [],v3 =>
  some true
  | x1e::xs1,v3 =>
  (bnd (atL p1.l v3) fun x4 =>
   (br (eq8 x1e.vec x4.vec)
    (br (!eqI (x1e.ids.length:Int) (x4.ids.length:Int))
     (some false)
     (chk (smallL x1e.ids)
       ((know_alike_l2 x4 (know_alike_l1 p1 xs1 (v3 + 1))) x1e.ids 0 )))
    (some false)))
def know_alike_s (p0:Know) (p1:Know):Option (Bool) :=
 (br (eq8 p0.star p1.star)
  (br (!eqI (p0.l.length:Int) (p1.l.length:Int))
   (some false)
   (chk (smallL p0.l)
     ((know_alike_l1 p1) p0.l 0 )))
  (some false))
variable {X:Task→Prop} (hX:Closed X) {Q:A→List Blk→Prop}
include hX
theorem know_beyond_c  {p0:V8} {p1:V8} {r:V8} (h:know_beyond_s p0 p1=some r) (hQ:Q (.agg (V8.cs r)) []):X (.call 202 [.agg (V8.cs p0),.agg (V8.cs p1)] [] Q):=by
  unfold know_beyond_s at h
  refine call_intro hX Tryz.func202 rfl rfl ?_
  conv=>whnf
  repeat((first|refine dw ?_);conv=>whnf)
  refine loop_intro hX ?_
  apply join1 (X:=X) (r:=r) (fun (v1:Int)=>pad [(2,.one (.ptr 0 0)),(0,.one (.ptr 1 0)),(0,.one (.ptr 2 0)),(2,.agg (V8.cs p0)),(0,iv 0)] 16) (fun (v1:Int)=>[.box [ic v1,ic p0.x1,ic p0.x2,ic p0.x3,ic p0.x4,ic p0.x5,ic p0.x6,ic p0.x7],.box (V8.cs p1),.box [ic 0,ic 0,ic 0,ic 0,ic 0,ic 0,ic 0,ic 0]])
  ·intro tl1
   conv=>whnf
   repeat((first|refine dw ?_);conv=>whnf)
   refine br_some h (fun c23 g=>?_) (fun c23 g=>?_)
   ·replace h:=g
    clear g
    conv=>whnf
    repeat((first|refine dw ?_|refine bct c23 ?_);conv=>whnf)
    exact tl1.h 0 h
   ·replace h:=g
    clear g
    conv=>whnf
    repeat((first|refine dw ?_|refine bcf c23 ?_);conv=>whnf)
    refine br_some h (fun c24 g=>?_) (fun c24 g=>?_)
    ·replace h:=g
     clear g
     conv=>whnf
     repeat((first|refine dw ?_|refine bct c24 ?_);conv=>whnf)
     exact tl1.h 0 h
    ·replace h:=g
     clear g
     conv=>whnf
     repeat((first|refine dw ?_|refine bcf c24 ?_);conv=>whnf)
     exact tl1.h p0.x0 h
  ·intro v1 h
   unfold know_beyond_j1 at h
   refine rest_intro hX ?_
   conv=>whnf
   repeat((first|refine dw ?_);conv=>whnf)
   refine loop_intro hX ?_
   apply join1 (X:=X) (r:=r) (fun (v2:Int)=>pad [(2,.one (.ptr 0 0)),(0,.one (.ptr 1 0)),(0,.one (.ptr 2 0)),(2,.agg (V8.cs p0)),(0,iv 1)] 16) (fun (v2:Int)=>[.box [ic v1,ic v2,ic p0.x2,ic p0.x3,ic p0.x4,ic p0.x5,ic p0.x6,ic p0.x7],.box (V8.cs p1),.box [ic 0,ic 0,ic 0,ic 0,ic 0,ic 0,ic 0,ic 0]])
   ·intro tl2
    conv=>whnf
    repeat((first|refine dw ?_);conv=>whnf)
    refine br_some h (fun c21 g=>?_) (fun c21 g=>?_)
    ·replace h:=g
     clear g
     conv=>whnf
     repeat((first|refine dw ?_|refine bct c21 ?_);conv=>whnf)
     exact tl2.h 0 h
    ·replace h:=g
     clear g
     conv=>whnf
     repeat((first|refine dw ?_|refine bcf c21 ?_);conv=>whnf)
     refine br_some h (fun c22 g=>?_) (fun c22 g=>?_)
     ·replace h:=g
      clear g
      conv=>whnf
      repeat((first|refine dw ?_|refine bct c22 ?_);conv=>whnf)
      exact tl2.h 0 h
     ·replace h:=g
      clear g
      conv=>whnf
      repeat((first|refine dw ?_|refine bcf c22 ?_);conv=>whnf)
      exact tl2.h p0.x1 h
   ·intro v2 h
    unfold know_beyond_j2 at h
    refine rest_intro hX ?_
    conv=>whnf
    repeat((first|refine dw ?_);conv=>whnf)
    refine loop_intro hX ?_
    apply join1 (X:=X) (r:=r) (fun (v3:Int)=>pad [(2,.one (.ptr 0 0)),(0,.one (.ptr 1 0)),(0,.one (.ptr 2 0)),(2,.agg (V8.cs p0)),(0,iv 2)] 16) (fun (v3:Int)=>[.box [ic v1,ic v2,ic v3,ic p0.x3,ic p0.x4,ic p0.x5,ic p0.x6,ic p0.x7],.box (V8.cs p1),.box [ic 0,ic 0,ic 0,ic 0,ic 0,ic 0,ic 0,ic 0]])
    ·intro tl3
     conv=>whnf
     repeat((first|refine dw ?_);conv=>whnf)
     refine br_some h (fun c19 g=>?_) (fun c19 g=>?_)
     ·replace h:=g
      clear g
      conv=>whnf
      repeat((first|refine dw ?_|refine bct c19 ?_);conv=>whnf)
      exact tl3.h 0 h
     ·replace h:=g
      clear g
      conv=>whnf
      repeat((first|refine dw ?_|refine bcf c19 ?_);conv=>whnf)
      refine br_some h (fun c20 g=>?_) (fun c20 g=>?_)
      ·replace h:=g
       clear g
       conv=>whnf
       repeat((first|refine dw ?_|refine bct c20 ?_);conv=>whnf)
       exact tl3.h 0 h
      ·replace h:=g
       clear g
       conv=>whnf
       repeat((first|refine dw ?_|refine bcf c20 ?_);conv=>whnf)
       exact tl3.h p0.x2 h
    ·intro v3 h
     unfold know_beyond_j3 at h
     refine rest_intro hX ?_
     conv=>whnf
     repeat((first|refine dw ?_);conv=>whnf)
     refine loop_intro hX ?_
     apply join1 (X:=X) (r:=r) (fun (v4:Int)=>pad [(2,.one (.ptr 0 0)),(0,.one (.ptr 1 0)),(0,.one (.ptr 2 0)),(2,.agg (V8.cs p0)),(0,iv 3)] 16) (fun (v4:Int)=>[.box [ic v1,ic v2,ic v3,ic v4,ic p0.x4,ic p0.x5,ic p0.x6,ic p0.x7],.box (V8.cs p1),.box [ic 0,ic 0,ic 0,ic 0,ic 0,ic 0,ic 0,ic 0]])
     ·intro tl4
      conv=>whnf
      repeat((first|refine dw ?_);conv=>whnf)
      refine br_some h (fun c17 g=>?_) (fun c17 g=>?_)
      ·replace h:=g
       clear g
       conv=>whnf
       repeat((first|refine dw ?_|refine bct c17 ?_);conv=>whnf)
       exact tl4.h 0 h
      ·replace h:=g
       clear g
       conv=>whnf
       repeat((first|refine dw ?_|refine bcf c17 ?_);conv=>whnf)
       refine br_some h (fun c18 g=>?_) (fun c18 g=>?_)
       ·replace h:=g
        clear g
        conv=>whnf
        repeat((first|refine dw ?_|refine bct c18 ?_);conv=>whnf)
        exact tl4.h 0 h
       ·replace h:=g
        clear g
        conv=>whnf
        repeat((first|refine dw ?_|refine bcf c18 ?_);conv=>whnf)
        exact tl4.h p0.x3 h
     ·intro v4 h
      unfold know_beyond_j4 at h
      refine rest_intro hX ?_
      conv=>whnf
      repeat((first|refine dw ?_);conv=>whnf)
      refine loop_intro hX ?_
      apply join1 (X:=X) (r:=r) (fun (v5:Int)=>pad [(2,.one (.ptr 0 0)),(0,.one (.ptr 1 0)),(0,.one (.ptr 2 0)),(2,.agg (V8.cs p0)),(0,iv 4)] 16) (fun (v5:Int)=>[.box [ic v1,ic v2,ic v3,ic v4,ic v5,ic p0.x5,ic p0.x6,ic p0.x7],.box (V8.cs p1),.box [ic 0,ic 0,ic 0,ic 0,ic 0,ic 0,ic 0,ic 0]])
      ·intro tl5
       conv=>whnf
       repeat((first|refine dw ?_);conv=>whnf)
       refine br_some h (fun c15 g=>?_) (fun c15 g=>?_)
       ·replace h:=g
        clear g
        conv=>whnf
        repeat((first|refine dw ?_|refine bct c15 ?_);conv=>whnf)
        exact tl5.h 0 h
       ·replace h:=g
        clear g
        conv=>whnf
        repeat((first|refine dw ?_|refine bcf c15 ?_);conv=>whnf)
        refine br_some h (fun c16 g=>?_) (fun c16 g=>?_)
        ·replace h:=g
         clear g
         conv=>whnf
         repeat((first|refine dw ?_|refine bct c16 ?_);conv=>whnf)
         exact tl5.h 0 h
        ·replace h:=g
         clear g
         conv=>whnf
         repeat((first|refine dw ?_|refine bcf c16 ?_);conv=>whnf)
         exact tl5.h p0.x4 h
      ·intro v5 h
       unfold know_beyond_j5 at h
       refine rest_intro hX ?_
       conv=>whnf
       repeat((first|refine dw ?_);conv=>whnf)
       refine loop_intro hX ?_
       apply join1 (X:=X) (r:=r) (fun (v6:Int)=>pad [(2,.one (.ptr 0 0)),(0,.one (.ptr 1 0)),(0,.one (.ptr 2 0)),(2,.agg (V8.cs p0)),(0,iv 5)] 16) (fun (v6:Int)=>[.box [ic v1,ic v2,ic v3,ic v4,ic v5,ic v6,ic p0.x6,ic p0.x7],.box (V8.cs p1),.box [ic 0,ic 0,ic 0,ic 0,ic 0,ic 0,ic 0,ic 0]])
       ·intro tl6
        conv=>whnf
        repeat((first|refine dw ?_);conv=>whnf)
        refine br_some h (fun c13 g=>?_) (fun c13 g=>?_)
        ·replace h:=g
         clear g
         conv=>whnf
         repeat((first|refine dw ?_|refine bct c13 ?_);conv=>whnf)
         exact tl6.h 0 h
        ·replace h:=g
         clear g
         conv=>whnf
         repeat((first|refine dw ?_|refine bcf c13 ?_);conv=>whnf)
         refine br_some h (fun c14 g=>?_) (fun c14 g=>?_)
         ·replace h:=g
          clear g
          conv=>whnf
          repeat((first|refine dw ?_|refine bct c14 ?_);conv=>whnf)
          exact tl6.h 0 h
         ·replace h:=g
          clear g
          conv=>whnf
          repeat((first|refine dw ?_|refine bcf c14 ?_);conv=>whnf)
          exact tl6.h p0.x5 h
       ·intro v6 h
        unfold know_beyond_j6 at h
        refine rest_intro hX ?_
        conv=>whnf
        repeat((first|refine dw ?_);conv=>whnf)
        refine loop_intro hX ?_
        apply join1 (X:=X) (r:=r) (fun (v7:Int)=>pad [(2,.one (.ptr 0 0)),(0,.one (.ptr 1 0)),(0,.one (.ptr 2 0)),(2,.agg (V8.cs p0)),(0,iv 6)] 16) (fun (v7:Int)=>[.box [ic v1,ic v2,ic v3,ic v4,ic v5,ic v6,ic v7,ic p0.x7],.box (V8.cs p1),.box [ic 0,ic 0,ic 0,ic 0,ic 0,ic 0,ic 0,ic 0]])
        ·intro tl7
         conv=>whnf
         repeat((first|refine dw ?_);conv=>whnf)
         refine br_some h (fun c11 g=>?_) (fun c11 g=>?_)
         ·replace h:=g
          clear g
          conv=>whnf
          repeat((first|refine dw ?_|refine bct c11 ?_);conv=>whnf)
          exact tl7.h 0 h
         ·replace h:=g
          clear g
          conv=>whnf
          repeat((first|refine dw ?_|refine bcf c11 ?_);conv=>whnf)
          refine br_some h (fun c12 g=>?_) (fun c12 g=>?_)
          ·replace h:=g
           clear g
           conv=>whnf
           repeat((first|refine dw ?_|refine bct c12 ?_);conv=>whnf)
           exact tl7.h 0 h
          ·replace h:=g
           clear g
           conv=>whnf
           repeat((first|refine dw ?_|refine bcf c12 ?_);conv=>whnf)
           exact tl7.h p0.x6 h
        ·intro v7 h
         unfold know_beyond_j7 at h
         refine rest_intro hX ?_
         conv=>whnf
         repeat((first|refine dw ?_);conv=>whnf)
         refine loop_intro hX ?_
         apply join1 (X:=X) (r:=r) (fun (v8:Int)=>pad [(2,.one (.ptr 0 0)),(0,.one (.ptr 1 0)),(0,.one (.ptr 2 0)),(2,.agg (V8.cs p0)),(0,iv 7)] 16) (fun (v8:Int)=>[.box [ic v1,ic v2,ic v3,ic v4,ic v5,ic v6,ic v7,ic v8],.box (V8.cs p1),.box [ic 0,ic 0,ic 0,ic 0,ic 0,ic 0,ic 0,ic 0]])
         ·intro tl8
          conv=>whnf
          repeat((first|refine dw ?_);conv=>whnf)
          refine br_some h (fun c9 g=>?_) (fun c9 g=>?_)
          ·replace h:=g
           clear g
           conv=>whnf
           repeat((first|refine dw ?_|refine bct c9 ?_);conv=>whnf)
           exact tl8.h 0 h
          ·replace h:=g
           clear g
           conv=>whnf
           repeat((first|refine dw ?_|refine bcf c9 ?_);conv=>whnf)
           refine br_some h (fun c10 g=>?_) (fun c10 g=>?_)
           ·replace h:=g
            clear g
            conv=>whnf
            repeat((first|refine dw ?_|refine bct c10 ?_);conv=>whnf)
            exact tl8.h 0 h
           ·replace h:=g
            clear g
            conv=>whnf
            repeat((first|refine dw ?_|refine bcf c10 ?_);conv=>whnf)
            exact tl8.h p0.x7 h
         ·intro v8 h
          unfold know_beyond_j8 at h
          refine rest_intro hX ?_
          conv=>whnf
          repeat((first|refine dw ?_);conv=>whnf)
          refine loop_intro hX ?_
          conv=>whnf
          repeat((first|refine dw ?_);conv=>whnf)
          exact ret_some (f:=fun y=>.agg (V8.cs y)) (g:=fun y=>[]) h hQ
theorem know_alike_c  {p0:Know} {p1:Know} {r:Bool} (h:know_alike_s p0 p1=some r) (hQ:Q (.one (.p (.v (.bool r)))) []):X (.call 144 [.agg (Know.cs p0),.agg (Know.cs p1)] [] Q):=by
  have K:=fun a (e:some a=some r)=>ret_some (f:=fun y=>.one (.p (.v (.bool y)))) (g:=fun y=>[]) e hQ
  unfold know_alike_s at h
  refine call_intro hX Tryz.func144 rfl rfl ?_
  conv=>whnf
  repeat((first|refine dw ?_);conv=>whnf)
  revert h
  refine brk (fun c1 h=>?_) (fun c1 h=>?_)
  ·conv=>whnf
   repeat((first|refine dw ?_|with_reducible refine bct (eq8_b c1) ?_|refine bct c1 ?_);conv=>whnf)
   refine call_intro hX Tryz.func197 rfl rfl ?_
   conv=>whnf
   repeat((first|refine dw ?_|refine eqv_to (map_len _) ?_);conv=>whnf)
   revert h
   refine brk (fun c2 h=>?_) (fun c2 h=>?_)
   ·conv=>whnf
    repeat((first|refine dw ?_|refine bct c2 ?_|with_reducible refine bct (eq8_b c1) ?_|refine bct c1 ?_);conv=>whnf)
    exact K _ h
   ·revert h
    refine chkk fun hs1 h=>?_
    conv=>whnf
    repeat((first|refine dw ?_|refine bcf c2 ?_|refine eqv_to (map_len _) ?_);conv=>whnf)
    refine loop_list0 (fun (v3:Int)=>pad [(1,.one (.p (.sl (p1.l.map Frag.row)))),(0,.one (.fn 198 [])),(12,.one (.p (.sl (p0.l.map Frag.row)))),(0,iv (p0.l.length:Int)),(0,iv v3)] 14) (fun (v3:Int)=>[]) _ p0.l (fun pre1 x1e xs1 v3  hl1 hi1 h ih1=>?_) (fun v3  hi1 h=>?_)  h
    ·rw [know_alike_l1] at h
     have am1:=at_mid hl1 hi1
     refine loop_intro hX ?_
     revert h
     refine bndk fun x4 a5 h=>?_
     conv=>whnf
     repeat((first|refine dw ?_|refine bct (lt_mid hl1 hi1) ?_|refine bct (at_in am1) ?_|refine bct (andt (at_in am1) rfl) ?_|refine row_in (at_row am1) ?_|refine bct (andt (at_in (at_nat am1)) rfl) ?_|refine row_in (at_row (at_nat am1)) ?_|refine bct (at_in a5) ?_|refine bct (andt (at_in a5) rfl) ?_|refine row_in (at_row a5) ?_|refine bct (andt (at_in (at_nat a5)) rfl) ?_|refine row_in (at_row (at_nat a5)) ?_);conv=>whnf)
     refine call_intro hX Tryz.func198 rfl rfl ?_
     conv=>whnf
     repeat((first|refine dw ?_);conv=>whnf)
     revert h
     refine brk (fun c6 h=>?_) (fun c6 h=>?_)
     ·conv=>whnf
      repeat((first|refine dw ?_|with_reducible refine bct (eq8_b c6) ?_|refine bct c6 ?_);conv=>whnf)
      refine call_intro hX Tryz.func199 rfl rfl ?_
      conv=>whnf
      repeat((first|refine dw ?_|refine eqv_to (map_len _) ?_);conv=>whnf)
      revert h
      refine brk (fun c7 h=>?_) (fun c7 h=>?_)
      ·conv=>whnf
       repeat((first|refine dw ?_|refine bct c7 ?_|with_reducible refine bct (eq8_b c6) ?_|with_reducible refine bct (eq8_b c1) ?_|refine bct c6 ?_|refine bct c1 ?_);conv=>whnf)
       exact K _ h
      ·revert h
       refine chkk fun hs2 h=>?_
       conv=>whnf
       repeat((first|refine dw ?_|refine bcf c7 ?_|refine eqv_to (map_len _) ?_);conv=>whnf)
       refine loop_list0 (fun (v8:Int)=>pad [(0,.one (.p (.sl (x1e.ids.map srw)))),(0,.one (.p (.sl (x4.ids.map srw)))),(10,iv (x1e.ids.length:Int)),(0,iv v8)] 12) (fun (v8:Int)=>[]) _ x1e.ids (fun pre2 x2e xs2 v8  hl2 hi2 h ih2=>?_) (fun v8  hi2 h=>?_)  h
       ·rw [know_alike_l2] at h
        have am2:=at_mid hl2 hi2
        refine loop_intro hX ?_
        revert h
        refine bndk fun x9 a10 h=>?_
        conv=>whnf
        repeat((first|refine dw ?_|refine bct (lt_mid hl2 hi2) ?_|refine bct (at_in am2) ?_|refine bct (andt (at_in am2) rfl) ?_|refine row_in (at_row am2) ?_|refine bct (andt (at_in (at_nat am2)) rfl) ?_|refine row_in (at_row (at_nat am2)) ?_|refine bct (at_in a10) ?_|refine bct (andt (at_in a10) rfl) ?_|refine row_in (at_row a10) ?_|refine bct (andt (at_in (at_nat a10)) rfl) ?_|refine row_in (at_row (at_nat a10)) ?_);conv=>whnf)
        revert h
        refine brk (fun c11 h=>?_) (fun c11 h=>?_)
        ·conv=>whnf
         repeat((first|refine dw ?_|refine bct c11 ?_|with_reducible refine bct (eq8_b c6) ?_|with_reducible refine bct (eq8_b c1) ?_|refine bct c6 ?_|refine bct c1 ?_);conv=>whnf)
         exact K _ h
        ·conv=>whnf
         repeat((first|refine dw ?_|refine bcf c11 ?_);conv=>whnf)
         exact ih2 _  (wrL hs2 hl2 hi2) h
       ·rw [know_alike_l2] at h
        refine loop_intro hX ?_
        conv=>whnf
        repeat((first|refine dw ?_|refine bcf (lt_end hi2) ?_|with_reducible refine bct (eq8_b c6) ?_|refine bct c6 ?_);conv=>whnf)
        exact ih1 _  (wrL hs1 hl1 hi1) h
     ·conv=>whnf
      repeat((first|refine dw ?_|with_reducible refine bcf (eq8_b c6) ?_|with_reducible refine bct (eq8_b c1) ?_|refine bcf c6 ?_|refine bct c1 ?_);conv=>whnf)
      exact K _ h
    ·rw [know_alike_l1] at h
     refine loop_intro hX ?_
     conv=>whnf
     repeat((first|refine dw ?_|refine bcf (lt_end hi1) ?_|with_reducible refine bct (eq8_b c1) ?_|refine bct c1 ?_);conv=>whnf)
     exact K _ h
  ·conv=>whnf
   repeat((first|refine dw ?_|with_reducible refine bcf (eq8_b c1) ?_|refine bcf c1 ?_);conv=>whnf)
   exact K _ h
end
end Go.Proofs.YtidkmoohgadjkaaGreat
set_option maxHeartbeats 0
namespace Go.Proofs.YtidkmoohgadjkaaGreat
open Go E
noncomputable section
open Pred
def know_Plain_l2 (x1e:Frag) (k1:(List (ByteArray × V8))→Option (Know)):List ByteArray→(List (ByteArray × V8))→Option (Know)
  | [],v4 =>
  (k1 v4)
  | x2e::xs2,v4 =>
  (opt (mget srw v4 x2e) (fun x5 =>
   (bnd (vec_Max_s x5 x1e.vec) fun y7 =>
    (know_Plain_l2 x1e k1 xs2  (mset srw v4 x2e y7))))
   (bnd (vec_Max_s (V8.mk 0 0 0 0 0 0 0 0) x1e.vec) fun y9 =>
    (know_Plain_l2 x1e k1 xs2  (mset srw v4 x2e y9))))
def know_Plain_l4 (p0:Know) (v2:List (ByteArray × V8)):List ByteArray→(List Frag)→(List (V8 × Int))→Option (Know)
  | [],v26,v27 =>
  some (Know.mk p0.star v26)
  | x4e::xs4,v26,v27 =>
  (opt (mget srw v2 x4e) (fun x28 =>
   (bnd (know_beyond_s x28 p0.star) fun y30 =>
    (br (eq8 y30 (V8.mk 0 0 0 0 0 0 0 0))
     (know_Plain_l4 p0 v2 xs4  v26 v27)
     (opt (mget V8.row v27 y30) (fun x33 =>
      (bnd (atL v26 x33) fun x35 =>
       (chk (roomL x35.ids.length 1)
        (know_Plain_l4 p0 v2 xs4  (v26.set x33.toNat (Frag.mk (x35.ids++[x4e]) x35.vec)) v27))))
      (chk (roomL v26.length 1)
       (bnd (atL (v26++[(Frag.mk ([]:List ByteArray) y30)]) (v26.length:Int)) fun x40 =>
        (chk (roomL x40.ids.length 1)
         (know_Plain_l4 p0 v2 xs4  ((v26++[(Frag.mk ([]:List ByteArray) y30)]).set (v26.length:Int).toNat (Frag.mk (x40.ids++[x4e]) x40.vec)) (mset V8.row v27 y30 (v26.length:Int))))))))))
   (bnd (know_beyond_s (V8.mk 0 0 0 0 0 0 0 0) p0.star) fun y43 =>
    (br (eq8 y43 (V8.mk 0 0 0 0 0 0 0 0))
     (know_Plain_l4 p0 v2 xs4  v26 v27)
     (opt (mget V8.row v27 y43) (fun x46 =>
      (bnd (atL v26 x46) fun x48 =>
       (chk (roomL x48.ids.length 1)
        (know_Plain_l4 p0 v2 xs4  (v26.set x46.toNat (Frag.mk (x48.ids++[x4e]) x48.vec)) v27))))
      (chk (roomL v26.length 1)
       (bnd (atL (v26++[(Frag.mk ([]:List ByteArray) y43)]) (v26.length:Int)) fun x53 =>
        (chk (roomL x53.ids.length 1)
         (know_Plain_l4 p0 v2 xs4  ((v26++[(Frag.mk ([]:List ByteArray) y43)]).set (v26.length:Int).toNat (Frag.mk (x53.ids++[x4e]) x53.vec)) (mset V8.row v27 y43 (v26.length:Int))))))))))
def know_Plain_l5 (p0:Know) (v2:List (ByteArray × V8)):List ByteArray→(List Frag)→(List (V8 × Int))→Option (Know)
  | [],v64,v65 =>
  some (Know.mk p0.star v64)
  | x5e::xs5,v64,v65 =>
  (opt (mget srw v2 x5e) (fun x66 =>
   (bnd (know_beyond_s x66 p0.star) fun y68 =>
    (br (eq8 y68 (V8.mk 0 0 0 0 0 0 0 0))
     (know_Plain_l5 p0 v2 xs5  v64 v65)
     (opt (mget V8.row v65 y68) (fun x71 =>
      (bnd (atL v64 x71) fun x73 =>
       (chk (roomL x73.ids.length 1)
        (know_Plain_l5 p0 v2 xs5  (v64.set x71.toNat (Frag.mk (x73.ids++[x5e]) x73.vec)) v65))))
      (chk (roomL v64.length 1)
       (bnd (atL (v64++[(Frag.mk ([]:List ByteArray) y68)]) (v64.length:Int)) fun x78 =>
        (chk (roomL x78.ids.length 1)
         (know_Plain_l5 p0 v2 xs5  ((v64++[(Frag.mk ([]:List ByteArray) y68)]).set (v64.length:Int).toNat (Frag.mk (x78.ids++[x5e]) x78.vec)) (mset V8.row v65 y68 (v64.length:Int))))))))))
   (bnd (know_beyond_s (V8.mk 0 0 0 0 0 0 0 0) p0.star) fun y81 =>
    (br (eq8 y81 (V8.mk 0 0 0 0 0 0 0 0))
     (know_Plain_l5 p0 v2 xs5  v64 v65)
     (opt (mget V8.row v65 y81) (fun x84 =>
      (bnd (atL v64 x84) fun x86 =>
       (chk (roomL x86.ids.length 1)
        (know_Plain_l5 p0 v2 xs5  (v64.set x84.toNat (Frag.mk (x86.ids++[x5e]) x86.vec)) v65))))
      (chk (roomL v64.length 1)
       (bnd (atL (v64++[(Frag.mk ([]:List ByteArray) y81)]) (v64.length:Int)) fun x91 =>
        (chk (roomL x91.ids.length 1)
         (know_Plain_l5 p0 v2 xs5  ((v64++[(Frag.mk ([]:List ByteArray) y81)]).set (v64.length:Int).toNat (Frag.mk (x91.ids++[x5e]) x91.vec)) (mset V8.row v65 y81 (v64.length:Int))))))))))
def know_Plain_l3 (p0:Know) (v2:List (ByteArray × V8)):List ByteArray→Option (Know)
  | [] =>
  some (Know.mk p0.star [])
  | x3e::xs3 =>
  (opt (mget srw v2 x3e) (fun x16 =>
   (bnd (know_beyond_s x16 p0.star) fun y18 =>
    (br (eq8 y18 (V8.mk 0 0 0 0 0 0 0 0))
     (know_Plain_l3 p0 v2 xs3  )
     (opt (mget V8.row ([]:List (V8 × Int)) y18) (fun x21 =>
      none)
      (chk (roomL 0 1)
       ((know_Plain_l4 p0 v2) xs3 [(Frag.mk [x3e] y18)] (mset V8.row ([]:List (V8 × Int)) y18 0)))))))
   (bnd (know_beyond_s (V8.mk 0 0 0 0 0 0 0 0) p0.star) fun y56 =>
    (br (eq8 y56 (V8.mk 0 0 0 0 0 0 0 0))
     (know_Plain_l3 p0 v2 xs3  )
     (opt (mget V8.row ([]:List (V8 × Int)) y56) (fun x59 =>
      none)
      (chk (roomL 0 1)
       ((know_Plain_l5 p0 v2) xs3 [(Frag.mk [x3e] y56)] (mset V8.row ([]:List (V8 × Int)) y56 0)))))))
def know_Plain_l1 (p0:Know):List Frag→(List (ByteArray × V8))→Option (Know)
  | [],v2 =>
  (bnd (sorted_s v2) fun y11 =>
   (chk (smallL y11)
     ((know_Plain_l3 p0 v2) y11 )))
  | x1e::xs1,v2 =>
  (chk (smallL x1e.ids)
    ((know_Plain_l2 x1e (fun w0=>know_Plain_l1 p0 xs1  w0)) x1e.ids v2))
def know_Plain_s (p0:Know):Option (Know) :=
 (chk (smallL p0.l)
   ((know_Plain_l1 p0) p0.l ([]:List (ByteArray × V8))))
variable {X:Task→Prop} (hX:Closed X) {Q:A→List Blk→Prop}
include hX
theorem know_Plain_c  {p0:Know} {r:Know} (h:know_Plain_s p0=some r) (hQ:Q (.agg (Know.cs r)) []):X (.call 145 [.agg (Know.cs p0)] [] Q):=by
  have K:=fun a (e:some a=some r)=>ret_some (f:=fun y=>.agg (Know.cs y)) (g:=fun y=>[]) e hQ
  unfold know_Plain_s at h
  refine call_nz hX ?_
  conv=>whnf
  refine call_intro hX Tryz.func145 rfl rfl ?_
  revert h
  refine chkk fun hs1 h=>?_
  conv=>whnf
  repeat((first|refine dw ?_|refine eqv_to (map_len _) ?_);conv=>whnf)
  refine loop_lisx1 (fun (v1:Int) (v2:List (ByteArray × V8))=>pad [(1,.one (.ptr 0 0)),(0,.one (.ptr 1 0)),(0,.one (.mp 3)),(13,.one (.p (.sl (p0.l.map Frag.row)))),(0,iv (p0.l.length:Int)),(0,iv v1)] 78) (fun (v1:Int) (v2:List (ByteArray × V8))=>[.box (Know.cs p0),.box [ic 0,ic 0,ic 0,ic 0,ic 0,ic 0,ic 0,ic 0,.own 2],.rows 0 [],.mp .str true (v2.map fun e=>(srw e.1,V8.row e.2))]) _ p0.l (fun pre1 x1e xs1 v1 v2 hl1 hi1 h ih1=>?_) (fun v1 v2 hi1 h=>?_) ([]:List (ByteArray × V8)) h
  ·rw [know_Plain_l1] at h
   have am1:=at_mid hl1 hi1
   refine loop_intro hX ?_
   revert h
   refine chkk fun hs2 h=>?_
   conv=>whnf
   repeat((first|refine dw ?_|refine bct (lt_mid hl1 hi1) ?_|refine bct (at_in am1) ?_|refine bct (andt (at_in am1) rfl) ?_|refine row_in (at_row am1) ?_|refine bct (andt (at_in (at_nat am1)) rfl) ?_|refine row_in (at_row (at_nat am1)) ?_|refine eqv_to (map_len _) ?_);conv=>whnf)
   refine loop_lisx1 (fun (v3:Int) (v4:List (ByteArray × V8))=>pad [(1,.one (.ptr 0 0)),(0,.one (.ptr 1 0)),(0,.one (.mp 3)),(1,.one (.ptr 4 0)),(11,.one (.p (.sl (p0.l.map Frag.row)))),(0,iv (p0.l.length:Int)),(0,iv v1),(4,.one (.p (.sl (x1e.ids.map srw)))),(0,iv (x1e.ids.length:Int)),(0,iv v3)] 71) (fun (v3:Int) (v4:List (ByteArray × V8))=>[.box (Know.cs p0),.box [ic 0,ic 0,ic 0,ic 0,ic 0,ic 0,ic 0,ic 0,.own 2],.rows 0 [],.mp .str true (v4.map fun e=>(srw e.1,V8.row e.2)),.box (Frag.cs x1e)]) _ x1e.ids (fun pre2 x2e xs2 v3 v4 hl2 hi2 h ih2=>?_) (fun v3 v4 hi2 h=>?_) v2 h
   ·rw [know_Plain_l2] at h
    have am2:=at_mid hl2 hi2
    refine loop_intro hX ?_
    conv=>whnf
    repeat((first|refine dw ?_|refine bct (lt_mid hl2 hi2) ?_|refine bct (at_in am2) ?_|refine bct (andt (at_in am2) rfl) ?_|refine row_in (at_row am2) ?_|refine bct (andt (at_in (at_nat am2)) rfl) ?_|refine row_in (at_row (at_nat am2)) ?_);conv=>whnf)
    refine map_look h (fun x5 e6 h=>?_) (fun e6 h=>?_) (get_mp (f:=srw) (g:=V8.row) _ x2e)
    ·revert h
     refine bndk fun y7 e8 h=>?_
     conv=>whnf
     repeat((first|refine dw ?_);conv=>whnf)
     refine vec_Max_c hX e8 ?_
     conv=>whnf
     repeat((first|refine dw ?_|refine eqv_to (set_mp (f:=srw) (g:=V8.row) v4 x2e y7) ?_);conv=>whnf)
     exact ih2 _ (mset srw v4 x2e y7) (wrL hs2 hl2 hi2) h
    ·revert h
     refine bndk fun y9 e10 h=>?_
     conv=>whnf
     repeat((first|refine dw ?_);conv=>whnf)
     refine vec_Max_c hX e10 ?_
     conv=>whnf
     repeat((first|refine dw ?_|refine eqv_to (set_mp (f:=srw) (g:=V8.row) v4 x2e y9) ?_);conv=>whnf)
     exact ih2 _ (mset srw v4 x2e y9) (wrL hs2 hl2 hi2) h
   ·rw [know_Plain_l2] at h
    refine loop_intro hX ?_
    conv=>whnf
    repeat((first|refine dw ?_|refine bcf (lt_end hi2) ?_);conv=>whnf)
    exact ih1 _ v4 (wrL hs1 hl1 hi1) h
  ·rw [know_Plain_l1] at h
   refine loop_intro hX ?_
   conv=>whnf
   repeat((first|refine dw ?_|refine bcf (lt_end hi1) ?_);conv=>whnf)
   refine call_intro hX Tryz.func201 rfl rfl ?_
   revert h
   refine bndk fun y11 e12 h=>?_
   conv=>whnf
   repeat((first|refine dw ?_);conv=>whnf)
   refine Or.inl ?_
   conv=>whnf
   refine sorted_c (g:=V8.row) hX e12 ?_
   revert h
   refine chkk fun hs3 h=>?_
   conv=>whnf
   repeat((first|refine dw ?_|refine eqv_to (map_len _) ?_);conv=>whnf)
   refine loop_nc hX ?_
   conv=>whnf
   refine loop_lisx0 (fun (v15:Int)=>pad [(1,.one (.ptr 0 0)),(0,.one (.ptr 1 0)),(0,.one (.mp 3)),(4,.one (.ptr 4 0)),(0,.one (.mp 6)),(36,.one (.own 7)),(0,iv (y11.length:Int)),(0,iv v15)] 49) (fun (v15:Int)=>[.box (Know.cs p0),.box [ic 0,ic 0,ic 0,ic 0,ic 0,ic 0,ic 0,ic 0,.own 2],.rows 0 [],.mp .str true (v2.map fun e=>(srw e.1,V8.row e.2)),.box [ic p0.star.x0,ic p0.star.x1,ic p0.star.x2,ic p0.star.x3,ic p0.star.x4,ic p0.star.x5,ic p0.star.x6,ic p0.star.x7,.own 5],.rows 0 [],.mp (.ints .i64 8) false (([]:List (V8 × Int)).map fun e=>(V8.row e.1,irw e.2)),.rows 1 (y11.map srw)]) _ y11 (fun pre3 x3e xs3 v15  hl3 hi3 h ih3=>?_) (fun v15  hi3 h=>?_)  h
   ·rw [know_Plain_l3] at h
    have am3:=at_mid hl3 hi3
    refine loop_intro hX ?_
    conv=>whnf
    repeat((first|refine dw ?_|refine bct (lt_mid hl3 hi3) ?_|refine bct (at_in am3) ?_|refine bct (andt (at_in am3) rfl) ?_|refine row_in (at_row am3) ?_|refine bct (andt (at_in (at_nat am3)) rfl) ?_|refine row_in (at_row (at_nat am3)) ?_);conv=>whnf)
    refine map_look h (fun x16 e17 h=>?_) (fun e17 h=>?_) (get_mp (f:=srw) (g:=V8.row) _ x3e)
    ·revert h
     refine bndk fun y18 e19 h=>?_
     conv=>whnf
     repeat((first|refine dw ?_);conv=>whnf)
     refine know_beyond_c hX e19 ?_
     conv=>whnf
     repeat((first|refine dw ?_);conv=>whnf)
     revert h
     refine brk (fun c20 h=>?_) (fun c20 h=>?_)
     ·conv=>whnf
      repeat((first|refine dw ?_|with_reducible refine bct (eq8_b c20) ?_|refine bct c20 ?_);conv=>whnf)
      exact ih3 _  (wrL hs3 hl3 hi3) h
     ·conv=>whnf
      repeat((first|refine dw ?_|with_reducible refine bcf (eq8_b c20) ?_|refine bcf c20 ?_);conv=>whnf)
      refine map_look h (fun x21 e22 h=>?_) (fun e22 h=>?_) (get_mp (f:=V8.row) (g:=irw) _ y18)
      ·exact no_some h
      ·revert h
       refine chkk fun c24 h=>?_
       have hs4:=hs3
       conv=>whnf
       repeat((first|refine dw ?_|refine eqv_to (b:=0) rfl ?_|refine eqv_to (set_mp (f:=V8.row) (g:=irw) ([]:List (V8 × Int)) y18 0) ?_|refine Two.r ?_|refine bct (by rfl) ?_|refine bct (by decide) ?_|refine bct (room_zero c24 rfl rfl rfl rfl) ?_|refine eqv_to (nil_one (f:=srw) x3e) ?_|refine eqv_to (b:=([(Frag.mk [x3e] y18)].map Frag.row)) rfl ?_);conv=>whnf)
       refine loop_nc hX ?_
       conv=>whnf
       refine loop_lisz2 (fun (v25:Int) (v26:List Frag) (v27:List (V8 × Int))=>pad [(1,.one (.ptr 0 0)),(0,.one (.ptr 1 0)),(0,.one (.mp 3)),(4,.one (.ptr 4 0)),(0,.one (.mp 6)),(36,.one (.own 7)),(0,iv (y11.length:Int)),(0,iv v25)] 49) (fun (v25:Int) (v26:List Frag) (v27:List (V8 × Int))=>[.box (Know.cs p0),.box [ic 0,ic 0,ic 0,ic 0,ic 0,ic 0,ic 0,ic 0,.own 2],.rows 0 [],.mp .str true (v2.map fun e=>(srw e.1,V8.row e.2)),.box [ic p0.star.x0,ic p0.star.x1,ic p0.star.x2,ic p0.star.x3,ic p0.star.x4,ic p0.star.x5,ic p0.star.x6,ic p0.star.x7,.own 5],.nest 9 0 1 (v26.map Frag.row),.mp (.ints .i64 8) false (v27.map fun e=>(V8.row e.1,irw e.2)),.rows 1 (y11.map srw)]) _ y11 _ xs3 _ (next_cut hl3) (next_len hs3 hl3 hi3) (fun pre4 x4e xs4 v25 v26 v27 hl4 hi4 h ih4=>?_) (fun v25 v26 v27 hi4 h=>?_) [(Frag.mk [x3e] y18)] (mset V8.row ([]:List (V8 × Int)) y18 0) h
       ·rw [know_Plain_l4] at h
        have am4:=at_mid hl4 hi4
        refine loop_intro hX ?_
        conv=>whnf
        repeat((first|refine dw ?_|refine bct (lt_mid hl4 hi4) ?_|refine bct (at_in am4) ?_|refine bct (andt (at_in am4) rfl) ?_|refine row_in (at_row am4) ?_|refine bct (andt (at_in (at_nat am4)) rfl) ?_|refine row_in (at_row (at_nat am4)) ?_);conv=>whnf)
        refine map_look h (fun x28 e29 h=>?_) (fun e29 h=>?_) (get_mp (f:=srw) (g:=V8.row) _ x4e)
        ·revert h
         refine bndk fun y30 e31 h=>?_
         conv=>whnf
         repeat((first|refine dw ?_);conv=>whnf)
         refine know_beyond_c hX e31 ?_
         conv=>whnf
         repeat((first|refine dw ?_);conv=>whnf)
         revert h
         refine brk (fun c32 h=>?_) (fun c32 h=>?_)
         ·conv=>whnf
          repeat((first|refine dw ?_|with_reducible refine bct (eq8_b c32) ?_|refine bct c32 ?_);conv=>whnf)
          exact ih4 _ v26 v27 (wrL hs4 hl4 hi4) h
         ·conv=>whnf
          repeat((first|refine dw ?_|with_reducible refine bcf (eq8_b c32) ?_|refine bcf c32 ?_);conv=>whnf)
          refine map_look h (fun x33 e34 h=>?_) (fun e34 h=>?_) (get_mp (f:=V8.row) (g:=irw) _ y30)
          ·revert h
           refine bndk fun x35 a36 h=>?_
           revert h
           refine chkk fun c37 h=>?_
           conv=>whnf
           repeat((first|refine dw ?_|refine bct (at_in a36) ?_|refine bct (andt (at_in a36) rfl) ?_|refine row_in (at_row a36) ?_|refine bct (andt (at_in (at_nat a36)) rfl) ?_|refine row_in (at_row (at_nat a36)) ?_|refine bct (and3 (at_in (at_nat a36)) rfl rfl) ?_|refine bct (and3 (at_in a36) rfl rfl) ?_|refine bct (room_map c37 rfl rfl rfl rfl) ?_|refine eqv_to (cat_one (f:=srw) x35.ids x4e) ?_|refine bct (and4 (at_in (at_nat a36)) rfl rfl (natbeq_self _)) ?_|refine bct (and4 (at_in a36) rfl rfl (natbeq_self _)) ?_|refine eqv_to (set_map (f:=Frag.row) v26 x33.toNat (Frag.mk (x35.ids++[x4e]) x35.vec)) ?_);conv=>whnf)
           exact ih4 _ (v26.set x33.toNat (Frag.mk (x35.ids++[x4e]) x35.vec)) v27 (wrL hs4 hl4 hi4) h
          ·revert h
           refine chkk fun c39 h=>?_
           revert h
           refine bndk fun x40 a41 h=>?_
           revert h
           refine chkk fun c42 h=>?_
           conv=>whnf
           repeat((first|refine dw ?_|refine eqv_to (map_len _) ?_|refine eqv_to (set_mp (f:=V8.row) (g:=irw) v27 y30 (v26.length:Int)) ?_|refine Two.r ?_|refine bct (room_nest c39 rfl rfl rfl) ?_|refine eqv_to (cat_one (f:=Frag.row) v26 (Frag.mk ([]:List ByteArray) y30)) ?_|refine bct (at_in a41) ?_|refine bct (andt (at_in a41) rfl) ?_|refine row_in (at_row a41) ?_|refine bct (andt (at_in (at_nat a41)) rfl) ?_|refine row_in (at_row (at_nat a41)) ?_|refine bct (and3 (at_in (at_nat a41)) rfl rfl) ?_|refine bct (and3 (at_in a41) rfl rfl) ?_|refine bct (room_map c42 rfl rfl rfl rfl) ?_|refine eqv_to (cat_one (f:=srw) x40.ids x4e) ?_|refine bct (and4 (at_in (at_nat a41)) rfl rfl (natbeq_self _)) ?_|refine bct (and4 (at_in a41) rfl rfl (natbeq_self _)) ?_|refine eqv_to (set_map (f:=Frag.row) (v26++[(Frag.mk ([]:List ByteArray) y30)]) (v26.length:Int).toNat (Frag.mk (x40.ids++[x4e]) x40.vec)) ?_);conv=>whnf)
           exact ih4 _ ((v26++[(Frag.mk ([]:List ByteArray) y30)]).set (v26.length:Int).toNat (Frag.mk (x40.ids++[x4e]) x40.vec)) (mset V8.row v27 y30 (v26.length:Int)) (wrL hs4 hl4 hi4) h
        ·revert h
         refine bndk fun y43 e44 h=>?_
         conv=>whnf
         repeat((first|refine dw ?_);conv=>whnf)
         refine know_beyond_c hX e44 ?_
         conv=>whnf
         repeat((first|refine dw ?_);conv=>whnf)
         revert h
         refine brk (fun c45 h=>?_) (fun c45 h=>?_)
         ·conv=>whnf
          repeat((first|refine dw ?_|with_reducible refine bct (eq8_b c45) ?_|refine bct c45 ?_);conv=>whnf)
          exact ih4 _ v26 v27 (wrL hs4 hl4 hi4) h
         ·conv=>whnf
          repeat((first|refine dw ?_|with_reducible refine bcf (eq8_b c45) ?_|refine bcf c45 ?_);conv=>whnf)
          refine map_look h (fun x46 e47 h=>?_) (fun e47 h=>?_) (get_mp (f:=V8.row) (g:=irw) _ y43)
          ·revert h
           refine bndk fun x48 a49 h=>?_
           revert h
           refine chkk fun c50 h=>?_
           conv=>whnf
           repeat((first|refine dw ?_|refine bct (at_in a49) ?_|refine bct (andt (at_in a49) rfl) ?_|refine row_in (at_row a49) ?_|refine bct (andt (at_in (at_nat a49)) rfl) ?_|refine row_in (at_row (at_nat a49)) ?_|refine bct (and3 (at_in (at_nat a49)) rfl rfl) ?_|refine bct (and3 (at_in a49) rfl rfl) ?_|refine bct (room_map c50 rfl rfl rfl rfl) ?_|refine eqv_to (cat_one (f:=srw) x48.ids x4e) ?_|refine bct (and4 (at_in (at_nat a49)) rfl rfl (natbeq_self _)) ?_|refine bct (and4 (at_in a49) rfl rfl (natbeq_self _)) ?_|refine eqv_to (set_map (f:=Frag.row) v26 x46.toNat (Frag.mk (x48.ids++[x4e]) x48.vec)) ?_);conv=>whnf)
           exact ih4 _ (v26.set x46.toNat (Frag.mk (x48.ids++[x4e]) x48.vec)) v27 (wrL hs4 hl4 hi4) h
          ·revert h
           refine chkk fun c52 h=>?_
           revert h
           refine bndk fun x53 a54 h=>?_
           revert h
           refine chkk fun c55 h=>?_
           conv=>whnf
           repeat((first|refine dw ?_|refine eqv_to (map_len _) ?_|refine eqv_to (set_mp (f:=V8.row) (g:=irw) v27 y43 (v26.length:Int)) ?_|refine Two.r ?_|refine bct (room_nest c52 rfl rfl rfl) ?_|refine eqv_to (cat_one (f:=Frag.row) v26 (Frag.mk ([]:List ByteArray) y43)) ?_|refine bct (at_in a54) ?_|refine bct (andt (at_in a54) rfl) ?_|refine row_in (at_row a54) ?_|refine bct (andt (at_in (at_nat a54)) rfl) ?_|refine row_in (at_row (at_nat a54)) ?_|refine bct (and3 (at_in (at_nat a54)) rfl rfl) ?_|refine bct (and3 (at_in a54) rfl rfl) ?_|refine bct (room_map c55 rfl rfl rfl rfl) ?_|refine eqv_to (cat_one (f:=srw) x53.ids x4e) ?_|refine bct (and4 (at_in (at_nat a54)) rfl rfl (natbeq_self _)) ?_|refine bct (and4 (at_in a54) rfl rfl (natbeq_self _)) ?_|refine eqv_to (set_map (f:=Frag.row) (v26++[(Frag.mk ([]:List ByteArray) y43)]) (v26.length:Int).toNat (Frag.mk (x53.ids++[x4e]) x53.vec)) ?_);conv=>whnf)
           exact ih4 _ ((v26++[(Frag.mk ([]:List ByteArray) y43)]).set (v26.length:Int).toNat (Frag.mk (x53.ids++[x4e]) x53.vec)) (mset V8.row v27 y43 (v26.length:Int)) (wrL hs4 hl4 hi4) h
       ·rw [know_Plain_l4] at h
        refine loop_intro hX ?_
        conv=>whnf
        repeat((first|refine dw ?_|refine bcf (lt_end hi4) ?_);conv=>whnf)
        exact K _ h
    ·revert h
     refine bndk fun y56 e57 h=>?_
     conv=>whnf
     repeat((first|refine dw ?_);conv=>whnf)
     refine know_beyond_c hX e57 ?_
     conv=>whnf
     repeat((first|refine dw ?_);conv=>whnf)
     revert h
     refine brk (fun c58 h=>?_) (fun c58 h=>?_)
     ·conv=>whnf
      repeat((first|refine dw ?_|with_reducible refine bct (eq8_b c58) ?_|refine bct c58 ?_);conv=>whnf)
      exact ih3 _  (wrL hs3 hl3 hi3) h
     ·conv=>whnf
      repeat((first|refine dw ?_|with_reducible refine bcf (eq8_b c58) ?_|refine bcf c58 ?_);conv=>whnf)
      refine map_look h (fun x59 e60 h=>?_) (fun e60 h=>?_) (get_mp (f:=V8.row) (g:=irw) _ y56)
      ·exact no_some h
      ·revert h
       refine chkk fun c62 h=>?_
       have hs5:=hs3
       conv=>whnf
       repeat((first|refine dw ?_|refine eqv_to (b:=0) rfl ?_|refine eqv_to (set_mp (f:=V8.row) (g:=irw) ([]:List (V8 × Int)) y56 0) ?_|refine Two.r ?_|refine bct (by rfl) ?_|refine bct (by decide) ?_|refine bct (room_zero c62 rfl rfl rfl rfl) ?_|refine eqv_to (nil_one (f:=srw) x3e) ?_|refine eqv_to (b:=([(Frag.mk [x3e] y56)].map Frag.row)) rfl ?_);conv=>whnf)
       refine loop_nc hX ?_
       conv=>whnf
       refine loop_lisz2 (fun (v63:Int) (v64:List Frag) (v65:List (V8 × Int))=>pad [(1,.one (.ptr 0 0)),(0,.one (.ptr 1 0)),(0,.one (.mp 3)),(4,.one (.ptr 4 0)),(0,.one (.mp 6)),(36,.one (.own 7)),(0,iv (y11.length:Int)),(0,iv v63)] 49) (fun (v63:Int) (v64:List Frag) (v65:List (V8 × Int))=>[.box (Know.cs p0),.box [ic 0,ic 0,ic 0,ic 0,ic 0,ic 0,ic 0,ic 0,.own 2],.rows 0 [],.mp .str true (v2.map fun e=>(srw e.1,V8.row e.2)),.box [ic p0.star.x0,ic p0.star.x1,ic p0.star.x2,ic p0.star.x3,ic p0.star.x4,ic p0.star.x5,ic p0.star.x6,ic p0.star.x7,.own 5],.nest 9 0 1 (v64.map Frag.row),.mp (.ints .i64 8) false (v65.map fun e=>(V8.row e.1,irw e.2)),.rows 1 (y11.map srw)]) _ y11 _ xs3 _ (next_cut hl3) (next_len hs3 hl3 hi3) (fun pre5 x5e xs5 v63 v64 v65 hl5 hi5 h ih5=>?_) (fun v63 v64 v65 hi5 h=>?_) [(Frag.mk [x3e] y56)] (mset V8.row ([]:List (V8 × Int)) y56 0) h
       ·rw [know_Plain_l5] at h
        have am5:=at_mid hl5 hi5
        refine loop_intro hX ?_
        conv=>whnf
        repeat((first|refine dw ?_|refine bct (lt_mid hl5 hi5) ?_|refine bct (at_in am5) ?_|refine bct (andt (at_in am5) rfl) ?_|refine row_in (at_row am5) ?_|refine bct (andt (at_in (at_nat am5)) rfl) ?_|refine row_in (at_row (at_nat am5)) ?_);conv=>whnf)
        refine map_look h (fun x66 e67 h=>?_) (fun e67 h=>?_) (get_mp (f:=srw) (g:=V8.row) _ x5e)
        ·revert h
         refine bndk fun y68 e69 h=>?_
         conv=>whnf
         repeat((first|refine dw ?_);conv=>whnf)
         refine know_beyond_c hX e69 ?_
         conv=>whnf
         repeat((first|refine dw ?_);conv=>whnf)
         revert h
         refine brk (fun c70 h=>?_) (fun c70 h=>?_)
         ·conv=>whnf
          repeat((first|refine dw ?_|with_reducible refine bct (eq8_b c70) ?_|refine bct c70 ?_);conv=>whnf)
          exact ih5 _ v64 v65 (wrL hs5 hl5 hi5) h
         ·conv=>whnf
          repeat((first|refine dw ?_|with_reducible refine bcf (eq8_b c70) ?_|refine bcf c70 ?_);conv=>whnf)
          refine map_look h (fun x71 e72 h=>?_) (fun e72 h=>?_) (get_mp (f:=V8.row) (g:=irw) _ y68)
          ·revert h
           refine bndk fun x73 a74 h=>?_
           revert h
           refine chkk fun c75 h=>?_
           conv=>whnf
           repeat((first|refine dw ?_|refine bct (at_in a74) ?_|refine bct (andt (at_in a74) rfl) ?_|refine row_in (at_row a74) ?_|refine bct (andt (at_in (at_nat a74)) rfl) ?_|refine row_in (at_row (at_nat a74)) ?_|refine bct (and3 (at_in (at_nat a74)) rfl rfl) ?_|refine bct (and3 (at_in a74) rfl rfl) ?_|refine bct (room_map c75 rfl rfl rfl rfl) ?_|refine eqv_to (cat_one (f:=srw) x73.ids x5e) ?_|refine bct (and4 (at_in (at_nat a74)) rfl rfl (natbeq_self _)) ?_|refine bct (and4 (at_in a74) rfl rfl (natbeq_self _)) ?_|refine eqv_to (set_map (f:=Frag.row) v64 x71.toNat (Frag.mk (x73.ids++[x5e]) x73.vec)) ?_);conv=>whnf)
           exact ih5 _ (v64.set x71.toNat (Frag.mk (x73.ids++[x5e]) x73.vec)) v65 (wrL hs5 hl5 hi5) h
          ·revert h
           refine chkk fun c77 h=>?_
           revert h
           refine bndk fun x78 a79 h=>?_
           revert h
           refine chkk fun c80 h=>?_
           conv=>whnf
           repeat((first|refine dw ?_|refine eqv_to (map_len _) ?_|refine eqv_to (set_mp (f:=V8.row) (g:=irw) v65 y68 (v64.length:Int)) ?_|refine Two.r ?_|refine bct (room_nest c77 rfl rfl rfl) ?_|refine eqv_to (cat_one (f:=Frag.row) v64 (Frag.mk ([]:List ByteArray) y68)) ?_|refine bct (at_in a79) ?_|refine bct (andt (at_in a79) rfl) ?_|refine row_in (at_row a79) ?_|refine bct (andt (at_in (at_nat a79)) rfl) ?_|refine row_in (at_row (at_nat a79)) ?_|refine bct (and3 (at_in (at_nat a79)) rfl rfl) ?_|refine bct (and3 (at_in a79) rfl rfl) ?_|refine bct (room_map c80 rfl rfl rfl rfl) ?_|refine eqv_to (cat_one (f:=srw) x78.ids x5e) ?_|refine bct (and4 (at_in (at_nat a79)) rfl rfl (natbeq_self _)) ?_|refine bct (and4 (at_in a79) rfl rfl (natbeq_self _)) ?_|refine eqv_to (set_map (f:=Frag.row) (v64++[(Frag.mk ([]:List ByteArray) y68)]) (v64.length:Int).toNat (Frag.mk (x78.ids++[x5e]) x78.vec)) ?_);conv=>whnf)
           exact ih5 _ ((v64++[(Frag.mk ([]:List ByteArray) y68)]).set (v64.length:Int).toNat (Frag.mk (x78.ids++[x5e]) x78.vec)) (mset V8.row v65 y68 (v64.length:Int)) (wrL hs5 hl5 hi5) h
        ·revert h
         refine bndk fun y81 e82 h=>?_
         conv=>whnf
         repeat((first|refine dw ?_);conv=>whnf)
         refine know_beyond_c hX e82 ?_
         conv=>whnf
         repeat((first|refine dw ?_);conv=>whnf)
         revert h
         refine brk (fun c83 h=>?_) (fun c83 h=>?_)
         ·conv=>whnf
          repeat((first|refine dw ?_|with_reducible refine bct (eq8_b c83) ?_|refine bct c83 ?_);conv=>whnf)
          exact ih5 _ v64 v65 (wrL hs5 hl5 hi5) h
         ·conv=>whnf
          repeat((first|refine dw ?_|with_reducible refine bcf (eq8_b c83) ?_|refine bcf c83 ?_);conv=>whnf)
          refine map_look h (fun x84 e85 h=>?_) (fun e85 h=>?_) (get_mp (f:=V8.row) (g:=irw) _ y81)
          ·revert h
           refine bndk fun x86 a87 h=>?_
           revert h
           refine chkk fun c88 h=>?_
           conv=>whnf
           repeat((first|refine dw ?_|refine bct (at_in a87) ?_|refine bct (andt (at_in a87) rfl) ?_|refine row_in (at_row a87) ?_|refine bct (andt (at_in (at_nat a87)) rfl) ?_|refine row_in (at_row (at_nat a87)) ?_|refine bct (and3 (at_in (at_nat a87)) rfl rfl) ?_|refine bct (and3 (at_in a87) rfl rfl) ?_|refine bct (room_map c88 rfl rfl rfl rfl) ?_|refine eqv_to (cat_one (f:=srw) x86.ids x5e) ?_|refine bct (and4 (at_in (at_nat a87)) rfl rfl (natbeq_self _)) ?_|refine bct (and4 (at_in a87) rfl rfl (natbeq_self _)) ?_|refine eqv_to (set_map (f:=Frag.row) v64 x84.toNat (Frag.mk (x86.ids++[x5e]) x86.vec)) ?_);conv=>whnf)
           exact ih5 _ (v64.set x84.toNat (Frag.mk (x86.ids++[x5e]) x86.vec)) v65 (wrL hs5 hl5 hi5) h
          ·revert h
           refine chkk fun c90 h=>?_
           revert h
           refine bndk fun x91 a92 h=>?_
           revert h
           refine chkk fun c93 h=>?_
           conv=>whnf
           repeat((first|refine dw ?_|refine eqv_to (map_len _) ?_|refine eqv_to (set_mp (f:=V8.row) (g:=irw) v65 y81 (v64.length:Int)) ?_|refine Two.r ?_|refine bct (room_nest c90 rfl rfl rfl) ?_|refine eqv_to (cat_one (f:=Frag.row) v64 (Frag.mk ([]:List ByteArray) y81)) ?_|refine bct (at_in a92) ?_|refine bct (andt (at_in a92) rfl) ?_|refine row_in (at_row a92) ?_|refine bct (andt (at_in (at_nat a92)) rfl) ?_|refine row_in (at_row (at_nat a92)) ?_|refine bct (and3 (at_in (at_nat a92)) rfl rfl) ?_|refine bct (and3 (at_in a92) rfl rfl) ?_|refine bct (room_map c93 rfl rfl rfl rfl) ?_|refine eqv_to (cat_one (f:=srw) x91.ids x5e) ?_|refine bct (and4 (at_in (at_nat a92)) rfl rfl (natbeq_self _)) ?_|refine bct (and4 (at_in a92) rfl rfl (natbeq_self _)) ?_|refine eqv_to (set_map (f:=Frag.row) (v64++[(Frag.mk ([]:List ByteArray) y81)]) (v64.length:Int).toNat (Frag.mk (x91.ids++[x5e]) x91.vec)) ?_);conv=>whnf)
           exact ih5 _ ((v64++[(Frag.mk ([]:List ByteArray) y81)]).set (v64.length:Int).toNat (Frag.mk (x91.ids++[x5e]) x91.vec)) (mset V8.row v65 y81 (v64.length:Int)) (wrL hs5 hl5 hi5) h
       ·rw [know_Plain_l5] at h
        refine loop_intro hX ?_
        conv=>whnf
        repeat((first|refine dw ?_|refine bcf (lt_end hi5) ?_);conv=>whnf)
        exact K _ h
   ·rw [know_Plain_l3] at h
    refine loop_intro hX ?_
    conv=>whnf
    repeat((first|refine dw ?_|refine bcf (lt_end hi3) ?_);conv=>whnf)
    exact K _ h
end
end Go.Proofs.YtidkmoohgadjkaaGreat
set_option maxHeartbeats 0
namespace Go.Proofs.YtidkmoohgadjkaaGreat
open Go E
noncomputable section
open Pred
variable {X:Task→Prop} (hX:Closed X) {Q:A→List Blk→Prop}
include hX
end
end Go.Proofs.YtidkmoohgadjkaaGreat
set_option maxHeartbeats 0
namespace Go.Proofs.YtidkmoohgadjkaaGreat
open Go E
noncomputable section
open Pred
def know_Has_l2 (p1:ByteArray) (p2:Ver) (x1e:Frag) (k1:Option (Bool)):List ByteArray→Int→Option (Bool)
  | [],v5 =>
  (k1 )
  | x2e::xs2,v5 =>
  (br (eqS p1 x2e)
   (br (leI 0 v5)
    (bnd (vec_Has_s x1e.vec p2) fun y8 =>
     (br y8
      (some true)
      (k1 )))
    (k1 ))
   (know_Has_l2 p1 p2 x1e k1 xs2 (v5 + 1) ))
def know_Has_l1 (p1:ByteArray) (p2:Ver):List Frag→Option (Bool)
 | [] =>
 some false
 | x1e::xs1 =>
 (chk (smallL x1e.ids)
  ((know_Has_l2 p1 p2 x1e (know_Has_l1 p1 p2 xs1 )) x1e.ids 0 ))
def know_Has_s (p0:Know) (p1:ByteArray) (p2:Ver):Option (Bool) :=
 (bnd (vec_Has_s p0.star p2) fun y1 =>
  (br y1
   (some true)
   (chk (smallL p0.l)
     ((know_Has_l1 p1 p2) p0.l ))))
def know_May_l2 (k1:Option (Bool)):List ByteArray→Int→Option (Bool)
  | [],v13 =>
  (k1 )
  | x2e::xs2,v13 =>
  (bnd (item_Name_s x2e) fun y14 =>
   (br (!y14)
    (br (leI 0 v13)
     (some false)
     (k1 ))
    (know_May_l2 k1 xs2 (v13 + 1) )))
def know_May_l1:List Frag→Option (Bool)
  | [] =>
  some true
  | x1e::xs1 =>
  (bnd (vec_May_s x1e.vec) fun y10 =>
   (br (!y10)
    (some false)
    (chk (smallL x1e.ids)
      ((know_May_l2 (know_May_l1 xs1 )) x1e.ids 0 ))))
def know_May_s (p0:Know):Option (Bool) :=
 (bnd (vec_May_s p0.star) fun y1 =>
  (br (!y1)
   (some false)
   (bnd (know_Plain_s p0) fun y4 =>
    (bnd (know_alike_s p0 y4) fun y6 =>
     (br (!y6)
      (some false)
      (chk (smallL p0.l)
        ((know_May_l1) p0.l )))))))
variable {X:Task→Prop} (hX:Closed X) {Q:A→List Blk→Prop}
include hX
theorem know_Has_c  {p0:Know} {p1:ByteArray} {p2:Ver} {r:Bool} (h:know_Has_s p0 p1 p2=some r) (hQ:Q (.one (.p (.v (.bool r)))) []):X (.call 40 [.agg (Know.cs p0),.one (.p (.v (.string p1))),.agg (Ver.cs p2)] [] Q):=by
  have K:=fun a (e:some a=some r)=>ret_some (f:=fun y=>.one (.p (.v (.bool y)))) (g:=fun y=>[]) e hQ
  unfold know_Has_s at h
  refine call_intro hX Tryz.func40 rfl rfl ?_
  revert h
  refine bndk fun y1 e2 h=>?_
  conv=>whnf
  repeat((first|refine dw ?_);conv=>whnf)
  refine vec_Has_c hX e2 ?_
  conv=>whnf
  repeat((first|refine dw ?_);conv=>whnf)
  revert h
  refine brk (fun c3 h=>?_) (fun c3 h=>?_)
  ·conv=>whnf
   repeat((first|refine dw ?_|refine bct c3 ?_);conv=>whnf)
   exact K _ h
  ·revert h
   refine chkk fun hs1 h=>?_
   conv=>whnf
   repeat((first|refine dw ?_|refine bcf c3 ?_|refine eqv_to (map_len _) ?_);conv=>whnf)
   refine loop_lisx0 (fun (v4:Int)=>pad [(1,.one (.p (.v (.string p1)))),(3,.one (.ptr 0 0)),(8,.one (.p (.sl (p0.l.map Frag.row)))),(0,iv (p0.l.length:Int)),(0,iv v4)] 14) (fun (v4:Int)=>[.box (Ver.cs p2)]) _ p0.l (fun pre1 x1e xs1 v4  hl1 hi1 h ih1=>?_) (fun v4  hi1 h=>?_)  h
   ·rw [know_Has_l1] at h
    have am1:=at_mid hl1 hi1
    refine loop_intro hX ?_
    conv=>whnf
    repeat((first|refine dw ?_|refine bct (lt_mid hl1 hi1) ?_|refine bct (at_in am1) ?_|refine bct (andt (at_in am1) rfl) ?_|refine row_in (at_row am1) ?_|refine bct (andt (at_in (at_nat am1)) rfl) ?_|refine row_in (at_row (at_nat am1)) ?_);conv=>whnf)
    refine call_intro hX Tryz.func110 rfl rfl ?_
    conv=>whnf
    repeat((first|refine dw ?_);conv=>whnf)
    refine call_intro hX Tryz.func176 rfl rfl ?_
    revert h
    refine chkk fun hs2 h=>?_
    conv=>whnf
    repeat((first|refine dw ?_|refine eqv_to (map_len _) ?_);conv=>whnf)
    refine loop_list0 (fun (v5:Int)=>pad [(0,.one (.p (.sl (x1e.ids.map srw)))),(0,.one (.p (.v (.string p1)))),(5,iv (x1e.ids.length:Int)),(0,iv v5)] 10) (fun (v5:Int)=>[]) _ x1e.ids (fun pre2 x2e xs2 v5  hl2 hi2 h ih2=>?_) (fun v5  hi2 h=>?_)  h
    ·rw [know_Has_l2] at h
     have am2:=at_mid hl2 hi2
     refine loop_intro hX ?_
     conv=>whnf
     repeat((first|refine dw ?_|refine bct (lt_mid hl2 hi2) ?_|refine bct (at_in am2) ?_|refine bct (andt (at_in am2) rfl) ?_|refine row_in (at_row am2) ?_|refine bct (andt (at_in (at_nat am2)) rfl) ?_|refine row_in (at_row (at_nat am2)) ?_);conv=>whnf)
     revert h
     refine brk (fun c6 h=>?_) (fun c6 h=>?_)
     ·conv=>whnf
      repeat((first|refine dw ?_|refine bct c6 ?_);conv=>whnf)
      revert h
      refine brk (fun c7 h=>?_) (fun c7 h=>?_)
      ·revert h
       refine bndk fun y8 e9 h=>?_
       conv=>whnf
       repeat((first|refine dw ?_|refine bct c7 ?_);conv=>whnf)
       refine vec_Has_c hX e9 ?_
       conv=>whnf
       repeat((first|refine dw ?_|refine bct c7 ?_);conv=>whnf)
       revert h
       refine brk (fun c10 h=>?_) (fun c10 h=>?_)
       ·conv=>whnf
        repeat((first|refine dw ?_|refine bct c10 ?_);conv=>whnf)
        exact K _ h
       ·conv=>whnf
        repeat((first|refine dw ?_|refine bcf c10 ?_);conv=>whnf)
        exact ih1 _  (wrL hs1 hl1 hi1) h
      ·conv=>whnf
       repeat((first|refine dw ?_|refine bcf c7 ?_);conv=>whnf)
       exact ih1 _  (wrL hs1 hl1 hi1) h
     ·conv=>whnf
      repeat((first|refine dw ?_|refine bcf c6 ?_);conv=>whnf)
      exact ih2 _  (wrL hs2 hl2 hi2) h
    ·rw [know_Has_l2] at h
     refine loop_intro hX ?_
     conv=>whnf
     repeat((first|refine dw ?_|refine bcf (lt_end hi2) ?_);conv=>whnf)
     exact ih1 _  (wrL hs1 hl1 hi1) h
   ·rw [know_Has_l1] at h
    refine loop_intro hX ?_
    conv=>whnf
    repeat((first|refine dw ?_|refine bcf (lt_end hi1) ?_);conv=>whnf)
    exact K _ h
theorem know_May_c  {p0:Know} {r:Bool} (h:know_May_s p0=some r) (hQ:Q (.one (.p (.v (.bool r)))) []):X (.call 73 [.agg (Know.cs p0)] [] Q):=by
  have K:=fun a (e:some a=some r)=>ret_some (f:=fun y=>.one (.p (.v (.bool y)))) (g:=fun y=>[]) e hQ
  unfold know_May_s at h
  refine call_intro hX Tryz.func73 rfl rfl ?_
  revert h
  refine bndk fun y1 e2 h=>?_
  conv=>whnf
  repeat((first|refine dw ?_);conv=>whnf)
  refine vec_May_c hX e2 ?_
  conv=>whnf
  repeat((first|refine dw ?_);conv=>whnf)
  revert h
  refine brk (fun c3 h=>?_) (fun c3 h=>?_)
  ·conv=>whnf
   repeat((first|refine dw ?_|refine bct c3 ?_);conv=>whnf)
   exact K _ h
  ·revert h
   refine bndk fun y4 e5 h=>?_
   conv=>whnf
   repeat((first|refine dw ?_|refine bcf c3 ?_);conv=>whnf)
   refine know_Plain_c hX e5 ?_
   revert h
   refine bndk fun y6 e7 h=>?_
   conv=>whnf
   repeat((first|refine dw ?_|refine bcf c3 ?_);conv=>whnf)
   refine know_alike_c hX e7 ?_
   conv=>whnf
   repeat((first|refine dw ?_|refine bcf c3 ?_);conv=>whnf)
   revert h
   refine brk (fun c8 h=>?_) (fun c8 h=>?_)
   ·conv=>whnf
    repeat((first|refine dw ?_|refine bct c8 ?_);conv=>whnf)
    exact K _ h
   ·revert h
    refine chkk fun hs1 h=>?_
    conv=>whnf
    repeat((first|refine dw ?_|refine bcf c8 ?_|refine eqv_to (map_len _) ?_);conv=>whnf)
    refine loop_lisx0 (fun (v9:Int)=>pad [(18,.one (.p (.sl (p0.l.map Frag.row)))),(0,iv (p0.l.length:Int)),(0,iv v9)] 14) (fun (v9:Int)=>[]) _ p0.l (fun pre1 x1e xs1 v9  hl1 hi1 h ih1=>?_) (fun v9  hi1 h=>?_)  h
    ·rw [know_May_l1] at h
     have am1:=at_mid hl1 hi1
     refine loop_intro hX ?_
     revert h
     refine bndk fun y10 e11 h=>?_
     conv=>whnf
     repeat((first|refine dw ?_|refine bct (lt_mid hl1 hi1) ?_|refine bct (at_in am1) ?_|refine bct (andt (at_in am1) rfl) ?_|refine row_in (at_row am1) ?_|refine bct (andt (at_in (at_nat am1)) rfl) ?_|refine row_in (at_row (at_nat am1)) ?_);conv=>whnf)
     refine vec_May_c hX e11 ?_
     conv=>whnf
     repeat((first|refine dw ?_);conv=>whnf)
     revert h
     refine brk (fun c12 h=>?_) (fun c12 h=>?_)
     ·conv=>whnf
      repeat((first|refine dw ?_|refine bct c12 ?_);conv=>whnf)
      exact K _ h
     ·conv=>whnf
      repeat((first|refine dw ?_|refine bcf c12 ?_);conv=>whnf)
      refine call_intro hX Tryz.func148 rfl rfl ?_
      conv=>whnf
      repeat((first|refine dw ?_);conv=>whnf)
      refine call_intro hX Tryz.func203 rfl rfl ?_
      revert h
      refine chkk fun hs2 h=>?_
      conv=>whnf
      repeat((first|refine dw ?_|refine eqv_to (map_len _) ?_);conv=>whnf)
      refine loop_list0 (fun (v13:Int)=>pad [(0,.one (.p (.sl (x1e.ids.map srw)))),(0,.one (.fn 146 [])),(5,iv (x1e.ids.length:Int)),(0,iv v13)] 10) (fun (v13:Int)=>[]) _ x1e.ids (fun pre2 x2e xs2 v13  hl2 hi2 h ih2=>?_) (fun v13  hi2 h=>?_)  h
      ·rw [know_May_l2] at h
       have am2:=at_mid hl2 hi2
       refine loop_intro hX ?_
       conv=>whnf
       repeat((first|refine dw ?_|refine bct (lt_mid hl2 hi2) ?_|refine bct (at_in am2) ?_|refine bct (andt (at_in am2) rfl) ?_|refine row_in (at_row am2) ?_|refine bct (andt (at_in (at_nat am2)) rfl) ?_|refine row_in (at_row (at_nat am2)) ?_);conv=>whnf)
       refine call_intro hX Tryz.func146 rfl rfl ?_
       revert h
       refine bndk fun y14 e15 h=>?_
       conv=>whnf
       repeat((first|refine dw ?_);conv=>whnf)
       refine item_Name_c hX e15 ?_
       conv=>whnf
       repeat((first|refine dw ?_);conv=>whnf)
       revert h
       refine brk (fun c16 h=>?_) (fun c16 h=>?_)
       ·conv=>whnf
        repeat((first|refine dw ?_|refine bct c16 ?_|refine bcf c12 ?_);conv=>whnf)
        revert h
        refine brk (fun c17 h=>?_) (fun c17 h=>?_)
        ·conv=>whnf
         repeat((first|refine dw ?_|refine bct c17 ?_);conv=>whnf)
         exact K _ h
        ·conv=>whnf
         repeat((first|refine dw ?_|refine bcf c17 ?_);conv=>whnf)
         exact ih1 _  (wrL hs1 hl1 hi1) h
       ·conv=>whnf
        repeat((first|refine dw ?_|refine bcf c16 ?_);conv=>whnf)
        exact ih2 _  (wrL hs2 hl2 hi2) h
      ·rw [know_May_l2] at h
       refine loop_intro hX ?_
       conv=>whnf
       repeat((first|refine dw ?_|refine bcf (lt_end hi2) ?_|refine bcf c12 ?_);conv=>whnf)
       exact ih1 _  (wrL hs1 hl1 hi1) h
    ·rw [know_May_l1] at h
     refine loop_intro hX ?_
     conv=>whnf
     repeat((first|refine dw ?_|refine bcf (lt_end hi1) ?_);conv=>whnf)
     exact K _ h
end
end Go.Proofs.YtidkmoohgadjkaaGreat
