/- Filters (layer 3): as trees; how large and how deep they are, and whether two are the same. Counts of replicas (layer 6), the program's and the document's. The cluster's values by their Go types; rows of filters. Filters (layer 3): which ones may be. The statements of layer 3, walked. Which items a filter has (layer 4): the program's answer, and the document's. Which filter is seen in which (layer 5): the program's answer, and the document's. Which filter is seen in which (layer 5): the document's answer. Which filter is seen in which (layer 5): both answers, and what they are. Filters made plain (layer 4): what is told to be the same, and both answers, without the program. Filters made plain (layer 4): the program's answer. The contracts that were proved by hand, as decomp.py asks for them. Rounds: over a list, with fuel; ways that meet. (Only those that are used.) Layers 6 to 8, the document's. Written by decomp.py. slices.Insert at rows of eight cells (items): its contract, walked. slices.Insert at items, told of slices as lists: its contract. slices.Delete of one item: its contract. slices.Insert and slices.Delete at items, told of slices as lists: as decomp.py asks for them. slices.Grow of nil: its contract. Layers 6 to 8, the document's, more of them. Written by decomp.py. What the statements hand in. Written by decomp.py. -/
import Derived.Test.YtidkmoohgadjkaaGreatVC
import Derived.Lib.AppendZerosOnto
import Derived.Lib.Overlaps
import Derived.Shelf.RegionOpenPlain
import Derived.WalkKit
import Derived.WalkSpells
import Derived.Deep.RegionLaw
import Derived.Lib.Walk
import Derived.Laws.NewBlocks
set_option linter.unusedVariables false
set_option linter.unusedSimpArgs false
set_option maxRecDepth 100000
set_option maxHeartbeats 4000000
namespace Go.Proofs.YtidkmoohgadjkaaGreat
open Go E
inductive Pred where
 | mk (op:Int) (text:ByteArray) (n:Int) (re im:Nat) (kids:List Pred)
namespace Pred
def op:Pred→Int | mk a _ _ _ _ _=>a
def text:Pred→ByteArray | mk _ a _ _ _ _=>a
def n:Pred→Int | mk _ _ a _ _ _=>a
def re:Pred→Nat | mk _ _ _ a _ _=>a
def im:Pred→Nat | mk _ _ _ _ a _=>a
def kids:Pred→List Pred | mk _ _ _ _ _ a=>a
mutual
def row:Pred→List PC
 | mk a t n re im ks=>[ip a,.v (.string t),ip n,.v (.complex .f64 re im),.sl (qsn ks)]
def qsn:List Pred→List (List PC)
 | []=>[]
 | k::ks=>row k::qsn ks
end
def rows (l:List Pred):List (List PC):=l.map row
theorem qvm (l:List Pred):qsn l=rows l:=by
 induction l with
 | nil=>rw [qsn]; rfl
 | cons a l ih=>rw [qsn,ih]; rfl
mutual
def lrow:Pred→List PC
 | mk a t n re im ks=>[ip a,.v (.string t),ip n,.v (.float .f64 re),.v (.float .f64 im),.sl (lrows ks)]
def lrows:List Pred→List (List PC)
 | []=>[]
 | k::ks=>lrow k::lrows ks
end
mutual
def size:Pred→Nat
 | mk _ _ _ _ _ ks=>sizes ks + 1
def sizes:List Pred→Nat
 | []=>0
 | k::ks=>size k + sizes ks
end
mutual
def depth:Pred→Nat
 | mk _ _ _ _ _ ks=>depths ks + 1
def depths:List Pred→Nat
 | []=>0
 | k::ks=>max (depth k) (depths ks)
end
mutual
def Ok:Pred→Prop
 | mk a t n _ _ ks=>(-9223372036854775808≤a∧a≤9223372036854775807)∧t.size≤9223372036854775807∧(-9223372036854775808≤n∧n≤9223372036854775807)∧ks.length≤9223372036854775807∧Oks ks
def Oks:List Pred→Prop
 | []=>True
 | k::ks=>Ok k∧Oks ks
end
abbrev cs (p:Pred):List C:=[ic p.op,.p (.v (.string p.text)),ic p.n,.p (.v (.complex .f64 p.re p.im)),.p (.sl (rows p.kids))]
abbrev a (p:Pred):A:=.agg p.cs
abbrev la (p:Pred):A:=.agg [ic p.op,.p (.v (.string p.text)),ic p.n,.p (.v (.float .f64 p.re)),.p (.v (.float .f64 p.im)),.p (.sl (lrows p.kids))]
theorem qo7 (p:Pred):row p=[ip p.op,.v (.string p.text),ip p.n,.v (.complex .f64 p.re p.im),.sl (rows p.kids)]:=by cases p; rw [row,qvm]; rfl
theorem lrow_eq (p:Pred):lrow p=[ip p.op,.v (.string p.text),ip p.n,.v (.float .f64 p.re),.v (.float .f64 p.im),.sl (lrows p.kids)]:=by cases p; rw [lrow]; rfl
theorem qc9 (l:List Pred):rows l=l.map row:=rfl
theorem lrows_eq (l:List Pred):lrows l=l.map lrow:=by induction l with | nil=>rw [lrows]; rfl | cons a l ih=>rw [lrows,ih]; rfl
theorem size_eq (p:Pred):p.size=sizes p.kids + 1:=by cases p; rw [size]; rfl
theorem qo8 (p:Pred):p.depth=depths p.kids + 1:=by cases p; rw [depth]; rfl
theorem qmf (l m:List Pred):sizes (l++m)=sizes l + sizes m:=by
 induction l with
 | nil=>rw [sizes]; simp
 | cons a l ih=>rw [List.cons_append,sizes,sizes,ih]; omega
theorem qgZ:sizes []=0:=by rw [sizes]
theorem qso (p:Pred):sizes [p]=p.size:=by rw [sizes,qgZ]; rfl
theorem qgn:depths []=0:=by rw [depths]
theorem qqw (l m:List Pred):depths (l++m)=max (depths l) (depths m):=by
 induction l with
 | nil=>rw [qgn]; simp
 | cons a l ih=>rw [List.cons_append,depths,depths,ih]; omega
theorem qqx (p:Pred):depths [p]=p.depth:=by rw [depths,qgn]; omega
theorem qkR {l : List Pred} {k : Pred} (h : k ∈ l) : k.size ≤ sizes l := by
  induction l with
  | nil => cases h
  | cons a l ih => rw [sizes]; rcases List.mem_cons.1 h with rfl | h
                   · omega
                   · have := ih h; omega
theorem qcD {p:Pred} {j:Nat} (h:j < p.kids.length):p.kids[j].size < p.size:=by
 have:=qkR (List.getElem_mem h); rw [size_eq p]; omega
theorem qcE (p:Pred):0 < p.size:=by rw [size_eq]; omega
theorem qg0 (l:List Pred):l.length≤sizes l:=by
 induction l with
 | nil=>simp
 | cons a l ih=>rw [sizes]; have:=qcE a; simp; omega
theorem qx2 {l : List Pred} (h : Oks l) {k : Pred} (hk : k ∈ l) : Ok k := by
  induction l with
  | nil => cases hk
  | cons a l ih => rw [Oks] at h; rcases List.mem_cons.1 hk with rfl | hk
                   · exact h.1
                   · exact ih h.2 hk
theorem Oks_of {l:List Pred} (h:∀ k∈l,Ok k):Oks l:=by
 induction l with
 | nil=>rw [Oks]; trivial
 | cons a l ih=>rw [Oks]; exact ⟨h a (by simp),ih fun k hk=>h k (by simp [hk])⟩
theorem Ok.kids {p:Pred} (h:p.Ok):Oks p.kids:=by cases p; rw [Ok] at h; exact h.2.2.2.2
theorem Ok.kid {p:Pred} (h:p.Ok) {j:Nat} (hj:j < p.kids.length):p.kids[j].Ok:=qx2 h.kids (List.getElem_mem hj)
theorem Ok.text {p:Pred} (h:p.Ok):p.text.size≤9223372036854775807:=by cases p; rw [Ok] at h; exact h.2.1
theorem Ok.len {p:Pred} (h:p.Ok):p.kids.length≤9223372036854775807:=by cases p; rw [Ok] at h; exact h.2.2.2.1
theorem Ok.op {p:Pred} (h:p.Ok) : -9223372036854775808≤p.op∧p.op≤9223372036854775807:=by cases p; rw [Ok] at h; exact h.1
theorem Ok.n {p:Pred} (h:p.Ok) : -9223372036854775808≤p.n∧p.n≤9223372036854775807:=by cases p; rw [Ok] at h; exact h.2.2.1
theorem qK (l:List Pred):lenL (rows l)=(l.length:Int):=by rw [qc9,qo1]
theorem qe6 (l:List Pred):lenL (lrows l)=(l.length:Int):=by rw [lrows_eq,qo1]
theorem qba {l:List Pred} {j:Nat} (h:j < l.length):lenB (rows l) (j:Int)=true:=by rw [qc9]; exact qo2 h
theorem qhp {l:List Pred} {j:Nat} (h:j < l.length):lenB (lrows l) (j:Int)=true:=by rw [lrows_eq]; exact qo2 h
theorem qbn {l:List Pred} {j:Nat} (h:j < l.length):E.rowAt (rows l) (j:Int)=[ip l[j].op,.v (.string l[j].text),ip l[j].n,.v (.complex .f64 l[j].re l[j].im),.sl (rows l[j].kids)]:=by
 rw [qc9,ql2 h,qo7]
theorem qig {l:List Pred} {j:Nat} (h:j < l.length):E.rowAt (lrows l) (j:Int)=[ip l[j].op,.v (.string l[j].text),ip l[j].n,.v (.float .f64 l[j].re),.v (.float .f64 l[j].im),.sl (lrows l[j].kids)]:=by
 rw [lrows_eq,ql2 h,lrow_eq]
theorem qjR {l:List Pred} {j:Nat} (h:j < l.length):sizes (l.take (j + 1))=sizes (l.take j) + l[j].size:=by
 rw [List.take_succ_eq_append_getElem h,qmf,qso]
theorem qg1 (l:List Pred) (j:Nat):sizes (l.take j)≤sizes l:=by
 have:=qmf (l.take j) (l.drop j); rw [List.take_append_drop] at this; omega
theorem qnP {l:List Pred} {j:Nat} (h:j < l.length):depths (l.take (j + 1))=max (depths (l.take j)) l[j].depth:=by
 rw [List.take_succ_eq_append_getElem h,qqw,qqx]
theorem qg2:∀ (p:Pred),p.depth≤p.size:=by
 have key:∀ (n:Nat) (p:Pred),p.size≤n→p.depth≤p.size:=by
  intro n
  induction n with
  | zero=>intro p h; have:=qcE p; omega
  | succ n ih =>
   intro p h
   rw [size_eq] at h ⊢; rw [qo8]
   have:∀ l:List Pred,sizes l≤n→depths l≤sizes l:=by
    intro l
    induction l with
    | nil=>intro _; rw [qgn]; omega
    | cons a l ihl=>intro hl; rw [sizes] at hl ⊢; rw [depths]; have:=ih a (by omega); have:=ihl (by omega); omega
   have:=this p.kids (by omega)
   omega
 exact fun p=>key p.size p (Nat.le_refl _)
end Pred
open Pred
attribute [irreducible] Pred.lrows Pred.size Pred.sizes Pred.depth Pred.depths Pred.Ok Pred.Oks
def qkS (p:Pred) (m:Int):Int:=if (p.size:Int)≤m then m - p.size else -1
theorem qBU {a b:Nat} (h:a + b < 9223372036854775807):wr .i64 ((a:Int) + (b:Int))=((a + b:Nat):Int):=by rw [wr64 (by omega) (by omega)]; omega
theorem qo9 {X:Task→Prop} (hX:qk X):∀ (N:Nat) {p:Pred} {Q:A→List Blk→Prop},p.size≤N→p.size≤1000→Q (iv p.size) []→X (.call 150 [p.a] [] Q)
 | 0,p,_,h,_,_=>absurd h (by have:=qcE p; omega)
 | N + 1,p,Q,h,h1,hQ=>by
  refine qb hX Tryz.func150 rfl rfl ?_
  repeat' ((conv=>whnf); first | exact hQ | refine ql ?_ | refine Two.l ?_ | refine ⟨by kernel_rfl,?_⟩ | refine bct (by assumption) ?_ | refine bcf (by assumption) ?_ | refine bcf (nt (by assumption)) ?_ | refine bct (nf (by assumption)) ?_)
  have hsz:=size_eq p
  have hln:=qg0 p.kids
  refine qcC (fun j (n:Nat)=>pad [(1,.one (.ptr 0 0)),(1,iv (n:Int)),(0,iv (j:Int))] 16) (fun _ _=>[.box p.cs]) (fun j n=>n=1 + sizes (p.kids.take j)) p.kids.length (fun j n hj hI ih=>?_) (fun n hI=>?_) 1 (by rw [List.take_zero,qgZ])
  ·have q1:ltI (j:Int) (lenL (rows p.kids))=true:=by rw [qK,q9]; omega
   have q2:=qba hj
   have hk:=qcD hj
   have ht:=qjR hj
   have hl:=qg1 p.kids (j + 1)
   refine qa hX ?_
   repeat' ((conv=>whnf); first | exact hQ | refine ql ?_ | refine Two.l ?_ | refine ⟨by kernel_rfl,?_⟩ | refine bct (by assumption) ?_ | refine bcf (by assumption) ?_ | refine bcf (nt (by assumption)) ?_ | refine bct (nf (by assumption)) ?_ | (rw [qbn hj]) | refine qo9 hX N (p:=p.kids[j]) (by omega) (by omega) ?_ | (rw [wrS (by omega),qBU (by omega)]; exact ih _ (by omega)))
  ·have q1:ltI (p.kids.length:Int) (lenL (rows p.kids))=false:=by rw [qK,qag]; omega
   rw [List.take_length] at hI
   refine qa hX ?_
   repeat' ((conv=>whnf); first | exact hQ | refine ql ?_ | refine Two.l ?_ | refine ⟨by kernel_rfl,?_⟩ | refine bct (by assumption) ?_ | refine bcf (by assumption) ?_ | refine bcf (nt (by assumption)) ?_ | refine bct (nf (by assumption)) ?_ | (exact Qi hQ (by omega)))
theorem qkT {X:Task→Prop} (hX:qk X):∀ (N:Nat) {p:Pred} {m:Int} {Q:A→List Blk→Prop},p.size≤N→p.Ok→m≤1000 → -1000≤m→Q (iv (qkS p m)) []→X (.call 112 [p.la,iv m] [] Q)
 | 0,p,_,_,h,_,_,_,_=>absurd h (by have:=qcE p; omega)
 | N + 1,p,m,Q,h,ok,h1,h2,hQ=>by
  have hsz:=size_eq p
  refine qb hX Tryz.func112 rfl rfl ?_
  cases q1:leI m 0 with
  | true=>repeat' ((conv=>whnf); first | exact hQ | refine ql ?_ | refine Two.l ?_ | refine ⟨by kernel_rfl,?_⟩ | refine bct (by assumption) ?_ | refine bcf (by assumption) ?_ | refine bcf (nt (by assumption)) ?_ | refine bct (nf (by assumption)) ?_ | (exact Qi hQ (by unfold qkS; rw [qa5] at q1; rw [if_neg (by omega)])))
  | false =>
   repeat' ((conv=>whnf); first | exact hQ | refine ql ?_ | refine Two.l ?_ | refine ⟨by kernel_rfl,?_⟩ | refine bct (by assumption) ?_ | refine bcf (by assumption) ?_ | refine bcf (nt (by assumption)) ?_ | refine bct (nf (by assumption)) ?_)
   (conv=>whnf)
   rw [qhi] at q1
   rw [wr64 (n:=m - 1) (by omega) (by omega)]
   have hln:=ok.len
   refine qcC (fun j (n:Int)=>pad [(1,iv n),(0,.one (.ptr 0 0)),(2,iv (j:Int))] 21) (fun _ _=>[.box [ic p.op,.p (.v (.string p.text)),ic p.n,.p (.v (.float .f64 p.re)),.p (.v (.float .f64 p.im)),.p (.sl (lrows p.kids))]]) (fun j n=>n=m - 1 - sizes (p.kids.take j)∧0≤n) p.kids.length (fun j n hj hI ih=>?_) (fun n hI=>?_) (m - 1) (by rw [List.take_zero,qgZ]; omega)
   ·have q1:ltI (j:Int) (lenL (lrows p.kids))=true:=by rw [qe6,q9]; omega
    have q2:=qhp hj
    have hk:=qcD hj
    have ht:=qjR hj
    have hl:=qg1 p.kids (j + 1)
    obtain ⟨hI,hn⟩:=hI
    refine qa hX ?_
    by_cases hle:(p.kids[j].size:Int)≤n
    ·have e:qkS p.kids[j] n=n - p.kids[j].size:=if_pos hle
     have q3:ltI (n - p.kids[j].size) 0=false:=qag.2 (by omega)
     repeat' ((conv=>whnf); first | exact hQ | refine ql ?_ | refine Two.l ?_ | refine ⟨by kernel_rfl,?_⟩ | refine bct (by assumption) ?_ | refine bcf (by assumption) ?_ | refine bcf (nt (by assumption)) ?_ | refine bct (nf (by assumption)) ?_ | (rw [qig hj]) | (refine qkT hX N (p:=p.kids[j]) (by omega) (ok.kid hj) (by omega) (by omega) ?_; rw [e]) | (rw [wrS (by omega)]; exact ih _ (by omega)))
    ·have e:qkS p.kids[j] n = -1:=if_neg hle
     repeat' ((conv=>whnf); first | exact hQ | refine ql ?_ | refine Two.l ?_ | refine ⟨by kernel_rfl,?_⟩ | refine bct (by assumption) ?_ | refine bcf (by assumption) ?_ | refine bcf (nt (by assumption)) ?_ | refine bct (nf (by assumption)) ?_ | (exact Qi hQ (by unfold qkS; rw [if_neg (by omega)])) | (rw [qig hj]) | (refine qkT hX N (p:=p.kids[j]) (by omega) (ok.kid hj) (by omega) (by omega) ?_; rw [e]))
   ·have q1:ltI (p.kids.length:Int) (lenL (lrows p.kids))=false:=by rw [qe6,qag]; omega
    rw [List.take_length] at hI
    refine qa hX ?_
    repeat' ((conv=>whnf); first | exact hQ | refine ql ?_ | refine Two.l ?_ | refine ⟨by kernel_rfl,?_⟩ | refine bct (by assumption) ?_ | refine bcf (by assumption) ?_ | refine bcf (nt (by assumption)) ?_ | refine bct (nf (by assumption)) ?_ | (exact Qi hQ (by unfold qkS; rw [if_pos (by omega)]; omega)))
theorem qvn {X:Task→Prop} (hX:qk X) {p:Pred} {Q:A→List Blk→Prop} (ok:p.Ok) (hQ:Q (iv (if p.size≤60 then 1 else 0)) []):X (.call 44 [p.la] [] Q):=by
 refine qb hX Tryz.func44 rfl rfl ?_
 by_cases hle:p.size≤60
 ·have e:qkS p 60=60 - p.size:=if_pos (by omega)
  have q1:ltI (60 - (p.size:Int)) 0=false:=qag.2 (by omega)
  repeat' ((conv=>whnf); first | exact hQ | refine ql ?_ | refine Two.l ?_ | refine ⟨by kernel_rfl,?_⟩ | refine bct (by assumption) ?_ | refine bcf (by assumption) ?_ | refine bcf (nt (by assumption)) ?_ | refine bct (nf (by assumption)) ?_ | (exact Qi hQ (if_pos hle)) | (refine qkT hX p.size (p:=p) (Nat.le_refl _) ok (by omega) (by omega) ?_; rw [e]))
 ·have e:qkS p 60 = -1:=if_neg (by omega)
  repeat' ((conv=>whnf); first | exact hQ | refine ql ?_ | refine Two.l ?_ | refine ⟨by kernel_rfl,?_⟩ | refine bct (by assumption) ?_ | refine bcf (by assumption) ?_ | refine bcf (nt (by assumption)) ?_ | refine bct (nf (by assumption)) ?_ | (exact Qi hQ (if_neg hle)) | (refine qkT hX p.size (p:=p) (Nat.le_refl _) ok (by omega) (by omega) ?_; rw [e]))
theorem qmg {l:List Pred} {j:Nat} (h:j < l.length):catL (rows (l.take j)) [[ip l[j].op,.v (.string l[j].text),ip l[j].n,.v (.complex .f64 l[j].re l[j].im),.sl (rows l[j].kids)]]=rows (l.take (j + 1)):=by
 unfold catL
 rw [qc9,qc9 (l.take (j + 1)),List.take_succ_eq_append_getElem h,List.map_append,List.map_cons,List.map_nil,qo7]
theorem qkU {X:Task→Prop} (hX:qk X):∀ (N:Nat) {p:Pred} {Q:A→List Blk→Prop},p.size≤N→p.size≤1000→p.Ok→Q p.a []→X (.call 46 [p.la] [] Q)
 | 0,p,_,h,_,_,_=>absurd h (by have:=qcE p; omega)
 | N + 1,p,Q,h,h1,ok,hQ=>by
  refine qJ hX ?_
  (conv=>whnf)
  refine qb hX Tryz.func46 rfl rfl ?_
  repeat' ((conv=>whnf); first | exact hQ | refine ql ?_ | refine Two.l ?_ | refine ⟨by kernel_rfl,?_⟩ | refine bct (by assumption) ?_ | refine bcf (by assumption) ?_ | refine bcf (nt (by assumption)) ?_ | refine bct (nf (by assumption)) ?_)
  have hsz:=size_eq p
  have hln:=qg0 p.kids
  refine qa hX ?_
  by_cases h0:0 < p.kids.length
  ·have q1:ltI 0 (lenL (lrows p.kids))=true:=by rw [qe6,q9]; omega
   have q2:lenB (lrows p.kids) 0=true:=qhp h0
   have q3:=qig h0
   have hk:=qcD h0
   repeat' ((conv=>whnf); first | exact hQ | refine ql ?_ | refine Two.l ?_ | refine ⟨by kernel_rfl,?_⟩ | refine bct (by assumption) ?_ | refine bcf (by assumption) ?_ | refine bcf (nt (by assumption)) ?_ | refine bct (nf (by assumption)) ?_ | (erw [q3]) | refine qkU hX N (p:=p.kids[0]) (by omega) (by omega) (ok.kid h0) ?_ | refine bct (qBQ (by decide) rfl rfl rfl) ?_)
   all_goals (conv=>whnf)
   have e0:rows (p.kids.take 0)=[]:=by rw [List.take_zero,qc9]; rfl
   have e1:=qmg h0
   rw [e0] at e1
   refine qjP (fun j (_:Rw)=>pad [(1,.one (.ptr 0 0)),(0,.one (.ptr 1 0)),(0,.one (.ptr 3 0)),(0,iv (j:Int))] 31) (fun j r=>[.box [ic p.op,.p (.v (.string p.text)),ic p.n,.p (.v (.float .f64 p.re)),.p (.v (.float .f64 p.im)),.p (.sl (lrows p.kids))],.box [ic 0,.p (.v (.string ⟨#[]⟩)),ic 0,.p (.v (.complex .f64 0 0)),.own 2],.rows 0 [],.box [ic p.op,.p (.v (.string p.text)),ic p.n,.p (.v (.complex .f64 p.re p.im)),.own 4],.rows r.k r.l]) (fun j r=>r.k=5∧r.l=rows (p.kids.take j)) p.kids.length 1 (by omega) (fun j r hj1 hj hI ih=>?_) (fun r hI=>?_) ⟨_,_⟩ ⟨rfl,e1⟩
   ·obtain ⟨rk,rl⟩:=r
    obtain ⟨rfl,rfl⟩:=hI
    have q1:ltI (j:Int) (lenL (lrows p.kids))=true:=by rw [qe6,q9]; omega
    have q2:=qhp hj
    have hk:=qcD hj
    have hlr:(rows (p.kids.take j)).length≤1000:=by rw [qc9,List.length_map,List.length_take]; omega
    have e3:=qmg hj
    refine qa hX ?_
    repeat' ((conv=>whnf); first | exact hQ | refine ql ?_ | refine Two.l ?_ | refine ⟨by kernel_rfl,?_⟩ | refine bct (by assumption) ?_ | refine bcf (by assumption) ?_ | refine bcf (nt (by assumption)) ?_ | refine bct (nf (by assumption)) ?_ | (rw [qig hj]) | refine qkU hX N (p:=p.kids[j]) (by omega) (by omega) (ok.kid hj) ?_ | refine bct (qBP (Nat.le_trans hlr (by decide)) rfl rfl rfl rfl) ?_ | (rw [wrS (by omega)]; exact ih ⟨_,_⟩ ⟨rfl,e3⟩))
   ·obtain ⟨rk,rl⟩:=r
    obtain ⟨rfl,rfl⟩:=hI
    have q1:ltI (p.kids.length:Int) (lenL (lrows p.kids))=false:=by rw [qe6,qag]; omega
    rw [List.take_length]
    refine qa hX ?_
    repeat' ((conv=>whnf); first | exact hQ | refine ql ?_ | refine Two.l ?_ | refine ⟨by kernel_rfl,?_⟩ | refine bct (by assumption) ?_ | refine bcf (by assumption) ?_ | refine bcf (nt (by assumption)) ?_ | refine bct (nf (by assumption)) ?_)
  ·have q1:ltI 0 (lenL (lrows p.kids))=false:=by rw [qe6,qag]; omega
   have e:p.kids=[]:=List.eq_nil_of_length_eq_zero (by omega)
   have e2:rows p.kids=[]:=by rw [e,qc9]; rfl
   simp only [Pred.a,Pred.cs,e2] at hQ
   repeat' ((conv=>whnf); first | exact hQ | refine ql ?_ | refine Two.l ?_ | refine ⟨by kernel_rfl,?_⟩ | refine bct (by assumption) ?_ | refine bcf (by assumption) ?_ | refine bcf (nt (by assumption)) ?_ | refine bct (nf (by assumption)) ?_)
theorem qiH {X:Task→Prop} (hX:qk X):∀ (N:Nat) {p:Pred} {Q:A→List Blk→Prop},p.size≤N→p.size≤1000→Q (iv p.depth) []→X (.call 151 [p.a] [] Q)
 | 0,p,_,h,_,_=>absurd h (by have:=qcE p; omega)
 | N + 1,p,Q,h,h1,hQ=>by
  refine qb hX Tryz.func151 rfl rfl ?_
  repeat' ((conv=>whnf); first | exact hQ | refine ql ?_ | refine Two.l ?_ | refine ⟨by kernel_rfl,?_⟩ | refine bct (by assumption) ?_ | refine bcf (by assumption) ?_ | refine bcf (nt (by assumption)) ?_ | refine bct (nf (by assumption)) ?_)
  have hsz:=size_eq p
  have hde:=qo8 p
  have hds:=qg2 p
  have hln:=qg0 p.kids
  refine qcC (fun j (n:Nat)=>pad [(1,.one (.ptr 0 0)),(1,iv (n:Int)),(0,iv (j:Int))] 20) (fun _ _=>[.box p.cs]) (fun j n=>n=1 + depths (p.kids.take j)) p.kids.length (fun j n hj hI ih=>?_) (fun n hI=>?_) 1 (by rw [List.take_zero,qgn])
  ·have q1:ltI (j:Int) (lenL (rows p.kids))=true:=by rw [qK,q9]; omega
   have q2:=qba hj
   have hk:=qcD hj
   have ht:=qnP hj
   have hd1:=qg2 p.kids[j]
   have e:wr .i64 (1 + (p.kids[j].depth:Int))=((1 + p.kids[j].depth:Nat):Int):=by rw [wr64 (by omega) (by omega)]; omega
   refine qa hX ?_
   by_cases hlt:n < 1 + p.kids[j].depth
   ·have q3:ltI (n:Int) ((1 + p.kids[j].depth:Nat):Int)=true:=q9.2 (by omega)
    rw [←e] at q3
    repeat' ((conv=>whnf); first | exact hQ | refine ql ?_ | refine Two.l ?_ | refine ⟨by kernel_rfl,?_⟩ | refine bct (by assumption) ?_ | refine bcf (by assumption) ?_ | refine bcf (nt (by assumption)) ?_ | refine bct (nf (by assumption)) ?_ | (rw [qbn hj]) | refine qiH hX N (p:=p.kids[j]) (by omega) (by omega) ?_ | (rw [wrS (by omega),e]; exact ih _ (by omega)))
   ·have q3:ltI (n:Int) ((1 + p.kids[j].depth:Nat):Int)=false:=qag.2 (by omega)
    rw [←e] at q3
    repeat' ((conv=>whnf); first | exact hQ | refine ql ?_ | refine Two.l ?_ | refine ⟨by kernel_rfl,?_⟩ | refine bct (by assumption) ?_ | refine bcf (by assumption) ?_ | refine bcf (nt (by assumption)) ?_ | refine bct (nf (by assumption)) ?_ | (rw [qbn hj]) | refine qiH hX N (p:=p.kids[j]) (by omega) (by omega) ?_ | (rw [wrS (by omega)]; exact ih _ (by omega)))
  ·have q1:ltI (p.kids.length:Int) (lenL (rows p.kids))=false:=by rw [qK,qag]; omega
   rw [List.take_length] at hI
   refine qa hX ?_
   repeat' ((conv=>whnf); first | exact hQ | refine ql ?_ | refine Two.l ?_ | refine ⟨by kernel_rfl,?_⟩ | refine bct (by assumption) ?_ | refine bcf (by assumption) ?_ | refine bcf (nt (by assumption)) ?_ | refine bct (nf (by assumption)) ?_ | (exact Qi hQ (by omega)))
mutual
def qei:Pred→Pred→Bool
 | .mk a t n x y ks,q=>eqI a q.op&&(eqS t q.text&&(eqI n q.n&&((eqFl .f64 x q.re&&eqFl .f64 y q.im)&&qe7 ks q.kids)))
def qe7:List Pred→List Pred→Bool
 | [],[]=>true
 | k::ks,m::ms=>qei k m&&qe7 ks ms
 | [],_::_=>false
 | _::_,[]=>false
end
theorem qfy (p q:Pred):qei p q=(eqI p.op q.op&&(eqS p.text q.text&&(eqI p.n q.n&&((eqFl .f64 p.re q.re&&eqFl .f64 p.im q.im)&&qe7 p.kids q.kids)))):=by cases p; rw [qei]; rfl
theorem qpa:∀ {l m:List Pred} (hlen:l.length=m.length),(∀ j (h:j < l.length),qei l[j] (m[j]'(by omega))=true)→qe7 l m=true
 | [],[],_,_=>by rw [qe7]
 | k::ks,m::ms,hl,h=>by
  rw [qe7,Bool.and_eq_true]
  exact ⟨h 0 (by simp),qpa (by simpa using hl) fun j hj=>h (j + 1) (by simpa using hj)⟩
 | [],_::_,hl,_=>by simp at hl
 | _::_,[],hl,_=>by simp at hl
theorem qmh:∀ {l m:List Pred},l.length≠m.length→qe7 l m=false
 | [],[],h=>absurd rfl h
 | k::ks,m::ms,h=>by rw [qe7,qmh (l:=ks) (m:=ms) (by simpa using h),Bool.and_false]
 | [],_::_,_=>by rw [qe7]
 | _::_,[],_=>by rw [qe7]
theorem qmi:∀ {l m:List Pred} (hlen:l.length=m.length) {j:Nat} (h:j < l.length),qei l[j] (m[j]'(by omega))=false→qe7 l m=false
 | k::ks,m::ms,hl,0,_,h=>by rw [qe7]; simp only [List.getElem_cons_zero] at h; rw [h]; rfl
 | k::ks,m::ms,hl,j + 1,hj,h=>by rw [qe7,qmi (l:=ks) (m:=ms) (by simpa using hl) (j:=j) (by simpa using hj) h,Bool.and_false]
theorem qek {X:Task→Prop} (hX:qk X):∀ (N:Nat) {p q:Pred} {Q:A→List Blk→Prop},p.size≤N→p.Ok→Q (bv (qei p q)) []→X (.call 68 [p.a,q.a] [] Q)
 | 0,p,_,_,h,_,_=>absurd h (by have:=qcE p; omega)
 | N + 1,p,q,Q,h,ok,hQ=>by
  by_cases hlen:p.kids.length=q.kids.length
  rotate_left
  ·have hf:qei p q=false:=by rw [qfy,qmh hlen]; simp
   have q5:eqI (lenL (rows p.kids)) (lenL (rows q.kids))=false:=by rw [qK,qK,qav]; omega
   refine qb hX Tryz.func68 rfl rfl ?_
   repeat' ((conv=>whnf); first | exact hQ | refine ql ?_ | refine Two.l ?_ | refine ⟨by kernel_rfl,?_⟩ | refine bct (by assumption) ?_ | refine bcf (by assumption) ?_ | refine bcf (nt (by assumption)) ?_ | refine bct (nf (by assumption)) ?_ | (exact Qb hQ hf) | refine bc (fun _=>?_) (fun _=>?_))
  have q5:eqI (lenL (rows p.kids)) (lenL (rows q.kids))=true:=by rw [qK,qK,qdB]; omega
  refine qb hX Tryz.func68 rfl rfl ?_
  repeat' ((conv=>whnf); first | exact hQ | refine ql ?_ | refine Two.l ?_ | refine ⟨by kernel_rfl,?_⟩ | refine bct (by assumption) ?_ | refine bcf (by assumption) ?_ | refine bcf (nt (by assumption)) ?_ | refine bct (nf (by assumption)) ?_ | (refine Qb hQ ?_; rw [qfy]; cases h7:eqFl .f64 p.re q.re<;>cases h8:eqFl .f64 p.im q.im<;>simp_all; done) | refine bc (fun _=>?_) (fun _=>?_))
  have hln:=ok.len
  have hk:=fun (j:Nat) (hj:j < p.kids.length)=>qcD hj
  refine qcC (fun j (_:Unit)=>pad [(2,.one (.ptr 0 0)),(0,.one (.ptr 1 0)),(1,iv (j:Int))] 67) (fun _ _=>[.box p.cs,.box q.cs]) (fun j _=>∀ i (hi:i < p.kids.length),i < j→qei p.kids[i] (q.kids[i]'(by omega))=true) p.kids.length (fun j st hj hI ih=>?_) (fun st hI=>?_) () (fun i hi h=>absurd h (Nat.not_lt_zero _))
  ·have q1:ltI (j:Int) (lenL (rows p.kids))=true:=by rw [qK,q9]; omega
   have q2:=qba hj
   have hj':j < q.kids.length:=by omega
   have q3:=qba hj'
   have hk:=hk j hj
   refine qa hX ?_
   cases hs:qei p.kids[j] q.kids[j] with
   | true=>repeat' ((conv=>whnf); first | exact hQ | refine ql ?_ | refine Two.l ?_ | refine ⟨by kernel_rfl,?_⟩ | refine bct (by assumption) ?_ | refine bcf (by assumption) ?_ | refine bcf (nt (by assumption)) ?_ | refine bct (nf (by assumption)) ?_ | (rw [qbn hj]) | (rw [qbn hj']) | (refine qek hX N (p:=p.kids[j]) (q:=q.kids[j]) (by omega) (ok.kid hj) ?_; rw [hs]) | (rw [wrS (by omega)]; refine ih () (fun i hi hij=>?_); rcases Nat.lt_succ_iff_lt_or_eq.1 hij with h' | rfl; exact hI i hi h'; exact hs))
   | false=>repeat' ((conv=>whnf); first | exact hQ | refine ql ?_ | refine Two.l ?_ | refine ⟨by kernel_rfl,?_⟩ | refine bct (by assumption) ?_ | refine bcf (by assumption) ?_ | refine bcf (nt (by assumption)) ?_ | refine bct (nf (by assumption)) ?_ | (exact Qb hQ (by rw [qfy,qmi hlen hj hs]; simp)) | (rw [qbn hj]) | (rw [qbn hj']) | (refine qek hX N (p:=p.kids[j]) (q:=q.kids[j]) (by omega) (ok.kid hj) ?_; rw [hs]))
  ·have q1:ltI (p.kids.length:Int) (lenL (rows p.kids))=false:=by rw [qK,qag]; omega
   have hs:=qpa hlen (fun j hj=>hI j hj hj)
   refine qa hX ?_
   repeat' ((conv=>whnf); first | exact hQ | refine ql ?_ | refine Two.l ?_ | refine ⟨by kernel_rfl,?_⟩ | refine bct (by assumption) ?_ | refine bcf (by assumption) ?_ | refine bcf (nt (by assumption)) ?_ | refine bct (nf (by assumption)) ?_ | (refine Qb hQ ?_; rw [qfy,hs]; simp_all; done))
attribute [irreducible] qei qe7 qkS
end Go.Proofs.YtidkmoohgadjkaaGreat
set_option maxHeartbeats 4000000
namespace Go.Proofs.YtidkmoohgadjkaaGreat
open Go E
structure V8 where
 x0:Int
 x1:Int
 x2:Int
 x3:Int
 x4:Int
 x5:Int
 x6:Int
 x7:Int
abbrev V8.cells (v:V8):List C:=[ic v.x0,ic v.x1,ic v.x2,ic v.x3,ic v.x4,ic v.x5,ic v.x6,ic v.x7]
abbrev V8.a (v:V8):A:=.agg v.cells
abbrev ver (r c:Int):A:=.agg [ic r,ic c]
def qsp (n:Int):Int:=if n < 1∨8 < n then -1 else n - 1
def V8.at (v:V8) (r:Int):Int:=if r=1 then v.x0 else if r=2 then v.x1 else if r=3 then v.x2 else if r=4 then v.x3 else if r=5 then v.x4 else if r=6 then v.x5 else if r=7 then v.x6 else if r=8 then v.x7 else 0
def V8.put (v:V8) (r c:Int):V8 :=
 if r=1 then { v with x0:=c } else if r=2 then { v with x1:=c } else if r=3 then { v with x2:=c } else if r=4 then { v with x3:=c }
 else if r=5 then { v with x4:=c } else if r=6 then { v with x5:=c } else if r=7 then { v with x6:=c } else if r=8 then { v with x7:=c } else v
def hasV (v:V8) (r c:Int):Bool:=decide (1≤r∧r≤8∧1≤c∧c≤v.at r)
def maxV (a b:V8):V8:=⟨maxI a.x0 b.x0,maxI a.x1 b.x1,maxI a.x2 b.x2,maxI a.x3 b.x3,maxI a.x4 b.x4,maxI a.x5 b.x5,maxI a.x6 b.x6,maxI a.x7 b.x7⟩
def qh2 (v:V8) (r c:Int):V8:=v.put r (maxI (v.at r) c)
def eq8 (a b:V8):Bool:=andB (eqI a.x0 b.x0) (andB (eqI a.x1 b.x1) (andB (eqI a.x2 b.x2) (andB (eqI a.x3 b.x3) (andB (eqI a.x4 b.x4) (andB (eqI a.x5 b.x5) (andB (eqI a.x6 b.x6) (andB (eqI a.x7 b.x7) true)))))))
theorem r8 (r:Int):(r < 1∨8 < r)∨r=1∨r=2∨r=3∨r=4∨r=5∨r=6∨r=7∨r=8:=by omega
theorem qg3 {X:Task→Prop} (hX:qk X) {n:Int} {Q:A→List Blk→Prop} (hQ:Q (iv (qsp n)) []):X (.call 175 [iv n] [] Q):=by
 refine qb hX Tryz.func175 rfl rfl ?_
 repeat' ((conv=>whnf); first | refine ⟨by kernel_rfl,?_⟩ | refine ql ?_ | refine Two.l ?_ | refine bct (by assumption) ?_ | refine bcf (by assumption) ?_ | refine bc (fun _=>?_) (fun _=>?_))
 all_goals (conv=>whnf)
 all_goals (refine Qa hQ ?_; simp only [q9,qag] at *; unfold qsp)
 ·rw [if_pos (by omega)]
 ·rw [if_pos (by omega)]
 ·rw [if_neg (by omega),wr64 (by omega) (by omega)]
theorem qx3 {X:Task→Prop} (hX:qk X) {a b:V8} {Q:A→List Blk→Prop} (hQ:Q (maxV a b).a []):X (.call 189 [a.a,b.a] [] Q):=by
 refine qb hX Tryz.func189 rfl rfl ?_
 repeat' ((conv=>whnf); first | refine ⟨by kernel_rfl,?_⟩ | refine ql ?_ | refine Two.l ?_ | refine bct (by assumption) ?_ | refine bcf (by assumption) ?_ | refine bc (fun _=>?_) (fun _=>?_) | refine qa hX ?_)
 exact hQ
theorem qjS {n:Int} (h:n < 1∨8 < n):qsp n = -1:=if_pos h
theorem qx4 {X:Task→Prop} (hX:qk X) {v:V8} {r c:Int} {Q:A→List Blk→Prop} (hQ:Q (bv (hasV v r c)) []):X (.call 109 [v.a,ver r c] [] Q):=by
 refine qb hX Tryz.func109 rfl rfl ?_
 rcases r8 r with h | rfl | rfl | rfl | rfl | rfl | rfl | rfl | rfl
 ·(conv=>whnf)
  refine qg3 hX ?_
  rw [qjS h]
  repeat' ((conv=>whnf); first | refine ⟨by kernel_rfl,?_⟩ | refine ql ?_ | refine Two.l ?_ | refine bct (by assumption) ?_ | refine bcf (by assumption) ?_ | refine bc (fun _=>?_) (fun _=>?_))
  (conv=>whnf)
  refine Qb hQ ?_
  unfold hasV
  exact decide_eq_false (by omega)
 all_goals
  (conv=>whnf)
  refine qg3 hX ?_
  repeat' ((conv=>whnf); first | refine ⟨by kernel_rfl,?_⟩ | refine ql ?_ | refine Two.l ?_ | refine bct (by assumption) ?_ | refine bcf (by assumption) ?_ | refine bc (fun _=>?_) (fun _=>?_))
 all_goals (conv=>whnf)
 all_goals refine Qb hQ ?_
 all_goals (simp only [qa5,qhi] at *; simp [hasV,V8.at,leI]; try omega)
theorem qvo {X:Task→Prop} (hX:qk X) {v:V8} {r c:Int} {Q:A→List Blk→Prop} (hQ:Q (qh2 v r c).a []):X (.call 169 [v.a,ver r c] [] Q):=by
 refine qb hX Tryz.func169 rfl rfl ?_
 rcases r8 r with h | rfl | rfl | rfl | rfl | rfl | rfl | rfl | rfl
 ·(conv=>whnf)
  refine qg3 hX ?_
  rw [qjS h]
  repeat' ((conv=>whnf); first | refine ⟨by kernel_rfl,?_⟩ | refine ql ?_ | refine Two.l ?_ | refine bct (by assumption) ?_ | refine bcf (by assumption) ?_ | refine bc (fun _=>?_) (fun _=>?_))
  (conv=>whnf)
  refine Qa hQ ?_
  unfold qh2 V8.put
  rw [if_neg (by omega),if_neg (by omega),if_neg (by omega),if_neg (by omega),if_neg (by omega),if_neg (by omega),if_neg (by omega),if_neg (by omega)]
 all_goals
  (conv=>whnf)
  refine qg3 hX ?_
  repeat' ((conv=>whnf); first | refine ⟨by kernel_rfl,?_⟩ | refine ql ?_ | refine Two.l ?_ | refine bct (by assumption) ?_ | refine bcf (by assumption) ?_ | refine bc (fun _=>?_) (fun _=>?_))
 all_goals exact hQ
def mayV (v:V8):Bool:=decide ((0≤v.x0∧v.x0≤1000)∧(0≤v.x1∧v.x1≤1000)∧(0≤v.x2∧v.x2≤1000)∧(0≤v.x3∧v.x3≤1000)∧(0≤v.x4∧v.x4≤1000)∧(0≤v.x5∧v.x5≤1000)∧(0≤v.x6∧v.x6≤1000)∧(0≤v.x7∧v.x7≤1000))
theorem qx5 {X:Task→Prop} (hX:qk X) {v:V8} {Q:A→List Blk→Prop} (hQ:Q (bv (mayV v)) []):X (.call 143 [v.a] [] Q):=by
 refine qb hX Tryz.func143 rfl rfl ?_
 repeat' ((conv=>whnf); first | refine ⟨by kernel_rfl,?_⟩ | refine ql ?_ | refine Two.l ?_ | refine bct (by assumption) ?_ | refine bcf (by assumption) ?_ | refine bc (fun _=>?_) (fun _=>?_) | refine qa hX ?_)
 all_goals (conv=>whnf)
 all_goals refine Qb hQ ?_
 all_goals (simp only [q9,qag] at *; unfold mayV; first | exact decide_eq_true (by omega) | exact decide_eq_false (by omega))
theorem qnQ {a b:V8}:eq8 a b=true↔a.x0=b.x0∧a.x1=b.x1∧a.x2=b.x2∧a.x3=b.x3∧a.x4=b.x4∧a.x5=b.x5∧a.x6=b.x6∧a.x7=b.x7:=by
 simp [eq8,andB,eqI]
section
variable {X:Task→Prop} (hX:qk X) {Q:A→List Blk→Prop}
include hX
end
section
variable {a b w c m:V8} {r n:Int}
end
theorem qpb {X:Task→Prop} (hX:qk X) {v:V8} {r:Int} {Q:A→List Blk→Prop} (hQ:Q (iv (v.at r)) []):X (.call 157 [v.a,iv r] [] Q):=by
 refine qb hX Tryz.func157 rfl rfl ?_
 rcases r8 r with h | rfl | rfl | rfl | rfl | rfl | rfl | rfl | rfl
 ·have e:v.at r=0:=by
   unfold V8.at
   rw [if_neg (by omega),if_neg (by omega),if_neg (by omega),if_neg (by omega),if_neg (by omega),if_neg (by omega),if_neg (by omega),if_neg (by omega)]
  rw [e] at hQ
  repeat' ((conv=>whnf); first | exact hQ | refine ql ?_ | refine Two.l ?_ | refine ⟨by kernel_rfl,?_⟩ | refine bct (by assumption) ?_ | refine bcf (by assumption) ?_ | refine bc (fun _=>?_) (fun _=>?_))
  all_goals (simp only [q9,qag] at *; omega)
 all_goals exact hQ
theorem qsq {X:Task→Prop} (hX:qk X) {v:V8} {r c:Int} {Q:A→List Blk→Prop} (hQ:Q (bv (hasV v r c)) []):X (.call 88 [v.a,ver r c] [] Q):=by
 refine qb hX Tryz.func88 rfl rfl ?_
 repeat' ((conv=>whnf); first | refine ⟨by kernel_rfl,?_⟩ | refine ql ?_ | refine Two.l ?_ | refine bct (by assumption) ?_ | refine bcf (by assumption) ?_ | refine bc (fun _=>?_) (fun _=>?_) | refine qpb hX ?_)
 all_goals (conv=>whnf)
 all_goals refine Qb hQ ?_
 all_goals (simp only [qa5,qhi] at *; unfold hasV)
 ·by_cases h:1≤r∧r≤8
  ·unfold leI; rw [Bool.eq_iff_iff]; simp; omega
  ·have e:v.at r=0:=by
    unfold V8.at
    rw [if_neg (by omega),if_neg (by omega),if_neg (by omega),if_neg (by omega),if_neg (by omega),if_neg (by omega),if_neg (by omega),if_neg (by omega)]
   rw [e,qhi.2 (by omega)]; exact decide_eq_false (by omega)
 ·exact decide_eq_false (by omega)
theorem qqy {X:Task→Prop} (hX:qk X) {v:V8} {r c:Int} {Q:A→List Blk→Prop} (hQ:Q (qh2 v r c).a []):X (.call 174 [v.a,ver r c] [] Q):=by
 refine qb hX Tryz.func174 rfl rfl ?_
 rcases r8 r with h | rfl | rfl | rfl | rfl | rfl | rfl | rfl | rfl
 ·repeat' ((conv=>whnf); first | refine ⟨by kernel_rfl,?_⟩ | refine ql ?_ | refine Two.l ?_ | refine bct (by assumption) ?_ | refine bcf (by assumption) ?_ | refine bc (fun _=>?_) (fun _=>?_) | (simp only [q9,qag] at *; omega))
  all_goals (conv=>whnf)
  all_goals (refine Qa hQ ?_; unfold qh2 V8.put; rw [if_neg (by omega),if_neg (by omega),if_neg (by omega),if_neg (by omega),if_neg (by omega),if_neg (by omega),if_neg (by omega),if_neg (by omega)])
 all_goals
  repeat' ((conv=>whnf); first | refine ⟨by kernel_rfl,?_⟩ | refine ql ?_ | refine Two.l ?_ | refine bct (by assumption) ?_ | refine bcf (by assumption) ?_ | refine bc (fun _=>?_) (fun _=>?_))
 all_goals (conv=>whnf)
 all_goals (refine Qa hQ ?_; simp only [qa5,qhi] at *; simp [qh2,V8.put,V8.at,maxI]; omega)
theorem qsr {X:Task→Prop} (hX:qk X) {v:V8} {Q:A→List Blk→Prop} (hQ:Q (bv (mayV v)) []):X (.call 154 [v.a] [] Q):=by
 refine qb hX Tryz.func154 rfl rfl ?_
 repeat' ((conv=>whnf); first | refine ⟨by kernel_rfl,?_⟩ | refine ql ?_ | refine Two.l ?_ | refine bct (by assumption) ?_ | refine bcf (by assumption) ?_ | refine bc (fun _=>?_) (fun _=>?_) | refine qa hX ?_)
 all_goals (conv=>whnf)
 all_goals refine Qb hQ ?_
 all_goals (simp only [q9,qag] at *; unfold mayV; first | exact decide_eq_true (by omega) | exact decide_eq_false (by omega))
section
variable {X:Task→Prop} (hX:qk X) {a b:V8} {K:Ex→List A→List Blk→Prop}
include hX
abbrev qel (X:Task→Prop) (a b o:V8) (i:Int) (K:Ex→List A→List Blk→Prop):Prop :=
 X (.loop 191 0 (qAN Tryz.f191 0) (pad [(2,.one (.ptr 0 0)),(0,.one (.ptr 1 0)),(0,.one (.ptr 2 0)),(0,.one (.ptr 3 0)),(0,iv i)] 22) [.box a.cells,.box b.cells,.box [ic 0,ic 0,ic 0,ic 0,ic 0,ic 0,ic 0,ic 0],.box o.cells] K)
abbrev qdt (a b o:V8) (K:Ex→List A→List Blk→Prop):Prop :=
 K (.exit 0) (pad [(2,.one (.ptr 0 0)),(0,.one (.ptr 1 0)),(0,.one (.ptr 2 0)),(0,.one (.ptr 3 0)),(0,iv 8),(0,iv 8),(0,bv false)] 20) [.box a.cells,.box b.cells,.box [ic 0,ic 0,ic 0,ic 0,ic 0,ic 0,ic 0,ic 0],.box o.cells]
theorem qss {o:V8} (h:qdt a b o K):qel X a b o 8 K:=by
 refine qa hX ?_
 exact h
theorem qst {o:V8} (h:qdt a b { o with x7:=maxI a.x7 b.x7 } K):qel X a b o 7 K:=by
 refine qa hX ?_
 repeat' ((conv=>whnf); first | refine ⟨by kernel_rfl,?_⟩ | refine ql ?_ | refine Two.l ?_ | refine bc (fun _=>?_) (fun _=>?_) | refine qss hX (o:={ o with x7:=b.x7 }) ?_ | refine qss hX (o:={ o with x7:=a.x7 }) ?_)
 ·have e:maxI a.x7 b.x7=b.x7:=by rw [q9] at *; unfold maxI; rw [if_pos (by omega)]
  rw [e] at h; exact h
 ·have e:maxI a.x7 b.x7=a.x7:=by rw [qag] at *; unfold maxI; rw [if_neg (by omega)]
  rw [e] at h; exact h
theorem qsu {o:V8} (h:qdt a b { o with x6:=maxI a.x6 b.x6,x7:=maxI a.x7 b.x7 } K):qel X a b o 6 K:=by
 refine qa hX ?_
 repeat' ((conv=>whnf); first | refine ⟨by kernel_rfl,?_⟩ | refine ql ?_ | refine Two.l ?_ | refine bc (fun _=>?_) (fun _=>?_) | refine qst hX (o:={ o with x6:=b.x6 }) ?_ | refine qst hX (o:={ o with x6:=a.x6 }) ?_)
 ·have e:maxI a.x6 b.x6=b.x6:=by rw [q9] at *; unfold maxI; rw [if_pos (by omega)]
  rw [e] at h; exact h
 ·have e:maxI a.x6 b.x6=a.x6:=by rw [qag] at *; unfold maxI; rw [if_neg (by omega)]
  rw [e] at h; exact h
theorem qsv {o:V8} (h:qdt a b { o with x5:=maxI a.x5 b.x5,x6:=maxI a.x6 b.x6,x7:=maxI a.x7 b.x7 } K):qel X a b o 5 K:=by
 refine qa hX ?_
 repeat' ((conv=>whnf); first | refine ⟨by kernel_rfl,?_⟩ | refine ql ?_ | refine Two.l ?_ | refine bc (fun _=>?_) (fun _=>?_) | refine qsu hX (o:={ o with x5:=b.x5 }) ?_ | refine qsu hX (o:={ o with x5:=a.x5 }) ?_)
 ·have e:maxI a.x5 b.x5=b.x5:=by rw [q9] at *; unfold maxI; rw [if_pos (by omega)]
  rw [e] at h; exact h
 ·have e:maxI a.x5 b.x5=a.x5:=by rw [qag] at *; unfold maxI; rw [if_neg (by omega)]
  rw [e] at h; exact h
theorem qsw {o:V8} (h:qdt a b { o with x4:=maxI a.x4 b.x4,x5:=maxI a.x5 b.x5,x6:=maxI a.x6 b.x6,x7:=maxI a.x7 b.x7 } K):qel X a b o 4 K:=by
 refine qa hX ?_
 repeat' ((conv=>whnf); first | refine ⟨by kernel_rfl,?_⟩ | refine ql ?_ | refine Two.l ?_ | refine bc (fun _=>?_) (fun _=>?_) | refine qsv hX (o:={ o with x4:=b.x4 }) ?_ | refine qsv hX (o:={ o with x4:=a.x4 }) ?_)
 ·have e:maxI a.x4 b.x4=b.x4:=by rw [q9] at *; unfold maxI; rw [if_pos (by omega)]
  rw [e] at h; exact h
 ·have e:maxI a.x4 b.x4=a.x4:=by rw [qag] at *; unfold maxI; rw [if_neg (by omega)]
  rw [e] at h; exact h
theorem qsx {o:V8} (h:qdt a b { o with x3:=maxI a.x3 b.x3,x4:=maxI a.x4 b.x4,x5:=maxI a.x5 b.x5,x6:=maxI a.x6 b.x6,x7:=maxI a.x7 b.x7 } K):qel X a b o 3 K:=by
 refine qa hX ?_
 repeat' ((conv=>whnf); first | refine ⟨by kernel_rfl,?_⟩ | refine ql ?_ | refine Two.l ?_ | refine bc (fun _=>?_) (fun _=>?_) | refine qsw hX (o:={ o with x3:=b.x3 }) ?_ | refine qsw hX (o:={ o with x3:=a.x3 }) ?_)
 ·have e:maxI a.x3 b.x3=b.x3:=by rw [q9] at *; unfold maxI; rw [if_pos (by omega)]
  rw [e] at h; exact h
 ·have e:maxI a.x3 b.x3=a.x3:=by rw [qag] at *; unfold maxI; rw [if_neg (by omega)]
  rw [e] at h; exact h
theorem qsy {o:V8} (h:qdt a b { o with x2:=maxI a.x2 b.x2,x3:=maxI a.x3 b.x3,x4:=maxI a.x4 b.x4,x5:=maxI a.x5 b.x5,x6:=maxI a.x6 b.x6,x7:=maxI a.x7 b.x7 } K):qel X a b o 2 K:=by
 refine qa hX ?_
 repeat' ((conv=>whnf); first | refine ⟨by kernel_rfl,?_⟩ | refine ql ?_ | refine Two.l ?_ | refine bc (fun _=>?_) (fun _=>?_) | refine qsx hX (o:={ o with x2:=b.x2 }) ?_ | refine qsx hX (o:={ o with x2:=a.x2 }) ?_)
 ·have e:maxI a.x2 b.x2=b.x2:=by rw [q9] at *; unfold maxI; rw [if_pos (by omega)]
  rw [e] at h; exact h
 ·have e:maxI a.x2 b.x2=a.x2:=by rw [qag] at *; unfold maxI; rw [if_neg (by omega)]
  rw [e] at h; exact h
theorem qsz {o:V8} (h:qdt a b { o with x1:=maxI a.x1 b.x1,x2:=maxI a.x2 b.x2,x3:=maxI a.x3 b.x3,x4:=maxI a.x4 b.x4,x5:=maxI a.x5 b.x5,x6:=maxI a.x6 b.x6,x7:=maxI a.x7 b.x7 } K):qel X a b o 1 K:=by
 refine qa hX ?_
 repeat' ((conv=>whnf); first | refine ⟨by kernel_rfl,?_⟩ | refine ql ?_ | refine Two.l ?_ | refine bc (fun _=>?_) (fun _=>?_) | refine qsy hX (o:={ o with x1:=b.x1 }) ?_ | refine qsy hX (o:={ o with x1:=a.x1 }) ?_)
 ·have e:maxI a.x1 b.x1=b.x1:=by rw [q9] at *; unfold maxI; rw [if_pos (by omega)]
  rw [e] at h; exact h
 ·have e:maxI a.x1 b.x1=a.x1:=by rw [qag] at *; unfold maxI; rw [if_neg (by omega)]
  rw [e] at h; exact h
theorem qx6 {o:V8} (h:qdt a b { o with x0:=maxI a.x0 b.x0,x1:=maxI a.x1 b.x1,x2:=maxI a.x2 b.x2,x3:=maxI a.x3 b.x3,x4:=maxI a.x4 b.x4,x5:=maxI a.x5 b.x5,x6:=maxI a.x6 b.x6,x7:=maxI a.x7 b.x7 } K):qel X a b o 0 K:=by
 refine qa hX ?_
 repeat' ((conv=>whnf); first | refine ⟨by kernel_rfl,?_⟩ | refine ql ?_ | refine Two.l ?_ | refine bc (fun _=>?_) (fun _=>?_) | refine qsz hX (o:={ o with x0:=b.x0 }) ?_ | refine qsz hX (o:={ o with x0:=a.x0 }) ?_)
 ·have e:maxI a.x0 b.x0=b.x0:=by rw [q9] at *; unfold maxI; rw [if_pos (by omega)]
  rw [e] at h; exact h
 ·have e:maxI a.x0 b.x0=a.x0:=by rw [qag] at *; unfold maxI; rw [if_neg (by omega)]
  rw [e] at h; exact h
theorem qsA {Q:A→List Blk→Prop} (hQ:Q (maxV a b).a []):X (.call 191 [a.a,b.a] [] Q):=by
 refine qb hX Tryz.func191 rfl rfl ?_
 (conv=>whnf)
 refine qx6 hX (o:=⟨0,0,0,0,0,0,0,0⟩) ?_
 exact hQ
end
end Go.Proofs.YtidkmoohgadjkaaGreat
namespace Go.Proofs.YtidkmoohgadjkaaGreat
open Go E
abbrev V8.row (v:V8):List PC:=[ip v.x0,ip v.x1,ip v.x2,ip v.x3,ip v.x4,ip v.x5,ip v.x6,ip v.x7]
structure Ver where
 r:Int
 c:Int
abbrev Ver.row (v:Ver):List PC:=[ip v.r,ip v.c]
structure Frag where
 ids:List ByteArray
 vec:V8
abbrev Frag.row (x:Frag):List PC:=[.sl (x.ids.map srw),ip x.vec.x0,ip x.vec.x1,ip x.vec.x2,ip x.vec.x3,ip x.vec.x4,ip x.vec.x5,ip x.vec.x6,ip x.vec.x7]
structure Know where
 star:V8
 l:List Frag
abbrev Know.row (x:Know):List PC:=[ip x.star.x0,ip x.star.x1,ip x.star.x2,ip x.star.x3,ip x.star.x4,ip x.star.x5,ip x.star.x6,ip x.star.x7,.sl (x.l.map Frag.row)]
structure Has where
 id:ByteArray
 vr:Int
 vc:Int
 stamp:Int
abbrev Has.row (x:Has):List PC:=[.v (.string x.id),ip x.vr,ip x.vc,ip x.stamp]
structure Entry where
 item:Item
 goes:Bool
 nr:Int
 nc:Int
abbrev Entry.row (x:Entry):List PC:=[.v (.string x.item.id),ip x.item.vr,ip x.item.vc,ip x.item.stamp,.v (.string x.item.kind),ip x.item.num,.v (.complex .f64 x.item.re x.item.im),.v (.bool x.item.dead),.v (.bool x.goes),ip x.nr,ip x.nc]
structure State where
 r:Int
 f:Pred
 store:List Item
 out:List Item
 k:Know
 count:Int
 clock:Int
 epoch:Int
structure Msg where
 kind:Int
 src:Int
 dst:Int
 sid:Int
 turn:Int
 f:Pred
 k:Know
 have_:List Has
 n:Int
 l:List Entry
 star:Bool
structure Sess where
 sid:Int
 with_:Int
 epoch:Int
 turn:Int
 got:List Int
 bad:Bool
 told:Bool
 over:Bool
 n:Int
 k:Know
 l:List Entry
structure Sit where
 r:Int
 f:Pred
 store:List Item
 out:List Item
 k:Know
 count:Int
 clock:Int
 epoch:Int
structure Line where
 item:Item
 goes:Bool
 r:Int
 c:Int
abbrev Line.row (x:Line):List PC:=[.v (.string x.item.id),ip x.item.vr,ip x.item.vc,ip x.item.stamp,.v (.string x.item.kind),ip x.item.num,.v (.float .f64 x.item.re),.v (.float .f64 x.item.im),.v (.bool x.item.dead),.v (.bool x.goes),ip x.r,ip x.c]
structure Note where
 kind:Int
 src:Int
 dst:Int
 sid:Int
 turn:Int
 f:Pred
 k:Know
 have_:List Has
 n:Int
 l:List Line
 star:Bool
abbrev V8.cs (v:V8):List C:=[ic v.x0,ic v.x1,ic v.x2,ic v.x3,ic v.x4,ic v.x5,ic v.x6,ic v.x7]
abbrev Ver.cs (v:Ver):List C:=[ic v.r,ic v.c]
abbrev Frag.cs (x:Frag):List C:=[.p (.sl (x.ids.map srw)),ic x.vec.x0,ic x.vec.x1,ic x.vec.x2,ic x.vec.x3,ic x.vec.x4,ic x.vec.x5,ic x.vec.x6,ic x.vec.x7]
abbrev Know.cs (x:Know):List C:=[ic x.star.x0,ic x.star.x1,ic x.star.x2,ic x.star.x3,ic x.star.x4,ic x.star.x5,ic x.star.x6,ic x.star.x7,.p (.sl (x.l.map Frag.row))]
abbrev Has.cs (x:Has):List C:=[.p (.v (.string x.id)),ic x.vr,ic x.vc,ic x.stamp]
abbrev Entry.cs (x:Entry):List C:=[.p (.v (.string x.item.id)),ic x.item.vr,ic x.item.vc,ic x.item.stamp,.p (.v (.string x.item.kind)),ic x.item.num,.p (.v (.complex .f64 x.item.re x.item.im)),.p (.v (.bool x.item.dead)),.p (.v (.bool x.goes)),ic x.nr,ic x.nc]
abbrev State.cs (x:State):List C:=[ic x.r,ic x.f.op,.p (.v (.string x.f.text)),ic x.f.n,.p (.v (.complex .f64 x.f.re x.f.im)),.p (.sl (Pred.rows x.f.kids)),.p (.sl (x.store.map Item.row)),.p (.sl (x.out.map Item.row)),
 ic x.k.star.x0,ic x.k.star.x1,ic x.k.star.x2,ic x.k.star.x3,ic x.k.star.x4,ic x.k.star.x5,ic x.k.star.x6,ic x.k.star.x7,.p (.sl (x.k.l.map Frag.row)),ic x.count,ic x.clock,ic x.epoch]
abbrev Msg.cs (x:Msg):List C:=[ic x.kind,ic x.src,ic x.dst,ic x.sid,ic x.turn,ic x.f.op,.p (.v (.string x.f.text)),ic x.f.n,.p (.v (.complex .f64 x.f.re x.f.im)),.p (.sl (Pred.rows x.f.kids)),
 ic x.k.star.x0,ic x.k.star.x1,ic x.k.star.x2,ic x.k.star.x3,ic x.k.star.x4,ic x.k.star.x5,ic x.k.star.x6,ic x.k.star.x7,.p (.sl (x.k.l.map Frag.row)),.p (.sl (x.have_.map Has.row)),ic x.n,.p (.sl (x.l.map Entry.row)),.p (.v (.bool x.star))]
abbrev Sess.cs (x:Sess):List C:=[ic x.sid,ic x.with_,ic x.epoch,ic x.turn,.p (.sl (x.got.map irw)),.p (.v (.bool x.bad)),.p (.v (.bool x.told)),.p (.v (.bool x.over)),ic x.n,
 ic x.k.star.x0,ic x.k.star.x1,ic x.k.star.x2,ic x.k.star.x3,ic x.k.star.x4,ic x.k.star.x5,ic x.k.star.x6,ic x.k.star.x7,.p (.sl (x.k.l.map Frag.row)),.p (.sl (x.l.map Entry.row))]
structure Deed9 where
 what:Int
 id:ByteArray
 kind:ByteArray
 num:Int
 re:Nat
 im:Nat
 f:Pred
abbrev Deed9.row (x:Deed9):List PC:=[ip x.what,.v (.string x.id),.v (.string x.kind),ip x.num,.v (.float .f64 x.re),.v (.float .f64 x.im),ip x.f.op,.v (.string x.f.text),ip x.f.n,.v (.float .f64 x.f.re),.v (.float .f64 x.f.im),.sl (Pred.lrows x.f.kids)]
structure Deed10 where
 what:Int
 n:Int
 x:Item
 old:Ver
 new:Ver
 d:Deed9
abbrev Deed10.row (y:Deed10):List PC:=[ip y.what,ip y.n,.v (.string y.x.id),ip y.x.vr,ip y.x.vc,ip y.x.stamp,.v (.string y.x.kind),ip y.x.num,.v (.float .f64 y.x.re),.v (.float .f64 y.x.im),.v (.bool y.x.dead),ip y.old.r,ip y.old.c,ip y.new.r,ip y.new.c,
 ip y.d.what,.v (.string y.d.id),.v (.string y.d.kind),ip y.d.num,.v (.float .f64 y.d.re),.v (.float .f64 y.d.im),ip y.d.f.op,.v (.string y.d.f.text),ip y.d.f.n,.v (.float .f64 y.d.f.re),.v (.float .f64 y.d.f.im),.sl (Pred.lrows y.d.f.kids)]
structure Talk where
 sid:Int
 with_:Int
 epoch:Int
 turn:Int
 got:List Int
 bad:Bool
 told:Bool
 over:Bool
 n:Int
 k:Know
 l:List Line
namespace Msg
abbrev row (x:Msg):List PC:=[ip x.kind,ip x.src,ip x.dst,ip x.sid,ip x.turn,ip x.f.op,.v (.string x.f.text),ip x.f.n,.v (.complex .f64 x.f.re x.f.im),.sl (Pred.rows x.f.kids),
 ip x.k.star.x0,ip x.k.star.x1,ip x.k.star.x2,ip x.k.star.x3,ip x.k.star.x4,ip x.k.star.x5,ip x.k.star.x6,ip x.k.star.x7,.sl (x.k.l.map Frag.row),.sl (x.have_.map Has.row),ip x.n,.sl (x.l.map Entry.row),.v (.bool x.star)]
end Msg
namespace Pred
theorem pmap_len (l:List Pred):lenL (rows l)=(l.length:Int):=qK l
theorem pat_in {l:List Pred} {j:Int} {x:Pred} (h:atL l j=some x):lenB (rows l) j=true:=by rw [qc9]; exact qc h
theorem pat_row {l:List Pred} {j:Int} {x:Pred} (h:atL l j=some x):E.rowAt (rows l) j=[ip x.op,.v (.string x.text),ip x.n,.v (.complex .f64 x.re x.im),.sl (rows x.kids)]:=by rw [qc9,qf h,qo7]
theorem qvp (x:Pred):rows [x]=[[ip x.op,.v (.string x.text),ip x.n,.v (.complex .f64 x.re x.im),.sl (rows x.kids)]]:=by rw [qc9,List.map_cons,qo7]; rfl
theorem pcat_one (l:List Pred) (x:Pred):catL (rows l) [[ip x.op,.v (.string x.text),ip x.n,.v (.complex .f64 x.re x.im),.sl (rows x.kids)]]=rows (l++[x]):=by rw [←qvp,qc9,qc9,qc9]; exact qgK l [x]
theorem proom_map {l:List Pred} {news:List (List PC)} {m b sz k:Nat} (c:qT l.length m=true) (hn:news.length=m) (hb:Nat.ble b 100000000=true) (h2:qae news sz=true) (h3:(Nat.beq k sz || Nat.beq k 0)=true):(qau (rows l) news b&&qae news sz&&(Nat.beq k sz || Nat.beq k 0))=true:=by rw [qc9]; exact qx c hn hb h2 h3
end Pred
end Go.Proofs.YtidkmoohgadjkaaGreat
set_option maxHeartbeats 4000000
namespace Go.Proofs.YtidkmoohgadjkaaGreat
open Go E Pred
def qvq (x y:Nat) (n:Int):Bool:=qb2 x y&&(leI 0 n&&leI n 8000000)
def qmj (o:Int) (t:ByteArray) (n:Int) (x y:Nat) (ks:List Pred):Bool :=
 if o=1∨o=2 then ((eqS t ⟨#[]⟩&&(eqI n 0&&(eqFl .f64 x 0&&eqFl .f64 y 0)))&&eqI (lenL (rows ks)) 0)
 else if o=3∨o=4 then (lettersB t 0&&(eqI n 0&&((eqFl .f64 x 0&&eqFl .f64 y 0)&&eqI (lenL (rows ks)) 0)))
 else if o=5∨o=6 then (eqS t ⟨#[]⟩&&(leI (-1000000) n&&(leI n 1000000&&((eqFl .f64 x 0&&eqFl .f64 y 0)&&eqI (lenL (rows ks)) 0))))
 else if o=7 then (eqS t ⟨#[]⟩&&(qvq x y n&&eqI (lenL (rows ks)) 0))
 else if o=8∨o=9 then (eqS t ⟨#[]⟩&&(eqI n 0&&(eqFl .f64 x 0&&eqFl .f64 y 0)))
 else if o=10 then ((eqS t ⟨#[]⟩&&(eqI n 0&&(eqFl .f64 x 0&&eqFl .f64 y 0)))&&eqI (lenL (rows ks)) 1)
 else false
theorem r10 (o:Int):o=1∨o=2∨o=3∨o=4∨o=5∨o=6∨o=7∨o=8∨o=9∨o=10∨(o≠1∧o≠2∧o≠3∧o≠4∧o≠5∧o≠6∧o≠7∧o≠8∧o≠9∧o≠10):=by omega
abbrev prow (o:Int) (t:ByteArray) (n:Int) (x y:Nat) (ks:List Pred):A:=.agg [ic o,.p (.v (.string t)),ic n,.p (.v (.complex .f64 x y)),.p (.sl (rows ks))]
def qju (t:ByteArray) (n:Int) (x y:Nat) (ks:List Pred) (bt bn ba bk:Bool):Bool:=(bt || eqS t ⟨#[]⟩)&&((bn || eqI n 0)&&((bk || !ltI 0 (lenL (rows ks)))&&(ba || (eqFl .f64 x 0&&eqFl .f64 y 0))))
theorem qsB {X:Task→Prop} (hX:qk X) {o:Int} {t:ByteArray} {n:Int} {x y:Nat} {ks:List Pred} {bt bn ba bk:Bool} {Q:A→List Blk→Prop} (hQ:Q (bv (qju t n x y ks bt bn ba bk)) []):X (.call 204 [prow o t n x y ks,bv bt,bv bn,bv ba,bv bk] [] Q):=by
 refine qb hX Tryz.func204 rfl rfl ?_
 repeat' ((conv=>whnf); first | exact hQ | refine ql ?_ | refine Two.l ?_ | refine ⟨by kernel_rfl,?_⟩ | refine bct (by assumption) ?_ | refine bcf (by assumption) ?_ | refine bcf (nt (by assumption)) ?_ | refine bct (nf (by assumption)) ?_ | (refine Qb hQ ?_; unfold qju; simp_all; done) | refine bc (fun _=>?_) (fun _=>?_))
def qmk (o:Int) (t:ByteArray) (n:Int) (x y:Nat) (ks:List Pred):Bool :=
 if o=1∨o=2 then qju t n x y ks false false false false
 else if o=3∨o=4 then qju t n x y ks true false false false&&lettersB t 0
 else if o=5∨o=6 then qju t n x y ks false true false false&&(leI (-1000000) n&&leI n 1000000)
 else if o=7 then qju t n x y ks false true true false&&(qb2 x y&&(leI 0 n&&leI n 8000000))
 else if o=8∨o=9 then qju t n x y ks false false false true
 else if o=10 then qju t n x y ks false false false true&&eqI (lenL (rows ks)) 1
 else false
theorem len0 (ks:List Pred):(!ltI 0 (lenL (rows ks)))=eqI (lenL (rows ks)) 0:=by
 rw [qK]
 cases h:eqI (ks.length:Int) 0 with
 | true=>rw [qdB] at h; rw [qag.2 (by omega)]; rfl
 | false=>rw [qav] at h; rw [q9.2 (by omega)]; rfl
theorem qx7 (o:Int) (t:ByteArray) (n:Int) (x y:Nat) (ks:List Pred):qmk o t n x y ks=qmj o t n x y ks:=by
 unfold qmk qmj qju qvq
 rw [len0]
 rcases r10 o with rfl | rfl | rfl | rfl | rfl | rfl | rfl | rfl | rfl | rfl | ⟨n1,n2,n3,n4,n5,n6,n7,n8,n9,n10⟩
 rotate_right
 ·simp [*]
 all_goals
  first | (simp only [Int.reduceEq,or_true,true_or,or_false,false_or,if_true,if_false,Bool.true_or,Bool.false_or,Bool.true_and,Bool.and_true]; done) | skip
  try simp only [Int.reduceEq,or_true,true_or,or_false,false_or,if_true,if_false,Bool.true_or,Bool.false_or,Bool.true_and,Bool.and_true]
  try cases eqS t ⟨#[]⟩<;>cases eqI n 0<;>cases eqI (lenL (rows ks)) 0<;>cases (eqFl .f64 x 0&&eqFl .f64 y 0)<;>simp
mutual
def qgL:Pred→Bool
 | .mk o t n x y ks=>qmj o t n x y ks&&qfz ks
def qfz:List Pred→Bool
 | []=>true
 | k::ks=>qgL k&&qfz ks
end
theorem qg4 (p:Pred):qgL p=(qmj p.op p.text p.n p.re p.im p.kids&&qfz p.kids):=by cases p; rw [qgL]; rfl
theorem qiI:qfz []=true:=by rw [qfz]
theorem qsC (l m:List Pred):qfz (l++m)=(qfz l&&qfz m):=by
 induction l with
 | nil=>rw [qiI]; simp
 | cons a l ih=>rw [List.cons_append,qfz,qfz,ih,Bool.and_assoc]
theorem qqz {l:List Pred} {j:Nat} (h:j < l.length):qfz (l.take (j + 1))=(qfz (l.take j)&&qgL l[j]):=by
 rw [List.take_succ_eq_append_getElem h,qsC]
 congr 1
 rw [qfz,qiI,Bool.and_true]
theorem qsD {l : List Pred} (h : qfz l = true) {k : Pred} (hk : k ∈ l) : qgL k = true := by
  induction l with
  | nil => cases hk
  | cons a l ih => rw [qfz, Bool.and_eq_true] at h; rcases List.mem_cons.1 hk with rfl | hk
                   · exact h.1
                   · exact ih h.2 hk
attribute [irreducible] qmj qju qmk qvq qgL qfz
theorem qnR {X:Task→Prop} (hX:qk X):∀ (N:Nat) {p:Pred} {Q:A→List Blk→Prop},p.size≤N→p.Ok→Q (bv (qgL p)) []→X (.call 152 [p.a] [] Q)
 | 0,p,_,h,_,_=>absurd h (by have:=qcE p; omega)
 | N + 1,p,Q,h,ok,hQ=>by
  have ht:=ok.text
  have hln:=ok.len
  have hk:=fun (j:Nat) (hj:j < p.kids.length)=>qcD hj
  have hok:=fun (j:Nat) (hj:j < p.kids.length)=>ok.kid hj
  have hf:=qg4 p
  rw [←qx7] at hf
  refine qb hX Tryz.func152 rfl rfl ?_
  rw [hf] at hQ
  clear hf ok
  simp only [Pred.a,Pred.cs]
  generalize p.op=o at *
  generalize p.text=t at *
  generalize p.n=n at *
  generalize p.re=x at *
  generalize p.im=y at *
  generalize p.kids=ks at *
  refine qxt (G:=∀ b:Bool,b=qmk o t n x y ks→X (.rest 152 0 ?c (pad [(1,.one (.ptr 0 0)),(1,bv b)] 90) [.box [ic o,.p (.v (.string t)),ic n,.p (.v (.complex .f64 x y)),.p (.sl (rows ks))]] ?K)) (fun tail=>?_) ?_
  rotate_left 2
  ·rcases r10 o with rfl | rfl | rfl | rfl | rfl | rfl | rfl | rfl | rfl | rfl | ⟨n1,n2,n3,n4,n5,n6,n7,n8,n9,n10⟩
   rotate_right
   ·have e1:eqI o 1=false:=qav.2 n1
    have e2:eqI o 2=false:=qav.2 n2
    have e3:eqI o 3=false:=qav.2 n3
    have e4:eqI o 4=false:=qav.2 n4
    have e5:eqI o 5=false:=qav.2 n5
    have e6:eqI o 6=false:=qav.2 n6
    have e7:eqI o 7=false:=qav.2 n7
    have e8:eqI o 8=false:=qav.2 n8
    have e9:eqI o 9=false:=qav.2 n9
    have e10:eqI o 10=false:=qav.2 n10
    repeat' ((conv=>whnf); first | exact hQ | refine ql ?_ | refine Two.l ?_ | refine ⟨by kernel_rfl,?_⟩ | refine bct (by assumption) ?_ | refine bcf (by assumption) ?_ | refine bcf (nt (by assumption)) ?_ | refine bct (nf (by assumption)) ?_ | (refine tail.h _ ?_; unfold qmk; simp [*]; done) | refine qkQ hX ht ?_ | refine qdj hX ?_ | refine qsB hX ?_ | refine bc (fun _=>?_) (fun _=>?_))
   all_goals
    repeat' ((conv=>whnf); first | exact hQ | refine ql ?_ | refine Two.l ?_ | refine ⟨by kernel_rfl,?_⟩ | refine bct (by assumption) ?_ | refine bcf (by assumption) ?_ | refine bcf (nt (by assumption)) ?_ | refine bct (nf (by assumption)) ?_ | (refine tail.h _ ?_; unfold qmk; simp [*]; done) | (refine tail.h _ ?_; unfold qmk; simp_all; done) | refine qkQ hX ht ?_ | refine qdj hX ?_ | refine qsB hX ?_ | refine bc (fun _=>?_) (fun _=>?_))
  ·intro b hb
   refine qt hX ?_
   repeat' ((conv=>whnf); first | exact hQ | refine ql ?_ | refine Two.l ?_ | refine ⟨by kernel_rfl,?_⟩ | refine bct (by assumption) ?_ | refine bcf (by assumption) ?_ | refine bcf (nt (by assumption)) ?_ | refine bct (nf (by assumption)) ?_)
   refine qcC (fun j (b:Bool)=>pad [(1,.one (.ptr 0 0)),(1,bv b),(2,iv (j:Int))] 87) (fun _ _=>[.box [ic o,.p (.v (.string t)),ic n,.p (.v (.complex .f64 x y)),.p (.sl (rows ks))]]) (fun j b=>b=(qmk o t n x y ks&&qfz (ks.take j))) ks.length (fun j b hj hI ih=>?_) (fun b hI=>?_) b (by rw [List.take_zero,qiI,Bool.and_true]; exact hb)
   ·have q1:ltI (j:Int) (lenL (rows ks))=true:=by rw [qK,q9]; omega
    have q2:=qba hj
    have hk:=hk j hj
    have ht:=qqz hj
    refine qa hX ?_
    cases b with
    | true=>repeat' ((conv=>whnf); first | exact hQ | refine ql ?_ | refine Two.l ?_ | refine ⟨by kernel_rfl,?_⟩ | refine bct (by assumption) ?_ | refine bcf (by assumption) ?_ | refine bcf (nt (by assumption)) ?_ | refine bct (nf (by assumption)) ?_ | (rw [qbn hj]) | refine qnR hX N (p:=ks[j]) (by omega) (hok j hj) ?_ | (rw [wrS (by omega)]; exact ih _ (by rw [ht,←Bool.and_assoc,←hI]; rfl)))
    | false=>repeat' ((conv=>whnf); first | exact hQ | refine ql ?_ | refine Two.l ?_ | refine ⟨by kernel_rfl,?_⟩ | refine bct (by assumption) ?_ | refine bcf (by assumption) ?_ | refine bcf (nt (by assumption)) ?_ | refine bct (nf (by assumption)) ?_ | (rw [qbn hj]) | refine qnR hX N (p:=ks[j]) (by omega) (hok j hj) ?_ | (rw [wrS (by omega)]; exact ih _ (by rw [ht,←Bool.and_assoc,←hI]; rfl)))
   ·have q1:ltI (ks.length:Int) (lenL (rows ks))=false:=by rw [qK,qag]; omega
    rw [List.take_length] at hI
    refine qa hX ?_
    repeat' ((conv=>whnf); first | exact hQ | refine ql ?_ | refine Two.l ?_ | refine ⟨by kernel_rfl,?_⟩ | refine bct (by assumption) ?_ | refine bcf (by assumption) ?_ | refine bcf (nt (by assumption)) ?_ | refine bct (nf (by assumption)) ?_ | (exact Qb hQ hI.symm))
def mayP (p:Pred):Bool:=decide (p.size≤30)&&(decide (p.depth≤6)&&qgL p)
theorem qb4 {X:Task→Prop} (hX:qk X) {p:Pred} {Q:A→List Blk→Prop} (hs:p.size≤1000) (ok:p.Ok) (hQ:Q (bv (mayP p)) []):X (.call 76 [p.a] [] Q):=by
 refine qb hX Tryz.func76 rfl rfl ?_
 have e1:leI (p.size:Int) 30=decide (p.size≤30):=by unfold leI; exact decide_eq_decide.2 (by omega)
 have e2:leI (p.depth:Int) 6=decide (p.depth≤6):=by unfold leI; exact decide_eq_decide.2 (by omega)
 repeat' ((conv=>whnf); first | exact hQ | refine ql ?_ | refine Two.l ?_ | refine ⟨by kernel_rfl,?_⟩ | refine bct (by assumption) ?_ | refine bcf (by assumption) ?_ | refine bcf (nt (by assumption)) ?_ | refine bct (nf (by assumption)) ?_ | (refine Qb hQ ?_; unfold mayP; rw [←e1,←e2]; simp_all; done) | refine qo9 hX p.size (Nat.le_refl _) hs ?_ | refine qiH hX p.size (Nat.le_refl _) hs ?_ | refine qnR hX p.size (Nat.le_refl _) ok ?_ | refine bc (fun _=>?_) (fun _=>?_))
attribute [irreducible] mayP
end Go.Proofs.YtidkmoohgadjkaaGreat
set_option maxHeartbeats 4000000
namespace Go.Proofs.YtidkmoohgadjkaaGreat
open Go E Pred
abbrev pagg (o:Int) (t:ByteArray) (n:Int) (x y:Nat) (r:List (List PC)):A:=.agg [ic o,.p (.v (.string t)),ic n,.p (.v (.complex .f64 x y)),.p (.sl r)]
section
variable {X:Task→Prop} (hX:qk X) {o:Int} {t:ByteArray} {n:Int} {x y:Nat} {r:List (List PC)} {Q:A→List Blk→Prop}
include hX
end
theorem qx8 (o:Int) (t:ByteArray) (n:Int) (x y:Nat) (ks:List Pred):(Pred.mk o t n x y ks).size=sizes ks + 1:=size_eq _
theorem qml {x y:Nat} (h:eqFl .f64 x y=true):eqFl .f64 x x=true:=by
 have h':(Ieee.Datum.order (Ieee.double.read x) (Ieee.double.read y) == some .eq)=true:=h
 show (Ieee.Datum.order (Ieee.double.read x) (Ieee.double.read x) == some .eq)=true
 cases hx:Ieee.double.read x with
 | nan s f=>rw [hx] at h'; cases h'
 | infinity s=>cases s<;>rfl
 | number s m i=>rw [qiE]; simp
theorem qmm {o:Int} {t:ByteArray} {n:Int} {x y:Nat} {ks:List Pred} (h:qmj o t n x y ks=true):(eqFl .f64 x x&&eqFl .f64 y y)=true:=by
 have key:(eqFl .f64 x 0&&eqFl .f64 y 0)=true∨qb2 x y=true:=by
  unfold qmj qvq at h
  rcases r10 o with rfl | rfl | rfl | rfl | rfl | rfl | rfl | rfl | rfl | rfl | ⟨n1,n2,n3,n4,n5,n6,n7,n8,n9,n10⟩
  rotate_right
  ·simp [*] at h
  all_goals
   simp at h
   simp [h]
 rcases key with h | h
 ·rw [Bool.and_eq_true] at h ⊢
  exact ⟨qml h.1,qml h.2⟩
 ·obtain ⟨⟨w1,_⟩,⟨w2,_⟩⟩:=qdY h
  rw [w1.self,w2.self]; rfl
theorem qhq:∀ (N:Nat) {l:List Pred},sizes l≤N→qfz l=true→qe7 l l=true
 | _,[],_,_=>by rw [qe7]
 | 0,k::ks,h,_=>absurd h (by rw [Pred.sizes]; have:=qcE k; omega)
 | N + 1,k::ks,h,hs=>by
  rw [Pred.sizes] at h
  rw [qfz,Bool.and_eq_true] at hs
  have hk:=size_eq k
  have hf:=hs.1
  rw [qg4,Bool.and_eq_true] at hf
  have h1:=qhq N (l:=k.kids) (by omega) hf.2
  have h2:=qhq N (l:=ks) (by omega) hs.2
  rw [qe7,h2,qfy,h1,qmm hf.1,qgg]
  simp [eqI]
theorem qjT {p:Pred} (h:qgL p=true):qei p p=true:=by
 rw [qg4,Bool.and_eq_true] at h
 rw [qfy,qhq _ (Nat.le_refl _) h.2,qmm h.1,qgg]
 simp [eqI]
theorem qg5 {p:Pred}:mayP p=true↔p.size≤30∧p.depth≤6∧qgL p=true:=by
 unfold mayP; simp only [Bool.and_eq_true,decide_eq_true_eq]
end Go.Proofs.YtidkmoohgadjkaaGreat
set_option maxHeartbeats 4000000
namespace Go.Proofs.YtidkmoohgadjkaaGreat
open Go E Pred
def qg6 (s t:ByteArray):Bool:=(bytesOf t).isPrefixOf (bytesOf s)
theorem qsE (s:ByteArray) (n:Nat):bytesOf (subS s 0 n)=(bytesOf s).take n:=by
 unfold bytesOf subS
 rw [ByteArray.data_extract,Array.toList_extract]
 simp
theorem qsF (s t:ByteArray):eqS s t=true↔bytesOf s=bytesOf t:=by unfold eqS bytesOf; exact beq_iff_eq
theorem qx9 (s t:ByteArray):qg6 s t=(leI (lenS t) (lenS s)&&eqS (subS s 0 t.size) t):=by
 unfold qg6
 rw [Bool.eq_iff_iff,Bool.and_eq_true,qsF,qsE,List.isPrefixOf_iff_prefix,qa5,qgm,qgm,←qex,←qex]
 constructor
 ·intro h; exact ⟨by have:=h.length_le; omega,(List.prefix_iff_eq_take.1 h).symm⟩
 ·intro h; exact List.prefix_iff_eq_take.2 h.2.symm
theorem qvr {X:Task→Prop} (hX:qk X) {s t:ByteArray} {Q:A→List Blk→Prop} (hQ:Q (bv (qg6 s t)) []):X (.call 193 [sv s,sv t] [] Q):=by
 have hp:=qx9 s t
 refine qb hX Tryz.func193 rfl rfl ?_
 cases h1:leI (lenS t) (lenS s) with
 | false=>repeat' ((conv=>whnf); first | exact hQ | refine ql ?_ | refine Two.l ?_ | refine ⟨by kernel_rfl,?_⟩ | refine bct (by assumption) ?_ | refine bcf (by assumption) ?_ | refine bcf (nt (by assumption)) ?_ | refine bct (nf (by assumption)) ?_ | (exact Qb hQ (by rw [hp,h1]; rfl)))
 | true =>
  rw [h1,Bool.true_and] at hp
  have q1:(inC (lenS t) s.size&&leI 0 0&&leI 0 (lenS t))=true:=by
   rw [qa5,qgm,qgm] at h1
   have e1:inC (lenS t) s.size=true:=by unfold inC; rw [decide_eq_true_eq,qgm]; omega
   have e2:leI 0 (lenS t)=true:=by rw [qa5,qgm]; omega
   rw [e1,e2]; rfl
  repeat' ((conv=>whnf); first | exact hQ | refine ql ?_ | refine Two.l ?_ | refine ⟨by kernel_rfl,?_⟩ | refine bct (by assumption) ?_ | refine bcf (by assumption) ?_ | refine bcf (nt (by assumption)) ?_ | refine bct (nf (by assumption)) ?_ | (exact Qb hQ (by rw [hp]; rfl)))
theorem qmn {X:Task→Prop} (hX:qk X) {s t:ByteArray} {Q:A→List Blk→Prop} (hQ:Q (bv (qg6 s t)) []):X (.call 139 [sv s,sv t] [] Q):=by
 refine qb hX Tryz.func139 rfl rfl ?_
 repeat' ((conv=>whnf); first | exact hQ | refine ql ?_ | refine Two.l ?_ | refine ⟨by kernel_rfl,?_⟩ | refine bct (by assumption) ?_ | refine bcf (by assumption) ?_ | refine bcf (nt (by assumption)) ?_ | refine bct (nf (by assumption)) ?_ | refine qvr hX ?_)
theorem qsG {a b:List UInt8} {j:Nat} (hj:j < b.length) (h:b.take j=a.take j) (ha:j < a.length) (he:a[j]=b[j]):b.take (j + 1)=a.take (j + 1):=by
 rw [List.take_succ_eq_append_getElem hj,List.take_succ_eq_append_getElem ha,h,he]
theorem qmo {X:Task→Prop} (hX:qk X) {s t:ByteArray} {Q:A→List Blk→Prop} (ht:t.size≤9223372036854775807) (hQ:Q (bv (qg6 s t)) []):X (.call 90 [sv s,sv t] [] Q):=by
 refine qb hX Tryz.func90 rfl rfl ?_
 repeat' ((conv=>whnf); first | exact hQ | refine ql ?_ | refine Two.l ?_ | refine ⟨by kernel_rfl,?_⟩ | refine bct (by assumption) ?_ | refine bcf (by assumption) ?_ | refine bcf (nt (by assumption)) ?_ | refine bct (nf (by assumption)) ?_)
 have hlt:=qex t
 refine qcC (fun j (_:Unit)=>pad [(0,sv s),(0,sv t),(3,iv (j:Int))] 19) (fun _ _=>[]) (fun j _=>(bytesOf t).take j=(bytesOf s).take j) (bytesOf t).length (fun j st hj hI ih=>?_) (fun st hI=>?_) () rfl
 ·have q1:ltI (j:Int) (lenS t)=true:=by rw [qcU,q9]; omega
  have q2:=qvk hj
  have q3:=qo5 hj
  have hbad:¬ ((bytesOf t).take (j + 1)=(bytesOf s).take (j + 1))→qg6 s t=false:=fun h=>by
   cases hp:qg6 s t with
   | false=>rfl
   | true =>
    unfold qg6 at hp
    rw [List.isPrefixOf_iff_prefix] at hp
    obtain ⟨r,hr⟩:=hp
    exact absurd (by rw [←hr,List.take_append_of_le_length (by omega)]) h
  refine qa hX ?_
  by_cases hs:j < (bytesOf s).length
  ·have q4:leI (lenS s) (j:Int)=false:=by rw [qcU,qhi]; omega
   have q5:=qvk hs
   have q6:=qo5 hs
   by_cases he:(bytesOf s)[j]=(bytesOf t)[j]
   ·have q7:eqI (atS s (j:Int)) (atS t (j:Int))=true:=by rw [q3,q6,he,qdB]
    repeat' ((conv=>whnf); first | exact hQ | refine ql ?_ | refine Two.l ?_ | refine ⟨by kernel_rfl,?_⟩ | refine bct (by assumption) ?_ | refine bcf (by assumption) ?_ | refine bcf (nt (by assumption)) ?_ | refine bct (nf (by assumption)) ?_ | (rw [wrS (by omega)]; exact ih () (qsG hj hI hs he)))
   ·have q7:eqI (atS s (j:Int)) (atS t (j:Int))=false:=by
     rw [q3,q6,qav]
     intro h
     exact he (UInt8.toNat.inj (by omega))
    have hb:=hbad fun h=>he (by
     rw [List.take_succ_eq_append_getElem hj,List.take_succ_eq_append_getElem hs] at h
     have:=List.append_inj_right h (by rw [List.length_take,List.length_take]; omega)
     simpa using this.symm)
    repeat' ((conv=>whnf); first | exact hQ | refine ql ?_ | refine Two.l ?_ | refine ⟨by kernel_rfl,?_⟩ | refine bct (by assumption) ?_ | refine bcf (by assumption) ?_ | refine bcf (nt (by assumption)) ?_ | refine bct (nf (by assumption)) ?_ | (exact Qb hQ hb))
  ·have q4:leI (lenS s) (j:Int)=true:=by rw [qcU,qa5]; omega
   have hb:=hbad fun h=>by
    have:=congrArg List.length h
    rw [List.length_take,List.length_take] at this
    omega
   repeat' ((conv=>whnf); first | exact hQ | refine ql ?_ | refine Two.l ?_ | refine ⟨by kernel_rfl,?_⟩ | refine bct (by assumption) ?_ | refine bcf (by assumption) ?_ | refine bcf (nt (by assumption)) ?_ | refine bct (nf (by assumption)) ?_ | (exact Qb hQ hb))
 ·have q1:ltI ((bytesOf t).length:Int) (lenS t)=false:=by rw [qcU,qag]; omega
  have hp:qg6 s t=true:=by
   unfold qg6
   rw [List.isPrefixOf_iff_prefix,List.prefix_iff_eq_take]
   rw [List.take_length] at hI
   exact hI
  refine qa hX ?_
  repeat' ((conv=>whnf); first | exact hQ | refine ql ?_ | refine Two.l ?_ | refine ⟨by kernel_rfl,?_⟩ | refine bct (by assumption) ?_ | refine bcf (by assumption) ?_ | refine bcf (nt (by assumption)) ?_ | refine bct (nf (by assumption)) ?_ | (exact Qb hQ hp))
def idxP {α:Type} (p:α→Bool):List α→Nat→Int
 | [],_ => -1
 | a::l,i=>if p a then (i:Int) else idxP p l (i + 1)
theorem qpc {α:Type} (p:α→Bool):∀ (l:List α) (i:Nat),leI 0 (idxP p l i)=l.any p
 | [],i=>rfl
 | a::l,i=>by
  unfold idxP
  cases h:p a with
  | true=>rw [if_pos rfl,List.any_cons,h]; exact qa5.2 (by omega)
  | false=>rw [if_neg (by simp),List.any_cons,h,qpc p l (i + 1)]; rfl
theorem qsH {α:Type} {p:α→Bool}:∀ {l:List α} {j:Nat} (h:j < l.length) (i:Nat),(∀ k (hk:k < j),p (l[k]'(by omega))=false)→p l[j]=true→idxP p l i=((i + j:Nat):Int)
 | a::l,0,h,i,_,hp=>by unfold idxP; rw [if_pos (by simpa using hp)]; rfl
 | a::l,j + 1,h,i,hk,hp=>by
  unfold idxP
  have h0:=hk 0 (by omega)
  simp only [List.getElem_cons_zero] at h0
  rw [if_neg (by rw [h0]; simp),qsH (l:=l) (j:=j) (by simpa using h) (i + 1) (fun k hk'=>by simpa using hk (k + 1) (by omega)) (by simpa using hp)]
  congr 1; omega
theorem qmp {α:Type} {p:α→Bool}:∀ {l:List α} (i:Nat),(∀ k (hk:k < l.length),p l[k]=false)→idxP p l i = -1
 | [],i,_=>rfl
 | a::l,i,h=>by
  unfold idxP
  have h0:=h 0 (by simp)
  simp only [List.getElem_cons_zero] at h0
  rw [if_neg (by rw [h0]; simp)]
  exact qmp (i + 1) fun k hk=>by
   have:=h (k + 1) (by simpa using hk)
   simp only [List.getElem_cons_succ] at this
   exact this
section
variable {X:Task→Prop} (hX:qk X) {g:Nat} {cells:List PC} {ks:List Pred} {P:Pred→Bool} {Q:A→List Blk→Prop}
include hX
theorem qmq (hln:ks.length≤9223372036854775807) (hg:∀ (j:Nat) (hj:j < ks.length) (Q':A→List Blk→Prop),Q' (bv (P ks[j])) []→X (.call g [ks[j].a,.one (.rp cells)] [] Q')) (hQ:Q (iv (idxP P ks 0)) []):X (.call 195 [sl (rows ks),.one (.pf g [cells])] [] Q):=by
 refine qb hX Tryz.func195 rfl rfl ?_
 repeat' ((conv=>whnf); first | exact hQ | refine ql ?_ | refine Two.l ?_ | refine ⟨by kernel_rfl,?_⟩ | refine bct (by assumption) ?_ | refine bcf (by assumption) ?_ | refine bcf (nt (by assumption)) ?_ | refine bct (nf (by assumption)) ?_)
 refine qcC (fun j (_:Unit)=>pad [(0,sl (rows ks)),(0,.one (.pf g [cells])),(5,iv (lenL (rows ks))),(0,iv (j:Int))] 10) (fun _ _=>[]) (fun j _=>∀ k (hk:k < ks.length),k < j→P ks[k]=false) ks.length (fun j st hj hI ih=>?_) (fun st hI=>?_) () (fun k hk h=>absurd h (Nat.not_lt_zero _))
 ·have q1:ltI (j:Int) (lenL (rows ks))=true:=by rw [qK,q9]; omega
  have q2:=qba hj
  refine qa hX ?_
  cases hP:P ks[j] with
  | true=>repeat' ((conv=>whnf); first | exact hQ | refine ql ?_ | refine Two.l ?_ | refine ⟨by kernel_rfl,?_⟩ | refine bct (by assumption) ?_ | refine bcf (by assumption) ?_ | refine bcf (nt (by assumption)) ?_ | refine bct (nf (by assumption)) ?_ | (exact Qi hQ (by rw [qsH hj 0 (fun k hk=>hI k (by omega) hk) hP,Nat.zero_add])) | refine qe (qbn hj) ?_ | refine known bv (hg j hj) hP ?_)
  | false=>repeat' ((conv=>whnf); first | exact hQ | refine ql ?_ | refine Two.l ?_ | refine ⟨by kernel_rfl,?_⟩ | refine bct (by assumption) ?_ | refine bcf (by assumption) ?_ | refine bcf (nt (by assumption)) ?_ | refine bct (nf (by assumption)) ?_ | refine qe (qbn hj) ?_ | refine known bv (hg j hj) hP ?_ | (rw [wrS (by omega)]; refine ih () (fun k hk hkj=>?_); rcases Nat.lt_succ_iff_lt_or_eq.1 hkj with h' | rfl; exact hI k hk h'; exact hP))
 ·have q1:ltI (ks.length:Int) (lenL (rows ks))=false:=by rw [qK,qag]; omega
  refine qa hX ?_
  repeat' ((conv=>whnf); first | exact hQ | refine ql ?_ | refine Two.l ?_ | refine ⟨by kernel_rfl,?_⟩ | refine bct (by assumption) ?_ | refine bcf (by assumption) ?_ | refine bcf (nt (by assumption)) ?_ | refine bct (nf (by assumption)) ?_ | (exact Qi hQ (qmp 0 fun k hk=>hI k hk hk)))
theorem qfX (hln:ks.length≤9223372036854775807) (hg:∀ (j:Nat) (hj:j < ks.length) (Q':A→List Blk→Prop),Q' (bv (P ks[j])) []→X (.call g [ks[j].a,.one (.rp cells)] [] Q')) (hQ:Q (bv (ks.any P)) []):X (.call 141 [sl (rows ks),.one (.pf g [cells])] [] Q):=by
 refine qb hX Tryz.func141 rfl rfl ?_
 repeat' ((conv=>whnf); first | exact hQ | refine ql ?_ | refine Two.l ?_ | refine ⟨by kernel_rfl,?_⟩ | refine bct (by assumption) ?_ | refine bcf (by assumption) ?_ | refine bcf (nt (by assumption)) ?_ | refine bct (nf (by assumption)) ?_ | (exact Qb hQ (qpc P ks 0).symm) | refine qmq hX hln hg ?_)
end
mutual
def hasP:Pred→Item→Bool
 | .mk o t n a b ks,x=>if o=1 then true else if o=3 then eqS x.kind t else if o=4 then qg6 x.id t else if o=5 then ltI x.num n else if o=6 then leI n x.num
  else if o=7 then qnN x.re x.im a b n else if o=8 then qg7 ks x else if o=9 then qhI ks x else if o=10 then qiJ ks x else false
def qg7:List Pred→Item→Bool
 | [],_=>true
 | k::ks,x=>hasP k x&&qg7 ks x
def qhI:List Pred→Item→Bool
 | [],_=>false
 | k::ks,x=>hasP k x || qhI ks x
def qiJ:List Pred→Item→Bool
 | [],_=>false
 | k::_,x=>!hasP k x
end
def has0 (o:Int) (t:ByteArray) (n:Int) (a b:Nat) (ks:List Pred) (x:Item):Bool:=if o=1 then true else if o=3 then eqS x.kind t else if o=4 then qg6 x.id t else if o=5 then ltI x.num n else if o=6 then leI n x.num
  else if o=7 then qnN x.re x.im a b n else if o=8 then qg7 ks x else if o=9 then qhI ks x else if o=10 then qiJ ks x else false
theorem qsI (p:Pred) (x:Item):hasP p x=has0 p.op p.text p.n p.re p.im p.kids x:=by cases p; rw [hasP]; rfl
theorem qmr (ks:List Pred) (x:Item):qg7 ks x=!(ks.any fun k=>!hasP k x):=by
 induction ks with
 | nil=>rw [qg7]; rfl
 | cons k ks ih=>rw [qg7,ih,List.any_cons]; simp
theorem qms (ks:List Pred) (x:Item):qhI ks x=ks.any fun k=>hasP k x:=by
 induction ks with
 | nil=>rw [qhI]; rfl
 | cons k ks ih=>rw [qhI,ih,List.any_cons]
theorem qiK {ks:List Pred} {x:Item} (h:0 < ks.length):qiJ ks x=!hasP ks[0] x:=by
 cases ks with
 | nil=>cases h
 | cons k ks=>rw [qiJ]; rfl
theorem qjU {ks:List Pred} {x:Item} (h:¬ 0 < ks.length):qiJ ks x=false:=by
 cases ks with
 | nil=>rw [qiJ]
 | cons k ks=>simp at h
theorem qkV (ks:List Pred) (x:Item):qg7 ks x=decide (ks.countP (fun k=>hasP k x)=ks.length):=by
 rw [qmr,Bool.eq_iff_iff,decide_eq_true_iff,List.countP_eq_length]; simp
theorem qkW (ks:List Pred) (x:Item):qhI ks x=decide (0 < ks.countP (fun k=>hasP k x)):=by
 rw [qms,Bool.eq_iff_iff,decide_eq_true_iff,List.countP_pos_iff]; simp
theorem qqA {ks:List Pred} {P:Pred→Bool} {j:Nat} (h:j < ks.length):(ks.take (j + 1)).countP P=(ks.take j).countP P + (if P ks[j] then 1 else 0):=by
 rw [List.take_succ_eq_append_getElem h,List.countP_append,List.countP_singleton]
attribute [irreducible] hasP qg7 qhI qiJ has0 qg6
theorem qsJ (a b c d:Nat) (n:Int):qnN a b c d n=(leI 0 (farV a b c d)&&leI (farV a b c d) n):=by
 unfold qnN leI; rw [Bool.decide_and]
section
variable {X:Task→Prop} (hX:qk X) {k:Pred} {x:Item} {b:Bool} {Q:A→List Blk→Prop}
include hX
theorem qz6 (hk:∀ Q':A→List Blk→Prop,Q' (bv b) []→X (.call 69 [k.a,x.a] [] Q')) (hQ:Q (bv b) []):X (.call 137 [k.a,.one (.rp x.row)] [] Q):=by
 refine qb hX Tryz.func137 rfl rfl ?_
 repeat' ((conv=>whnf); first | exact hQ | refine ql ?_ | refine Two.l ?_ | refine ⟨by kernel_rfl,?_⟩ | refine bct (by assumption) ?_ | refine bcf (by assumption) ?_ | refine bcf (nt (by assumption)) ?_ | refine bct (nf (by assumption)) ?_ | refine hk _ ?_)
theorem qvs (hk:∀ Q':A→List Blk→Prop,Q' (bv b) []→X (.call 69 [k.a,x.a] [] Q')) (hQ:Q (bv (!b)) []):X (.call 138 [k.a,.one (.rp x.row)] [] Q):=by
 refine qb hX Tryz.func138 rfl rfl ?_
 repeat' ((conv=>whnf); first | exact hQ | refine ql ?_ | refine Two.l ?_ | refine ⟨by kernel_rfl,?_⟩ | refine bct (by assumption) ?_ | refine bcf (by assumption) ?_ | refine bcf (nt (by assumption)) ?_ | refine bct (nf (by assumption)) ?_ | refine hk _ ?_)
theorem qsK (hk:∀ Q':A→List Blk→Prop,Q' (bv b) []→X (.call 69 [k.a,x.a] [] Q')) (hQ:Q (bv (!b)) [.box x.cs]):X (.call 138 [k.a,.one (.ptr 0 0)] [.box x.cs] Q):=by
 refine qb hX Tryz.func138 rfl rfl ?_
 repeat' ((conv=>whnf); first | exact hQ | refine ql ?_ | refine Two.l ?_ | refine ⟨by kernel_rfl,?_⟩ | refine bct (by assumption) ?_ | refine bcf (by assumption) ?_ | refine bcf (nt (by assumption)) ?_ | refine bct (nf (by assumption)) ?_ | refine hk _ ?_)
end
theorem qwu {X:Task→Prop} (hX:qk X):∀ (N:Nat) {p:Pred} {x:Item} {Q:A→List Blk→Prop},p.size≤N→p.Ok→x.Ok→Q (bv (hasP p x)) []→X (.call 69 [p.a,x.a] [] Q)
 | 0,p,_,_,h,_,_,_=>absurd h (by have:=qcE p; omega)
 | N + 1,p,x,Q,h,ok,ox,hQ=>by
  have hln:=ok.len
  have hkid:∀ (j:Nat) (hj:j < p.kids.length) (Q':A→List Blk→Prop),Q' (bv (hasP p.kids[j] x)) []→X (.call 69 [p.kids[j].a,x.a] [] Q'):=fun j hj Q' hQ'=>qwu hX N (by have:=qcD hj; omega) (ok.kid hj) ox hQ'
  rw [qsI] at hQ
  refine qb hX Tryz.func69 rfl rfl ?_
  clear ok
  simp only [Pred.a,Pred.cs]
  generalize p.op=o at *
  generalize p.text=t at *
  generalize p.n=n at *
  generalize p.re=a at *
  generalize p.im=b at *
  generalize p.kids=ks at *
  rcases r10 o with rfl | rfl | rfl | rfl | rfl | rfl | rfl | rfl | rfl | rfl | ⟨n1,n2,n3,n4,n5,n6,n7,n8,n9,n10⟩
  rotate_right
  ·have e1:eqI o 1=false:=qav.2 n1
   have e3:eqI o 3=false:=qav.2 n3
   have e4:eqI o 4=false:=qav.2 n4
   have e5:eqI o 5=false:=qav.2 n5
   have e6:eqI o 6=false:=qav.2 n6
   have e7:eqI o 7=false:=qav.2 n7
   have e8:eqI o 8=false:=qav.2 n8
   have e9:eqI o 9=false:=qav.2 n9
   have e10:eqI o 10=false:=qav.2 n10
   repeat' ((conv=>whnf); first | exact hQ | refine ql ?_ | refine Two.l ?_ | refine ⟨by kernel_rfl,?_⟩ | refine bct (by assumption) ?_ | refine bcf (by assumption) ?_ | refine bcf (nt (by assumption)) ?_ | refine bct (nf (by assumption)) ?_ | (refine Qb hQ ?_; unfold has0; simp [*]; done))
  rotate_right
  ·by_cases h0:0 < ks.length
   ·have q1:ltI 0 (lenL (rows ks))=true:=by rw [qK,q9]; omega
    have q2:lenB (rows ks) 0=true:=qba h0
    have q3:=qbn h0
    repeat' ((conv=>whnf); first | exact hQ | refine ql ?_ | refine Two.l ?_ | refine ⟨by kernel_rfl,?_⟩ | refine bct (by assumption) ?_ | refine bcf (by assumption) ?_ | refine bcf (nt (by assumption)) ?_ | refine bct (nf (by assumption)) ?_ | (refine Qb hQ ?_; unfold has0; simp [qiK h0]; done) | refine qe q3 ?_ | refine qsK hX (hkid 0 h0) ?_)
   ·have q1:ltI 0 (lenL (rows ks))=false:=by rw [qK,qag]; omega
    repeat' ((conv=>whnf); first | exact hQ | refine ql ?_ | refine Two.l ?_ | refine ⟨by kernel_rfl,?_⟩ | refine bct (by assumption) ?_ | refine bcf (by assumption) ?_ | refine bcf (nt (by assumption)) ?_ | refine bct (nf (by assumption)) ?_ | (refine Qb hQ ?_; unfold has0; simp [qjU h0]; done))
  rotate_right
  ·repeat' ((conv=>whnf); first | exact hQ | refine ql ?_ | refine Two.l ?_ | refine ⟨by kernel_rfl,?_⟩ | refine bct (by assumption) ?_ | refine bcf (by assumption) ?_ | refine bcf (nt (by assumption)) ?_ | refine bct (nf (by assumption)) ?_ | refine Or.inr (Or.inl ?_) | (refine qfX hX (P:=fun k=>hasP k x) hln (fun j hj Q' hQ'=>qz6 hX (hkid j hj) hQ') ?_) | (refine Qb hQ ?_; unfold has0; simp [qms]; done))
  rotate_right
  ·repeat' ((conv=>whnf); first | exact hQ | refine ql ?_ | refine Two.l ?_ | refine ⟨by kernel_rfl,?_⟩ | refine bct (by assumption) ?_ | refine bcf (by assumption) ?_ | refine bcf (nt (by assumption)) ?_ | refine bct (nf (by assumption)) ?_ | refine Or.inr (Or.inl ?_) | (refine qfX hX (P:=fun k=>!hasP k x) hln (fun j hj Q' hQ'=>qvs hX (hkid j hj) hQ') ?_) | (refine Qb hQ ?_; unfold has0; simp [qmr]; done))
  all_goals
   repeat' ((conv=>whnf); first | exact hQ | refine ql ?_ | refine Two.l ?_ | refine ⟨by kernel_rfl,?_⟩ | refine bct (by assumption) ?_ | refine bcf (by assumption) ?_ | refine bcf (nt (by assumption)) ?_ | refine bct (nf (by assumption)) ?_ | (refine Qb hQ ?_; unfold has0; simp; done) | refine qxZ hX ?_ | refine qmn hX ?_)
theorem qsL {X:Task→Prop} (hX:qk X):∀ (N:Nat) {p:Pred} {x:Item} {Q:A→List Blk→Prop},p.size≤N→p.Ok→x.Ok→Q (bv (hasP p x)) []→X (.call 28 [p.a,x.a] [] Q)
 | 0,p,_,_,h,_,_,_=>absurd h (by have:=qcE p; omega)
 | N + 1,p,x,Q,h,ok,ox,hQ=>by
  have hln:=ok.len
  have htx:=ok.text
  have hkid:∀ (j:Nat) (hj:j < p.kids.length) (Q':A→List Blk→Prop),Q' (bv (hasP p.kids[j] x)) []→X (.call 28 [p.kids[j].a,x.a] [] Q'):=fun j hj Q' hQ'=>qsL hX N (by have:=qcD hj; omega) (ok.kid hj) ox hQ'
  rw [qsI] at hQ
  refine qb hX Tryz.func28 rfl rfl ?_
  clear ok
  simp only [Pred.a,Pred.cs]
  generalize p.op=o at *
  generalize p.text=t at *
  generalize p.n=n at *
  generalize p.re=a at *
  generalize p.im=b at *
  generalize p.kids=ks at *
  repeat' ((conv=>whnf); first | exact hQ | refine ql ?_ | refine Two.l ?_ | refine ⟨by kernel_rfl,?_⟩ | refine bct (by assumption) ?_ | refine bcf (by assumption) ?_ | refine bcf (nt (by assumption)) ?_ | refine bct (nf (by assumption)) ?_)
  refine qkI (fun i (m:Int)=>pad [(2,.one (.ptr 0 0)),(0,.one (.ptr 1 0)),(1,iv m),(0,iv i)] 90) (fun _ _=>[.box [ic o,.p (.v (.string t)),ic n,.p (.v (.complex .f64 a b)),.p (.sl (rows ks))],.box x.cs]) (fun j m=>m=(((ks.take j).countP fun k=>hasP k x:Nat):Int)) ks.length 0 (Nat.zero_le _) (fun j m _ hj hI ih=>?_) (fun m hI=>?_) 0 0 rfl rfl
  ·have q1:ltI (j:Int) (lenL (rows ks))=true:=by rw [qK,q9]; omega
   have q2:=qba hj
   have hct:=qqA (P:=fun k=>hasP k x) hj
   have hcl:=List.countP_le_length (p:=fun k=>hasP k x) (l:=ks.take j)
   rw [List.length_take] at hcl
   refine qa hX ?_
   cases hh:hasP ks[j] x with
   | true =>
    rw [hh,if_pos rfl] at hct
    have e:wr .i64 (m + 1)=(((ks.take (j + 1)).countP fun k=>hasP k x:Nat):Int):=by rw [hct,hI,wrS (by omega)]
    clear hct hI hcl
    repeat' ((conv=>whnf); first | exact hQ | refine ql ?_ | refine Two.l ?_ | refine ⟨by kernel_rfl,?_⟩ | refine bct (by assumption) ?_ | refine bcf (by assumption) ?_ | refine bcf (nt (by assumption)) ?_ | refine bct (nf (by assumption)) ?_ | refine qe (qbn hj) ?_ | refine known bv (hkid j hj) hh ?_ | (exact ih _ _ (wrS (by omega)) e))
   | false =>
    rw [hh,if_neg (by simp),Nat.add_zero] at hct
    have e:m=(((ks.take (j + 1)).countP fun k=>hasP k x:Nat):Int):=by rw [hct]; exact hI
    clear hct hI hcl
    repeat' ((conv=>whnf); first | exact hQ | refine ql ?_ | refine Two.l ?_ | refine ⟨by kernel_rfl,?_⟩ | refine bct (by assumption) ?_ | refine bcf (by assumption) ?_ | refine bcf (nt (by assumption)) ?_ | refine bct (nf (by assumption)) ?_ | refine qe (qbn hj) ?_ | refine known bv (hkid j hj) hh ?_ | (exact ih _ _ (wrS (by omega)) e))
  ·have q1:ltI (ks.length:Int) (lenL (rows ks))=false:=by rw [qK,qag]; omega
   rw [List.take_length] at hI
   subst hI
   refine qa hX ?_
   rcases r10 o with rfl | rfl | rfl | rfl | rfl | rfl | rfl | rfl | rfl | rfl | ⟨n1,n2,n3,n4,n5,n6,n7,n8,n9,n10⟩
   rotate_right
   ·have e1:eqI o 1=false:=qav.2 n1
    have e3:eqI o 3=false:=qav.2 n3
    have e4:eqI o 4=false:=qav.2 n4
    have e5:eqI o 5=false:=qav.2 n5
    have e6:eqI o 6=false:=qav.2 n6
    have e7:eqI o 7=false:=qav.2 n7
    have e8:eqI o 8=false:=qav.2 n8
    have e9:eqI o 9=false:=qav.2 n9
    have e10:eqI o 10=false:=qav.2 n10
    repeat' ((conv=>whnf); first | exact hQ | refine ql ?_ | refine Two.l ?_ | refine ⟨by kernel_rfl,?_⟩ | refine bct (by assumption) ?_ | refine bcf (by assumption) ?_ | refine bcf (nt (by assumption)) ?_ | refine bct (nf (by assumption)) ?_ | (refine Qb hQ ?_; unfold has0; simp [*]; done))
   rotate_right
   ·by_cases h0:0 < ks.length
    ·have q1:eqI (lenL (rows ks)) 0=false:=by rw [qK,qav]; omega
     have q2:lenB (rows ks) 0=true:=qba h0
     have q3:=qbn h0
     repeat' ((conv=>whnf); first | exact hQ | refine ql ?_ | refine Two.l ?_ | refine ⟨by kernel_rfl,?_⟩ | refine bct (by assumption) ?_ | refine bcf (by assumption) ?_ | refine bcf (nt (by assumption)) ?_ | refine bct (nf (by assumption)) ?_ | (refine Qb hQ ?_; unfold has0; simp [qiK h0]; done) | refine qe q3 ?_ | refine hkid 0 h0 _ ?_)
    ·have q1:eqI (lenL (rows ks)) 0=true:=by rw [qK,qdB]; omega
     repeat' ((conv=>whnf); first | exact hQ | refine ql ?_ | refine Two.l ?_ | refine ⟨by kernel_rfl,?_⟩ | refine bct (by assumption) ?_ | refine bcf (by assumption) ?_ | refine bcf (nt (by assumption)) ?_ | refine bct (nf (by assumption)) ?_ | (refine Qb hQ ?_; unfold has0; simp [qjU h0]; done))
   rotate_right
   ·repeat' ((conv=>whnf); first | exact hQ | refine ql ?_ | refine Two.l ?_ | refine ⟨by kernel_rfl,?_⟩ | refine bct (by assumption) ?_ | refine bcf (by assumption) ?_ | refine bcf (nt (by assumption)) ?_ | refine bct (nf (by assumption)) ?_ | (refine Qb hQ ?_; unfold has0; simp [qkW,ltI]; done))
   rotate_right
   ·have e8:qg7 ks x=eqI ((ks.countP fun k=>hasP k x:Nat):Int) (lenL (rows ks)):=by
     rw [qkV,qK]; unfold eqI; rw [Bool.eq_iff_iff,decide_eq_true_iff,beq_iff_eq]; omega
    repeat' ((conv=>whnf); first | exact hQ | refine ql ?_ | refine Two.l ?_ | refine ⟨by kernel_rfl,?_⟩ | refine bct (by assumption) ?_ | refine bcf (by assumption) ?_ | refine bcf (nt (by assumption)) ?_ | refine bct (nf (by assumption)) ?_ | (refine Qb hQ ?_; unfold has0; simp [e8]; done))
   rotate_right
   ·repeat' ((conv=>whnf); first | exact hQ | refine ql ?_ | refine Two.l ?_ | refine ⟨by kernel_rfl,?_⟩ | refine bct (by assumption) ?_ | refine bcf (by assumption) ?_ | refine bcf (nt (by assumption)) ?_ | refine bct (nf (by assumption)) ?_ | (refine Qb hQ ?_; unfold has0; simp_all [qsJ]; done) | refine qqt hX ?_ | refine bc (fun _=>?_) (fun _=>?_))
   all_goals
    repeat' ((conv=>whnf); first | exact hQ | refine ql ?_ | refine Two.l ?_ | refine ⟨by kernel_rfl,?_⟩ | refine bct (by assumption) ?_ | refine bcf (by assumption) ?_ | refine bcf (nt (by assumption)) ?_ | refine bct (nf (by assumption)) ?_ | (refine Qb hQ ?_; unfold has0; simp; done) | refine qmo hX htx ?_)
end Go.Proofs.YtidkmoohgadjkaaGreat
set_option maxHeartbeats 4000000
namespace Go.Proofs.YtidkmoohgadjkaaGreat
open Go E Pred
def qqB (p q:Pred):Bool:=eqI p.op q.op &&
 (if p.op=5 then leI p.n q.n else if p.op=6 then leI q.n p.n else if p.op=4 then qg6 p.text q.text else if p.op=7 then ((eqFl .f64 p.re q.re&&eqFl .f64 p.im q.im)&&leI p.n q.n) else false)
def qcF:Nat→Pred→Pred→Bool
 | 0,_,_=>false
 | N + 1,p,q=>((eqI q.op 1 || eqI p.op 2) || (qei p q || qqB p q)) ||
   ((eqI p.op 9&&!(p.kids.any fun k=>!qcF N k q)) || ((eqI q.op 8&&!(q.kids.any fun k=>!qcF N p k)) || ((eqI p.op 8&&p.kids.any fun k=>qcF N k q) || ((eqI q.op 9&&q.kids.any fun k=>qcF N p k) ||
    (eqI p.op 10&&(eqI q.op 10&&(match q.kids,p.kids with | k::_,m::_=>qcF N k m | _,_=>false)))))))
section
variable {X:Task→Prop} (hX:qk X) {k p q:Pred} {b:Bool} {Q:A→List Blk→Prop}
include hX
end
theorem qih {p:Pred} (h:qgL p=true) {j:Nat} (hj:j < p.kids.length):qgL p.kids[j]=true:=by
 rw [qg4,Bool.and_eq_true] at h; exact qsD h.2 (List.getElem_mem hj)
theorem qpd {p:Pred} (h:qgL p=true) (ho:p.op=10):∃ k,p.kids=[k]:=by
 rw [qg4,Bool.and_eq_true,ho] at h
 have h1:=h.1
 unfold qmj at h1
 simp [qK,eqI] at h1
 match hk:p.kids,h1 with
 | [k],_=>exact ⟨k,rfl⟩
 | [],h1=>simp [hk] at h1
 | _::_::_,h1=>simp [hk] at h1; omega
end Go.Proofs.YtidkmoohgadjkaaGreat
set_option maxHeartbeats 4000000
namespace Go.Proofs.YtidkmoohgadjkaaGreat
open Go E Pred
def half (o o':Bool) (ks:List Pred) (P:Pred→Bool):Bool:=(o&&ks.all P) || (o'&&ks.any P)
def qiL (N:Nat) (p q:Pred):Bool:=half (eqI p.op 9) (eqI p.op 8) p.kids (fun k=>qcF N k q) || half (eqI q.op 8) (eqI q.op 9) q.kids (fun k=>qcF N p k)
def notB (N:Nat) (p q:Pred):Bool:=eqI p.op 10&&(eqI q.op 10&&(match q.kids,p.kids with | k::_,m::_=>qcF N k m | _,_=>false))
theorem qiM {α:Type} (l:List α) (P:α→Bool):(!(l.any fun k=>!P k))=l.all P:=by
 induction l with
 | nil=>rfl
 | cons a l ih=>rw [List.any_cons,List.all_cons,←ih]; cases P a<;>simp
theorem qvt (N:Nat) (p q:Pred):qcF (N + 1) p q=(((eqI q.op 1 || eqI p.op 2) || qei p q) || (qiL N p q || (qqB p q || notB N p q))):=by
 show _=_
 unfold qiL half notB
 rw [qcF]
 rw [qiM,qiM]
 generalize (eqI q.op 1 || eqI p.op 2)=a
 generalize qei p q=b
 generalize qqB p q=c
 generalize (eqI p.op 9&&p.kids.all fun k=>qcF N k q)=d
 generalize (eqI q.op 8&&q.kids.all fun k=>qcF N p k)=e
 generalize (eqI p.op 8&&p.kids.any fun k=>qcF N k q)=f
 generalize (eqI q.op 9&&q.kids.any fun k=>qcF N p k)=g
 generalize (eqI p.op 10&&(eqI q.op 10&&(match q.kids,p.kids with | k::_,m::_=>qcF N k m | _,_=>false)))=h
 cases a<;>cases b<;>cases c<;>cases d<;>cases e<;>cases f<;>cases g<;>cases h<;>rfl
structure AS where
 a:Bool
 s:Bool
theorem qpe {α:Type} {l:List α} {P:α→Bool} {j:Nat} (h:j < l.length):(l.take (j + 1)).all P=((l.take j).all P&&P l[j]):=by
 rw [List.take_succ_eq_append_getElem h,List.all_append]; simp
theorem qpf {α:Type} {l:List α} {P:α→Bool} {j:Nat} (h:j < l.length):(l.take (j + 1)).any P=((l.take j).any P || P l[j]):=by
 rw [List.take_succ_eq_append_getElem h,List.any_append]; simp
theorem qvu {X:Task→Prop} (hX:qk X) {N:Nat} {p q:Pred} {Q:A→List Blk→Prop} (op:p.Ok) (oq:q.Ok)
  (hkp:∀ (j:Nat) (hj:j < p.kids.length) (Q':A→List Blk→Prop),Q' (bv (qcF N p.kids[j] q)) []→X (.call 160 [p.kids[j].a,q.a] [] Q'))
  (hkq:∀ (j:Nat) (hj:j < q.kids.length) (Q':A→List Blk→Prop),Q' (bv (qcF N p q.kids[j])) []→X (.call 160 [p.a,q.kids[j].a] [] Q'))
  (hQ:Q (bv (qiL N p q)) []):X (.call 208 [p.a,q.a] [] Q):=by
 have hlp:=op.len
 have hlq:=oq.len
 unfold qiL at hQ
 refine qb hX Tryz.func208 rfl rfl ?_
 refine qxt (G:=half (eqI p.op 9) (eqI p.op 8) p.kids (fun k=>qcF N k q)=false→X (.rest 208 0 ?c (pad [(2,.one (.ptr 0 0)),(0,.one (.ptr 1 0))] 79) [.box p.cs,.box q.cs] ?K)) (fun tail=>?_) ?_
 rotate_left 2
 ·repeat' ((conv=>whnf); first | exact hQ | refine ql ?_ | refine Two.l ?_ | refine ⟨by kernel_rfl,?_⟩ | refine bct (by assumption) ?_ | refine bcf (by assumption) ?_ | refine bcf (nt (by assumption)) ?_ | refine bct (nf (by assumption)) ?_)
  refine qkI (fun i (st:AS)=>pad [(2,.one (.ptr 0 0)),(0,.one (.ptr 1 0)),(1,bv st.a),(0,bv st.s),(0,iv i)] 75) (fun _ _=>[.box p.cs,.box q.cs]) (fun j st=>st.a=(p.kids.take j).all (fun k=>qcF N k q)∧st.s=(p.kids.take j).any (fun k=>qcF N k q)) p.kids.length 0 (Nat.zero_le _) (fun j st _ hj hI ih=>?_) (fun st hI=>?_) 0 ⟨true,false⟩ rfl ⟨rfl,rfl⟩
  ·obtain ⟨a,s⟩:=st
   obtain ⟨h1,h2⟩:=hI
   dsimp only at h1 h2
   have q1:ltI (j:Int) (lenL (rows p.kids))=true:=by rw [qK,q9]; omega
   have q2:=qba hj
   have f1:=qpe (P:=fun k=>qcF N k q) hj
   have f2:=qpf (P:=fun k=>qcF N k q) hj
   rw [←h1] at f1
   rw [←h2] at f2
   clear h1 h2
   refine qa hX ?_
   cases hs:qcF N p.kids[j] q<;>(rw [hs] at f1 f2)<;>cases a<;>cases s
   all_goals
    have f1':=f1.symm
    have f2':=f2.symm
    clear f1 f2
    repeat' ((conv=>whnf); first | exact hQ | refine ql ?_ | refine Two.l ?_ | refine ⟨by kernel_rfl,?_⟩ | refine bct (by assumption) ?_ | refine bcf (by assumption) ?_ | refine bcf (nt (by assumption)) ?_ | refine bct (nf (by assumption)) ?_ | refine qe (qbn hj) ?_ | refine known bv (hkp j hj) hs ?_ | (exact ih _ ⟨_,_⟩ (wrS (by omega)) ⟨f1',f2'⟩))
  ·obtain ⟨a,s⟩:=st
   obtain ⟨h1,h2⟩:=hI
   dsimp only at h1 h2
   rw [List.take_length] at h1 h2
   have q1:ltI (p.kids.length:Int) (lenL (rows p.kids))=false:=by rw [qK,qag]; omega
   unfold half at hQ tail
   rw [←h1,←h2] at hQ tail
   clear h1 h2
   refine qa hX ?_
   cases a<;>cases s
   all_goals
    repeat' ((conv=>whnf); first | exact hQ | refine ql ?_ | refine Two.l ?_ | refine ⟨by kernel_rfl,?_⟩ | refine bct (by assumption) ?_ | refine bcf (by assumption) ?_ | refine bcf (nt (by assumption)) ?_ | refine bct (nf (by assumption)) ?_ | (refine tail.h ?_; simp_all; done) | (refine Qb hQ ?_; simp_all; done) | refine bc (fun _=>?_) (fun _=>?_))
 ·intro hh
  rw [hh,Bool.false_or] at hQ
  clear hh
  refine qt hX ?_
  repeat' ((conv=>whnf); first | exact hQ | refine ql ?_ | refine Two.l ?_ | refine ⟨by kernel_rfl,?_⟩ | refine bct (by assumption) ?_ | refine bcf (by assumption) ?_ | refine bcf (nt (by assumption)) ?_ | refine bct (nf (by assumption)) ?_)
  refine qkI (fun i (st:AS)=>pad [(2,.one (.ptr 0 0)),(0,.one (.ptr 1 0)),(1,bv st.a),(0,bv st.s),(2,iv i)] 73) (fun _ _=>[.box p.cs,.box q.cs]) (fun j st=>st.a=(q.kids.take j).all (fun k=>qcF N p k)∧st.s=(q.kids.take j).any (fun k=>qcF N p k)) q.kids.length 0 (Nat.zero_le _) (fun j st _ hj hI ih=>?_) (fun st hI=>?_) 0 ⟨true,false⟩ rfl ⟨rfl,rfl⟩
  ·obtain ⟨a,s⟩:=st
   obtain ⟨h1,h2⟩:=hI
   dsimp only at h1 h2
   have q1:ltI (j:Int) (lenL (rows q.kids))=true:=by rw [qK,q9]; omega
   have q2:=qba hj
   have f1:=qpe (P:=fun k=>qcF N p k) hj
   have f2:=qpf (P:=fun k=>qcF N p k) hj
   rw [←h1] at f1
   rw [←h2] at f2
   clear h1 h2
   refine qa hX ?_
   cases hs:qcF N p q.kids[j]<;>(rw [hs] at f1 f2)<;>cases a<;>cases s
   all_goals
    have f1':=f1.symm
    have f2':=f2.symm
    clear f1 f2
    repeat' ((conv=>whnf); first | exact hQ | refine ql ?_ | refine Two.l ?_ | refine ⟨by kernel_rfl,?_⟩ | refine bct (by assumption) ?_ | refine bcf (by assumption) ?_ | refine bcf (nt (by assumption)) ?_ | refine bct (nf (by assumption)) ?_ | refine qe (qbn hj) ?_ | refine known bv (hkq j hj) hs ?_ | (exact ih _ ⟨_,_⟩ (wrS (by omega)) ⟨f1',f2'⟩))
  ·obtain ⟨a,s⟩:=st
   obtain ⟨h1,h2⟩:=hI
   dsimp only at h1 h2
   rw [List.take_length] at h1 h2
   have q1:ltI (q.kids.length:Int) (lenL (rows q.kids))=false:=by rw [qK,qag]; omega
   unfold half at hQ
   rw [←h1,←h2] at hQ
   clear h1 h2
   refine qa hX ?_
   cases a<;>cases s
   all_goals
    repeat' ((conv=>whnf); first | exact hQ | refine ql ?_ | refine Two.l ?_ | refine ⟨by kernel_rfl,?_⟩ | refine bct (by assumption) ?_ | refine bcf (by assumption) ?_ | refine bcf (nt (by assumption)) ?_ | refine bct (nf (by assumption)) ?_ | (refine Qb hQ ?_; simp_all; done) | refine bc (fun _=>?_) (fun _=>?_))
end Go.Proofs.YtidkmoohgadjkaaGreat
set_option maxHeartbeats 4000000
namespace Go.Proofs.YtidkmoohgadjkaaGreat
open Go E Pred
theorem qkX {X:Task→Prop} (hX:qk X):∀ (N:Nat) {p q:Pred} {Q:A→List Blk→Prop},p.size + q.size≤N→p.Ok→q.Ok→qgL p=true→qgL q=true→Q (bv (qcF N p q)) []→X (.call 160 [p.a,q.a] [] Q)
 | 0,p,_,_,h,_,_,_,_,_=>absurd h (by have:=qcE p; omega)
 | N + 1,p,q,Q,h,op,oq,fp,fq,hQ=>by
  have hkp:∀ (j:Nat) (hj:j < p.kids.length) (Q':A→List Blk→Prop),Q' (bv (qcF N p.kids[j] q)) []→X (.call 160 [p.kids[j].a,q.a] [] Q'):=fun j hj Q' hQ'=>qkX hX N (by have:=qcD hj; omega) (op.kid hj) oq (qih fp hj) fq hQ'
  have hkq:∀ (j:Nat) (hj:j < q.kids.length) (Q':A→List Blk→Prop),Q' (bv (qcF N p q.kids[j])) []→X (.call 160 [p.a,q.kids[j].a] [] Q'):=fun j hj Q' hQ'=>qkX hX N (by have:=qcD hj; omega) op (oq.kid hj) fp (qih fq hj) hQ'
  have otq:=oq.text
  rw [qvt] at hQ
  refine qb hX Tryz.func160 rfl rfl ?_
  refine qxt (G:=((eqI q.op 1 || eqI p.op 2) || qei p q)=false→qiL N p q=false→X (.rest 160 0 ?c (pad [(2,.one (.ptr 0 0)),(0,.one (.ptr 1 0))] 101) [.box p.cs,.box q.cs] ?K)) (fun tail=>?_) ?_
  rotate_left 2
  ·have hl:∀ b,eqI p.op 8=false→eqI p.op 9=false→eqI q.op 8=false→eqI q.op 9=b→b=false→qiL N p q=false:=fun b h1 h2 h3 h4 h5=>by unfold qiL half; rw [h1,h2,h3,h4,h5]; rfl
   repeat' ((conv=>whnf); first | exact hQ | refine ql ?_ | refine Two.l ?_ | refine ⟨by kernel_rfl,?_⟩ | refine bct (by assumption) ?_ | refine bcf (by assumption) ?_ | refine bcf (nt (by assumption)) ?_ | refine bct (nf (by assumption)) ?_ | (refine tail.h (by simp_all) (by assumption)) | (refine tail.h (by simp_all) (hl _ (by assumption) (by assumption) (by assumption) rfl (by assumption))) | (refine Qb hQ ?_; simp_all; done) | (refine qek hX p.size (p:=p) (q:=q) (Nat.le_refl _) op ?_) | refine qvu hX op oq hkp hkq ?_ | refine bc (fun _=>?_) (fun _=>?_))
  ·intro hA hL
   rw [hA,hL,Bool.false_or,Bool.false_or] at hQ
   clear hA hL
   refine qt hX ?_
   by_cases h10:p.op=10∧q.op=10
   ·obtain ⟨k,hk⟩:=qpd fq h10.2
    obtain ⟨m,hm⟩:=qpd fp h10.1
    have hqk:0 < q.kids.length:=by rw [hk]; simp
    have hpk:0 < p.kids.length:=by rw [hm]; simp
    have r1:lenB (rows q.kids) 0=true:=qba hqk
    have r2:lenB (rows p.kids) 0=true:=qba hpk
    have r3:=qbn hqk
    have r4:=qbn hpk
    have e0:eqI p.op q.op=true:=by rw [h10.1,h10.2]; rfl
    have e4:eqI p.op 4=false:=by rw [h10.1]; rfl
    have e5:eqI p.op 5=false:=by rw [h10.1]; rfl
    have e6:eqI p.op 6=false:=by rw [h10.1]; rfl
    have e7:eqI p.op 7=false:=by rw [h10.1]; rfl
    have e10:eqI p.op 10=true:=by rw [h10.1]; rfl
    have hrec:∀ (Q':A→List Blk→Prop),Q' (bv (qcF N q.kids[0] p.kids[0])) []→X (.call 160 [q.kids[0].a,p.kids[0].a] [] Q'):=fun Q' hQ'=>qkX hX N (by have:=qcD hqk; have:=qcD hpk; omega) (oq.kid hqk) (op.kid hpk) (qih fq hqk) (qih fp hpk) hQ'
    have hv:(qqB p q || notB N p q)=qcF N q.kids[0] p.kids[0]:=by
     unfold qqB notB
     simp [h10.1,h10.2,hk,hm,eqI]
    rw [hv] at hQ
    repeat' ((conv=>whnf); first | exact hQ | refine ql ?_ | refine Two.l ?_ | refine ⟨by kernel_rfl,?_⟩ | refine bct (by assumption) ?_ | refine bcf (by assumption) ?_ | refine bcf (nt (by assumption)) ?_ | refine bct (nf (by assumption)) ?_ | refine qe r3 ?_ | refine qe r4 ?_ | refine hrec _ ?_)
   ·have hz:notB N p q=false:=by
     unfold notB
     by_cases h1:p.op=10
     ·rw [show eqI q.op 10=false from qav.2 fun h2=>h10 ⟨h1,h2⟩]; simp
     ·rw [show eqI p.op 10=false from qav.2 h1]; simp
    rw [hz,Bool.or_false] at hQ
    have hne:(!eqI p.op q.op)=false→eqI p.op 10=false:=fun h1=>qav.2 fun h2=>h10 ⟨h2,(show p.op=q.op by simpa [eqI] using h1) ▸ h2⟩
    repeat' ((conv=>whnf); first | exact hQ | refine ql ?_ | refine Two.l ?_ | refine ⟨by kernel_rfl,?_⟩ | refine bct (by assumption) ?_ | refine bcf (by assumption) ?_ | refine bcf (nt (by assumption)) ?_ | refine bct (nf (by assumption)) ?_ | (refine Qb hQ ?_; unfold qqB; simp_all [eqI]; done) | refine qmo hX otq ?_ | refine bcf (hne (by assumption)) ?_ | refine bc (fun _=>?_) (fun _=>?_))
def inP (p q:Pred):Bool:=mayP p&&(mayP q&&qcF (p.size + q.size) p q)
theorem qz7 {X:Task→Prop} (hX:qk X) {p q:Pred} {Q:A→List Blk→Prop} (op:p.Ok) (oq:q.Ok) (sp:p.size≤1000) (sq:q.size≤1000) (hQ:Q (bv (inP p q)) []):X (.call 87 [p.a,q.a] [] Q):=by
 unfold inP at hQ
 refine qb hX Tryz.func87 rfl rfl ?_
 cases mp:mayP p with
 | false =>
  rw [mp] at hQ
  repeat' ((conv=>whnf); first | exact hQ | refine ql ?_ | refine Two.l ?_ | refine ⟨by kernel_rfl,?_⟩ | refine bct (by assumption) ?_ | refine bcf (by assumption) ?_ | refine bcf (nt (by assumption)) ?_ | refine bct (nf (by assumption)) ?_ | refine known bv (fun _ h=>qb4 hX sp op h) mp ?_ | refine qb4 hX sq oq ?_)
 | true =>
  cases mq:mayP q with
  | false =>
   rw [mp,mq] at hQ
   repeat' ((conv=>whnf); first | exact hQ | refine ql ?_ | refine Two.l ?_ | refine ⟨by kernel_rfl,?_⟩ | refine bct (by assumption) ?_ | refine bcf (by assumption) ?_ | refine bcf (nt (by assumption)) ?_ | refine bct (nf (by assumption)) ?_ | refine known bv (fun _ h=>qb4 hX sp op h) mp ?_ | refine known bv (fun _ h=>qb4 hX sq oq h) mq ?_)
  | true =>
   rw [mp,mq,Bool.true_and,Bool.true_and] at hQ
   repeat' ((conv=>whnf); first | exact hQ | refine ql ?_ | refine Two.l ?_ | refine ⟨by kernel_rfl,?_⟩ | refine bct (by assumption) ?_ | refine bcf (by assumption) ?_ | refine bcf (nt (by assumption)) ?_ | refine bct (nf (by assumption)) ?_ | refine known bv (fun _ h=>qb4 hX sp op h) mp ?_ | refine known bv (fun _ h=>qb4 hX sq oq h) mq ?_ | refine qkX hX _ (Nat.le_refl _) op oq (qg5.1 mp).2.2 (qg5.1 mq).2.2 ?_)
attribute [irreducible] inP
end Go.Proofs.YtidkmoohgadjkaaGreat
namespace Go.Proofs.YtidkmoohgadjkaaGreat
open Go E Pred
theorem qsM (p q:Pred):qei p q=true↔p.op=q.op∧bytesOf p.text=bytesOf q.text∧p.n=q.n∧(eqFl .f64 p.re q.re=true∧eqFl .f64 p.im q.im=true)∧qe7 p.kids q.kids=true:=by
 rw [qfy]; simp only [Bool.and_eq_true,qdB,qsF]
theorem qsN:qe7 [] []=true:=by rw [qe7]
abbrev bare (o:Int) (ks:List Pred):Pred:=.mk o ⟨#[]⟩ 0 0 0 ks
def addP (none:Int) (acc:List Pred) (k:Pred):List Pred:=if !eqI k.op none&&!(acc.any fun o=>qei k o) then acc++[k] else acc
def qjr (o:Int):List Pred→List Pred
 | []=>[]
 | k::ks=>(if eqI k.op o then k.kids else [k])++qjr o ks
theorem qmt:eqFl .f64 0 0=true:=by kernel_rfl
theorem qsO (o:Int):qei (bare o []) (bare o [])=true:=(qsM _ _).2 ⟨rfl,rfl,rfl,⟨qmt,qmt⟩,qsN⟩
structure Plainly (p:Pred):Prop where
 text:bytesOf p.text=bytesOf ⟨#[]⟩
 n:p.n=0
 re:eqFl .f64 p.re 0=true
 im:eqFl .f64 p.im 0=true
end Go.Proofs.YtidkmoohgadjkaaGreat
set_option maxHeartbeats 4000000
namespace Go.Proofs.YtidkmoohgadjkaaGreat
open Go E Pred
section
variable {X:Task→Prop} (hX:qk X) {k:Pred} {none:Int} {acc:List Pred} {kk:Nat} {Q:A→List Blk→Prop}
include hX
end
end Go.Proofs.YtidkmoohgadjkaaGreat
namespace Go.Proofs.YtidkmoohgadjkaaGreat
open Go E Pred
noncomputable section
open Classical
theorem qcV {a b:V8} {v:Bool} (h:eq8 a b=v):andB (eqI a.x0 b.x0) (andB (eqI a.x1 b.x1) (andB (eqI a.x2 b.x2) (andB (eqI a.x3 b.x3) (andB (eqI a.x4 b.x4) (andB (eqI a.x5 b.x5) (andB (eqI a.x6 b.x6) (andB (eqI a.x7 b.x7) true)))))))=v:=h
def qcG (a:V8) (b:Int):Option Int:=some (V8.at a b)
theorem qg8 {X:Task→Prop} (hX:qk X) {a:V8} {b:Int} {r:Int} {Q:A→List Blk→Prop} (h:qcG a b=some r) (hQ:Q (iv r) []):X (.call 157 [.agg [ic a.x0,ic a.x1,ic a.x2,ic a.x3,ic a.x4,ic a.x5,ic a.x6,ic a.x7],iv b] [] Q):=by
 unfold qcG at h
 injection h with h
 subst h
 exact qpb hX hQ
def qbN (a:V8) (b:Ver):Option Bool:=some (hasV a b.r b.c)
theorem qgx {X:Task→Prop} (hX:qk X) {a:V8} {b:Ver} {r:Bool} {Q:A→List Blk→Prop} (h:qbN a b=some r) (hQ:Q (.one (.p (.v (.bool r)))) []):X (.call 88 [.agg [ic a.x0,ic a.x1,ic a.x2,ic a.x3,ic a.x4,ic a.x5,ic a.x6,ic a.x7],.agg [ic b.r,ic b.c]] [] Q):=by
 unfold qbN at h
 injection h with h
 subst h
 exact qsq hX hQ
def qdu (a:V8) (b:Ver):Option V8:=some (qh2 a b.r b.c)
theorem qiN {X:Task→Prop} (hX:qk X) {a:V8} {b:Ver} {r:V8} {Q:A→List Blk→Prop} (h:qdu a b=some r) (hQ:Q (.agg [ic r.x0,ic r.x1,ic r.x2,ic r.x3,ic r.x4,ic r.x5,ic r.x6,ic r.x7]) []):X (.call 174 [.agg [ic a.x0,ic a.x1,ic a.x2,ic a.x3,ic a.x4,ic a.x5,ic a.x6,ic a.x7],.agg [ic b.r,ic b.c]] [] Q):=by
 unfold qdu at h
 injection h with h
 subst h
 exact qqy hX hQ
def qbO (a:V8):Option Bool:=some (mayV a)
theorem qgy {X:Task→Prop} (hX:qk X) {a:V8} {r:Bool} {Q:A→List Blk→Prop} (h:qbO a=some r) (hQ:Q (.one (.p (.v (.bool r)))) []):X (.call 154 [.agg [ic a.x0,ic a.x1,ic a.x2,ic a.x3,ic a.x4,ic a.x5,ic a.x6,ic a.x7]] [] Q):=by
 unfold qbO at h
 injection h with h
 subst h
 exact qsr hX hQ
def qdK (a:V8) (b:V8):Option V8:=some (maxV a b)
theorem qiO {X:Task→Prop} (hX:qk X) {a:V8} {b:V8} {r:V8} {Q:A→List Blk→Prop} (h:qdK a b=some r) (hQ:Q (.agg [ic r.x0,ic r.x1,ic r.x2,ic r.x3,ic r.x4,ic r.x5,ic r.x6,ic r.x7]) []):X (.call 191 [.agg [ic a.x0,ic a.x1,ic a.x2,ic a.x3,ic a.x4,ic a.x5,ic a.x6,ic a.x7],.agg [ic b.x0,ic b.x1,ic b.x2,ic b.x3,ic b.x4,ic b.x5,ic b.x6,ic b.x7]] [] Q):=by
 unfold qdK at h
 injection h with h
 subst h
 exact qsA hX hQ
def qe8 (a:V8) (b:Ver):Option Bool:=some (hasV a b.r b.c)
theorem qmu {X:Task→Prop} (hX:qk X) {a:V8} {b:Ver} {r:Bool} {Q:A→List Blk→Prop} (h:qe8 a b=some r) (hQ:Q (.one (.p (.v (.bool r)))) []):X (.call 109 [.agg [ic a.x0,ic a.x1,ic a.x2,ic a.x3,ic a.x4,ic a.x5,ic a.x6,ic a.x7],.agg [ic b.r,ic b.c]] [] Q):=by
 unfold qe8 at h
 injection h with h
 subst h
 exact qx4 hX hQ
def qgo (a:V8) (b:Ver):Option V8:=some (qh2 a b.r b.c)
theorem qqC {X:Task→Prop} (hX:qk X) {a:V8} {b:Ver} {r:V8} {Q:A→List Blk→Prop} (h:qgo a b=some r) (hQ:Q (.agg [ic r.x0,ic r.x1,ic r.x2,ic r.x3,ic r.x4,ic r.x5,ic r.x6,ic r.x7]) []):X (.call 169 [.agg [ic a.x0,ic a.x1,ic a.x2,ic a.x3,ic a.x4,ic a.x5,ic a.x6,ic a.x7],.agg [ic b.r,ic b.c]] [] Q):=by
 unfold qgo at h
 injection h with h
 subst h
 exact qvo hX hQ
def qdZ (a:V8) (b:V8):Option V8:=some (maxV a b)
theorem qiP {X:Task→Prop} (hX:qk X) {a:V8} {b:V8} {r:V8} {Q:A→List Blk→Prop} (h:qdZ a b=some r) (hQ:Q (.agg [ic r.x0,ic r.x1,ic r.x2,ic r.x3,ic r.x4,ic r.x5,ic r.x6,ic r.x7]) []):X (.call 189 [.agg [ic a.x0,ic a.x1,ic a.x2,ic a.x3,ic a.x4,ic a.x5,ic a.x6,ic a.x7],.agg [ic b.x0,ic b.x1,ic b.x2,ic b.x3,ic b.x4,ic b.x5,ic b.x6,ic b.x7]] [] Q):=by
 unfold qdZ at h
 injection h with h
 subst h
 exact qx3 hX hQ
def qe9 (a:V8):Option Bool:=some (mayV a)
theorem qmv {X:Task→Prop} (hX:qk X) {a:V8} {r:Bool} {Q:A→List Blk→Prop} (h:qe9 a=some r) (hQ:Q (.one (.p (.v (.bool r)))) []):X (.call 143 [.agg [ic a.x0,ic a.x1,ic a.x2,ic a.x3,ic a.x4,ic a.x5,ic a.x6,ic a.x7]] [] Q):=by
 unfold qe9 at h
 injection h with h
 subst h
 exact qx5 hX hQ
def qdL (a:Ver):Option Bool:=some (verB a.r a.c)
theorem qiQ {X:Task→Prop} (hX:qk X) {a:Ver} {r:Bool} {Q:A→List Blk→Prop} (h:qdL a=some r) (hQ:Q (.one (.p (.v (.bool r)))) []):X (.call 79 [.agg [ic a.r,ic a.c]] [] Q):=by
 unfold qdL at h
 injection h with h
 subst h
 exact qsk hX hQ
def qey (a:ByteArray):Option Bool:=chk (decide (a.size≤9223372036854775807)) (some (lettersB a 1))
theorem qnS {X:Task→Prop} (hX:qk X) {a:ByteArray} {r:Bool} {Q:A→List Blk→Prop} (h:qey a=some r) (hQ:Q (.one (.p (.v (.bool r)))) []):X (.call 147 [.one (.p (.v (.string a)))] [] Q):=by
 unfold qey at h
 obtain ⟨d1,h⟩:=qq h
 have c1:=of_decide_eq_true d1
 injection h with h
 subst h
 exact qsi hX c1 hQ
def qbf (a:ByteArray):Option Bool:=chk (decide (a.size≤9223372036854775807)) (some (lettersB a 1))
theorem qhJ {X:Task→Prop} (hX:qk X) {a:ByteArray} {r:Bool} {Q:A→List Blk→Prop} (h:qbf a=some r) (hQ:Q (.one (.p (.v (.bool r)))) []):X (.call 78 [.one (.p (.v (.string a)))] [] Q):=by
 unfold qbf at h
 obtain ⟨d1,h⟩:=qq h
 have c1:=of_decide_eq_true d1
 injection h with h
 subst h
 exact qo6 hX c1 hQ
def qfa (a:Item):Option Bool:=chk (decide (a.Ok)) (some (mayI a))
theorem qqD {X:Task→Prop} (hX:qk X) {a:Item} {r:Bool} {Q:A→List Blk→Prop} (h:qfa a=some r) (hQ:Q (.one (.p (.v (.bool r)))) []):X (.call 94 [.agg [.p (.v (.string a.id)),ic a.vr,ic a.vc,ic a.stamp,.p (.v (.string a.kind)),ic a.num,.p (.v (.complex .f64 a.re a.im)),.p (.v (.bool a.dead))]] [] Q):=by
 unfold qfa at h
 obtain ⟨d1,h⟩:=qq h
 have c1:=of_decide_eq_true d1
 injection h with h
 subst h
 exact qnO hX c1 hQ
def qb5 (a:Item):Option Bool:=chk (decide (a.Ok)) (some (mayI a))
theorem qiR {X:Task→Prop} (hX:qk X) {a:Item} {r:Bool} {Q:A→List Blk→Prop} (h:qb5 a=some r) (hQ:Q (.one (.p (.v (.bool r)))) []):X (.call 100 [.agg [.p (.v (.string a.id)),ic a.vr,ic a.vc,ic a.stamp,.p (.v (.string a.kind)),ic a.num,.p (.v (.complex .f64 a.re a.im)),.p (.v (.bool a.dead))]] [] Q):=by
 unfold qb5 at h
 obtain ⟨d1,h⟩:=qq h
 have c1:=of_decide_eq_true d1
 injection h with h
 subst h
 exact qmd hX c1 hQ
def qbP (a:Item) (b:Item):Option Int:=some (qej a b)
theorem qgz {X:Task→Prop} (hX:qk X) {a:Item} {b:Item} {r:Int} {Q:A→List Blk→Prop} (h:qbP a b=some r) (hQ:Q (iv r) []):X (.call 96 [.agg [.p (.v (.string a.id)),ic a.vr,ic a.vc,ic a.stamp,.p (.v (.string a.kind)),ic a.num,.p (.v (.complex .f64 a.re a.im)),.p (.v (.bool a.dead))],.agg [.p (.v (.string b.id)),ic b.vr,ic b.vc,ic b.stamp,.p (.v (.string b.kind)),ic b.num,.p (.v (.complex .f64 b.re b.im)),.p (.v (.bool b.dead))]] [] Q):=by
 unfold qbP at h
 injection h with h
 subst h
 exact qqv hX hQ
def qan (a:Item) (b:Item):Option Bool:=some (qak a b)
theorem qe0 {X:Task→Prop} (hX:qk X) {a:Item} {b:Item} {r:Bool} {Q:A→List Blk→Prop} (h:qan a b=some r) (hQ:Q (.one (.p (.v (.bool r)))) []):X (.call 42 [.agg [.p (.v (.string a.id)),ic a.vr,ic a.vc,ic a.stamp,.p (.v (.string a.kind)),ic a.num,.p (.v (.complex .f64 a.re a.im)),.p (.v (.bool a.dead))],.agg [.p (.v (.string b.id)),ic b.vr,ic b.vc,ic b.stamp,.p (.v (.string b.kind)),ic b.num,.p (.v (.complex .f64 b.re b.im)),.p (.v (.bool b.dead))]] [] Q):=by
 unfold qan at h
 injection h with h
 subst h
 exact qsl hX hQ
def qdk (a:Item) (b:Item):Option Bool:=some (qh1 a b)
theorem qhK {X:Task→Prop} (hX:qk X) {a:Item} {b:Item} {r:Bool} {Q:A→List Blk→Prop} (h:qdk a b=some r) (hQ:Q (.one (.p (.v (.bool r)))) []):X (.call 111 [.agg [.p (.v (.string a.id)),ic a.vr,ic a.vc,ic a.stamp,.p (.v (.string a.kind)),ic a.num,.p (.v (.complex .f64 a.re a.im)),.p (.v (.bool a.dead))],.agg [.p (.v (.string b.id)),ic b.vr,ic b.vc,ic b.stamp,.p (.v (.string b.kind)),ic b.num,.p (.v (.complex .f64 b.re b.im)),.p (.v (.bool b.dead))]] [] Q):=by
 unfold qdk at h
 injection h with h
 subst h
 exact qvl hX hQ
def qeT (a:Item):Option Item:=some (a)
theorem qmw {X:Task→Prop} (hX:qk X) {a:Item} {r:Item} {Q:A→List Blk→Prop} (h:qeT a=some r) (hQ:Q (.agg [.p (.v (.string r.id)),ic r.vr,ic r.vc,ic r.stamp,.p (.v (.string r.kind)),ic r.num,.p (.v (.complex .f64 r.re r.im)),.p (.v (.bool r.dead))]) []):X (.call 32 [.agg [.p (.v (.string a.id)),ic a.vr,ic a.vc,ic a.stamp,.p (.v (.string a.kind)),ic a.num,.p (.v (.float .f64 a.re)),.p (.v (.float .f64 a.im)),.p (.v (.bool a.dead))]] [] Q):=by
 unfold qeT at h
 injection h with h
 subst h
 exact qx1 hX hQ
def qbo (a:Pred):Option Int:=chk (decide (a.Ok)) (some (if a.size≤60 then 1 else 0))
theorem qkY {X:Task→Prop} (hX:qk X) {a:Pred} {r:Int} {Q:A→List Blk→Prop} (h:qbo a=some r) (hQ:Q (iv r) []):X (.call 44 [.agg [ic a.op,.p (.v (.string a.text)),ic a.n,.p (.v (.float .f64 a.re)),.p (.v (.float .f64 a.im)),.p (.sl (Pred.lrows a.kids))]] [] Q):=by
 unfold qbo at h
 obtain ⟨d1,h⟩:=qq h
 have c1:=of_decide_eq_true d1
 injection h with h
 subst h
 exact qvn hX c1 hQ
def qd0 (a:Pred):Option Pred:=chk (decide (a.size≤1000)) (chk (decide (a.Ok)) (some (a)))
theorem qmx {X:Task→Prop} (hX:qk X) {a:Pred} {r:Pred} {Q:A→List Blk→Prop} (h:qd0 a=some r) (hQ:Q (.agg [ic r.op,.p (.v (.string r.text)),ic r.n,.p (.v (.complex .f64 r.re r.im)),.p (.sl (Pred.rows r.kids))]) []):X (.call 46 [.agg [ic a.op,.p (.v (.string a.text)),ic a.n,.p (.v (.float .f64 a.re)),.p (.v (.float .f64 a.im)),.p (.sl (Pred.lrows a.kids))]] [] Q):=by
 unfold qd0 at h
 obtain ⟨d1,h⟩:=qq h
 have c1:=of_decide_eq_true d1
 obtain ⟨d2,h⟩:=qq h
 have c2:=of_decide_eq_true d2
 injection h with h
 subst h
 exact qkU hX _ (Nat.le_refl _) c1 c2 hQ
def qbg (a:Pred) (b:Pred):Option Bool:=chk (decide (a.Ok)) (some (qei a b))
theorem qhL {X:Task→Prop} (hX:qk X) {a:Pred} {b:Pred} {r:Bool} {Q:A→List Blk→Prop} (h:qbg a b=some r) (hQ:Q (.one (.p (.v (.bool r)))) []):X (.call 68 [.agg [ic a.op,.p (.v (.string a.text)),ic a.n,.p (.v (.complex .f64 a.re a.im)),.p (.sl (Pred.rows a.kids))],.agg [ic b.op,.p (.v (.string b.text)),ic b.n,.p (.v (.complex .f64 b.re b.im)),.p (.sl (Pred.rows b.kids))]] [] Q):=by
 unfold qbg at h
 obtain ⟨d1,h⟩:=qq h
 have c1:=of_decide_eq_true d1
 injection h with h
 subst h
 exact qek hX _ (Nat.le_refl _) c1 hQ
def qdM (a:Pred):Option Bool:=chk (decide (a.size≤1000)) (chk (decide (a.Ok)) (some (mayP a)))
theorem qiS {X:Task→Prop} (hX:qk X) {a:Pred} {r:Bool} {Q:A→List Blk→Prop} (h:qdM a=some r) (hQ:Q (.one (.p (.v (.bool r)))) []):X (.call 76 [.agg [ic a.op,.p (.v (.string a.text)),ic a.n,.p (.v (.complex .f64 a.re a.im)),.p (.sl (Pred.rows a.kids))]] [] Q):=by
 unfold qdM at h
 obtain ⟨d1,h⟩:=qq h
 have c1:=of_decide_eq_true d1
 obtain ⟨d2,h⟩:=qq h
 have c2:=of_decide_eq_true d2
 injection h with h
 subst h
 exact qb4 hX c1 c2 hQ
def qfb (a:Pred) (b:Item):Option Bool:=chk (decide (a.Ok)) (chk (decide (b.Ok)) (some (hasP a b)))
theorem qqE {X:Task→Prop} (hX:qk X) {a:Pred} {b:Item} {r:Bool} {Q:A→List Blk→Prop} (h:qfb a b=some r) (hQ:Q (.one (.p (.v (.bool r)))) []):X (.call 69 [.agg [ic a.op,.p (.v (.string a.text)),ic a.n,.p (.v (.complex .f64 a.re a.im)),.p (.sl (Pred.rows a.kids))],.agg [.p (.v (.string b.id)),ic b.vr,ic b.vc,ic b.stamp,.p (.v (.string b.kind)),ic b.num,.p (.v (.complex .f64 b.re b.im)),.p (.v (.bool b.dead))]] [] Q):=by
 unfold qfb at h
 obtain ⟨d1,h⟩:=qq h
 have c1:=of_decide_eq_true d1
 obtain ⟨d2,h⟩:=qq h
 have c2:=of_decide_eq_true d2
 injection h with h
 subst h
 exact qwu hX _ (Nat.le_refl _) c1 c2 hQ
def qbp (a:Pred) (b:Item):Option Bool:=chk (decide (a.Ok)) (chk (decide (b.Ok)) (some (hasP a b)))
theorem qez {X:Task→Prop} (hX:qk X) {a:Pred} {b:Item} {r:Bool} {Q:A→List Blk→Prop} (h:qbp a b=some r) (hQ:Q (.one (.p (.v (.bool r)))) []):X (.call 28 [.agg [ic a.op,.p (.v (.string a.text)),ic a.n,.p (.v (.complex .f64 a.re a.im)),.p (.sl (Pred.rows a.kids))],.agg [.p (.v (.string b.id)),ic b.vr,ic b.vc,ic b.stamp,.p (.v (.string b.kind)),ic b.num,.p (.v (.complex .f64 b.re b.im)),.p (.v (.bool b.dead))]] [] Q):=by
 unfold qbp at h
 obtain ⟨d1,h⟩:=qq h
 have c1:=of_decide_eq_true d1
 obtain ⟨d2,h⟩:=qq h
 have c2:=of_decide_eq_true d2
 injection h with h
 subst h
 exact qsL hX _ (Nat.le_refl _) c1 c2 hQ
def qfc (a:Pred) (b:Pred):Option Bool:=chk (decide (a.Ok)) (chk (decide (b.Ok)) (chk (decide (a.size≤1000)) (chk (decide (b.size≤1000)) (some (inP a b)))))
theorem qqF {X:Task→Prop} (hX:qk X) {a:Pred} {b:Pred} {r:Bool} {Q:A→List Blk→Prop} (h:qfc a b=some r) (hQ:Q (.one (.p (.v (.bool r)))) []):X (.call 87 [.agg [ic a.op,.p (.v (.string a.text)),ic a.n,.p (.v (.complex .f64 a.re a.im)),.p (.sl (Pred.rows a.kids))],.agg [ic b.op,.p (.v (.string b.text)),ic b.n,.p (.v (.complex .f64 b.re b.im)),.p (.sl (Pred.rows b.kids))]] [] Q):=by
 unfold qfc at h
 obtain ⟨d1,h⟩:=qq h
 have c1:=of_decide_eq_true d1
 obtain ⟨d2,h⟩:=qq h
 have c2:=of_decide_eq_true d2
 obtain ⟨d3,h⟩:=qq h
 have c3:=of_decide_eq_true d3
 obtain ⟨d4,h⟩:=qq h
 have c4:=of_decide_eq_true d4
 injection h with h
 subst h
 exact qz7 hX c1 c2 c3 c4 hQ
end
end Go.Proofs.YtidkmoohgadjkaaGreat
namespace Go.Proofs.YtidkmoohgadjkaaGreat
open Go E
theorem qal {R α:Type} {X:Task→Prop} {f m:Nat} {c:Code} {K:Ex→List A→List Blk→Prop} {r:R} (T':Int→List A) (S':Int→List Blk) (L:List α→Option R) (l:List α)
  (hstep:∀ (pre:List α) (x:α) (xs:List α) (i:Int),l=pre++x::xs→i=(pre.length:Int)→L (x::xs)=some r→(∀ (i':Int),i'=i + 1→L xs=some r→X (.loop f m c (T' i') (S' i') K))→X (.loop f m c (T' i) (S' i) K))
  (hend:∀ (i:Int),i=(l.length:Int)→L []=some r→X (.loop f m c (T' i) (S' i) K)) (h:L l=some r):X (.loop f m c (T' 0) (S' 0) K):=by
 have key:∀ (xs pre:List α) (i:Int),l=pre++xs→i=(pre.length:Int)→L xs=some r→X (.loop f m c (T' i) (S' i) K):=by
  intro xs
  induction xs with
  | nil=>intro pre i hl hi h; exact hend i (by rw [hl,hi]; simp) h
  | cons x xs ih=>intro pre i hl hi h; exact hstep pre x xs i hl hi h fun i' hi' h'=>by subst hi'; exact ih (pre++[x]) (i + 1) (by rw [hl]; simp) (by rw [hi]; simp) h'
 exact key l [] 0 rfl rfl h
theorem qI {R α:Type} {X:Task→Prop} {f m:Nat} {c:Code} {K:Ex→List A→List Blk→Prop} {r:R} (T':Int→List A) (S':Int→List Blk) (L:List α→Int→Option R) (l:List α)
  (hstep:∀ (pre:List α) (x:α) (xs:List α) (i:Int),l=pre++x::xs→i=(pre.length:Int)→L (x::xs) i=some r→(∀ (i':Int),i'=i + 1→L xs (i + 1)=some r→X (.loop f m c (T' i') (S' i') K))→X (.loop f m c (T' i) (S' i) K))
  (hend:∀ (i:Int),i=(l.length:Int)→L [] i=some r→X (.loop f m c (T' i) (S' i) K)) (h:L l 0=some r):X (.loop f m c (T' 0) (S' 0) K):=by
 have key:∀ (xs pre:List α) (i:Int),l=pre++xs→i=(pre.length:Int)→L xs i=some r→X (.loop f m c (T' i) (S' i) K):=by
  intro xs
  induction xs with
  | nil=>intro pre i hl hi h; exact hend i (by rw [hl,hi]; simp) h
  | cons x xs ih=>intro pre i hl hi h; exact hstep pre x xs i hl hi h fun i' hi' h'=>by subst hi'; exact ih (pre++[x]) (i + 1) (by rw [hl]; simp) (by rw [hi]; simp) h'
 exact key l [] 0 rfl rfl h
theorem qmy {R:Type} {X:Task→Prop} {f m:Nat} {c:Code} {K:Ex→List A→List Blk→Prop} {r:R} {G:Prop} {j:Option R} (T':List A) (S':List Blk)
  (main:Hold (j=some r→X (.rest f m c T' S' K))→G) (tail:j=some r→X (.rest f m c T' S' K)):G:=main ⟨tail⟩
theorem qqG {R α:Type} {S0:Type} {X:Task→Prop} {f m:Nat} {c:Code} {K:Ex→List A→List Blk→Prop} {r:R} (T':Int→S0→List A) (S':Int→S0→List Blk) (L:List α→S0→Option R) (l pre0 l0:List α) (i0:Int) (hl0:l=pre0++l0) (hi0:i0=(pre0.length:Int))
  (hstep:∀ (pre:List α) (x:α) (xs:List α) (i:Int) (a0:S0),l=pre++x::xs→i=(pre.length:Int)→L (x::xs) a0=some r→(∀ (i':Int) (b0:S0),i'=i + 1→L xs b0=some r→X (.loop f m c (T' i' b0) (S' i' b0) K))→X (.loop f m c (T' i a0) (S' i a0) K))
  (hend:∀ (i:Int) (a0:S0),i=(l.length:Int)→L [] a0=some r→X (.loop f m c (T' i a0) (S' i a0) K)) (a0:S0) (h:L l0 a0=some r):X (.loop f m c (T' i0 a0) (S' i0 a0) K):=by
 have key:∀ (xs pre:List α) (i:Int) (a0:S0),l=pre++xs→i=(pre.length:Int)→L xs a0=some r→X (.loop f m c (T' i a0) (S' i a0) K):=by
  intro xs
  induction xs with
  | nil=>intro pre i a0 hl hi h; exact hend i a0 (by rw [hl,hi]; simp) h
  | cons x xs ih=>intro pre i a0 hl hi h; exact hstep pre x xs i a0 hl hi h fun i' b0 hi' h'=>by subst hi'; exact ih (pre++[x]) (i + 1) b0 (by rw [hl]; simp) (by rw [hi]; simp) h'
 exact key l0 pre0 i0 a0 hl0 hi0 h
theorem qO {R α:Type} {S0:Type} {X:Task→Prop} {f m:Nat} {c:Code} {K:Ex→List A→List Blk→Prop} {r:R} (T':Int→S0→List A) (S':Int→S0→List Blk) (L:List α→S0→Option R) (l:List α)
  (hstep:∀ (pre:List α) (x:α) (xs:List α) (i:Int) (a0:S0),l=pre++x::xs→i=(pre.length:Int)→L (x::xs) a0=some r→(∀ (i':Int) (b0:S0),i'=i + 1→L xs b0=some r→X (.loop f m c (T' i' b0) (S' i' b0) K))→X (.loop f m c (T' i a0) (S' i a0) K))
  (hend:∀ (i:Int) (a0:S0),i=(l.length:Int)→L [] a0=some r→X (.loop f m c (T' i a0) (S' i a0) K)) (a0:S0) (h:L l a0=some r):X (.loop f m c (T' 0 a0) (S' 0 a0) K):=by
 have key:∀ (xs pre:List α) (i:Int) (a0:S0),l=pre++xs→i=(pre.length:Int)→L xs a0=some r→X (.loop f m c (T' i a0) (S' i a0) K):=by
  intro xs
  induction xs with
  | nil=>intro pre i a0 hl hi h; exact hend i a0 (by rw [hl,hi]; simp) h
  | cons x xs ih=>intro pre i a0 hl hi h; exact hstep pre x xs i a0 hl hi h fun i' b0 hi' h'=>by subst hi'; exact ih (pre++[x]) (i + 1) b0 (by rw [hl]; simp) (by rw [hi]; simp) h'
 exact key l [] 0 a0 rfl rfl h
theorem qhr {R:Type} {S0:Type} {X:Task→Prop} {f m:Nat} {c:Code} {K:Ex→List A→List Blk→Prop} {r:R} (T':S0→List A) (S':S0→List Blk) (L:Nat→S0→Option R)
  (h0:∀ (a0:S0),L 0 a0=some r→False)
  (hstep:∀ (n:Nat) (a0:S0),L (n + 1) a0=some r→(∀ (b0:S0),L n b0=some r→X (.loop f m c (T' b0) (S' b0) K))→X (.loop f m c (T' a0) (S' a0) K)) (N:Nat) (a0:S0) (h:L N a0=some r):X (.loop f m c (T' a0) (S' a0) K):=by
 induction N generalizing a0 with
 | zero=>exact (h0 a0 h).elim
 | succ N ih=>exact hstep N a0 h fun b0 h'=>ih b0 h'
theorem qfd {R:Type} {S0:Type} {X:Task→Prop} {f m:Nat} {c:Code} {K:Ex→List A→List Blk→Prop} {r:R} {G:Prop} {j:S0→Option R} (T':S0→List A) (S':S0→List Blk)
  (main:Hold (∀ (a0:S0),j a0=some r→X (.rest f m c (T' a0) (S' a0) K))→G) (tail:∀ (a0:S0),j a0=some r→X (.rest f m c (T' a0) (S' a0) K)):G:=main ⟨tail⟩
theorem qjV {R α:Type} {S0 S1:Type} {X:Task→Prop} {f m:Nat} {c:Code} {K:Ex→List A→List Blk→Prop} {r:R} (T':Int→S0→S1→List A) (S':Int→S0→S1→List Blk) (L:List α→S0→S1→Option R) (l pre0 l0:List α) (i0:Int) (hl0:l=pre0++l0) (hi0:i0=(pre0.length:Int))
  (hstep:∀ (pre:List α) (x:α) (xs:List α) (i:Int) (a0:S0) (a1:S1),l=pre++x::xs→i=(pre.length:Int)→L (x::xs) a0 a1=some r→(∀ (i':Int) (b0:S0) (b1:S1),i'=i + 1→L xs b0 b1=some r→X (.loop f m c (T' i' b0 b1) (S' i' b0 b1) K))→X (.loop f m c (T' i a0 a1) (S' i a0 a1) K))
  (hend:∀ (i:Int) (a0:S0) (a1:S1),i=(l.length:Int)→L [] a0 a1=some r→X (.loop f m c (T' i a0 a1) (S' i a0 a1) K)) (a0:S0) (a1:S1) (h:L l0 a0 a1=some r):X (.loop f m c (T' i0 a0 a1) (S' i0 a0 a1) K):=by
 have key:∀ (xs pre:List α) (i:Int) (a0:S0) (a1:S1),l=pre++xs→i=(pre.length:Int)→L xs a0 a1=some r→X (.loop f m c (T' i a0 a1) (S' i a0 a1) K):=by
  intro xs
  induction xs with
  | nil=>intro pre i a0 a1 hl hi h; exact hend i a0 a1 (by rw [hl,hi]; simp) h
  | cons x xs ih=>intro pre i a0 a1 hl hi h; exact hstep pre x xs i a0 a1 hl hi h fun i' b0 b1 hi' h'=>by subst hi'; exact ih (pre++[x]) (i + 1) b0 b1 (by rw [hl]; simp) (by rw [hi]; simp) h'
 exact key l0 pre0 i0 a0 a1 hl0 hi0 h
theorem qfe {R α:Type} {S0 S1:Type} {X:Task→Prop} {f m:Nat} {c:Code} {K:Ex→List A→List Blk→Prop} {r:R} (T':Int→S0→S1→List A) (S':Int→S0→S1→List Blk) (L:List α→S0→S1→Option R) (l:List α)
  (hstep:∀ (pre:List α) (x:α) (xs:List α) (i:Int) (a0:S0) (a1:S1),l=pre++x::xs→i=(pre.length:Int)→L (x::xs) a0 a1=some r→(∀ (i':Int) (b0:S0) (b1:S1),i'=i + 1→L xs b0 b1=some r→X (.loop f m c (T' i' b0 b1) (S' i' b0 b1) K))→X (.loop f m c (T' i a0 a1) (S' i a0 a1) K))
  (hend:∀ (i:Int) (a0:S0) (a1:S1),i=(l.length:Int)→L [] a0 a1=some r→X (.loop f m c (T' i a0 a1) (S' i a0 a1) K)) (a0:S0) (a1:S1) (h:L l a0 a1=some r):X (.loop f m c (T' 0 a0 a1) (S' 0 a0 a1) K):=by
 have key:∀ (xs pre:List α) (i:Int) (a0:S0) (a1:S1),l=pre++xs→i=(pre.length:Int)→L xs a0 a1=some r→X (.loop f m c (T' i a0 a1) (S' i a0 a1) K):=by
  intro xs
  induction xs with
  | nil=>intro pre i a0 a1 hl hi h; exact hend i a0 a1 (by rw [hl,hi]; simp) h
  | cons x xs ih=>intro pre i a0 a1 hl hi h; exact hstep pre x xs i a0 a1 hl hi h fun i' b0 b1 hi' h'=>by subst hi'; exact ih (pre++[x]) (i + 1) b0 b1 (by rw [hl]; simp) (by rw [hi]; simp) h'
 exact key l [] 0 a0 a1 rfl rfl h
theorem qhs {R:Type} {S0 S1:Type} {X:Task→Prop} {f m:Nat} {c:Code} {K:Ex→List A→List Blk→Prop} {r:R} (T':S0→S1→List A) (S':S0→S1→List Blk) (L:Nat→S0→S1→Option R)
  (h0:∀ (a0:S0) (a1:S1),L 0 a0 a1=some r→False)
  (hstep:∀ (n:Nat) (a0:S0) (a1:S1),L (n + 1) a0 a1=some r→(∀ (b0:S0) (b1:S1),L n b0 b1=some r→X (.loop f m c (T' b0 b1) (S' b0 b1) K))→X (.loop f m c (T' a0 a1) (S' a0 a1) K)) (N:Nat) (a0:S0) (a1:S1) (h:L N a0 a1=some r):X (.loop f m c (T' a0 a1) (S' a0 a1) K):=by
 induction N generalizing a0 a1 with
 | zero=>exact (h0 a0 a1 h).elim
 | succ N ih=>exact hstep N a0 a1 h fun b0 b1 h'=>ih b0 b1 h'
theorem qz8 {R:Type} {S0 S1:Type} {X:Task→Prop} {f m:Nat} {c:Code} {K:Ex→List A→List Blk→Prop} {r:R} {G:Prop} {j:S0→S1→Option R} (T':S0→S1→List A) (S':S0→S1→List Blk)
  (main:Hold (∀ (a0:S0) (a1:S1),j a0 a1=some r→X (.rest f m c (T' a0 a1) (S' a0 a1) K))→G) (tail:∀ (a0:S0) (a1:S1),j a0 a1=some r→X (.rest f m c (T' a0 a1) (S' a0 a1) K)):G:=main ⟨tail⟩
theorem qqH {R:Type} {S0 S1 S2:Type} {X:Task→Prop} {f m:Nat} {c:Code} {K:Ex→List A→List Blk→Prop} {r:R} (T':S0→S1→S2→List A) (S':S0→S1→S2→List Blk) (L:Nat→S0→S1→S2→Option R)
  (h0:∀ (a0:S0) (a1:S1) (a2:S2),L 0 a0 a1 a2=some r→False)
  (hstep:∀ (n:Nat) (a0:S0) (a1:S1) (a2:S2),L (n + 1) a0 a1 a2=some r→(∀ (b0:S0) (b1:S1) (b2:S2),L n b0 b1 b2=some r→X (.loop f m c (T' b0 b1 b2) (S' b0 b1 b2) K))→X (.loop f m c (T' a0 a1 a2) (S' a0 a1 a2) K)) (N:Nat) (a0:S0) (a1:S1) (a2:S2) (h:L N a0 a1 a2=some r):X (.loop f m c (T' a0 a1 a2) (S' a0 a1 a2) K):=by
 induction N generalizing a0 a1 a2 with
 | zero=>exact (h0 a0 a1 a2 h).elim
 | succ N ih=>exact hstep N a0 a1 a2 h fun b0 b1 b2 h'=>ih b0 b1 b2 h'
theorem qqI {R α:Type} {S0 S1 S2 S3:Type} {X:Task→Prop} {f m:Nat} {c:Code} {K:Ex→List A→List Blk→Prop} {r:R} (T':Int→S0→S1→S2→S3→List A) (S':Int→S0→S1→S2→S3→List Blk) (L:List α→S0→S1→S2→S3→Option R) (l:List α)
  (hstep:∀ (pre:List α) (x:α) (xs:List α) (i:Int) (a0:S0) (a1:S1) (a2:S2) (a3:S3),l=pre++x::xs→i=(pre.length:Int)→L (x::xs) a0 a1 a2 a3=some r→(∀ (i':Int) (b0:S0) (b1:S1) (b2:S2) (b3:S3),i'=i + 1→L xs b0 b1 b2 b3=some r→X (.loop f m c (T' i' b0 b1 b2 b3) (S' i' b0 b1 b2 b3) K))→X (.loop f m c (T' i a0 a1 a2 a3) (S' i a0 a1 a2 a3) K))
  (hend:∀ (i:Int) (a0:S0) (a1:S1) (a2:S2) (a3:S3),i=(l.length:Int)→L [] a0 a1 a2 a3=some r→X (.loop f m c (T' i a0 a1 a2 a3) (S' i a0 a1 a2 a3) K)) (a0:S0) (a1:S1) (a2:S2) (a3:S3) (h:L l a0 a1 a2 a3=some r):X (.loop f m c (T' 0 a0 a1 a2 a3) (S' 0 a0 a1 a2 a3) K):=by
 have key:∀ (xs pre:List α) (i:Int) (a0:S0) (a1:S1) (a2:S2) (a3:S3),l=pre++xs→i=(pre.length:Int)→L xs a0 a1 a2 a3=some r→X (.loop f m c (T' i a0 a1 a2 a3) (S' i a0 a1 a2 a3) K):=by
  intro xs
  induction xs with
  | nil=>intro pre i a0 a1 a2 a3 hl hi h; exact hend i a0 a1 a2 a3 (by rw [hl,hi]; simp) h
  | cons x xs ih=>intro pre i a0 a1 a2 a3 hl hi h; exact hstep pre x xs i a0 a1 a2 a3 hl hi h fun i' b0 b1 b2 b3 hi' h'=>by subst hi'; exact ih (pre++[x]) (i + 1) b0 b1 b2 b3 (by rw [hl]; simp) (by rw [hi]; simp) h'
 exact key l [] 0 a0 a1 a2 a3 rfl rfl h
theorem qz9 {R:Type} {S0 S1 S2 S3 S4 S5 S6:Type} {X:Task→Prop} {f m:Nat} {c:Code} {K:Ex→List A→List Blk→Prop} {r:R} {G:Prop} {j:S0→S1→S2→S3→S4→S5→S6→Option R} (T':S0→S1→S2→S3→S4→S5→S6→List A) (S':S0→S1→S2→S3→S4→S5→S6→List Blk)
  (main:Hold (∀ (a0:S0) (a1:S1) (a2:S2) (a3:S3) (a4:S4) (a5:S5) (a6:S6),j a0 a1 a2 a3 a4 a5 a6=some r→X (.rest f m c (T' a0 a1 a2 a3 a4 a5 a6) (S' a0 a1 a2 a3 a4 a5 a6) K))→G) (tail:∀ (a0:S0) (a1:S1) (a2:S2) (a3:S3) (a4:S4) (a5:S5) (a6:S6),j a0 a1 a2 a3 a4 a5 a6=some r→X (.rest f m c (T' a0 a1 a2 a3 a4 a5 a6) (S' a0 a1 a2 a3 a4 a5 a6) K)):G:=main ⟨tail⟩
theorem qqJ {R α:Type} {S0 S1 S2 S3 S4 S5 S6 S7:Type} {X:Task→Prop} {f m:Nat} {c:Code} {K:Ex→List A→List Blk→Prop} {r:R} (T':Int→S0→S1→S2→S3→S4→S5→S6→S7→List A) (S':Int→S0→S1→S2→S3→S4→S5→S6→S7→List Blk) (L:List α→S0→S1→S2→S3→S4→S5→S6→S7→Option R) (l:List α)
  (hstep:∀ (pre:List α) (x:α) (xs:List α) (i:Int) (a0:S0) (a1:S1) (a2:S2) (a3:S3) (a4:S4) (a5:S5) (a6:S6) (a7:S7),l=pre++x::xs→i=(pre.length:Int)→L (x::xs) a0 a1 a2 a3 a4 a5 a6 a7=some r→(∀ (i':Int) (b0:S0) (b1:S1) (b2:S2) (b3:S3) (b4:S4) (b5:S5) (b6:S6) (b7:S7),i'=i + 1→L xs b0 b1 b2 b3 b4 b5 b6 b7=some r→X (.loop f m c (T' i' b0 b1 b2 b3 b4 b5 b6 b7) (S' i' b0 b1 b2 b3 b4 b5 b6 b7) K))→X (.loop f m c (T' i a0 a1 a2 a3 a4 a5 a6 a7) (S' i a0 a1 a2 a3 a4 a5 a6 a7) K))
  (hend:∀ (i:Int) (a0:S0) (a1:S1) (a2:S2) (a3:S3) (a4:S4) (a5:S5) (a6:S6) (a7:S7),i=(l.length:Int)→L [] a0 a1 a2 a3 a4 a5 a6 a7=some r→X (.loop f m c (T' i a0 a1 a2 a3 a4 a5 a6 a7) (S' i a0 a1 a2 a3 a4 a5 a6 a7) K)) (a0:S0) (a1:S1) (a2:S2) (a3:S3) (a4:S4) (a5:S5) (a6:S6) (a7:S7) (h:L l a0 a1 a2 a3 a4 a5 a6 a7=some r):X (.loop f m c (T' 0 a0 a1 a2 a3 a4 a5 a6 a7) (S' 0 a0 a1 a2 a3 a4 a5 a6 a7) K):=by
 have key:∀ (xs pre:List α) (i:Int) (a0:S0) (a1:S1) (a2:S2) (a3:S3) (a4:S4) (a5:S5) (a6:S6) (a7:S7),l=pre++xs→i=(pre.length:Int)→L xs a0 a1 a2 a3 a4 a5 a6 a7=some r→X (.loop f m c (T' i a0 a1 a2 a3 a4 a5 a6 a7) (S' i a0 a1 a2 a3 a4 a5 a6 a7) K):=by
  intro xs
  induction xs with
  | nil=>intro pre i a0 a1 a2 a3 a4 a5 a6 a7 hl hi h; exact hend i a0 a1 a2 a3 a4 a5 a6 a7 (by rw [hl,hi]; simp) h
  | cons x xs ih=>intro pre i a0 a1 a2 a3 a4 a5 a6 a7 hl hi h; exact hstep pre x xs i a0 a1 a2 a3 a4 a5 a6 a7 hl hi h fun i' b0 b1 b2 b3 b4 b5 b6 b7 hi' h'=>by subst hi'; exact ih (pre++[x]) (i + 1) b0 b1 b2 b3 b4 b5 b6 b7 (by rw [hl]; simp) (by rw [hi]; simp) h'
 exact key l [] 0 a0 a1 a2 a3 a4 a5 a6 a7 rfl rfl h
end Go.Proofs.YtidkmoohgadjkaaGreat
set_option maxHeartbeats 0
namespace Go.Proofs.YtidkmoohgadjkaaGreat
open Go E
noncomputable section
open Pred
def qaV (p1:ByteArray):List ByteArray→Option (Bool)
  | [] =>
  some false
  | x1e::xs1 =>
  (br (eqS x1e p1)
   (some true)
   (qaV p1 xs1  ))
def qcH (p0:List ByteArray) (p1:ByteArray):Option (Bool) :=
 (chk (qz p0)
   ((qaV p1) p0 ))
def qbh (p1:ByteArray) (p2:Ver):List Frag→Option (Bool)
  | [] =>
  some false
  | x1e::xs1 =>
  (bnd (qcH x1e.ids p1) fun y5 =>
   (br y5
    (bnd (qbN x1e.vec p2) fun y8 =>
     (br y8
      (some true)
      (qbh p1 p2 xs1  )))
    (qbh p1 p2 xs1  )))
def qb6 (p0:Know) (p1:ByteArray) (p2:Ver):Option (Bool) :=
 (bnd (qbN p0.star p2) fun y1 =>
  (br y1
   (some true)
   (chk (qz p0.l)
     ((qbh p1 p2) p0.l ))))
def qbb (p1:ByteArray) (x1e:ByteArray) (k1:Bool→(List ByteArray)→Option ((List ByteArray))) (v4:Bool) (v5:List ByteArray):Option ((List ByteArray)) :=
 (br (!eqS x1e p1)
  (chk (qT v5.length 1)
   (k1 v4 (v5++[x1e])))
  (k1 v4 v5))
def qU (p1:ByteArray):List ByteArray→Bool→(List ByteArray)→Option ((List ByteArray))
  | [],v1,v3 =>
  (br (!v1)
   (chk (qT v3.length 1)
    (some (v3++[p1])))
   (some v3))
  | x1e::xs1,v1,v3 =>
  (br (!v1)
   (br (ltS p1 x1e || eqS p1 x1e)
    (chk (qT v3.length 1)
     (qbb p1 x1e (fun w0 w1=>qU p1 xs1  w0 w1) true (v3++[p1])))
    (qbb p1 x1e (fun w0 w1=>qU p1 xs1  w0 w1) v1 v3))
   (qbb p1 x1e (fun w0 w1=>qU p1 xs1  w0 w1) v1 v3))
def qcW (p0:List ByteArray) (p1:ByteArray):Option ((List ByteArray)) :=
 (chk (qz p0)
   ((qU p1) p0 false ([]:List ByteArray)))
def qaW (k1:(List ByteArray)→Option ((List ByteArray))):List ByteArray→(List ByteArray)→Option ((List ByteArray))
  | [],v4 =>
  (k1 v4)
  | x2e::xs2,v4 =>
  (bnd (qcW v4 x2e) fun y5 =>
   (qaW k1 xs2  y5))
def qaX:List Frag→(List ByteArray)→Option ((List ByteArray))
 | [],v2 =>
 some v2
 | x1e::xs1,v2 =>
 (chk (qz x1e.ids)
  ((qaW (fun w0=>qaX xs1  w0)) x1e.ids v2))
def qdv (p0:Know):Option ((List ByteArray)) :=
 (chk (qz p0.l)
   ((qaX) p0.l ([]:List ByteArray)))
def qdw (v15:Int) (v16:Int) (v17:Int) (v18:Int) (v19:Int) (v20:Int) (v21:Int) (v22:Int):Option (V8) :=
 some (V8.mk v15 v16 v17 v18 v19 v20 v21 v22)
def qb7 (p0:Know) (v9:Int) (v15:Int) (v16:Int) (v17:Int) (v18:Int) (v19:Int) (v20:Int) (v21:Int):Option (V8) :=
 (br (leI v9 p0.star.x7)
  (qdw v15 v16 v17 v18 v19 v20 v21 0)
  (qdw v15 v16 v17 v18 v19 v20 v21 v9))
def qb8 (p0:Know) (v8:Int) (v9:Int) (v15:Int) (v16:Int) (v17:Int) (v18:Int) (v19:Int) (v20:Int):Option (V8) :=
 (br (leI v8 p0.star.x6)
  (qb7 p0 v9 v15 v16 v17 v18 v19 v20 0)
  (qb7 p0 v9 v15 v16 v17 v18 v19 v20 v8))
def qb9 (p0:Know) (v7:Int) (v8:Int) (v9:Int) (v15:Int) (v16:Int) (v17:Int) (v18:Int) (v19:Int):Option (V8) :=
 (br (leI v7 p0.star.x5)
  (qb8 p0 v8 v9 v15 v16 v17 v18 v19 0)
  (qb8 p0 v8 v9 v15 v16 v17 v18 v19 v7))
def qca (p0:Know) (v6:Int) (v7:Int) (v8:Int) (v9:Int) (v15:Int) (v16:Int) (v17:Int) (v18:Int):Option (V8) :=
 (br (leI v6 p0.star.x4)
  (qb9 p0 v7 v8 v9 v15 v16 v17 v18 0)
  (qb9 p0 v7 v8 v9 v15 v16 v17 v18 v6))
def qcb (p0:Know) (v5:Int) (v6:Int) (v7:Int) (v8:Int) (v9:Int) (v15:Int) (v16:Int) (v17:Int):Option (V8) :=
 (br (leI v5 p0.star.x3)
  (qca p0 v6 v7 v8 v9 v15 v16 v17 0)
  (qca p0 v6 v7 v8 v9 v15 v16 v17 v5))
def qcc (p0:Know) (v4:Int) (v5:Int) (v6:Int) (v7:Int) (v8:Int) (v9:Int) (v15:Int) (v16:Int):Option (V8) :=
 (br (leI v4 p0.star.x2)
  (qcb p0 v5 v6 v7 v8 v9 v15 v16 0)
  (qcb p0 v5 v6 v7 v8 v9 v15 v16 v4))
def qcd (p0:Know) (v3:Int) (v4:Int) (v5:Int) (v6:Int) (v7:Int) (v8:Int) (v9:Int) (v15:Int):Option (V8) :=
 (br (leI v3 p0.star.x1)
  (qcc p0 v4 v5 v6 v7 v8 v9 v15 0)
  (qcc p0 v4 v5 v6 v7 v8 v9 v15 v3))
def qap (p0:Know) (p1:ByteArray):List Frag→Int→Int→Int→Int→Int→Int→Int→Int→Option (V8)
  | [],v2,v3,v4,v5,v6,v7,v8,v9 =>
  (br (leI v2 p0.star.x0)
   (qcd p0 v3 v4 v5 v6 v7 v8 v9 0)
   (qcd p0 v3 v4 v5 v6 v7 v8 v9 v2))
  | x1e::xs1,v2,v3,v4,v5,v6,v7,v8,v9 =>
  (bnd (qcH x1e.ids p1) fun y10 =>
   (br y10
    (bnd (qdK (V8.mk v2 v3 v4 v5 v6 v7 v8 v9) x1e.vec) fun y13 =>
     (qap p0 p1 xs1  y13.x0 y13.x1 y13.x2 y13.x3 y13.x4 y13.x5 y13.x6 y13.x7))
    (qap p0 p1 xs1  v2 v3 v4 v5 v6 v7 v8 v9)))
def qbQ (p0:Know) (p1:ByteArray):Option (V8) :=
 (chk (qz p0.l)
   ((qap p0 p1) p0.l 0 0 0 0 0 0 0 0))
def qcX (v12:List Frag) (x2e:ByteArray) (y13:V8) (k2:(List Frag)→Option (Know)) (v16:Int):Option (Know) :=
 (br (eqI v16 (v12.length:Int))
  (chk (qT v12.length 1)
   (bnd (atL (v12++[(Frag.mk ([]:List ByteArray) y13)]) v16) fun x20 =>
    (chk (qT x20.ids.length 1)
     (k2 ((v12++[(Frag.mk ([]:List ByteArray) y13)]).set v16.toNat (Frag.mk (x20.ids++[x2e]) x20.vec))))))
  (bnd (atL v12 v16) fun x23 =>
   (chk (qT x23.ids.length 1)
    (k2 (v12.set v16.toNat (Frag.mk (x23.ids++[x2e]) x23.vec))))))
def qaY (v12:List Frag) (x2e:ByteArray) (y13:V8) (k2:(List Frag)→Option (Know)):List Frag→Int→Option (Know)
  | [],v26 =>
  (qcX v12 x2e y13 k2 v26)
  | x4e::xs4,v26 =>
  (br (!(eq8 x4e.vec y13))
   (qaY v12 x2e y13 k2 xs4 (v26 + 1) )
   (qcX v12 x2e y13 k2 v26))
def qao (p0:Know):List ByteArray→(List Frag)→Option (Know)
  | [],v12 =>
  some (Know.mk p0.star v12)
  | x2e::xs2,v12 =>
  (bnd (qbQ p0 x2e) fun y13 =>
   (br (eq8 y13 (V8.mk 0 0 0 0 0 0 0 0))
    (qao p0 xs2  v12)
    (chk (qz v12)
      ((qaY v12 x2e y13 (fun w0=>qao p0 xs2  w0)) v12 0 ))))
def qaZ (p0:Know):List ByteArray→Option (Know)
  | [] =>
  some (Know.mk p0.star [])
  | x1e::xs1 =>
  (bnd (qbQ p0 x1e) fun y6 =>
   (br (eq8 y6 (V8.mk 0 0 0 0 0 0 0 0))
    (qaZ p0 xs1  )
    (chk (qT 0 1)
     ((qao p0) xs1 [(Frag.mk [x1e] y6)]))))
def qaM (p0:Know):Option (Know) :=
 (bnd (qdv p0) fun y1 =>
  (chk (qz y1)
    ((qaZ p0) y1 )))
def qa0 (x4:Frag) (k1:Option (Bool)):List ByteArray→Int→Option (Bool)
  | [],v8 =>
  (k1 )
  | x2e::xs2,v8 =>
  (bnd (atL x4.ids v8) fun x9 =>
   (br (!eqS x2e x9)
    (some false)
    (qa0 x4 k1 xs2 (v8 + 1) )))
def qaE (p1:Know):List Frag→Int→Option (Bool)
  | [],v3 =>
  some true
  | x1e::xs1,v3 =>
  (bnd (atL p1.l v3) fun x4 =>
   (br (!(eq8 x1e.vec x4.vec))
    (some false)
    (br (!eqI (x1e.ids.length:Int) (x4.ids.length:Int))
     (some false)
     (chk (qz x1e.ids)
       ((qa0 x4 (qaE p1 xs1 (v3 + 1))) x1e.ids 0 )))))
def qaN (p0:Know) (p1:Know):Option (Bool) :=
 (br (!(eq8 p0.star p1.star))
  (some false)
  (br (!eqI (p0.l.length:Int) (p1.l.length:Int))
   (some false)
   (chk (qz p0.l)
     ((qaE p1) p0.l 0 ))))
def qce (k1:Option (Bool)):List ByteArray→Option (Bool)
  | [] =>
  (k1 )
  | x2e::xs2 =>
  (bnd (qbf x2e) fun y14 =>
   (br (!y14)
    (some false)
    (qce k1 xs2  )))
def qcf:List Frag→Option (Bool)
  | [] =>
  some true
  | x1e::xs1 =>
  (bnd (qbO x1e.vec) fun y10 =>
   (br (!y10)
    (some false)
    (chk (qz x1e.ids)
      ((qce (qcf xs1 )) x1e.ids ))))
def qda (p0:Know):Option (Bool) :=
 (bnd (qaM p0) fun y1 =>
  (bnd (qaN p0 y1) fun y3 =>
   (bnd (qbO p0.star) fun y5 =>
    (br (!y3)
     (some false)
     (br (!y5)
      (some false)
      (chk (qz p0.l)
        ((qcf) p0.l )))))))
def qa1 (p0:List Item):Nat→Int→Option (Bool)
  | 0,_=>none
  | fl1 + 1,v1 =>
  (br (ltI v1 (p0.length:Int))
   (bnd (atL p0 v1) fun x3 =>
    (bnd (atL p0 (wr .i64 (v1 - 1))) fun x5 =>
     (br (ltS x3.id x5.id || eqS x3.id x5.id)
      (some false)
      (qa1 p0 fl1 (wr .i64 (v1 + 1))))))
   (some true))
def qdx (p0:List Item):Option (Bool) :=
 ((qa1 p0) qdC 1)
def qcg (p1:ByteArray):List Item→Option (Item × Bool)
  | [] =>
  some ((Item.mk ⟨#[]⟩ 0 0 0 ⟨#[]⟩ 0 0 0 false),false)
  | x1e::xs1 =>
  (br (eqS x1e.id p1)
   (some (x1e,true))
   (qcg p1 xs1  ))
def qbq (p0:List Item) (p1:ByteArray):Option (Item × Bool) :=
 (chk (qz p0)
   ((qcg p1) p0 ))
def qaw (p0:List Item):List Item→Option (Bool)
  | [] =>
  (bnd (qdx p0) fun y5 =>
   some y5)
  | x1e::xs1 =>
  (bnd (qb5 x1e) fun y2 =>
   (br (!y2)
    (some false)
    (qaw p0 xs1  )))
def qbc (p0:List Item):Option (Bool) :=
 (chk (qz p0)
   ((qaw p0) p0 ))
variable {X:Task→Prop} (hX:qk X) {Q:A→List Blk→Prop}
include hX
theorem qg9  {p0:List ByteArray} {p1:ByteArray} {r:Bool} (h:qcH p0 p1=some r) (hQ:Q (.one (.p (.v (.bool r)))) []):X (.call 89 [.one (.p (.sl (p0.map srw))),.one (.p (.v (.string p1)))] [] Q):=by
  have K:=fun a (e:some a=some r)=>qm (f:=fun y=>.one (.p (.v (.bool y)))) (g:=fun y=>[]) e hQ
  unfold qcH at h
  refine qb hX Tryz.func89 rfl rfl ?_
  revert h
  refine chkk fun hs1 h=>?_
  conv=>whnf
  repeat((first|refine dw ?_);conv=>whnf)
  refine qal (fun (v1:Int)=>pad [(0,.one (.p (.sl (p0.map srw)))),(0,.one (.p (.v (.string p1)))),(3,iv v1)] 12) (fun (v1:Int)=>[]) _ p0 (fun pre1 x1e xs1 v1  hl1 hi1 h ih1=>?_) (fun v1  hi1 h=>?_)  h
  ·rw [qaV] at h
   have am1:=qB hl1 hi1
   refine qa hX ?_
   conv=>whnf
   repeat((first|refine dw ?_|refine qg (qi _) ?_|refine bct (qC hl1 hi1) ?_|refine bct (qc am1) ?_|refine bct (andt (qc am1) rfl) ?_|refine qe (qf am1) ?_|refine bct (andt (qc (qd am1)) rfl) ?_|refine qe (qf (qd am1)) ?_);conv=>whnf)
   revert h
   refine brk (fun c2 h=>?_) (fun c2 h=>?_)
   ·conv=>whnf
    repeat((first|refine dw ?_|refine bct c2 ?_);conv=>whnf)
    exact K _ h
   ·conv=>whnf
    repeat((first|refine dw ?_|refine bcf c2 ?_);conv=>whnf)
    exact ih1 _  (wrL hs1 hl1 hi1) h
  ·rw [qaV] at h
   refine qa hX ?_
   conv=>whnf
   repeat((first|refine dw ?_|refine qg (qi _) ?_|refine bcf (qD hi1) ?_);conv=>whnf)
   exact K _ h
theorem qfA  {p0:Know} {p1:ByteArray} {p2:Ver} {r:Bool} (h:qb6 p0 p1 p2=some r) (hQ:Q (.one (.p (.v (.bool r)))) []):X (.call 27 [.agg (Know.cs p0),.one (.p (.v (.string p1))),.agg (Ver.cs p2)] [] Q):=by
  have K:=fun a (e:some a=some r)=>qm (f:=fun y=>.one (.p (.v (.bool y)))) (g:=fun y=>[]) e hQ
  unfold qb6 at h
  refine qb hX Tryz.func27 rfl rfl ?_
  revert h
  refine bndk fun y1 e2 h=>?_
  conv=>whnf
  repeat((first|refine dw ?_);conv=>whnf)
  refine qgx hX e2 ?_
  conv=>whnf
  repeat((first|refine dw ?_);conv=>whnf)
  revert h
  refine brk (fun c3 h=>?_) (fun c3 h=>?_)
  ·conv=>whnf
   repeat((first|refine dw ?_|refine bct c3 ?_);conv=>whnf)
   exact K _ h
  ·revert h
   refine chkk fun hs1 h=>?_
   conv=>whnf
   repeat((first|refine dw ?_|refine bcf c3 ?_);conv=>whnf)
   refine qal (fun (v4:Int)=>pad [(1,.one (.p (.v (.string p1)))),(1,.one (.ptr 0 0)),(1,.one (.ptr 1 0)),(1,iv v4)] 29) (fun (v4:Int)=>[.box (Know.cs p0),.box (Ver.cs p2)]) _ p0.l (fun pre1 x1e xs1 v4  hl1 hi1 h ih1=>?_) (fun v4  hi1 h=>?_)  h
   ·rw [qbh] at h
    have am1:=qB hl1 hi1
    refine qa hX ?_
    revert h
    refine bndk fun y5 e6 h=>?_
    conv=>whnf
    repeat((first|refine dw ?_|refine qg (qi _) ?_|refine bct (qC hl1 hi1) ?_|refine bct (qc am1) ?_|refine bct (andt (qc am1) rfl) ?_|refine qe (qf am1) ?_|refine bct (andt (qc (qd am1)) rfl) ?_|refine qe (qf (qd am1)) ?_);conv=>whnf)
    refine qg9 hX e6 ?_
    conv=>whnf
    repeat((first|refine dw ?_);conv=>whnf)
    revert h
    refine brk (fun c7 h=>?_) (fun c7 h=>?_)
    ·revert h
     refine bndk fun y8 e9 h=>?_
     conv=>whnf
     repeat((first|refine dw ?_|refine bct c7 ?_|refine bct (qc am1) ?_|refine bct (andt (qc am1) rfl) ?_|refine qe (qf am1) ?_|refine bct (andt (qc (qd am1)) rfl) ?_|refine qe (qf (qd am1)) ?_);conv=>whnf)
     refine qgx hX e9 ?_
     conv=>whnf
     repeat((first|refine dw ?_|refine bct c7 ?_);conv=>whnf)
     revert h
     refine brk (fun c10 h=>?_) (fun c10 h=>?_)
     ·conv=>whnf
      repeat((first|refine dw ?_|refine bct c10 ?_);conv=>whnf)
      exact K _ h
     ·conv=>whnf
      repeat((first|refine dw ?_|refine bcf c10 ?_);conv=>whnf)
      exact ih1 _  (wrL hs1 hl1 hi1) h
    ·conv=>whnf
     repeat((first|refine dw ?_|refine bcf c7 ?_);conv=>whnf)
     exact ih1 _  (wrL hs1 hl1 hi1) h
   ·rw [qbh] at h
    refine qa hX ?_
    conv=>whnf
    repeat((first|refine dw ?_|refine qg (qi _) ?_|refine bcf (qD hi1) ?_);conv=>whnf)
    exact K _ h
theorem qjv  {p0:List ByteArray} {p1:ByteArray} {r:(List ByteArray)} (h:qcW p0 p1=some r) (hQ:Q (.one (.own 0)) [.rows 1 (r.map srw)]):X (.call 232 [.one (.p (.sl (p0.map srw))),.one (.p (.v (.string p1)))] [] Q):=by
  have K:=fun a (e:some a=some r)=>qm (f:=fun y=>.one (.own 0)) (g:=fun y=>[.rows 1 (y.map srw)]) e hQ
  unfold qcW at h
  refine qb hX Tryz.func232 rfl rfl ?_
  replace h:=qq h
  obtain ⟨hs1,h⟩:=h
  conv=>whnf
  repeat((first|refine dw ?_);conv=>whnf)
  refine qeP hX [1] ?_
  conv=>whnf
  refine qfe (fun (v2:Int) (v1:Bool) (v3:List ByteArray)=>pad [(0,.one (.p (.sl (p0.map srw)))),(0,.one (.p (.v (.string p1)))),(3,.one (.own 0)),(0,.one (.p (.v (.bool v1)))),(0,iv v2)] 40) (fun (v2:Int) (v1:Bool) (v3:List ByteArray)=>[.rows 1 (v3.map srw)]) _ p0 (fun pre1 x1e xs1 v2 v1 v3 hl1 hi1 h ih1=>?_) (fun v2 v1 v3 hi1 h=>?_) false ([]:List ByteArray) h
  ·rw [qU] at h
   have am1:=qB hl1 hi1
   refine qa hX ?_
   apply qz8 (X:=X) (r:=r) (fun (v4:Bool) (v5:List ByteArray)=>pad [(0,.one (.p (.sl (p0.map srw)))),(0,.one (.p (.v (.string p1)))),(3,.one (.own 0)),(0,.one (.p (.v (.bool v4)))),(0,iv v2)] 40) (fun (v4:Bool) (v5:List ByteArray)=>[.rows 1 (v5.map srw)])
   ·intro tl2
    conv=>whnf
    repeat((first|refine dw ?_|refine qg (qi _) ?_|refine bct (qC hl1 hi1) ?_);conv=>whnf)
    refine qj h (fun c8 g=>?_) (fun c8 g=>?_)
    ·replace h:=g
     clear g
     conv=>whnf
     repeat((first|refine dw ?_|refine bct c8 ?_|refine bct (qc am1) ?_|refine bct (andt (qc am1) rfl) ?_|refine qe (qf am1) ?_|refine bct (andt (qc (qd am1)) rfl) ?_|refine qe (qf (qd am1)) ?_);conv=>whnf)
     refine qj h (fun c9 g=>?_) (fun c9 g=>?_)
     ·replace h:=g
      clear g
      replace h:=qq h
      obtain ⟨c10,h⟩:=h
      conv=>whnf
      repeat((first|refine dw ?_|refine bct c9 ?_|refine bct (qx c10 rfl rfl rfl rfl) ?_|refine qg (qH (f:=srw) v3 p1) ?_);conv=>whnf)
      exact tl2.h true (v3++[p1]) h
     ·replace h:=g
      clear g
      conv=>whnf
      repeat((first|refine dw ?_|refine bcf c9 ?_);conv=>whnf)
      exact tl2.h v1 v3 h
    ·replace h:=g
     clear g
     conv=>whnf
     repeat((first|refine dw ?_|refine bcf c8 ?_);conv=>whnf)
     exact tl2.h v1 v3 h
   ·intro v4 v5 h
    unfold qbb at h
    refine qt hX ?_
    conv=>whnf
    repeat((first|refine dw ?_|refine bct (qc am1) ?_|refine bct (andt (qc am1) rfl) ?_|refine qe (qf am1) ?_|refine bct (andt (qc (qd am1)) rfl) ?_|refine qe (qf (qd am1)) ?_);conv=>whnf)
    refine qj h (fun c6 g=>?_) (fun c6 g=>?_)
    ·replace h:=g
     clear g
     replace h:=qq h
     obtain ⟨c7,h⟩:=h
     conv=>whnf
     repeat((first|refine dw ?_|refine bct c6 ?_|refine bct (qc am1) ?_|refine bct (andt (qc am1) rfl) ?_|refine qe (qf am1) ?_|refine bct (andt (qc (qd am1)) rfl) ?_|refine qe (qf (qd am1)) ?_|refine bct (qx c7 rfl rfl rfl rfl) ?_|refine qg (qH (f:=srw) v5 x1e) ?_);conv=>whnf)
     exact ih1 _ v4 (v5++[x1e]) (wrL hs1 hl1 hi1) h
    ·replace h:=g
     clear g
     conv=>whnf
     repeat((first|refine dw ?_|refine bcf c6 ?_);conv=>whnf)
     exact ih1 _ v4 v5 (wrL hs1 hl1 hi1) h
  ·rw [qU] at h
   refine qa hX ?_
   conv=>whnf
   repeat((first|refine dw ?_|refine qg (qi _) ?_|refine bcf (qD hi1) ?_);conv=>whnf)
   refine qj h (fun c11 g=>?_) (fun c11 g=>?_)
   ·replace h:=g
    clear g
    replace h:=qq h
    obtain ⟨c12,h⟩:=h
    conv=>whnf
    repeat((first|refine dw ?_|refine bct c11 ?_|refine bct (qx c12 rfl rfl rfl rfl) ?_|refine qg (qH (f:=srw) v3 p1) ?_);conv=>whnf)
    exact K _ h
   ·replace h:=g
    clear g
    conv=>whnf
    repeat((first|refine dw ?_|refine bcf c11 ?_);conv=>whnf)
    exact K _ h
theorem qkZ  {p0:Know} {r:(List ByteArray)} (h:qdv p0=some r) (hQ:Q (.one (.p (.sl (r.map srw)))) []):X (.call 205 [.agg (Know.cs p0)] [] Q):=by
  unfold qdv at h
  refine qJ hX ?_
  conv=>whnf
  refine qb hX Tryz.func205 rfl rfl ?_
  revert h
  refine chkk fun hs1 h=>?_
  conv=>whnf
  repeat((first|refine dw ?_);conv=>whnf)
  refine qeP hX [1] ?_
  conv=>whnf
  refine qO (fun (v1:Int) (v2:List ByteArray)=>pad [(1,.one (.ptr 0 0)),(1,.one (.own 1)),(0,iv v1)] 31) (fun (v1:Int) (v2:List ByteArray)=>[.box (Know.cs p0),.rows 1 (v2.map srw)]) _ p0.l (fun pre1 x1e xs1 v1 v2 hl1 hi1 h ih1=>?_) (fun v1 v2 hi1 h=>?_) ([]:List ByteArray) h
  ·rw [qaX] at h
   have am1:=qB hl1 hi1
   refine qa hX ?_
   revert h
   refine chkk fun hs2 h=>?_
   conv=>whnf
   repeat((first|refine dw ?_|refine qg (qi _) ?_|refine bct (qC hl1 hi1) ?_);conv=>whnf)
   refine qO (fun (v3:Int) (v4:List ByteArray)=>pad [(1,.one (.ptr 0 0)),(1,.one (.own 1)),(0,iv v1),(0,iv v3)] 30) (fun (v3:Int) (v4:List ByteArray)=>[.box (Know.cs p0),.rows 1 (v4.map srw)]) _ x1e.ids (fun pre2 x2e xs2 v3 v4 hl2 hi2 h ih2=>?_) (fun v3 v4 hi2 h=>?_) v2 h
   ·rw [qaW] at h
    have am2:=qB hl2 hi2
    refine qa hX ?_
    revert h
    refine bndk fun y5 e6 h=>?_
    conv=>whnf
    repeat((first|refine dw ?_|refine bct (qc am1) ?_|refine bct (andt (qc am1) rfl) ?_|refine qe (qf am1) ?_|refine bct (andt (qc (qd am1)) rfl) ?_|refine qe (qf (qd am1)) ?_|refine qg (qi _) ?_|refine bct (qC hl2 hi2) ?_|refine bct (qc am2) ?_|refine bct (andt (qc am2) rfl) ?_|refine qe (qf am2) ?_|refine bct (andt (qc (qd am2)) rfl) ?_|refine qe (qf (qd am2)) ?_);conv=>whnf)
    refine Or.inl ?_
    conv=>whnf
    refine qjv hX e6 ?_
    conv=>whnf
    repeat((first|refine dw ?_);conv=>whnf)
    exact ih2 _ y5 (wrL hs2 hl2 hi2) h
   ·rw [qaW] at h
    refine qa hX ?_
    conv=>whnf
    repeat((first|refine dw ?_|refine bct (qc am1) ?_|refine bct (andt (qc am1) rfl) ?_|refine qe (qf am1) ?_|refine bct (andt (qc (qd am1)) rfl) ?_|refine qe (qf (qd am1)) ?_|refine qg (qi _) ?_|refine bcf (qD hi2) ?_);conv=>whnf)
    exact ih1 _ v4 (wrL hs1 hl1 hi1) h
  ·rw [qaX] at h
   refine qa hX ?_
   conv=>whnf
   repeat((first|refine dw ?_|refine qg (qi _) ?_|refine bcf (qD hi1) ?_);conv=>whnf)
   exact qm (f:=fun y=>.one (.p (.sl (y.map srw)))) (g:=fun y=>[]) h hQ
theorem qgA  {p0:Know} {p1:ByteArray} {r:V8} (h:qbQ p0 p1=some r) (hQ:Q (.agg (V8.cs r)) []):X (.call 206 [.agg (Know.cs p0),.one (.p (.v (.string p1)))] [] Q):=by
  unfold qbQ at h
  refine qb hX Tryz.func206 rfl rfl ?_
  replace h:=qq h
  obtain ⟨hs1,h⟩:=h
  conv=>whnf
  repeat((first|refine dw ?_);conv=>whnf)
  refine qqJ (fun (v1:Int) (v2:Int) (v3:Int) (v4:Int) (v5:Int) (v6:Int) (v7:Int) (v8:Int) (v9:Int)=>pad [(1,.one (.p (.v (.string p1)))),(0,.one (.ptr 0 0)),(1,.one (.ptr 1 0)),(0,.one (.ptr 2 0)),(0,iv v1)] 39) (fun (v1:Int) (v2:Int) (v3:Int) (v4:Int) (v5:Int) (v6:Int) (v7:Int) (v8:Int) (v9:Int)=>[.box (Know.cs p0),.box [ic 0,ic 0,ic 0,ic 0,ic 0,ic 0,ic 0,ic 0],.box [ic v2,ic v3,ic v4,ic v5,ic v6,ic v7,ic v8,ic v9]]) _ p0.l (fun pre1 x1e xs1 v1 v2 v3 v4 v5 v6 v7 v8 v9 hl1 hi1 h ih1=>?_) (fun v1 v2 v3 v4 v5 v6 v7 v8 v9 hi1 h=>?_) 0 0 0 0 0 0 0 0 h
  ·rw [qap] at h
   have am1:=qB hl1 hi1
   refine qa hX ?_
   replace h:=qo h
   obtain ⟨y10,e11,h⟩:=h
   conv=>whnf
   repeat((first|refine dw ?_|refine qg (qi _) ?_|refine bct (qC hl1 hi1) ?_|refine bct (qc am1) ?_|refine bct (andt (qc am1) rfl) ?_|refine qe (qf am1) ?_|refine bct (andt (qc (qd am1)) rfl) ?_|refine qe (qf (qd am1)) ?_);conv=>whnf)
   refine qg9 hX e11 ?_
   conv=>whnf
   repeat((first|refine dw ?_);conv=>whnf)
   refine qj h (fun c12 g=>?_) (fun c12 g=>?_)
   ·replace h:=g
    clear g
    replace h:=qo h
    obtain ⟨y13,e14,h⟩:=h
    conv=>whnf
    repeat((first|refine dw ?_|refine bct c12 ?_|refine bct (qc am1) ?_|refine bct (andt (qc am1) rfl) ?_|refine qe (qf am1) ?_|refine bct (andt (qc (qd am1)) rfl) ?_|refine qe (qf (qd am1)) ?_);conv=>whnf)
    refine qiO hX e14 ?_
    conv=>whnf
    repeat((first|refine dw ?_);conv=>whnf)
    exact ih1 _ y13.x0 y13.x1 y13.x2 y13.x3 y13.x4 y13.x5 y13.x6 y13.x7 (wrL hs1 hl1 hi1) h
   ·replace h:=g
    clear g
    conv=>whnf
    repeat((first|refine dw ?_|refine bcf c12 ?_);conv=>whnf)
    exact ih1 _ v2 v3 v4 v5 v6 v7 v8 v9 (wrL hs1 hl1 hi1) h
  ·rw [qap] at h
   refine qa hX ?_
   conv=>whnf
   repeat((first|refine dw ?_|refine qg (qi _) ?_|refine bcf (qD hi1) ?_);conv=>whnf)
   refine qa hX ?_
   apply qfd (X:=X) (r:=r) (fun (v15:Int)=>pad [(2,.one (.ptr 0 0)),(1,.one (.ptr 1 0)),(0,.one (.ptr 2 0)),(1,iv 0)] 38) (fun (v15:Int)=>[.box (Know.cs p0),.box [ic 0,ic 0,ic 0,ic 0,ic 0,ic 0,ic 0,ic 0],.box [ic v15,ic v3,ic v4,ic v5,ic v6,ic v7,ic v8,ic v9]])
   ·intro tl2
    conv=>whnf
    repeat((first|refine dw ?_);conv=>whnf)
    refine qj h (fun c30 g=>?_) (fun c30 g=>?_)
    ·replace h:=g
     clear g
     conv=>whnf
     repeat((first|refine dw ?_|refine bct c30 ?_);conv=>whnf)
     exact tl2.h 0 h
    ·replace h:=g
     clear g
     conv=>whnf
     repeat((first|refine dw ?_|refine bcf c30 ?_);conv=>whnf)
     exact tl2.h v2 h
   ·intro v15 h
    unfold qcd at h
    refine qt hX ?_
    conv=>whnf
    repeat((first|refine dw ?_);conv=>whnf)
    refine qa hX ?_
    apply qfd (X:=X) (r:=r) (fun (v16:Int)=>pad [(2,.one (.ptr 0 0)),(1,.one (.ptr 1 0)),(0,.one (.ptr 2 0)),(1,iv 1)] 38) (fun (v16:Int)=>[.box (Know.cs p0),.box [ic 0,ic 0,ic 0,ic 0,ic 0,ic 0,ic 0,ic 0],.box [ic v15,ic v16,ic v4,ic v5,ic v6,ic v7,ic v8,ic v9]])
    ·intro tl3
     conv=>whnf
     repeat((first|refine dw ?_);conv=>whnf)
     refine qj h (fun c29 g=>?_) (fun c29 g=>?_)
     ·replace h:=g
      clear g
      conv=>whnf
      repeat((first|refine dw ?_|refine bct c29 ?_);conv=>whnf)
      exact tl3.h 0 h
     ·replace h:=g
      clear g
      conv=>whnf
      repeat((first|refine dw ?_|refine bcf c29 ?_);conv=>whnf)
      exact tl3.h v3 h
    ·intro v16 h
     unfold qcc at h
     refine qt hX ?_
     conv=>whnf
     repeat((first|refine dw ?_);conv=>whnf)
     refine qa hX ?_
     apply qfd (X:=X) (r:=r) (fun (v17:Int)=>pad [(2,.one (.ptr 0 0)),(1,.one (.ptr 1 0)),(0,.one (.ptr 2 0)),(1,iv 2)] 38) (fun (v17:Int)=>[.box (Know.cs p0),.box [ic 0,ic 0,ic 0,ic 0,ic 0,ic 0,ic 0,ic 0],.box [ic v15,ic v16,ic v17,ic v5,ic v6,ic v7,ic v8,ic v9]])
     ·intro tl4
      conv=>whnf
      repeat((first|refine dw ?_);conv=>whnf)
      refine qj h (fun c28 g=>?_) (fun c28 g=>?_)
      ·replace h:=g
       clear g
       conv=>whnf
       repeat((first|refine dw ?_|refine bct c28 ?_);conv=>whnf)
       exact tl4.h 0 h
      ·replace h:=g
       clear g
       conv=>whnf
       repeat((first|refine dw ?_|refine bcf c28 ?_);conv=>whnf)
       exact tl4.h v4 h
     ·intro v17 h
      unfold qcb at h
      refine qt hX ?_
      conv=>whnf
      repeat((first|refine dw ?_);conv=>whnf)
      refine qa hX ?_
      apply qfd (X:=X) (r:=r) (fun (v18:Int)=>pad [(2,.one (.ptr 0 0)),(1,.one (.ptr 1 0)),(0,.one (.ptr 2 0)),(1,iv 3)] 38) (fun (v18:Int)=>[.box (Know.cs p0),.box [ic 0,ic 0,ic 0,ic 0,ic 0,ic 0,ic 0,ic 0],.box [ic v15,ic v16,ic v17,ic v18,ic v6,ic v7,ic v8,ic v9]])
      ·intro tl5
       conv=>whnf
       repeat((first|refine dw ?_);conv=>whnf)
       refine qj h (fun c27 g=>?_) (fun c27 g=>?_)
       ·replace h:=g
        clear g
        conv=>whnf
        repeat((first|refine dw ?_|refine bct c27 ?_);conv=>whnf)
        exact tl5.h 0 h
       ·replace h:=g
        clear g
        conv=>whnf
        repeat((first|refine dw ?_|refine bcf c27 ?_);conv=>whnf)
        exact tl5.h v5 h
      ·intro v18 h
       unfold qca at h
       refine qt hX ?_
       conv=>whnf
       repeat((first|refine dw ?_);conv=>whnf)
       refine qa hX ?_
       apply qfd (X:=X) (r:=r) (fun (v19:Int)=>pad [(2,.one (.ptr 0 0)),(1,.one (.ptr 1 0)),(0,.one (.ptr 2 0)),(1,iv 4)] 38) (fun (v19:Int)=>[.box (Know.cs p0),.box [ic 0,ic 0,ic 0,ic 0,ic 0,ic 0,ic 0,ic 0],.box [ic v15,ic v16,ic v17,ic v18,ic v19,ic v7,ic v8,ic v9]])
       ·intro tl6
        conv=>whnf
        repeat((first|refine dw ?_);conv=>whnf)
        refine qj h (fun c26 g=>?_) (fun c26 g=>?_)
        ·replace h:=g
         clear g
         conv=>whnf
         repeat((first|refine dw ?_|refine bct c26 ?_);conv=>whnf)
         exact tl6.h 0 h
        ·replace h:=g
         clear g
         conv=>whnf
         repeat((first|refine dw ?_|refine bcf c26 ?_);conv=>whnf)
         exact tl6.h v6 h
       ·intro v19 h
        unfold qb9 at h
        refine qt hX ?_
        conv=>whnf
        repeat((first|refine dw ?_);conv=>whnf)
        refine qa hX ?_
        apply qfd (X:=X) (r:=r) (fun (v20:Int)=>pad [(2,.one (.ptr 0 0)),(1,.one (.ptr 1 0)),(0,.one (.ptr 2 0)),(1,iv 5)] 38) (fun (v20:Int)=>[.box (Know.cs p0),.box [ic 0,ic 0,ic 0,ic 0,ic 0,ic 0,ic 0,ic 0],.box [ic v15,ic v16,ic v17,ic v18,ic v19,ic v20,ic v8,ic v9]])
        ·intro tl7
         conv=>whnf
         repeat((first|refine dw ?_);conv=>whnf)
         refine qj h (fun c25 g=>?_) (fun c25 g=>?_)
         ·replace h:=g
          clear g
          conv=>whnf
          repeat((first|refine dw ?_|refine bct c25 ?_);conv=>whnf)
          exact tl7.h 0 h
         ·replace h:=g
          clear g
          conv=>whnf
          repeat((first|refine dw ?_|refine bcf c25 ?_);conv=>whnf)
          exact tl7.h v7 h
        ·intro v20 h
         unfold qb8 at h
         refine qt hX ?_
         conv=>whnf
         repeat((first|refine dw ?_);conv=>whnf)
         refine qa hX ?_
         apply qfd (X:=X) (r:=r) (fun (v21:Int)=>pad [(2,.one (.ptr 0 0)),(1,.one (.ptr 1 0)),(0,.one (.ptr 2 0)),(1,iv 6)] 38) (fun (v21:Int)=>[.box (Know.cs p0),.box [ic 0,ic 0,ic 0,ic 0,ic 0,ic 0,ic 0,ic 0],.box [ic v15,ic v16,ic v17,ic v18,ic v19,ic v20,ic v21,ic v9]])
         ·intro tl8
          conv=>whnf
          repeat((first|refine dw ?_);conv=>whnf)
          refine qj h (fun c24 g=>?_) (fun c24 g=>?_)
          ·replace h:=g
           clear g
           conv=>whnf
           repeat((first|refine dw ?_|refine bct c24 ?_);conv=>whnf)
           exact tl8.h 0 h
          ·replace h:=g
           clear g
           conv=>whnf
           repeat((first|refine dw ?_|refine bcf c24 ?_);conv=>whnf)
           exact tl8.h v8 h
         ·intro v21 h
          unfold qb7 at h
          refine qt hX ?_
          conv=>whnf
          repeat((first|refine dw ?_);conv=>whnf)
          refine qa hX ?_
          apply qfd (X:=X) (r:=r) (fun (v22:Int)=>pad [(2,.one (.ptr 0 0)),(1,.one (.ptr 1 0)),(0,.one (.ptr 2 0)),(1,iv 7)] 38) (fun (v22:Int)=>[.box (Know.cs p0),.box [ic 0,ic 0,ic 0,ic 0,ic 0,ic 0,ic 0,ic 0],.box [ic v15,ic v16,ic v17,ic v18,ic v19,ic v20,ic v21,ic v22]])
          ·intro tl9
           conv=>whnf
           repeat((first|refine dw ?_);conv=>whnf)
           refine qj h (fun c23 g=>?_) (fun c23 g=>?_)
           ·replace h:=g
            clear g
            conv=>whnf
            repeat((first|refine dw ?_|refine bct c23 ?_);conv=>whnf)
            exact tl9.h 0 h
           ·replace h:=g
            clear g
            conv=>whnf
            repeat((first|refine dw ?_|refine bcf c23 ?_);conv=>whnf)
            exact tl9.h v9 h
          ·intro v22 h
           unfold qdw at h
           refine qt hX ?_
           conv=>whnf
           repeat((first|refine dw ?_);conv=>whnf)
           refine qa hX ?_
           conv=>whnf
           repeat((first|refine dw ?_);conv=>whnf)
           exact qm (f:=fun y=>.agg (V8.cs y)) (g:=fun y=>[]) h hQ
theorem qfB  {p0:Know} {r:Know} (h:qaM p0=some r) (hQ:Q (.agg (Know.cs r)) []):X (.call 153 [.agg (Know.cs p0)] [] Q):=by
  have K:=fun a (e:some a=some r)=>qm (f:=fun y=>.agg (Know.cs y)) (g:=fun y=>[]) e hQ
  unfold qaM at h
  refine qJ hX ?_
  conv=>whnf
  refine qb hX Tryz.func153 rfl rfl ?_
  replace h:=qo h
  obtain ⟨y1,e2,h⟩:=h
  conv=>whnf
  repeat((first|refine dw ?_);conv=>whnf)
  refine qkZ hX e2 ?_
  replace h:=qq h
  obtain ⟨hs1,h⟩:=h
  conv=>whnf
  repeat((first|refine dw ?_);conv=>whnf)
  refine qfL hX ?_
  conv=>whnf
  refine qal (fun (v5:Int)=>pad [(1,.one (.ptr 0 0)),(0,.one (.ptr 1 0)),(0,.one (.ptr 3 0)),(0,.one (.p (.sl (y1.map srw)))),(0,iv v5)] 69) (fun (v5:Int)=>[.box (Know.cs p0),.box [ic 0,ic 0,ic 0,ic 0,ic 0,ic 0,ic 0,ic 0,.own 2],.rows 0 [],.box [ic p0.star.x0,ic p0.star.x1,ic p0.star.x2,ic p0.star.x3,ic p0.star.x4,ic p0.star.x5,ic p0.star.x6,ic p0.star.x7,.own 4],.rows 0 []]) _ y1 (fun pre1 x1e xs1 v5  hl1 hi1 h ih1=>?_) (fun v5  hi1 h=>?_)  h
  ·rw [qaZ] at h
   have am1:=qB hl1 hi1
   refine qa hX ?_
   replace h:=qo h
   obtain ⟨y6,e7,h⟩:=h
   conv=>whnf
   repeat((first|refine dw ?_|refine qg (qi _) ?_|refine bct (qC hl1 hi1) ?_|refine bct (qc am1) ?_|refine bct (andt (qc am1) rfl) ?_|refine qe (qf am1) ?_|refine bct (andt (qc (qd am1)) rfl) ?_|refine qe (qf (qd am1)) ?_);conv=>whnf)
   refine qgA hX e7 ?_
   conv=>whnf
   repeat((first|refine dw ?_);conv=>whnf)
   refine qj h (fun c8 g=>?_) (fun c8 g=>?_)
   ·replace h:=g
    clear g
    conv=>whnf
    repeat((first|refine dw ?_|with_reducible refine bct (qcV c8) ?_|refine bct c8 ?_);conv=>whnf)
    exact ih1 _  (wrL hs1 hl1 hi1) h
   ·replace h:=g
    clear g
    conv=>whnf
    repeat((first|refine dw ?_|with_reducible refine bcf (qcV c8) ?_|refine bcf c8 ?_);conv=>whnf)
    refine qa hX ?_
    conv=>whnf
    repeat((first|refine dw ?_|refine qg (b:=0) rfl ?_);conv=>whnf)
    refine qt hX ?_
    replace h:=qq h
    obtain ⟨c10,h⟩:=h
    have hs2:=hs1
    conv=>whnf
    repeat((first|refine dw ?_|refine qg (b:=0) rfl ?_|refine Two.r ?_|refine bct (by rfl) ?_|refine bct (by decide) ?_|refine bct (qc am1) ?_|refine bct (andt (qc am1) rfl) ?_|refine qe (qf am1) ?_|refine bct (andt (qc (qd am1)) rfl) ?_|refine qe (qf (qd am1)) ?_|refine bct (qdX c10 rfl rfl rfl rfl) ?_|refine qg (qnL (f:=srw) x1e) ?_|refine qg (b:=([(Frag.mk [x1e] y6)].map Frag.row)) rfl ?_);conv=>whnf)
    refine qfL hX ?_
    conv=>whnf
    refine qqG (fun (v11:Int) (v12:List Frag)=>pad [(1,.one (.ptr 0 0)),(0,.one (.ptr 1 0)),(0,.one (.ptr 3 0)),(0,.one (.p (.sl (y1.map srw)))),(0,iv v11)] 69) (fun (v11:Int) (v12:List Frag)=>[.box (Know.cs p0),.box [ic 0,ic 0,ic 0,ic 0,ic 0,ic 0,ic 0,ic 0,.own 2],.rows 0 [],.box [ic p0.star.x0,ic p0.star.x1,ic p0.star.x2,ic p0.star.x3,ic p0.star.x4,ic p0.star.x5,ic p0.star.x6,ic p0.star.x7,.own 4],.nest 9 0 1 (v12.map Frag.row)]) _ y1 _ xs1 _ (qkN hl1) (qkO hs1 hl1 hi1) (fun pre2 x2e xs2 v11 v12 hl2 hi2 h ih2=>?_) (fun v11 v12 hi2 h=>?_) [(Frag.mk [x1e] y6)] h
    ·rw [qao] at h
     have am2:=qB hl2 hi2
     refine qa hX ?_
     replace h:=qo h
     obtain ⟨y13,e14,h⟩:=h
     conv=>whnf
     repeat((first|refine dw ?_|refine qg (qi _) ?_|refine bct (qC hl2 hi2) ?_|refine bct (qc am2) ?_|refine bct (andt (qc am2) rfl) ?_|refine qe (qf am2) ?_|refine bct (andt (qc (qd am2)) rfl) ?_|refine qe (qf (qd am2)) ?_);conv=>whnf)
     refine qgA hX e14 ?_
     conv=>whnf
     repeat((first|refine dw ?_);conv=>whnf)
     refine qj h (fun c15 g=>?_) (fun c15 g=>?_)
     ·replace h:=g
      clear g
      conv=>whnf
      repeat((first|refine dw ?_|with_reducible refine bct (qcV c15) ?_|refine bct c15 ?_);conv=>whnf)
      exact ih2 _ v12 (wrL hs2 hl2 hi2) h
     ·replace h:=g
      clear g
      apply qfd (X:=X) (r:=r) (fun (v16:Int)=>pad [(1,.one (.ptr 0 0)),(0,.one (.ptr 1 0)),(0,.one (.ptr 3 0)),(0,.one (.p (.sl (y1.map srw)))),(0,iv v11),(0,.one (.ptr 5 0)),(0,iv v16)] 67) (fun (v16:Int)=>[.box (Know.cs p0),.box [ic 0,ic 0,ic 0,ic 0,ic 0,ic 0,ic 0,ic 0,.own 2],.rows 0 [],.box [ic p0.star.x0,ic p0.star.x1,ic p0.star.x2,ic p0.star.x3,ic p0.star.x4,ic p0.star.x5,ic p0.star.x6,ic p0.star.x7,.own 4],.nest 9 0 1 (v12.map Frag.row),.box (V8.cs y13)])
      ·intro tl3
       replace h:=qq h
       obtain ⟨hs4,h⟩:=h
       conv=>whnf
       repeat((first|refine dw ?_|with_reducible refine bcf (qcV c15) ?_|refine bcf c15 ?_);conv=>whnf)
       refine qI (fun (v26:Int)=>pad [(1,.one (.ptr 0 0)),(0,.one (.ptr 1 0)),(0,.one (.ptr 3 0)),(0,.one (.p (.sl (y1.map srw)))),(0,iv v11),(0,.one (.ptr 5 0)),(0,iv v26)] 67) (fun (v26:Int)=>[.box (Know.cs p0),.box [ic 0,ic 0,ic 0,ic 0,ic 0,ic 0,ic 0,ic 0,.own 2],.rows 0 [],.box [ic p0.star.x0,ic p0.star.x1,ic p0.star.x2,ic p0.star.x3,ic p0.star.x4,ic p0.star.x5,ic p0.star.x6,ic p0.star.x7,.own 4],.nest 9 0 1 (v12.map Frag.row),.box (V8.cs y13)]) _ v12 (fun pre4 x4e xs4 v26  hl4 hi4 h ih4=>?_) (fun v26  hi4 h=>?_)  h
       ·rw [qaY] at h
        have am4:=qB hl4 hi4
        refine qa hX ?_
        conv=>whnf
        repeat((first|refine dw ?_|refine qg (qi _) ?_|refine bct (qC hl4 hi4) ?_|refine bct (qc am4) ?_|refine bct (andt (qc am4) rfl) ?_|refine qe (qf am4) ?_|refine bct (andt (qc (qd am4)) rfl) ?_|refine qe (qf (qd am4)) ?_|refine bct (and3 (qc (qd am4)) rfl rfl) ?_|refine bct (andt rfl rfl) ?_);conv=>whnf)
        refine qj h (fun c27 g=>?_) (fun c27 g=>?_)
        ·replace h:=g
         clear g
         conv=>whnf
         repeat((first|refine dw ?_|refine bct c27 ?_);conv=>whnf)
         exact ih4 _  (wrL hs4 hl4 hi4) h
        ·replace h:=g
         clear g
         conv=>whnf
         repeat((first|refine dw ?_|refine bcf c27 ?_);conv=>whnf)
         exact tl3.h v26 h
       ·rw [qaY] at h
        refine qa hX ?_
        conv=>whnf
        repeat((first|refine dw ?_|refine qg (qi _) ?_|refine bcf (qD hi4) ?_);conv=>whnf)
        exact tl3.h v26 h
      ·intro v16 h
       unfold qcX at h
       refine qt hX ?_
       conv=>whnf
       repeat((first|refine dw ?_|refine qg (qi _) ?_);conv=>whnf)
       refine qj h (fun c17 g=>?_) (fun c17 g=>?_)
       ·replace h:=g
        clear g
        replace h:=qq h
        obtain ⟨c19,h⟩:=h
        replace h:=qo h
        obtain ⟨x20,a21,h⟩:=h
        replace h:=qq h
        obtain ⟨c22,h⟩:=h
        conv=>whnf
        repeat((first|refine dw ?_|refine bct c17 ?_|refine Two.r ?_|refine bct (qfU c19 rfl rfl rfl) ?_|refine qg (qH (f:=Frag.row) v12 (Frag.mk ([]:List ByteArray) y13)) ?_|refine bct (qc a21) ?_|refine bct (andt (qc a21) rfl) ?_|refine qe (qf a21) ?_|refine bct (andt (qc (qd a21)) rfl) ?_|refine qe (qf (qd a21)) ?_|refine bct (and3 (qc (qd a21)) rfl rfl) ?_|refine bct (and3 (qc a21) rfl rfl) ?_|refine bct (qc am2) ?_|refine bct (andt (qc am2) rfl) ?_|refine qe (qf am2) ?_|refine bct (andt (qc (qd am2)) rfl) ?_|refine qe (qf (qd am2)) ?_|refine bct (qx c22 rfl rfl rfl rfl) ?_|refine qg (qH (f:=srw) x20.ids x2e) ?_|refine bct (and4 (qc (qd a21)) rfl rfl (qF _)) ?_|refine bct (and4 (qc a21) rfl rfl (qF _)) ?_|refine qg (qew (f:=Frag.row) (v12++[(Frag.mk ([]:List ByteArray) y13)]) v16.toNat (Frag.mk (x20.ids++[x2e]) x20.vec)) ?_);conv=>whnf)
        exact ih2 _ ((v12++[(Frag.mk ([]:List ByteArray) y13)]).set v16.toNat (Frag.mk (x20.ids++[x2e]) x20.vec)) (wrL hs2 hl2 hi2) h
       ·replace h:=g
        clear g
        replace h:=qo h
        obtain ⟨x23,a24,h⟩:=h
        replace h:=qq h
        obtain ⟨c25,h⟩:=h
        conv=>whnf
        repeat((first|refine dw ?_|refine bcf c17 ?_|refine bct (qc a24) ?_|refine bct (andt (qc a24) rfl) ?_|refine qe (qf a24) ?_|refine bct (andt (qc (qd a24)) rfl) ?_|refine qe (qf (qd a24)) ?_|refine bct (and3 (qc (qd a24)) rfl rfl) ?_|refine bct (and3 (qc a24) rfl rfl) ?_|refine bct (qc am2) ?_|refine bct (andt (qc am2) rfl) ?_|refine qe (qf am2) ?_|refine bct (andt (qc (qd am2)) rfl) ?_|refine qe (qf (qd am2)) ?_|refine bct (qx c25 rfl rfl rfl rfl) ?_|refine qg (qH (f:=srw) x23.ids x2e) ?_|refine bct (and4 (qc (qd a24)) rfl rfl (qF _)) ?_|refine bct (and4 (qc a24) rfl rfl (qF _)) ?_|refine qg (qew (f:=Frag.row) v12 v16.toNat (Frag.mk (x23.ids++[x2e]) x23.vec)) ?_);conv=>whnf)
        exact ih2 _ (v12.set v16.toNat (Frag.mk (x23.ids++[x2e]) x23.vec)) (wrL hs2 hl2 hi2) h
    ·rw [qao] at h
     refine qa hX ?_
     conv=>whnf
     repeat((first|refine dw ?_|refine qg (qi _) ?_|refine bcf (qD hi2) ?_);conv=>whnf)
     exact K _ h
  ·rw [qaZ] at h
   refine qa hX ?_
   conv=>whnf
   repeat((first|refine dw ?_|refine qg (qi _) ?_|refine bcf (qD hi1) ?_);conv=>whnf)
   exact K _ h
theorem qem  {p0:Know} {p1:Know} {r:Bool} (h:qaN p0 p1=some r) (hQ:Q (.one (.p (.v (.bool r)))) []):X (.call 103 [.agg (Know.cs p0),.agg (Know.cs p1)] [] Q):=by
  have K:=fun a (e:some a=some r)=>qm (f:=fun y=>.one (.p (.v (.bool y)))) (g:=fun y=>[]) e hQ
  unfold qaN at h
  refine qb hX Tryz.func103 rfl rfl ?_
  conv=>whnf
  repeat((first|refine dw ?_);conv=>whnf)
  revert h
  refine brk (fun c1 h=>?_) (fun c1 h=>?_)
  ·conv=>whnf
   repeat((first|refine dw ?_|refine bct c1 ?_);conv=>whnf)
   exact K _ h
  ·conv=>whnf
   repeat((first|refine dw ?_|refine bcf c1 ?_|refine qg (qi _) ?_);conv=>whnf)
   revert h
   refine brk (fun c2 h=>?_) (fun c2 h=>?_)
   ·conv=>whnf
    repeat((first|refine dw ?_|refine bct c2 ?_);conv=>whnf)
    exact K _ h
   ·revert h
    refine chkk fun hs1 h=>?_
    conv=>whnf
    repeat((first|refine dw ?_|refine bcf c2 ?_);conv=>whnf)
    refine qI (fun (v3:Int)=>pad [(2,.one (.ptr 0 0)),(0,.one (.ptr 1 0)),(1,iv v3)] 82) (fun (v3:Int)=>[.box (Know.cs p0),.box (Know.cs p1)]) _ p0.l (fun pre1 x1e xs1 v3  hl1 hi1 h ih1=>?_) (fun v3  hi1 h=>?_)  h
    ·rw [qaE] at h
     have am1:=qB hl1 hi1
     refine qa hX ?_
     revert h
     refine bndk fun x4 a5 h=>?_
     conv=>whnf
     repeat((first|refine dw ?_|refine qg (qi _) ?_|refine bct (qC hl1 hi1) ?_|refine bct (qc am1) ?_|refine bct (andt (qc am1) rfl) ?_|refine qe (qf am1) ?_|refine bct (andt (qc (qd am1)) rfl) ?_|refine qe (qf (qd am1)) ?_|refine bct (qc a5) ?_|refine bct (andt (qc a5) rfl) ?_|refine qe (qf a5) ?_|refine bct (andt (qc (qd a5)) rfl) ?_|refine qe (qf (qd a5)) ?_);conv=>whnf)
     revert h
     refine brk (fun c6 h=>?_) (fun c6 h=>?_)
     ·conv=>whnf
      repeat((first|refine dw ?_|refine bct c6 ?_);conv=>whnf)
      exact K _ h
     ·conv=>whnf
      repeat((first|refine dw ?_|refine bcf c6 ?_|refine bct (qc am1) ?_|refine bct (andt (qc am1) rfl) ?_|refine qe (qf am1) ?_|refine bct (andt (qc (qd am1)) rfl) ?_|refine qe (qf (qd am1)) ?_|refine qg (qi _) ?_|refine bct (qc a5) ?_|refine bct (andt (qc a5) rfl) ?_|refine qe (qf a5) ?_|refine bct (andt (qc (qd a5)) rfl) ?_|refine qe (qf (qd a5)) ?_);conv=>whnf)
      revert h
      refine brk (fun c7 h=>?_) (fun c7 h=>?_)
      ·conv=>whnf
       repeat((first|refine dw ?_|refine bct c7 ?_);conv=>whnf)
       exact K _ h
      ·revert h
       refine chkk fun hs2 h=>?_
       conv=>whnf
       repeat((first|refine dw ?_|refine bcf c7 ?_);conv=>whnf)
       refine qI (fun (v8:Int)=>pad [(2,.one (.ptr 0 0)),(0,.one (.ptr 1 0)),(1,iv v3),(0,iv v8)] 81) (fun (v8:Int)=>[.box (Know.cs p0),.box (Know.cs p1)]) _ x1e.ids (fun pre2 x2e xs2 v8  hl2 hi2 h ih2=>?_) (fun v8  hi2 h=>?_)  h
       ·rw [qa0] at h
        have am2:=qB hl2 hi2
        refine qa hX ?_
        revert h
        refine bndk fun x9 a10 h=>?_
        conv=>whnf
        repeat((first|refine dw ?_|refine bct (qc am1) ?_|refine bct (andt (qc am1) rfl) ?_|refine qe (qf am1) ?_|refine bct (andt (qc (qd am1)) rfl) ?_|refine qe (qf (qd am1)) ?_|refine qg (qi _) ?_|refine bct (qC hl2 hi2) ?_|refine bct (qc am2) ?_|refine bct (andt (qc am2) rfl) ?_|refine qe (qf am2) ?_|refine bct (andt (qc (qd am2)) rfl) ?_|refine qe (qf (qd am2)) ?_|refine bct (qc a5) ?_|refine bct (andt (qc a5) rfl) ?_|refine qe (qf a5) ?_|refine bct (andt (qc (qd a5)) rfl) ?_|refine qe (qf (qd a5)) ?_|refine bct (qc a10) ?_|refine bct (andt (qc a10) rfl) ?_|refine qe (qf a10) ?_|refine bct (andt (qc (qd a10)) rfl) ?_|refine qe (qf (qd a10)) ?_);conv=>whnf)
        revert h
        refine brk (fun c11 h=>?_) (fun c11 h=>?_)
        ·conv=>whnf
         repeat((first|refine dw ?_|refine bct c11 ?_);conv=>whnf)
         exact K _ h
        ·conv=>whnf
         repeat((first|refine dw ?_|refine bcf c11 ?_);conv=>whnf)
         exact ih2 _  (wrL hs2 hl2 hi2) h
       ·rw [qa0] at h
        refine qa hX ?_
        conv=>whnf
        repeat((first|refine dw ?_|refine bct (qc am1) ?_|refine bct (andt (qc am1) rfl) ?_|refine qe (qf am1) ?_|refine bct (andt (qc (qd am1)) rfl) ?_|refine qe (qf (qd am1)) ?_|refine qg (qi _) ?_|refine bcf (qD hi2) ?_);conv=>whnf)
        exact ih1 _  (wrL hs1 hl1 hi1) h
    ·rw [qaE] at h
     refine qa hX ?_
     conv=>whnf
     repeat((first|refine dw ?_|refine qg (qi _) ?_|refine bcf (qD hi1) ?_);conv=>whnf)
     exact K _ h
theorem qgM  {p0:Know} {r:Bool} (h:qda p0=some r) (hQ:Q (.one (.p (.v (.bool r)))) []):X (.call 77 [.agg (Know.cs p0)] [] Q):=by
  have K:=fun a (e:some a=some r)=>qm (f:=fun y=>.one (.p (.v (.bool y)))) (g:=fun y=>[]) e hQ
  unfold qda at h
  refine qb hX Tryz.func77 rfl rfl ?_
  revert h
  refine bndk fun y1 e2 h=>?_
  conv=>whnf
  repeat((first|refine dw ?_);conv=>whnf)
  refine qfB hX e2 ?_
  revert h
  refine bndk fun y3 e4 h=>?_
  conv=>whnf
  repeat((first|refine dw ?_);conv=>whnf)
  refine qem hX e4 ?_
  revert h
  refine bndk fun y5 e6 h=>?_
  conv=>whnf
  repeat((first|refine dw ?_);conv=>whnf)
  refine qgy hX e6 ?_
  conv=>whnf
  repeat((first|refine dw ?_);conv=>whnf)
  revert h
  refine brk (fun c7 h=>?_) (fun c7 h=>?_)
  ·conv=>whnf
   repeat((first|refine dw ?_|refine bct c7 ?_);conv=>whnf)
   exact K _ h
  ·conv=>whnf
   repeat((first|refine dw ?_|refine bcf c7 ?_);conv=>whnf)
   revert h
   refine brk (fun c8 h=>?_) (fun c8 h=>?_)
   ·conv=>whnf
    repeat((first|refine dw ?_|refine bct c8 ?_);conv=>whnf)
    exact K _ h
   ·revert h
    refine chkk fun hs1 h=>?_
    conv=>whnf
    repeat((first|refine dw ?_|refine bcf c8 ?_);conv=>whnf)
    refine qal (fun (v9:Int)=>pad [(1,.one (.ptr 0 0)),(3,iv v9)] 55) (fun (v9:Int)=>[.box (Know.cs p0)]) _ p0.l (fun pre1 x1e xs1 v9  hl1 hi1 h ih1=>?_) (fun v9  hi1 h=>?_)  h
    ·rw [qcf] at h
     have am1:=qB hl1 hi1
     refine qa hX ?_
     revert h
     refine bndk fun y10 e11 h=>?_
     conv=>whnf
     repeat((first|refine dw ?_|refine qg (qi _) ?_|refine bct (qC hl1 hi1) ?_|refine bct (qc am1) ?_|refine bct (andt (qc am1) rfl) ?_|refine qe (qf am1) ?_|refine bct (andt (qc (qd am1)) rfl) ?_|refine qe (qf (qd am1)) ?_);conv=>whnf)
     refine qgy hX e11 ?_
     conv=>whnf
     repeat((first|refine dw ?_);conv=>whnf)
     revert h
     refine brk (fun c12 h=>?_) (fun c12 h=>?_)
     ·conv=>whnf
      repeat((first|refine dw ?_|refine bct c12 ?_);conv=>whnf)
      exact K _ h
     ·revert h
      refine chkk fun hs2 h=>?_
      conv=>whnf
      repeat((first|refine dw ?_|refine bcf c12 ?_);conv=>whnf)
      refine qal (fun (v13:Int)=>pad [(1,.one (.ptr 0 0)),(3,iv v9),(1,iv v13)] 53) (fun (v13:Int)=>[.box (Know.cs p0)]) _ x1e.ids (fun pre2 x2e xs2 v13  hl2 hi2 h ih2=>?_) (fun v13  hi2 h=>?_)  h
      ·rw [qce] at h
       have am2:=qB hl2 hi2
       refine qa hX ?_
       revert h
       refine bndk fun y14 e15 h=>?_
       conv=>whnf
       repeat((first|refine dw ?_|refine bct (qc am1) ?_|refine bct (andt (qc am1) rfl) ?_|refine qe (qf am1) ?_|refine bct (andt (qc (qd am1)) rfl) ?_|refine qe (qf (qd am1)) ?_|refine qg (qi _) ?_|refine bct (qC hl2 hi2) ?_|refine bct (qc am2) ?_|refine bct (andt (qc am2) rfl) ?_|refine qe (qf am2) ?_|refine bct (andt (qc (qd am2)) rfl) ?_|refine qe (qf (qd am2)) ?_);conv=>whnf)
       refine qhJ hX e15 ?_
       conv=>whnf
       repeat((first|refine dw ?_);conv=>whnf)
       revert h
       refine brk (fun c16 h=>?_) (fun c16 h=>?_)
       ·conv=>whnf
        repeat((first|refine dw ?_|refine bct c16 ?_);conv=>whnf)
        exact K _ h
       ·conv=>whnf
        repeat((first|refine dw ?_|refine bcf c16 ?_);conv=>whnf)
        exact ih2 _  (wrL hs2 hl2 hi2) h
      ·rw [qce] at h
       refine qa hX ?_
       conv=>whnf
       repeat((first|refine dw ?_|refine bct (qc am1) ?_|refine bct (andt (qc am1) rfl) ?_|refine qe (qf am1) ?_|refine bct (andt (qc (qd am1)) rfl) ?_|refine qe (qf (qd am1)) ?_|refine qg (qi _) ?_|refine bcf (qD hi2) ?_);conv=>whnf)
       exact ih1 _  (wrL hs1 hl1 hi1) h
    ·rw [qcf] at h
     refine qa hX ?_
     conv=>whnf
     repeat((first|refine dw ?_|refine qg (qi _) ?_|refine bcf (qD hi1) ?_);conv=>whnf)
     exact K _ h
theorem qk0  {p0:List Item} {r:Bool} (h:qdx p0=some r) (hQ:Q (.one (.p (.v (.bool r)))) []):X (.call 156 [.one (.p (.sl (p0.map Item.row)))] [] Q):=by
  have K:=fun a (e:some a=some r)=>qm (f:=fun y=>.one (.p (.v (.bool y)))) (g:=fun y=>[]) e hQ
  unfold qdx at h
  refine qb hX Tryz.func156 rfl rfl ?_
  conv=>whnf
  repeat((first|refine dw ?_);conv=>whnf)
  refine qhr (fun (v1:Int)=>pad [(0,.one (.p (.sl (p0.map Item.row)))),(2,iv v1)] 18) (fun (v1:Int)=>[]) _ (fun _ h=>?_) (fun fl1 v1 h ih1=>?_) qdC 1 h
  ·rw [qa1] at h
   cases h
  ·rw [qa1] at h
   refine qa hX ?_
   conv=>whnf
   repeat((first|refine dw ?_|refine qg (qi _) ?_);conv=>whnf)
   revert h
   refine brk (fun c2 h=>?_) (fun c2 h=>?_)
   ·revert h
    refine bndk fun x3 a4 h=>?_
    revert h
    refine bndk fun x5 a6 h=>?_
    conv=>whnf
    repeat((first|refine dw ?_|refine bct c2 ?_|refine bct (qc a4) ?_|refine bct (andt (qc a4) rfl) ?_|refine qe (qf a4) ?_|refine bct (andt (qc (qd a4)) rfl) ?_|refine qe (qf (qd a4)) ?_|refine bct (qc a6) ?_|refine bct (andt (qc a6) rfl) ?_|refine qe (qf a6) ?_|refine bct (andt (qc (qd a6)) rfl) ?_|refine qe (qf (qd a6)) ?_);conv=>whnf)
    revert h
    refine brk (fun c7 h=>?_) (fun c7 h=>?_)
    ·conv=>whnf
     repeat((first|refine dw ?_|refine bct c7 ?_);conv=>whnf)
     exact K _ h
    ·conv=>whnf
     repeat((first|refine dw ?_|refine bcf c7 ?_);conv=>whnf)
     exact ih1 (wr .i64 (v1 + 1)) h
   ·conv=>whnf
    repeat((first|refine dw ?_|refine bcf c2 ?_);conv=>whnf)
    exact K _ h
theorem qeA  {p0:List Item} {p1:ByteArray} {r:Item × Bool} (h:qbq p0 p1=some r) (hQ:Q (.tup [.agg (Item.cs r.1),.one (.p (.v (.bool r.2)))]) []):X (.call 49 [.one (.p (.sl (p0.map Item.row))),.one (.p (.v (.string p1)))] [] Q):=by
  have K:=fun a (e:some a=some r)=>qm (f:=fun y=>.tup [.agg (Item.cs y.1),.one (.p (.v (.bool y.2)))]) (g:=fun y=>[]) e hQ
  unfold qbq at h
  refine qb hX Tryz.func49 rfl rfl ?_
  revert h
  refine chkk fun hs1 h=>?_
  conv=>whnf
  repeat((first|refine dw ?_);conv=>whnf)
  refine qal (fun (v1:Int)=>pad [(0,.one (.p (.sl (p0.map Item.row)))),(0,.one (.p (.v (.string p1)))),(2,.one (.ptr 0 0)),(1,iv v1)] 18) (fun (v1:Int)=>[.box [.p (.v (.string ⟨#[]⟩)),ic 0,ic 0,ic 0,.p (.v (.string ⟨#[]⟩)),ic 0,.p (.v (.complex .f64 0 0)),.p (.v (.bool false))]]) _ p0 (fun pre1 x1e xs1 v1  hl1 hi1 h ih1=>?_) (fun v1  hi1 h=>?_)  h
  ·rw [qcg] at h
   have am1:=qB hl1 hi1
   refine qa hX ?_
   conv=>whnf
   repeat((first|refine dw ?_|refine qg (qi _) ?_|refine bct (qC hl1 hi1) ?_|refine bct (qc am1) ?_|refine bct (andt (qc am1) rfl) ?_|refine qe (qf am1) ?_|refine bct (andt (qc (qd am1)) rfl) ?_|refine qe (qf (qd am1)) ?_);conv=>whnf)
   revert h
   refine brk (fun c2 h=>?_) (fun c2 h=>?_)
   ·conv=>whnf
    repeat((first|refine dw ?_|refine bct c2 ?_|refine bct (qc am1) ?_|refine bct (andt (qc am1) rfl) ?_|refine qe (qf am1) ?_|refine bct (andt (qc (qd am1)) rfl) ?_|refine qe (qf (qd am1)) ?_);conv=>whnf)
    exact K _ h
   ·conv=>whnf
    repeat((first|refine dw ?_|refine bcf c2 ?_);conv=>whnf)
    exact ih1 _  (wrL hs1 hl1 hi1) h
  ·rw [qcg] at h
   refine qa hX ?_
   conv=>whnf
   repeat((first|refine dw ?_|refine qg (qi _) ?_|refine bcf (qD hi1) ?_);conv=>whnf)
   exact K _ h
theorem qfY  {p0:List Item} {r:Bool} (h:qbc p0=some r) (hQ:Q (.one (.p (.v (.bool r)))) []):X (.call 81 [.one (.p (.sl (p0.map Item.row)))] [] Q):=by
  have K:=fun a (e:some a=some r)=>qm (f:=fun y=>.one (.p (.v (.bool y)))) (g:=fun y=>[]) e hQ
  unfold qbc at h
  refine qb hX Tryz.func81 rfl rfl ?_
  revert h
  refine chkk fun hs1 h=>?_
  conv=>whnf
  repeat((first|refine dw ?_);conv=>whnf)
  refine qal (fun (v1:Int)=>pad [(0,.one (.p (.sl (p0.map Item.row)))),(2,iv v1)] 16) (fun (v1:Int)=>[]) _ p0 (fun pre1 x1e xs1 v1  hl1 hi1 h ih1=>?_) (fun v1  hi1 h=>?_)  h
  ·rw [qaw] at h
   have am1:=qB hl1 hi1
   refine qa hX ?_
   revert h
   refine bndk fun y2 e3 h=>?_
   conv=>whnf
   repeat((first|refine dw ?_|refine qg (qi _) ?_|refine bct (qC hl1 hi1) ?_|refine bct (qc am1) ?_|refine bct (andt (qc am1) rfl) ?_|refine qe (qf am1) ?_|refine bct (andt (qc (qd am1)) rfl) ?_|refine qe (qf (qd am1)) ?_);conv=>whnf)
   refine qiR hX e3 ?_
   conv=>whnf
   repeat((first|refine dw ?_);conv=>whnf)
   revert h
   refine brk (fun c4 h=>?_) (fun c4 h=>?_)
   ·conv=>whnf
    repeat((first|refine dw ?_|refine bct c4 ?_);conv=>whnf)
    exact K _ h
   ·conv=>whnf
    repeat((first|refine dw ?_|refine bcf c4 ?_);conv=>whnf)
    exact ih1 _  (wrL hs1 hl1 hi1) h
  ·rw [qaw] at h
   refine qa hX ?_
   revert h
   refine bndk fun y5 e6 h=>?_
   conv=>whnf
   repeat((first|refine dw ?_|refine qg (qi _) ?_|refine bcf (qD hi1) ?_);conv=>whnf)
   refine qk0 hX e6 ?_
   conv=>whnf
   repeat((first|refine dw ?_);conv=>whnf)
   exact K _ h
end
end Go.Proofs.YtidkmoohgadjkaaGreat
namespace Go.Proofs.YtidkmoohgadjkaaGreat
open Go E Go.Lib Go.RowKit
theorem qeU {P:Program} (w:World) (dT sT ty elem:TypeId) {k:Nat} (g o dLen dCap:Nat) (a:Addr) (sLen sCap n:Nat) (cs:List Value) (cur:Array Value) (e:TypeId)
  (hu:P.underlying dT=some (.slice elem)) (hs:∀ w,(Go.sizeOf elem).run P w=.ok k w) (hmin:Nat.min sLen dLen=n) (hn:cs.length=n * k)
  (hsrc:∀ j v,cs[j]?=some v→w.cell? (a.add j)=some v) (hh:w.heap[g]?=some (.cells cur e (0,0))) (hle:o + cs.length≤cur.size) (h1:∀ v∈cs,v.oneCell'=true) :
  (Builtin.copy_ #[dT,sT] ty #[.slice (some ⟨g,o,none⟩) dLen dCap,.slice (some a) sLen sCap]).run P w=.ok (goInt n) (w.setRow g (cur.toList.take o++cs++cur.toList.drop (o + cs.length)).toArray):=by
 have hl:=run_loadCells_list (P:=P) w a cs hsrc
 have hst:=run_storeCells_at P g o e cs 0 cur w hh (by simpa using hle) h1
 simp only [Nat.add_zero] at hst
 simp [Builtin.copy_,run_underlying hu,Builtin.lenOf,Builtin.firstCells,hs,hmin,←hn,hl,hst]
theorem qff (w:World) {P:Program} {ops:Array Oper} {rest:List Oper} {o:Oper} {a:Act} {Q:Exit→Act→World→Prop} (hgd:o.guard=none) (d s:Operand) (t t':TypeId)
  (ho:o.op=.call { callee:=.builtin .copy,args := #[d,s],argTypes := #[t,t'] }) (v u:Value) (hd:a.eval d=v) (hs:a.eval s=u) {v':Value} {w':World}
  (hr:(Builtin.copy_ #[t,t'] o.type #[v,u]).run P w=.ok v' w') (h:wpList P ops Q rest (a.put o.dst v') w'):wpList P ops Q (o::rest) a w:=by
 refine wpList_plain hgd fun _ hK=>?_
 have hK:=hK _ _ h
 unfold Oper.wp execOp
 simp only [ho,resolve,invoke,builtin,Sem.run_bind,Sem.run_pure,Result.andThen_ok,List.map_toArray,List.map_cons,List.map_nil,hd,hs,hr]
 exact hK
theorem qfZ:∀ w,(Go.sizeOf 68).run Tryz.prog w=.ok 8 w:=((T_ok 68).known (of_decide_eq_true (by kernel_rfl))).size
set_option maxHeartbeats 4000000 in
set_option maxRecDepth 100000 in
theorem qsP (g n c i vb vc:Nat) (cur new:Array Value) (e e2:TypeId) (w:World) (hi:i < n) (hroom:n + 1≤c) (hc63:c≤9223372036854775807) (hvb:vb≠g)
  (hg:w.heap[g]?=some (.cells cur e (0,0))) (hv:w.heap[vb]?=some (.cells new e2 (0,0))) (hcs:cur.size=c * 8) (hnew:8≤new.size)
  (h1:∀ v∈cur.toList.take (n * 8),v.oneCell'=true) (h2:∀ v∈new.toList.take 8,v.oneCell'=true) :
  Calls Tryz.prog 172 #[.slice (some ⟨g,0,none⟩) n c,.int .i64 i,.slice (some ⟨vb,0,none⟩) 1 vc] w fun x w'=>x=.returned (.slice (some ⟨g,0,none⟩) (n + 1) c) ∧
   ∃ w1:World,w1.heap=w.heap∧w1.os=w.os∧w1.tape=w.tape∧w1.output=w.output∧w'=(w1.setRow g (cur.toList.take ((i + 1) * 8)++(cur.toList.take (n * 8)).drop (i * 8)++cur.toList.drop ((n + 1) * 8)).toArray).setRow g
    (cur.toList.take (i * 8)++new.toList.take 8++((cur.toList.take (n * 8)).drop (i * 8)++cur.toList.drop ((n + 1) * 8))).toArray:=by
 have hw1:IntKind.i64.wrap ((i:Int) + (1:Int))=(i:Int) + (1:Int):=by rw [IntKind.wrap_i64]; omega
 have hz2:¬ ((i:Int)=(n:Int)):=by omega
 have hb1:(0:Int)≤(i:Int) + (1:Int):=by omega
 have hin:i≤n:=by omega
 have htn:((i:Int) + (1:Int)).toNat=i + 1:=by omega
 have hb2:¬ (c=i + 1):=by omega
 have hb3:(i:Int)≤(n:Int) + (1:Int):=by omega
 have hb4:¬ (c=i):=by omega
 go_enter Tryz.func172,Tryz.ntmps172
 have hov:∀ (ad:Addr) lb cb,ad.block=g→(callFunc 215 #[.slice (some ⟨vb,0,none⟩) 1 vc,.slice (some ad) lb cb]).run Tryz.prog w=.ok (.value (.bool false)) w:=fun ad lb cb had=>by
  rw [run_callFunc_extern Tryz.func215 (by kernel_rfl) (by kernel_rfl) (by kernel_rfl) (e:=Extern.SlicesOverlaps.overlaps #[50,50] #[4]) (by kernel_rfl),
   Lib.run_overlaps_apart w 50 4 68 Tryz.underlying50 8 qfZ ⟨vb,0,none⟩ ad 1 vc lb cb (by rw [had]; exact hvb) e2 e new.size cur.size (by simp [World.shape?,hv]) (by simp [World.shape?,had,hg]) (by rw [hcs]; omega) (by simp [World.frozen?,hv]) (by simp [World.frozen?,hv])]
  rfl
 have hd2:(((cur.toList.take (n * 8)).drop (i * 8)).length)=(n - i) * 8:=by rw [List.length_drop,List.length_take,Array.length_toList,Nat.sub_mul]; omega
 have hcp1:∀ (W:World) ty dc sc,W.heap=w.heap→(Builtin.copy_ #[50,50] ty #[.slice (some ⟨g,(i + 1) * 8,none⟩) (n - i) dc,.slice (some ⟨g,i * 8,none⟩) (n + 1 - i) sc]).run Tryz.prog W=.ok (goInt (n - i:Nat)) (W.setRow g (cur.toList.take ((i + 1) * 8)++(cur.toList.take (n * 8)).drop (i * 8)++cur.toList.drop ((n + 1) * 8)).toArray):=fun W ty dc sc hW=>by
  have:=qeU (P:=Tryz.prog) (ty:=ty) W 50 50 68 g ((i + 1) * 8) (n - i) dc ⟨g,i * 8,none⟩ (n + 1 - i) sc (n - i) ((cur.toList.take (n * 8)).drop (i * 8)) cur e Tryz.underlying50 qfZ (by simp only [Nat.min_def]; split<;>omega) hd2 (fun j v hj=>by
    rw [qN,World.cell?,hW,hg]
    rw [List.getElem?_drop,List.getElem?_take] at hj
    split at hj
    ·simpa using hj
    ·cases hj) (by rw [hW]; exact hg) (by rw [hd2,hcs,←Nat.add_mul]; exact Nat.mul_le_mul_right _ (by omega)) (fun v hv=>h1 v (List.mem_of_mem_drop hv))
  rw [this]
  congr 4
  rw [hd2,←Nat.add_mul]
  congr 2
  omega
 obtain ⟨R1,hR1⟩:∃ R1,R1=(cur.toList.take ((i + 1) * 8)++(cur.toList.take (n * 8)).drop (i * 8)++cur.toList.drop ((n + 1) * 8)).toArray:=⟨_,rfl⟩
 obtain ⟨R2,hR2⟩:∃ R2,R2=(cur.toList.take (i * 8)++new.toList.take 8++((cur.toList.take (n * 8)).drop (i * 8)++cur.toList.drop ((n + 1) * 8))).toArray:=⟨_,rfl⟩
 have hcp2:∀ (W:World) ty dc sc,W.heap=(w.setRow g R1).heap→(Builtin.copy_ #[50,50] ty #[.slice (some ⟨g,i * 8,none⟩) (n + 1 - i) dc,.slice (some ⟨vb,0,none⟩) 1 sc]).run Tryz.prog W=.ok (goInt (1:Nat)) (W.setRow g R2):=fun W ty dc sc hW=>by
  have hsz:R1.size=cur.size:=by
   rw [hR1,List.size_toArray,List.length_append,List.length_append,hd2,List.length_take,List.length_drop,Array.length_toList,hcs,Nat.sub_mul,Nat.add_mul,Nat.add_mul]
   have:=Nat.mul_le_mul_right 8 hroom
   have:=Nat.mul_le_mul_right 8 hin
   omega
  have:=qeU (P:=Tryz.prog) (ty:=ty) W 50 50 68 g (i * 8) (n + 1 - i) dc ⟨vb,0,none⟩ 1 sc 1 (new.toList.take 8) R1 e Tryz.underlying50 qfZ (by simp only [Nat.min_def]; split<;>omega) (by rw [List.length_take,Array.length_toList]; omega) (fun j v hj=>by
    rw [qN,World.cell?,hW,setRow_other w g vb _ hvb,hv]
    rw [List.getElem?_take] at hj
    split at hj
    ·simpa using hj
    ·cases hj) (by rw [hW]; exact setRow_heap w g _ _ _ _ hg) (by rw [List.length_take,Array.length_toList,hsz,hcs]; have:=Nat.mul_le_mul_right 8 hroom; omega) h2
  rw [this]
  congr 2
  rw [hR2,hR1]
  congr 1
  have hl8:(List.take 8 new.toList).length=8:=by rw [List.length_take,Array.length_toList]; omega
  have hlt:(List.take ((i + 1) * 8) cur.toList).length=(i + 1) * 8:=by rw [List.length_take,Array.length_toList]; omega
  rw [hl8,List.append_assoc,List.append_assoc,List.take_append_of_le_length (by rw [hlt]; omega),List.take_take,Nat.min_eq_left (by omega),show i * 8 + 8=(i + 1) * 8 by omega,List.drop_append_of_le_length (by rw [hlt]; omega),List.drop_of_length_le (by rw [hlt]; omega),List.nil_append,List.append_assoc]
 rw [←hR1] at hcp1
 rw [←hR1,←hR2]
 have hcpD:=fun ty dc sc=>hcp1 w.drew ty dc sc rfl
 have hcpE:=fun ty dc sc=>hcp2 (w.drew.setRow g R1) ty dc sc rfl
 have hcpF:=fun ty dc sc=>hcp2 (w.drew.setRow g R1).drew ty dc sc rfl
 clear hd2 hR1 hR2 hcp1 hcp2
 go_wp2
 go_region
 go_wp2
 go_ret
 exact ⟨rfl,w.drew,rfl,rfl,rfl,rfl,rfl⟩
theorem qvv {α:Type} {A V Z D Y:List α} {a v d:Nat} (ha:A.length=a) (hv:V.length=v) (hZ:v + d=Z.length) (hd:D.length=d) :
  (A++Z++Y).take a++V++(A++Z++Y).drop (a + v)=A++V++Z.drop v++Y∧(A++V++Z.drop v++Y).take (a + v)++D++(A++V++Z.drop v++Y).drop (a + v + d)=A++V++D++Y:=by
 subst ha; subst hv; subst hd
 constructor
 ·have h:A++Z++Y=A++(Z++Y):=by simp
  rw [h,List.take_left,←List.drop_drop,List.drop_left,List.drop_append_of_le_length (by omega)]
  simp
 ·have h:A++V++Z.drop V.length++Y=(A++V)++(Z.drop V.length++Y):=by simp
  have hl:A.length + V.length=(A++V).length:=by simp
  have hz:(Z.drop V.length).length=D.length:=by rw [List.length_drop]; omega
  rw [h,hl,List.take_left,←List.drop_drop,List.drop_left,←hz,List.drop_left]
theorem qgB (w:World) (o:Obj):(w.alloc o).heap[w.heap.size]?=some o:=han w o
theorem qgC (w:World) (o:Obj) {k:Nat} (hk:k < w.heap.size):(w.alloc o).heap[k]?=w.heap[k]?:=hao w o k hk
set_option maxHeartbeats 4000000 in
set_option maxRecDepth 100000 in
theorem qvw (g n c i vb vc:Nat) (cur new:Array Value) (e e2:TypeId) (w:World) (hi:i < n) (hnc:n≤c) (hroom:c < n + 1) (hbig:n≤1000000)
  (hg:w.heap[g]?=some (.cells cur e (0,0))) (hv:w.heap[vb]?=some (.cells new e2 (0,0))) (hcs:cur.size=c * 8) (hnew:8≤new.size)
  (h1:∀ v∈cur.toList.take (n * 8),v.oneCell'=true) (h2:∀ v∈new.toList.take 8,v.oneCell'=true) :
  Calls Tryz.prog 172 #[.slice (some ⟨g,0,none⟩) n c,.int .i64 i,.slice (some ⟨vb,0,none⟩) 1 vc] w fun x w'=>∃ (G:Nat) (R0 R1:Array Value) (rest:List Value),n + 1≤G∧G≤maxLen∧rest.length=(G - (n + 1)) * 8∧x=.returned (.slice (some ⟨w.heap.size,0,none⟩) (n + 1) G) ∧
   ∃ w1:World,w1.heap=w.heap∧w1.os=w.os∧w1.tape=w.tape∧w1.output=w.output∧w'=((w1.alloc (.cells R0 68)).setRow w.heap.size R1).setRow w.heap.size
    (cur.toList.take (i * 8)++new.toList.take 8++(cur.toList.take (n * 8)).drop (i * 8)++rest).toArray:=by
 have hI:=(T_ok 68).known (of_decide_eq_true (by kernel_rfl))
 obtain ⟨i0,z,hi0,hzs,hzb,hz0,hzc,_⟩:=hI.info
 have hzs:i0.size=8:=hzs
 have hzl:z.cells.size=8:=by
  have:=hI.z
  rw [←Array.length_toList,hzc]; rfl
 have hzb:i0.bytes≤1000:=by rw [hzb]; exact of_decide_eq_true (by kernel_rfl)
 have hbb:(n + 1) * i0.bytes≤140737488355328:=by
  have:=Nat.mul_le_mul (show n + 1≤1000001 by omega) hzb
  omega
 have hkk:(n:Int) + (1:Int) - (i:Int)=((n + 1 - i:Nat):Int):=by omega
 have hik:i + (n + 1 - i)=n + 1:=by omega
 have hold:(Builtin.firstCells i0.size i (.slice (some ⟨g,0,none⟩) i c)).run Tryz.prog w.drew=.ok (cur.toList.take (i * 8)).toArray w.drew:=by
  rw [hzs]
  exact run_firstCells_some w.drew 8 i ⟨g,0,none⟩ i c (cur.toList.take (i * 8)) (by rw [List.length_take,Array.length_toList]; omega) (fun j v hj=>by
   rw [qN,Nat.zero_add,World.cell?_drew,World.cell?,hg]
   rw [List.getElem?_take] at hj
   split at hj
   ·simpa using hj
   ·cases hj)
 obtain ⟨G,hG⟩:∃ G,G=grownCap w (n + 1) c 68:=⟨_,rfl⟩
 have hGn:n + 1≤G:=by rw [hG]; exact grownCap_ge w _ _ _
 have hG63:G≤maxLen:=by rw [hG]; exact grownCap_le_maxLen w (n + 1) c _ (by unfold maxLen; omega)
 obtain ⟨R0,hR0⟩:∃ R0:Array Value,R0=(cur.toList.take (i * 8)).toArray++Builtin.zeroCells z.cells (n + 1 - i)++Builtin.zeroCells z.cells (G - (n + 1)):=⟨_,rfl⟩
 have hrz:∀ ty,(Builtin.append_ #[50,3] ty #[.slice (some ⟨g,0,none⟩) i c,.int .i64 ((n:Int) + (1:Int) - (i:Int))]).run Tryz.prog w=.ok (.slice (some ⟨w.heap.size,0,none⟩) (n + 1) G) (w.drew.alloc (.cells R0 68)):=fun ty=>by
  have h:=Lib.run_append_grow_zeros w 50 3 ty 68 i0 z .i64 .i64 Tryz.underlying50 Tryz.underlying3 hi0 hz0 (some ⟨g,0,none⟩) i c (cur.toList.take (i * 8)) hold (n + 1 - i) (by omega) (by omega) (by omega) (by omega)
   (by have:=Nat.mul_le_mul_right i0.bytes (show n + 1 - i≤n + 1 by omega); omega) (by rw [hik]; exact growslice_fits hroom hbb)
  rw [hik,←hG] at h
  rw [hkk,hR0]
  exact h
 obtain ⟨A,hA⟩:∃ A,A=cur.toList.take (i * 8):=⟨_,rfl⟩
 obtain ⟨V,hV⟩:∃ V,V=new.toList.take 8:=⟨_,rfl⟩
 obtain ⟨D,hD⟩:∃ D,D=(cur.toList.take (n * 8)).drop (i * 8):=⟨_,rfl⟩
 obtain ⟨Z,hZ⟩:∃ Z,Z=(Builtin.zeroCells z.cells (n + 1 - i)).toList:=⟨_,rfl⟩
 obtain ⟨Y,hY⟩:∃ Y,Y=(Builtin.zeroCells z.cells (G - (n + 1))).toList:=⟨_,rfl⟩
 have lA:A.length=i * 8:=by rw [hA,List.length_take,Array.length_toList]; omega
 have lV:V.length=8:=by rw [hV,List.length_take,Array.length_toList]; omega
 have lD:D.length=(n - i) * 8:=by rw [hD,List.length_drop,List.length_take,Array.length_toList,Nat.sub_mul]; omega
 have lZ:8 + (n - i) * 8=Z.length:=by rw [hZ,Array.length_toList,size_zeroCells,hzl]; omega
 have lY:Y.length=(G - (n + 1)) * 8:=by rw [hY,Array.length_toList,size_zeroCells,hzl]
 have eR0:R0.toList=A++Z++Y:=by rw [hR0,hA,hZ,hY]; simp
 obtain ⟨m1,m2⟩:=qvv (A:=A) (V:=V) (Z:=Z) (D:=D) (Y:=Y) lA lV lZ lD
 have sR0:R0.size=G * 8:=by
  rw [←Array.length_toList,eR0,List.length_append,List.length_append,lA,←lZ,lY,Nat.sub_mul,Nat.sub_mul]
  have:=Nat.mul_le_mul_right 8 hGn
  omega
 obtain ⟨R1,hR1⟩:∃ R1:Array Value,R1=(A++V++Z.drop 8++Y).toArray:=⟨_,rfl⟩
 have sR1:R1.size=G * 8:=by
  rw [hR1,List.size_toArray,List.length_append,List.length_append,List.length_append,lA,lV,List.length_drop,←lZ,lY,Nat.sub_mul,Nat.sub_mul]
  have:=Nat.mul_le_mul_right 8 hGn
  omega
 obtain ⟨R2,hR2⟩:∃ R2:Array Value,R2=(A++V++D++Y).toArray:=⟨_,rfl⟩
 have hgw:g < w.heap.size:=(Array.getElem?_eq_some_iff.1 hg).1
 have hvw:vb < w.heap.size:=(Array.getElem?_eq_some_iff.1 hv).1
 have hcpA:∀ (W:World) ty dc sc,W.heap=(w.alloc (.cells R0 68)).heap→(Builtin.copy_ #[50,50] ty #[.slice (some ⟨w.heap.size,i * 8,none⟩) (n + 1 - i) dc,.slice (some ⟨vb,0,none⟩) 1 sc]).run Tryz.prog W=.ok (goInt (1:Nat)) (W.setRow w.heap.size R1):=fun W ty dc sc hW=>by
  have:=qeU (P:=Tryz.prog) (ty:=ty) W 50 50 68 w.heap.size (i * 8) (n + 1 - i) dc ⟨vb,0,none⟩ 1 sc 1 V R0 68 Tryz.underlying50 qfZ (by simp only [Nat.min_def]; split<;>omega) (by rw [lV]) (fun j v hj=>by
    rw [qN,World.cell?,hW,qgC _ _ hvw,hv]
    rw [hV,List.getElem?_take] at hj
    split at hj
    ·simpa using hj
    ·cases hj) (by rw [hW]; exact qgB _ _) (by rw [lV,sR0]; have:=Nat.mul_le_mul_right 8 hGn; omega) (by rw [hV]; exact h2)
  rw [this,eR0,lV,m1,hR1]
 have hcpB:∀ (W:World) ty dc sc,W.heap=((w.alloc (.cells R0 68)).setRow w.heap.size R1).heap→(Builtin.copy_ #[50,50] ty #[.slice (some ⟨w.heap.size,(i + 1) * 8,none⟩) (n - i) dc,.slice (some ⟨g,i * 8,none⟩) (n - i) sc]).run Tryz.prog W=.ok (goInt (n - i:Nat)) (W.setRow w.heap.size R2):=fun W ty dc sc hW=>by
  have:=qeU (P:=Tryz.prog) (ty:=ty) W 50 50 68 w.heap.size ((i + 1) * 8) (n - i) dc ⟨g,i * 8,none⟩ (n - i) sc (n - i) D R1 68 Tryz.underlying50 qfZ (by simp) lD (fun j v hj=>by
    rw [qN,World.cell?,hW,setRow_other _ _ _ _ (Nat.ne_of_lt hgw),qgC _ _ hgw,hg]
    rw [hD,List.getElem?_drop,List.getElem?_take] at hj
    split at hj
    ·simpa using hj
    ·cases hj) (by rw [hW]; exact setRow_heap _ _ _ _ _ _ (qgB _ _)) (by rw [lD,sR1,←Nat.add_mul]; exact Nat.mul_le_mul_right 8 (by omega)) (by rw [hD]; exact fun v hv=>h1 v (List.mem_of_mem_drop hv))
  rw [this,lD,show (i + 1) * 8=i * 8 + 8 by omega,hR1,List.toList_toArray,m2,hR2]
 have hres:Hold (R2=(A++V++D++Y).toArray):=⟨hR2⟩
 have hcA1:=fun ty dc sc=>hcpA (w.drew.alloc (.cells R0 68)) ty dc sc rfl
 have hcA2:=fun ty dc sc=>hcpA (w.alloc (.cells R0 68)).drew ty dc sc rfl
 have hcB1:=fun ty dc sc=>hcpB (((w.alloc (.cells R0 68)).drew.setRow w.heap.size R1).drew) ty dc sc rfl
 have hcB2:=fun ty dc sc=>hcpB (((w.drew.alloc (.cells R0 68)).setRow w.heap.size R1).drew) ty dc sc rfl
 have hz2:¬ ((i:Int)=(n:Int)):=by omega
 have hz3:(c:Int) < (n:Int) + (1:Int):=by omega
 have hw1:IntKind.i64.wrap ((i:Int) + (1:Int))=(i:Int) + (1:Int):=by rw [IntKind.wrap_i64]; omega
 have hb1:(0:Int)≤(i:Int) + (1:Int):=by omega
 have hin:i≤n:=by omega
 have htn:((i:Int) + (1:Int)).toNat=i + 1:=by omega
 have hb3:(i:Int)≤(n:Int):=by omega
 have hGi:¬ (G=i):=by omega
 have hGim:¬ (G=i + 1):=by omega
 have hci:¬ (c=i):=by omega
 have hG6:G≤9223372036854775807:=hG63
 rw [←hA,←hV,←hD]
 clear hR0 hR1 hR2 hA hV hD hZ hY hcpA hcpB hkk hik hold hG sR0 sR1 m1 m2 eR0 hI hi0 hzs hzl hzb hz0 hzc hbb hG63
 go_enter Tryz.func172,Tryz.ntmps172
 go_wp2_with (first
  | (at_builtin; refine Lib.wpList_append_run _ rfl _ _ _ _ rfl _ _ rfl rfl _ _ (hrz _) ?_)
  | (at_builtin; refine qff _ rfl _ _ 50 50 rfl _ _ rfl rfl (hcA1 _ _ _) ?_)
  | (at_builtin; refine qff _ rfl _ _ 50 50 rfl _ _ rfl rfl (hcA2 _ _ _) ?_))
 go_region
 go_wp2
 go_ret
 exact ⟨G,R0,R1,Y,hGn,hG6,lY,rfl,w.drew.drew,rfl,rfl,rfl,rfl,by rw [←hres.h]; rfl⟩
set_option maxHeartbeats 4000000 in
set_option maxRecDepth 100000 in
theorem qnT (n c vc:Nat) (base:Option Addr) (vb:Nat) (w w2:World) (v2:Value)
  (hr:(Builtin.append_ #[50,50] 50 #[.slice base n c,.slice (some ⟨vb,0,none⟩) 1 vc]).run Tryz.prog w=.ok v2 w2) :
  Calls Tryz.prog 172 #[.slice base n c,.int .i64 n,.slice (some ⟨vb,0,none⟩) 1 vc] w fun x w'=>x=.returned v2∧w'=w2:=by
 go_enter Tryz.func172,Tryz.ntmps172
 cases base with
 | none =>
  go_wp2_with (at_builtin; refine Lib.wpList_append_run _ rfl _ _ _ _ rfl _ _ rfl rfl _ _ hr ?_)
  all_goals (go_ret; exact ⟨rfl,rfl⟩)
 | some a =>
  obtain ⟨ab,ao,asp⟩:=a
  go_wp2_with (at_builtin; refine Lib.wpList_append_run _ rfl _ _ _ _ rfl _ _ rfl rfl _ _ hr ?_)
  all_goals (go_ret; exact ⟨rfl,rfl⟩)
end Go.Proofs.YtidkmoohgadjkaaGreat
set_option maxHeartbeats 4000000
namespace Go.Proofs.YtidkmoohgadjkaaGreat.E
open Go Go.Lib Go.RowKit
noncomputable section
open Classical
theorem qk1 {w w' : World} {S : Zone} {inj : Nat → Loc} {σ : List Blk} {n k : Nat} {l : List (List PC)} {ad : Option Addr} {m c : Nat} {g : Option Nat} (hI : Inv w S inj (look σ)) (hn : σ.length = n) (hfree : ∀ b, n ≤ b → inj b = .free)
    (hG : Grow w S w' S) (hR : RowOk w' S k l (.slice ad m c) g) : ∃ inj', Done w S inj n (.one (.own n)) (List.replicate n .dead ++ [.rows k l]) (.slice ad m c) w' S inj' := by
  refine ⟨fun b => if b = n then .row (.slice ad m c) g else if inj b = .free then .free else .dead, hG, fun b => ?_, fun b hb hc => ?_, .ofc (.own (.inr ⟨g, ?_⟩)), fun b => ?_, fun b b' g' hb hb' h1 h2 => ?_, fun g' hg' => Nat.lt_of_lt_of_le (hI.lt g' hg') hG.size, hI.dj⟩
  · by_cases hf : inj b = .free
    · exact .inl hf
    · refine .inr (.inr ?_)
      have : b ≠ n := by rintro rfl; exact hf (hfree b (Nat.le_refl _))
      simp [this, hf]
  · have : b ≠ n := by rintro rfl; simp only [List.length_append, List.length_replicate, List.length_singleton] at hc; omega
    simp [this, hb]
  · simp [Loc.val]
  · by_cases hb : b = n
    · subst hb
      have : look (List.replicate b .dead ++ [.rows k l]) b = .rows k l := by rw [qai]; simp [List.getD_eq_getElem?_getD]
      rw [this]
      exact ⟨_, _, by simp, hR⟩
    · have : look (List.replicate n .dead ++ [.rows k l]) b = .dead := by
        rw [qai, List.getD_eq_getElem?_getD]
        by_cases h : b < n
        · rw [List.getElem?_append_left (by simpa using h)]; simp [h]
        · rw [List.getElem?_append_right (by simp; omega)]
          rw [List.getElem?_eq_none (by simp; omega)]; rfl
      rw [this]; trivial
  · have key : ∀ b, look (List.replicate n .dead ++ [.rows k l]) b ≠ .dead → b = n := fun b hb => Classical.byContradiction fun h => hb (by
        rw [qai, List.getD_eq_getElem?_getD]
        by_cases h' : b < n
        · rw [List.getElem?_append_left (by simpa using h')]; simp [h']
        · rw [List.getElem?_append_right (by simp; omega)]
          rw [List.getElem?_eq_none (by simp; omega)]; rfl)
    rw [key b hb, key b' hb']
theorem qiT {l:List (List PC)} {k:Nat} (hl:∀ r∈l,r.length=k) (i:Nat):(l.take i).flatten=l.flatten.take (i * k)∧(l.drop i).flatten=l.flatten.drop (i * k):=by
 induction l generalizing i with
 | nil=>simp
 | cons r l ih =>
  have hr:=hl r (by simp)
  cases i with
  | zero=>simp
  | succ i =>
   obtain ⟨h1,h2⟩:=ih (fun r hr=>hl r (by simp [hr])) i
   have e:(i + 1) * k=r.length + i * k:=by rw [hr,Nat.succ_mul]; omega
   rw [List.take_succ_cons,List.drop_succ_cons,List.flatten_cons,List.flatten_cons,h1,h2,e]
   constructor
   ·rw [List.take_append,List.take_of_length_le (show r.length≤r.length + i * k by omega),Nat.add_sub_cancel_left]
   ·rw [List.drop_append,List.drop_of_length_le (show r.length≤r.length + i * k by omega),Nat.add_sub_cancel_left]; rfl
theorem qvx {l:List (List PC)} {x:List PC} {i:Nat} (hl:∀ r∈l,r.length=8) (hi:i≤l.length):(l.take i++x::l.drop i).flatten=l.flatten.take (i * 8)++x++l.flatten.drop (i * 8):=by
 obtain ⟨h1,h2⟩:=qiT hl i
 rw [List.flatten_append,List.flatten_cons,h1,h2]; simp
theorem qnU {l:List (List PC)} {x:List PC} {i:Nat} (hi:i≤l.length):(l.take i++x::l.drop i).length=l.length + 1:=by simp; omega
theorem qBV {l:List (List PC)} {x:List PC} {i:Nat} (hl:∀ r∈l,r.length=8) (hx:x.length=8):∀ r∈l.take i++x::l.drop i,r.length=8:=by
 intro r hr
 rcases List.mem_append.1 hr with hr | hr
 ·exact hl r (List.mem_of_mem_take hr)
 ·rcases List.mem_cons.1 hr with rfl | hr
  ·exact hx
  ·exact hl r (List.mem_of_mem_drop hr)
theorem qf0 {w':World} {S:Zone} {l:List (List PC)} {x:List PC} {i g cap:Nat} {e:TypeId} {A V D Y:List Value} (hl:∀ r∈l,r.length=8) (hx:x.length=8) (hi:i≤l.length) (hS:¬ S.all g) (hg:w'.heap[g]?=some (.cells (A++V++D++Y).toArray e (0,0)))
  (hc:l.length + 1≤cap) (hm:cap≤maxLen) (hsz:(A++V++D++Y).length=cap * 8) (hA:F2 (PR w' S) (l.flatten.take (i * 8)) A) (hV:F2 (PR w' S) x V) (hD:F2 (PR w' S) (l.flatten.drop (i * 8)) D) :
  RowOk w' S 8 (l.take i++x::l.drop i) (.slice (some ⟨g,0,none⟩) (l.length + 1) cap) (some g):=by
 refine .inr ⟨g,cap,_,e,by decide,rfl,by rw [qnU hi],hS,hg,by rw [qnU hi]; exact hc,hm,by simpa using hsz,qBV hl hx,?_⟩
 rw [qnU hi,qvx hl hi]
 have hh:F2 (PR w' S) (l.flatten.take (i * 8)++x++l.flatten.drop (i * 8)) (A++V++D):=(hA.app hV).app hD
 have hlen:(A++V++D).length=(l.length + 1) * 8:=by
  rw [←hh.len,List.length_append,List.length_append,hx,List.length_take,List.length_drop]
  have:l.flatten.length=l.length * 8:=qaG hl
  have:=Nat.mul_le_mul_right 8 hi
  omega
 rw [show (A++V++D++Y).toArray.toList=(A++V++D)++Y by simp,←hlen,List.take_left]
 exact hh
theorem qk2 {l:List (List PC)} {x:List PC} {i:Nat} (hl:∀ r∈l,r.length=8) (hx:x.length=8) (hi:i≤l.length) (hn:l.length≤1000000) :
  qcS Tryz.prog 172 [.one (.own 0),iv i,.one (.own 1)] [.rows 8 l,.rows 8 [x]] (.one (.own 2)) [.dead,.dead,.rows 8 (l.take i++x::l.drop i)]:=by
 refine ⟨⟨_,_,Tryz.func172,rfl,rfl⟩,fun w S inj vs hv hI hfree=>?_⟩
 have hIt:=(T_ok 68).known (of_decide_eq_true (by kernel_rfl))
 cases hv with
 | cons h0 hv =>
 cases hv with
 | cons h1 hv =>
 cases hv with
 | cons h2 hv =>
 cases hv
 obtain ⟨v0,g0,hg0,hro0⟩:=hI.rows (b:=0) (k:=8) (l:=l) rfl
 obtain ⟨v1,g1,hg1,hro1⟩:=hI.rows (b:=1) (k:=8) (l:=[x]) rfl
 have e0:=(h0.cellv (by simp)).ownv hg0
 have e1:=h1.flatv.1
 have e2:=(h2.cellv (by simp)).ownv hg1
 subst e0 e1 e2
 rcases hro1 with ⟨h,_⟩ | ⟨vb,vc,new,en,_,rfl,rfl,hnS,hnh,hnc,hnm,hns,_,hnf⟩
 ·cases h
 have hnew:8≤new.size:=by rw [hns]; simp at hnc; omega
 have hV:F2 (PR w S) x (new.toList.take 8):=by simpa using hnf
 have hV1:∀ v∈new.toList.take 8,v.oneCell'=true:=fun v hv=>by
  obtain ⟨j,hj⟩:=List.getElem?_of_mem hv
  obtain ⟨c,_,hc⟩:=hV.getR hj
  exact hc.one
 have hvw:vb < w.heap.size:=(Array.getElem?_eq_some_iff.1 hnh).1
 have fin:∀ {w':World} {cap g:Nat},Grow w S w' S→RowOk w' S 8 (l.take i++x::l.drop i) (.slice (some ⟨g,0,none⟩) (l.length + 1) cap) (some g) →
   ∃ v S' inj',(Ending.returned (.slice (some ⟨g,0,none⟩) (l.length + 1) cap):Ending)=.returned v∧Done w S inj 2 (.one (.own 2)) [.dead,.dead,.rows 8 (l.take i++x::l.drop i)] v w' S' inj':=fun hG hR=>by
  obtain ⟨inj',hd⟩:=qk1 (n:=2) hI rfl hfree hG hR
  exact ⟨_,S,inj',rfl,hd⟩
 have hsrc:Src Tryz.prog w 8 1 (.slice (some ⟨vb,0,none⟩) 1 vc) (new.toList.take 8):=by
  have hc:∀ j v,(new.toList.take 8)[j]?=some v→w.cell? ((⟨vb,0,none⟩:Addr).add j)=some v:=fun j v hj=>by
   rw [qN,Nat.zero_add,World.cell?,hnh]
   rw [List.getElem?_take] at hj
   split at hj
   ·simpa using hj
   ·cases hj
  have hl8:(new.toList.take 8).length=1 * 8:=by rw [List.length_take,Array.length_toList]; omega
  exact ⟨fun w'=>by simp [Builtin.lenOf],run_firstCells_some w _ _ _ _ _ _ hl8 hc,run_firstCells_some w.drew _ _ _ _ _ _ hl8 (by simpa using hc),hl8,hV1⟩
 have h8:(ty T 68).sz=8:=by kernel_rfl
 have hbytes:(ty T 68).bytes≤1000:=of_decide_eq_true (by kernel_rfl)
 have hroom:∀ m,m≤1000001→m * (ty T 68).bytes≤140737488355328:=fun m hm=>by have:=Nat.mul_le_mul hm hbytes; omega
 rcases hro0 with ⟨rfl,rfl,ad,rfl⟩ | ⟨g,cap,cur,e,_,rfl,rfl,hS,hh,hcap,hmax,hcs,_,hf⟩
 ·
  obtain rfl:i=0:=by simpa using hi
  have ho0:(Builtin.firstCells 8 0 (.slice ad 0 0)).run Tryz.prog w.drew=.ok ([]:List Value).toArray w.drew:=by
   cases ad<;>simp [Builtin.firstCells,loadCells,loadCellsFrom]
  obtain ⟨zs,hzl,hr⟩:=qbm (ty:=50) (x:=ty T 68) Tryz.underlying50 Tryz.underlying50 (.inr ⟨_,rfl⟩) hIt hsrc ho0 (by omega) (hroom _ (by omega)) (by omega)
  simp only [h8] at hr hzl
  refine (qnT 0 0 vc ad vb w _ _ hr).mono ?_
  rintro e' w' ⟨rfl,rfl⟩
  have hge:=grownCap_ge w (0 + 1) 0 68
  have hgm:=grownCap_le_maxLen w (0 + 1) 0 68 (by simp only [maxLen]; omega)
  have hG:Grow w S (w.drew.alloc (.cells ([]++new.toList.take 8++zs).toArray 68)) S:=⟨rfl,rfl,rfl,by simp,fun g' hg'=>hao w.drew _ g' (hI.lt g' hg'),fun _ h=>h,rfl⟩
  refine fin hG (qf0 (A:=[]) (V:=new.toList.take 8) (D:=[]) (Y:=zs) hl hx hi (fun h=>absurd (hI.lt _ h) (by omega)) (e:=68) ?_ (by simpa using hge) hgm ?_ .nil (hV.mono' fun _ _ h=>h.grow hG) .nil)
  ·have:=han w.drew (.cells ([]++new.toList.take 8++zs).toArray 68)
   simpa using this
  ·rw [List.append_nil,List.nil_append,List.length_append,hsrc.l,hzl,←Nat.add_mul]; congr 1; omega
 ·have hne:vb≠g:=by
   rintro rfl
   have:=hI.sep 0 1 vb (by intro h; cases h) (by intro h; cases h) (by rw [hg0]; rfl) (by rw [hg1]; rfl)
   cases this
  have hgw:g < w.heap.size:=(Array.getElem?_eq_some_iff.1 hh).1
  have hnc':l.length * 8≤cap * 8:=Nat.mul_le_mul_right 8 hcap
  have hold:(cur.toList.take (l.length * 8)).length=l.length * 8:=by rw [List.length_take,Array.length_toList (xs:=cur)]; omega
  have hC1:∀ v∈cur.toList.take (l.length * 8),v.oneCell'=true:=fun v hv=>by
   obtain ⟨j,hj⟩:=List.getElem?_of_mem hv
   obtain ⟨c,_,hc⟩:=hf.getR hj
   exact hc.one
  have hil:i * 8≤l.length * 8:=Nat.mul_le_mul_right 8 hi
  have hA:F2 (PR w S) (l.flatten.take (i * 8)) (cur.toList.take (i * 8)):=by
   have:=hf.take (i * 8)
   rwa [List.take_take,Nat.min_eq_left hil] at this
  have hD:=hf.drop (i * 8)
  by_cases hend:i=l.length
  ·
   subst hend
   have hDe:F2 (PR w S) (l.flatten.drop (l.length * 8)) []:=by
    have e1:l.flatten.length=l.length * 8:=qaG hl
    rw [←e1,List.drop_length]; exact .nil
   by_cases hm:l.length + 1≤cap
   ·have hr:=qeu (ty:=50) (x:=ty T 68) Tryz.underlying50 Tryz.underlying50 (.inr ⟨_,rfl⟩) hIt hsrc hh hm (by
     show l.length * 8 + _≤_
     rw [hsrc.l,hcs]; have:=Nat.mul_le_mul_right 8 hm; omega)
    simp only [h8] at hr
    refine (qnT l.length cap vc _ vb w _ _ hr).mono ?_
    rintro e' w' ⟨rfl,rfl⟩
    have hG:Grow w S (w.setRow g (cur.toList.take (l.length * 8)++new.toList.take 8++cur.toList.drop (l.length * 8 + (new.toList.take 8).length)).toArray) S:=.setRow hS
    refine fin hG (qf0 (A:=cur.toList.take (l.length * 8)) (V:=new.toList.take 8) (D:=[]) (Y:=cur.toList.drop (l.length * 8 + (new.toList.take 8).length)) hl hx hi hS (e:=e) ?_ hm hmax ?_ (hA.mono' fun _ _ h=>h.grow hG) (hV.mono' fun _ _ h=>h.grow hG) (hDe.mono' fun _ _ h=>h.grow hG))
    ·refine (setRow_heap w g cur _ e (0,0) hh).trans ?_
     rw [List.append_nil]
    ·rw [List.append_nil,List.length_append,List.length_append,hsrc.l,List.length_drop,hold,Array.length_toList (xs:=cur),hcs]
     have:=Nat.mul_le_mul_right 8 hm; omega
   ·have ho0:(Builtin.firstCells 8 l.length (.slice (some ⟨g,0,none⟩) l.length cap)).run Tryz.prog w.drew=.ok (cur.toList.take (l.length * 8)).toArray w.drew:=by
     refine run_firstCells_some w.drew _ _ _ _ _ _ hold (fun j v hj=>?_)
     rw [List.getElem?_take] at hj
     split at hj
     ·rw [qN,Nat.zero_add,World.cell?_drew]
      simpa [World.cell?,hh] using hj
     ·cases hj
    obtain ⟨zs,hzl,hr⟩:=qbm (ty:=50) (x:=ty T 68) Tryz.underlying50 Tryz.underlying50 (.inr ⟨_,rfl⟩) hIt hsrc ho0 (by omega) (hroom _ (by omega)) (by omega)
    simp only [h8] at hr hzl
    refine (qnT l.length cap vc _ vb w _ _ hr).mono ?_
    rintro e' w' ⟨rfl,rfl⟩
    have hge:=grownCap_ge w (l.length + 1) cap 68
    have hgm:=grownCap_le_maxLen w (l.length + 1) cap 68 (by simp only [maxLen]; omega)
    have hG:Grow w S (w.drew.alloc (.cells (cur.toList.take (l.length * 8)++new.toList.take 8++zs).toArray 68)) S:=⟨rfl,rfl,rfl,by simp,fun g' hg'=>hao w.drew _ g' (hI.lt g' hg'),fun _ h=>h,rfl⟩
    refine fin hG (qf0 (A:=cur.toList.take (l.length * 8)) (V:=new.toList.take 8) (D:=[]) (Y:=zs) hl hx hi (fun h=>absurd (hI.lt _ h) (by omega)) (e:=68) ?_ hge hgm ?_ (hA.mono' fun _ _ h=>h.grow hG) (hV.mono' fun _ _ h=>h.grow hG) (hDe.mono' fun _ _ h=>h.grow hG))
    ·have:=han w.drew (.cells (cur.toList.take (l.length * 8)++new.toList.take 8++zs).toArray 68)
     simpa using this
    ·rw [List.append_nil,List.length_append,List.length_append,hold,hsrc.l,hzl,←Nat.add_mul,←Nat.add_mul]; congr 1; omega
  ·have hi':i < l.length:=by omega
   by_cases hm:l.length + 1≤cap
   ·
    refine (qsP g l.length cap i vb vc cur new e en w hi' hm hmax hne hh hnh hcs hnew hC1 hV1).mono ?_
    rintro e' w' ⟨rfl,w1,hw1,hos,htape,hout,rfl⟩
    have hG1:Grow w S w1 S:=⟨hos,htape,hout,by rw [hw1]; exact Nat.le_refl _,fun g' _=>by rw [hw1],fun _ h=>h,rfl⟩
    have hh1:w1.heap[g]?=some (.cells cur e (0,0)):=by rw [hw1]; exact hh
    have hh2:=setRow_heap w1 g cur (cur.toList.take ((i + 1) * 8)++(cur.toList.take (l.length * 8)).drop (i * 8)++cur.toList.drop ((l.length + 1) * 8)).toArray e (0,0) hh1
    have hG:=(hG1.trans (.setRow hS)).trans (Grow.setRow (w:=w1.setRow g (cur.toList.take ((i + 1) * 8)++(cur.toList.take (l.length * 8)).drop (i * 8)++cur.toList.drop ((l.length + 1) * 8)).toArray) (cs:=(cur.toList.take (i * 8)++new.toList.take 8++((cur.toList.take (l.length * 8)).drop (i * 8)++cur.toList.drop ((l.length + 1) * 8))).toArray) hS)
    refine fin hG (qf0 (A:=cur.toList.take (i * 8)) (V:=new.toList.take 8) (D:=(cur.toList.take (l.length * 8)).drop (i * 8)) (Y:=cur.toList.drop ((l.length + 1) * 8)) hl hx hi hS (e:=e) ?_ hm hmax ?_ (hA.mono' fun _ _ h=>h.grow hG) (hV.mono' fun _ _ h=>h.grow hG) (hD.mono' fun _ _ h=>h.grow hG))
    ·refine (setRow_heap _ g _ _ e (0,0) hh2).trans ?_
     rw [List.append_assoc (cur.toList.take (i * 8)++new.toList.take 8)]
    ·rw [List.length_append,List.length_append,List.length_append,hsrc.l,List.length_drop,List.length_drop,hold,List.length_take,Array.length_toList (xs:=cur),hcs]
     have:=Nat.mul_le_mul_right 8 hm; omega
   ·
    refine (qvw g l.length cap i vb vc cur new e en w hi' hcap (by omega) hn hh hnh hcs hnew hC1 hV1).mono ?_
    rintro e' w' ⟨G,R0,R1,rest,hGn,hGm,hrl,rfl,w1,hw1,hos,htape,hout,rfl⟩
    have hz:w1.heap.size=w.heap.size:=by rw [hw1]
    have hnS':¬ S.all w.heap.size:=fun h=>absurd (hI.lt _ h) (by omega)
    have hG1:Grow w S (w1.alloc (.cells R0 68)) S:=⟨hos,htape,hout,by simp [hz],fun g' hg'=>by rw [hao _ _ _ (by rw [hz]; exact hI.lt g' hg'),hw1],fun _ h=>h,rfl⟩
    have hh1:(w1.alloc (.cells R0 68)).heap[w.heap.size]?=some (.cells R0 68 (0,0)):=by have:=han w1 (.cells R0 68); rwa [hz] at this
    have hh2:=setRow_heap _ w.heap.size _ R1 _ (0,0) hh1
    have hG:=(hG1.trans (.setRow (cs:=R1) hnS')).trans (Grow.setRow (w:=(w1.alloc (.cells R0 68)).setRow w.heap.size R1) (cs:=(cur.toList.take (i * 8)++new.toList.take 8++(cur.toList.take (l.length * 8)).drop (i * 8)++rest).toArray) hnS')
    refine fin hG (qf0 (A:=cur.toList.take (i * 8)) (V:=new.toList.take 8) (D:=(cur.toList.take (l.length * 8)).drop (i * 8)) (Y:=rest) hl hx hi hnS' (e:=68) ?_ hGn hGm ?_ (hA.mono' fun _ _ h=>h.grow hG) (hV.mono' fun _ _ h=>h.grow hG) (hD.mono' fun _ _ h=>h.grow hG))
    ·exact setRow_heap _ w.heap.size _ _ _ (0,0) hh2
    ·rw [List.length_append,List.length_append,List.length_append,hsrc.l,List.length_drop,hold,List.length_take,Array.length_toList (xs:=cur),hrl,Nat.sub_mul]
     have:=Nat.mul_le_mul_right 8 hGn; omega
end
end Go.Proofs.YtidkmoohgadjkaaGreat.E
namespace Go.Proofs.YtidkmoohgadjkaaGreat.E
open Go Go.Lib Go.RowKit
theorem qk3 {P:Program} (w:World) (t elem ty:TypeId) (z:Value) {k:Nat} (ht:P.underlying t=some (.slice elem)) (hv:∀ w,(zeroValue elem).run P w=.ok z w) (hz:z.cells.size=k) (h1:∀ v∈z.cells.toList,v.oneCell'=true) (g o n c:Nat) (hn:0 < n)
  (cur:Array Value) (e:TypeId) (hh:w.heap[g]?=some (.cells cur e (0,0))) (hle:o + n * k≤cur.size) :
  (Builtin.clear_ #[t] ty #[.slice (some ⟨g,o,none⟩) n c]).run P w=.ok (.tuple #[]) (w.setRow g (cur.toList.take o++(Builtin.zeroCells z.cells n).toList++cur.toList.drop (o + n * k)).toArray):=by
 have hl:(Builtin.zeroCells z.cells n).toList.length=n * k:=by rw [Array.length_toList,size_zeroCells,hz]
 have hst:=run_storeCells_at P g o e (Builtin.zeroCells z.cells n).toList 0 cur w hh (by rw [hl]; simpa using hle) (fun v hv=>by
  have hv:v∈Builtin.zeroCells z.cells n:=by simpa using hv
  obtain ⟨j,hj⟩:=Array.getElem?_of_mem hv
  obtain ⟨hj1,rfl⟩:=Array.getElem?_eq_some_iff.1 hj
  rw [size_zeroCells] at hj1
  have hp:0 < z.cells.size:=Nat.pos_of_ne_zero fun h0=>by rw [h0] at hj1; simp at hj1
  refine h1 _ ?_
  simp only [Builtin.zeroCells,Array.getElem_map,Array.getElem_range]
  rw [getElem!_pos z.cells (j % z.cells.size) (Nat.mod_lt _ hp)]
  simp)
 simp only [Nat.add_zero,hl] at hst
 obtain ⟨m,rfl⟩:∃ m,n=m + 1:=⟨n - 1,by omega⟩
 simp [Builtin.clear_,run_underlying ht,hv,hst]
theorem qf1 {P:Program} {ops:Array Oper} {o:Oper} {a:Act} {w:World} {K:Act→World→Prop} {Q:Exit→Act→World→Prop} {E:Prop}
  (hg:o.guard=none) (d x:Operand) (dT sT:TypeId) (hop:o.op=Op.call { callee:=Callee.builtin Builtin.append,args := #[d,x],argTypes := #[dT,sT] })
  (v u:Value) (hd:a.eval d=v) (hx:a.eval x=u) {v':Value} {w':World} (hr:(Builtin.append_ #[dT,sT] o.type #[v,u]).run P w=.ok v' w') (hK:K (a.put o.dst v') w') :
  if Region.wanted o (yielded ops a.tmps)=true then Oper.wp P o a w K Q else E:=by
 have hw:Region.wanted o (yielded ops a.tmps)=true:=by simp [Region.wanted,hg]
 rw [if_pos hw]
 unfold Oper.wp
 simp only [execOp,hop,resolve,invoke,builtin,Sem.run_bind,Sem.run_pure,Result.andThen_ok,List.map_toArray,List.map_cons,List.map_nil,hd,hx,hr]
 exact hK
set_option maxHeartbeats 4000000 in
set_option maxRecDepth 100000 in
theorem qya (g i m c:Nat) (cur:Array Value) (e:TypeId) (w:World) (hc:i + 1 + m≤c) (hc63:c≤9223372036854775807) (hg:w.heap[g]?=some (.cells cur e (0,0))) (hcs:cur.size=c * 8)
  (h1:∀ v∈cur.toList.take ((i + 1 + m) * 8),v.oneCell'=true) :
  Calls Tryz.prog 171 #[.slice (some ⟨g,0,none⟩) (i + 1 + m) c,.int .i64 i,.int .i64 ((i:Int) + 1)] w fun x w'=>x=.returned (.slice (some ⟨g,0,none⟩) (i + m) c) ∧
   ∃ (w1:World) (R1:Array Value) (rest:List Value),rest.length=(c - (i + m)) * 8∧w1.heap=w.heap∧w1.os=w.os∧w1.tape=w.tape∧w1.output=w.output∧w'=(w1.setRow g R1).setRow g (cur.toList.take (i * 8)++(cur.toList.take ((i + 1 + m) * 8)).drop ((i + 1) * 8)++rest).toArray:=by
 have hI:=(T_ok 68).known (of_decide_eq_true (by kernel_rfl))
 have h8:(ty T 68).sz=8:=by kernel_rfl
 obtain ⟨M,hM⟩:∃ M,M=(cur.toList.take ((i + 1 + m) * 8)).drop ((i + 1) * 8):=⟨_,rfl⟩
 have lM:M.length=m * 8:=by rw [hM,List.length_drop,List.length_take,Array.length_toList (xs:=cur),hcs]; omega
 have hM1:∀ v∈M,v.oneCell'=true:=fun v hv=>h1 v (by rw [hM] at hv; exact List.mem_of_mem_drop hv)
 obtain ⟨Ad,hAd,hsrc⟩:∃ Ad:Addr,(if c=i + 1 then (⟨g,0,none⟩:Addr) else ⟨g,(i + 1) * 8,none⟩)=Ad∧∀ (W:World),W.heap=w.heap→Src Tryz.prog W 8 m (.slice (some Ad) m (c - (i + 1))) M:=by
  refine ⟨_,rfl,fun W hW=>?_⟩
  have hcell:∀ (W:World),W.heap=w.heap→∀ j v,M[j]?=some v→W.cell? ((if c=i + 1 then (⟨g,0,none⟩:Addr) else ⟨g,(i + 1) * 8,none⟩).add j)=some v:=fun W hW j v hj=>by
   by_cases h:c=i + 1
   ·have h0:M=[]:=List.eq_nil_of_length_eq_zero (by rw [lM]; omega)
    rw [h0] at hj; simp at hj
   ·rw [if_neg h,qN,World.cell?,hW,hg]
    rw [hM,List.getElem?_drop,List.getElem?_take] at hj
    split at hj
    ·simpa using hj
    ·cases hj
  exact ⟨fun w'=>by simp [Builtin.lenOf],run_firstCells_some W _ _ _ _ _ _ lM (hcell W hW),run_firstCells_some W.drew _ _ _ _ _ _ lM (hcell W.drew hW),lM,hM1⟩
 obtain ⟨R1,hR1⟩:∃ R1:Array Value,R1=(cur.toList.take (i * 8)++M++cur.toList.drop (i * 8 + m * 8)).toArray:=⟨_,rfl⟩
 have hap:=qeu (ty:=50) (x:=ty T 68) Tryz.underlying50 Tryz.underlying50 (.inr ⟨_,rfl⟩) hI (hsrc w.drew rfl) (g:=g) (n:=i) (cap:=c) (cur:=cur) (e':=e) hg (by omega) (by
  show i * 8 + _≤_
  rw [lM,hcs]; omega)
 simp only [h8,lM] at hap
 rw [←hR1] at hap
 obtain ⟨i0,z,hi0,hzs,hzb,hz0,hzc,_⟩:=hI.info
 have hzl:z.cells.size=8:=by
  have:=hI.z
  rw [←Array.length_toList,hzc]; rfl
 obtain ⟨R2,hR2⟩:∃ R2:Array Value,R2=(R1.toList.take ((i + m) * 8)++(Builtin.zeroCells z.cells 1).toList++R1.toList.drop ((i + m) * 8 + 1 * 8)).toArray:=⟨_,rfl⟩
 have sR1:R1.size=c * 8:=by
  rw [hR1,List.size_toArray,List.length_append,List.length_append,lM,List.length_drop,List.length_take,Array.length_toList (xs:=cur),hcs]; omega
 have hzv:∀ w,(zeroValue 68).run Tryz.prog w=.ok z w:=fun w=>by simp [zeroValue,typeInfo,hi0,hz0]
 have hcl:∀ (W:World),W.heap=(w.setRow g R1).heap→(Builtin.clear_ #[50] 0 #[.slice (some ⟨g,(i + m) * 8,none⟩) 1 (c - (i + m))]).run Tryz.prog W=.ok (.tuple #[]) (W.setRow g R2):=fun W hW=>by
  rw [hR2]
  exact qk3 W _ _ _ z Tryz.underlying50 hzv hzl (by rw [hzc]; exact fun v hv=>qoy (hI.fl v hv)) g ((i + m) * 8) 1 _ (by omega) R1 e (by rw [hW]; exact setRow_heap _ _ _ _ _ _ hg) (by rw [sR1]; omega)
 have eR2:R2=(cur.toList.take (i * 8)++M++((Builtin.zeroCells z.cells 1).toList++R1.toList.drop ((i + m) * 8 + 1 * 8))).toArray:=by
  rw [hR2]
  congr 1
  have hl:(cur.toList.take (i * 8)++M).length=(i + m) * 8:=by
   rw [List.length_append,lM,List.length_take,Array.length_toList (xs:=cur),hcs]; omega
  have:R1.toList.take ((i + m) * 8)=cur.toList.take (i * 8)++M:=by
   rw [hR1,List.toList_toArray,←hl,List.take_left]
  rw [this]; simp
 have lR:((Builtin.zeroCells z.cells 1).toList++R1.toList.drop ((i + m) * 8 + 1 * 8)).length=(c - (i + m)) * 8:=by
  rw [List.length_append,Array.length_toList,size_zeroCells,hzl,List.length_drop,Array.length_toList (xs:=R1),sR1]; omega
 have hres:Hold (R2=(cur.toList.take (i * 8)++M++((Builtin.zeroCells z.cells 1).toList++R1.toList.drop ((i + m) * 8 + 1 * 8))).toArray):=⟨eR2⟩
 have lR':Hold (((Builtin.zeroCells z.cells 1).toList++R1.toList.drop ((i + m) * 8 + 1 * 8)).length=(c - (i + m)) * 8):=⟨lR⟩
 have hc1:=hcl (w.drew.setRow g R1) rfl
 have hc2:=hcl (w.drew.setRow g R1).drew rfl
 have h9:c≤9223372036854775807:=hc63
 have hn1:¬ ((i:Int)=(i:Int) + 1):=by omega
 have hb1:(i:Int) + 1≤((i + 1 + m:Nat):Int):=by omega
 have hb2:((i + 1 + m:Nat):Int)≤(c:Int):=by omega
 have ht:((i:Int) + 1).toNat=i + 1:=by omega
 have hic:i≤c:=by omega
 have hi1:(i:Int)≤(i:Int) + 1:=by omega
 have hi2:i + 1≤c:=by omega
 have hcim:¬ (c=i + m):=by omega
 have hle1:(i:Int) + (m:Int)≤(i:Int) + 1 + (m:Int):=by omega
 have hle2:(i:Int) + 1 + (m:Int)≤(c:Int):=by omega
 have hsub:i + 1 + m - (i + m)=1:=by omega
 have h0i:(0:Int)≤(i:Int) + 1:=by omega
 have hbm:(i:Int) + 1≤(i:Int) + 1 + (m:Int):=by omega
 rw [←hM]
 clear hI hM hsrc hR1 hR2 hcl hzl hzc hz0 hzv hi0 hzs hzb sR1 eR2 lR hM1 h1 lM h8
 by_cases hce:c=i + 1
 ·rw [if_pos hce] at hAd
  subst hAd
  subst hce
  obtain rfl:m=0:=by omega
  rw [Nat.sub_self] at hap
  simp only [Nat.add_zero,Nat.add_sub_cancel_left] at hap hc1 hc2 hres lR' hb1 hb2 hbm hcim hle1 hle2 hsub ⊢
  go_enter Tryz.func171,Tryz.ntmps171
  go_wp2
  go_region_law (refine qf1 rfl _ _ 50 50 rfl _ _ (by simp [Act.eval,Act.put]) (by simp [Act.eval,Act.put]) hap ?_)
  go_wp2
  go_ret
  exact ⟨rfl,w.drew,R1,_,lR'.h,rfl,rfl,rfl,rfl,by rw [←hres.h]⟩
 ·rw [if_neg hce] at hAd
  subst hAd
  go_enter Tryz.func171,Tryz.ntmps171
  go_wp2
  go_region_law (refine qf1 rfl _ _ 50 50 rfl _ _ (by simp [Act.eval,Act.put]) (by simp [Act.eval,Act.put]) hap ?_)
  go_wp2
  go_ret
  exact ⟨rfl,w.drew,R1,_,lR'.h,rfl,rfl,rfl,rfl,by rw [←hres.h]⟩
end Go.Proofs.YtidkmoohgadjkaaGreat.E
set_option maxHeartbeats 4000000
namespace Go.Proofs.YtidkmoohgadjkaaGreat.E
open Go Go.Lib Go.RowKit
theorem qk4 {l:List (List PC)} {i:Nat} (hl:∀ r∈l,r.length=8) (hi:i < l.length) (hn:l.length≤1000000) :
  qcS Tryz.prog 171 [.one (.own 0),iv i,iv ((i:Int) + 1)] [.rows 8 l] (.one (.own 1)) [.dead,.rows 8 (l.take i++l.drop (i + 1))]:=by
 refine ⟨⟨_,_,Tryz.func171,rfl,rfl⟩,fun w S inj vs hv hI hfree=>?_⟩
 cases hv with
 | cons h0 hv =>
 cases hv with
 | cons h1 hv =>
 cases hv with
 | cons h2 hv =>
 cases hv
 obtain ⟨v0,g0,hg0,hro0⟩:=hI.rows (b:=0) (k:=8) (l:=l) rfl
 have e0:=(h0.cellv (by simp)).ownv hg0
 have e1:=h1.flatv.1
 have e2:=h2.flatv.1
 subst e0 e1 e2
 rcases hro0 with ⟨rfl,_⟩ | ⟨g,cap,cur,e,_,rfl,rfl,hS,hh,hcap,hmax,hcs,_,hf⟩
 ·simp at hi
 obtain ⟨m,hm⟩:∃ m,l.length=i + 1 + m:=⟨l.length - (i + 1),by omega⟩
 have hC1:∀ v∈cur.toList.take ((i + 1 + m) * 8),v.oneCell'=true:=fun v hv=>by
  rw [←hm] at hv
  obtain ⟨j,hj⟩:=List.getElem?_of_mem hv
  obtain ⟨c,_,hc⟩:=hf.getR hj
  exact hc.one
 rw [hm] at hcap ⊢
 rw [hm] at hf
 refine (qya g i m cap cur e w hcap hmax hh hcs hC1).mono ?_
 rintro e' w' ⟨rfl,w1,R1,rest,hrl,hw1,hos,htape,hout,rfl⟩
 have hG1:Grow w S w1 S:=⟨hos,htape,hout,by rw [hw1]; exact Nat.le_refl _,fun g' _=>by rw [hw1],fun _ h=>h,rfl⟩
 have hh1:w1.heap[g]?=some (.cells cur e (0,0)):=by rw [hw1]; exact hh
 have hh2:=setRow_heap w1 g cur R1 e (0,0) hh1
 have hG:=(hG1.trans (.setRow (cs:=R1) hS)).trans (Grow.setRow (w:=w1.setRow g R1) (cs:=(cur.toList.take (i * 8)++(cur.toList.take ((i + 1 + m) * 8)).drop ((i + 1) * 8)++rest).toArray) hS)
 obtain ⟨f1,_⟩:=qiT hl i
 obtain ⟨_,f2⟩:=qiT hl (i + 1)
 have hlen:(l.take i++l.drop (i + 1)).length=i + m:=by rw [List.length_append,List.length_take,List.length_drop]; omega
 have hF:F2 (PR w S) (l.take i++l.drop (i + 1)).flatten (cur.toList.take (i * 8)++(cur.toList.take ((i + 1 + m) * 8)).drop ((i + 1) * 8)):=by
  rw [List.flatten_append,f1,f2]
  refine F2.app ?_ (hf.drop _)
  have:=hf.take (i * 8)
  rwa [List.take_take,Nat.min_eq_left (by omega)] at this
 have hR:RowOk ((w1.setRow g R1).setRow g (cur.toList.take (i * 8)++(cur.toList.take ((i + 1 + m) * 8)).drop ((i + 1) * 8)++rest).toArray) S 8 (l.take i++l.drop (i + 1)) (.slice (some ⟨g,0,none⟩) (i + m) cap) (some g):=by
  refine .inr ⟨g,cap,_,e,by decide,rfl,by rw [hlen],hS,setRow_heap _ g _ _ e (0,0) hh2,by rw [hlen]; omega,hmax,?_,fun r hr=>?_,?_⟩
  ·have:=hF.len
   rw [List.size_toArray,List.length_append,←hF.len,qaG (k:=8) (fun r hr=>?_),hlen,hrl,Nat.sub_mul]
   ·have:=Nat.mul_le_mul_right 8 (show i + m≤cap by omega); omega
   ·rcases List.mem_append.1 hr with hr | hr
    ·exact hl r (List.mem_of_mem_take hr)
    ·exact hl r (List.mem_of_mem_drop hr)
  ·rcases List.mem_append.1 hr with hr | hr
   ·exact hl r (List.mem_of_mem_take hr)
   ·exact hl r (List.mem_of_mem_drop hr)
  ·have hl8:(cur.toList.take (i * 8)++(cur.toList.take ((i + 1 + m) * 8)).drop ((i + 1) * 8)).length=(l.take i++l.drop (i + 1)).length * 8:=by
    rw [←hF.len]
    exact qaG (k:=8) (fun r hr=>by
     rcases List.mem_append.1 hr with hr | hr
     ·exact hl r (List.mem_of_mem_take hr)
     ·exact hl r (List.mem_of_mem_drop hr))
   rw [List.toList_toArray,←hl8,List.take_left]
   exact hF.mono' fun _ _ h=>h.grow hG
 obtain ⟨inj',hd⟩:=qk1 (n:=1) hI rfl hfree hG hR
 exact ⟨_,S,inj',rfl,hd⟩
end Go.Proofs.YtidkmoohgadjkaaGreat.E
namespace Go.Proofs.YtidkmoohgadjkaaGreat
open Go E
def qsQ (l:List Item) (i:Int) (x:Item):Option (List Item):=chk (decide (0≤i∧i≤(l.length:Int)∧l.length≤1000000)) (some (l.take i.toNat++x::l.drop i.toNat))
theorem qBW {X:Task→Prop} (hX:qk X) {l r:List Item} {i:Int} {x:Item} {Q:A→List Blk→Prop} (h:qsQ l i x=some r) (hQ:Q (.one (.own 2)) [.dead,.dead,.rows 8 (r.map Item.row)]) :
  X (.call 172 [.one (.own 0),iv i,.one (.own 1)] [.rows 8 (l.map Item.row),.rows 8 [x.row]] Q):=by
 unfold qsQ at h
 obtain ⟨d,h⟩:=qq h
 injection h with h; subst h
 obtain ⟨h0,h1,h2⟩:=of_decide_eq_true d
 obtain ⟨n,rfl⟩:=Int.eq_ofNat_of_zero_le h0
 have hc:=qk2 (l:=l.map Item.row) (x:=x.row) (i:=n) (fun r hr=>by obtain ⟨y,_,rfl⟩:=List.mem_map.1 hr; rfl) rfl (by rw [List.length_map]; omega) (by rw [List.length_map]; exact h2)
 rw [Int.toNat_natCast,List.map_append,List.map_cons,List.map_take,List.map_drop] at hQ
 exact qe3 hX hc hQ
def qsR (l:List Item) (i:Int):Option (List Item):=chk (decide (0≤i∧i < (l.length:Int)∧l.length≤1000000)) (some (l.take i.toNat++l.drop (i.toNat + 1)))
theorem qBX {X:Task→Prop} (hX:qk X) {l r:List Item} {i:Int} {Q:A→List Blk→Prop} (h:qsR l i=some r) (hQ:Q (.one (.own 1)) [.dead,.rows 8 (r.map Item.row)]) :
  X (.call 171 [.one (.own 0),iv i,iv (wr .i64 (i + 1))] [.rows 8 (l.map Item.row)] Q):=by
 unfold qsR at h
 obtain ⟨d,h⟩:=qq h
 injection h with h; subst h
 obtain ⟨h0,h1,h2⟩:=of_decide_eq_true d
 obtain ⟨n,rfl⟩:=Int.eq_ofNat_of_zero_le h0
 have hc:=qk4 (l:=l.map Item.row) (i:=n) (fun r hr=>by obtain ⟨y,_,rfl⟩:=List.mem_map.1 hr; rfl) (by rw [List.length_map]; omega) (by rw [List.length_map]; exact h2)
 rw [Int.toNat_natCast,List.map_append,List.map_take,List.map_drop] at hQ
 rw [wr64 (by omega) (by omega)]
 exact qe3 hX hc hQ
end Go.Proofs.YtidkmoohgadjkaaGreat
namespace Go.Proofs.YtidkmoohgadjkaaGreat.E
open Go Go.Lib Go.RowKit
set_option maxHeartbeats 4000000 in
set_option maxRecDepth 100000 in
theorem qsS (n:Nat) (w:World) (h0:0 < n) (hn:n≤10000000):Calls Tryz.prog 226 #[.slice none 0 0,.int .i64 n] w fun x w'=>∃ (G:Nat) (R0:Array Value),G≤maxLen∧R0.size=G * 9∧x=.returned (.slice (some ⟨w.heap.size,0,none⟩) 0 G) ∧
  ∃ w1:World,w1.heap=w.heap∧w1.os=w.os∧w1.tape=w.tape∧w1.output=w.output∧w'=w1.alloc (.cells R0 153):=by
 have hI:=(T_ok 153).known (of_decide_eq_true (by kernel_rfl))
 have h9:(ty T 153).sz=9:=by kernel_rfl
 obtain ⟨i0,z,hi0,hzs,hzb,hz0,hzc,_⟩:=hI.info
 rw [h9] at hzs
 have hzl:z.cells.size=9:=by
  have:=hI.z
  rw [←Array.length_toList,hzc,this,h9]
 have hzb:i0.bytes≤1000:=by rw [hzb]; exact of_decide_eq_true (by kernel_rfl)
 have hold:(Builtin.firstCells i0.size 0 (.slice none 0 0)).run Tryz.prog w.drew=.ok ([]:List Value).toArray w.drew:=by
  simp [Builtin.firstCells]
 have hbb:(0 + n) * i0.bytes≤140737488355328:=by
  have:=Nat.mul_le_mul (show 0 + n≤10000000 by omega) hzb
  omega
 obtain ⟨G,hG⟩:∃ G,G=grownCap w (0 + n) 0 153:=⟨_,rfl⟩
 have hGn:0 + n≤G:=by rw [hG]; exact grownCap_ge w _ _ _
 have hG63:G≤maxLen:=by rw [hG]; exact grownCap_le_maxLen w (0 + n) 0 _ (by unfold maxLen; omega)
 obtain ⟨R0,hR0⟩:∃ R0:Array Value,R0=([]:List Value).toArray++Builtin.zeroCells z.cells n++Builtin.zeroCells z.cells (G - (0 + n)):=⟨_,rfl⟩
 have hrz:∀ ty,(Builtin.append_ #[29,3] ty #[.slice none 0 0,.int .i64 n]).run Tryz.prog w=.ok (.slice (some ⟨w.heap.size,0,none⟩) (0 + n) G) (w.drew.alloc (.cells R0 153)):=fun ty=>by
  have h:=Lib.run_append_grow_zeros w 29 3 ty 153 i0 z .i64 .i64 Tryz.underlying29 Tryz.underlying3 hi0 hz0 none 0 0 [] hold n (by omega) (by omega) (by omega) (by omega)
   (by have:=Nat.mul_le_mul_right i0.bytes (show n≤0 + n by omega); omega) (growslice_fits (by omega) hbb)
  rw [←hG] at h
  rw [hR0]
  exact h
 have sR0:Hold (R0.size=G * 9):=⟨by
  rw [hR0,Array.size_append,Array.size_append,size_zeroCells,size_zeroCells,hzl]
  simp; omega⟩
 rw [Nat.zero_add] at hrz hGn
 have hpos:¬ ((n:Int) < 0):=by omega
 have hp2:(0:Int) < (n:Int):=by omega
 have hG6:G≤9223372036854775807:=hG63
 clear hR0 hG hold hbb hzl hzs hzb hz0 hzc hi0 hI h9 hG63
 go_enter Tryz.func226,Tryz.ntmps226
 go_wp2_with (at_builtin; refine Lib.wpList_append_run _ rfl _ _ _ _ rfl _ _ rfl rfl _ _ (hrz _) ?_)
 go_ret
 first | exact ⟨G,R0,hG6,sR0.h,rfl,w.drew,rfl,rfl,rfl,rfl,rfl⟩ | exact ⟨G,hG6,R0,sR0.h,rfl,w.drew,rfl,rfl,rfl,rfl,rfl⟩
set_option maxHeartbeats 4000000 in
set_option maxRecDepth 100000 in
theorem qsT (w:World):Calls Tryz.prog 226 #[.slice none 0 0,.int .i64 0] w fun x w'=>x=.returned (.slice none 0 0)∧w'=w:=by
 go_enter Tryz.func226,Tryz.ntmps226
 go_wp2
 go_ret
 exact ⟨rfl,rfl⟩
set_option maxRecDepth 100000 in
theorem qnV {n:Int} (h0:0≤n) (hn:n≤10000000):qcS Tryz.prog 226 [.one (.p (.v (.slice none 0 0))),iv n] [] (.one (.own 0)) [.rows 9 []]:=by
 refine ⟨⟨_,_,Tryz.func226,rfl,rfl⟩,fun w S inj vs hv hI hfree=>?_⟩
 cases hv with
 | cons h1 hv =>
 cases hv with
 | cons h2 hv =>
 cases hv
 have e1:=h1.flatv.1
 have e2:=h2.flatv.1
 subst e1 e2
 obtain ⟨n,rfl⟩:=Int.eq_ofNat_of_zero_le h0
 by_cases hz:n=0
 ·subst hz
  refine (qsT w).mono ?_
  rintro e' w' ⟨rfl,rfl⟩
  obtain ⟨inj',hd⟩:=qk1 (n:=0) (k:=9) (l:=[]) hI rfl hfree (.refl _ _) (.inl ⟨rfl,rfl,none,rfl⟩)
  exact ⟨_,S,inj',rfl,hd⟩
 ·refine (qsS n w (by omega) (by omega)).mono ?_
  rintro e' w' ⟨G,R0,hGm,hs,rfl,w1,hw1,hos,htape,hout,rfl⟩
  have hz:w1.heap.size=w.heap.size:=by rw [hw1]
  have hG:Grow w S (w1.alloc (.cells R0 153)) S:=⟨hos,htape,hout,by simp [hz],fun g' hg'=>by rw [hao _ _ _ (by rw [hz]; exact hI.lt g' hg'),hw1],fun _ h=>h,rfl⟩
  have hh1:(w1.alloc (.cells R0 153)).heap[w.heap.size]?=some (.cells R0 153 (0,0)):=by have:=han w1 (.cells R0 153); rwa [hz] at this
  obtain ⟨inj',hd⟩:=qk1 (n:=0) (k:=9) (l:=[]) hI rfl hfree hG (.inr ⟨w.heap.size,G,R0,_,by decide,rfl,rfl,fun h=>absurd (hI.lt _ h) (by omega),hh1,by simp,hGm,hs,by simp,by simpa using F2.nil⟩)
  exact ⟨_,S,inj',rfl,hd⟩
end Go.Proofs.YtidkmoohgadjkaaGreat.E
namespace Go.Proofs.YtidkmoohgadjkaaGreat
open Go E
def qmz (n:Int):Option (List Frag):=chk (decide (0≤n∧n≤10000000)) (some [])
theorem qAa {X:Task→Prop} (hX:qk X) {n:Int} {r:List Frag} {Q:A→List Blk→Prop} (h:qmz n=some r) (hQ:Q (.one (.own 0)) [.rows 9 (r.map Frag.row)]) :
  X (.call 226 [.one (.p (.v (.slice Option.none 0 0))),iv n] [] Q):=by
 unfold qmz at h
 obtain ⟨d,h⟩:=qq h
 injection h with h; subst h
 obtain ⟨h0,h1⟩:=of_decide_eq_true d
 exact qe3 hX (qnV h0 h1) hQ
end Go.Proofs.YtidkmoohgadjkaaGreat
set_option maxHeartbeats 0
namespace Go.Proofs.YtidkmoohgadjkaaGreat
open Go E
noncomputable section
open Pred
def qch (p0:Know) (p1:ByteArray) (p2:Ver):Option (Know) :=
 (chk (qT 0 p0.l.length)
  (bnd (qdu (V8.mk 0 0 0 0 0 0 0 0) p2) fun y2 =>
   (chk (qT p0.l.length 1)
    (bnd (qaM (Know.mk p0.star (p0.l++[(Frag.mk [p1] y2)]))) fun y5 =>
     some y5))))
def qd1 (p0:Know) (p1:Know):Option (Know) :=
 (bnd (qdK p0.star p1.star) fun y1 =>
  (chk (qT 0 p0.l.length)
   (chk (qT p0.l.length p1.l.length)
    (bnd (qaM (Know.mk y1 (p0.l++p1.l))) fun y5 =>
     some y5))))
def qaO (p1:ByteArray):List Item→(List Item)→Option ((List Item))
  | [],v2 =>
  some v2
  | x1e::xs1,v2 =>
  (br (!eqS x1e.id p1)
   (chk (qT v2.length 1)
    (qaO p1 xs1  (v2++[x1e])))
   (qaO p1 xs1  v2))
def qci (p0:List Item) (p1:ByteArray):Option ((List Item)) :=
 (chk (qz p0)
   ((qaO p1) p0 ([]:List Item)))
def qbi (p1:Item):List Item→(List Item)→Option ((List Item))
  | [],v7 =>
  some v7
  | x2e::xs2,v7 =>
  (br (!(ltS x2e.id p1.id || eqS x2e.id p1.id))
   (chk (qT v7.length 1)
    (qbi p1 xs2  (v7++[x2e])))
   (qbi p1 xs2  v7))
def qbj (p0:List Item) (p1:Item):List Item→(List Item)→Option ((List Item))
  | [],v2 =>
  (chk (qT v2.length 1)
   (chk (qz p0)
     ((qbi p1) p0 (v2++[p1]))))
  | x1e::xs1,v2 =>
  (br (ltS x1e.id p1.id)
   (chk (qT v2.length 1)
    (qbj p0 p1 xs1  (v2++[x1e])))
   (qbj p0 p1 xs1  v2))
def qcj (p0:List Item) (p1:Item):Option ((List Item)) :=
 (chk (qz p0)
   ((qbj p0 p1) p0 ([]:List Item)))
def qaA:List Item→(List Item)→Option ((List Item))
  | [],v3 =>
  some v3
  | x1e::xs1,v3 =>
  (bnd (qbq v3 x1e.id) fun y4 =>
   (br (!y4.2)
    (bnd (qcj v3 x1e) fun y7 =>
     (qaA xs1  y7))
    (bnd (qan x1e y4.1) fun y9 =>
     (br y9
      (bnd (qcj v3 x1e) fun y12 =>
       (qaA xs1  y12))
      (qaA xs1  v3)))))
def qdl (p0:List Item) (p1:List Item):Option ((List Item)) :=
 (chk (qT 0 p0.length)
  (chk (qz p1)
    ((qaA) p1 p0)))
def qam (p1:List Item):List Item→Int→Option (Bool)
  | [],v2 =>
  some true
  | x1e::xs1,v2 =>
  (bnd (atL p1 v2) fun x3 =>
   (bnd (qdk x1e x3) fun y5 =>
    (br (!y5)
     (some false)
     (qam p1 xs1 (v2 + 1) ))))
def qaL (p0:List Item) (p1:List Item):Option (Bool) :=
 (br (!eqI (p0.length:Int) (p1.length:Int))
  (some false)
  (chk (qz p0)
    ((qam p1) p0 0 )))
variable {X:Task→Prop} (hX:qk X) {Q:A→List Blk→Prop}
include hX
theorem qf2  {p0:Know} {p1:ByteArray} {p2:Ver} {r:Know} (h:qch p0 p1 p2=some r) (hQ:Q (.agg (Know.cs r)) []):X (.call 101 [.agg (Know.cs p0),.one (.p (.v (.string p1))),.agg (Ver.cs p2)] [] Q):=by
 unfold qch at h
 refine qJ hX ?_
 conv=>whnf
 refine qb hX Tryz.func101 rfl rfl ?_
 revert h
 refine chkk fun c1 h=>?_
 revert h
 refine bndk fun y2 e3 h=>?_
 conv=>whnf
 repeat((first|refine dw ?_|refine bct (qdX c1 (List.length_map ..) rfl (qas (f:=Frag.row) (sz:=9) (fun _=>rfl) _) rfl) ?_|refine qg (qiF (f:=Frag.row) _) ?_);conv=>whnf)
 refine qiN hX e3 ?_
 revert h
 refine chkk fun c4 h=>?_
 revert h
 refine bndk fun y5 e6 h=>?_
 conv=>whnf
 repeat((first|refine dw ?_|refine bct (qx c4 rfl rfl rfl rfl) ?_|refine qg (qH (f:=Frag.row) p0.l (Frag.mk [p1] y2)) ?_);conv=>whnf)
 refine Or.inl ?_
 conv=>whnf
 refine qfB hX e6 ?_
 conv=>whnf
 repeat((first|refine dw ?_);conv=>whnf)
 exact qm (f:=fun y=>.agg (Know.cs y)) (g:=fun y=>[]) h hQ
theorem qmA  {p0:Know} {p1:Know} {r:Know} (h:qd1 p0 p1=some r) (hQ:Q (.agg (Know.cs r)) []):X (.call 135 [.agg (Know.cs p0),.agg (Know.cs p1)] [] Q):=by
 unfold qd1 at h
 refine qJ hX ?_
 conv=>whnf
 refine qb hX Tryz.func135 rfl rfl ?_
 revert h
 refine bndk fun y1 e2 h=>?_
 conv=>whnf
 repeat((first|refine dw ?_);conv=>whnf)
 refine qiO hX e2 ?_
 revert h
 refine chkk fun c3 h=>?_
 revert h
 refine chkk fun c4 h=>?_
 revert h
 refine bndk fun y5 e6 h=>?_
 conv=>whnf
 repeat((first|refine dw ?_|refine bct (qdX c3 (List.length_map ..) rfl (qas (f:=Frag.row) (sz:=9) (fun _=>rfl) _) rfl) ?_|refine qg (qiF (f:=Frag.row) _) ?_|refine bct (qx c4 (List.length_map ..) rfl (qas (f:=Frag.row) (sz:=9) (fun _=>rfl) _) rfl) ?_|refine qg (qgK (f:=Frag.row) p0.l _) ?_);conv=>whnf)
 refine Or.inl ?_
 conv=>whnf
 refine qfB hX e6 ?_
 conv=>whnf
 repeat((first|refine dw ?_);conv=>whnf)
 exact qm (f:=fun y=>.agg (Know.cs y)) (g:=fun y=>[]) h hQ
theorem qf3  {p0:List Item} {p1:ByteArray} {r:(List Item)} (h:qci p0 p1=some r) (hQ:Q (.one (.own 0)) [.rows 8 (r.map Item.row)]):X (.call 104 [.one (.p (.sl (p0.map Item.row))),.one (.p (.v (.string p1)))] [] Q):=by
  unfold qci at h
  refine qb hX Tryz.func104 rfl rfl ?_
  revert h
  refine chkk fun hs1 h=>?_
  conv=>whnf
  repeat((first|refine dw ?_);conv=>whnf)
  refine qeP hX [8] ?_
  conv=>whnf
  refine qO (fun (v1:Int) (v2:List Item)=>pad [(0,.one (.p (.sl (p0.map Item.row)))),(0,.one (.p (.v (.string p1)))),(3,.one (.own 0)),(0,iv v1)] 21) (fun (v1:Int) (v2:List Item)=>[.rows 8 (v2.map Item.row)]) _ p0 (fun pre1 x1e xs1 v1 v2 hl1 hi1 h ih1=>?_) (fun v1 v2 hi1 h=>?_) ([]:List Item) h
  ·rw [qaO] at h
   have am1:=qB hl1 hi1
   refine qa hX ?_
   conv=>whnf
   repeat((first|refine dw ?_|refine qg (qi _) ?_|refine bct (qC hl1 hi1) ?_|refine bct (qc am1) ?_|refine bct (andt (qc am1) rfl) ?_|refine qe (qf am1) ?_|refine bct (andt (qc (qd am1)) rfl) ?_|refine qe (qf (qd am1)) ?_);conv=>whnf)
   revert h
   refine brk (fun c3 h=>?_) (fun c3 h=>?_)
   ·revert h
    refine chkk fun c4 h=>?_
    conv=>whnf
    repeat((first|refine dw ?_|refine bct c3 ?_|refine bct (qc am1) ?_|refine bct (andt (qc am1) rfl) ?_|refine qe (qf am1) ?_|refine bct (andt (qc (qd am1)) rfl) ?_|refine qe (qf (qd am1)) ?_|refine bct (qx c4 rfl rfl rfl rfl) ?_|refine qg (qH (f:=Item.row) v2 x1e) ?_);conv=>whnf)
    exact ih1 _ (v2++[x1e]) (wrL hs1 hl1 hi1) h
   ·conv=>whnf
    repeat((first|refine dw ?_|refine bcf c3 ?_);conv=>whnf)
    exact ih1 _ v2 (wrL hs1 hl1 hi1) h
  ·rw [qaO] at h
   refine qa hX ?_
   conv=>whnf
   repeat((first|refine dw ?_|refine qg (qi _) ?_|refine bcf (qD hi1) ?_);conv=>whnf)
   exact qm (f:=fun y=>.one (.own 0)) (g:=fun y=>[.rows 8 (y.map Item.row)]) h hQ
theorem qfC  {p0:List Item} {p1:Item} {r:(List Item)} (h:qcj p0 p1=some r) (hQ:Q (.one (.own 0)) [.rows 8 (r.map Item.row)]):X (.call 92 [.one (.p (.sl (p0.map Item.row))),.agg (Item.cs p1)] [] Q):=by
  unfold qcj at h
  refine qb hX Tryz.func92 rfl rfl ?_
  revert h
  refine chkk fun hs1 h=>?_
  conv=>whnf
  repeat((first|refine dw ?_);conv=>whnf)
  refine qeP hX [8] ?_
  conv=>whnf
  refine qO (fun (v1:Int) (v2:List Item)=>pad [(0,.one (.p (.sl (p0.map Item.row)))),(2,.one (.ptr 0 0)),(1,.one (.own 1)),(0,iv v1)] 48) (fun (v1:Int) (v2:List Item)=>[.box (Item.cs p1),.rows 8 (v2.map Item.row)]) _ p0 (fun pre1 x1e xs1 v1 v2 hl1 hi1 h ih1=>?_) (fun v1 v2 hi1 h=>?_) ([]:List Item) h
  ·rw [qbj] at h
   have am1:=qB hl1 hi1
   refine qa hX ?_
   conv=>whnf
   repeat((first|refine dw ?_|refine qg (qi _) ?_|refine bct (qC hl1 hi1) ?_|refine bct (qc am1) ?_|refine bct (andt (qc am1) rfl) ?_|refine qe (qf am1) ?_|refine bct (andt (qc (qd am1)) rfl) ?_|refine qe (qf (qd am1)) ?_);conv=>whnf)
   revert h
   refine brk (fun c3 h=>?_) (fun c3 h=>?_)
   ·revert h
    refine chkk fun c4 h=>?_
    conv=>whnf
    repeat((first|refine dw ?_|refine bct c3 ?_|refine bct (qc am1) ?_|refine bct (andt (qc am1) rfl) ?_|refine qe (qf am1) ?_|refine bct (andt (qc (qd am1)) rfl) ?_|refine qe (qf (qd am1)) ?_|refine bct (qx c4 rfl rfl rfl rfl) ?_|refine qg (qH (f:=Item.row) v2 x1e) ?_);conv=>whnf)
    exact ih1 _ (v2++[x1e]) (wrL hs1 hl1 hi1) h
   ·conv=>whnf
    repeat((first|refine dw ?_|refine bcf c3 ?_);conv=>whnf)
    exact ih1 _ v2 (wrL hs1 hl1 hi1) h
  ·rw [qbj] at h
   refine qa hX ?_
   revert h
   refine chkk fun c5 h=>?_
   revert h
   refine chkk fun hs2 h=>?_
   conv=>whnf
   repeat((first|refine dw ?_|refine qg (qi _) ?_|refine bcf (qD hi1) ?_|refine bct (qx c5 rfl rfl rfl rfl) ?_|refine qg (qH (f:=Item.row) v2 p1) ?_);conv=>whnf)
   refine qO (fun (v6:Int) (v7:List Item)=>pad [(0,.one (.p (.sl (p0.map Item.row)))),(2,.one (.ptr 0 0)),(1,.one (.own 1)),(1,iv v6)] 47) (fun (v6:Int) (v7:List Item)=>[.box (Item.cs p1),.rows 8 (v7.map Item.row)]) _ p0 (fun pre2 x2e xs2 v6 v7 hl2 hi2 h ih2=>?_) (fun v6 v7 hi2 h=>?_) (v2++[p1]) h
   ·rw [qbi] at h
    have am2:=qB hl2 hi2
    refine qa hX ?_
    conv=>whnf
    repeat((first|refine dw ?_|refine qg (qi _) ?_|refine bct (qC hl2 hi2) ?_|refine bct (qc am2) ?_|refine bct (andt (qc am2) rfl) ?_|refine qe (qf am2) ?_|refine bct (andt (qc (qd am2)) rfl) ?_|refine qe (qf (qd am2)) ?_);conv=>whnf)
    revert h
    refine brk (fun c8 h=>?_) (fun c8 h=>?_)
    ·revert h
     refine chkk fun c9 h=>?_
     conv=>whnf
     repeat((first|refine dw ?_|refine bct c8 ?_|refine bct (qc am2) ?_|refine bct (andt (qc am2) rfl) ?_|refine qe (qf am2) ?_|refine bct (andt (qc (qd am2)) rfl) ?_|refine qe (qf (qd am2)) ?_|refine bct (qx c9 rfl rfl rfl rfl) ?_|refine qg (qH (f:=Item.row) v7 x2e) ?_);conv=>whnf)
     exact ih2 _ (v7++[x2e]) (wrL hs2 hl2 hi2) h
    ·conv=>whnf
     repeat((first|refine dw ?_|refine bcf c8 ?_);conv=>whnf)
     exact ih2 _ v7 (wrL hs2 hl2 hi2) h
   ·rw [qbi] at h
    refine qa hX ?_
    conv=>whnf
    repeat((first|refine dw ?_|refine qg (qi _) ?_|refine bcf (qD hi2) ?_);conv=>whnf)
    exact qm (f:=fun y=>.one (.own 0)) (g:=fun y=>[.rows 8 (y.map Item.row)]) h hQ
theorem qhM  {p0:List Item} {p1:List Item} {r:(List Item)} (h:qdl p0 p1=some r) (hQ:Q (.one (.p (.sl (r.map Item.row)))) []):X (.call 29 [.one (.p (.sl (p0.map Item.row))),.one (.p (.sl (p1.map Item.row)))] [] Q):=by
  unfold qdl at h
  refine qJ hX ?_
  conv=>whnf
  refine qb hX Tryz.func29 rfl rfl ?_
  revert h
  refine chkk fun c1 h=>?_
  revert h
  refine chkk fun hs1 h=>?_
  conv=>whnf
  repeat((first|refine dw ?_|refine bct (qdX c1 (List.length_map ..) rfl (qas (f:=Item.row) (sz:=8) (fun _=>rfl) _) rfl) ?_|refine qg (qiF (f:=Item.row) _) ?_);conv=>whnf)
  refine qO (fun (v2:Int) (v3:List Item)=>pad [(1,.one (.p (.sl (p1.map Item.row)))),(3,.one (.own 0)),(0,iv v2)] 38) (fun (v2:Int) (v3:List Item)=>[.rows 8 (v3.map Item.row)]) _ p1 (fun pre1 x1e xs1 v2 v3 hl1 hi1 h ih1=>?_) (fun v2 v3 hi1 h=>?_) p0 h
  ·rw [qaA] at h
   have am1:=qB hl1 hi1
   refine qa hX ?_
   revert h
   refine bndk fun y4 e5 h=>?_
   conv=>whnf
   repeat((first|refine dw ?_|refine qg (qi _) ?_|refine bct (qC hl1 hi1) ?_|refine bct (qc am1) ?_|refine bct (andt (qc am1) rfl) ?_|refine qe (qf am1) ?_|refine bct (andt (qc (qd am1)) rfl) ?_|refine qe (qf (qd am1)) ?_);conv=>whnf)
   refine Or.inl ?_
   conv=>whnf
   refine qeA hX e5 ?_
   conv=>whnf
   repeat((first|refine dw ?_);conv=>whnf)
   revert h
   refine brk (fun c6 h=>?_) (fun c6 h=>?_)
   ·revert h
    refine bndk fun y7 e8 h=>?_
    conv=>whnf
    repeat((first|refine dw ?_|refine bct c6 ?_|refine bct (qc am1) ?_|refine bct (andt (qc am1) rfl) ?_|refine qe (qf am1) ?_|refine bct (andt (qc (qd am1)) rfl) ?_|refine qe (qf (qd am1)) ?_);conv=>whnf)
    refine Or.inl ?_
    conv=>whnf
    refine qfC hX e8 ?_
    conv=>whnf
    repeat((first|refine dw ?_);conv=>whnf)
    exact ih1 _ y7 (wrL hs1 hl1 hi1) h
   ·revert h
    refine bndk fun y9 e10 h=>?_
    conv=>whnf
    repeat((first|refine dw ?_|refine bcf c6 ?_|refine bct (qc am1) ?_|refine bct (andt (qc am1) rfl) ?_|refine qe (qf am1) ?_|refine bct (andt (qc (qd am1)) rfl) ?_|refine qe (qf (qd am1)) ?_);conv=>whnf)
    refine qe0 hX e10 ?_
    conv=>whnf
    repeat((first|refine dw ?_|refine bcf c6 ?_);conv=>whnf)
    revert h
    refine brk (fun c11 h=>?_) (fun c11 h=>?_)
    ·revert h
     refine bndk fun y12 e13 h=>?_
     conv=>whnf
     repeat((first|refine dw ?_|refine bct c11 ?_|refine bct (qc am1) ?_|refine bct (andt (qc am1) rfl) ?_|refine qe (qf am1) ?_|refine bct (andt (qc (qd am1)) rfl) ?_|refine qe (qf (qd am1)) ?_);conv=>whnf)
     refine Or.inl ?_
     conv=>whnf
     refine qfC hX e13 ?_
     conv=>whnf
     repeat((first|refine dw ?_);conv=>whnf)
     exact ih1 _ y12 (wrL hs1 hl1 hi1) h
    ·conv=>whnf
     repeat((first|refine dw ?_|refine bcf c11 ?_);conv=>whnf)
     exact ih1 _ v3 (wrL hs1 hl1 hi1) h
  ·rw [qaA] at h
   refine qa hX ?_
   conv=>whnf
   repeat((first|refine dw ?_|refine qg (qi _) ?_|refine bcf (qD hi1) ?_);conv=>whnf)
   exact qm (f:=fun y=>.one (.p (.sl (y.map Item.row)))) (g:=fun y=>[]) h hQ
theorem qfH  {p0:List Item} {p1:List Item} {r:Bool} (h:qaL p0 p1=some r) (hQ:Q (.one (.p (.v (.bool r)))) []):X (.call 43 [.one (.p (.sl (p0.map Item.row))),.one (.p (.sl (p1.map Item.row)))] [] Q):=by
  have K:=fun a (e:some a=some r)=>qm (f:=fun y=>.one (.p (.v (.bool y)))) (g:=fun y=>[]) e hQ
  unfold qaL at h
  refine qb hX Tryz.func43 rfl rfl ?_
  conv=>whnf
  repeat((first|refine dw ?_|refine qg (qi _) ?_);conv=>whnf)
  revert h
  refine brk (fun c1 h=>?_) (fun c1 h=>?_)
  ·conv=>whnf
   repeat((first|refine dw ?_|refine bct c1 ?_);conv=>whnf)
   exact K _ h
  ·revert h
   refine chkk fun hs1 h=>?_
   conv=>whnf
   repeat((first|refine dw ?_|refine bcf c1 ?_);conv=>whnf)
   refine qI (fun (v2:Int)=>pad [(0,.one (.p (.sl (p0.map Item.row)))),(0,.one (.p (.sl (p1.map Item.row)))),(3,iv v2)] 23) (fun (v2:Int)=>[]) _ p0 (fun pre1 x1e xs1 v2  hl1 hi1 h ih1=>?_) (fun v2  hi1 h=>?_)  h
   ·rw [qam] at h
    have am1:=qB hl1 hi1
    refine qa hX ?_
    revert h
    refine bndk fun x3 a4 h=>?_
    revert h
    refine bndk fun y5 e6 h=>?_
    conv=>whnf
    repeat((first|refine dw ?_|refine qg (qi _) ?_|refine bct (qC hl1 hi1) ?_|refine bct (qc am1) ?_|refine bct (andt (qc am1) rfl) ?_|refine qe (qf am1) ?_|refine bct (andt (qc (qd am1)) rfl) ?_|refine qe (qf (qd am1)) ?_|refine bct (qc a4) ?_|refine bct (andt (qc a4) rfl) ?_|refine qe (qf a4) ?_|refine bct (andt (qc (qd a4)) rfl) ?_|refine qe (qf (qd a4)) ?_);conv=>whnf)
    refine qhK hX e6 ?_
    conv=>whnf
    repeat((first|refine dw ?_);conv=>whnf)
    revert h
    refine brk (fun c7 h=>?_) (fun c7 h=>?_)
    ·conv=>whnf
     repeat((first|refine dw ?_|refine bct c7 ?_);conv=>whnf)
     exact K _ h
    ·conv=>whnf
     repeat((first|refine dw ?_|refine bcf c7 ?_);conv=>whnf)
     exact ih1 _  (wrL hs1 hl1 hi1) h
   ·rw [qam] at h
    refine qa hX ?_
    conv=>whnf
    repeat((first|refine dw ?_|refine qg (qi _) ?_|refine bcf (qD hi1) ?_);conv=>whnf)
    exact K _ h
end
end Go.Proofs.YtidkmoohgadjkaaGreat
set_option maxHeartbeats 0
namespace Go.Proofs.YtidkmoohgadjkaaGreat
open Go E
noncomputable section
open Pred
def qa2:List Item→(List Item)→Option ((List Item))
  | [],v2 =>
  some v2
  | x1e::xs1,v2 =>
  (bnd (qeT x1e) fun y3 =>
   (chk (qT v2.length 1)
    (qa2 xs1  (v2++[y3]))))
def qcI (p0:List Item):Option ((List Item)) :=
 (chk (qz p0)
   ((qa2) p0 ([]:List Item)))
def qa3:List Frag→Option (Int)
  | [] =>
  some 1
  | x1e::xs1 =>
  (br (ltI 60 (x1e.ids.length:Int))
   (some 0)
   (qa3 xs1  ))
def qdy (p0:Know):Option (Int) :=
 (br (ltI 30 (p0.l.length:Int))
  (some 0)
  (chk (qz p0.l)
    ((qa3) p0.l )))
def qdm (p0:Sit):Option (Int) :=
 (br (ltI 60 (p0.store.length:Int))
  (some 0)
  (br (ltI 60 (p0.out.length:Int))
   (some 0)
   (bnd (qbo p0.f) fun y3 =>
    (bnd (qdy p0.k) fun y5 =>
     some (wr .i64 (y3 * y5))))))
def qcJ (p0:Sit):Option (State) :=
 (bnd (qd0 p0.f) fun y1 =>
  (bnd (qcI p0.store) fun y3 =>
   (bnd (qcI p0.out) fun y5 =>
    some (State.mk p0.r y1 y3 y5 p0.k p0.count p0.clock p0.epoch))))
variable {X:Task→Prop} (hX:qk X) {Q:A→List Blk→Prop}
include hX
theorem qha  {p0:List Item} {r:(List Item)} (h:qcI p0=some r) (hQ:Q (.one (.p (.sl (r.map Item.row)))) []):X (.call 80 [.one (.p (.sl (p0.map Item.lrow)))] [] Q):=by
  unfold qcI at h
  refine qJ hX ?_
  conv=>whnf
  refine qb hX Tryz.func80 rfl rfl ?_
  revert h
  refine chkk fun hs1 h=>?_
  conv=>whnf
  repeat((first|refine dw ?_);conv=>whnf)
  refine qeP hX [8] ?_
  conv=>whnf
  refine qO (fun (v1:Int) (v2:List Item)=>pad [(0,.one (.p (.sl (p0.map Item.lrow)))),(2,.one (.own 0)),(0,iv v1)] 15) (fun (v1:Int) (v2:List Item)=>[.rows 8 (v2.map Item.row)]) _ p0 (fun pre1 x1e xs1 v1 v2 hl1 hi1 h ih1=>?_) (fun v1 v2 hi1 h=>?_) ([]:List Item) h
  ·rw [qa2] at h
   have am1:=qB hl1 hi1
   refine qa hX ?_
   revert h
   refine bndk fun y3 e4 h=>?_
   conv=>whnf
   repeat((first|refine dw ?_|refine qg (qi _) ?_|refine bct (qC hl1 hi1) ?_|refine bct (qc am1) ?_|refine bct (andt (qc am1) rfl) ?_|refine qe (qf am1) ?_|refine bct (andt (qc (qd am1)) rfl) ?_|refine qe (qf (qd am1)) ?_);conv=>whnf)
   refine qmw hX e4 ?_
   revert h
   refine chkk fun c5 h=>?_
   conv=>whnf
   repeat((first|refine dw ?_|refine bct (qx c5 rfl rfl rfl rfl) ?_|refine qg (qH (f:=Item.row) v2 y3) ?_);conv=>whnf)
   exact ih1 _ (v2++[y3]) (wrL hs1 hl1 hi1) h
  ·rw [qa2] at h
   refine qa hX ?_
   conv=>whnf
   repeat((first|refine dw ?_|refine qg (qi _) ?_|refine bcf (qD hi1) ?_);conv=>whnf)
   exact qm (f:=fun y=>.one (.p (.sl (y.map Item.row)))) (g:=fun y=>[]) h hQ
theorem qk5  {p0:Know} {r:Int} (h:qdy p0=some r) (hQ:Q (iv r) []):X (.call 54 [.agg (Know.cs p0)] [] Q):=by
  have K:=fun a (e:some a=some r)=>qm (f:=fun y=>iv y) (g:=fun y=>[]) e hQ
  unfold qdy at h
  refine qb hX Tryz.func54 rfl rfl ?_
  conv=>whnf
  repeat((first|refine dw ?_|refine qg (qi _) ?_);conv=>whnf)
  revert h
  refine brk (fun c1 h=>?_) (fun c1 h=>?_)
  ·conv=>whnf
   repeat((first|refine dw ?_|refine bct c1 ?_);conv=>whnf)
   exact K _ h
  ·revert h
   refine chkk fun hs1 h=>?_
   conv=>whnf
   repeat((first|refine dw ?_|refine bcf c1 ?_);conv=>whnf)
   refine qal (fun (v2:Int)=>pad [(1,.one (.ptr 0 0)),(1,iv v2)] 19) (fun (v2:Int)=>[.box (Know.cs p0)]) _ p0.l (fun pre1 x1e xs1 v2  hl1 hi1 h ih1=>?_) (fun v2  hi1 h=>?_)  h
   ·rw [qa3] at h
    have am1:=qB hl1 hi1
    refine qa hX ?_
    conv=>whnf
    repeat((first|refine dw ?_|refine qg (qi _) ?_|refine bct (qC hl1 hi1) ?_|refine bct (qc am1) ?_|refine bct (andt (qc am1) rfl) ?_|refine qe (qf am1) ?_|refine bct (andt (qc (qd am1)) rfl) ?_|refine qe (qf (qd am1)) ?_);conv=>whnf)
    revert h
    refine brk (fun c3 h=>?_) (fun c3 h=>?_)
    ·conv=>whnf
     repeat((first|refine dw ?_|refine bct c3 ?_);conv=>whnf)
     exact K _ h
    ·conv=>whnf
     repeat((first|refine dw ?_|refine bcf c3 ?_);conv=>whnf)
     exact ih1 _  (wrL hs1 hl1 hi1) h
   ·rw [qa3] at h
    refine qa hX ?_
    conv=>whnf
    repeat((first|refine dw ?_|refine qg (qi _) ?_|refine bcf (qD hi1) ?_);conv=>whnf)
    exact K _ h
theorem qhN  {p0:Sit} {r:Int} (h:qdm p0=some r) (hQ:Q (iv r) []):X (.call 16 [.agg [ic p0.r,ic p0.f.op,.p (.v (.string p0.f.text)),ic p0.f.n,.p (.v (.float .f64 p0.f.re)),.p (.v (.float .f64 p0.f.im)),.p (.sl (Pred.lrows p0.f.kids)),.p (.sl (p0.store.map Item.lrow)),.p (.sl (p0.out.map Item.lrow)),ic p0.k.star.x0,ic p0.k.star.x1,ic p0.k.star.x2,ic p0.k.star.x3,ic p0.k.star.x4,ic p0.k.star.x5,ic p0.k.star.x6,ic p0.k.star.x7,.p (.sl (p0.k.l.map Frag.row)),ic p0.count,ic p0.clock,ic p0.epoch]] [] Q):=by
  have K:=fun a (e:some a=some r)=>qm (f:=fun y=>iv y) (g:=fun y=>[]) e hQ
  unfold qdm at h
  refine qb hX Tryz.func16 rfl rfl ?_
  conv=>whnf
  repeat((first|refine dw ?_|refine qg (qi _) ?_);conv=>whnf)
  revert h
  refine brk (fun c1 h=>?_) (fun c1 h=>?_)
  ·conv=>whnf
   repeat((first|refine dw ?_|refine bct c1 ?_);conv=>whnf)
   exact K _ h
  ·conv=>whnf
   repeat((first|refine dw ?_|refine bcf c1 ?_|refine qg (qi _) ?_);conv=>whnf)
   revert h
   refine brk (fun c2 h=>?_) (fun c2 h=>?_)
   ·conv=>whnf
    repeat((first|refine dw ?_|refine bct c2 ?_);conv=>whnf)
    exact K _ h
   ·revert h
    refine bndk fun y3 e4 h=>?_
    conv=>whnf
    repeat((first|refine dw ?_|refine bcf c2 ?_);conv=>whnf)
    refine qkY hX e4 ?_
    revert h
    refine bndk fun y5 e6 h=>?_
    conv=>whnf
    repeat((first|refine dw ?_);conv=>whnf)
    refine qk5 hX e6 ?_
    conv=>whnf
    repeat((first|refine dw ?_);conv=>whnf)
    exact K _ h
theorem qhb  {p0:Sit} {r:State} (h:qcJ p0=some r) (hQ:Q (.agg (State.cs r)) []):X (.call 21 [.agg [ic p0.r,ic p0.f.op,.p (.v (.string p0.f.text)),ic p0.f.n,.p (.v (.float .f64 p0.f.re)),.p (.v (.float .f64 p0.f.im)),.p (.sl (Pred.lrows p0.f.kids)),.p (.sl (p0.store.map Item.lrow)),.p (.sl (p0.out.map Item.lrow)),ic p0.k.star.x0,ic p0.k.star.x1,ic p0.k.star.x2,ic p0.k.star.x3,ic p0.k.star.x4,ic p0.k.star.x5,ic p0.k.star.x6,ic p0.k.star.x7,.p (.sl (p0.k.l.map Frag.row)),ic p0.count,ic p0.clock,ic p0.epoch]] [] Q):=by
 unfold qcJ at h
 refine qJ hX ?_
 conv=>whnf
 refine qb hX Tryz.func21 rfl rfl ?_
 revert h
 refine bndk fun y1 e2 h=>?_
 conv=>whnf
 repeat((first|refine dw ?_);conv=>whnf)
 refine qmx hX e2 ?_
 revert h
 refine bndk fun y3 e4 h=>?_
 conv=>whnf
 repeat((first|refine dw ?_);conv=>whnf)
 refine qha hX e4 ?_
 revert h
 refine bndk fun y5 e6 h=>?_
 conv=>whnf
 repeat((first|refine dw ?_);conv=>whnf)
 refine qha hX e6 ?_
 conv=>whnf
 repeat((first|refine dw ?_);conv=>whnf)
 exact qm (f:=fun y=>.agg (State.cs y)) (g:=fun y=>[]) h hQ
end
end Go.Proofs.YtidkmoohgadjkaaGreat
