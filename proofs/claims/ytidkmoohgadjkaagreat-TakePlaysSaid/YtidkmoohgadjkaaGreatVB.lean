/- Soundness of the operations, eighth part: rows that are made, appended to, cut; conversions; the builtins. Soundness of the operations, ninth part: append, slices of slices, literals, conversions, the other builtins. Soundness of the operations, tenth part: append, slices of slices, literals, conversions, the other builtins. Soundness of the operations: rows that have slices of their own. Soundness of the operations, eleventh part: slices of slices, literals, conversions, the builtins; all operations together. Soundness of the operations, twelfth part: slices of slices, literals, conversions; all operations together. Soundness of the operations, last part: literals, conversions; all operations together. Soundness of the operations: maps. Soundness of the operations: all together. Soundness of calls: renaming of blocks. Soundness of calls: arguments; numberings. Soundness of calls: the call. Soundness of calls: the return. Soundness of calls: all of it. Soundness of operations within a region. -/
import Derived.Test.YtidkmoohgadjkaaGreatVA
import Derived.Laws.MakeOwn
import Derived.Lib.AppendStr
import Derived.Laws.Cover2
import Derived.Laws.FloatArith
import Derived.Laws.IdiomStrings
import Derived.Laws.BytesArg
import Derived.Calls
import Derived.Tactics
set_option linter.unusedVariables false
set_option linter.unusedSimpArgs false
namespace Go.Proofs.YtidkmoohgadjkaaGreat.E
open Go
variable {P:Program} {T:List TI} {t:List A} {σ:List Blk} {nx:Nat} {o:Oper} {K:Kont}
open Classical in
noncomputable def kill (inj:Nat→Loc) (bs:List Nat) (b:Nat):Loc:=if b∈bs then .dead else inj b
open Classical in
noncomputable def qjt (f:Nat→Blk) (bs:List Nat) (b:Nat):Blk:=if b∈bs then .dead else f b
theorem qiu (inj:Nat→Loc) (bs:List Nat):Le inj (kill inj bs):=fun b=>by
 unfold kill; split
 ·exact .inr (.inr rfl)
 ·exact .inr (.inl (.refl _))
theorem qaj {inj:Nat→Loc} {bs:List Nat} {b:Nat} (h:b ∉ bs):kill inj bs b=inj b:=by unfold kill; rw [if_neg h]
theorem qb1 {f:Nat→Blk} {bs:List Nat} {b:Nat} (h:b ∉ bs):qjt f bs b=f b:=by unfold qjt; rw [if_neg h]
theorem qaK {f:Nat→Blk} {bs:List Nat} {b:Nat} (h:b∈bs):qjt f bs b=.dead:=by unfold qjt; rw [if_pos h]
theorem qoC (f:Nat→Blk) (nx:Nat) (bs:List Nat):upd f nx (bs.map fun b=>(b,.dead)) []=qjt f bs:=by
 funext b
 unfold upd qjt
 rw [if_neg (by simp)]
 split
 ·rename_i x hx
  have h1:=List.mem_of_find?_eq_some hx
  have h2:=List.find?_some hx
  obtain ⟨c,hc,rfl⟩:=List.mem_map.1 h1
  simp at h2
  subst h2
  rw [if_pos hc]
 ·rename_i hx
  rw [if_neg]
  intro hb
  have:=List.find?_eq_none.1 hx (b,.dead) (List.mem_map.2 ⟨b,hb,rfl⟩)
  simp at this
theorem qeR (f:Nat→Blk) (nx:Nat) (bs:List Nat) (B:Blk):upd f nx (bs.map fun b=>(b,.dead)) [B]=setB (qjt f bs) nx B:=by
 funext b
 by_cases h:b=nx
 ·subst h; rw [qaa]; unfold upd; simp
 ·rw [qZ h,←qoC f nx bs]
  unfold upd
  rw [if_neg (by simp; omega),if_neg (by simp)]
theorem Inv.kill {w S inj f bs} (hi:Inv w S inj f) (hd:∀ b,b∈bs→f b≠.dead):Inv w (SB S inj bs) (kill inj bs) (qjt f bs):=by
 refine ⟨fun b=>?_,fun b b' g h1 h2 h3 h4=>?_,fun g hg=>?_,fun g hf hs=>?_⟩
 ·by_cases h:b∈bs
  ·rw [qaK h]; trivial
  ·rw [qb1 h,qaj h]
   by_cases hdb:f b=.dead
   ·rw [hdb]; trivial
   ·refine (hi.live b).grow qro (qiu _ _) (fun _ _=>rfl) (fun g hg hs=>?_)
    rcases hs with (hs | ⟨b',hb',hg'⟩) | hs
    ·exact ((hi.live b).blk hdb hg).1 (.inl hs)
    ·have:=hi.sep b b' g hdb (hd b' hb') hg hg'
     subst this; exact h hb'
    ·exact ((hi.live b).blk hdb hg).1 (.inr hs)
 ·have n1:b ∉ bs:=fun h=>h1 (qaK h)
  have n2:b' ∉ bs:=fun h=>h2 (qaK h)
  rw [qb1 n1] at h1; rw [qb1 n2] at h2; rw [qaj n1] at h3; rw [qaj n2] at h4
  exact hi.sep _ _ _ h1 h2 h3 h4
 ·rcases hg with (hg | ⟨b',hb',hg'⟩) | hg
  ·exact hi.lt g (.inl hg)
  ·exact ((hi.live b').blk (hd b' hb') hg').2
  ·exact hi.lt g (.inr hg)
 ·rcases hs with hs | ⟨b',hb',hg'⟩
  ·exact hi.dj g hf hs
  ·exact ((hi.live b').blk (hd b' hb') hg').1 (.inr hf)
theorem Inv.drop {w S inj f b} (hi:Inv w S inj f):Inv w S (qbG inj b .dead) (setB f b .dead) :=
 hi.set (.refl _ _) qe4 (fun _ h=>qu h) qA (fun b' g hne hd hg=>⟨rfl,((hi.live b').blk hd hg).1⟩) trivial (fun h=>absurd rfl h) hi.lt
theorem qoD {k:Nat} {l:List (List PC)} {bs rd:List Nat} (hk:K (.one (.own nx)) (bs.map fun b=>(b,.dead)) [.rows k l] rd)
  (hrun:∀ (a:Act) (w:World) (S inj f),(∀ x,x∈o.op.operands→VA w S inj (opd t x) (a.eval x))→Inv w S inj f→(∀ b,b∈rd++bs→f b=look σ b)→(∀ b,b∈bs→f b≠.dead) ∧
   ∃ (w0:World) (cur:Array Value) (e:TypeId) (n cap:Nat),(∀ g,g < w.heap.size→w0.heap[g]?=w.heap[g]?)∧w0.heap.size=w.heap.size∧w0.os=w.os∧w0.tape=w.tape∧w0.output=w.output ∧
    (execOp a.eval o).run P w=.ok (.value (.slice (some ⟨w.heap.size,0,none⟩) n cap)) (w0.alloc (.cells cur e)) ∧
    0 < k∧n=l.length∧n≤cap∧cap≤maxLen∧cur.size=cap * k∧(∀ r∈l,r.length=k)∧F2 (PR w (SB S inj bs)) l.flatten (cur.toList.take (n * k))):qM P t σ nx o K:=by
 refine ⟨_,_,_,_,hk,fun a f w S inj next Q hop hf hi hfr hn=>?_⟩
 obtain ⟨hnd,w0,cur,e,n,cap,h0,hsz,hos,htp,hout,hr,hk0,hnl,hcap,hmax,hcs,hrl,hfl⟩:=hrun a w S inj f hop hi (fun b hb=>hf b (by
  simp at hb ⊢
  rcases hb with hb | hb
  ·exact .inl hb
  ·exact .inr hb))
 have h00:=hfr 0 (by simp)
 have hnx:nx ∉ bs:=fun hb=>hnd nx hb h00.2
 have hik:=hi.kill hnd
 have hfree:kill inj bs nx=.free:=by rw [qaj hnx]; exact h00.1
 have hG0:Grow w (SB S inj bs) (w0.alloc (.cells cur e)) (SB S inj bs) :=
  ⟨hos,htp,hout,by simp; omega,fun g hg=>by rw [hao _ _ _ (by rw [hsz]; exact hik.lt g hg),h0 g (hik.lt g hg)],fun _ h=>h,rfl⟩
 have hle:=qa7 (l:=.row (.slice (some ⟨w.heap.size,0,none⟩) n cap) (some w.heap.size)) hfree
 refine qX hr (hn _ _ (SB S inj bs) (qbG (kill inj bs) nx (.row (.slice (some ⟨w.heap.size,0,none⟩) n cap) (some w.heap.size))) ⟨?_,(qiu _ _).trans hle,fun b hb hbb=>?_,.ofc (.own (.inr ⟨some w.heap.size,by rw [qA]; rfl⟩)),?_⟩)
 ·exact ⟨hos,htp,hout,by simp; omega,fun g hg=>by rw [hao _ _ _ (by rw [hsz]; exact hi.lt g hg),h0 g (hi.lt g hg)],fun _ h=>.inl h,rfl⟩
 ·rw [qu (by simp at hbb; omega)]
  by_cases hbm:b∈bs
  ·exfalso
   have hl:=hi.live b
   have hd:=hnd b hbm
   rw [hb] at hl
   exact hd hl.free
  ·rw [qaj hbm]; exact hb
 ·rw [qeR]
  refine hik.set hG0 hle (fun _ h=>qu h) qA (fun b g hb hd hg=>?_) ?_ (fun _ b g hb hd hg1 hg2=>?_) (fun g hg=>by simp; have:=hik.lt g hg; omega)
  ·obtain ⟨h1,h2⟩:=(hik.live b).blk hd hg
   exact ⟨by rw [hao _ _ _ (by rw [hsz]; exact h2),h0 g h2],h1⟩
  ·refine ⟨_,_,rfl,.inr ⟨w.heap.size,cap,cur,e,hk0,rfl,by rw [hnl],fun hs=>absurd (hik.lt _ hs) (by omega),by rw [←hsz]; exact han w0 _,by rw [←hnl]; exact hcap,hmax,hcs,hrl,?_⟩⟩
   rw [←hnl]
   exact hfl.mono' fun _ _ h=>h.grow hG0
  ·injection hg1 with hg1
   have:=((hik.live b).blk hd hg2).2
   omega
theorem Inv.growS {w S w' S' inj f} (hi:Inv w S inj f) (hg:Grow w S w' S') (hw:∀ g,g < w.heap.size→w'.heap[g]?=w.heap[g]?) (hs:∀ g,S'.all g→S.all g∨(w.heap.size≤g∧g < w'.heap.size)) (hd:∀ g,S'.fr g→¬ S' g):Inv w' S' inj f:=by
 refine ⟨fun b=>?_,hi.sep,fun g hg'=>?_,hd⟩
 ·by_cases hb:f b=.dead
  ·rw [hb]; trivial
  ·refine (hi.live b).grow hg (.refl _) (fun g hl=>hw g ((hi.live b).blk hb hl).2) fun g hl h=>?_
   have h1:=(hi.live b).blk hb hl
   rcases hs g h with h | h
   ·exact h1.1 h
   ·omega
 ·rcases hs g hg' with h | h
  ·exact Nat.lt_of_lt_of_le (hi.lt g h) hg.size
  ·exact h.2
theorem Inv.growG {w S w' S' inj f} (hi:Inv w S inj f) (hg:Grow w S w' S') (hw:∀ b g,f b≠.dead→(inj b).blk g→w'.heap[g]?=w.heap[g]?∧¬ S'.all g) (hlt:∀ g,S'.all g→g < w'.heap.size) (hd:∀ g,S'.fr g→¬ S' g):Inv w' S' inj f:=by
 refine ⟨fun b=>?_,hi.sep,hlt,hd⟩
 by_cases hb:f b=.dead
 ·rw [hb]; trivial
 ·exact (hi.live b).grow hg (.refl _) (fun g hl=>(hw b g hb hl).1) fun g hl=>(hw b g hb hl).2
theorem quJ (z:List Value) (n:Nat) {w S} (hfl:∀ v∈z,flat v=true):F2 (PR w S) (List.replicate n (z.map PC.v)).flatten (List.replicate n z).flatten:=by
 induction n with
 | zero=>exact .nil
 | succ n ih =>
  simp only [List.replicate_succ,List.flatten_cons]
  refine .app (F2.of_get (by simp) fun i a b ha hb=>?_) ih
  rw [List.getElem?_map,Option.map_eq_some_iff] at ha
  obtain ⟨x,hx,rfl⟩:=ha
  rw [hx] at hb; injection hb with hb; subst hb
  exact .v (hfl x (List.mem_of_getElem? hx))
theorem qgu (z:List Value) (hz:0 < z.length):∀ n,(madeCells z.toArray (n * z.length)).toList=(List.replicate n z).flatten:=by
 intro n
 apply List.ext_getElem?
 intro i
 simp only [madeCells,Array.toList_map,Array.toList_range,List.getElem?_map]
 by_cases h:i < n * z.length
 ·rw [List.getElem?_range h]
  have hr:(List.replicate n z)[i / z.length]?=some z:=by
   rw [List.getElem?_replicate,if_pos (Nat.div_lt_of_lt_mul (by rw [Nat.mul_comm]; exact h))]
  have:=qft (k:=z.length) (fun r hr=>by rw [List.eq_of_mem_replicate hr]) hr (Nat.mod_lt i hz)
  rw [show i / z.length * z.length + i % z.length=i from by rw [Nat.mul_comm]; exact Nat.div_add_mod i _] at this
  rw [this]
  have hm:=Nat.mod_lt i hz
  simp [getElem!_def,hm]
 ·rw [List.getElem?_eq_none (by simp; omega),List.getElem?_eq_none (by simp; omega)]
  rfl
theorem qlI (hT:TOk P T) {s:Nat} {n c:Operand} (ho:o.op=.makeSlice s n c) (h:qaJ T t σ nx (.makeSlice s n c) K):qM P t σ nx o K:=by
 dsimp only [qaJ] at h
 split at h
 ·rename_i e m m' hd hn hc
  have hD:=((hT s).desc (by rw [hd]; simp)).d
  rw [hd] at hD
  obtain ⟨hb,h2⟩:=bcF h
  simp only [Bool.and_eq_true] at hb
  obtain ⟨⟨hmm,hrm⟩,hsz⟩:=hb
  have hmm:m=m':=by simpa [eqI] using hmm
  subst hmm
  unfold qyN at hrm
  simp only [decide_eq_true_eq] at hrm
  have hsz:=Nat.le_of_ble_eq_true hsz
  have hI:=(hT e).known (by omega)
  obtain ⟨i,zv,hi',hs1,hs2,hz,hzc,_⟩:=hI.info
  refine qoD (bs:=[]) h2 fun a w S inj f hop hi hf=>⟨by simp,w,madeCells zv.cells (m.toNat * (ty T e).sz),e,m.toNat,m.toNat,fun _ _=>rfl,rfl,rfl,rfl,rfl,?_,hsz,?_,Nat.le_refl _,by simp only [maxLen]; omega,size_madeCells _ _,?_,?_⟩
  ·have hvn:=hop n (by simp [ho,Op.operands])
   have hvc:=hop c (by simp [ho,Op.operands])
   rw [hn] at hvn
   rw [hc] at hvc
   have hr:=run_make (P:=P) w s e i zv hD hi' hz .i64 .i64 m m (by omega) (Int.le_refl _) (by rw [hs2,Int.mul_comm]; omega) (by omega)
   rw [hs1] at hr
   unfold execOp
   simp only [ho,Sem.run_bind,hvn.flatv.1,hvc.flatv.1,hr,Result.andThen_ok,Sem.run_pure]
  ·simp [qoq]
  ·intro r hr
   unfold qoq at hr
   rw [List.eq_of_mem_replicate hr,qay,List.length_map]
   exact hI.z
  ·have hz0:=hI.z
   have:=qgu (ty T e).z (by omega) m.toNat
   rw [←hzc] at this
   simp only [Array.toArray_toList] at this
   rw [hzc] at this
   rw [←hz0,this,List.take_of_length_le (by simp)]
   unfold qoq
   rw [qay]
   exact quJ _ _ hI.fl
 ·exact h.elim
end Go.Proofs.YtidkmoohgadjkaaGreat.E
namespace Go.Proofs.YtidkmoohgadjkaaGreat.E
open Go
variable {P:Program} {T:List TI} {t:List A} {σ:List Blk} {nx:Nat} {o:Oper} {K:Kont}
structure Src (P:Program) (w:World) (size m:Nat) (x:Value) (news:List Value):Prop where
 len:∀ w',(Builtin.lenOf x).run P w'=.ok m w'
 cells:(Builtin.firstCells size m x).run P w=.ok news.toArray w
 cells':(Builtin.firstCells size m x).run P w.drew=.ok news.toArray w.drew
 l:news.length=m * size
 one:∀ u∈news,u.oneCell'=true
theorem qeu {s s' ty e:Nat} {x:TI} (ht:P.underlying s=some (.slice e)) {d':TypeDesc} (ht':P.underlying s'=some d') (hd':d'=.string∨∃ e2,d'=.slice e2) (hI:InfoOk P e x) {w:World} {m:Nat} {u:Value} {news:List Value}
  (hs:Src P w x.sz m u news) {g n cap:Nat} {cur:Array Value} {e':TypeId} (hg:w.heap[g]?=some (.cells cur e' (0,0))) (hroom:n + m≤cap) (hfit:n * x.sz + news.length≤cur.size) :
  (Builtin.append_ #[s,s'] ty #[.slice (some ⟨g,0,none⟩) n cap,u]).run P w=.ok (.slice (some ⟨g,0,none⟩) (n + m) cap) (w.setRow g (cur.toList.take (n * x.sz)++news++cur.toList.drop (n * x.sz + news.length)).toArray):=by
 have hst:=run_storeCells_at P g (n * x.sz) e' news 0 cur w hg (by simpa using hfit) hs.one
 simp only [Nat.add_zero] at hst
 rcases hd' with rfl | ⟨e2,rfl⟩<;>simp [Builtin.append_,run_underlying ht,run_underlying ht',hI.size,hs.len,hroom,hs.cells,qN,hst]
theorem qfu {s s' ty e:Nat} {x:TI} (ht:P.underlying s=some (.slice e)) {d':TypeDesc} (ht':P.underlying s'=some d') (hd':d'=.string∨∃ e2,d'=.slice e2) (hI:InfoOk P e x) {w:World} {u:Value}
  (hs:Src P w x.sz 0 u []) {base:Option Addr} {n cap:Nat} (hroom:n≤cap) :
  (Builtin.append_ #[s,s'] ty #[.slice base n cap,u]).run P w=.ok (.slice base n cap) w:=by
 have h1:=hs.cells
 rcases hd' with rfl | ⟨e2,rfl⟩<;>cases base<;>simp [Builtin.append_,run_underlying ht,run_underlying ht',hI.size,hs.len,hroom,h1,storeCells]
theorem qbm {s s' ty e:Nat} {x:TI} (ht:P.underlying s=some (.slice e)) {d':TypeDesc} (ht':P.underlying s'=some d') (hd':d'=.string∨∃ e2,d'=.slice e2) (hI:InfoOk P e x) {w:World} {m:Nat} {u:Value} {news:List Value}
  (hs:Src P w x.sz m u news) {base:Option Addr} {n cap:Nat} {olds:List Value} (ho:(Builtin.firstCells x.sz n (.slice base n cap)).run P w.drew=.ok olds.toArray w.drew) (hno:cap < n + m) (hb:(n + m) * x.bytes≤140737488355328) (hm:n + m≤140737488355328) :
  ∃ zs:List Value,zs.length=(grownCap w (n + m) cap e - (n + m)) * x.sz∧(Builtin.append_ #[s,s'] ty #[.slice base n cap,u]).run P w =
   .ok (.slice (some ⟨w.heap.size,0,none⟩) (n + m) (grownCap w (n + m) cap e)) (w.drew.alloc (.cells (olds++news++zs).toArray e)):=by
 obtain ⟨i,zv,hi',hs1,hs2,hz,hzc,_⟩:=hI.info
 have hzl:zv.cells.size=x.sz:=by rw [←hI.z,←hzc]; simp
 refine ⟨(Builtin.zeroCells zv.cells (grownCap w (n + m) cap e - (n + m))).toList,by simp [size_zeroCells,hzl],?_⟩
 have hn:¬ (n + m≤cap):=by omega
 have h63':¬ (9223372036854775807 < ((n:Int) + (m:Int))):=by omega
 have h48':¬ (281474976710656 < Builtin.nextslicecap (n + m) cap * i.bytes):=by
  have:=growslice_fits (bytes:=x.bytes) hno hb
  rw [hs2]; omega
 have hsz:=hI.size
 simp [sizeOf,typeInfo,hi'] at hsz
 rcases hd' with rfl | ⟨e2,rfl⟩
 all_goals
  simp [Builtin.append_,run_underlying ht,run_underlying ht',sizeOf,typeInfo,zeroValue,hi',hz,hs.len,hn,h63',h48',Question.forced,hs1,ho,hs.cells',newRow,grownCap]
  congr 2
  apply Array.ext'
  simp [List.append_assoc]
theorem qwd {w S l v} {x:TI} (h:PR w S (.sl l) v) (hk:qae l x.sz=true) (hsz:0 < x.sz):∃ news:List Value,Src P w x.sz l.length v news∧F2 (PR w S) l.flatten news:=by
 cases h with
 | @sl _ base cap k vals hcap hk2 hrw hb hc hv =>
  have hrow:∀ r∈l,r.length=x.sz:=by
   intro r hr
   unfold qae at hk
   simp at hk
   exact hk r hr
  by_cases hl:l=[]
  ·subst hl
   refine ⟨[],⟨fun w'=>by simp [Builtin.lenOf],?_,?_,by simp,by simp⟩,.nil⟩
   ·cases base<;>simp [Builtin.firstCells,loadCells,loadCellsFrom]
   ·cases base<;>simp [Builtin.firstCells,loadCells,loadCellsFrom]
  ·obtain ⟨g,p,rfl,hS⟩:=hb.resolve_left hl
   have hkx:k=x.sz:=by
    cases l with
    | nil=>exact absurd rfl hl
    | cons r l=>rw [←hrw r (by simp),hrow r (by simp)]
   subst hkx
   have hdm:∀ {j},j < l.length * x.sz→j / x.sz < l.length∧j % x.sz < x.sz∧j / x.sz * x.sz + j % x.sz=j:=fun {j} hj =>
    ⟨Nat.div_lt_of_lt_mul (by rw [Nat.mul_comm]; exact hj),Nat.mod_lt _ hsz,by rw [Nat.mul_comm]; exact Nat.div_add_mod j _⟩
   have hcell:∀ j v',((List.range (l.length * x.sz)).map fun j=>vals (j / x.sz) (j % x.sz))[j]?=some v'→w.cell? ((⟨g,p,none⟩:Addr).add j)=some v':=by
    intro j v' hj
    rw [List.getElem?_map,Option.map_eq_some_iff] at hj
    obtain ⟨j',hj',rfl⟩:=hj
    obtain ⟨hj1,hj2⟩:=qgV hj'
    subst hj2
    obtain ⟨h1,h2,h3⟩:=hdm hj1
    rw [qN]
    have:=hc g p rfl _ _ h1 h2
    rwa [Nat.add_assoc,h3] at this
   have hf2:F2 (PR w S) l.flatten ((List.range (l.length * x.sz)).map fun j=>vals (j / x.sz) (j % x.sz)):=by
    refine F2.of_get (by simp [qaG hrow]) fun j a b ha hb=>?_
    rw [List.getElem?_map,Option.map_eq_some_iff] at hb
    obtain ⟨j',hj',rfl⟩:=hb
    obtain ⟨hj1,hj2⟩:=qgV hj'
    subst hj2
    obtain ⟨h1,h2,h3⟩:=hdm hj1
    have hr:l[j' / x.sz]?=some (l[j' / x.sz]'h1):=List.getElem?_eq_getElem h1
    have:=qft hrow hr h2
    rw [h3,ha] at this
    exact hv _ _ _ _ hr this.symm
   refine ⟨(List.range (l.length * x.sz)).map fun j=>vals (j / x.sz) (j % x.sz),⟨fun w'=>by simp [Builtin.lenOf],run_firstCells_some w _ _ _ _ _ _ (by simp) hcell,run_firstCells_some w.drew _ _ _ _ _ _ (by simp) (by simpa using hcell),by simp,fun u hu=>?_⟩,hf2⟩
   obtain ⟨i,hi⟩:=List.getElem?_of_mem hu
   obtain ⟨c,_,hc'⟩:=hf2.getR hi
   exact hc'.one
theorem qxA {w S} {u:ByteArray}:Src P w 1 u.size (.string u) (Lib.strCells u)∧F2 (PR w S) (qdG u).flatten (Lib.strCells u):=by
 refine ⟨⟨fun w'=>by simp [Builtin.lenOf],Lib.run_firstCells_string w 1 u,Lib.run_firstCells_string w.drew 1 u,by simp [Lib.strCells_length],Lib.strCells_oneCell u⟩,?_⟩
 unfold qdG Lib.strCells
 generalize u.data.toList=l
 induction l with
 | nil=>exact .nil
 | cons b l ih=>exact .cons (.v rfl) ih
end Go.Proofs.YtidkmoohgadjkaaGreat.E
namespace Go.Proofs.YtidkmoohgadjkaaGreat.E
open Go
variable {P:Program} {T:List TI} {t:List A} {σ:List Blk} {nx:Nat} {o:Oper} {K:Kont}
theorem qfP {k:Nat} {l l':List (List PC)} {w S g cap e} {olds news rest:List Value} (hk0:0 < k) (hs:¬ S.all g) (hh:w.heap[g]?=some (.cells (olds++news++rest).toArray e (0,0))) (hcap:l.length + l'.length≤cap) (hmax:cap≤maxLen)
  (hsz:(olds++news++rest).length=cap * k) (h1:∀ r∈l,r.length=k) (h2:∀ r∈l',r.length=k) (hf1:F2 (PR w S) l.flatten olds) (hf2:F2 (PR w S) l'.flatten news) :
  RowOk w S k (catL l l') (.slice (some ⟨g,0,none⟩) (l.length + l'.length) cap) (some g):=by
 unfold catL
 refine .inr ⟨g,cap,_,e,hk0,rfl,by simp,hs,hh,by simpa using hcap,hmax,by simpa using hsz,fun r hr=>?_,?_⟩
 ·rcases List.mem_append.1 hr with hr | hr
  ·exact h1 r hr
  ·exact h2 r hr
 ·rw [List.flatten_append]
  have e1:(l++l').length * k=(olds++news).length:=by
   rw [List.length_append,List.length_append,←hf1.len,←hf2.len,qaG h1,qaG h2,Nat.add_mul]
  rw [e1]
  show F2 _ _ (((olds++news)++rest).take (olds++news).length)
  rw [List.take_left]
  exact hf1.app hf2
theorem qdi {l:List (List PC)} {k:Nat} (h:qae l k=true):∀ r∈l,r.length=k:=by
 unfold qae at h; simp at h; exact h
theorem qjF (hT:TOk P T) {s s' e:Nat} {so xo:Operand} {sc xc:C} {news:List (List PC)} {rd:List Nat} (ho:o.op=.call { callee:=.builtin .append,args := #[so,xo],argTypes := #[s,s'] })
  (hso:opd t so=.one sc) (hxo:opd t xo=.one xc) (hxj:xc≠.junk) (hd:P.underlying s=some (.slice e)) {d':TypeDesc} (hd':P.underlying s'=some d') (hdd:d'=.string∨∃ e2,d'=.slice e2)
  (hsrc:∀ {w S inj f v},Inv w S inj f→(∀ b,b∈rd→f b=look σ b)→VR w S inj xc v→∃ us,Src P w (ty T e).sz news.length v us∧F2 (PR w S) news.flatten us)
  (h:qgE T σ nx e sc news rd K):qM P t σ nx o K:=by
 have hms:so∈o.op.operands:=by simp [ho,Op.operands,Call.operands]
 have hmx:xo∈o.op.operands:=by simp [ho,Op.operands,Call.operands]
 have hrun:∀ (a:Act) (w w':World) (v':Value),(Builtin.append_ #[s,s'] o.type #[a.eval so,a.eval xo]).run P w=.ok v' w'→(execOp a.eval o).run P w=.ok (.value v') w':=fun a w w' v' hr=>by
  unfold execOp
  simp only [ho,resolve,invoke,builtin,Sem.run_bind,Sem.run_pure,Result.andThen_ok,List.map_toArray,List.map_cons,List.map_nil,hr]
 unfold qgE at h
 split at h
 ·rename_i b
  split at h
  ·rename_i k l hb
   obtain ⟨hc,h⟩:=bcF h
   obtain ⟨hsz,h⟩:=bcF h
   simp only [Bool.and_eq_true,Bool.or_eq_true] at hc
   obtain ⟨⟨hroom,hrows⟩,hk⟩:=hc
   have hsz:=Nat.le_of_ble_eq_true hsz
   have hI:=(hT e).known (by omega)
   have hrows:=qdi hrows
   unfold qau at hroom
   simp only [decide_eq_true_eq] at hroom
   refine ⟨_,_,_,_,h _ rfl,fun a f w S inj next Q hop hf hi hfr hn=>?_⟩
   have hfb:=(hf b (by simp)).trans hb
   have hvs:=hop so hms
   have hvx:=hop xo hmx
   rw [hso] at hvs
   rw [hxo] at hvx
   obtain ⟨v0,g0,hg0,hro⟩:=hi.rows hfb
   have he:=(hvs.cellv (by simp)).ownv hg0
   obtain ⟨us,hS,hfu⟩:=hsrc hi (fun b hb=>hf b (by simp [hb])) (hvx.cellv hxj)
   have h00:inj nx=.free∧f nx=.dead:=by simpa using hfr 0 (by simp)
   have hbn:b≠nx:=by rintro rfl; rw [hfb] at h00; cases h00.2
   have hid:=hi.drop (b:=b)
   have hfree:qbG inj b .dead nx=.free:=by rw [qu (Ne.symm hbn)]; exact h00.1
   have hupd:upd f nx [(b,.dead)] [.rows (ty T e).sz (catL l news)]=setB (setB f b .dead) nx (.rows (ty T e).sz (catL l news)):=by
    have:=qeR f nx [b] (.rows (ty T e).sz (catL l news))
    simp only [List.map_cons,List.map_nil] at this
    rw [this]
    congr 1
    funext c
    by_cases hcb:c=b
    ·subst hcb; rw [qaK (by simp),qaa]
    ·rw [qb1 (by simpa using hcb),qZ hcb]
   have fin:∀ (w':World) (v':Value) (g:Option Nat),Grow w S w' S→(execOp a.eval o).run P w=.ok (.value v') w'→(∃ ad n c,v'=.slice ad n c) →
     (∀ b' g',b'≠b→f b'≠.dead→(inj b').blk g'→w'.heap[g']?=w.heap[g']?)→RowOk w' S (ty T e).sz (catL l news) v' g →
     (∀ b' g',b'≠b→f b'≠.dead→g=some g'→(inj b').blk g'→False)→o.wp P a w next Q:=by
    intro w' v' g hG hr hv' hw hR hsep
    obtain ⟨ad,n,c,rfl⟩:=hv'
    have hle:=qa7 (l:=.row (.slice ad n c) g) hfree
    refine qX hr (hn _ _ S (qbG (qbG inj b .dead) nx (.row (.slice ad n c) g)) ⟨hG,qe4.trans hle,fun c' hc' hcc=>?_,.ofc (.own (.inr ⟨g,by rw [qA]; rfl⟩)),?_⟩)
    ·rw [qu (by simp at hcc; omega),qu (by rintro rfl; rw [hg0] at hc'; cases hc')]; exact hc'
    ·rw [hupd]
     refine hid.set hG hle (fun _ h=>qu h) qA (fun b' g' hb' hd' hg'=>?_) ⟨_,_,rfl,hR⟩ (fun _ b' g' hb' hd' hg1 hg2=>?_) (fun g' hg'=>Nat.lt_of_lt_of_le (hi.lt g' hg') hG.size)
     ·have hbb:b'≠b:=by rintro rfl; rw [qaa] at hd'; exact hd' rfl
      rw [qZ hbb] at hd'
      rw [qu hbb] at hg'
      exact ⟨hw b' g' hbb hd' hg',((hi.live b').blk hd' hg').1⟩
     ·have hbb:b'≠b:=by rintro rfl; rw [qaa] at hd'; exact hd' rfl
      rw [qZ hbb] at hd'
      rw [qu hbb] at hg2
      exact hsep b' g' hbb hd' hg1 hg2
   rcases hro with ⟨rfl,rfl,ad,rfl⟩ | ⟨g,cap,cur,e',hk0,rfl,rfl,hnS,hh,hcap,hmax,hcs,hrl,hfl⟩
   ·
    by_cases hm:news.length=0
    ·have hnews:news=[]:=List.eq_nil_of_length_eq_zero hm
     subst hnews
     have hus:us=[]:=List.eq_nil_of_length_eq_zero (by rw [hS.l]; simp)
     subst hus
     have hr:=qfu (ty:=o.type) hd hd' hdd hI hS (base:=ad) (n:=0) (cap:=0) (Nat.le_refl _)
     rw [←he] at hr
     rw [he] at hr
     refine fin w (.slice ad 0 0) none (.refl _ _) (hrun a w w _ (by rw [he]; exact hr)) ⟨_,_,_,rfl⟩ (fun _ _ _ _ _=>rfl) (.inl ⟨rfl,rfl,ad,rfl⟩) (fun _ _ _ _ h=>by cases h)
    ·have ho0:(Builtin.firstCells (ty T e).sz 0 (.slice ad 0 0)).run P w.drew=.ok ([]:List Value).toArray w.drew:=by
      cases ad<;>simp [Builtin.firstCells,loadCells,loadCellsFrom]
     obtain ⟨zs,hzl,hr⟩:=qbm (ty:=o.type) hd hd' hdd hI hS ho0 (by omega) (by simpa using hroom.1) (by simpa using hroom.2)
     have hge:=grownCap_ge w (0 + news.length) 0 e
     have hgm:=grownCap_le_maxLen w (0 + news.length) 0 e (by simp only [maxLen]; simp at hroom; omega)
     have hG:Grow w S (w.drew.alloc (.cells ([]++us++zs).toArray e)) S:=⟨rfl,rfl,rfl,by simp,fun g' hg'=>hao w.drew _ g' (hi.lt g' hg'),fun _ h=>h,rfl⟩
     refine fin _ _ (some w.heap.size) hG (hrun a w _ _ (by rw [he]; exact hr)) ⟨_,_,_,rfl⟩ (fun b' g' _ hd' hg'=>hao w.drew _ g' ((hi.live b').blk hd' hg').2) ?_ (fun b' g' _ hd' hg1 hg2=>by
      injection hg1 with hg1
      have:=((hi.live b').blk hd' hg2).2
      omega)
     have:=qfP (l:=[]) (l':=news) (w:=w.drew.alloc (.cells ([]++us++zs).toArray e)) (S:=S) (g:=w.heap.size) (cap:=grownCap w (0 + news.length) 0 e) (e:=e) (olds:=[]) (news:=us) (rest:=zs) hsz (fun hs=>absurd (hi.lt _ hs) (by omega)) (han w.drew _) (by simpa using hge) hgm (by
       simp only [List.nil_append,List.length_append,hS.l,hzl]
       rw [←Nat.add_mul]; congr 1; omega) (by simp) hrows .nil (hfu.mono' fun _ _ h=>h.grow hG)
     simpa using this
   ·
    have hkk:k=(ty T e).sz:=by
     rcases hk with hk | hk
     ·exact Nat.eq_of_beq_eq_true hk
     ·have:=Nat.eq_of_beq_eq_true hk; omega
    subst hkk
    have holdl:(cur.toList.take (l.length * (ty T e).sz)).length=l.length * (ty T e).sz:=by
     have:l.length * (ty T e).sz≤cap * (ty T e).sz:=Nat.mul_le_mul_right _ hcap
     simp; omega
    by_cases hm:l.length + news.length≤cap
    ·have hfit:l.length * (ty T e).sz + us.length≤cur.size:=by
      rw [hS.l,←Nat.add_mul,hcs]; exact Nat.mul_le_mul_right _ hm
     have hr:=qeu (ty:=o.type) hd hd' hdd hI hS hh hm hfit
     refine fin _ _ (some g) (.setRow hnS) (hrun a w _ _ (by rw [he]; exact hr)) ⟨_,_,_,rfl⟩ (fun b' g' hbb hd' hg'=>setRow_other w g g' _ (by
       rintro rfl
       exact hbb (hi.sep b' b _ hd' (by rw [hfb]; simp) hg' (by rw [hg0]; rfl)))) ?_ (fun b' g' hbb hd' hg1 hg2=>by
       injection hg1 with hg1; subst hg1
       exact hbb (hi.sep b' b _ hd' (by rw [hfb]; simp) hg2 (by rw [hg0]; rfl)))
     have hG:Grow w S (w.setRow g (cur.toList.take (l.length * (ty T e).sz)++us++cur.toList.drop (l.length * (ty T e).sz + us.length)).toArray) S:=.setRow hnS
     exact qfP hsz hnS (setRow_heap w g _ _ _ _ hh) hm hmax (by simp; omega) hrl hrows (hfl.mono' fun _ _ h=>h.grow hG) (hfu.mono' fun _ _ h=>h.grow hG)
    ·have ho0:(Builtin.firstCells (ty T e).sz l.length (.slice (some ⟨g,0,none⟩) l.length cap)).run P w.drew=.ok (cur.toList.take (l.length * (ty T e).sz)).toArray w.drew:=by
      refine run_firstCells_some w.drew _ _ _ _ _ _ holdl (fun j v hj=>?_)
      rw [List.getElem?_take] at hj
      split at hj
      ·rw [qN,Nat.zero_add,World.cell?_drew]
       simpa [World.cell?,hh] using hj
      ·cases hj
     obtain ⟨zs,hzl,hr⟩:=qbm (ty:=o.type) hd hd' hdd hI hS ho0 (by omega) hroom.1 hroom.2
     have hge:=grownCap_ge w (l.length + news.length) cap e
     have hgm:=grownCap_le_maxLen w (l.length + news.length) cap e (by simp only [maxLen]; omega)
     have hG:Grow w S (w.drew.alloc (.cells (cur.toList.take (l.length * (ty T e).sz)++us++zs).toArray e)) S:=⟨rfl,rfl,rfl,by simp,fun g' hg'=>hao w.drew _ g' (hi.lt g' hg'),fun _ h=>h,rfl⟩
     refine fin _ _ (some w.heap.size) hG (hrun a w _ _ (by rw [he]; exact hr)) ⟨_,_,_,rfl⟩ (fun b' g' _ hd' hg'=>hao w.drew _ g' ((hi.live b').blk hd' hg').2) ?_ (fun b' g' _ hd' hg1 hg2=>by
      injection hg1 with hg1
      have:=((hi.live b').blk hd' hg2).2
      omega)
     exact qfP hsz (fun hs=>absurd (hi.lt _ hs) (by omega)) (han w.drew _) hge hgm (by
       simp only [List.length_append,hS.l,hzl,holdl]
       rw [←Nat.add_mul,←Nat.add_mul]; congr 1; omega) hrl hrows (hfl.mono' fun _ _ h=>h.grow hG) (hfu.mono' fun _ _ h=>h.grow hG)
  ·exact h.elim
 ·
  obtain ⟨hc,h⟩:=bcF h
  obtain ⟨hsz,h⟩:=bcF h
  simp only [Bool.and_eq_true] at hc
  obtain ⟨hroom,hrows⟩:=hc
  have hsz:=Nat.le_of_ble_eq_true hsz
  have hI:=(hT e).known (by omega)
  have hrows:=qdi hrows
  unfold qau at hroom
  simp only [decide_eq_true_eq] at hroom
  refine ⟨_,_,_,_,h _ rfl,fun a f w S inj next Q hop hf hi hfr hn=>?_⟩
  have hvs:=hop so hms
  have hvx:=hop xo hmx
  rw [hso] at hvs
  rw [hxo] at hvx
  have he:=hvs.flatv.1
  obtain ⟨us,hS,hfu⟩:=hsrc hi (fun b hb=>hf b (by simpa using hb)) (hvx.cellv hxj)
  have h00:inj nx=.free∧f nx=.dead:=by simpa using hfr 0 (by simp)
  have fin:∀ (w':World) (v':Value) (g:Option Nat),Grow w S w' S→(execOp a.eval o).run P w=.ok (.value v') w'→(∃ ad n c,v'=.slice ad n c) →
    (∀ g',g' < w.heap.size→w'.heap[g']?=w.heap[g']?)→RowOk w' S (ty T e).sz (catL [] news) v' g→(∀ g',g=some g'→w.heap.size≤g')→o.wp P a w next Q:=by
   intro w' v' g hG hr hv' hw hR hsep
   obtain ⟨ad,n,c,rfl⟩:=hv'
   have hle:=qa7 (l:=.row (.slice ad n c) g) h00.1
   refine qX hr (hn _ _ S (qbG inj nx (.row (.slice ad n c) g)) ⟨hG,hle,fun c' hc' hcc=>?_,.ofc (.own (.inr ⟨g,by rw [qA]; rfl⟩)),?_⟩)
   ·rw [qu (by simp at hcc; omega)]; exact hc'
   ·rw [qir]
    refine hi.set hG hle (fun _ h=>qu h) qA (fun b' g' hb' hd' hg'=>?_) ⟨_,_,rfl,hR⟩ (fun _ b' g' hb' hd' hg1 hg2=>?_) (fun g' hg'=>Nat.lt_of_lt_of_le (hi.lt g' hg') hG.size)
    ·have:=(hi.live b').blk hd' hg'
     exact ⟨hw g' this.2,this.1⟩
    ·have h1:=((hi.live b').blk hd' hg2).2
     have h2:=hsep g' hg1
     omega
  by_cases hm:news.length=0
  ·have hnews:news=[]:=List.eq_nil_of_length_eq_zero hm
   subst hnews
   have hus:us=[]:=List.eq_nil_of_length_eq_zero (by rw [hS.l]; simp)
   subst hus
   have hr:=qfu (ty:=o.type) hd hd' hdd hI hS (base:=none) (n:=0) (cap:=0) (Nat.le_refl _)
   exact fin w (.slice none 0 0) none (.refl _ _) (hrun a w w _ (by rw [he]; exact hr)) ⟨_,_,_,rfl⟩ (fun _ _=>rfl) (.inl ⟨rfl,rfl,none,rfl⟩) (fun _ h=>by cases h)
  ·have ho0:(Builtin.firstCells (ty T e).sz 0 (.slice none 0 0)).run P w.drew=.ok ([]:List Value).toArray w.drew:=by simp [Builtin.firstCells]
   obtain ⟨zs,hzl,hr⟩:=qbm (ty:=o.type) hd hd' hdd hI hS ho0 (by omega) (by simpa using hroom.1) (by simpa using hroom.2)
   have hge:=grownCap_ge w (0 + news.length) 0 e
   have hgm:=grownCap_le_maxLen w (0 + news.length) 0 e (by simp only [maxLen]; simp at hroom; omega)
   have hG:Grow w S (w.drew.alloc (.cells ([]++us++zs).toArray e)) S:=⟨rfl,rfl,rfl,by simp,fun g' hg'=>hao w.drew _ g' (hi.lt g' hg'),fun _ h=>h,rfl⟩
   refine fin _ _ (some w.heap.size) hG (hrun a w _ _ (by rw [he]; exact hr)) ⟨_,_,_,rfl⟩ (fun g' hg'=>hao w.drew _ g' hg') ?_ (fun g' hg1=>by injection hg1 with hg1; omega)
   have:=qfP (l:=[]) (l':=news) (w:=w.drew.alloc (.cells ([]++us++zs).toArray e)) (S:=S) (g:=w.heap.size) (cap:=grownCap w (0 + news.length) 0 e) (e:=e) (olds:=[]) (news:=us) (rest:=zs) hsz (fun hs=>absurd (hi.lt _ hs) (by omega)) (han w.drew _) (by simpa using hge) hgm (by
     simp only [List.nil_append,List.length_append,hS.l,hzl]
     rw [←Nat.add_mul]; congr 1; omega) (by simp) hrows .nil (hfu.mono' fun _ _ h=>h.grow hG)
   simpa using this
 ·
  rename_i l
  obtain ⟨hc,h⟩:=bcF h
  obtain ⟨hsz,h⟩:=bcF h
  simp only [Bool.and_eq_true] at hc
  obtain ⟨⟨hroom,hrows⟩,hrowl⟩:=hc
  have hsz:=Nat.le_of_ble_eq_true hsz
  have hI:=(hT e).known (by omega)
  have hrows:=qdi hrows
  unfold qau at hroom
  simp only [decide_eq_true_eq] at hroom
  refine ⟨_,_,_,_,h _ rfl,fun a f w S inj next Q hop hf hi hfr hn=>?_⟩
  have hvs:=hop so hms
  have hvx:=hop xo hmx
  rw [hso] at hvs
  rw [hxo] at hvx
  generalize hu:a.eval so=u at hvs
  have hvs:=hvs.cellv (by simp)
  cases hvs with
  | @cp _ ad hpl =>
  obtain ⟨us,hS,hfu⟩:=hsrc hi (fun b hb=>hf b (by simpa using hb)) (hvx.cellv hxj)
  by_cases hm:news.length=0
  ·have hnews:news=[]:=List.eq_nil_of_length_eq_zero hm
   subst hnews
   have hus:us=[]:=List.eq_nil_of_length_eq_zero (by rw [hS.l]; simp)
   subst hus
   have hr:=qfu (ty:=o.type) hd hd' hdd hI hS (base:=ad) (n:=l.length) (cap:=l.length) (Nat.le_refl _)
   exact qX (hrun a w w _ (by rw [hu]; exact hr)) (hn _ _ S inj (.same hi (.ofc (.p (by simpa [catL] using hpl)))))
  ·obtain ⟨olds,hSo,hfo⟩:=qwd hpl hrowl hsz
   obtain ⟨zs,hzl,hr⟩:=qbm (ty:=o.type) hd hd' hdd hI hS (base:=ad) (n:=l.length) (cap:=l.length) hSo.cells' (by omega) hroom.1 hroom.2
   have hge:=grownCap_ge w (l.length + news.length) l.length e
   have hgm:=grownCap_le_maxLen w (l.length + news.length) l.length e (by simp only [maxLen]; omega)
   have hG:Grow w S (w.drew.alloc (.cells (olds++us++zs).toArray e)) S:=⟨rfl,rfl,rfl,by simp,fun g' hg'=>hao w.drew _ g' (hi.lt g' hg'),fun _ h=>h,rfl⟩
   have hR:=qfP (l:=l) (l':=news) (w:=w.drew.alloc (.cells (olds++us++zs).toArray e)) (S:=S) (g:=w.heap.size) (e:=e) (olds:=olds) (news:=us) (rest:=zs) hsz (fun hs=>absurd (hi.lt _ hs) (by omega)) (han w.drew _) hge hgm (by
     simp only [List.length_append,hS.l,hzl,hSo.l]
     rw [←Nat.add_mul,←Nat.add_mul]; congr 1; omega) (qdi hrowl) hrows (hfo.mono' fun _ _ h=>h.grow hG) (hfu.mono' fun _ _ h=>h.grow hG)
   have hG2:Grow w S (w.drew.alloc (.cells (olds++us++zs).toArray e)) ⟨fun g=>S g∨g=w.heap.size,S.fr⟩:=⟨rfl,rfl,rfl,by simp,fun g' hg'=>hao w.drew _ g' (hi.lt g' hg'),fun _ h=>.inl h,rfl⟩
   refine qX (hrun a w _ _ (by rw [hu]; exact hr)) (hn _ _ ⟨fun g=>S g∨g=w.heap.size,S.fr⟩ inj ⟨hG2,.refl _,fun _ h _=>h,.ofc (.p ?_),?_⟩)
   ·have:=hR.pure (S':=⟨fun g=>S g∨g=w.heap.size,S.fr⟩) (fun _ h=>.inl h) fun g' e'=>.inr (by injection e' with e'; exact e'.symm)
    exact this
   ·rw [qcT]
    refine hi.growS hG2 (fun g hg=>hao w.drew _ g hg) (fun g hg=>?_) (fun g hf hs=>?_)
    ·rcases hg with (hg | hg) | hg
     ·exact .inl (.inl hg)
     ·subst hg; exact .inr ⟨Nat.le_refl _,by simp⟩
     ·exact .inl (.inr hg)
    ·rcases hs with hs | hs
     ·exact hi.dj g hf hs
     ·subst hs; exact absurd (hi.lt _ (.inr hf)) (by omega)
 ·exact h.elim
end Go.Proofs.YtidkmoohgadjkaaGreat.E
namespace Go.Proofs.YtidkmoohgadjkaaGreat.E
open Go
variable {P:Program} {T:List TI} {t:List A} {σ:List Blk} {nx:Nat} {o:Oper} {K:Kont}
structure NC (w:World) (S:Zone) (k o k':Nat) (l:List (List PC)) (cells:List Value) (ins:Nat→Option Nat):Prop where
 len:cells.length=l.length * k
 row:∀ r∈l,r.length=k
 at_:∀ i r,l[i]?=some r→∀ j c,r[j]?=some c→∃ u,cells[i * k + j]?=some u∧u.oneCell'=true∧(j≠o→PR w S c u)∧(j=o→∃ m,c=.sl m∧RowOk w S k' m u (ins i))
 inj:∀ i i' x,i < l.length→i' < l.length→ins i=some x→ins i'=some x→i=i'
theorem NC.nil {w S k o k' ins}:NC w S k o k' [] [] ins:=⟨by simp,fun r h=>by simp at h,fun i r h=>by simp at h,fun i i' x h=>by simp at h⟩
theorem Nest.nc {w S k o k' l v g fp cap cur e ins} (h:Nest w S k o k' none l v g fp cap cur e ins):NC w S k o k' l (cur.toList.take (l.length * k)) ins:=by
 refine ⟨?_,h.row,fun i r hr j c hc=>?_,fun i i' x hi hi' h1 h2=>h.inj i i' x hi hi' (by simp) (by simp) h1 h2⟩
 ·have:=Nat.mul_le_mul_right k h.le
  simp; rw [h.size]; omega
 ·obtain ⟨u,h1,h2,h3,h4⟩:=h.at_ i r hr j c hc
  refine ⟨u,?_,h2,h3,fun hj=>h4 hj (by simp)⟩
  have hil:i < l.length:=(List.getElem?_eq_some_iff.1 hr).1
  have hjk:j < k:=by rw [←h.row r (List.mem_of_getElem? hr)]; exact (List.getElem?_eq_some_iff.1 hc).1
  have h5:(i + 1) * k≤l.length * k:=Nat.mul_le_mul_right _ hil
  rw [Nat.add_mul] at h5
  rw [List.getElem?_take,if_pos (by omega),Array.getElem?_toList]; exact h1
theorem NC.grow {w S w' S' k o k' l cells ins} (hG:Grow w S w' S') (h:NC w S k o k' l cells ins) (hok:o < k) (hw:∀ i x,i < l.length→ins i=some x→w'.heap[x]?=w.heap[x]?∧¬ S'.all x):NC w' S' k o k' l cells ins :=
 { h with
  at_:=fun i r hr j c hc=>by
   obtain ⟨u,h1,h2,h3,h4⟩:=h.at_ i r hr j c hc
   refine ⟨u,h1,h2,fun hj=>(h3 hj).grow hG,fun hj=>?_⟩
   obtain ⟨m,hm,hro⟩:=h4 hj
   exact ⟨m,hm,hro.grow hG fun x hx=>hw i x (List.getElem?_eq_some_iff.1 hr).1 hx⟩ }
theorem NC.app {w S k o k' l m cl cm ins jns} (h:NC w S k o k' l cl ins) (h':NC w S k o k' m cm jns) (hd:∀ i i' x,i < l.length→i' < m.length→ins i=some x→jns i'=some x→False) :
  NC w S k o k' (l++m) (cl++cm) (fun i=>if i < l.length then ins i else jns (i - l.length)):=by
 refine ⟨?_,fun r hr=>?_,fun i r hr j c hc=>?_,fun i i' x hi hi' h1 h2=>?_⟩
 ·rw [List.length_append,List.length_append,h.len,h'.len,Nat.add_mul]
 ·rcases List.mem_append.1 hr with hr | hr
  ·exact h.row r hr
  ·exact h'.row r hr
 ·by_cases hi:i < l.length
  ·rw [List.getElem?_append_left hi] at hr
   obtain ⟨u,h1,h2,h3,h4⟩:=h.at_ i r hr j c hc
   have hlt:=(List.getElem?_eq_some_iff.1 h1).1
   exact ⟨u,by rw [List.getElem?_append_left hlt]; exact h1,h2,h3,by rw [if_pos hi]; exact h4⟩
  ·rw [List.getElem?_append_right (by omega)] at hr
   obtain ⟨u,h1,h2,h3,h4⟩:=h'.at_ _ r hr j c hc
   refine ⟨u,?_,h2,h3,by rw [if_neg hi]; exact h4⟩
   have hsub:(i - l.length) * k=i * k - l.length * k:=Nat.sub_mul _ _ _
   have hle:l.length * k≤i * k:=Nat.mul_le_mul_right _ (by omega)
   rw [List.getElem?_append_right (by rw [h.len]; omega),h.len,←h1,hsub]
   congr 1; omega
 ·rw [List.length_append] at hi hi'
  by_cases a:i < l.length<;>by_cases b:i' < l.length
  ·rw [if_pos a] at h1; rw [if_pos b] at h2; exact h.inj _ _ _ a b h1 h2
  ·rw [if_pos a] at h1; rw [if_neg b] at h2; exact (hd _ _ _ a (by omega) h1 h2).elim
  ·rw [if_neg a] at h1; rw [if_pos b] at h2; exact (hd _ _ _ b (by omega) h2 h1).elim
  ·rw [if_neg a] at h1; rw [if_neg b] at h2
   have:=h'.inj _ _ _ (by omega) (by omega) h1 h2
   omega
theorem NC.nest {w S k o k' l cells ins g cap rest e} (h:NC w S k o k' l cells ins) (hok:o < k) (hs:¬ S.all g) (hh:w.heap[g]?=some (.cells (cells++rest).toArray e (0,0))) (hcap:l.length≤cap) (hmax:cap≤maxLen) (hsz:(cells++rest).length=cap * k)
  (hne:∀ i,i < l.length→ins i≠some g):qiq w S k o k' none l (.slice (some ⟨g,0,none⟩) l.length cap) g (fun x=>∃ i,i < l.length∧ins i=some x) :=
 ⟨cap,(cells++rest).toArray,e,ins,hok,rfl,hs,hh,hcap,hmax,by simpa using hsz,h.row,fun i r hr j c hc=>by
   obtain ⟨u,h1,h2,h3,h4⟩:=h.at_ i r hr j c hc
   have hlt:=(List.getElem?_eq_some_iff.1 h1).1
   exact ⟨u,by rw [List.getElem?_toArray,List.getElem?_append_left hlt]; exact h1,h2,h3,fun hj _=>h4 hj⟩,
  fun x=>by simp,fun i i' x hi hi' _ _ h1 h2=>h.inj i i' x hi hi' h1 h2,fun ⟨i,hi,hx⟩=>hne i hi hx⟩
theorem qoE {w S k o k' l cells ins g cap e n} {x:TI} (h:NC w S k o k' l (cells.toList.take (l.length * k)) ins) (hx:k=x.sz) (hh:w.heap[g]?=some (.cells cells e (0,0))) (hn:n=l.length):Src P w x.sz l.length (.slice (some ⟨g,0,none⟩) n cap) (cells.toList.take (l.length * k)):=by
 subst hn
 have key:∀ w',w'.heap[g]?=some (.cells cells e (0,0))→(Builtin.firstCells x.sz l.length (.slice (some ⟨g,0,none⟩) l.length cap)).run P w'=.ok (cells.toList.take (l.length * k)).toArray w':=fun w' hw=>by
  refine run_firstCells_some w' _ _ _ _ _ _ (by rw [h.len,hx]) (fun j v hj=>?_)
  rw [List.getElem?_take] at hj
  split at hj
  ·rw [qN,Nat.zero_add]
   simpa [World.cell?,hw] using hj
  ·cases hj
 refine ⟨fun w'=>by simp [Builtin.lenOf],key w hh,key w.drew hh,by rw [h.len,hx],fun u hu=>?_⟩
 obtain ⟨i,hi⟩:=List.getElem?_of_mem hu
 have hlt:=(List.getElem?_eq_some_iff.1 hi).1
 rw [h.len] at hlt
 have hk:0 < k:=by
  rcases Nat.eq_zero_or_pos k with h0 | h0
  ·rw [h0] at hlt; simp at hlt
  ·exact h0
 have hdiv:i / k < l.length:=(Nat.div_lt_iff_lt_mul hk).2 hlt
 obtain ⟨r,hr⟩:=qh5 hdiv
 have hrl:=h.row r (List.mem_of_getElem? hr)
 obtain ⟨c,hc⟩:=qh5 (l:=r) (i:=i % k) (by rw [hrl]; exact Nat.mod_lt _ hk)
 obtain ⟨u',h1,h2,_⟩:=h.at_ _ r hr _ c hc
 rw [Nat.div_add_mod' i k] at h1
 rw [hi] at h1; injection h1 with h1; subst h1
 exact h2
theorem qrz {w S inj f} {bs:List Nat} (hi:Inv w S inj f):Inv w S (kill inj bs) (qjt f bs):=by
 refine ⟨fun b=>?_,fun b b' g h1 h2 h3 h4=>?_,hi.lt,hi.dj⟩
 ·by_cases h:b∈bs
  ·rw [qaK h]; trivial
  ·rw [qb1 h,qaj h]
   by_cases hd:f b=.dead
   ·rw [hd]; trivial
   ·exact (hi.live b).grow (.refl _ _) (qiu _ _) (fun _ _=>rfl) fun g hg=>((hi.live b).blk hd hg).1
 ·have n1:b ∉ bs:=fun h=>h1 (qaK h)
  have n2:b' ∉ bs:=fun h=>h2 (qaK h)
  rw [qb1 n1] at h1; rw [qb1 n2] at h2; rw [qaj n1] at h3; rw [qaj n2] at h4
  exact hi.sep _ _ _ h1 h2 h3 h4
theorem qh7 {bs rd:List Nat} {k oo k':Nat} {lr:List (List PC)} (hk:K (.one (.own nx)) (bs.map fun b=>(b,.dead)) [.nest k oo k' lr] rd)
  (hrun:∀ (a:Act) (w:World) (S inj f),(∀ x,x∈o.op.operands→VA w S inj (opd t x) (a.eval x))→Inv w S inj f→(∀ b,b∈rd++bs→f b=look σ b)→(∀ b,b∈bs→f b≠.dead) ∧
   ∃ (w':World) (v':Value) (g:Nat) (fp:Nat→Prop),Grow w S w' S∧(execOp a.eval o).run P w=.ok (.value v') w'∧qiq w' S k oo k' none lr v' g fp ∧
    (∀ b' x,b' ∉ bs→f b'≠.dead→(inj b').blk x→w'.heap[x]?=w.heap[x]?∧x≠g∧¬ fp x)):qM P t σ nx o K:=by
 refine ⟨_,_,_,_,hk,fun a f w S inj next Q hop hf hi hfr hn=>?_⟩
 obtain ⟨hnd,w',v',g,fp,hG,hr,hN,hoth⟩:=hrun a w S inj f hop hi (fun b hb=>hf b (by
  simp at hb ⊢
  rcases hb with hb | hb
  ·exact .inl hb
  ·exact .inr hb))
 have h00:inj nx=.free∧f nx=.dead:=by simpa using hfr 0 (by simp)
 have hnx:nx ∉ bs:=fun hb=>hnd nx hb h00.2
 have hid:=qrz (bs:=bs) hi
 have hfree:kill inj bs nx=.free:=by rw [qaj hnx]; exact h00.1
 obtain ⟨cap,cur,e,ins,hne⟩:=id hN
 have hle:=qa7 (l:=.nest v' g fp) hfree
 have hval:=hne.val
 refine qX hr (hn _ _ S (qbG (kill inj bs) nx (.nest v' g fp)) ⟨hG,(qiu _ _).trans hle,fun b hb hbb=>?_,.ofc ?_,?_⟩)
 ·rw [qu (by simp at hbb; omega)]
  by_cases hbm:b∈bs
  ·exfalso
   have hl:=hi.live b
   rw [hb] at hl
   exact hnd b hbm hl.free
  ·rw [qaj hbm]; exact hb
 ·have hvv:(qbG (kill inj bs) nx (.nest v' g fp) nx).val=some (v',some g):=by rw [qA]; rfl
  generalize qbG (kill inj bs) nx (.nest v' g fp)=inj2 at hvv
  rw [hval] at hvv ⊢
  exact .own (.inr ⟨some g,hvv⟩)
 ·rw [qeR]
  refine hid.set hG hle (fun _ h=>qu h) qA (fun b x hb hd hg=>?_) ⟨v',g,fp,rfl,hN⟩ (fun _ b x hb hd hg1 hg2=>?_) (fun x hx=>Nat.lt_of_lt_of_le (hi.lt x hx) hG.size)
  ·have n1:b ∉ bs:=fun h=>hd (qaK h)
   rw [qb1 n1] at hd; rw [qaj n1] at hg
   exact ⟨(hoth b x n1 hd hg).1,((hi.live b).blk hd hg).1⟩
  ·have n1:b ∉ bs:=fun h=>hd (qaK h)
   rw [qb1 n1] at hd; rw [qaj n1] at hg2
   obtain ⟨_,h1,h2⟩:=hoth b x n1 hd hg2
   rcases hg1 with hg1 | hg1
   ·exact h1 hg1.symm
   ·exact h2 hg1
theorem qqc (hT : TOk P T) {s s' e : Nat} {so xo : Operand} {sc : C} {bx k oo k' : Nat} {news : List (List PC)} (ho : o.op = .call { callee := .builtin .append, args := #[so, xo], argTypes := #[s, s'] })
    (hso : opd t so = .one sc) (hxo : opd t xo = .one (.own bx)) (hbx : look σ bx = .nest k oo k' news) (hd : P.underlying s = some (.slice e)) {e2 : Nat} (hd' : P.underlying s' = some (.slice e2))
    (h : qki T σ nx e sc bx k oo k' news K) : qM P t σ nx o K := by
  have hms : so ∈ o.op.operands := by simp [ho, Op.operands, Call.operands]
  have hmx : xo ∈ o.op.operands := by simp [ho, Op.operands, Call.operands]
  have hrun : ∀ (a : Act) (w w' : World) (v' : Value), (Builtin.append_ #[s, s'] o.type #[a.eval so, a.eval xo]).run P w = .ok v' w' → (execOp a.eval o).run P w = .ok (.value v') w' := fun a w w' v' hr => by
    unfold execOp
    simp only [ho, resolve, invoke, builtin, Sem.run_bind, Sem.run_pure, Result.andThen_ok, List.map_toArray, List.map_cons, List.map_nil, hr]
  have core : ∀ {a : Act} {w : World} {S : Zone} {inj : Nat → Loc} {f : Nat → Blk} (l : List (List PC)) (bs : List Nat), Inv w S inj f → VR w S inj (.own bx) (a.eval xo) → f bx = .nest k oo k' news → bx ∈ bs → (∀ b ∈ bs, f b ≠ .dead) →
      k = (ty T e).sz → (l.length + news.length) * (ty T e).bytes ≤ 140737488355328 ∧ (l.length + news.length) ≤ 140737488355328 → 0 < news.length →
      ∀ (base : Option Addr) (cap : Nat) (olds : List Value) (ins : Nat → Option Nat), a.eval so = .slice base l.length cap → NC w S k oo k' l olds ins →
      (∀ i x, i < l.length → ins i = some x → ∃ b ∈ bs, b ≠ bx ∧ (inj b).blk x ∧ base.map (·.block) ≠ some x ∧ ¬ S.all x) →
      (Builtin.firstCells (ty T e).sz l.length (.slice base l.length cap)).run P w.drew = .ok olds.toArray w.drew →
      (l.length + news.length ≤ cap → ∃ g cur e', base = some ⟨g, 0, none⟩ ∧ w.heap[g]? = some (.cells cur e' (0, 0)) ∧ ¬ S.all g ∧ cur.size = cap * k ∧ olds = cur.toList.take (l.length * k) ∧ cap ≤ maxLen ∧ ∃ b ∈ bs, b ≠ bx ∧ (inj b).blk g) →
      ∃ (w' : World) (v' : Value) (g : Nat) (fp : Nat → Prop), Grow w S w' S ∧ (execOp a.eval o).run P w = .ok (.value v') w' ∧ qiq w' S k oo k' none (catL l news) v' g fp ∧
        (∀ b' x, b' ∉ bs → f b' ≠ .dead → (inj b').blk x → w'.heap[x]? = w.heap[x]? ∧ x ≠ g ∧ ¬ fp x) := by
    intro a w S inj f l bs hi hvx hfx hbs hnd hk hroom hpos base cap olds ins he hnc hins hfc hfit
    have hsz : 0 < (ty T e).sz := by
      obtain ⟨_, _, _, _, _, _, _, _, hne⟩ := hi.nest hfx
      rw [← hk]; exact Nat.lt_of_le_of_lt (Nat.zero_le _) hne.ok
    have hI := (hT e).known (by omega)
    obtain ⟨vx, gx, fpx, hgx, capx, curx, ex, insx, hnx⟩ := hi.nest hfx
    have hex := hvx.ownw (v' := vx) (g := some gx) (by rw [hgx]; rfl)
    have hncx := hnx.nc
    have hS := qoE (P := P) hncx hk hnx.heap (cap := capx) rfl
    rw [← hnx.val, ← hex] at hS
    have hblkx : ∀ {i x}, i < news.length → insx i = some x → (inj bx).blk x := fun hi' hx => by rw [hgx]; exact .inr ((hnx.fpi _).2 ⟨_, hi', by simp, hx⟩)
    have hdis : ∀ i i' x, i < l.length → i' < news.length → ins i = some x → insx i' = some x → False := fun i i' x h1 h2 h3 h4 => by
      obtain ⟨b, hb, hbne, hbl, _⟩ := hins i x h1 h3
      exact hbne (hi.sep b bx x (hnd b hb) (hnd bx hbs) hbl (hblkx h2 h4))
    have hall := hnc.app hncx hdis
    have hcl : (catL l news).length = l.length + news.length := by unfold catL; simp
    have howner : ∀ i x, i < (l ++ news).length → (if i < l.length then ins i else insx (i - l.length)) = some x → ∃ b ∈ bs, (inj b).blk x ∧ ¬ S.all x ∧ x < w.heap.size := fun i x hil hx => by
      rw [List.length_append] at hil
      by_cases hlt : i < l.length
      · rw [if_pos hlt] at hx
        obtain ⟨b, hb, _, hbl, _, hs⟩ := hins i x hlt hx
        exact ⟨b, hb, hbl, hs, ((hi.live b).blk (hnd b hb) hbl).2⟩
      · rw [if_neg hlt] at hx
        have hbl := hblkx (by omega) hx
        have := (hi.live bx).blk (hnd bx hbs) hbl
        exact ⟨bx, hbs, hbl, this.1, this.2⟩
    have hother : ∀ b' x, b' ∉ bs → f b' ≠ .dead → (inj b').blk x → (∀ b ∈ bs, ¬ (inj b).blk x) ∧ x < w.heap.size := fun b' x hb' hd' hx =>
      ⟨fun b hb hbl => hb' (hi.sep b b' x (hnd b hb) hd' hbl hx ▸ hb), ((hi.live b').blk hd' hx).2⟩
    by_cases hm : l.length + news.length ≤ cap
    · obtain ⟨g, cur, e', rfl, hh, hnS, hcs, hol, hmax, b0, hb0, hb0n, hbg⟩ := hfit hm
      subst hol
      have hfitc : l.length * (ty T e).sz + (curx.toList.take (news.length * k)).length ≤ cur.size := by
        rw [hncx.len, hcs, ← hk, ← Nat.add_mul]; exact Nat.mul_le_mul_right _ hm
      have hr := qeu (ty := o.type) hd hd' (.inr ⟨e2, rfl⟩) hI hS hh hm hfitc
      have hG : Grow w S (w.setRow g (cur.toList.take (l.length * (ty T e).sz) ++ curx.toList.take (news.length * k) ++ cur.toList.drop (l.length * (ty T e).sz + (curx.toList.take (news.length * k)).length)).toArray) S := .setRow hnS
      have hng : ∀ i x, i < (l ++ news).length → (if i < l.length then ins i else insx (i - l.length)) = some x → x ≠ g := fun i x hil hx => by
        by_cases hlt : i < l.length
        · rw [if_pos hlt] at hx
          obtain ⟨b, hb, _, hbl, hne, _⟩ := hins i x hlt hx
          rintro rfl; exact hne rfl
        · rw [if_neg hlt] at hx
          rintro rfl
          rw [List.length_append] at hil
          exact hb0n (hi.sep b0 bx _ (hnd b0 hb0) (hnd bx hbs) hbg (hblkx (by omega) hx))
      have hall' := hall.grow hG hnx.ok fun i x hil hx => ⟨setRow_other w g x _ (hng i x hil hx), (howner i x hil hx).choose_spec.2.2.1⟩
      refine ⟨_, _, g, (fun x => ∃ i, i < l.length + news.length ∧ (if i < l.length then ins i else insx (i - l.length)) = some x), hG, hrun a w _ _ (by rw [he]; exact hr), ?_, fun b' x hb' hd' hx => ?_⟩
      · have := hall'.nest (cap := cap) (e := e') (rest := cur.toList.drop (l.length * (ty T e).sz + (curx.toList.take (news.length * k)).length)) hnx.ok hnS (by rw [hk]; exact setRow_heap w g _ _ _ _ hh) (by simpa using hm) hmax (by
            have h1 : cur.toList.length = cap * k := by rw [← hcs]; simp
            have h2 := Nat.mul_le_mul_right k hm
            rw [Nat.add_mul] at h2
            rw [List.length_append, hall.len, List.length_drop, hncx.len, ← hk, h1, List.length_append, Nat.add_mul]
            omega) (fun i hil hx => hng i g hil hx rfl)
        rw [List.length_append] at this
        exact this
      · obtain ⟨hno, hlt⟩ := hother b' x hb' hd' hx
        have hxg : x ≠ g := by rintro rfl; exact hno b0 hb0 hbg
        refine ⟨setRow_other w g x _ hxg, hxg, fun ⟨i, hil, hin⟩ => ?_⟩
        obtain ⟨b, hb, hbl, _⟩ := howner i x (by rw [List.length_append]; exact hil) hin
        exact hno b hb hbl
    · obtain ⟨zs, hzl, hr⟩ := qbm (ty := o.type) hd hd' (.inr ⟨e2, rfl⟩) hI hS hfc (by omega) hroom.1 hroom.2
      have hge := grownCap_ge w (l.length + news.length) cap e
      have hgm := grownCap_le_maxLen w (l.length + news.length) cap e (by simp only [maxLen]; omega)
      have hG : Grow w S (w.drew.alloc (.cells (olds ++ curx.toList.take (news.length * k) ++ zs).toArray e)) S := ⟨rfl, rfl, rfl, by simp, fun g' hg' => hao w.drew _ g' (hi.lt g' hg'), fun _ h => h, rfl⟩
      have hall' := hall.grow hG hnx.ok fun i x hil hx => ⟨hao w.drew _ x (howner i x hil hx).choose_spec.2.2.2, (howner i x hil hx).choose_spec.2.2.1⟩
      refine ⟨_, _, w.heap.size, (fun x => ∃ i, i < l.length + news.length ∧ (if i < l.length then ins i else insx (i - l.length)) = some x), hG, hrun a w _ _ (by rw [he]; exact hr), ?_, fun b' x hb' hd' hx => ?_⟩
      · have := hall'.nest (g := w.heap.size) (cap := grownCap w (l.length + news.length) cap e) (e := e) (rest := zs) hnx.ok (fun hs => absurd (hi.lt _ hs) (by omega)) (han w.drew _) (by simpa using hge) hgm (by
            rw [List.length_append, hall.len, hzl, List.length_append, ← hk, ← Nat.add_mul]; congr 1; exact Nat.add_sub_cancel' hge) (fun i hil hx => by
            have := (howner i _ hil hx).choose_spec.2.2.2
            omega)
        rw [List.length_append] at this
        exact this
      · obtain ⟨hno, hlt⟩ := hother b' x hb' hd' hx
        refine ⟨hao w.drew _ x hlt, by omega, fun ⟨i, hil, hin⟩ => ?_⟩
        obtain ⟨b, hb, hbl, _⟩ := howner i x (by rw [List.length_append]; exact hil) hin
        exact hno b hb hbl
  unfold qki at h
  split at h
  · rename_i b
    split at h
    · rename_i k1 o1 k1' l hb
      obtain ⟨hc, h⟩ := bcF h
      simp only [Bool.and_eq_true, Bool.not_eq_true'] at hc
      obtain ⟨⟨⟨⟨⟨hroom, h1⟩, h2⟩, h3⟩, h4⟩, hbb⟩ := hc
      have h1 := Nat.eq_of_beq_eq_true h1; subst h1
      have h2 := Nat.eq_of_beq_eq_true h2; subst h2
      have h3 := Nat.eq_of_beq_eq_true h3; subst h3
      have h4 := Nat.eq_of_beq_eq_true h4
      have hbb := Nat.ne_of_beq_eq_false hbb
      unfold qau at hroom
      simp only [decide_eq_true_eq] at hroom
      refine qh7 (bs := [b, bx]) (h _ rfl) fun a w S inj f hop hi hf => ?_
      have hfb := (hf b (by simp)).trans hb
      have hfx := (hf bx (by simp)).trans hbx
      have hnd : ∀ c, c ∈ [b, bx] → f c ≠ .dead := fun c hc => by
        simp at hc; rcases hc with rfl | rfl
        · rw [hfb]; simp
        · rw [hfx]; simp
      refine ⟨hnd, ?_⟩
      have hvs := hop so hms
      rw [hso] at hvs
      have hvx := hop xo hmx
      rw [hxo] at hvx
      obtain ⟨v, g, fp, hg, cap, cur, e', ins, hn⟩ := hi.nest hfb
      have he := (hvs.cellv (by simp)).ownw (v' := v) (g := some g) (by rw [hg]; rfl)
      have hcapk := Nat.mul_le_mul_right k1 hn.le
      by_cases hpos : 0 < news.length
      · refine core l [b, bx] hi (hvx.cellv (by simp)) hfx (by simp) hnd h4 hroom hpos (some ⟨g, 0, none⟩) cap _ ins (by rw [he, hn.val]) hn.nc (fun i x hi' hx => ?_) ?_ (fun hm => ?_)
        · have hfpx := (hn.fpi x).2 ⟨i, hi', by simp, hx⟩
          refine ⟨b, by simp, hbb, by rw [hg]; exact .inr hfpx, ?_, (hn.blk hfpx).1⟩
          intro hgx; simp at hgx; subst hgx; exact hn.ne hfpx
        · refine run_firstCells_some w.drew _ _ _ _ _ _ (by rw [← h4]; exact hn.nc.len) (fun j u hj => ?_)
          rw [List.getElem?_take] at hj
          split at hj
          · rw [qN, Nat.zero_add, World.cell?_drew]
            simpa [World.cell?, hn.heap] using hj
          · cases hj
        · exact ⟨g, cur, e', rfl, hn.heap, hn.own, hn.size, rfl, hn.max, b, by simp, hbb, by rw [hg]; exact .inl rfl⟩
      ·
        have hnews : news = [] := List.eq_nil_of_length_eq_zero (by omega)
        subst hnews
        obtain ⟨vx, gx, fpx, hgx, capx, curx, ex, insx, hnx⟩ := hi.nest hfx
        have hex := (hvx.cellv (by simp)).ownw (v' := vx) (g := some gx) (by rw [hgx]; rfl)
        have hI := (hT e).known (by have := hn.ok; omega)
        have hS := qoE (P := P) hnx.nc h4 hnx.heap (cap := capx) rfl
        rw [← hnx.val, ← hex] at hS
        have hr := qfu (ty := o.type) hd hd' (.inr ⟨e2, rfl⟩) hI (by simpa using hS) (base := some ⟨g, 0, none⟩) (n := l.length) (cap := cap) hn.le
        refine ⟨w, _, g, fp, .refl _ _, hrun a w _ _ (by rw [he, hn.val]; exact hr), ?_, fun b' x hb' hd' hx => ?_⟩
        · rw [← hn.val]
          have : catL l [] = l := by simp [catL]
          rw [this]
          exact ⟨cap, cur, e', ins, hn⟩
        · refine ⟨rfl, ?_, ?_⟩
          · rintro rfl
            have := hi.sep b b' x (hnd b (by simp)) hd' (by rw [hg]; exact .inl rfl) hx
            subst this; simp at hb'
          · intro hfx'
            have := hi.sep b b' x (hnd b (by simp)) hd' (by rw [hg]; exact .inr hfx') hx
            subst this; simp at hb'
    · rename_i k0 hb
      obtain ⟨hc, h⟩ := bcF h
      simp only [Bool.and_eq_true, Bool.not_eq_true', Bool.or_eq_true] at hc
      obtain ⟨⟨⟨⟨hroom, h4⟩, hbb⟩, hpos⟩, hk0⟩ := hc
      have h4 := Nat.eq_of_beq_eq_true h4
      have hbb := Nat.ne_of_beq_eq_false hbb
      have hpos := Nat.le_of_ble_eq_true hpos
      rw [qah] at hpos
      unfold qau at hroom
      simp only [decide_eq_true_eq] at hroom
      refine qh7 (bs := [b, bx]) h fun a w S inj f hop hi hf => ?_
      have hfb := (hf b (by simp)).trans hb
      have hfx := (hf bx (by simp)).trans hbx
      have hnd : ∀ c, c ∈ [b, bx] → f c ≠ .dead := fun c hc => by
        simp at hc; rcases hc with rfl | rfl
        · rw [hfb]; simp
        · rw [hfx]; simp
      refine ⟨hnd, ?_⟩
      have hvs := hop so hms
      rw [hso] at hvs
      have hvx := hop xo hmx
      rw [hxo] at hvx
      obtain ⟨v, g, hg, hro⟩ := hi.rows hfb
      have he := (hvs.cellv (by simp)).ownv hg
      have hcat : catL [] news = news := rfl
      rw [← hcat]
      rcases hro with ⟨_, rfl, ad, rfl⟩ | ⟨g', cap, cur, e', hk0', rfl, rfl, hnS, hh, hcap, hmax, hcs, hrl, hfl⟩
      · refine core [] [b, bx] hi (hvx.cellv (by simp)) hfx (by simp) hnd h4 (by simpa using hroom) hpos ad 0 [] (fun _ => none) he .nil (fun i x hi' => by simp at hi') (by cases ad <;> simp [Builtin.firstCells, loadCells, loadCellsFrom]) (fun hm => by rw [List.length_nil] at hm; omega)
      · have hkk : k0 = k := by
          rcases hk0 with h' | h'
          · rw [h4]; exact Nat.eq_of_beq_eq_true h'
          · have := Nat.eq_of_beq_eq_true h'; omega
        subst hkk
        refine core [] [b, bx] hi (hvx.cellv (by simp)) hfx (by simp) hnd h4 (by simpa using hroom) hpos (some ⟨g', 0, none⟩) cap [] (fun _ => none) he .nil (fun i x hi' => by simp at hi') (by simp [Builtin.firstCells, loadCells, loadCellsFrom]) (fun hm => ?_)
        exact ⟨g', cur, e', rfl, hh, hnS, hcs, by simp, hmax, b, by simp, hbb, by rw [hg]; rfl⟩
    · exact h.elim
  · obtain ⟨hc, h⟩ := bcF h
    simp only [Bool.and_eq_true] at hc
    obtain ⟨⟨hroom, h4⟩, hpos⟩ := hc
    have h4 := Nat.eq_of_beq_eq_true h4
    have hpos := Nat.le_of_ble_eq_true hpos
    rw [qah] at hpos
    unfold qau at hroom
    simp only [decide_eq_true_eq] at hroom
    refine qh7 (bs := [bx]) h fun a w S inj f hop hi hf => ?_
    have hfx := (hf bx (by simp)).trans hbx
    have hnd : ∀ c, c ∈ [bx] → f c ≠ .dead := fun c hc => by
      simp at hc; subst hc; rw [hfx]; simp
    refine ⟨hnd, ?_⟩
    have hvs := hop so hms
    rw [hso] at hvs
    have hvx := hop xo hmx
    rw [hxo] at hvx
    have he := hvs.flatv.1
    have hcat : catL [] news = news := rfl
    rw [← hcat]
    exact core [] [bx] hi (hvx.cellv (by simp)) hfx (by simp) hnd h4 (by simpa using hroom) hpos none 0 [] (fun _ => none) he .nil (fun i x hi' => by simp at hi') (by simp [Builtin.firstCells]) (fun hm => by rw [List.length_nil] at hm; omega)
  · exact h.elim
theorem RowOk.slice {w S k l v g} (h:RowOk w S k l v g):∃ a n c,v=.slice a n c:=by
 rcases h with ⟨_,_,a,rfl⟩ | ⟨g',cap,cur,e,_,_,rfl,_⟩
 ·exact ⟨_,_,_,rfl⟩
 ·exact ⟨_,_,_,rfl⟩
theorem qjG {inj:Nat→Loc} {n:Nat} {v g fp fp'} (h:inj n=.nest v g fp):Le inj (qbG inj n (.nest v g fp')):=fun b=>by
 unfold qbG; split
 ·rename_i e; subst e; exact .inr (.inl (.inr ⟨v,g,fp,fp',h,rfl⟩))
 ·exact .inr (.inl (.refl _))
theorem qrA {f:Nat→Blk} {a b:Nat} {A B:Blk} (h:a≠b):setB (setB f a A) b B=setB (setB f b B) a A:=by
 funext c
 by_cases h1:c=a<;>by_cases h2:c=b
 ·exact absurd (h1.symm.trans h2) h
 ·subst h1; rw [qZ h2,qaa,qaa]
 ·subst h2; rw [qaa,qZ h1,qaa]
 ·rw [qZ h2,qZ h1,qZ h1,qZ h2]
theorem qwe {T:List TI} {s:Nat} (hT:TOk P T) (h:qp4 (ty T s).d=true):InfoOk P s (ty T s)∧isAgg (ty T s).d=false∧(ty T s).sz=1:=by
 cases hd:(ty T s).d<;>rw [hd] at h<;>simp [qp4] at h
 have hI:=(hT s).desc (by rw [hd]; simp)
 have ha:isAgg (ty T s).d=false:=by rw [hd]; rfl
 refine ⟨hI,by rw [←hd]; exact ha,?_⟩
 obtain ⟨i,zv,_,_,_,_,_,hz,_⟩:=hI.info
 rw [←hI.z,hz ha]; rfl
theorem qqd (hT:TOk P T) {s b k i p:Nat} {x:Operand} (ho:o.op=.load s x) (hx:opd t x=.one (.ep b k i p)) (hsl:qp4 (ty T s).d=true) (h:qnj σ nx b k i p K):qM P t σ nx o K:=by
 have hmem:x∈o.op.operands:=by simp [ho,Op.operands]
 obtain ⟨hI,hag,hsz⟩:=qwe hT hsl
 have hrun:∀ (a:Act) (w:World) (g q:Nat) v',a.eval x=.pointer (some ⟨g,q,none⟩)→(loadVar s ⟨g,q,none⟩).run P w=.ok v' w→(execOp a.eval o).run P w=.ok (.value v') w:=fun a w g q v' he hr=>by
  unfold execOp; simp [ho,he,Instr.loadAt,Instr.sureAddr,hr]
 unfold qnj at h
 split at h
 ·rename_i k' q k2 l hb
  obtain ⟨hc,h⟩:=bcF h
  simp only [Bool.and_eq_true] at hc
  obtain ⟨⟨hrow,h1⟩,h2⟩:=hc
  have h1:=Nat.eq_of_beq_eq_true h1; subst h1
  have h2:=Nat.eq_of_beq_eq_true h2; subst h2
  obtain ⟨_,hrow⟩:=qdV hrow
  rw [qgF] at h
  split at h
  ·rename_i m rest hdr
   have hcell:(rowAt l i)[p]?=some (.sl m):=by
    rw [qa6] at hdr
    have:=congrArg (·[0]?) hdr
    simpa using this
   refine ⟨_,_,_,_,h,fun a f w S inj next Q hop hf hi hfr hn=>?_⟩
   have hfb:=(hf b (by simp)).trans hb
   have hv:=hop x hmem
   rw [hx] at hv
   obtain ⟨v0,g0,fp,hg0,cap,cur,e,ins,hN⟩:=hi.nest hfb
   obtain ⟨g,n,c,hg,he⟩:=(hv.cellv (by simp)).epv (by rw [hg0]; simp)
   rw [hg0] at hg; injection hg with hg; injection hg with e1 e2; injection e2 with e2; subst e2
   have hin:l[i]?=some (rowAt l i):=by simpa using hrow
   have hil:i < l.length:=(List.getElem?_eq_some_iff.1 hin).1
   obtain ⟨u,hu,hu1,_,hu2⟩:=hN.at_ i _ hin p _ hcell
   obtain ⟨m',hm',hro⟩:=hu2 rfl (by simp)
   injection hm' with hm'; subst hm'
   have hr:=(qgG hI (w:=w) (g:=g0) (p:=i * k + p) (vs:=[u]) (by rw [hsz]; rfl) (fun j u' hj=>by
    cases j with
    | zero=>simp at hj; subst hj; simpa [World.cell?,hN.heap] using hu
    | succ j=>simp at hj)).2 hag u rfl
   have h00:inj nx=.free∧f nx=.dead:=by simpa using hfr 0 (by simp)
   have hbn:b≠nx:=by rintro rfl; rw [hfb] at h00; cases h00.2
   have hfps:∀ y,(∃ i',i' < l.length∧some i≠some i'∧ins i'=some y)→fp y:=fun y ⟨i',h1,_,h3⟩=>(hN.fpi y).2 ⟨i',h1,by simp,h3⟩
   have hH:Nest w S k p k2 (some i) l v0 g0 (fun y=>∃ i',i' < l.length∧some i≠some i'∧ins i'=some y) cap cur e ins :=
    ⟨hN.ok,hN.val,hN.own,hN.heap,hN.le,hN.max,hN.size,hN.row,fun i' r hr' j c' hc'=>by
      obtain ⟨u',a1,a2,a3,a4⟩:=hN.at_ i' r hr' j c' hc'
      exact ⟨u',a1,a2,a3,fun hj _=>a4 hj (by simp)⟩,fun y=>Iff.rfl,fun i1 i2 y a1 a2 _ _ a5 a6=>hN.inj i1 i2 y a1 a2 (by simp) (by simp) a5 a6,fun hy=>hN.ne (hfps g0 hy)⟩
   have hle1:Le inj (qbG inj b (.nest v0 g0 fun y=>∃ i',i' < l.length∧some i≠some i'∧ins i'=some y)):=qjG hg0
   have hi1:=hi.set (.refl w S) hle1 (fun b' hb'=>qu hb') qA (fun b' y hb' hd' hy=>⟨rfl,((hi.live b').blk hd' hy).1⟩) (B:=.hole k p k2 i l) ⟨v0,g0,_,rfl,cap,cur,e,ins,hH⟩ (fun _ b' y hb' hd' hy1 hy2=>by
    have:(inj b).blk y:=by
     rw [hg0]
     rcases hy1 with hy1 | hy1
     ·exact .inl hy1
     ·exact .inr (hfps y hy1)
    exact hb' (hi.sep b' b y hd' (by rw [hfb]; simp) hy2 this)) hi.lt
   have hfree:qbG inj b (.nest v0 g0 fun y=>∃ i',i' < l.length∧some i≠some i'∧ins i'=some y) nx=.free:=by rw [qu (Ne.symm hbn)]; exact h00.1
   have hle2:=qa7 (l:=.row u (ins i)) hfree
   have hi2:=hi1.set (.refl w S) hle2 (fun b' hb'=>qu hb') qA (fun b' y hb' hd' hy=>⟨rfl,((hi1.live b').blk hd' hy).1⟩) (B:=.rows k2 m) ⟨u,ins i,rfl,hro⟩ (fun _ b' y hb' hd' hy1 hy2=>by
    have hy1:ins i=some y:=hy1
    have hfy:fp y:=(hN.fpi y).2 ⟨i,hil,by simp,hy1⟩
    by_cases hbb:b'=b
    ·subst hbb
     rw [qA] at hy2
     rcases hy2 with hy2 | ⟨i',a1,a2,a3⟩
     ·subst hy2; exact hN.ne hfy
     ·exact a2 (congrArg some (hN.inj i i' y hil a1 (by simp) (by simp) hy1 a3))
    ·rw [qu hbb] at hy2
     rw [qZ hbb] at hd'
     exact hbb (hi.sep b' b y hd' (by rw [hfb]; simp) hy2 (by rw [hg0]; exact .inr hfy))) hi.lt
   obtain ⟨ad,n',c',rfl⟩:=hro.slice
   refine qX (hrun a w g0 _ _ he hr) (hn _ _ S _ ⟨.refl _ _,hle1.trans hle2,fun b' hb' hbb=>?_,.ofc (.own (.inr ⟨ins i,by rw [qA]; rfl⟩)),?_⟩)
   ·rw [qu (by simp at hbb; omega),qu (by rintro rfl; rw [hg0] at hb'; cases hb')]; exact hb'
   ·rw [qoA (by simp; omega),qir,qrA (Ne.symm hbn)]
    exact hi2
  ·exact h.elim
 ·exact h.elim
theorem quK (hT:TOk P T) {s b k i p c:Nat} {x y:Operand} (ho:o.op=.store s x y) (hx:opd t x=.one (.ep b k i p)) (hy:opd t y=.one (.own c)) (hsl:qp4 (ty T s).d=true) (h:qxa σ b k i p c K):qM P t σ nx o K:=by
 have hmx:x∈o.op.operands:=by simp [ho,Op.operands]
 have hmy:y∈o.op.operands:=by simp [ho,Op.operands]
 obtain ⟨hI,hag,hsz⟩:=qwe hT hsl
 have hrun:∀ (a:Act) (w w':World) (g p:Nat),a.eval x=.pointer (some ⟨g,p,none⟩)→(storeVar s ⟨g,p,none⟩ (a.eval y)).run P w=.ok () w'→(execOp a.eval o).run P w=.ok .skip w':=fun a w w' g p he hr=>by
  unfold execOp; simp [ho,he,Instr.storeAt,Instr.sureAddr,hr]
 unfold qxa at h
 have hh:∃ k' q k2 i' l,look σ b=.hole k' q k2 i' l:=by
  cases hb:look σ b with
  | hole k' q k2 i' l=>exact ⟨_,_,_,_,_,rfl⟩
  | _=>rw [hb] at h; exact h.elim
 obtain ⟨k',q,k2,i',l,hb⟩:=hh
 rw [hb] at h
 ·have hc:=(bcF h).1
  replace h:=(bcF h).2
  simp only [Bool.and_eq_true] at hc
  obtain ⟨⟨⟨hrow,h1⟩,h2⟩,h3⟩:=hc
  have h1:=Nat.eq_of_beq_eq_true h1; subst h1
  have h2:=Nat.eq_of_beq_eq_true h2; subst h2
  have h3:=Nat.eq_of_beq_eq_true h3; subst h3
  obtain ⟨_,hrow⟩:=qdV hrow
  split at h
  ·rename_i k3 m hcb
   have hk3:=(bcF h).1
   replace h:=(bcF h).2
   simp only [Bool.or_eq_true] at hk3
   rw [qgF] at h
   refine ⟨_,_,_,_,h _ rfl,fun a f w S inj next Q hop hf hi hfr hn=>?_⟩
   have hfb:=(hf b (by simp)).trans hb
   have hfc:=(hf c (by simp)).trans hcb
   have hbc:b≠c:=by rintro rfl; rw [hfb] at hfc; cases hfc
   have hv:=hop x hmx
   rw [hx] at hv
   have hvy:=hop y hmy
   rw [hy] at hvy
   obtain ⟨v0,g0,fp,hg0,cap,cur,e,ins,hN⟩:=hi.hole hfb
   obtain ⟨vc,gc,hgc,hro⟩:=hi.rows hfc
   obtain ⟨g,n,c',hg,he⟩:=(hv.cellv (by simp)).epv (by rw [hg0]; simp)
   rw [hg0] at hg; injection hg with hg; injection hg with e1 e2; injection e2 with e2; subst e2
   have hey:=(hvy.cellv (by simp)).ownv hgc
   have hin:l[i]?=some (rowAt l i):=by simpa using hrow
   have hil:i < l.length:=(List.getElem?_eq_some_iff.1 hin).1
   have hrk:(rowAt l i).length=k:=hN.row _ (List.mem_of_getElem? hin)
   have hbound:i * k + k≤cur.size:=by
    have h1:(i + 1) * k≤l.length * k:=Nat.mul_le_mul_right _ hil
    have h2:l.length * k≤cap * k:=Nat.mul_le_mul_right _ hN.le
    rw [Nat.add_mul] at h1; rw [hN.size]; omega
   have hro2:RowOk w S k2 m vc gc:=by
    rcases hk3 with hk3 | hk3
    ·rw [←Nat.eq_of_beq_eq_true hk3]; exact hro
    ·have:=Nat.eq_of_beq_eq_true hk3; subst this
     rcases hro with hro | ⟨_,_,_,_,hlt,_⟩
     ·exact .inl hro
     ·omega
   obtain ⟨ad,n',c'',hvs⟩:=hro.slice
   have h1v:vc.oneCell'=true:=by rw [hvs]; rfl
   have hvcells:(a.eval y).cells=[vc].toArray:=by rw [hey,hvs]; rfl
   have hok:=hN.ok
   have hr:=qfN hI (w:=w) (g:=g0) (p:=i * k + p) (vs:=[vc]) hvcells (by rw [hsz]; rfl) hN.heap (by simp; omega) (fun u hu=>by simp at hu; subst hu; exact h1v)
   have hG:Grow w S (w.setRow g0 (cur.toList.take (i * k + p)++[vc]++cur.toList.drop (i * k + p + 1)).toArray) S:=.setRow hN.own
   have hgcne:∀ x,gc=some x→x≠g0∧¬ fp x:=fun x hx=>by
    constructor
    ·rintro rfl
     exact hbc (hi.sep b c _ (by rw [hfb]; simp) (by rw [hfc]; simp) (by rw [hg0]; exact .inl rfl) (by rw [hgc]; exact hx))
    ·intro hfx
     exact hbc (hi.sep b c _ (by rw [hfb]; simp) (by rw [hfc]; simp) (by rw [hg0]; exact .inr hfx) (by rw [hgc]; exact hx))
   obtain ⟨new,hnew⟩:∃ new:List Value,new=cur.toList.take (i * k + p)++[vc]++cur.toList.drop (i * k + p + 1):=⟨_,rfl⟩
   have hnl:new.length=cur.size:=by rw [hnew]; simp; omega
   have hnat:new[i * k + p]?=some vc:=by
    rw [hnew,List.append_assoc,List.getElem?_append_right (by simp; omega)]
    simp [Nat.min_eq_left (show i * k + p≤cur.size by omega)]
   have hnne:∀ j,j≠i * k + p→new[j]?=cur[j]?:=fun j hj=>by
    rw [hnew,List.append_assoc]
    have hl1:(cur.toList.take (i * k + p)).length=i * k + p:=by simp; omega
    rcases Nat.lt_or_gt_of_ne hj with h | h
    ·rw [List.getElem?_append_left (by omega),List.getElem?_take,if_pos h,Array.getElem?_toList]
    ·rw [List.getElem?_append_right (by omega),hl1,List.getElem?_append_right (by simp; omega),List.getElem?_drop,←Array.getElem?_toList]
     congr 1; simp; omega
   rw [←hnew] at hG
   simp only [List.length_singleton] at hr
   rw [←hnew] at hr
   have hother:∀ i1 j1,i1≠i→j1 < k→i1 * k + j1≠i * k + p:=fun i1 j1 hne hj=>by
    intro heq
    rcases Nat.lt_or_gt_of_ne hne with h | h
    ·have:(i1 + 1) * k≤i * k:=Nat.mul_le_mul_right _ h
     rw [Nat.add_mul] at this; omega
    ·have:(i + 1) * k≤i1 * k:=Nat.mul_le_mul_right _ h
     rw [Nat.add_mul] at this; omega
   obtain ⟨ins',hins'⟩:∃ ins':Nat→Option Nat,ins'=fun j=>if j=i then gc else ins j:=⟨_,rfl⟩
   have hi_i:ins' i=gc:=by rw [hins']; simp
   have hi_n:∀ j,j≠i→ins' j=ins j:=fun j hj=>by rw [hins']; simp [hj]
   have hsp:qdF (rowAt l i) p [.sl m]=(rowAt l i).take p++[.sl m]++(rowAt l i).drop (p + 1):=by rw [qfM _ _ _ (by simp; omega)]; rfl
   have hlen':(setRow l i (qdF (rowAt l i) p [.sl m])).length=l.length:=by unfold setRow; simp
   have hNN:Nest (w.setRow g0 new.toArray) S k p k2 none (setRow l i (qdF (rowAt l i) p [.sl m])) v0 g0 (fun x=>∃ j,j < l.length∧ins' j=some x) cap new.toArray e ins':=by
    refine ⟨hN.ok,by rw [hlen']; exact hN.val,hN.own,by simpa using setRow_heap w g0 _ _ _ _ hN.heap,by rw [hlen']; exact hN.le,hN.max,by simp [hnl,hN.size],fun r hr=>?_,fun i1 r hr j c1 hc1=>?_,fun x=>by rw [hlen']; simp,fun i1 i2 x a1 a2 _ _ a3 a4=>?_,fun ⟨j,hj,hx⟩=>?_⟩
    ·unfold setRow at hr
     rcases List.mem_or_eq_of_mem_set hr with hr | rfl
     ·exact hN.row _ hr
     ·rw [hsp]; simp; omega
    ·by_cases h1:i1=i
     ·subst h1
      have hr':r=qdF (rowAt l i1) p [.sl m]:=by
       unfold setRow at hr
       rw [List.getElem?_set_self hil] at hr
       injection hr with hr; exact hr.symm
      subst hr'
      by_cases hj:j=p
      ·subst hj
       have:c1=.sl m:=by
        rw [hsp,List.append_assoc,List.getElem?_append_right (by simp; omega)] at hc1
        simp [Nat.min_eq_left (show j≤(rowAt l i1).length by omega)] at hc1
        exact hc1.symm
       subst this
       refine ⟨vc,by rw [List.getElem?_toArray]; exact hnat,h1v,fun h=>absurd rfl h,fun _ _=>⟨m,rfl,?_⟩⟩
       rw [hi_i]
       exact hro2.grow hG fun x hx=>⟨setRow_other w g0 x _ (hgcne x hx).1,(hro2.blk hx).1⟩
      ·have hc2:(rowAt l i1)[j]?=some c1:=by
        rw [hsp,List.append_assoc] at hc1
        have hl1:((rowAt l i1).take p).length=p:=by simp; omega
        rcases Nat.lt_or_gt_of_ne hj with h | h
        ·rw [List.getElem?_append_left (by omega),List.getElem?_take,if_pos h] at hc1; exact hc1
        ·rw [List.getElem?_append_right (by omega),hl1,List.getElem?_append_right (by simp; omega),List.getElem?_drop] at hc1
         rw [←hc1]; congr 1; simp; omega
       obtain ⟨u,a1,a2,a3,_⟩:=hN.at_ i1 _ hin j c1 hc2
       exact ⟨u,by rw [List.getElem?_toArray,hnne _ (by omega)]; exact a1,a2,fun h=>(a3 h).grow hG,fun h=>absurd h hj⟩
     ·have hr':l[i1]?=some r:=by
       unfold setRow at hr
       rwa [List.getElem?_set_ne (Ne.symm h1)] at hr
      have hrl:=hN.row r (List.mem_of_getElem? hr')
      have hjk:j < k:=by rw [←hrl]; exact (List.getElem?_eq_some_iff.1 hc1).1
      obtain ⟨u,a1,a2,a3,a4⟩:=hN.at_ i1 r hr' j c1 hc1
      refine ⟨u,by rw [List.getElem?_toArray,hnne _ (hother i1 j h1 hjk)]; exact a1,a2,fun h=>(a3 h).grow hG,fun hj _=>?_⟩
      obtain ⟨m1,hm1,hr1⟩:=a4 hj (by intro h; injection h with h; exact h1 h.symm)
      refine ⟨m1,hm1,?_⟩
      rw [hi_n i1 h1]
      refine hr1.grow hG fun x hx=>⟨setRow_other w g0 x _ ?_,(hr1.blk hx).1⟩
      rintro rfl
      exact hN.ne ((hN.fpi _).2 ⟨i1,(List.getElem?_eq_some_iff.1 hr').1,by intro h; injection h with h; exact h1 h.symm,hx⟩)
    ·rw [hlen'] at a1 a2
     have hfpof:∀ j,j < l.length→j≠i→ins j=some x→fp x:=fun j hj hne hx=>(hN.fpi x).2 ⟨j,hj,by intro h; injection h with h; exact hne h.symm,hx⟩
     by_cases h1:i1=i<;>by_cases h2:i2=i
     ·rw [h1,h2]
     ·rw [h1,hi_i] at a3; rw [hi_n _ h2] at a4
      exact ((hgcne x a3).2 (hfpof i2 a2 h2 a4)).elim
     ·rw [h2,hi_i] at a4; rw [hi_n _ h1] at a3
      exact ((hgcne x a4).2 (hfpof i1 a1 h1 a3)).elim
     ·rw [hi_n _ h1] at a3; rw [hi_n _ h2] at a4
      exact hN.inj i1 i2 x a1 a2 (by intro h; injection h with h; exact h1 h.symm) (by intro h; injection h with h; exact h2 h.symm) a3 a4
    ·by_cases h1:j=i
     ·rw [h1,hi_i] at hx; exact (hgcne g0 hx).1 rfl
     ·rw [hi_n _ h1] at hx
      exact hN.ne ((hN.fpi _).2 ⟨j,hj,by intro h; injection h with h; exact h1 h.symm,hx⟩)
   have hid:=hi.drop (b:=c)
   have hgb:qbG inj c .dead b=.nest v0 g0 fp:=by rw [qu hbc]; exact hg0
   have hle:=qjG (fp':=fun x=>∃ j,j < l.length∧ins' j=some x) hgb
   have hi2:=hid.set hG hle (fun b' hb'=>qu hb') qA (fun b' x hb' hd' hx=>by
     by_cases hbc':b'=c
     ·subst hbc'; rw [qaa] at hd'; exact absurd rfl hd'
     ·rw [qZ hbc'] at hd'; rw [qu hbc'] at hx
      refine ⟨setRow_other w g0 x _ ?_,((hi.live b').blk hd' hx).1⟩
      rintro rfl
      exact hb' (hi.sep b' b _ hd' (by rw [hfb]; simp) hx (by rw [hg0]; exact .inl rfl))) (B:=.nest k p k2 (setRow l i (qdF (rowAt l i) p [.sl m]))) ⟨v0,g0,_,rfl,cap,new.toArray,e,ins',hNN⟩ (fun _ b' x hb' hd' hx1 hx2=>by
     by_cases hbc':b'=c
     ·subst hbc'; rw [qaa] at hd'; exact hd' rfl
     ·rw [qZ hbc'] at hd'; rw [qu hbc'] at hx2
      rcases hx1 with hx1 | ⟨j,hj,hx1⟩
      ·exact hb' (hi.sep b' b _ hd' (by rw [hfb]; simp) hx2 (by rw [hg0]; exact .inl hx1))
      ·by_cases h1:j=i
       ·rw [h1,hi_i] at hx1
        exact hbc' (hi.sep b' c _ hd' (by rw [hfc]; simp) hx2 (by rw [hgc]; exact hx1))
       ·rw [hi_n _ h1] at hx1
        exact hb' (hi.sep b' b _ hd' (by rw [hfb]; simp) hx2 (by rw [hg0]; exact .inr ((hN.fpi _).2 ⟨j,hj,by intro h; injection h with h; exact h1 h.symm,hx1⟩)))) (fun x hx=>Nat.lt_of_lt_of_le (hi.lt x hx) hG.size)
   refine qgh (hrun a w _ g0 _ he hr) (hn _ _ S _ ⟨hG,qe4.trans hle,fun b' hb' hbb=>?_,.tup (vs:=[]) .nil,?_⟩)
   ·rw [qu (by rintro rfl; rw [hg0] at hb'; cases hb'),qu (by rintro rfl; rw [hgc] at hb'; cases hb')]; exact hb'
   ·have hupd:∀ B,upd f nx [(b,B),(c,.dead)] []=setB (setB f c .dead) b B:=fun B=>by
     funext z
     unfold upd
     rw [if_neg (by simp)]
     by_cases hzb:z=b
     ·subst hzb; rw [qaa]; simp
     ·rw [qZ hzb]
      by_cases hzc:z=c
      ·subst hzc; rw [qaa]
       have:(b == z)=false:=by simpa using Ne.symm hzb
       simp [List.find?_cons,this]
      ·rw [qZ hzc]
       have h1:(b == z)=false:=by simpa using Ne.symm hzb
       have h2:(c == z)=false:=by simpa using Ne.symm hzc
       simp [List.find?_cons,h1,h2]
    rw [hupd]
    exact hi2
  ·exact h.elim
end Go.Proofs.YtidkmoohgadjkaaGreat.E
namespace Go.Proofs.YtidkmoohgadjkaaGreat.E
open Go
variable {P:Program} {T:List TI} {t:List A} {σ:List Blk} {nx:Nat} {o:Oper} {K:Kont}
theorem qiv {w S l v} (h:PR w S (.sl l) v):∃ base cap,v=.slice base l.length cap∧l.length≤cap:=by
 cases h with | sl vals hcap=>exact ⟨_,_,rfl,hcap⟩
theorem qlJ {x:TI} {c:C} {Kc:List (List PC)→List Nat→Prop} (h:qly σ c Kc):∃ l bs,Kc l bs∧c≠.junk ∧
  ((∀ b k o k' l,c=.own b→look σ b≠.nest k o k' l)→qae l x.sz=true→0 < x.sz→∀ {w S inj f v},Inv w S inj f→(∀ b,b∈bs→f b=look σ b)→VR w S inj c v→∃ us,Src P w x.sz l.length v us∧F2 (PR w S) l.flatten us):=by
 unfold qly at h
 split at h
 ·refine ⟨_,_,h,by simp,fun hnn hr hz {w S inj f v} hi hf hv=>?_⟩
  cases hv with | p hp=>exact qwd hp hr hz
 ·refine ⟨_,_,h,by simp,fun hnn hr hz {w S inj f v} hi hf hv=>?_⟩
  rw [hv.nilv]
  exact ⟨[],⟨fun w'=>by simp [Builtin.lenOf],by simp [Builtin.firstCells],by simp [Builtin.firstCells],by simp,by simp⟩,.nil⟩
 ·rename_i b
  split at h
  ·rename_i k l hb
   refine ⟨_,_,h,by simp,fun hnn hr hz {w S inj f v} hi hf hv=>?_⟩
   obtain ⟨v',g,hg,hro⟩:=hi.rows ((hf b (by simp)).trans hb)
   rw [hv.ownv hg]
   rcases hro with ⟨rfl,rfl,ad,rfl⟩ | ⟨g',cap,cur,e',hk0,rfl,rfl,hnS,hh,hcap,hmax,hcs,hrl,hfl⟩
   ·exact ⟨[],⟨fun w'=>by simp [Builtin.lenOf],by cases ad<;>simp [Builtin.firstCells,loadCells,loadCellsFrom],by cases ad<;>simp [Builtin.firstCells,loadCells,loadCellsFrom],by simp,by simp⟩,.nil⟩
   ·by_cases hl:l=[]
    ·subst hl
     exact ⟨[],⟨fun w'=>by simp [Builtin.lenOf],by simp [Builtin.firstCells,loadCells,loadCellsFrom],by simp [Builtin.firstCells,loadCells,loadCellsFrom],by simp,by simp⟩,.nil⟩
    ·have hkx:k=x.sz:=by
      have hr':=qdi hr
      cases l with
      | nil=>exact absurd rfl hl
      | cons r l=>rw [←hrl r (by simp),hr' r (by simp)]
     subst hkx
     have hcell:∀ j u,(cur.toList.take (l.length * x.sz))[j]?=some u→w.cell? ((⟨g',0,none⟩:Addr).add j)=some u:=fun j u hj=>by
      rw [List.getElem?_take] at hj
      split at hj
      ·rw [qN,Nat.zero_add]; simpa [World.cell?,hh] using hj
      ·cases hj
     have hle:(cur.toList.take (l.length * x.sz)).length=l.length * x.sz:=by
      have:l.length * x.sz≤cap * x.sz:=Nat.mul_le_mul_right _ hcap
      simp; omega
     refine ⟨_,⟨fun w'=>by simp [Builtin.lenOf],run_firstCells_some w _ _ _ _ _ _ hle hcell,run_firstCells_some w.drew _ _ _ _ _ _ hle (by simpa using hcell),hle,fun u hu=>?_⟩,hfl⟩
     obtain ⟨i,hi⟩:=List.getElem?_of_mem hu
     obtain ⟨c,_,hc'⟩:=hfl.getR hi
     exact hc'.one
  ·rename_i k o k' l hb
   exact ⟨_,_,h,by simp,fun hnn _ _=>absurd hb (hnn b _ _ _ _ rfl)⟩
  ·exact h.elim
 ·exact h.elim
theorem Inv.mpB {w S inj f b ka va es} (hi:Inv w S inj f) (hb:f b=.mp ka va es):∃ g entries clock,inj b=.mp g∧¬ S.all g∧w.heap[g]?=some (.map entries clock)∧MapKept.Stamped entries clock∧F2 (fun (x:List PC × List PC) (m:MapEntry)=>KeyV ka x.1 m.key∧ValV w S va x.2 m.val) es entries.toList:=by
 have:=hi.live b
 rw [hb] at this
 exact this
theorem VR.mpv {w S inj b v g} (h:VR w S inj (.mp b) v) (hb:inj b=.mp g):v=.map (some g):=by
 cases h with
 | mp h =>
  rcases h with h | ⟨g',h,rfl⟩
  ·rw [hb] at h; cases h
  ·rw [hb] at h; injection h with h; subst h; rfl
theorem quL {ar:Array Operand} {c:A} (h:mapR (opd t) ar.toList=[c]):∃ x,ar = #[x]∧opd t x=c:=by
 rw [qay] at h
 obtain ⟨l⟩:=ar
 match l,h with
 | [x],h=>simp at h; exact ⟨x,rfl,h⟩
theorem quM {ar:Array Operand} {c d:A} (h:mapR (opd t) ar.toList=[c,d]):∃ x y,ar = #[x,y]∧opd t x=c∧opd t y=d:=by
 rw [qay] at h
 obtain ⟨l⟩:=ar
 match l,h with
 | [x,y],h=>simp at h; exact ⟨x,y,rfl,h.1,h.2⟩
theorem qrB {ts:Array Nat} {a:Nat} {l:List Nat} (h:ts.toList=a::l):ts[0]?=some a:=by
 obtain ⟨m⟩:=ts; simp at h; simp [h]
theorem qlK {f:Int→Int→Int} {xs:List A} {Ka:A→Prop} (h:qou f xs Ka):∃ k a b,xs=[.one (.p (.v (.int k a))),.one (.p (.v (.int k b)))]∧Ka (.one (.p (.v (.int k (f a b))))):=by
 unfold qou at h
 split at h
 ·obtain ⟨he,h2⟩:=bcF h
  simp only [decide_eq_true_eq] at he
  subst he
  exact ⟨_,_,_,rfl,h2⟩
 ·exact h.elim
theorem qqe (hT:TOk P T) {b:Builtin} {ar:Array Operand} {ts:Array Nat} (ho:o.op=.call { callee:=.builtin b,args:=ar,argTypes:=ts })
  (h:qkj T σ nx b ts.toList (mapR (opd t) ar.toList) K):qM P t σ nx o K:=by
 have hmem:∀ x,x∈ar→x∈o.op.operands:=fun x hx=>by simp [ho,Op.operands,Call.operands,hx]
 have hrun:∀ (a:Act) (w w':World) (v':Value) (f:Array TypeId→TypeId→Array Value→Sem Value),(∀ c,builtin b ts o.type c (ar.map a.eval)=(do pure (.value (← f ts o.type (ar.map a.eval)))))→(f ts o.type (ar.map a.eval)).run P w=.ok v' w'→(execOp a.eval o).run P w=.ok (.value v') w':=fun a w w' v' f hb hr=>by
  unfold execOp
  simp only [ho,resolve,invoke,Sem.run_bind,Sem.run_pure,Result.andThen_ok]
  rw [hb]
  simp only [Sem.run_bind,hr,Result.andThen_ok,Sem.run_pure]
 unfold qkj at h
 split at h
 ·
  rename_i _ _ tt rest c hts hxs
  obtain ⟨x,rfl,hx⟩:=quL hxs
  have h0:=qrB hts
  split at h
  ·rename_i u hd
   have hD:=((hT tt).desc (by rw [hd]; simp)).d
   rw [hd] at hD
   refine qbH h rfl fun a f w S inj hop hf hi=>?_
   have hv:=hop x (hmem x (by simp))
   rw [hx] at hv
   exact hrun a w w _ Builtin.len_ (fun _=>rfl) (by simp [Builtin.len_,h0,hv.flatv.1,run_underlying hD,goInt,lenS])
  ·rename_i e hd
   have hD:=((hT tt).desc (by rw [hd]; simp)).d
   rw [hd] at hD
   obtain ⟨_,_,_,hcj,_⟩:=qlJ (P:=P) (x:=TI.none) h
   obtain ⟨l,bs,hk,hok⟩:=qoz h
   refine qbH (hk _ rfl) rfl fun a f w S inj hop hf hi=>?_
   have hv:=hop x (hmem x (by simp))
   rw [hx] at hv
   obtain ⟨base,cap,he,_⟩:=qiv (hok hi hf (hv.cellv hcj))
   exact hrun a w w _ Builtin.len_ (fun _=>rfl) (by simp [Builtin.len_,h0,he,run_underlying hD,goInt,lenL])
  ·exact h.elim
 ·
  rename_i _ _ tt rest x0 xs0 hne hts hxs
  have h0:=qrB hts
  split at h
  ·rename_i n e hd
   have hD:=((hT tt).desc (by rw [hd]; simp)).d
   rw [hd] at hD
   obtain ⟨l⟩:=ar
   cases l with
   | nil=>rw [qay] at hxs; cases hxs
   | cons y l =>
    refine qbH h rfl fun a f w S inj hop hf hi=>?_
    refine hrun a w w _ Builtin.len_ (fun _=>rfl) ?_
    have hx0:((⟨y::l⟩:Array Operand).map a.eval)[0]?=some (a.eval y):=by simp
    generalize (⟨y::l⟩:Array Operand).map a.eval=ar' at hx0 ⊢
    generalize a.eval y=v at hx0
    cases v<;>simp [Builtin.len_,h0,hx0,run_underlying hD,goInt]
  ·exact h.elim
 ·
  rename_i _ _ tt rest c hts hxs
  obtain ⟨x,rfl,hx⟩:=quL hxs
  have h0:=qrB hts
  split at h
  ·rename_i e hd
   have hD:=((hT tt).desc (by rw [hd]; simp)).d
   rw [hd] at hD
   refine qbH h rfl fun a f w S inj hop hf hi=>?_
   have hv:=hop x (hmem x (by simp))
   rw [hx] at hv
   exact hrun a w w _ Builtin.cap_ (fun _=>rfl) (by simp [Builtin.cap_,h0,hv.flatv.1,run_underlying hD,goInt])
  ·rename_i e b hd
   have hD:=((hT tt).desc (by rw [hd]; simp)).d
   rw [hd] at hD
   split at h
   ·rename_i hb
    refine qbH h rfl fun a f w S inj hop hf hi=>?_
    have hv:=hop x (hmem x (by simp))
    rw [hx] at hv
    obtain ⟨v,g,hg,hro⟩:=hi.rows ((hf b (by simp)).trans hb)
    have he:=(hv.cellv (by simp)).ownv hg
    rcases hro with ⟨_,_,ad,rfl⟩ | ⟨_,_,_,_,hlt,_⟩
    ·exact hrun a w w _ Builtin.cap_ (fun _=>rfl) (by simp [Builtin.cap_,h0,he,run_underlying hD,goInt])
    ·omega
   ·exact h.elim
  ·exact h.elim
 ·
  rename_i _ _ tt tt' sc xc hts hxs
  obtain ⟨so,xo,rfl,hso,hxo⟩:=quM hxs
  split at h
  ·rename_i e e' hd hd'
   have hD:=((hT tt).desc (by rw [hd]; simp)).d
   rw [hd] at hD
   have hD':=((hT tt').desc (by rw [hd']; simp)).d
   rw [hd'] at hD'
   obtain ⟨hee,h2⟩:=bcF h
   have hee:=Nat.eq_of_beq_eq_true hee
   subst hee
   clear h
   have hts2:ts = #[tt,tt']:=by obtain ⟨m⟩:=ts; simp at hts; simp [hts]
   subst hts2
   have hcase:(∃ bx k oo k' l,xc=.own bx∧look σ bx=.nest k oo k' l∧qki T σ nx e sc bx k oo k' l K)∨((∀ b k o k' l,xc=.own b→look σ b≠.nest k o k' l)∧qly σ xc fun l bs=>qgE T σ nx e sc l bs K):=by
    unfold qyP at h2
    split at h2
    ·rename_i bx
     split at h2
     ·rename_i k oo k' l hb
      exact .inl ⟨bx,k,oo,k',l,rfl,hb,h2⟩
     ·rename_i hne
      exact .inr ⟨fun b k o k' l e hb=>by injection e with e; subst e; exact hne _ _ _ _ hb,h2⟩
    ·rename_i hne
     exact .inr ⟨fun b k o k' l e _=>hne b e,h2⟩
   rcases hcase with ⟨bx,k,oo,k',l,rfl,hb,h3⟩ | ⟨hnn,h2⟩
   ·exact qqc hT ho hso hxo hb hD hD' h3
   obtain ⟨l,bs,hk,hcj,hsrc⟩:=qlJ (x:=ty T e) h2
   have hsrc:=hsrc hnn
   by_cases hok:qae l (ty T e).sz=true∧0 < (ty T e).sz
   ·exact qjF hT ho hso hxo hcj hD hD' (.inr ⟨e,rfl⟩) (hsrc hok.1 hok.2) hk
   ·exfalso
    unfold qgE at hk
    split at hk
    ·split at hk
     ·obtain ⟨h1,h2⟩:=bcF hk
      obtain ⟨h3,_⟩:=bcF h2
      simp only [Bool.and_eq_true] at h1
      exact hok ⟨h1.1.2,Nat.le_of_ble_eq_true h3⟩
     ·exact hk
    ·obtain ⟨h1,h2⟩:=bcF hk
     obtain ⟨h3,_⟩:=bcF h2
     simp only [Bool.and_eq_true] at h1
     exact hok ⟨h1.2,Nat.le_of_ble_eq_true h3⟩
    ·obtain ⟨h1,h2⟩:=bcF hk
     obtain ⟨h3,_⟩:=bcF h2
     simp only [Bool.and_eq_true] at h1
     exact hok ⟨h1.1.2,Nat.le_of_ble_eq_true h3⟩
    ·exact hk
  ·rename_i e hd hd'
   have hD:=((hT tt).desc (by rw [hd]; simp)).d
   rw [hd] at hD
   have hD':=((hT tt').desc (by rw [hd']; simp)).d
   rw [hd'] at hD'
   have hts2:ts = #[tt,tt']:=by obtain ⟨m⟩:=ts; simp at hts; simp [hts]
   subst hts2
   split at h
   ·rename_i u
    have hsrc:qae (qdG u) (ty T e).sz=true→∀ {w S inj f v},Inv w S inj f→(∀ b,b∈([]:List Nat)→f b=look σ b)→VR w S inj (.p (.v (.string u))) v→∃ us,Src P w (ty T e).sz (qdG u).length v us∧F2 (PR w S) (qdG u).flatten us:=by
     intro hr w S inj f v _ _ hv
     obtain ⟨rfl,_⟩:=(VA.ofc hv).flatv
     have hs:=qxA (P:=P) (w:=w) (S:=S) (u:=u)
     have hl:(qdG u).length=u.size:=by unfold qdG; simp
     rw [hl]
     by_cases hu:u.size=0
     ·have he:qdG u=[]:=List.eq_nil_of_length_eq_zero (by rw [hl]; exact hu)
      have h2:=hs.1
      rw [hu] at h2
      have hc:Lib.strCells u=[]:=List.eq_nil_of_length_eq_zero (by rw [h2.l])
      rw [hu]
      refine ⟨[],⟨h2.len,?_,?_,by simp,by simp⟩,by rw [he]; exact .nil⟩
      ·simp [Builtin.firstCells]
      ·simp [Builtin.firstCells]
     ·have h1:(ty T e).sz=1:=by
       have:=qdi hr
       cases hb:qdG u with
       | nil=>rw [hb] at hl; simp at hl; omega
       | cons r l =>
        have h3:=this r (by rw [hb]; simp)
        unfold qdG at hb
        cases hd2:u.data.toList with
        | nil=>rw [hd2] at hb; cases hb
        | cons b l2=>rw [hd2] at hb; injection hb with hb _; subst hb; simpa using h3.symm
      rw [h1]
      exact ⟨_,hs.1,hs.2⟩
    by_cases hok:qae (qdG u) (ty T e).sz=true
    ·exact qjF hT ho hso hxo (by simp) hD hD' (.inl rfl) (hsrc hok) h
    ·exfalso
     unfold qgE at h
     split at h
     ·split at h
      ·obtain ⟨h1,h2⟩:=bcF h
       simp only [Bool.and_eq_true] at h1
       exact hok h1.1.2
      ·exact h
     ·obtain ⟨h1,h2⟩:=bcF h
      simp only [Bool.and_eq_true] at h1
      exact hok h1.2
     ·obtain ⟨h1,h2⟩:=bcF h
      simp only [Bool.and_eq_true] at h1
      exact hok h1.1.2
     ·exact h
   ·exact h.elim
  ·exact h.elim
 ·
  obtain ⟨k,a,b,hxs,h2⟩:=qlK h
  obtain ⟨x,y,rfl,hx,hy⟩:=quM hxs
  refine qbH h2 rfl fun ac f w S inj hop hf hi=>?_
  have hv:=hop x (hmem x (by simp))
  have hv':=hop y (hmem y (by simp))
  rw [hx] at hv
  rw [hy] at hv'
  exact hrun ac w w _ Builtin.max_ (fun _=>rfl) (by simp [Builtin.max_,hv.flatv.1,hv'.flatv.1,Builtin.max2,maxI])
 ·obtain ⟨k,a,b,hxs,h2⟩:=qlK h
  obtain ⟨x,y,rfl,hx,hy⟩:=quM hxs
  refine qbH h2 rfl fun ac f w S inj hop hf hi=>?_
  have hv:=hop x (hmem x (by simp))
  have hv':=hop y (hmem y (by simp))
  rw [hx] at hv
  rw [hy] at hv'
  exact hrun ac w w _ Builtin.min_ (fun _=>rfl) (by simp [Builtin.min_,hv.flatv.1,hv'.flatv.1,Builtin.min2,minI])
 ·rename_i _ _ _ k a b hxs
  obtain ⟨x,rfl,hx⟩:=quL hxs
  refine qbH h rfl fun ac f w S inj hop hf hi=>?_
  have hv:=hop x (hmem x (by simp))
  rw [hx] at hv
  exact hrun ac w w _ Builtin.real_ (fun _=>rfl) (by rw [show Array.map ac.eval #[x] = #[ac.eval x] from by simp,hv.flatv.1]; rfl)
 ·rename_i _ _ _ k a b hxs
  obtain ⟨x,rfl,hx⟩:=quL hxs
  refine qbH h rfl fun ac f w S inj hop hf hi=>?_
  have hv:=hop x (hmem x (by simp))
  rw [hx] at hv
  exact hrun ac w w _ Builtin.imag_ (fun _=>rfl) (by rw [show Array.map ac.eval #[x] = #[ac.eval x] from by simp,hv.flatv.1]; rfl)
 ·rename_i _ _ _ k a k' b hxs
  obtain ⟨x,y,rfl,hx,hy⟩:=quM hxs
  obtain ⟨he,h⟩:=bcF h
  simp only [decide_eq_true_eq] at he
  refine qbH h rfl fun ac f w S inj hop hf hi=>?_
  have hv:=hop x (hmem x (by simp))
  have hv':=hop y (hmem y (by simp))
  rw [hx] at hv
  rw [hy] at hv'
  exact hrun ac w w _ Builtin.complex_ (fun _=>rfl) (by
   rw [show Array.map ac.eval #[x,y] = #[ac.eval x,ac.eval y] from by simp,hv.flatv.1,hv'.flatv.1]
   show (if k = k' then pure (.complex k a b) else stuck "complex: parts of different kinds" : Sem Value).run P w = _
   rw [if_pos he]; rfl)
 ·exact h.elim
theorem qnr {x:Option Operand} {Ki:Option Int→Prop} (h:valI t x Ki):∃ i,Ki i∧∀ {w S inj} {a:Act},(∀ y,x=some y→VA w S inj (opd t y) (a.eval y))→∃ v:Option Value,x.map a.eval=v∧((i=none∧v=none)∨∃ k n,i=some n∧v=some (.int k n)):=by
 cases x with
 | none=>exact ⟨none,h,fun {w S inj a} _=>⟨none,rfl,.inl ⟨rfl,rfl⟩⟩⟩
 | some x =>
  dsimp only [valI] at h
  split at h
  ·rename_i k n hx
   refine ⟨some n,h,fun {w S inj a} hv=>⟨_,rfl,.inr ⟨k,n,rfl,?_⟩⟩⟩
   have:=hv x rfl
   rw [hx] at this
   simp [this.flatv.1]
  ·exact h.elim
theorem qgk {isSlice:Bool} {len cap:Nat} {lo hi mx:Option Value} {a h m:Int} (w:World)
  (hlo:(lo=none∧a=0)∨∃ k,lo=some (.int k a)) (hhi:(hi=none∧h=len∧mx=none)∨∃ k,hi=some (.int k h)) (hmx:(mx=none∧m=cap)∨∃ k,mx=some (.int k m))
  (h0:0≤a) (h1:a≤h) (h2:h≤m) (h3:m≤cap):(Instr.sliceBounds isSlice len cap lo hi mx).run P w=.ok (a.toNat,h.toNat,m.toNat) w:=by
 have sb:∀ (k:IntKind) (i:Int) (y:Nat) (c:BoundsCode),0≤i→i≤y→(Instr.sliceBound (.int k i) y c).run P w=.ok i.toNat w:=fun k i y c hi0 hi1=>run_sliceBound w k i y c hi0 hi1
 have e1:(m.toNat:Int)=m:=by omega
 have e2:(h.toNat:Int)=h:=by omega
 rcases hmx with ⟨rfl,rfl⟩ | ⟨km,rfl⟩<;>rcases hhi with ⟨rfl,rfl,hh⟩ | ⟨kh,rfl⟩<;>rcases hlo with ⟨rfl,rfl⟩ | ⟨kl,rfl⟩<;>try (cases hh; done)
 all_goals
  simp only [Instr.sliceBounds,Sem.run_bind,Sem.run_pure,Result.andThen_ok,Option.isSome_none,Option.isSome_some,Int.toNat_natCast]
  repeat (first
   | rw [sb _ _ _ _ (by omega) (by omega)]
   | rw [Result.andThen_ok]
   | rw [Int.toNat_natCast])
  try rfl
end Go.Proofs.YtidkmoohgadjkaaGreat.E
namespace Go.Proofs.YtidkmoohgadjkaaGreat.E
open Go
variable {P:Program} {T:List TI} {t:List A} {σ:List Blk} {nx:Nat} {o:Oper} {K:Kont}
theorem qoF {l:List (List PC)} {j:Int} (h:lenC l j=true):0≤j∧j≤(l.length:Int):=by
 unfold lenC at h; simpa using h
theorem qhj {l:List (List PC)} {a h:Int} (h0:0≤a) (h1:a≤h) (h2:h≤(l.length:Int)):(qbF l a h).length=h.toNat - a.toNat:=by
 unfold qbF; simp; omega
theorem PR.part {w S l v} {sz:Nat} (hp:PR w S (.sl l) v) (hr:qae l sz=true) {a h:Int} (h0:0≤a) (h1:a≤h) (h2:h≤(l.length:Int)) {base:Option Addr} {cap:Nat} (hv:v=.slice base l.length cap) {m:Nat} (hm:h.toNat≤m) (hm2:m≤cap) :
  PR w S (.sl (qbF l a h)) (.slice (if m=a.toNat then base else base.map (·.add (a.toNat * sz))) (h.toNat - a.toNat) (m - a.toNat)):=by
 cases hp with
 | @sl _ base' cap' k vals hcap hk hrw hb hc hvv =>
  injection hv with e1 _ e3
  subst e1; subst e3
  have hlen:=qhj h0 h1 h2
  rw [←hlen]
  by_cases he:qbF l a h=[]
  ·rw [he]
   exact .sl (k:=1) (fun _ _=>.nilFunc) (Nat.zero_le _) (by omega) (by simp) (.inl rfl) (fun g o _ i j hi=>by simp at hi) (fun i j r c hr=>by simp at hr)
  ·have hne:a.toNat < h.toNat:=by
    have:(qbF l a h).length≠0:=fun hx=>he (List.eq_nil_of_length_eq_zero hx)
    omega
   have hlne:l≠[]:=by rintro rfl; simp at h2; omega
   obtain ⟨g,p,rfl,hS⟩:=hb.resolve_left hlne
   have hks:k=sz:=by
    have hr':=qdi hr
    cases l with
    | nil=>exact absurd rfl hlne
    | cons r l=>rw [←hrw r (by simp),hr' r (by simp)]
   subst hks
   rw [if_neg (by omega)]
   simp only [Option.map_some,qN]
   have hget:∀ i r,(qbF l a h)[i]?=some r→l[a.toNat + i]?=some r:=fun i r hi=>by
    unfold qbF at hi
    rw [List.getElem?_drop,List.getElem?_take] at hi
    split at hi
    ·exact hi
    ·cases hi
   refine .sl (k:=k) (fun i j=>vals (a.toNat + i) j) (by omega) hk (fun r hr=>?_) (.inr ⟨g,_,rfl,hS⟩) (fun g' p' e i j hi hj=>?_) (fun i j r c hi hj=>hvv _ _ _ _ (hget i r hi) hj)
   ·obtain ⟨i,hi⟩:=List.getElem?_of_mem hr
    exact hrw r (List.mem_of_getElem? (hget i r hi))
   ·injection e with e; injection e with e1 e2; subst e1; subst e2
    have:=hc g p rfl (a.toNat + i) j (by omega) hj
    rw [←this]
    congr 2
    rw [Nat.add_mul]; omega
theorem quN {c:C} {Kc:List (List PC)→Prop} (h:qxb c Kc):∃ l,Kc l∧c≠.junk∧∀ {w S inj v},VR w S inj c v→PR w S (.sl l) v:=by
 unfold qxb at h
 split at h
 ·exact ⟨_,h,by simp,fun hv=>by cases hv with | p hp=>exact hp⟩
 ·refine ⟨_,h,by simp,fun hv=>?_⟩
  rw [hv.nilv]
  exact .sl (k:=1) (fun _ _=>.nilFunc) (Nat.le_refl _) (by omega) (by simp) (.inl rfl) (fun g o _ i j hi=>by simp at hi) (fun i j r c hr=>by simp at hr)
 ·exact h.elim
def OptV (i:Option Int) (v:Option Value):Prop:=(i=none∧v=none)∨∃ k n,i=some n∧v=some (.int k n)
theorem qrC (hT:TOk P T) {s e:Nat} {x:Operand} {lo hi mx:Option Operand} {c:C} {a b m:Option Int} (hmx:x∈o.op.operands) (hx:opd t x=.one c) (hD:P.underlying s=some (.slice e))
  (hrun:∀ (ac:Act) (w:World) v,(Instr.sliceAt s (ac.eval x) (lo.map ac.eval) (hi.map ac.eval) (mx.map ac.eval)).run P w=.ok v w→(execOp ac.eval o).run P w=.ok (.value v) w)
  (hla:∀ {w S inj} {ac:Act},(∀ x,x∈o.op.operands→VA w S inj (opd t x) (ac.eval x))→∃ v:Option Value,lo.map ac.eval=v∧OptV a v)
  (hlb:∀ {w S inj} {ac:Act},(∀ x,x∈o.op.operands→VA w S inj (opd t x) (ac.eval x))→∃ v:Option Value,hi.map ac.eval=v∧OptV b v)
  (hlm:∀ {w S inj} {ac:Act},(∀ x,x∈o.op.operands→VA w S inj (opd t x) (ac.eval x))→∃ v:Option Value,mx.map ac.eval=v∧OptV m v)
  (h:qq8 T σ nx e c a b m K):qM P t σ nx o K:=by
 have lo_of:∀ {v:Option Value} {a:Option Int},OptV a v→(v=none∧a.getD 0=0)∨∃ k,v=some (.int k (a.getD 0)):=fun {v a} hv=>by
  rcases hv with ⟨rfl,rfl⟩ | ⟨k,n,rfl,rfl⟩
  ·exact .inl ⟨rfl,rfl⟩
  ·exact .inr ⟨k,rfl⟩
 unfold qq8 at h
 have hse:=Nat.le_of_ble_eq_true (bcF h).1
 replace h:=(bcF h).2
 have hIe:=(hT e).known (by omega)
 split at h
 ·
  rename_i bb hh
  split at h
  ·rename_i k l hb
   obtain ⟨hc,h⟩:=bcF h
   simp only [Bool.and_eq_true] at hc
   obtain ⟨hl0,hl1⟩:=qoF hc.1
   refine ⟨_,_,_,_,h _ rfl,fun ac f w S inj next Q hop hf hi' hfr hn=>?_⟩
   have hfb:=(hf bb (by simp)).trans hb
   have hv:=hop x hmx
   rw [hx] at hv
   obtain ⟨v0,g0,hg0,hro⟩:=hi'.rows hfb
   have he:=(hv.cellv (by simp)).ownv hg0
   obtain ⟨v1,hv1,hc1⟩:=hla hop
   obtain ⟨v2,hv2,hc2⟩:=hlb hop
   obtain ⟨v3,hv3,hc3⟩:=hlm hop
   have hc3:v3=none:=by rcases hc3 with ⟨_,h⟩ | ⟨_,_,h,_⟩; exact h; cases h
   subst hc3
   obtain ⟨k2,hc2⟩:∃ k,v2=some (.int k hh):=by
    rcases hc2 with ⟨h,_⟩ | ⟨k,n,h1,h2⟩
    ·cases h
    ·injection h1 with h1; subst h1; exact ⟨k,h2⟩
   subst hc2
   have h00:inj nx=.free∧f nx=.dead:=by simpa using hfr 0 (by simp)
   have hbn:bb≠nx:=by rintro rfl; rw [hfb] at h00; cases h00.2
   have hid:=hi'.drop (b:=bb)
   have hfree:qbG inj bb .dead nx=.free:=by rw [qu (Ne.symm hbn)]; exact h00.1
   obtain ⟨ad,cap,e0,hcap⟩:∃ ad cap,v0=.slice ad l.length cap∧l.length≤cap:=by
    rcases hro with ⟨rfl,_,ad,rfl⟩ | ⟨g',cap,cur,e',hk0,_,rfl,_,_,hcap,_⟩
    ·exact ⟨ad,0,rfl,Nat.le_refl _⟩
    ·exact ⟨_,_,rfl,hcap⟩
   have hbr:=qgk (P:=P) (isSlice:=true) (len:=l.length) (cap:=cap) (lo:=v1) (hi:=some (.int k2 hh)) (mx:=none) (a:=0) (h:=hh) (m:=cap) w
    (by have:=lo_of hc1; simpa using this) (.inr ⟨k2,rfl⟩) (.inl ⟨rfl,rfl⟩) (Int.le_refl _) hl0 (by omega) (Int.le_refl _)
   have hrv:(Instr.sliceAt s (ac.eval x) (lo.map ac.eval) (hi.map ac.eval) (mx.map ac.eval)).run P w=.ok (.slice ad hh.toNat cap) w:=by
    rw [hv1,hv2,hv3,he,e0]
    have hsz:=hIe.size w
    simp only [Int.toNat_natCast,Int.toNat_zero] at hbr
    by_cases hc0:cap=0
    ·subst hc0; simp [Instr.sliceAt,Instr.slice,run_underlying hD,hbr,hsz]
    ·cases ad with
     | none=>simp [Instr.sliceAt,Instr.slice,run_underlying hD,hbr,hsz,hc0]
     | some ad=>simp [Instr.sliceAt,Instr.slice,run_underlying hD,hbr,hsz,hc0,Addr.add]
   have hR:RowOk w S k (qbF l 0 hh) (.slice ad hh.toNat cap) g0:=by
    have hlen:(qbF l 0 hh).length=hh.toNat:=by rw [qhj (Int.le_refl _) hl0 hl1]; simp
    rcases hro with ⟨rfl,rfl,ad',e1⟩ | ⟨g',cap',cur,e',hk0,rfl,e1,hnS,hh',hcap',hmax,hcs,hrl,hfl⟩
    ·rw [e1] at e0; injection e0 with e2 _ e3; subst e2; subst e3
     have:hh.toNat=0:=by simp at hl1; omega
     rw [this]
     exact .inl ⟨by unfold qbF; simp,rfl,_,rfl⟩
    ·rw [e1] at e0; injection e0 with e2 _ e3; subst e2; subst e3
     refine .inr ⟨g',_,cur,e',hk0,rfl,by rw [hlen],hnS,hh',by rw [hlen]; omega,hmax,hcs,fun r hr=>?_,?_⟩
     ·refine hrl r ?_
      unfold qbF at hr
      simp at hr
      exact List.mem_of_mem_take hr
     ·have e3:(qbF l 0 hh).flatten=l.flatten.take (hh.toNat * k):=by
       unfold qbF
       simp only [Int.toNat_zero,List.drop_zero]
       have h1:(l.take hh.toNat).flatten.length=hh.toNat * k:=by
        rw [qaG (fun r hr=>hrl r (List.mem_of_mem_take hr)),List.length_take,Nat.min_eq_left (by omega)]
       conv=>rhs; rw [←List.take_append_drop hh.toNat l,List.flatten_append,←h1,List.take_left]
      rw [e3,hlen]
      have:=hfl.take (hh.toNat * k)
      rw [List.take_take,Nat.min_eq_left (Nat.mul_le_mul_right _ (by omega))] at this
      exact this
   have hle:=qa7 (l:=.row (.slice ad hh.toNat cap) g0) hfree
   refine qX (hrun ac w _ hrv) (hn _ _ S (qbG (qbG inj bb .dead) nx (.row (.slice ad hh.toNat cap) g0)) ⟨.refl _ _,qe4.trans hle,fun c' hc' hcc=>?_,.ofc (.own (.inr ⟨g0,by rw [qA]; rfl⟩)),?_⟩)
   ·rw [qu (by simp at hcc; omega),qu (by rintro rfl; rw [hg0] at hc'; cases hc')]; exact hc'
   ·have hupd:upd f nx [(bb,.dead)] [.rows k (qbF l 0 hh)]=setB (setB f bb .dead) nx (.rows k (qbF l 0 hh)):=by
     have:=qeR f nx [bb] (.rows k (qbF l 0 hh))
     simp only [List.map_cons,List.map_nil] at this
     rw [this]
     congr 1
     funext c
     by_cases hcb:c=bb
     ·subst hcb; rw [qaK (by simp),qaa]
     ·rw [qb1 (by simpa using hcb),qZ hcb]
    rw [hupd]
    refine hid.set (.refl _ _) hle (fun _ h=>qu h) qA (fun b' g' hb' hd' hg'=>⟨rfl,((hid.live b').blk hd' hg').1⟩) ⟨_,_,rfl,hR⟩ (fun _ b' g' hb' hd' hg1 hg2=>?_) hi'.lt
    have hbb:b'≠bb:=by rintro rfl; rw [qaa] at hd'; exact hd' rfl
    rw [qZ hbb] at hd'
    rw [qu hbb] at hg2
    exact hbb (hi'.sep b' bb g' hd' (by rw [hfb]; simp) hg2 (by rw [hg0]; exact hg1))
  ·exact h.elim
 ·rename_i hne
  obtain ⟨l,h,hcj,hok⟩:=quN h
  obtain ⟨hc,h⟩:=bcF h
  simp only [Bool.and_eq_true] at hc
  obtain ⟨⟨⟨hc1,hc2⟩,hc3⟩,hc4⟩:=hc
  obtain ⟨hl0,hl1⟩:=qoF hc1
  unfold leI at hc2 hc3
  simp only [decide_eq_true_eq] at hc2 hc3
  have hval:∀ {ac:Act} {w:World} {S inj f},(∀ x,x∈o.op.operands→VA w S inj (opd t x) (ac.eval x))→Inv w S inj f→(∀ mm,m=some mm→mm=b.getD (lenL l)∧b.isSome=true) →
    ∃ base cap,∃ mn:Nat,ac.eval x=.slice base l.length cap∧PR w S (.sl l) (.slice base l.length cap)∧(b.getD (lenL l)).toNat≤mn∧mn≤cap∧(m.isSome=true→mn=(b.getD (lenL l)).toNat) ∧
     (execOp ac.eval o).run P w=.ok (.value (.slice (if mn=(a.getD 0).toNat then base else base.map (·.add ((a.getD 0).toNat * (ty T e).sz))) ((b.getD (lenL l)).toNat - (a.getD 0).toNat) (mn - (a.getD 0).toNat))) w:=by
   intro ac w S inj f hop hi' hmm
   have hv:=hop x hmx
   rw [hx] at hv
   have hp:=hok (hv.cellv hcj)
   obtain ⟨base,cap,he,hcap⟩:=qiv hp
   rw [he] at hp
   obtain ⟨v1,hv1,hc1'⟩:=hla hop
   obtain ⟨v2,hv2,hc2'⟩:=hlb hop
   obtain ⟨v3,hv3,hc3'⟩:=hlm hop
   have hsz:=hIe.size w
   cases m with
   | none =>
    have hc3:v3=none:=by rcases hc3' with ⟨_,h⟩ | ⟨_,_,h,_⟩; exact h; cases h
    subst hc3
    have hbr:=qgk (P:=P) (isSlice:=true) (len:=l.length) (cap:=cap) (lo:=v1) (hi:=v2) (mx:=none) (a:=a.getD 0) (h:=b.getD (lenL l)) (m:=cap) w (lo_of hc1')
     (by rcases hc2' with ⟨rfl,rfl⟩ | ⟨k,n,rfl,rfl⟩; exact .inl ⟨rfl,rfl,rfl⟩; exact .inr ⟨k,rfl⟩) (.inl ⟨rfl,rfl⟩) hc2 hc3 (by omega) (Int.le_refl _)
    refine ⟨base,cap,cap,he,hp,by omega,Nat.le_refl _,by simp,hrun ac w _ ?_⟩
    rw [hv1,hv2,hv3,he]
    simp only [Int.toNat_natCast] at hbr
    simp [Instr.sliceAt,Instr.slice,run_underlying hD,hbr,hsz]
   | some mm =>
    obtain ⟨hm1,hm2⟩:=hmm mm rfl
    obtain ⟨k3,hv3'⟩:∃ k,v3=some (.int k mm):=by
     rcases hc3' with ⟨h,_⟩ | ⟨k,n,h1,h2⟩
     ·cases h
     ·injection h1 with h1; subst h1; exact ⟨k,h2⟩
    subst hv3'
    have hbr:=qgk (P:=P) (isSlice:=true) (len:=l.length) (cap:=cap) (lo:=v1) (hi:=v2) (mx:=some (.int k3 mm)) (a:=a.getD 0) (h:=b.getD (lenL l)) (m:=mm) w (lo_of hc1')
     (by rcases hc2' with ⟨rfl,rfl⟩ | ⟨k,n,rfl,rfl⟩; simp at hm2; exact .inr ⟨k,rfl⟩) (.inr ⟨k3,rfl⟩) hc2 hc3 (by omega) (by omega)
    refine ⟨base,cap,mm.toNat,he,hp,by omega,by omega,fun _=>by rw [hm1],hrun ac w _ ?_⟩
    rw [hv1,hv2,hv3,he]
    simp [Instr.sliceAt,Instr.slice,run_underlying hD,hbr,hsz]
  have hpure:K (.one (.p (.sl (qbF l (a.getD 0) (b.getD (lenL l)))))) [] [] []→(∀ mm,m=some mm→mm=b.getD (lenL l)∧b.isSome=true)→qM P t σ nx o K:=fun hk hmm =>
   qab hk fun ac f w S inj hop hf hi'=>by
    obtain ⟨base,cap,mn,he,hp,h1,h2,_,hr⟩:=hval hop hi' hmm
    exact ⟨_,hr,.ofc (.p (hp.part hc4 hc2 hc3 hl1 rfl h1 h2))⟩
  cases m with
  | none=>exact hpure (h _ rfl) (by simp)
  | some mm =>
   dsimp only at h
   obtain ⟨hm,h⟩:=bcF h
   simp only [Bool.and_eq_true] at hm
   have hm1:mm=b.getD (lenL l):=by simpa [eqI] using hm.1
   have hmm:∀ m',some mm=some m'→m'=b.getD (lenL l)∧b.isSome=true:=fun m' e=>by injection e with e; subst e; exact ⟨hm1,hm.2⟩
   rw [qL] at h
   rcases h with ⟨hah,h⟩ | ⟨_,h⟩
   ·have hah:a.getD 0=b.getD (lenL l):=by simpa [eqI] using hah
    refine ⟨_,_,_,_,h,fun ac f w S inj next Q hop hf hi' hfr hn=>?_⟩
    obtain ⟨base,cap,mn,he,hp,h1,h2,h3,hr⟩:=hval hop hi' hmm
    have h3:=h3 rfl
    rw [hah,h3,Nat.sub_self,if_pos rfl] at hr
    have h00:inj nx=.free∧f nx=.dead:=by simpa using hfr 0 (by simp)
    refine qX hr (hn _ w S (qbG inj nx (.row (.slice base 0 0) none)) ⟨.refl _ _,qa7 h00.1,fun b hb hb'=>?_,.ofc (.own (.inr ⟨none,by rw [qA]; rfl⟩)),?_⟩)
    ·rw [qu (by simp at hb'; omega)]; exact hb
    ·rw [qir]; exact hi'.ghost h00.1 (fun x h=>by cases h) ⟨_,_,rfl,.inl ⟨rfl,rfl,base,rfl⟩⟩
   ·rcases h _ rfl with h | h
    ·exact hpure h hmm
    ·refine qab h fun ac f w S inj hop hf hi'=>?_
     obtain ⟨base,cap,mn,he,hp,h1,h2,h3,hr⟩:=hval hop hi' hmm
     have h3:=h3 rfl
     have hpp:=hp.part hc4 hc2 hc3 hl1 rfl h1 h2
     have hlen:(qbF l (a.getD 0) (b.getD (lenL l))).length=(b.getD (lenL l)).toNat - (a.getD 0).toNat:=qhj hc2 hc3 hl1
     rw [h3] at hr hpp
     rw [←hlen] at hr hpp
     exact ⟨_,hr,.ofc (.cp hpp)⟩
theorem qh8 (hT:TOk P T) {s:Nat} {x:Operand} {lo hi mx:Option Operand} (ho:o.op=.slice s x lo hi mx) (h:qaJ T t σ nx (.slice s x lo hi mx) K):qM P t σ nx o K:=by
 have hmx:x∈o.op.operands:=by simp [ho,Op.operands]
 have hml:∀ y,lo=some y→y∈o.op.operands:=fun y hy=>by subst hy; simp [ho,Op.operands]
 have hmh:∀ y,hi=some y→y∈o.op.operands:=fun y hy=>by subst hy; simp [ho,Op.operands]
 have hmm:∀ y,mx=some y→y∈o.op.operands:=fun y hy=>by subst hy; simp [ho,Op.operands]
 dsimp only [qaJ] at h
 obtain ⟨a,h,hla⟩:=qnr h
 obtain ⟨b,h,hlb⟩:=qnr h
 obtain ⟨m,h,hlm⟩:=qnr h
 have hrun:∀ (ac:Act) (w:World) v,(Instr.sliceAt s (ac.eval x) (lo.map ac.eval) (hi.map ac.eval) (mx.map ac.eval)).run P w=.ok v w→(execOp ac.eval o).run P w=.ok (.value v) w:=fun ac w v hr=>by
  unfold execOp; simp [ho,hr]
 split at h
 ·
  rename_i u hd hx
  have hD:=((hT s).desc (by rw [hd]; simp)).d
  rw [hd] at hD
  split at h
  ·obtain ⟨hb,h⟩:=bcF h
   simp only [Bool.and_eq_true] at hb
   obtain ⟨⟨h1,h2⟩,h3⟩:=hb
   unfold inC lenS at h1
   unfold leI at h2 h3
   unfold lenS at h3
   simp only [decide_eq_true_eq] at h1 h2 h3
   refine qbH h rfl fun ac f w S inj hop hf hi'=>?_
   have hv:=hop x hmx
   rw [hx] at hv
   obtain ⟨v1,hv1,hc1⟩:=hla fun y hy=>hop y (hml y hy)
   obtain ⟨v2,hv2,hc2⟩:=hlb fun y hy=>hop y (hmh y hy)
   obtain ⟨v3,hv3,hc3⟩:=hlm fun y hy=>hop y (hmm y hy)
   refine hrun ac w _ ?_
   rw [hv1,hv2,hv3,hv.flatv.1]
   have hc3:v3=none:=by rcases hc3 with ⟨_,h⟩ | ⟨_,_,h,_⟩; exact h; cases h
   subst hc3
   have hbr:=qgk (P:=P) (isSlice:=false) (len:=u.size) (cap:=u.size) (lo:=v1) (hi:=v2) (mx:=none) (a:=a.getD 0) (h:=b.getD (lenS u)) (m:=u.size) w
    (by rcases hc1 with ⟨rfl,rfl⟩ | ⟨k,n,rfl,rfl⟩; exact .inl ⟨rfl,rfl⟩; exact .inr ⟨k,rfl⟩)
    (by rcases hc2 with ⟨rfl,rfl⟩ | ⟨k,n,rfl,rfl⟩; exact .inl ⟨rfl,rfl,rfl⟩; exact .inr ⟨k,rfl⟩) (.inl ⟨rfl,rfl⟩) h2 (by unfold lenS; exact h3) (by unfold lenS; exact h1.2) (Int.le_refl _)
   simp [Instr.sliceAt,Instr.slice,run_underlying hD,hbr,subS]
  ·exact h.elim
 ·
  rename_i e c hd hx
  have hD:=((hT s).desc (by rw [hd]; simp)).d
  rw [hd] at hD
  exact qrC hT hmx hx hD hrun (fun hop=>hla fun y hy=>hop y (hml y hy)) (fun hop=>hlb fun y hy=>hop y (hmh y hy)) (fun hop=>hlm fun y hy=>hop y (hmm y hy)) h
 ·exact h.elim
end Go.Proofs.YtidkmoohgadjkaaGreat.E
namespace Go.Proofs.YtidkmoohgadjkaaGreat.E
open Go
variable {P:Program} {T:List TI} {t:List A} {σ:List Blk} {nx:Nat} {o:Oper} {K:Kont}
theorem qjH (k:Nat):∀ (n:Nat) (ps:List PC),ps.length=n * k→(qp3 k n ps).length=n∧(qp3 k n ps).flatten=ps∧∀ r∈qp3 k n ps,r.length=k
 | 0,ps,h=>by
  have:ps=[]:=List.eq_nil_of_length_eq_zero (by simpa using h)
  subst this
  exact ⟨rfl,rfl,fun r hr=>by cases hr⟩
 | n + 1,ps,h=>by
  have e:qp3 k (n + 1) ps=qfK ps k::qp3 k n (qeq ps k):=rfl
  rw [Nat.add_mul] at h
  obtain ⟨h1,h2,h3⟩:=qjH k n (ps.drop k) (by simp; omega)
  rw [e,qeQ,qa6]
  refine ⟨by simp [h1],by simp [h2],fun r hr=>?_⟩
  rcases List.mem_cons.1 hr with rfl | hr
  ·simp; omega
  ·exact h3 r hr
theorem qwf {α β:Type} {R:α→β→Prop} {l:List α} {m:List β} (h:F2 R l m):∀ n,F2 R (List.replicate n l).flatten (List.replicate n m).flatten
 | 0=>.nil
 | n + 1=>by simp only [List.replicate_succ,List.flatten_cons]; exact h.app (qwf h n)
theorem qgv {s n e:Nat} {ps:Array (Nat × Operand)} (ho:o.op=.buildSlice s n ps) (hD:P.underlying s=some (.slice e)) (hI:InfoOk P e (ty T e)) (hb1:n * (ty T e).sz≤1000) (hb2:1≤(ty T e).sz) {a:Act} {w:World} {vs':List Value}
  (hfill:Instr.fill (fun i=>some (i * (ty T e).sz,(ty T e).sz)) (List.replicate n (ty T e).z).flatten.toArray (ps.toList.map fun p=>(p.1,a.eval p.2))=some vs'.toArray):(execOp a.eval o).run P w=.ok (.value (.slice (some ⟨w.heap.size,0,none⟩) n n)) (w.alloc (.cells vs'.toArray e)):=by
 obtain ⟨i,zv,hi',hs1,hs2,hz,hzc,_⟩:=hI.info
 have hzl:(ty T e).z.length=(ty T e).sz:=hI.z
 have hmc:=qgu (ty T e).z (by omega) n
 have hmade:((Array.range (n * (ty T e).sz)).map fun j=>zv.cells[j % zv.cells.size]!)=(List.replicate n (ty T e).z).flatten.toArray:=by
  apply Array.ext'
  rw [←hmc,hzl,←hzc]
  simp [madeCells]
 have hne:n * (ty T e).sz=0→n=0:=fun h=>by
  rcases Nat.mul_eq_zero.1 h with h | h
  ·exact h
  ·omega
 have hle:¬ (2 ^ 24 < n * (ty T e).sz):=by omega
 have hle':¬ (16777216 < n * (ty T e).sz):=by omega
 unfold execOp
 simp only [ho,Instr.buildSlice,Sem.run_bind,run_underlying hD,Result.andThen_ok,hI.size]
 rw [if_neg (by omega)]
 by_cases h0:n * (ty T e).sz=0
 ·have hn0:=hne h0
  subst hn0
  have hr:∀ f:Nat→Value,Array.map f (Array.range 0) = #[]:=by simp
  have hm:(Array.map (fun p:Nat × Operand=>(p.1,a.eval p.2)) ps).toList=ps.toList.map fun p=>(p.1,a.eval p.2):=by simp
  simp only [Nat.zero_mul,if_true,Sem.run_bind,Sem.run_pure,Result.andThen_ok]
  have hfill':Instr.fill (fun i=>some (i * (ty T e).sz,(ty T e).sz)) #[] (ps.toList.map fun p=>(p.1,a.eval p.2))=some vs'.toArray:=by simpa using hfill
  rw [hm,hr]
  simp only [hfill']
  rfl
 ·simp only [h0,if_false,Sem.run_bind,zeroValue,typeInfo,run_program,Result.andThen_ok,hi',hz,Sem.run_pure]
  rw [hmade]
  have hm:(Array.map (fun p:Nat × Operand=>(p.1,a.eval p.2)) ps).toList=ps.toList.map fun p=>(p.1,a.eval p.2):=by simp
  rw [hm]
  simp only [hfill]
  rfl
theorem quO (cs:List C):∀ {Kc:List PC→List Nat→Prop},toPs σ cs Kc→∃ ps bs,Kc ps bs∧ps.length=cs.length∧(∀ q:Nat,cs[q]?=some (C.p (.v (.slice none 0 0)))→ps[q]?=some (PC.sl [])) ∧
  ∀ {w S inj f vs},Inv w S inj f→(∀ b,b∈bs→f b=look σ b)→F2 (VR w S inj) cs vs→F2 (PR w (SB S inj bs)) ps vs:=by
 induction cs with
 | nil=>intro Kc h; exact ⟨[],[],h,rfl,fun q hq=>by simp at hq,fun _ _ h=>by cases h; exact .nil⟩
 | cons c cs ih =>
  intro Kc h
  by_cases hc:c=.p (.v (.slice none 0 0))
  ·subst hc
   change toPs σ cs (fun ps bs'=>Kc (.sl []::ps) (appR [] bs')) at h
   obtain ⟨ps,bs,hk,hl,hn,hok⟩:=ih h
   refine ⟨_,_,hk,by simp [hl],fun q hq=>?_,fun {w S inj f vs} hi hf hv=>?_⟩
   ·cases q with
    | zero=>rfl
    | succ q=>simp at hq ⊢; exact hn q hq
   ·cases hv with
    | cons h1 h2 =>
     rw [h1.nilv]
     rw [qa9] at hf ⊢
     simp only [List.nil_append] at hf ⊢
     exact .cons (.sl (k:=1) (fun _ _=>.nilFunc) (Nat.le_refl _) (by omega) (by simp) (.inl rfl) (fun g o _ i j hi=>by simp at hi) (fun i j r c hr=>by simp at hr)) (hok hi hf h2)
  ·change toP σ c (fun c bs=>toPs σ cs fun cs bs'=>Kc (c::cs) (appR bs bs')) at h
   obtain ⟨p,b1,h,_,hp⟩:=qlE h
   obtain ⟨ps,bs,hk,hl,hn,hok⟩:=ih h
   refine ⟨_,_,hk,by simp [hl],fun q hq=>?_,fun {w S inj f vs} hi hf hv=>?_⟩
   ·cases q with
    | zero=>simp at hq; exact absurd hq hc
    | succ q=>simp at hq ⊢; exact hn q hq
   ·rw [qa9] at hf ⊢
    cases hv with
    | cons h1 h2 =>
     exact .cons ((hp hi (fun b hb=>hf b (by simp [hb])) h1).sub fun g hg=>qis hg) ((hok hi (fun b hb=>hf b (by simp [hb])) h2).mono' fun _ _ h=>h.sub fun g hg=>qgH hg)
theorem qns {e n : Nat} {cs : List C} {y : Nat → Nat → List PC → Prop} {m : Prop} (h : qxd T σ e n cs y m) : m ∨ (n = 1 ∧ ∃ q k' : Nat, cs[q]? = some (C.p (.v (.slice none 0 0))) ∧ toPs σ cs fun ps bs => match bs with
      | [] => qw (Nat.beq (lenR ps) (ty T e).sz && Nat.ble (q + 1) (ty T e).sz && Nat.ble (ty T e).sz 1000) (y q k' ps) False
      | _ => False) := by
  unfold qxd at h
  split at h
  · rename_i q k' hq
    split at h
    · rename_i rest hd
      rcases h with h | h
      · exact .inl h
      · refine .inr ⟨rfl, q, k', ?_, h⟩
        rw [qa6] at hd
        have := congrArg (·[0]?) hd
        simpa using this
    · exact .inl h
  · exact .inl h
theorem qkv (hT:TOk P T) {s n:Nat} {ps:Array (Nat × Operand)} (ho:o.op=.buildSlice s n ps) (h:qaJ T t σ nx (.buildSlice s n ps) K):qM P t σ nx o K:=by
 dsimp only [qaJ] at h
 split at h
 ·rename_i e hd
  have hD:=((hT s).desc (by rw [hd]; simp)).d
  rw [hd] at hD
  obtain ⟨cs',h,hl,hok⟩:=qku (place:=fun i=>some (i * (ty T e).sz,(ty T e).sz)) (fun i q hq=>hq) _ h
  have hcl:InfoOk P e (ty T e)→cs'.length=n * (ty T e).sz:=fun hI=>by
   have hzl:(ty T e).z.length=(ty T e).sz:=hI.z
   rw [hl,qow,qkm,qaG (k:=(ty T e).sz)]
   ·simp
   ·intro r hr
    rw [List.eq_of_mem_replicate hr,qkh,qay,List.length_map]; exact hzl
  have hcells:InfoOk P e (ty T e)→∀ {a:Act} {w:World} {S inj},(∀ x,x∈o.op.operands→VA w S inj (opd t x) (a.eval x))→∃ vs':List Value,Instr.fill (fun i=>some (i * (ty T e).sz,(ty T e).sz)) (List.replicate n (ty T e).z).flatten.toArray (ps.toList.map fun p=>(p.1,a.eval p.2))=some vs'.toArray∧F2 (VR w S inj) cs' vs':=fun hI {a w S inj} hop=>by
   have hzs:F2 (VR w S inj) (qjp (repR (qkh T e) n)) (List.replicate n (ty T e).z).flatten:=by
    rw [qow,qkm]
    exact qwf (qh6 hI) n
   have hops:F2 (fun (p:Nat × A) (q:Nat × Value)=>p.1=q.1∧VA w S inj p.2 q.2) (mapR (fun p=>(p.1,opd t p.2)) ps.toList) (ps.toList.map fun p=>(p.1,a.eval p.2)):=by
    rw [qay]
    exact qry _ fun x hx=>hop x (by simpa [ho,Op.operands] using hx)
   exact hok hops hzs
  rcases qns h with h | ⟨rfl,q,k',hq,h⟩
  ·obtain ⟨qs,bs,h,hql,hnd,hokp⟩:=qkr _ h
   have hb:=(bcF h).1
   replace h:=(bcF h).2
   simp only [Bool.and_eq_true] at hb
   have hb1:=Nat.le_of_ble_eq_true hb.1
   have hb2:=Nat.le_of_ble_eq_true hb.2
   have hI:=(hT e).known (by omega)
   rw [qay] at h
   have hcl:=hcl hI
   obtain ⟨hc1,hc2,hc3⟩:=qjH (ty T e).sz n qs (by rw [hql]; exact hcl)
   refine qoD h fun a w S inj f hop hi hf=>?_
   obtain ⟨vs',hfill,hvs'⟩:=hcells hI hop
   have hvl:vs'.length=n * (ty T e).sz:=by rw [←hvs'.len]; exact hcl
   have hpr:=hokp hi (fun b hb=>hf b (by simp [hb])) hvs'
   refine ⟨fun b hb=>by rw [hf b (by simp [hb])]; exact hnd b hb,w,vs'.toArray,e,n,n,fun _ _=>rfl,rfl,rfl,rfl,rfl,qgv ho hD hI hb1 hb2 hfill,hb2,hc1.symm,Nat.le_refl _,?_,by simpa using hvl,hc3,?_⟩
   ·simp only [maxLen]
    have:n≤n * (ty T e).sz:=Nat.le_mul_of_pos_right _ hb2
    omega
   ·rw [hc2,←hvl,List.take_length]
    exact hpr
  ·obtain ⟨qs,bs,h,hql,hqn,hokp⟩:=quO _ h
   cases bs with
   | cons _ _=>exact h.elim
   | nil =>
    have hb:=(bcF h).1
    replace h:=(bcF h).2
    simp only [Bool.and_eq_true] at hb
    have hb0:=Nat.eq_of_beq_eq_true hb.1.1
    rw [qah] at hb0
    have hb1:=Nat.le_of_ble_eq_true hb.1.2
    have hb2:=Nat.le_of_ble_eq_true hb.2
    have hI:=(hT e).known (by omega)
    have hcl:=hcl hI
    rw [Nat.one_mul] at hcl
    refine qh7 (bs:=[]) h fun a w S inj f hop hi hf=>⟨by simp,?_⟩
    obtain ⟨vs',hfill,hvs'⟩:=hcells hI hop
    have hvl:vs'.length=(ty T e).sz:=by rw [←hvs'.len]; exact hcl
    have hpr:=hokp hi (by simp) hvs'
    have hG:Grow w S (w.alloc (.cells vs'.toArray e)) S:=.alloc hi.lt _
    refine ⟨_,_,w.heap.size,fun _=>False,hG,qgv ho hD hI (by omega) (by omega) hfill,?_,fun b' x _ hd' hx=>?_⟩
    ·have hnc:NC w S (ty T e).sz q k' [qs] vs' (fun _=>none):=by
      refine ⟨by simp [hvl],fun r hr=>by simp at hr; subst hr; omega,fun i r hr j c hc=>?_,fun i i' x _ _ h1=>by cases h1⟩
      cases i with
      | succ i=>simp at hr
      | zero =>
       simp at hr; subst hr
       obtain ⟨u,hu,hp⟩:=hpr.get hc
       rw [Nat.zero_mul,Nat.zero_add]
       refine ⟨u,hu,hp.one,fun _=>hp.sub (fun g h=>by rcases h with h | ⟨_,h,_⟩; exact h; simp at h),fun hj=>?_⟩
       subst hj
       rw [hqn _ hq] at hc; injection hc with hc; subst hc
       obtain ⟨v,hv,hvr⟩:=hvs'.get hq
       rw [hu] at hv; injection hv with hv; subst hv
       rw [hvr.nilv]
       exact ⟨[],rfl,.inl ⟨rfl,rfl,none,rfl⟩⟩
     have:=(hnc.grow hG (by omega) fun i x _ h=>by cases h).nest (g:=w.heap.size) (cap:=1) (rest:=[]) (e:=e) (by omega) (fun hs=>absurd (hi.lt _ hs) (by omega)) (by simpa using han w (.cells vs'.toArray e)) (by simp) (by simp [maxLen]) (by simp [hvl]) (fun i _ h=>by cases h)
     obtain ⟨cap,cur,e',ins,hN⟩:=this
     have hno:∀ x,¬ ∃ i,i < [qs].length∧none≠some i∧ins i=some x:=fun x ⟨i,h1,h2,h3⟩=>by
      obtain ⟨_,_,h⟩:=(hN.fpi x).2 ⟨i,h1,h2,h3⟩
      cases h
     exact ⟨cap,cur,e',ins,{ hN with fpi:=fun x=>⟨False.elim,fun h=>hno x h⟩,ne:=fun h=>h }⟩
    ·have:=(hi.live b').blk hd' hx
     exact ⟨hao w _ x this.2,by omega,fun h=>h⟩
 ·exact h.elim
theorem PR.cells {w w' S c v} (h:PR w S c v) (hc:∀ g o,S.s g→w'.cell? ⟨g,o,none⟩=w.cell? ⟨g,o,none⟩):PR w' S c v:=by
 induction h with
 | v hf=>exact .v hf
 | @sl rows base cap k vals hcap hk hrow hb hcc hv ih =>
  refine .sl vals hcap hk hrow hb (fun g o e i j hi hj=>?_) ih
  rcases hb with rfl | ⟨g',o',e',hs⟩
  ·simp at hi
  ·rw [e'] at e; injection e with e; injection e with e1 e2; subst e1; subst e2
   rw [hc _ _ hs]; exact hcc _ _ e' i j hi hj
theorem qgI (w:World) (g n m:Nat) (hm:m≠0) (g':Nat) (hg:g'≠g):(w.freeze ⟨g,n,none⟩ m).heap[g']?=w.heap[g']?:=by
 unfold World.freeze
 rw [if_neg hm]
 show (w.heap.modify g _)[g']?=_
 rw [Array.getElem?_modify,if_neg (Ne.symm hg)]
theorem qnt (w:World) (g n m g' o:Nat):(w.freeze ⟨g,n,none⟩ m).cell? ⟨g',o,none⟩=w.cell? ⟨g',o,none⟩:=by
 by_cases hm:m=0
 ·unfold World.freeze; rw [if_pos hm]
 ·by_cases hg:g'=g
  ·subst hg
   unfold World.freeze
   rw [if_neg hm]
   unfold World.cell?
   show (match (w.heap.modify g' _)[g']? with | some (.cells c _ _)=>_ | _=>none)=_
   rw [Array.getElem?_modify,if_pos rfl]
   cases w.heap[g']? with
   | none=>rfl
   | some o=>cases o<;>rfl
  ·exact World.cell?_of_block (qgI w g n m hm g' hg)
theorem qiw (w:World) (g n m:Nat):(w.freeze ⟨g,n,none⟩ m).heap.size=w.heap.size:=by
 unfold World.freeze
 split
 ·rfl
 ·show (w.heap.modify g _).size=_
  simp
theorem qix (w:World) (a:Addr) (m:Nat):(w.freeze a m).os=w.os∧(w.freeze a m).tape=w.tape∧(w.freeze a m).output=w.output:=by
 unfold World.freeze
 split<;>exact ⟨rfl,rfl,rfl⟩
def quP:List PC→Int
 | [.v (.int .u8 n)]=>n
 | _=>0
theorem qqf {l:List (List PC)} (h:qw9 l=true):strOfNums (l.map quP)=qp2 l:=by
 unfold strOfNums qp2
 congr 2
 rw [List.map_map]
 refine List.map_congr_left fun r hr=>?_
 have:=List.all_eq_true.1 h r hr
 unfold qor at this ⊢
 simp only [Function.comp]
 unfold quP
 split<;>simp_all
theorem quQ {w S l v} (hk:qw9 l=true) (h:PR w S (.sl l) v) {s d e:Nat} (hs:P.underlying s=some (.slice e)) (he:P.underlying e=some (.int .u8)) (hd:P.underlying d=some .string) :
  (convert s d v).run P w=.ok (.string (qp2 l)) w:=by
 cases h with
 | @sl _ base cap k vals hcap hk0 hrow hb hc hv =>
  by_cases hl:l=[]
  ·subst hl
   cases base with
   | none =>
    rw [run_convert_bytes_string w s d e none _ cap hs he hd]
    simp [Conv.bytesToString,qp2,ByteArray.empty,ByteArray.emptyWithCapacity]
    rfl
   | some a =>
    rw [run_convert_bytes_string w s d e (some a) _ cap hs he hd]
    refine (run_bytesToString w a 0 cap [] (by simp [loadCells,loadCellsFrom])).trans ?_
    simp [qp2,ByteArray.empty,ByteArray.emptyWithCapacity]
    try rfl
  ·obtain ⟨g,o,rfl,hg⟩:=hb.resolve_left hl
   have hone:∀ r∈l,∃ n,r=[.v (.int .u8 n)]:=fun r hr=>by
    have:=List.all_eq_true.1 hk r hr
    unfold qor at this
    split at this
    ·exact ⟨_,rfl⟩
    ·cases this
   have hk1:k=1:=by
    cases l with
    | nil=>exact absurd rfl hl
    | cons r l =>
     obtain ⟨n,rfl⟩:=hone r (by simp)
     have:=hrow _ (List.mem_cons_self ..)
     simpa using this.symm
   subst hk1
   rw [run_convert_bytes_arg w s e hs he g o l.length cap (l.map quP) (by simp) (fun i hi=>?_) d hd,qqf hk]
   have h1:=hc g o rfl i 0 hi (by omega)
   rw [Nat.mul_one,Nat.add_zero] at h1
   rw [h1]
   obtain ⟨n,hn⟩:=hone (l[i]) (List.getElem_mem ..)
   have h2:=hv i 0 (l[i]) (.v (.int .u8 n)) (List.getElem?_eq_getElem hi) (by rw [hn]; rfl)
   have h3:vals i 0=.int .u8 n:=by generalize vals i 0=y at h2; cases h2; rfl
   rw [h3]
   rw [List.getD_eq_getElem?_getD,List.getElem?_map,List.getElem?_eq_getElem hi]
   simp only [Option.map_some,Option.getD_some,hn,quP]
theorem quR {w' S' g cap} {s:ByteArray} {e:Nat} {fr:Nat × Nat} (hg:Zone.s S' g) (hh:w'.heap[g]?=some (.cells (bytesRow s cap) e fr)) (hcap:s.size≤cap):PR w' S' (.sl (qdG s)) (.slice (some ⟨g,0,none⟩) s.size cap):=by
 have hl:(qdG s).length=s.size:=by
  show (List.map _ s.data.toList).length=s.data.size
  rw [List.length_map,Array.length_toList]
 have key:=@PR.sl w' S' (qdG s) (some ⟨g,0,none⟩) cap 1 (fun i _=>.int .u8 ((s.data.toList.getD i 0).toNat:Int)) (by rw [hl]; exact hcap) (by omega)
  (fun r hr=>by unfold qdG at hr; obtain ⟨b,_,rfl⟩:=List.mem_map.1 hr; rfl)
  (.inr ⟨g,0,rfl,hg⟩)
  (fun g' o' he i j hi hj=>by
   injection he with he; injection he with h1 h2; subst h1; subst h2
   rw [hl] at hi
   have hi':i < s.data.size:=hi
   unfold World.cell?
   simp only [hh,Option.isSome_none,Bool.false_eq_true,if_false]
   have:0 + i * 1 + j=i:=by omega
   rw [this]
   unfold bytesRow
   rw [Array.getElem?_append_left (by simpa using hi')]
   rw [Array.getElem?_map,Array.getElem?_eq_getElem hi']
   simp [List.getD_eq_getElem?_getD,hi']
   rw [Array.getElem?_eq_getElem hi',Option.getD_some])
  (fun i j r c hr hc=>by
   unfold qdG at hr
   rw [List.getElem?_map] at hr
   obtain ⟨b,hb,rfl⟩:=Option.map_eq_some_iff.1 hr
   cases j with
   | zero=>simp at hc; subst hc; rw [List.getD_eq_getElem?_getD,hb]; exact .v rfl
   | succ j=>simp at hc)
 rw [hl] at key
 exact key
theorem qqg (hT:TOk P T) {s d:Nat} {x:Operand} (ho:o.op=.convert s d x) (h:qaJ T t σ nx (.convert s d x) K):qM P t σ nx o K:=by
 dsimp only [qaJ,qyQ] at h
 have hk:=(bcF h).1
 replace h:=(bcF h).2
 have hs:∃ u,P.underlying s=some u:=by
  have hd:=((hT s).desc (by rintro h; rw [h] at hk; cases hk)).d
  generalize (ty T s).d=y at hd hk
  cases y<;>first | exact ⟨_,hd⟩ | exact ⟨_,hd.choose_spec.1⟩ | exact ⟨_,hd.choose_spec⟩ | cases hk
 obtain ⟨u,hs⟩:=hs
 have hss:(P.underlying s).isSome=true:=by rw [hs]; rfl
 split at h
 ·rename_i _ k k' n hdd hx
  have hD:=((hT d).desc (by rw [hdd]; simp)).d
  rw [hdd] at hD
  have hik:P.intKind d=k:=by unfold Program.intKind; rw [hD]
  refine qbH h rfl fun a f w S inj hop hf hi=>?_
  have hv:=hop x (by simp [ho,Op.operands])
  rw [hx] at hv
  have:=run_convert_int (P:=P) w s d k' n hss (by rw [hik]; exact hD)
  unfold execOp; simp [ho,hv.flatv.1,this,hik,wr]
 ·rename_i _ k k' n hdd hx
  have hD:=((hT d).desc (by rw [hdd]; simp)).d
  rw [hdd] at hD
  refine qbH h rfl fun a f w S inj hop hf hi=>?_
  have hv:=hop x (by simp [ho,Op.operands])
  rw [hx] at hv
  have:=run_convert_int_float (P:=P) w s d k' k n hss hD
  unfold execOp; simp [ho,hv.flatv.1,this,ofI,floatOfInt]
 ·rename_i _ k s' b hdd hx
  have hD:=((hT d).desc (by rw [hdd]; simp)).d
  rw [hdd] at hD
  have hb:=(bcF h).1
  replace h:=(bcF h).2
  refine qbH h rfl fun a f w S inj hop hf hi=>?_
  have hv:=hop x (by simp [ho,Op.operands])
  rw [hx] at hv
  have hq:floatToIntVal s' b k=some (toIV s' b):=by
   unfold toIOk at hb
   unfold floatToIntVal toIV
   split at hb
   ·rename_i m hm
    simp only [decide_eq_true_eq] at hb
    simp [hm,hb.1,hb.2]
   ·cases hb
  have:=run_convert_float_int (P:=P) w s d s' k b _ hss hD hq
  unfold execOp; simp [ho,hv.flatv.1,this]
 ·rename_i u' hdd hsd hx
  have hD:=((hT d).desc (by rw [hdd]; simp)).d
  rw [hdd] at hD
  have hD':=((hT s).desc (by rw [hsd]; simp)).d
  rw [hsd] at hD'
  refine qbH h rfl fun a f w S inj hop hf hi=>?_
  have hv:=hop x (by simp [ho,Op.operands])
  rw [hx] at hv
  unfold execOp; simp [ho,hv.flatv.1,convert,run_underlying hD,run_underlying hD']
 ·rename_i e u' hdd hsd hx
  have hD:=((hT d).desc (by rw [hdd]; simp)).d
  rw [hdd] at hD
  have hD':=((hT s).desc (by rw [hsd]; simp)).d
  rw [hsd] at hD'
  split at h
  ·rename_i hee
   have hE:=((hT e).desc (by rw [hee]; simp)).d
   rw [hee] at hE
   refine ⟨_,_,_,_,h,fun a f w S inj next Q hop hf hi hfr hn=>?_⟩
   have hv:=hop x (by simp [ho,Op.operands])
   rw [hx] at hv
   have hrun:=run_bytes_of_string (P:=P) w s d e u' hD' hD hE
   have hG:Grow w S (w.drew.alloc (.cells (bytesRow u' (grownCap w u'.size 0 e)) e ((bytesRow u' (grownCap w u'.size 0 e)).size,(bytesRow u' (grownCap w u'.size 0 e)).size + 1))) ⟨fun g=>S.s g∨g=w.heap.size,S.fr⟩ :=
    ⟨rfl,rfl,rfl,by simp,fun g hg=>hao w.drew _ g (hi.lt g hg),fun g hg=>.inl hg,rfl⟩
   refine qX (v:=.slice (some ⟨w.heap.size,0,none⟩) u'.size (grownCap w u'.size 0 e)) (by unfold execOp; simp [ho,hv.flatv.1,hrun]) (hn _ _ _ inj ⟨hG,.refl _,fun _ h _=>h,.ofc (.p (quR (.inr rfl) (han w.drew _) (grownCap_ge ..))),?_⟩)
   rw [qcT]
   refine hi.growS hG (fun g hg=>hao w.drew _ g hg) (fun g hg=>?_) fun g hg h=>?_
   ·rcases hg with (hg | rfl) | hg
    ·exact .inl (.inl hg)
    ·exact .inr ⟨Nat.le_refl _,by show w.heap.size < (w.heap.push _).size; simp⟩
    ·exact .inl (.inr hg)
   ·rcases h with h | rfl
    ·exact hi.dj g hg h
    ·exact absurd (hi.lt _ (.inr hg)) (Nat.lt_irrefl _)
  ·exact h.elim
 ·rename_i e e2 b hdd hsd hx
  have hD:=((hT d).desc (by rw [hdd]; simp)).d
  rw [hdd] at hD
  split at h
  ·rename_i hee
   have hE:=((hT e).desc (by rw [hee]; simp)).d
   rw [hee] at hE
   split at h
   ·rename_i k l hb
    have hsd':=Nat.eq_of_beq_eq_true (bcF h).1
    subst hsd'
    replace h:=(bcF h).2
    have hlen:=(bcF h).1
    replace h:=(bcF h).2
    refine ⟨_,_,_,_,h,fun a f w S inj next Q hop hf hi hfr hn=>?_⟩
    have hv:=hop x (by simp [ho,Op.operands])
    rw [hx] at hv
    have hfb:=(hf b (by simp)).trans hb
    obtain ⟨v0,g0,hg0,hro⟩:=hi.rows hfb
    have he:=(hv.cellv (by simp)).ownv hg0
    have hro':=hro
    rcases hro with ⟨rfl,_⟩ | ⟨g,cap,cur,e',hk0,rfl,rfl,hnS,hh,hcap,hmax,hcs,hrl,hfl⟩
    ·simp [lenB] at hlen
    ·have hfd:f b≠.dead:=by rw [hfb]; simp
     have hblk:(inj b).blk g:=by rw [hg0]; rfl
     have hgs:g < w.heap.size:=((hi.live b).blk hfd hblk).2
     have hG:Grow w S (w.freeze ⟨g,cur.size,none⟩ 1) ⟨fun g'=>S.s g'∨g'=g,S.fr⟩ :=
      ⟨(qix ..).1,(qix ..).2.1,(qix ..).2.2,by rw [qiw]; exact Nat.le_refl _,fun g' hg'=>qgI w g _ 1 (by omega) g' (by rintro rfl; exact hnS hg'),fun g' hg'=>.inl hg',rfl⟩
     have hrun:(execOp a.eval o).run P w=.ok (.value (.slice (some ⟨g,0,none⟩) l.length cap)) (w.freeze ⟨g,cur.size,none⟩ 1):=by
      have hsh:w.shape? g=some (e',cur.size):=by unfold World.shape?; rw [hh]
      unfold execOp
      simp [ho,he,convert,run_underlying hD,run_underlying hE,markStringish,hsh]
     have hpr:PR (w.freeze ⟨g,cur.size,none⟩ 1) ⟨fun g'=>S.s g'∨g'=g,S.fr⟩ (.sl l) (.slice (some ⟨g,0,none⟩) l.length cap) :=
      (hro'.pure (S':=⟨fun g'=>S.s g'∨g'=g,S.fr⟩) (fun _ h=>.inl h) (fun g' e=>by injection e with e; exact .inr e.symm)).cells fun g' o' _=>qnt ..
     refine qX hrun (hn _ _ _ (qbG inj b .dead) ⟨hG,qe4,fun c hc hcc=>?_,.ofc (.p hpr),?_⟩)
     ·rw [qu (by rintro rfl; rw [hg0] at hc; cases hc)]; exact hc
     ·have hupd:upd f nx [(b,.dead)] []=setB f b .dead:=by
       funext c
       unfold upd setB
       rw [if_neg (by simp)]
       by_cases hcb:c=b
       ·subst hcb; simp
       ·simp [hcb,Ne.symm hcb]
      rw [hupd]
      refine hi.drop.growG hG (fun b' g' hd' hg'=>?_) (fun g' hg'=>?_) fun g' hg' h'=>?_
      ·have hbb:b'≠b:=by rintro rfl; rw [qaa] at hd'; exact hd' rfl
       rw [qZ hbb] at hd'
       rw [qu hbb] at hg'
       have hne:g'≠g:=by rintro rfl; exact hbb (hi.sep _ _ _ hd' hfd hg' hblk)
       have hns:=((hi.live b').blk hd' hg').1
       refine ⟨qgI w g _ 1 (by omega) g' hne,?_⟩
       rintro ((h | h) | h)
       ·exact hns (.inl h)
       ·exact hne h
       ·exact hns (.inr h)
      ·rw [qiw]
       rcases hg' with (h | rfl) | h
       ·exact hi.lt _ (.inl h)
       ·exact hgs
       ·exact hi.lt _ (.inr h)
      ·rcases h' with h | rfl
       ·exact hi.dj _ hg' h
       ·exact hnS (.inr hg')
   ·exact h.elim
  ·exact h.elim
 ·rename_i e c hdd hsd hx
  have hD:=((hT d).desc (by rw [hdd]; simp)).d
  rw [hdd] at hD
  have hD':=((hT s).desc (by rw [hsd]; simp)).d
  rw [hsd] at hD'
  split at h
  ·rename_i hee
   have hE:=((hT e).desc (by rw [hee]; simp)).d
   rw [hee] at hE
   have hcj:c≠.junk:=by
    rintro rfl
    exact h.elim
   obtain ⟨l,bs,h,hok⟩:=qoz h
   have hst:=(bcF h).1
   replace h:=(bcF h).2
   refine qbH h rfl fun a f w S inj hop hf hi=>?_
   have hv:=hop x (by simp [ho,Op.operands])
   rw [hx] at hv
   have:=quQ hst (hok hi hf (hv.cellv hcj)) hD' hE hD
   unfold execOp; simp [ho,this]
  ·exact h.elim
 ·exact h.elim
end Go.Proofs.YtidkmoohgadjkaaGreat.E
namespace Go.Proofs.YtidkmoohgadjkaaGreat.E
open Go
variable {P:Program} {T:List TI} {t:List A} {σ:List Blk} {nx:Nat} {o:Oper} {K:Kont}
theorem qrD {a b:KK} (h:kkEq a b=true):a=b:=by
 cases a<;>cases b<;>simp [kkEq] at h
 ·rw [h]
 ·rfl
 ·rw [h.1,h.2]
theorem qwg {a b:Bool} (h:bEq a b=true):a=b:=by cases a<;>cases b<;>simp [bEq] at h ⊢
theorem qnu {k:IntKind} (cs:List C):∀ {Kl:List PC→Prop},qkk k cs Kl→∃ l:List Int,Kl (l.map fun a=>.v (.int k a))∧l.length=cs.length∧∀ {w S inj vs},F2 (VR w S inj) cs vs→vs=l.map (Value.int k):=by
 induction cs with
 | nil=>intro Kl h; exact ⟨[],h,rfl,fun h=>by cases h; rfl⟩
 | cons c cs ih =>
  intro Kl h
  have h':(fun (c:C)=>(match c with
   | .p (.v (.int k' a))=>qw (decide (k=k')) (qkk k cs fun l=>Kl (.v (.int k' a)::l)) False
   | _=>False:Prop)) c:=h
  clear h
  simp only at h'
  have h:=h'
  clear h'
  split at h
  ·rename_i k' a
   have hk:=(bcF h).1
   replace h:=(bcF h).2
   simp only [decide_eq_true_eq] at hk
   subst hk
   obtain ⟨l,h,hl,hok⟩:=ih h
   refine ⟨a::l,h,by simp [hl],fun {w S inj vs} hv=>?_⟩
   cases hv with
   | cons h1 h2 =>
    rw [hok h2]
    have:=(VA.ofc h1).flatv.1
    rw [this]; rfl
  ·exact h.elim
structure KT (P:Program) (T:List TI) (t:Nat) (kk:KK):Prop where
 of_:kkOf T t=some kk
 eq:∀ k n,kk=.ints k n→(ty T t).eq=true∧(ty T t).z.length=n∧∀ v∈(ty T t).z,∃ a,v=.int k a
theorem qrE {t:Nat} {a:A} {Kk:KK→List PC→Prop} (h:keyF T t a Kk):∃ kk kc,Kk kk kc∧KT P T t kk∧∀ {w S inj v},VA w S inj a v→KeyV kk kc v:=by
 unfold keyF at h
 split at h
 ·rename_i k k' n hk
  have he:=(bcF h).1
  replace h:=(bcF h).2
  simp only [decide_eq_true_eq] at he
  subst he
  exact ⟨_,_,h,⟨hk,fun _ _ e=>by cases e⟩,fun hv=>⟨n,rfl,hv.flatv.1⟩⟩
 ·rename_i s hk
  exact ⟨_,_,h,⟨hk,fun _ _ e=>by cases e⟩,fun hv=>⟨s,rfl,hv.flatv.1⟩⟩
 ·rename_i k n cs hk
  have he:=(bcF h).1
  replace h:=(bcF h).2
  simp only [Bool.and_eq_true] at he
  obtain ⟨⟨⟨⟨h1,h2⟩,h3⟩,_⟩,h4⟩:=he
  have h2:=Nat.eq_of_beq_eq_true h2
  have h3:=Nat.eq_of_beq_eq_true h3
  rw [qah] at h2 h3
  obtain ⟨l,h,hl,hok⟩:=qnu cs h
  refine ⟨_,_,h,⟨hk,fun k' n' e=>?_⟩,fun {w S inj v} hv=>?_⟩
  ·injection e with e1 e2; subst e1; subst e2
   refine ⟨h1,h3.symm,fun v hv=>?_⟩
   unfold qyR at h4
   rw [qeh,List.all_eq_true] at h4
   have:=h4 v hv
   split at this
   ·rename_i k' a
    simp only [decide_eq_true_eq] at this
    subst this
    exact ⟨a,rfl⟩
   ·cases this
  ·obtain ⟨vs,rfl,hf⟩:=hv.agg'
   exact ⟨l,by rw [hl,h2],rfl,by rw [hok hf]⟩
 ·exact h.elim
theorem qhk {k:IntKind}:∀ (l m:List Int),qdH (l.map fun a=>.v (.int k a)) (m.map fun a=>.v (.int k a))=(l == m)
 | [],[]=>rfl
 | [],_::_=>rfl
 | _::_,[]=>rfl
 | a::l,b::m=>by
  have:=qhk (k:=k) l m
  simp only [List.map_cons,qdH,pcEq,this]
  by_cases h:a=b<;>by_cases h':l=m<;>simp [h,h']
theorem qrF {a b:ByteArray} (h:a.data.toList=b.data.toList):a=b:=by
 cases a; cases b; simp at h; rw [h]
theorem qiy {kk:KK} {c c':List PC} {v v':Value} (h:KeyV kk c v) (h':KeyV kk c' v'):qdH c c'=true↔v=v':=by
 cases kk with
 | int k =>
  obtain ⟨a,rfl,rfl⟩:=h
  obtain ⟨b,rfl,rfl⟩:=h'
  simp [qdH,pcEq]
 | str =>
  obtain ⟨a,rfl,rfl⟩:=h
  obtain ⟨b,rfl,rfl⟩:=h'
  simp only [qdH,pcEq,eqS,Bool.and_true,beq_iff_eq]
  exact ⟨fun h=>by rw [qrF h],fun h=>by injection h with h; rw [h]⟩
 | ints k n =>
  obtain ⟨l,hl,rfl,rfl⟩:=h
  obtain ⟨m,hm,rfl,rfl⟩:=h'
  rw [qhk,beq_iff_eq]
  constructor
  ·rintro rfl; rfl
  ·intro h
   injection h with h
   have h:=congrArg Array.toList h
   simp only [] at h
   have:∀ {l m:List Int},l.map (Value.int k)=m.map (Value.int k)→l=m:=fun {l m} h=>by
    induction l generalizing m with
    | nil=>cases m with | nil=>rfl | cons _ _=>cases h
    | cons a l ih=>cases m with
     | nil=>cases h
     | cons b m=>injection h with h1 h2; injection h1 with _ h1; rw [h1,ih h2]
   exact this h
theorem qoG {k:IntKind}:∀ {z:List Value} {l m:List Int},(∀ v∈z,∃ a,v=.int k a)→l.length=z.length→m.length=z.length→eqZ z (l.map (Value.int k)) (m.map (Value.int k))=some (l == m)
 | [],[],[],_,_,_=>rfl
 | z::zs,a::l,b::m,h,h1,h2=>by
  obtain ⟨c,rfl⟩:=h z (by simp)
  have ih:=qoG (k:=k) (z:=zs) (l:=l) (m:=m) (fun v hv=>h v (by simp [hv])) (by simpa using h1) (by simpa using h2)
  simp only [List.map_cons,eqZ,eqV,and_self,if_true]
  by_cases hab:a=b
  ·subst hab
   simp only [beq_self_eq_true,ih]
   by_cases hlm:l=m<;>simp [hlm]
  ·have:(a == b)=false:=by simpa using hab
   simp only [this]
   rw [if_pos ⟨by simpa using h1,by simpa using h2⟩]
   simp [hab]
 | [],_::_,_,_,h,_=>by simp at h
 | [],[],_::_,_,_,h=>by simp at h
 | _::_,[],_,_,h,_=>by simp at h
 | _::_,_::_,[],_,_,h=>by simp at h
theorem qfQ {e:List PC × List PC} {es:List (List PC × List PC)} {k:List PC}:getM (e::es) k=if qdH e.1 k then some e.2 else getM es k:=by
 unfold getM
 rw [List.find?_cons]
 cases qdH e.1 k<;>simp
def qlL (kc:List PC) (v:Value) (es:List (List PC × List PC)) (en:List MapEntry) (i0:Nat) (r:Option (Nat × Value)):Prop :=
 (getM es kc=none∧r=none∧∀ m∈en,m.key≠v)∨∃ j x m,es[j]?=some x∧en[j]?=some m∧m.key=v∧getM es kc=some x.2∧r=some (i0 + j,m.val)
theorem qlL.cons {kc v e m es en i0 r} (h:qdH e.1 kc=false) (hm:m.key≠v) (hf:qlL kc v es en (i0 + 1) r):qlL kc v (e::es) (m::en) i0 r:=by
 rcases hf with ⟨h1,h2,h3⟩ | ⟨j,x,m',h1,h2,h3,h4,h5⟩
 ·exact .inl ⟨by rw [qfQ,h]; exact h1,h2,fun y hy=>by
   rcases List.mem_cons.1 hy with rfl | hy
   ·exact hm
   ·exact h3 y hy⟩
 ·exact .inr ⟨j + 1,x,m',by simpa using h1,by simpa using h2,h3,by rw [qfQ,h]; exact h4,by rw [h5]; congr 2; omega⟩
theorem qjI (hT:TOk P T) {kt:Nat} {kk:KK} (hkt:KT P T kt kk) {w:World} {S:Zone} {va:Bool} {kc:List PC} {v:Value} (hk:KeyV kk kc v):∀ {es:List (List PC × List PC)} {en:List MapEntry},
  F2 (fun (x:List PC × List PC) (m:MapEntry)=>KeyV kk x.1 m.key∧ValV w S va x.2 m.val) es en→∃ r,(Instr.findKey kt v en).run P w=.ok r w∧qlL kc v es en 0 r:=by
 have hne:∀ {x:List PC} {u:Value},KeyV kk x u→(qdH x kc=true↔u=v):=fun hx=>qiy hx hk
 have hkk:=hkt.of_
 unfold kkOf at hkk
 have hd:(ty T kt).d≠.other:=by intro h; rw [h] at hkk; cases hkk
 have hI:=(hT kt).desc hd
 have hD:=hI.d
 cases kk with
 | int k =>
  have hDD:P.underlying kt=some (.int k):=by
   cases h:(ty T kt).d<;>rw [h] at hkk hD<;>simp at hkk
   ·subst hkk; exact hD
   ·split at hkk<;>simp at hkk
  obtain ⟨a,rfl,rfl⟩:=hk
  have key:∀ {es:List (List PC × List PC)} {en:List MapEntry} (i0:Nat),F2 (fun (x:List PC × List PC) (m:MapEntry)=>KeyV (.int k) x.1 m.key∧ValV w S va x.2 m.val) es en→∃ r,Instr.findNow (.int k) (.int k a) en i0=some r∧qlL [.v (.int k a)] (.int k a) es en i0 r:=by
   intro es en i0 h
   induction h generalizing i0 with
   | nil=>exact ⟨none,rfl,.inl ⟨rfl,rfl,fun m h=>by cases h⟩⟩
   | @cons x m es en hx _ ih =>
    obtain ⟨b,hb1,hb2⟩:=hx.1
    by_cases hab:a=b
    ·subst hab
     have haa:(a == a)=true:=by first | exact (MapKept.bytes_beq a a).2 rfl | simp
     refine ⟨some (i0,m.val),by simp [Instr.findNow,Instr.sameNow,hb2,haa],.inr ⟨0,x,m,rfl,rfl,hb2,by rw [qfQ,if_pos ((hne hx.1).2 hb2)],rfl⟩⟩
    ·have hmk:m.key≠.int k a:=by rw [hb2]; intro h; injection h with _ h; exact hab h.symm
     obtain ⟨r,hr,hf⟩:=ih (i0 + 1)
     have hab':(a == b)=false:=by simpa using hab
     refine ⟨r,by simp [Instr.findNow,Instr.sameNow,hb2,hab',hr],hf.cons ?_ hmk⟩
     cases hh:qdH x.1 [.v (.int k a)] with
     | false=>rfl
     | true=>exact absurd ((hne hx.1).1 hh) hmk
  intro es en h
  obtain ⟨r,hr,hf⟩:=key 0 h
  exact ⟨r,MapKept.run_findKey hDD hr,hf⟩
 | str =>
  have hDD:P.underlying kt=some .string:=by
   cases h:(ty T kt).d<;>rw [h] at hkk hD<;>simp at hkk
   ·exact hD
   ·split at hkk<;>simp at hkk
  obtain ⟨a,rfl,rfl⟩:=hk
  have key:∀ {es:List (List PC × List PC)} {en:List MapEntry} (i0:Nat),F2 (fun (x:List PC × List PC) (m:MapEntry)=>KeyV .str x.1 m.key∧ValV w S va x.2 m.val) es en→∃ r,Instr.findNow .string (.string a) en i0=some r∧qlL [.v (.string a)] (.string a) es en i0 r:=by
   intro es en i0 h
   induction h generalizing i0 with
   | nil=>exact ⟨none,rfl,.inl ⟨rfl,rfl,fun m h=>by cases h⟩⟩
   | @cons x m es en hx _ ih =>
    obtain ⟨b,hb1,hb2⟩:=hx.1
    by_cases hab:a=b
    ·subst hab
     have haa:(a == a)=true:=by first | exact (MapKept.bytes_beq a a).2 rfl | simp
     refine ⟨some (i0,m.val),by simp [Instr.findNow,Instr.sameNow,hb2,haa],.inr ⟨0,x,m,rfl,rfl,hb2,by rw [qfQ,if_pos ((hne hx.1).2 hb2)],rfl⟩⟩
    ·have hmk:m.key≠.string a:=by rw [hb2]; intro h; injection h with h; exact hab h.symm
     obtain ⟨r,hr,hf⟩:=ih (i0 + 1)
     have hab':(a == b)=false:=by
      cases hh:(a == b) with
      | false=>rfl
      | true=>exact absurd ((MapKept.bytes_beq a b).1 hh) hab
     refine ⟨r,by simp [Instr.findNow,Instr.sameNow,hb2,hab',hr],hf.cons ?_ hmk⟩
     cases hh:qdH x.1 [.v (.string a)] with
     | false=>rfl
     | true=>exact absurd ((hne hx.1).1 hh) hmk
  intro es en h
  obtain ⟨r,hr,hf⟩:=key 0 h
  exact ⟨r,MapKept.run_findKey hDD hr,hf⟩
 | ints k n =>
  obtain ⟨heq,hzl,hz⟩:=hkt.eq k n rfl
  have hDD:∃ e,P.underlying kt=some (.array n e):=by
   cases h:(ty T kt).d<;>rw [h] at hkk hD<;>simp at hkk
   rename_i n' e
   split at hkk
   ·simp at hkk; obtain ⟨_,rfl⟩:=hkk; exact ⟨e,hD⟩
   ·cases hkk
  obtain ⟨e,hDD⟩:=hDD
  obtain ⟨l,hl,rfl,rfl⟩:=hk
  have hE:=(hI.eq heq).2
  have key:∀ {es:List (List PC × List PC)} {en:List MapEntry} (i0:Nat),F2 (fun (x:List PC × List PC) (m:MapEntry)=>KeyV (.ints k n) x.1 m.key∧ValV w S va x.2 m.val) es en →
    ∃ r,(Instr.findAsking kt (.agg (l.map (Value.int k)).toArray) en i0).run P w=.ok r w∧qlL (l.map fun a=>.v (.int k a)) (.agg (l.map (Value.int k)).toArray) es en i0 r:=by
   intro es en i0 h
   induction h generalizing i0 with
   | nil=>exact ⟨none,rfl,.inl ⟨rfl,rfl,fun m h=>by cases h⟩⟩
   | @cons x m es en hx _ ih =>
    obtain ⟨b,hbl,hb1,hb2⟩:=hx.1
    have hop:(Op.equal kt (.agg (l.map (Value.int k)).toArray) m.key).run P w=.ok (l == b) w:=by
     rw [hb2]
     exact hE _ _ _ _ (qoG hz (by omega) (by omega))
    by_cases hab:l=b
    ·subst hab
     rw [beq_self_eq_true] at hop
     refine ⟨some (i0,m.val),by simp [Instr.findAsking,hop],.inr ⟨0,x,m,rfl,rfl,hb2,by rw [qfQ,if_pos ((hne hx.1).2 hb2)],rfl⟩⟩
    ·have hab':(l == b)=false:=by simpa using hab
     rw [hab'] at hop
     have hk0:=hne hx.1
     have hmk:m.key≠.agg (l.map (Value.int k)).toArray:=by
      intro h
      have:=hk0.2 h
      rw [hb1,qhk,beq_iff_eq] at this
      exact hab this.symm
     obtain ⟨r,hr,hf⟩:=ih (i0 + 1)
     refine ⟨r,by simp [Instr.findAsking,hop,hr],hf.cons ?_ hmk⟩
     cases hh:qdH x.1 (l.map fun a=>.v (.int k a)) with
     | false=>rfl
     | true=>exact absurd (hk0.1 hh) hmk
  intro es en h
  obtain ⟨r,hr,hf⟩:=key 0 h
  exact ⟨r,by rw [run_findKey_eq w (by rw [hDD])]; exact hr,hf⟩
theorem qiz (hT:TOk P T) {kt:Nat} {kk:KK} (hkt:KT P T kt kk) {kc:List PC} {v:Value} (hk:KeyV kk kc v) (em:Bool) (w:World):(Instr.checkKey em 10000 kt v).run P w=.ok () w:=by
 have hkk:=hkt.of_
 unfold kkOf at hkk
 have hd:(ty T kt).d≠.other:=by intro h; rw [h] at hkk; cases hkk
 have hI:=(hT kt).desc hd
 have hD:=hI.d
 cases kk with
 | int k =>
  have hDD:P.underlying kt=some (.int k):=by
   cases h:(ty T kt).d<;>rw [h] at hkk hD<;>simp at hkk
   ·subst hkk; exact hD
   ·split at hkk<;>simp at hkk
  obtain ⟨a,rfl,rfl⟩:=hk
  exact MapKept.run_checkKey hDD (by simp [MapKept.IsKey]) em 9999
 | str =>
  have hDD:P.underlying kt=some .string:=by
   cases h:(ty T kt).d<;>rw [h] at hkk hD<;>simp at hkk
   ·exact hD
   ·split at hkk<;>simp at hkk
  obtain ⟨a,rfl,rfl⟩:=hk
  exact MapKept.run_checkKey hDD (by simp [MapKept.IsKey]) em 9999
 | ints k n =>
  have hDD:∃ e,P.underlying kt=some (.array n e)∧(ty T e).d=.int k:=by
   cases h:(ty T kt).d<;>rw [h] at hkk hD<;>simp at hkk
   rename_i n' e
   split at hkk
   ·rename_i k' he
    simp at hkk; obtain ⟨rfl,rfl⟩:=hkk; exact ⟨e,hD,he⟩
   ·cases hkk
  obtain ⟨e,hDD,hde⟩:=hDD
  have hIe:=(hT e).desc (by rw [hde]; simp)
  have hDe:=hIe.d
  rw [hde] at hDe
  have hsz:(ty T e).sz=1:=by
   obtain ⟨i,zv,_,_,_,_,_,hz,_⟩:=hIe.info
   rw [←hIe.z,hz (by rw [hde]; rfl)]; rfl
  obtain ⟨l,hl,rfl,rfl⟩:=hk
  rw [show 10000=9999 + 1 from rfl,Instr.checkKey]
  simp only [Sem.run_bind,run_underlying hDD,Result.andThen_ok]
  simp only [Std.Legacy.Range.forIn_eq_forIn_range',Std.Legacy.Range.size,Nat.sub_zero,Nat.add_one_sub_one,Nat.div_one]
  have each:∀ j∈List.range' 0 n,j < l.length:=fun j hj=>by
   rw [List.mem_range'_1] at hj; omega
  generalize List.range' 0 n=is at each
  induction is with
  | nil=>simp
  | cons j is ih =>
   have hj:=each j (by simp)
   have hag:(Go.isAgg e).run P w=.ok false w:=by have:=hIe.agg w; rw [hde] at this; exact this
   have hp:(part e (l.map (Value.int k)).toArray (j * 1)).run P w=.ok (.int k l[j]) w:=by
    unfold part
    simp [hag,hj]
   have h2:(Instr.checkKey em 9999 e (.int k l[j])).run P w=.ok () w:=MapKept.run_checkKey hDe (by simp [MapKept.IsKey]) em 9998
   simp only [List.forIn_cons,Sem.run_bind,hIe.size,hsz,Result.andThen_ok,hp,h2,Sem.run_pure]
   exact ih (fun y hy=>each y (by simp [hy]))
theorem qiA {ag:Bool} {cs:List C} {Kc:A→Prop} (h:cellsOf ag cs Kc):∃ v,Kc v∧(∀ l,v≠.tup l)∧∀ {w S inj us u},F2 (VR w S inj) cs us→((ag=false∧us=[u])∨(ag=true∧u=.agg us.toArray))→VA w S inj v u:=by
 cases ag with
 | true =>
  refine ⟨_,h,nofun,fun hf hu=>?_⟩
  rcases hu with ⟨hu,_⟩ | ⟨_,rfl⟩
  ·cases hu
  ·exact .one (.agg hf)
 | false =>
  obtain ⟨c,rfl,h⟩:=qit h
  refine ⟨_,h,nofun,fun hf hu=>?_⟩
  rcases hu with ⟨_,rfl⟩ | ⟨hu,_⟩
  ·cases hf with
   | cons hv hn=>exact .ofc hv
  ·cases hu
theorem qlM {ok:Bool} {v:A} {b:Bool} {Ka:A→Prop} (hv:∀ l,v≠.tup l) (h:qov ok v b Ka):∃ a,Ka a∧∀ {w S inj u},VA w S inj v u→VA w S inj a (if ok then .tuple #[u,.bool b] else u):=by
 cases ok with
 | false=>exact ⟨v,h,fun hu=>hu⟩
 | true =>
  unfold qov at h
  cases v with
  | tup l=>exact absurd rfl (hv l)
  | one c=>exact ⟨_,h,fun hu=>by
    cases hu with
    | one hu=>exact .tup (vs:=[_,_]) (.cons hu (.cons (.one (.p (.v rfl))) .nil))⟩
  | agg l=>exact ⟨_,h,fun hu=>by
    cases hu with
    | one hu=>exact .tup (vs:=[_,_]) (.cons hu (.cons (.one (.p (.v rfl))) .nil))⟩
theorem PRs.vr {w S inj} {r:List PC} {us:List Value} (h:F2 (PR w S) r us):F2 (VR w S inj) (mapR C.p r) us:=by
 rw [qay]; exact h.map fun a b _ hp=>.p hp
theorem qrG (hT:TOk P T) {s:Nat} {x i:Operand} {ok:Bool} (ho:o.op=.lookup s x i ok) (h:qnk T σ s (opd t x) (opd t i) ok K):qM P t σ nx o K:=by
 have hmx:x∈o.op.operands:=by simp [ho,Op.operands]
 have hmi:i∈o.op.operands:=by simp [ho,Op.operands]
 unfold qnk at h
 split at h
 ·rename_i kt et b hd hx
  have hD:=((hT s).desc (by rw [hd]; simp)).d
  rw [hd] at hD
  split at h
  ·rename_i kk va es hb
   obtain ⟨kk',kc,h,hkt,hkey⟩:=qrE h
   have hc:=(bcF h).1
   replace h:=(bcF h).2
   simp only [Bool.and_eq_true] at hc
   have hk1:=qrD hc.1.1; subst hk1
   have hva:=qwg hc.1.2
   have hsz:=Nat.le_of_ble_eq_true hc.2
   have hI:=(hT et).known (by omega)
   replace h:=h _ rfl
   have hrun:∀ {a:Act} {w:World} {S inj f},(∀ x,x∈o.op.operands→VA w S inj (opd t x) (a.eval x))→Inv w S inj f→f b=look σ b→∃ (g:Nat) (en:Array MapEntry) (cl:Nat) (r:Option (Nat × Value)),w.heap[g]?=some (Obj.map en cl)∧qlL kc (a.eval i) es en.toList 0 r ∧
     F2 (fun (x:List PC × List PC) (m:MapEntry)=>KeyV kk x.1 m.key∧ValV w S va x.2 m.val) es en.toList ∧
     (Instr.lookup s (a.eval x) (a.eval i) ok).run P w=((do
      let (v,k) ← match r with
       | some (_,v)=>pure (v,true)
       | none=>pure (← zeroValue et,false)
      pure (if ok then .tuple #[v,.bool k] else v)):Sem Value).run P w:=fun {a w S inj f} hop hi hfb=>by
    have hv:=hop x hmx
    rw [hx] at hv
    obtain ⟨g,en,cl,hg,hnS,hh,hst,hfe⟩:=hi.mpB (hfb.trans hb)
    have he:=(hv.cellv (by simp)).mpv hg
    have hkv:=hkey (hop i hmi)
    obtain ⟨r,hr,hF⟩:=qjI hT hkt hkv hfe
    refine ⟨g,en,cl,r,hh,hF,hfe,?_⟩
    have hck:=qiz hT hkt hkv en.isEmpty w
    unfold Instr.lookup
    simp only [Sem.run_bind,run_underlying hD,Result.andThen_ok,he,MapKept.run_getObj_map hh,Sem.run_pure,hck,hr]
    rfl
   have hexec:∀ (a:Act) (w:World) v,(Instr.lookup s (a.eval x) (a.eval i) ok).run P w=.ok v w→(execOp a.eval o).run P w=.ok (.value v) w:=fun a w v hr=>by
    unfold execOp; simp [ho,hr]
   cases hget:getM es kc with
   | some r =>
    rw [hget] at h
    simp only at h
    rw [qgF] at h
    have hl:=(bcF h).1
    replace h:=(bcF h).2
    obtain ⟨v,h,hnt,hv⟩:=qiA h
    obtain ⟨av,h,hav⟩:=qlM hnt h
    refine qab h fun a f w S inj hop hf hi=>?_
    obtain ⟨g,en,cl,r',hh,hF,hfe,hr⟩:=hrun hop hi (hf b (by simp))
    rcases hF with ⟨h1,_⟩ | ⟨j,y,m,h1,h2,h3,h4,h5⟩
    ·rw [hget] at h1; cases h1
    ·rw [hget] at h4; injection h4 with h4
     obtain ⟨m',hm',_,us,hus,hvv⟩:=hfe.get h1
     rw [h2] at hm'; injection hm' with hm'; subst hm'
     rw [h5] at hr
     refine ⟨_,hexec a w _ (by rw [hr]; rfl),hav (hv (PRs.vr (by rw [h4]; exact hus)) ?_)⟩
     rw [←hva]; exact hvv
   | none =>
    rw [hget] at h
    simp only at h
    obtain ⟨v,h,hnt,hv⟩:=qiA h
    obtain ⟨av,h,hav⟩:=qlM hnt h
    refine qab h fun a f w S inj hop hf hi=>?_
    obtain ⟨g,en,cl,r',hh,hF,hfe,hr⟩:=hrun hop hi (hf b (by simp))
    rcases hF with ⟨h1,h2,_⟩ | ⟨j,y,m,h1,h2,h3,h4,h5⟩
    ·rw [h2] at hr
     obtain ⟨ii,zv,hi',_,_,hz,hzc,hz1,_,hz2⟩:=hI.info
     have hzr:(zeroValue et).run P w=.ok zv w:=by simp [zeroValue,typeInfo,hi',hz]
     refine ⟨_,hexec a w _ (by rw [hr]; simp only [Sem.run_bind,hzr,Result.andThen_ok,Sem.run_pure]),hav (hv (us:=(ty T et).z) (u:=zv) (qh6 hI) ?_)⟩
     cases hag:isAgg (ty T et).d with
     | false=>exact .inl ⟨rfl,hz1 hag⟩
     | true =>
      obtain ⟨cs,rfl⟩:=hz2 hag
      refine .inr ⟨rfl,?_⟩
      rw [←hzc]; rfl
    ·rw [hget] at h4; cases h4
  ·exact h.elim
 ·exact h.elim
theorem qqh {s et:Nat} {kk:KK} (ho:o.op=.makeMap s none) (h:K (.one (.mp nx)) [] [.mp kk (isAgg (ty T et).d) []] []):qM P t σ nx o K:=by
 refine ⟨_,_,_,_,h,fun a f w S inj next Q hop hf hi hfr hn=>?_⟩
 have h00:inj nx=.free∧f nx=.dead:=by simpa using hfr 0 (by simp)
 have hle:=qa7 (l:=.mp w.heap.size) h00.1
 have hr:(execOp a.eval o).run P w=.ok (.value (.map (some w.heap.size))) (w.alloc (.map #[] 0)):=by
  unfold execOp; simp [ho,Instr.makeMap]
 refine qX hr (hn _ _ S (qbG inj nx (.mp w.heap.size)) ⟨.alloc hi.lt _,hle,fun b hb hb'=>?_,.ofc (.mp (.inr ⟨_,qA,rfl⟩)),?_⟩)
 ·rw [qu (by simp at hb'; omega)]; exact hb
 ·rw [qir]
  exact hi.new h00.1 (fun g hg=>(show w.heap.size=g from hg).symm) ⟨w.heap.size, #[],0,rfl,fun hs=>absurd (hi.lt _ hs) (by omega),han w _,MapKept.stamped_empty 0,.nil⟩
theorem qlN {kk:KK} {kc:List PC} {v:Value} (h:KeyV kk kc v):Instr.sameBits 10000 v v=true:=by
 cases kk with
 | int k=>obtain ⟨a,_,rfl⟩:=h; simp [Instr.sameBits]
 | str=>obtain ⟨a,_,rfl⟩:=h; simp [Instr.sameBits,MapKept.bytes_beq]
 | ints k n =>
  obtain ⟨l,_,_,rfl⟩:=h
  have:∀ l:List Int,(l.map (Value.int k)).zip (l.map (Value.int k)) |>.all fun (x,y)=>Instr.sameBits 9999 x y:=fun l=>by
   induction l with
   | nil=>rfl
   | cons a l ih=>simp only [List.map_cons,List.zip_cons_cons,List.all_cons,ih,Bool.and_true]; simp [Instr.sameBits]
  rw [show 10000=9999 + 1 from rfl,Instr.sameBits]
  simp only [beq_self_eq_true,Bool.true_and]
  exact this l
theorem qlO (hT:TOk P T) {s:Nat} {x i y:Operand} (ho:o.op=.mapUpdate s x i y) (h:qhh T σ s (opd t x) (opd t i) (opd t y) K):qM P t σ nx o K:=by
 have hmx:x∈o.op.operands:=by simp [ho,Op.operands]
 have hmi:i∈o.op.operands:=by simp [ho,Op.operands]
 have hmy:y∈o.op.operands:=by simp [ho,Op.operands]
 unfold qhh at h
 split at h
 ·rename_i kt et b hd hx
  have hD:=((hT s).desc (by rw [hd]; simp)).d
  rw [hd] at hD
  split at h
  ·rename_i kk va es hb
   obtain ⟨kk',kc,h1,hkt,hkey⟩:=qrE h
   obtain ⟨vc,hvc,h2⟩:=qgi h1
   have hc:=(bcF h2).1
   have h3:=(bcF h2).2
   simp only [Bool.and_eq_true] at hc
   have hk1:=qrD hc.1.1; subst hk1
   have hva:=qwg hc.1.2
   obtain ⟨ps,bs,h,hpl,_,hok⟩:=qkr _ h3
   cases bs with
   | cons _ _=>exact h.elim
   | nil =>
    refine ⟨_,_,_,_,h _ rfl,fun a f w S inj next Q hop hf hi hfr hn=>?_⟩
    have hfb:=(hf b (by simp)).trans hb
    have hv:=hop x hmx
    rw [hx] at hv
    obtain ⟨g,en,cl,hg,hnS,hh,hst,hfe⟩:=hi.mpB hfb
    have he:=(hv.cellv (by simp)).mpv hg
    have hkv:=hkey (hop i hmi)
    obtain ⟨r,hr,hF⟩:=qjI hT hkt hkv hfe
    have hck:=qiz hT hkt hkv false w
    obtain ⟨us,hus,hfu⟩:=qgU (hop y hmy) hvc
    have hpu:=(hok hi (by simp) hfu).mono' (R':=PR w S) fun _ _ h=>h.sub fun g h=>by rcases h with h | ⟨_,h,_⟩; exact h; simp at h
    have hval:ValV w S va ps (a.eval y):=by
     refine ⟨us,hpu,?_⟩
     have hvy:=hop y hmy
     cases hoy:opd t y with
     | tup l=>rw [hoy] at hvc; exact hvc.elim
     | agg cs =>
      rw [hoy] at hvy hva
      obtain ⟨vs,hvs,_⟩:=hvy.agg'
      rw [hvs] at hus ⊢
      refine .inr ⟨hva,?_⟩
      exact congrArg Value.agg hus
     | one c =>
      rw [hoy] at hvy hva hvc
      have hcj:c≠.junk:=by rintro rfl; exact hvc.elim
      have h1:=(hvy.cellv hcj).oneCell
      refine .inl ⟨hva,?_⟩
      generalize a.eval y=u at hus h1
      cases u<;>simp_all [Value.cells,Value.oneCell']
    have hkill:∀ (en':Array MapEntry) (cl':Nat),MapKept.Stamped en' cl'→F2 (fun (x:List PC × List PC) (m:MapEntry)=>KeyV kk x.1 m.key∧ValV w S va x.2 m.val) (setM es kc ps) en'.toList →
      (execOp a.eval o).run P w=.ok .skip { w with heap:=w.heap.setIfInBounds g (.map en' cl') }→o.wp P a w next Q:=fun en' cl' hst' hfe' hrun=>by
     have hset:=MapKept.heap_set (o':=.map en' cl') hh
     have hG:Grow w S { w with heap:=w.heap.setIfInBounds g (.map en' cl') } S:=⟨rfl,rfl,rfl,by simp,fun g' hg'=>hset.2 g' (by rintro rfl; exact hnS hg'),fun _ h=>h,rfl⟩
     refine qgh hrun (hn _ _ S inj ⟨hG,.refl _,fun _ h _=>h,.tup (vs:=[]) .nil,?_⟩)
     have hupd:upd f nx [(b,.mp kk va (setM es kc ps))] []=setB f b (.mp kk va (setM es kc ps)):=by rw [qoA (by simp),qcT]
     rw [hupd]
     refine hi.set hG (.refl _) (fun _ _=>rfl) rfl (fun b' x hb' hd' hx'=>?_) ?_ (fun _ b' x hb' hd' hx1 hx2=>hb' (hi.sep b' b x hd' (by rw [hfb]; simp) hx2 hx1)) (fun x hx=>by simpa using hi.lt x hx)
     ·refine ⟨hset.2 x ?_,((hi.live b').blk hd' hx').1⟩
      rintro rfl
      exact hb' (hi.sep b' b _ hd' (by rw [hfb]; simp) hx' (by rw [hg]; rfl))
     ·rw [hg]
      exact ⟨g,en',cl',rfl,hnS,hset.1,hst',hfe'.mono' fun _ _ h=>⟨h.1,h.2.grow hG⟩⟩
    have hpre:∀ {w'},((do
      match r with
      | some (j,_)=>do
       let key ← Instr.keyThatStays (((en[j]?).map (·.key)).getD (a.eval i)) (a.eval i)
       setObj g (.map (en.modify j fun e=>{ e with key,val:=a.eval y }) cl)
      | none=>setObj g (.map (en.push { key:=a.eval i,val:=a.eval y,born:=cl }) (cl + 1))):Sem Unit).run P w=.ok () w'→(execOp a.eval o).run P w=.ok .skip w':=fun {w'} h=>by
     unfold execOp
     simp only [ho,Instr.mapUpdate,Sem.run_bind,run_underlying hD,Result.andThen_ok,he,MapKept.run_getObj_map hh,hck,hr]
     cases r with
     | none=>simp only at h ⊢; rw [h]; rfl
     | some r=>simp only at h ⊢; rw [h]; rfl
    rcases hF with ⟨h1,rfl,h3⟩ | ⟨j,z,m,h1,h2,h3,h4,rfl⟩
    ·refine hkill (en.push { key:=a.eval i,val:=a.eval y,born:=cl }) (cl + 1) ?_ ?_ (hpre (MapKept.run_setObj_map _ hh))
     ·rw [MapKept.stamped_iff] at hst ⊢
      obtain ⟨s1,s2,s3⟩:=hst
      refine ⟨fun x hx=>?_,?_,?_⟩
      ·simp at hx
       rcases hx with hx | rfl
       ·exact Nat.lt_succ_of_lt (s1 x (by simpa using hx))
       ·exact Nat.lt_succ_self _
      ·simp only [Array.toList_push,List.map_append,List.map_cons,List.map_nil]
       rw [List.nodup_append]
       refine ⟨s2,by simp,fun x hx y hy=>?_⟩
       simp at hy; subst hy
       obtain ⟨q,hq,rfl⟩:=List.mem_map.1 hx
       have:=s1 q hq
       omega
      ·simp only [Array.toList_push]
       rw [List.pairwise_append]
       refine ⟨s3,by simp,fun x hx y hy=>?_⟩
       simp at hy; subst hy
       exact h3 x hx
     ·unfold setM
      rw [h1,if_neg (by simp)]
      simp only [Array.toList_push]
      exact hfe.app (.cons ⟨hkv,hval⟩ .nil)
    ·have hej:en[j]?=some m:=by rw [←Array.getElem?_toList]; exact h2
     have hkk:(Instr.keyThatStays (((en[0 + j]?).map (·.key)).getD (a.eval i)) (a.eval i)).run P w=.ok (a.eval i) w:=by
      rw [Nat.zero_add,hej]
      simp [h3,Instr.keyThatStays,qlN hkv]
     have hml:(en.modify (0 + j) fun e=>{ e with key:=a.eval i,val:=a.eval y }).toList=en.toList.modify j fun e=>{ e with val:=a.eval y }:=by
      rw [Nat.zero_add,Array.toList_modify]
      apply List.ext_getElem?
      intro n
      rw [List.getElem?_modify,List.getElem?_modify]
      by_cases hn:j=n
      ·subst hn; rw [h2]; simp [h3]
      ·simp [hn]
     refine hkill (en.modify (0 + j) fun e=>{ e with key:=a.eval i,val:=a.eval y }) cl ?_ ?_ (hpre (by simp only [Sem.run_bind,hkk,Result.andThen_ok]; exact MapKept.run_setObj_map _ hh))
     ·obtain ⟨s1,s2,s3⟩:=hst
      have hmk:∀ {β:Type} (q:MapEntry→β),(∀ e:MapEntry,q { e with val:=a.eval y }=q e)→(en.toList.modify j fun e=>{ e with val:=a.eval y }).map q=en.toList.map q:=fun q hq=>by
       apply List.ext_getElem?
       intro n
       rw [List.getElem?_map,List.getElem?_map,List.getElem?_modify]
       by_cases hn:j=n
       ·subst hn; rw [h2]; simp [hq]
       ·simp [hn]
      refine ⟨fun x hx=>?_,?_,?_⟩
      ·rw [hml] at hx
       obtain ⟨n,hn⟩:=List.getElem?_of_mem hx
       rw [List.getElem?_modify] at hn
       cases hq:en.toList[n]? with
       | none=>rw [hq] at hn; simp at hn
       | some q =>
        rw [hq] at hn
        simp at hn
        have:=s1 q (List.mem_of_getElem? hq)
        rw [←hn]
        split<;>exact this
      ·rw [hml,hmk _ fun e=>rfl]; exact s2
      ·rw [hml,hmk _ fun e=>rfl]; exact s3
     ·rw [hml]
      unfold setM
      rw [h4,if_pos (by rfl)]
      rw [MapKept.stamped_iff] at hst
      have hpw:=hst.2.2
      refine F2.of_get (by simp [hfe.len]) fun n p q hp hq=>?_
      rw [List.getElem?_map] at hp
      rw [List.getElem?_modify] at hq
      cases hp0:es[n]? with
      | none=>rw [hp0] at hp; cases hp
      | some p0 =>
       obtain ⟨q0,hq0,hkv0,hvv0⟩:=hfe.get hp0
       rw [hp0] at hp; rw [hq0] at hq
       simp at hp hq
       by_cases hjn:j=n
       ·subst hjn
        rw [h2] at hq0; injection hq0 with hq0; subst hq0
        rw [if_pos ((qiy hkv0 hkv).2 h3)] at hp
        rw [if_pos rfl] at hq
        subst hp; subst hq
        exact ⟨hkv0,hval⟩
       ·have hne:q0.key≠a.eval i:=fun h=>by
         have:=List.pairwise_iff_getElem.1 hpw
         obtain ⟨hj1,hj2⟩:=List.getElem?_eq_some_iff.1 h2
         obtain ⟨hn1,hn2⟩:=List.getElem?_eq_some_iff.1 hq0
         rcases Nat.lt_or_gt_of_ne hjn with hlt | hlt
         ·exact this j n hj1 hn1 hlt (by rw [hj2,hn2,h3,h])
         ·exact this n j hn1 hj1 hlt (by rw [hj2,hn2,h3,h])
        have hnk:qdH p0.1 kc=false:=by
         cases hh:qdH p0.1 kc with
         | false=>rfl
         | true=>exact absurd ((qiy hkv0 hkv).1 hh) hne
        rw [if_neg (by rw [hnk]; simp)] at hp
        rw [if_neg hjn] at hq
        subst hp; subst hq
        exact ⟨hkv0,hvv0⟩
  ·exact h.elim
 ·exact h.elim
end Go.Proofs.YtidkmoohgadjkaaGreat.E
namespace Go.Proofs.YtidkmoohgadjkaaGreat.E
open Go
variable {P:Program} {T:List TI} {t:List A} {σ:List Blk} {nx:Nat} {o:Oper} {K:Kont}
theorem qjJ {one:Bool} {b p:Nat} {y n:Prop} (h:outB σ one b p y n):(one=true∧y)∨n:=by
 unfold outB at h
 split at h
 ·rcases (qL _ _ _).1 h with ⟨hc,h⟩ | ⟨_,h⟩
  ·simp only [Bool.and_eq_true] at hc; exact .inl ⟨hc.1,h⟩
  ·exact .inr h
 ·rcases (qL _ _ _).1 h with ⟨hc,h⟩ | ⟨_,h⟩
  ·simp only [Bool.and_eq_true] at hc; exact .inl ⟨hc.1,h⟩
  ·exact .inr h
 ·exact .inr h
theorem quS (hT:TOk P T) (h:qaJ T t σ nx o.op K):qM P t σ nx o K:=by
 generalize ho:o.op=op at h
 cases op with
 | move x=>exact qrk (.inl ho) h
 | assign x=>exact qrk (T:=T) (.inr ho) h
 | pick c x y=>exact qxw ho h
 | alloc e=>exact quz hT ho h
 | box e x=>exact qyZ ho h
 | build s ps=>exact quI hT ho h
 | buildSlice s n ps=>exact qkv hT ho h
 | load s x =>
  dsimp only [qaJ] at h
  split at h
  ·rename_i b k i p hx
   rcases qjJ h with ⟨hs,h⟩ | h
   ·exact qqd hT ho hx hs h
   ·exact qrn hT ho (by rw [hx]; exact h)
  ·exact qrn hT ho h
 | store s x y =>
  dsimp only [qaJ] at h
  split at h
  ·rename_i b k i p hx
   rcases qjJ h with ⟨hs,h⟩ | h
   ·split at h
    ·rename_i c hy
     exact quK hT ho hx hy hs h
    ·exact h.elim
   ·exact qoB hT ho (by rw [hx]; exact h)
  ·exact qoB hT ho h
 | makeMap s r =>
  cases r with
  | some x=>exact h.elim
  | none =>
   dsimp only [qaJ] at h
   split at h
   ·split at h
    ·exact qqh ho h
    ·exact h.elim
   ·exact h.elim
 | lookup s x i ok=>exact qrG hT ho h
 | mapUpdate s m i v=>exact qlO hT ho h
 | nilCheck x=>exact qnn ho h
 | binOp op s x y s'=>exact quE hT ho h
 | unOp op s x=>exact qxz ho h
 | convert s d x=>exact qqg hT ho h
 | makeInterface s x=>exact qh0 hT ho h
 | makeFunc f a b=>exact qnp ho h
 | makeSlice s n c=>exact qlI hT ho h
 | slice s x lo hi mx=>exact qh8 hT ho h
 | fieldAddr s x i=>exact qlD hT ho h
 | field s x i=>exact quG hT ho h
 | indexAddr s x i=>exact qlH hT ho h
 | index s x i=>exact quF hT ho h
 | extract x i=>exact qp9 ho h
 | typeAssert x s0 s ok=>exact qkt hT ho h
 | call c =>
  obtain ⟨callee,args,argTypes⟩:=c
  cases callee with
  | builtin b=>exact qqe hT ho h
  | value f=>exact h.elim
  | _=>exact h.elim
 | _=>exact h.elim
end Go.Proofs.YtidkmoohgadjkaaGreat.E
namespace Go.Proofs.YtidkmoohgadjkaaGreat.E
open Go
variable {P:Program} {T:List TI} {t:List A} {σ:List Blk} {nx:Nat}
theorem qfv {α β:Type} {f:α→(β→Prop)→Prop} {R:α→β→Prop}:∀ {l:List α} {k:List β→Prop},(∀ a,a∈l→∀ k,f a k→∃ b,k b∧R a b)→mapF f l k→∃ l',k l'∧F2 R l l'
 | [],k,hf,h=>⟨[],h,.nil⟩
 | a::l,k,hf,h=>by
  obtain ⟨b,h1,hr⟩:=hf a (by simp) _ h
  obtain ⟨l',h2,hr'⟩:=qfv (fun a ha=>hf a (by simp [ha])) h1
  exact ⟨_,h2,.cons hr hr'⟩
theorem VR.sub {w S S' inj c v} (h:VR w S inj c v) (hs:∀ g,S g→S' g):VR w S' inj c v:=by
 cases h with
 | p h=>exact .p (h.sub hs)
 | own h=>exact .own h
 | ptr h=>exact .ptr h
 | ep h=>exact .ep h
 | rp vals h1 h2 h3=>exact .rp vals (hs _ h1) h2 fun j c hj=>(h3 j c hj).sub hs
 | fn h=>exact .fn h
 | pf h=>exact .pf (h.mono' fun _ _ ⟨g,vals,e,h1,h2,h3⟩=>⟨g,vals,e,hs _ h1,h2,fun j c hj=>(h3 j c hj).sub hs⟩)
 | mp h=>exact .mp h
 | cp h=>exact .cp (h.sub hs)
 | junk h=>exact .junk h
theorem VA1.sub {w S S' inj c v} (h:VA1 w S inj c v) (hs:∀ g,S g→S' g):VA1 w S' inj c v:=by
 cases h with
 | one h=>exact .one (h.sub hs)
 | agg h=>exact .agg (h.mono' fun _ _ h=>h.sub hs)
 | junk=>exact .junk
theorem VA.sub {w S S' inj c v} (h:VA w S inj c v) (hs:∀ g,S g→S' g):VA w S' inj c v:=by
 cases h with
 | one h=>exact .one (h.sub hs)
 | tup h=>exact .tup (h.mono' fun _ _ h=>h.sub hs)
theorem F2.ren {α β γ:Type} {R:α→β→Prop} {R1:α→γ→Prop} {R2:β→γ→Prop} {l:List α} {m:List β} (h:F2 R l m) (hr:∀ a b c,R a b→R1 a c→R2 b c):∀ {n:List γ},F2 R1 l n→F2 R2 m n:=by
 induction h with
 | nil=>intro n hn; cases hn; exact .nil
 | cons hab _ ih =>
  intro n hn
  cases hn with
  | cons h1 h2=>exact .cons (hr _ _ _ hab h1) (ih h2)
def Ren (ρ:Nat→Option Nat) (inj inj':Nat→Loc):Prop:=∀ b i,ρ b=some i→inj' i=.dead∨inj' i=inj b
def RenC (ρ:Nat→Option Nat) (c c':C):Prop:=∀ {w S inj inj' v},Ren ρ inj inj'→VR w S inj c v→VR w S inj' c' v
def qAR (ρ:Nat→Option Nat) (c c':A):Prop:=∀ {w S inj inj' v},Ren ρ inj inj'→VA1 w S inj c v→VA1 w S inj' c' v
def RenA (ρ:Nat→Option Nat) (c c':A):Prop:=∀ {w S inj inj' v},Ren ρ inj inj'→VA w S inj c v→VA w S inj' c' v
theorem qxB {ρ:Nat→Option Nat} (l:List Nat):∀ {k:Option (List Nat)→Prop},
  (@List.rec Nat (fun _=>(Option (List Nat)→Prop)→Prop) (fun k=>k (some [])) (fun b _ ih k=>match ρ b with
   | some b=>natF b fun b=>ih fun o=>match o with | some l=>k (some (b::l)) | none=>k none
   | none=>k none) l) k→∃ o,k o∧∀ l',o=some l'→F2 (fun b i=>ρ b=some i) l l':=by
 induction l with
 | nil=>intro k h; exact ⟨_,h,fun l' e=>by cases e; exact .nil⟩
 | cons b l ih =>
  intro k h
  cases hb:ρ b with
  | none =>
   simp only [hb] at h
   exact ⟨none,h,fun l' e=>by cases e⟩
  | some i =>
   simp only [hb] at h
   rw [qfr] at h
   obtain ⟨o,h,ho⟩:=ih h
   cases o with
   | none=>exact ⟨none,h,fun l' e=>by cases e⟩
   | some l'=>exact ⟨_,h,fun l'' e=>by cases e; exact .cons hb (ho l' rfl)⟩
theorem qkw {ρ:Nat→Option Nat} {c:C} {k:C→Prop} (h:renC ρ c k):∃ c',k c'∧RenC ρ c c':=by
 unfold renC at h
 cases c with
 | p c=>exact ⟨_,h,fun _ hv=>by cases hv with | p h=>exact .p h⟩
 | rp cs=>exact ⟨_,h,fun _ hv=>by cases hv with | rp vals h1 h2 h3=>exact .rp vals h1 h2 h3⟩
 | pf f l=>exact ⟨_,h,fun _ hv=>by cases hv with | pf h1=>exact .pf h1⟩
 | cp r=>exact ⟨_,h,fun _ hv=>by cases hv with | cp h1=>exact .cp h1⟩
 | junk=>exact ⟨_,h,fun _ hv=>.junk hv.oneCell⟩
 | own b =>
  cases hb:ρ b with
  | none=>simp only [hb] at h; exact ⟨_,h,fun _ hv=>.junk hv.oneCell⟩
  | some i =>
   simp only [hb,qfr] at h
   refine ⟨_,h,fun hr hv=>?_⟩
   cases hv with
   | own hv =>
    refine .own ?_
    rcases hr b i hb with e | e
    ·exact .inl e
    ·rw [e]; exact hv
 | ptr b o =>
  cases hb:ρ b with
  | none=>simp only [hb] at h; exact ⟨_,h,fun _ hv=>.junk hv.oneCell⟩
  | some i =>
   simp only [hb,qfr] at h
   refine ⟨_,h,fun hr hv=>?_⟩
   cases hv with
   | ptr hv =>
    refine .ptr ?_
    rcases hr b i hb with e | e
    ·exact .inl e
    ·rw [e]; exact hv
 | ep b k j o =>
  cases hb:ρ b with
  | none=>simp only [hb] at h; exact ⟨_,h,fun _ hv=>.junk hv.oneCell⟩
  | some i =>
   simp only [hb,qfr] at h
   refine ⟨_,h,fun hr hv=>?_⟩
   cases hv with
   | ep hv =>
    refine .ep ?_
    rcases hr b i hb with e | e
    ·exact .inl e
    ·rw [e]; exact hv
 | mp b =>
  cases hb:ρ b with
  | none=>simp only [hb] at h; exact ⟨_,h,fun _ hv=>.junk hv.oneCell⟩
  | some i =>
   simp only [hb,qfr] at h
   refine ⟨_,h,fun hr hv=>?_⟩
   cases hv with
   | mp hv =>
    refine .mp ?_
    rcases hr b i hb with e | e
    ·exact .inl e
    ·rw [e]; exact hv
 | fn f l =>
  obtain ⟨o,h,ho⟩:=qxB l h
  cases o with
  | none=>exact ⟨_,h,fun _ hv=>.junk hv.oneCell⟩
  | some l' =>
   refine ⟨_,h,fun {w S inj inj' v} hr hv=>?_⟩
   have hl:=ho l' rfl
   cases hv with
   | fn hv =>
    refine .fn (hl.ren (fun b i v hb hv=>?_) hv)
    obtain ⟨a,e,hv⟩:=hv
    refine ⟨a,e,?_⟩
    rcases hr b i hb with e | e
    ·exact .inl e
    ·rw [e]; exact hv
theorem qkx {ρ:Nat→Option Nat} {a:A} {k:A→Prop} (h:qxe ρ a k):∃ a',k a'∧qAR ρ a a':=by
 unfold qxe at h
 cases a with
 | one c =>
  by_cases hc:c=.junk
  ·subst hc
   exact ⟨_,h,fun _ _=>.junk⟩
  ·obtain ⟨c',h,hr⟩:=qkw h
   refine ⟨_,h,fun hR hv=>?_⟩
   cases hv with
   | one hv=>exact .one (hr hR hv)
   | junk=>exact absurd rfl hc
 | agg l =>
  obtain ⟨l',h,hr⟩:=qfv (fun a _ k h=>qkw h) h
  refine ⟨_,h,fun {w S inj inj' v} hR hv=>?_⟩
  cases hv with
  | agg hv=>exact .agg (hr.ren (R1:=VR w S inj) (R2:=VR w S inj') (fun a b c h1 h2=>h1 hR h2) hv)
 | tup l=>exact ⟨_,h,fun _ hv=>.junk⟩
theorem qrH {ρ:Nat→Option Nat} {a:A} {k:A→Prop} (h:renA ρ a k):∃ a',k a'∧RenA ρ a a':=by
 unfold renA at h
 cases a with
 | one c =>
  obtain ⟨a',h,hr⟩:=qkx (a:=.one c) h
  exact ⟨_,h,fun hR hv=>by cases hv with | one hv=>exact .one (hr hR hv)⟩
 | agg l =>
  obtain ⟨a',h,hr⟩:=qkx (a:=.agg l) h
  exact ⟨_,h,fun hR hv=>by cases hv with | one hv=>exact .one (hr hR hv)⟩
 | tup l =>
  obtain ⟨l',h,hr⟩:=qfv (fun a _ k h=>qkx h) h
  refine ⟨_,h,fun {w S inj inj' v} hR hv=>?_⟩
  cases hv with
  | one hv=>cases hv
  | tup hv=>exact .tup (hr.ren (R1:=VA1 w S inj) (R2:=VA1 w S inj') (fun a b c h1 h2=>h1 hR h2) hv)
def RenB (ρ:Nat→Option Nat) (B B':Blk):Prop:=∀ {w S inj inj' loc},Ren ρ inj inj'→BR w S inj loc B→BR w S inj' loc B'
theorem qky {ρ:Nat→Option Nat} {B:Blk} {k:Blk→Prop} (h:renB ρ B k):∃ B',k B'∧(B=.dead→B'=.dead)∧RenB ρ B B':=by
 unfold renB at h
 cases B with
 | dead=>exact ⟨_,h,fun _=>rfl,fun _ hb=>hb⟩
 | rows n l=>exact ⟨_,h,fun e=>(by cases e),fun _ hb=>hb⟩
 | box l =>
  obtain ⟨l',h,hr⟩:=qfv (fun a _ k h=>qkw h) h
  refine ⟨_,h,fun e=>(by cases e),fun {w S inj inj' loc} hR hb=>?_⟩
  obtain ⟨g,vs,e,h1,h2,h3,h4⟩:=hb
  exact ⟨g,vs,e,h1,h2,h3,hr.ren (R1:=VR w S inj) (R2:=VR w S inj') (fun a b c h1 h2=>h1 hR h2) h4⟩
 | nest n o n' l=>exact ⟨_,h,fun e=>(by cases e),fun _ hb=>hb⟩
 | hole n o n' i l=>exact ⟨_,h,fun e=>(by cases e),fun _ hb=>hb⟩
 | mp a b es=>exact ⟨_,h,fun e=>(by cases e),fun _ hb=>hb⟩
end Go.Proofs.YtidkmoohgadjkaaGreat.E
namespace Go.Proofs.YtidkmoohgadjkaaGreat.E
open Go
variable {P:Program} {T:List TI} {t:List A} {σ:List Blk} {nx:Nat} {L:List Nat}
theorem qxC (l:List Nat):∀ {K:List (List PC)→List Nat→Prop},qxg σ l K→∃ ps bs,K ps bs∧(∀ b,b∈bs→look σ b≠.dead) ∧
  ∀ {w S inj f vs},Inv w S inj f→(∀ b,b∈bs→f b=look σ b)→F2 (fun b v=>∃ a,v=.pointer a∧(inj b=.dead∨∃ g,inj b=.box g∧a=some ⟨g,0,none⟩)) l vs→F2 (RpOk w (SB S inj bs)) ps vs:=by
 induction l with
 | nil=>intro K h; exact ⟨[],[],h,by simp,fun _ _ hv=>by cases hv; exact .nil⟩
 | cons b l ih =>
  intro K h
  change (match look σ b with
   | .box cs=>toPs σ cs fun ps bs=>qxg σ l fun l bs'=>K (ps::l) (b::appR bs bs')
   | _=>False) at h
  split at h
  ·rename_i cs hb
   obtain ⟨ps,bs,h,hpl,hnd,hok⟩:=qkr _ h
   obtain ⟨ps',bs',h,hnd',hok'⟩:=ih h
   rw [qa9] at h
   refine ⟨_,_,h,fun b' hb'=>?_,fun {w S inj f vs} hi hf hv=>?_⟩
   ·rcases List.mem_cons.1 hb' with rfl | hb'
    ·rw [hb]; simp
    ·exact (List.mem_append.1 hb').elim (hnd b') (hnd' b')
   ·cases hv with
    | cons hv hvs =>
     obtain ⟨a,rfl,hin⟩:=hv
     have hfb:f b=.box cs:=(hf b (by simp)).trans hb
     obtain ⟨g,us,e,hg,hng,hh,hus⟩:=hi.box hfb
     have hin:=hin.resolve_left (by rw [hg]; simp)
     obtain ⟨g',hg',rfl⟩:=hin
     have:g'=g:=by rw [hg] at hg'; injection hg' with hg'; exact hg'.symm
     subst this
     have hps:=hok hi (fun b' hb'=>hf b' (by simp [hb'])) hus
     refine .cons ⟨g',fun j=>us.getD j .nilFunc,rfl,.inr ⟨b,by simp,by rw [hg]; rfl⟩,fun j hj=>?_,fun j c hc=>?_⟩ ((hok' hi (fun b' hb'=>hf b' (by simp [hb'])) hvs).mono' fun _ _ ⟨g,vals,e,h1,h2,h3⟩ =>
      have hsub:∀ g,SB S inj bs' g→SB S inj (b::(bs++bs')) g:=fun g h=>h.imp id fun ⟨b',hb',e⟩=>⟨b',by simp [hb'],e⟩
      ⟨g,vals,e,hsub _ h1,h2,fun j c hj=>(h3 j c hj).sub hsub⟩)
     ·have hj':j < us.length:=by rw [←hps.len]; exact hj
      unfold World.cell?
      simp only [hh,Option.isSome_none,Bool.false_eq_true,if_false]
      rw [Nat.zero_add,List.getElem?_toArray,List.getElem?_eq_getElem hj',List.getD_eq_getElem?_getD,List.getElem?_eq_getElem hj']
      rfl
     ·obtain ⟨v,h1,h2⟩:=hps.get hc
      show PR _ _ c (us.getD j .nilFunc)
      rw [List.getD_eq_getElem?_getD,h1]
      exact h2.sub fun g h=>h.imp id fun ⟨b',hb',e⟩=>⟨b',by simp [hb'],e⟩
  ·exact h.elim
theorem qrI {md:Md} {c:C} {K:C→List Nat→Prop} (h:argC md σ L c K):∃ c' bs,K c' bs∧(∀ b,b∈bs→look σ b≠.dead) ∧
  ∀ {w S inj inj' f v},Inv w S inj f→(∀ b,b∈bs→f b=look σ b)→Ren (fwd L) inj inj'→VR w S inj c v→VR w (SB S inj bs) inj' c' v:=by
 have gen:renC (fwd L) c (fun c=>K c [])→∃ c' bs,K c' bs∧(∀ b,b∈bs→look σ b≠.dead) ∧
   ∀ {w S inj inj' f v},Inv w S inj f→(∀ b,b∈bs→f b=look σ b)→Ren (fwd L) inj inj'→VR w S inj c v→VR w (SB S inj bs) inj' c' v:=fun h=>by
  obtain ⟨c',h,hr⟩:=qkw h
  exact ⟨_,_,h,by simp,fun hi hf hR hv=>(hr hR hv).sub fun _ h=>.inl h⟩
 unfold argC at h
 cases c with
 | own b =>
  cases md with
  | mv=>exact gen h
  | _ =>
   obtain ⟨p,bs,h,hnd,hok⟩:=qlE h
   exact ⟨_,_,h,hnd,fun hi hf _ hv=>.p (hok hi hf hv)⟩
 | fn f l =>
  cases md with
  | ld =>
   obtain ⟨ps,bs,h,hnd,hok⟩:=qxC _ h
   exact ⟨_,_,h,hnd,fun hi hf _ hv=>by cases hv with | fn hv=>exact .pf (hok hi hf hv)⟩
  | _=>exact gen h
 | _=>exact gen h
theorem quT {md:Md} (cs:List C):∀ {K:List C→List Nat→Prop},qxh md σ L cs K→∃ cs' bs,K cs' bs∧(∀ b,b∈bs→look σ b≠.dead) ∧
  ∀ {w S inj inj' f vs},Inv w S inj f→(∀ b,b∈bs→f b=look σ b)→Ren (fwd L) inj inj'→F2 (VR w S inj) cs vs→F2 (VR w (SB S inj bs) inj') cs' vs:=by
 induction cs with
 | nil=>intro K h; exact ⟨[],[],h,by simp,fun _ _ _ hv=>by cases hv; exact .nil⟩
 | cons c cs ih =>
  intro K h
  change argC md σ L c (fun c bs=>qxh md σ L cs fun cs bs'=>K (c::cs) (appR bs bs')) at h
  obtain ⟨c',bs,h,hnd,hok⟩:=qrI h
  obtain ⟨cs',bs',h,hnd',hok'⟩:=ih h
  rw [qa9] at h
  refine ⟨_,_,h,fun b hb=>(List.mem_append.1 hb).elim (hnd b) (hnd' b),fun {w S inj inj' f vs} hi hf hR hv=>?_⟩
  cases hv with
  | cons hv hvs =>
   exact .cons ((hok hi (fun b hb=>hf b (by simp [hb])) hR hv).sub fun _=>qis) ((hok' hi (fun b hb=>hf b (by simp [hb])) hR hvs).mono' fun _ _ h=>h.sub fun _=>qgH)
theorem qxD {md:Md} {a:A} {K:A→List Nat→Prop} (h:argA md σ L a K):∃ a' bs,K a' bs∧(∀ b,b∈bs→look σ b≠.dead) ∧
  ∀ {w S inj inj' f v},Inv w S inj f→(∀ b,b∈bs→f b=look σ b)→Ren (fwd L) inj inj'→VA w S inj a v→VA w (SB S inj bs) inj' a' v:=by
 unfold argA at h
 cases a with
 | one c =>
  by_cases hc:c=.junk
  ·subst hc
   exact ⟨_,_,h,by simp,fun _ _ _ _=>.one .junk⟩
  ·obtain ⟨c',bs,h,hnd,hok⟩:=qrI h
   exact ⟨_,_,h,hnd,fun hi hf hR hv=>.ofc (hok hi hf hR (hv.cellv hc))⟩
 | agg cs =>
  obtain ⟨cs',bs,h,hnd,hok⟩:=quT cs h
  refine ⟨_,_,h,hnd,fun hi hf hR hv=>?_⟩
  cases hv with
  | one hv=>cases hv with | agg hv=>exact .one (.agg (hok hi hf hR hv))
 | tup l=>exact h.elim
theorem quU {md:Md} (xs:List A):∀ {K:List A→List Nat→Prop},qxi md σ L xs K→∃ ys bs,K ys bs∧(∀ b,b∈bs→look σ b≠.dead) ∧
  ∀ {w S inj inj' f vs},Inv w S inj f→(∀ b,b∈bs→f b=look σ b)→Ren (fwd L) inj inj'→F2 (VA w S inj) xs vs→F2 (VA w (SB S inj bs) inj') ys vs:=by
 induction xs with
 | nil=>intro K h; exact ⟨[],[],h,by simp,fun _ _ _ hv=>by cases hv; exact .nil⟩
 | cons c cs ih =>
  intro K h
  change argA md σ L c (fun c bs=>qxi md σ L cs fun cs bs'=>K (c::cs) (appR bs bs')) at h
  obtain ⟨c',bs,h,hnd,hok⟩:=qxD h
  obtain ⟨cs',bs',h,hnd',hok'⟩:=ih h
  rw [qa9] at h
  refine ⟨_,_,h,fun b hb=>(List.mem_append.1 hb).elim (hnd b) (hnd' b),fun {w S inj inj' f vs} hi hf hR hv=>?_⟩
  cases hv with
  | cons hv hvs =>
   exact .cons ((hok hi (fun b hb=>hf b (by simp [hb])) hR hv).sub fun _=>qis) ((hok' hi (fun b hb=>hf b (by simp [hb])) hR hvs).mono' fun _ _ h=>h.sub fun _=>qgH)
theorem qrJ (l:List Nat) (b:Nat):∀ n,idxN l b n=none→b ∉ l:=by
 induction l with
 | nil=>intro n h; simp
 | cons a l ih =>
  intro n h
  change @Bool.rec (fun _=>Option Nat) (idxN l b (n + 1)) (some n) (Nat.beq a b)=none at h
  cases hb:Nat.beq a b with
  | true=>rw [hb] at h; cases h
  | false =>
   rw [hb] at h
   have h1:=ih _ h
   have h2:=Nat.ne_of_beq_eq_false hb
   simp [h1,Ne.symm h2]
theorem qkz {l:List Nat} {b:Nat} (h:fwd l b=none):b ∉ l:=qrJ l b 0 h
theorem qlP {l:List Nat} {b i:Nat} (hl:l.Nodup) (h:l[i]?=some b):fwd l b=some i:=by
 cases hf:fwd l b with
 | none=>exact absurd (List.mem_of_getElem? h) (qkz hf)
 | some j =>
  have hj:=qdS hf
  have hlt:j < l.length:=(List.getElem?_eq_some_iff.1 hj).1
  rw [(List.getElem?_inj hlt hl).1 (hj.trans h.symm)]
theorem quV (L:List Nat) (b:Nat):∀ (n:Nat) (out:List Blk),L.length≤out.length→(zipR L out).find? (fun x=>x.1 == b)=(idxN L b n).map fun i=>(b,out.getD (i - n) .dead):=by
 induction L with
 | nil=>intro n out h; rfl
 | cons a L ih =>
  intro n out h
  cases out with
  | nil=>simp at h
  | cons o out =>
   change ((a,o)::zipR L out).find? _=(@Bool.rec (fun _=>Option Nat) (idxN L b (n + 1)) (some n) (Nat.beq a b)).map _
   cases hb:Nat.beq a b with
   | true =>
    have:=Nat.eq_of_beq_eq_true hb
    subst this
    simp [List.find?_cons]
   | false =>
    have h2:=Nat.ne_of_beq_eq_false hb
    rw [List.find?_cons,show ((a,o).1 == b)=false from by simpa using h2]
    simp only
    rw [ih (n + 1) out (by simpa using h)]
    cases hi:idxN L b (n + 1) with
    | none=>rfl
    | some i =>
     obtain ⟨j,hj,_⟩:=qlC _ _ _ _ hi
     simp only [Option.map_some]
     rw [show i - n=(i - (n + 1)) + 1 from by omega]
     simp
theorem qfR (n:Nat):upTo n=List.range n:=by
 induction n with
 | zero=>rfl
 | succ n ih =>
  change appR (upTo n) [n]=_
  rw [qa9,ih,List.range_succ]
theorem qoH {fuel:Nat}:∀ {todo acc:List Nat} {k:List Nat→Prop},acc.Nodup→qrb σ fuel todo acc k→∃ r,k (acc++r)∧(acc++r).Nodup:=by
 induction fuel with
 | zero=>intro todo acc k ha h; exact ⟨[],by rw [List.append_nil]; exact h,by rw [List.append_nil]; exact ha⟩
 | succ n ih =>
  intro todo acc k ha h
  cases todo with
  | nil=>exact ⟨[],by rw [List.append_nil]; exact h,by rw [List.append_nil]; exact ha⟩
  | cons b todo =>
   change @Bool.rec (fun _=>Prop) (natF b fun b=>appF acc [b] fun acc=>qrb σ n (appR (qxf (look σ b)) todo) acc k) (qrb σ n todo acc k) (memN b acc) at h
   cases hm:memN b acc with
   | true=>rw [hm] at h; exact ih ha h
   | false =>
    rw [hm] at h
    simp only [qfr,qkn] at h
    have hnb:b ∉ acc:=fun hb=>by rw [(qfq b acc).2 hb] at hm; cases hm
    obtain ⟨r,h,hr⟩:=ih (by simpa [List.nodup_append] using ⟨ha,fun a h e=>hnb (e ▸ h)⟩) h
    exact ⟨b::r,by simpa using h,by simpa using hr⟩
end Go.Proofs.YtidkmoohgadjkaaGreat.E
namespace Go.Proofs.YtidkmoohgadjkaaGreat.E
open Go
variable {P:Program} {T:List TI} {t:List A} {σ:List Blk} {nx:Nat} {L:List Nat}
structure Done (w:World) (S:Zone) (inj:Nat→Loc) (n:Nat) (r:A) (σ':List Blk) (v:Value) (w':World) (S':Zone) (inj':Nat→Loc):Prop where
 grow:Grow w S w' S'
 le:Le inj inj'
 fresh:∀ b,inj b=.free→(b < n∨σ'.length≤b)→inj' b=.free
 val:VA w' S' inj' r v
 inv:Inv w' S' inj' (look σ')
def qcS (P:Program) (f:Nat) (xs:List A) (σ:List Blk) (r:A) (σ':List Blk):Prop :=
 (∃ fn c, P.funcs[f]? = some fn ∧ fn.body = some c ∧ (fn.name == "runtime.NumGoroutine") = false) ∧ ∀ (w : World) (S : Zone) (inj : Nat → Loc) (vs : List Value), F2 (VA w S inj) xs vs → Inv w S inj (look σ) → (∀ b, σ.length ≤ b → inj b = .free) →
  Calls P f vs.toArray w fun e w'=>∃ v S' inj',e=.returned v∧Done w S inj σ.length r σ' v w' S' inj'
noncomputable def qdJ (inj:Nat→Loc) (bs L:List Nat) (i:Nat):Loc:=match L[i]? with
 | some b=>kill inj bs b
 | none=>.free
noncomputable def qnv (inj inj':Nat→Loc) (bs M:List Nat) (b:Nat):Loc:=match fwd M b with
 | some i=>inj' i
 | none=>kill inj bs b
def qhF (S:Zone) (inj:Nat→Loc) (f:Nat→Blk) (bs L:List Nat):Zone :=
 ⟨(SB S inj bs).s,fun g=>S.fr g∨∃ b,f b≠.dead∧b ∉ L∧b ∉ bs∧(inj b).blk g⟩
theorem RowOk.zone {w S S' k l v g} (hr:RowOk w S k l v g) (hs:∀ g,S g→S' g) (hn:∀ x,g=some x→¬ S'.all x):RowOk w S' k l v g:=by
 rcases hr with hr | ⟨g'',cap,cur,e,hk,rfl,hv,_,hh,h1,h2,h3,h4,h5⟩
 ·exact .inl hr
 ·exact .inr ⟨g'',cap,cur,e,hk,rfl,hv,hn _ rfl,hh,h1,h2,h3,h4,h5.mono' fun _ _ hp=>hp.sub hs⟩
theorem Nest.zone {w S S' k o k' skip l v g fp cap cur e ins} (h:Nest w S k o k' skip l v g fp cap cur e ins) (hs:∀ g,S g→S' g) (hn:∀ x,(g=x∨fp x)→¬ S'.all x):Nest w S' k o k' skip l v g fp cap cur e ins :=
 { h with
  own:=hn g (.inl rfl)
  at_:=fun i r hr j c hc=>by
   obtain ⟨u,h1,h2,h3,h4⟩:=h.at_ i r hr j c hc
   refine ⟨u,h1,h2,fun hj=>(h3 hj).sub hs,fun hj hsk=>?_⟩
   obtain ⟨m,hm,hro⟩:=h4 hj hsk
   exact ⟨m,hm,hro.zone hs fun x hx=>hn x (.inr ((h.fpi x).2 ⟨i,(List.getElem?_eq_some_iff.1 hr).1,hsk,hx⟩))⟩ }
theorem BR.zone {w S S' inj loc B} (h:BR w S inj loc B) (hs:∀ g,S g→S' g) (hn:B≠.dead→∀ g,loc.blk g→¬ S'.all g):BR w S' inj loc B:=by
 cases B with
 | dead=>trivial
 | box cs =>
  obtain ⟨g',vs,e,rfl,_,hh,hf⟩:=h
  exact ⟨g',vs,e,rfl,hn (by simp) _ rfl,hh,hf.mono' fun _ _ hv=>hv.sub hs⟩
 | rows k l =>
  obtain ⟨v,g',rfl,hr⟩:=h
  exact ⟨v,g',rfl,hr.zone hs fun x hx=>hn (by simp) x hx⟩
 | nest k o k' l =>
  obtain ⟨v,g',fp,rfl,cap,cur,e,ins,hN⟩:=h
  exact ⟨v,g',fp,rfl,cap,cur,e,ins,hN.zone hs fun x hx=>hn (by simp) x hx⟩
 | hole k o k' i l =>
  obtain ⟨v,g',fp,rfl,cap,cur,e,ins,hN⟩:=h
  exact ⟨v,g',fp,rfl,cap,cur,e,ins,hN.zone hs fun x hx=>hn (by simp) x hx⟩
 | mp a b es =>
  obtain ⟨g',en,cl,rfl,_,hh,hst,hf⟩:=h
  exact ⟨g',en,cl,rfl,hn (by simp) _ rfl,hh,hst,hf.mono' fun _ _ ⟨hk,us,hu,hv⟩=>⟨hk,us,hu.mono' fun _ _ hp=>hp.sub hs,hv⟩⟩
theorem RenB.zone {ρ B B'} (h:RenB ρ B B'):RenB ρ B B':=h
theorem qoI {w S inj} {f:Nat→Blk} {bs:List Nat} {σc:List Blk} (hi:Inv w S inj f) (hd:∀ b,b∈bs→f b≠.dead) (hL:L.Nodup)
  (hσ:F2 (fun b B'=>(b∈bs→B'=.dead)∧(b ∉ bs→(f b=.dead→B'=.dead)∧RenB (fwd L) (f b) B')) L σc) :
  Inv w (qhF S inj f bs L) (qdJ inj bs L) (look σc):=by
 have hk:=hi.kill hd
 have hz:∀ g,(SB S inj bs) g→(qhF S inj f bs L) g:=fun g h=>h
 have hget:∀ i,look σc i≠.dead→∃ b,L[i]?=some b∧b ∉ bs∧f b≠.dead∧RenB (fwd L) (f b) (look σc i)∧qdJ inj bs L i=inj b:=fun i h=>by
  rw [qai] at h ⊢
  cases hs:σc[i]? with
  | none=>rw [List.getD_eq_getElem?_getD,hs] at h; exact absurd rfl h
  | some B =>
   obtain ⟨b,hb,h1,h2⟩:=hσ.getR hs
   have hB:σc.getD i .dead=B:=by rw [List.getD_eq_getElem?_getD,hs]; rfl
   rw [hB] at h ⊢
   have hbs:b ∉ bs:=fun hm=>h (h1 hm)
   refine ⟨b,hb,hbs,fun hf=>h ((h2 hbs).1 hf),(h2 hbs).2,?_⟩
   unfold qdJ; rw [hb]; exact qaj hbs
 have hR:Ren (fwd L) inj (qdJ inj bs L):=fun b i hbi=>by
  have:=qdS hbi
  unfold qdJ; rw [this]
  simp only
  by_cases hm:b∈bs
  ·left; unfold kill; rw [if_pos hm]
  ·right; exact qaj hm
 refine ⟨fun i=>?_,fun i i' g h1 h2 h3 h4=>?_,fun g hg=>?_,fun g hf hs=>?_⟩
 ·by_cases h:look σc i=.dead
  ·rw [h]; trivial
  ·obtain ⟨b,hb,hbs,hfb,hren,hin⟩:=hget i h
   rw [hin]
   refine hren hR ((hi.live b).zone (fun g h=>hz g (.inl h)) fun _ g hg hs=>?_)
   rcases hs with hs | hs | ⟨b',h1,h2,h3,h4⟩
   ·have:=((hk.live b).blk (by rw [qb1 hbs]; exact hfb) (by rw [qaj hbs]; exact hg)).1
    exact this (.inl hs)
   ·exact ((hi.live b).blk hfb hg).1 (.inr hs)
   ·have:=hi.sep b b' g hfb h1 hg h4
    subst this
    exact h2 (List.mem_of_getElem? hb)
 ·obtain ⟨b,hb,hbs,hfb,_,hin⟩:=hget i h1
  obtain ⟨b',hb',hbs',hfb',_,hin'⟩:=hget i' h2
  rw [hin] at h3; rw [hin'] at h4
  have:=hi.sep b b' g hfb hfb' h3 h4
  subst this
  exact (List.getElem?_inj (List.getElem?_eq_some_iff.1 hb).1 hL).1 (hb.trans hb'.symm)
 ·rcases hg with hg | hg | ⟨b',h1,h2,h3,h4⟩
  ·exact hk.lt g (.inl hg)
  ·exact hi.lt g (.inr hg)
  ·exact ((hi.live b').blk h1 h4).2
 ·rcases hf with hf | ⟨b',h1,h2,h3,h4⟩
  ·exact hk.dj g hf hs
  ·exact ((hk.live b').blk (by rw [qb1 h3]; exact h1) (by rw [qaj h3]; exact h4)).1 (.inl hs)
end Go.Proofs.YtidkmoohgadjkaaGreat.E
namespace Go.Proofs.YtidkmoohgadjkaaGreat.E
open Go
variable {P:Program} {T:List TI} {t:List A} {σ:List Blk} {nx:Nat} {L:List Nat}
theorem qxE (nx n i:Nat) (h:i < n):(qb3 nx n)[i]?=some (nx + i):=by
 unfold qb3; rw [qay,qfR]; simp [h]
theorem qxF (nx n:Nat):(qb3 nx n).length=n:=by unfold qb3; rw [qay,qfR]; simp
theorem qkA {nx n b:Nat}:b∈qb3 nx n↔nx≤b∧b < nx + n:=by
 unfold qb3; rw [qay,qfR]; simp
 constructor
 ·rintro ⟨a,h,rfl⟩; omega
 ·intro h; exact ⟨b - nx,by omega,by omega⟩
theorem qrK (nx n:Nat):(qb3 nx n).Nodup:=by
 unfold qb3; rw [qay,qfR]
 exact List.pairwise_map.2 (List.Pairwise.imp (fun h e=>h (by omega)) List.nodup_range)
theorem qxG {w S inj} {f : Nat → Blk} {bs : List Nat} {σc' out : List Blk} {r r' : A} {v : Value} {w' : World} {S' : Zone} {inj' : Nat → Loc} {d : Nat}
    (hi : Inv w S inj f) (hd : ∀ b, b ∈ bs → f b ≠ .dead) (hL : L.Nodup) (hLn : ∀ b, b ∈ L → b < nx) (hbn : ∀ b, b ∈ bs → b < nx) (hlen : σc'.length = L.length + d)
    (hD : Done w (qhF S inj f bs L) (qdJ inj bs L) L.length r σc' v w' S' inj') (hr : RenA (bwd (L ++ qb3 nx d)) r r')
    (hout : F2 (fun B B' => (B = .dead → B' = .dead) ∧ RenB (bwd (L ++ qb3 nx d)) B B') σc' out)
    (hfr : ∀ i, i < d → inj (nx + i) = .free ∧ f (nx + i) = .dead) :
    Post w S inj f nx r' (zipR L (out.take L.length) ++ bs.map fun b => (b, .dead)) (out.drop L.length) v w' ⟨S'.s, S.fr⟩ (qnv inj inj' bs (L ++ qb3 nx d)) := by
  have hk := hi.kill hd
  generalize hM : L ++ qb3 nx d = M at *
  have hol : out.length = L.length + d := by rw [← hout.len, hlen]
  have hMN : M.Nodup := by
    subst hM
    refine List.nodup_append.2 ⟨hL, qrK _ _, fun a ha b hb e => ?_⟩
    subst e
    have := hLn a ha
    have := (qkA.1 hb).1
    omega
  have hMl : M.length = L.length + d := by subst hM; simp [qxF]
  have hMlt : ∀ i, i < L.length → M[i]? = L[i]? := fun i h => by subst hM; rw [List.getElem?_append_left h]
  have hMge : ∀ i, i < d → M[L.length + i]? = some (nx + i) := fun i h => by
    subst hM; rw [List.getElem?_append_right (by omega), show L.length + i - L.length = i from by omega, qxE _ _ _ h]
  have hMmem : ∀ b, b ∈ M ↔ b ∈ L ∨ (nx ≤ b ∧ b < nx + d) := fun b => by subst hM; rw [List.mem_append, qkA]
  have hU : ∀ b, upd f nx (zipR L (out.take L.length) ++ bs.map fun b => (b, .dead)) (out.drop L.length) b = match fwd M b with | some i => out.getD i .dead | none => qjt f bs b := fun b => by
    have hdl : (out.drop L.length).length = d := by simp [hol]
    unfold upd
    rw [hdl]
    by_cases hnew : nx ≤ b ∧ b < nx + d
    · rw [if_pos hnew]
      have : fwd M b = some (L.length + (b - nx)) := qlP hMN (by rw [hMge _ (by omega)]; congr 1; omega)
      rw [this]
      simp only [List.getD_eq_getElem?_getD, List.getElem?_drop]
    · rw [if_neg hnew, List.find?_append, quV L b 0 _ (by simp [hol])]
      change (match ((fwd L b).map (fun i => (b, (out.take L.length).getD (i - 0) .dead))).or (List.find? (fun x : Nat × Blk => x.1 == b) (bs.map fun b => (b, Blk.dead))) with | some x => x.2 | none => f b) = _
      cases hf : fwd L b with
      | some i =>
        have h1 := qdS hf
        have hil := (List.getElem?_eq_some_iff.1 h1).1
        have : fwd M b = some i := qlP hMN (by rw [hMlt i hil, h1])
        rw [this]
        simp only [Option.map_some, Option.some_or, Nat.sub_zero, List.getD_eq_getElem?_getD, List.getElem?_take, if_pos hil]
      | none =>
        have h1 := qkz hf
        have : fwd M b = none := by
          cases h2 : fwd M b with
          | none => rfl
          | some i =>
            have := List.mem_of_getElem? (qdS h2)
            rcases (hMmem b).1 this with h | h
            · exact absurd h h1
            · exact absurd h hnew
        rw [this]
        simp only [Option.map_none, Option.none_or]
        have := congrFun (qoC f nx bs) b
        unfold upd at this
        rw [if_neg (by simp)] at this
        exact this
  have hi' : ∀ b i, fwd M b = some i → qnv inj inj' bs M b = inj' i := fun b i h => by unfold qnv; rw [h]
  have hn' : ∀ b, fwd M b = none → qnv inj inj' bs M b = kill inj bs b := fun b h => by unfold qnv; rw [h]
  have hfrz : ∀ b, fwd M b = none → b ∉ L := fun b h hb => qkz h ((hMmem b).2 (.inl hb))
  have hfrl : ∀ b g, fwd M b = none → b ∉ bs → f b ≠ .dead → (inj b).blk g → (qhF S inj f bs L).fr g := fun b g h1 h2 h3 h4 => .inr ⟨b, h3, hfrz b h1, h2, h4⟩
  have hG : Grow w S w' ⟨S'.s, S.fr⟩ := by
    refine ⟨hD.grow.os, hD.grow.tape, hD.grow.output, hD.grow.size, fun g hg => hD.grow.heap g ?_, fun g hg => hD.grow.sub g (.inl hg), rfl⟩
    rcases hg with hg | hg
    · exact .inl (.inl hg)
    · exact .inr (.inl hg)
  have hR : Ren (bwd M) inj' (qnv inj inj' bs M) := fun i b h => by
    right; exact hi' b i (qlP hMN (qox h))
  have hle : Le inj (qnv inj inj' bs M) := fun b => by
    cases hf : fwd M b with
    | none =>
      rw [hn' b hf]; exact qiu _ _ b
    | some i =>
      rw [hi' b i hf]
      rcases (hMmem b).1 (List.mem_of_getElem? (qdS hf)) with hb | hb
      · have h1 : L[i]? = some b := by
          obtain ⟨j, hj⟩ := List.mem_iff_getElem?.1 hb
          have hjl := (List.getElem?_eq_some_iff.1 hj).1
          have := qlP hMN (show M[j]? = some b by rw [hMlt j hjl, hj])
          rw [hf] at this; injection this with this; subst this; exact hj
        have h2 := hD.le i
        have h3 : qdJ inj bs L i = kill inj bs b := by unfold qdJ; rw [h1]
        rw [h3] at h2
        by_cases hbs : b ∈ bs
        · have : kill inj bs b = .dead := by unfold kill; rw [if_pos hbs]
          rw [this] at h2
          rcases h2 with h2 | h2 | h2
          · cases h2
          · exact .inr (.inr (h2.eq (by intro v g fp e; cases e)))
          · exact .inr (.inr h2)
        · rw [qaj hbs] at h2; exact h2
      · left
        have := (hfr (b - nx) (by omega)).1
        rwa [show nx + (b - nx) = b from by omega] at this
  refine ⟨hG, hle, fun b hb hbn' => ?_, ?_, ?_⟩
  · have hdl : (out.drop L.length).length = d := by simp [hol]
    rw [hdl] at hbn'
    cases hf : fwd M b with
    | none =>
      rw [hn' b hf]
      by_cases hbs : b ∈ bs
      · exfalso
        have h1 := hi.live b
        rw [hb] at h1
        exact hd b hbs h1.free
      · rw [qaj hbs]; exact hb
    | some i =>
      rw [hi' b i hf]
      rcases (hMmem b).1 (List.mem_of_getElem? (qdS hf)) with hbL | hbL
      · obtain ⟨j, hj⟩ := List.mem_iff_getElem?.1 hbL
        have hjl := (List.getElem?_eq_some_iff.1 hj).1
        have := qlP hMN (show M[j]? = some b by rw [hMlt j hjl, hj])
        rw [hf] at this; injection this with this; subst this
        refine hD.fresh i ?_ (.inl hjl)
        unfold qdJ; rw [hj]
        simp only
        have hbs : b ∉ bs := fun hbs => by
          have h1 := hi.live b
          rw [hb] at h1
          exact hd b hbs h1.free
        rw [qaj hbs]; exact hb
      · omega
  · exact (hr hR hD.val).sub fun g h => h
  · have hlive : ∀ b, upd f nx (zipR L (out.take L.length) ++ bs.map fun b => (b, .dead)) (out.drop L.length) b ≠ .dead →
        (∃ i, fwd M b = some i ∧ look σc' i ≠ .dead) ∨ (fwd M b = none ∧ b ∉ bs ∧ f b ≠ .dead) := fun b hb => by
      rw [hU b] at hb
      cases hf : fwd M b with
      | none =>
        rw [hf] at hb
        have hbs : b ∉ bs := fun h => hb (qaK h)
        simp only [qb1 hbs] at hb
        exact .inr ⟨rfl, hbs, hb⟩
      | some i =>
        rw [hf] at hb
        refine .inl ⟨i, rfl, fun hl => hb ?_⟩
        simp only
        cases ho : out[i]? with
        | none => rw [List.getD_eq_getElem?_getD, ho]; rfl
        | some B' =>
          obtain ⟨B, hB, h1, _⟩ := hout.getR ho
          rw [List.getD_eq_getElem?_getD, ho]
          refine h1 ?_
          rw [qai, List.getD_eq_getElem?_getD, hB] at hl
          exact hl
    refine ⟨fun b => ?_, fun b b' g h1 h2 h3 h4 => ?_, fun g hg => ?_, fun g hf hs => ?_⟩
    · rw [hU b]
      cases hf : fwd M b with
      | none =>
        simp only
        rw [hn' b hf]
        by_cases hbs : b ∈ bs
        · rw [qaK hbs]; trivial
        · rw [qb1 hbs, qaj hbs]
          by_cases hfb : f b = .dead
          · rw [hfb]; trivial
          · refine (hi.live b).grow hG hle (fun g hg => hD.grow.heap g (.inr (hfrl b g hf hbs hfb hg))) (fun g hg hs => ?_)
            rcases hs with hs | hs
            · have := hD.inv.dj g (by rw [hD.grow.fr]; exact hfrl b g hf hbs hfb hg)
              exact this hs
            · exact ((hi.live b).blk hfb hg).1 (.inr hs)
      | some i =>
        simp only
        rw [hi' b i hf]
        cases ho : out[i]? with
        | none => rw [List.getD_eq_getElem?_getD, ho]; trivial
        | some B' =>
          obtain ⟨B, hB, h1, hren⟩ := hout.getR ho
          rw [List.getD_eq_getElem?_getD, ho]
          simp only [Option.getD_some]
          have hlive := hD.inv.live i
          rw [qai, List.getD_eq_getElem?_getD, hB] at hlive
          simp only [Option.getD_some] at hlive
          refine hren hR (hlive.zone (fun g h => h) fun hnB g hg hs => ?_)
          have := (hlive.blk hnB hg).1
          rcases hs with hs | hs
          · exact this (.inl hs)
          · exact this (.inr (by rw [hD.grow.fr]; exact .inl hs))
    · rcases hlive b h1 with ⟨i, hbi, hli⟩ | ⟨hbn, hbs, hfb⟩ <;> rcases hlive b' h2 with ⟨i', hbi', hli'⟩ | ⟨hbn', hbs', hfb'⟩
      · rw [hi' b i hbi] at h3; rw [hi' b' i' hbi'] at h4
        have := hD.inv.sep i i' g hli hli' h3 h4
        subst this
        have e1 := qdS hbi
        have e2 := qdS hbi'
        rw [e1] at e2; injection e2
      · rw [hi' b i hbi] at h3; rw [hn' b' hbn', qaj hbs'] at h4
        exfalso
        exact ((hD.inv.live i).blk hli h3).1 (.inr (by rw [hD.grow.fr]; exact hfrl b' g hbn' hbs' hfb' h4))
      · rw [hi' b' i' hbi'] at h4; rw [hn' b hbn, qaj hbs] at h3
        exfalso
        exact ((hD.inv.live i').blk hli' h4).1 (.inr (by rw [hD.grow.fr]; exact hfrl b g hbn hbs hfb h3))
      · rw [hn' b hbn, qaj hbs] at h3; rw [hn' b' hbn', qaj hbs'] at h4
        exact hi.sep b b' g hfb hfb' h3 h4
    · rcases hg with hg | hg
      · exact hD.inv.lt g (.inl hg)
      · exact Nat.lt_of_lt_of_le (hi.lt g (.inr hg)) hD.grow.size
    · exact hD.inv.dj g (by rw [hD.grow.fr]; exact .inl hf) hs
end Go.Proofs.YtidkmoohgadjkaaGreat.E
namespace Go.Proofs.YtidkmoohgadjkaaGreat.E
open Go
variable {P:Program} {T:List TI} {t:List A} {σ:List Blk} {nx:Nat} {L:List Nat} {I:Task→Prop}
theorem qh9 {c:C} (h:qp5 c=true) {w S inj v} (hv:VR w S inj c v) {w' S' inj'}:VR w' S' inj' c v:=by
 unfold qp5 at h
 split at h
 ·cases hv with | p hp=>cases hp with | v hf=>exact .p (.v hf)
 ·cases h
theorem qrL {c:A} (h:qrc c=true) {w S inj v} (hv:VA1 w S inj c v) {w' S' inj'}:VA1 w' S' inj' c v:=by
 unfold qrc at h
 cases hv with
 | one hv=>exact .one (qh9 h hv)
 | agg hv =>
  simp only [qeh,List.all_eq_true] at h
  exact .agg (hv.mono fun c v hc h'=>qh9 (h c hc) h')
 | junk=>cases h
theorem quW {c:A} (h:quw c=true) {w S inj v} (hv:VA w S inj c v) {w' S' inj'}:VA w' S' inj' c v:=by
 unfold quw at h
 cases hv with
 | one hv=>cases hv with
  | one hv=>exact .one (.one (qh9 h hv))
  | agg hv =>
   simp only [qeh,List.all_eq_true] at h
   exact .one (.agg (hv.mono fun c v hc h'=>qh9 (h c hc) h'))
  | junk=>cases h
 | tup hv =>
  simp only [qeh,List.all_eq_true] at h
  exact .tup (hv.mono fun c v hc h'=>qrL (h c hc) h')
theorem qrM {w S inj} {f:Nat→Blk} {bs:List Nat} {r r':A} {v:Value} {w':World} {S':Zone} {inj':Nat→Loc}
  (hi:Inv w S inj f) (hd:∀ b,b∈bs→f b≠.dead) (hg:Grow w (qhF S inj f bs []) w' S') (hv:VA w' S' inj' r v) (hfl:quw r=true) (hr:RenA (bwd []) r r') :
  Post w S inj f nx r' [] [] v w' S inj:=by
 have hG:Grow w S w' S:=by
  refine ⟨hg.os,hg.tape,hg.output,hg.size,fun g h=>hg.heap g ?_,fun g h=>h,rfl⟩
  rcases h with h | h
  ·exact .inl (.inl h)
  ·exact .inr (.inl h)
 refine ⟨hG,.refl _,fun b hb _=>hb,hr (inj:=inj) (fun b i h=>by cases qox h) (quW hfl hv),?_⟩
 rw [qcT]
 refine ⟨fun b=>?_,hi.sep,fun g h=>Nat.lt_of_lt_of_le (hi.lt g h) hg.size,hi.dj⟩
 by_cases hfb:f b=.dead
 ·rw [hfb]; trivial
 ·refine (hi.live b).grow hG (.refl _) (fun g h=>hg.heap g ?_) fun g h=>((hi.live b).blk hfb h).1
  by_cases hb:b∈bs
  ·exact .inl (.inr ⟨b,hb,h⟩)
  ·exact .inr (.inr ⟨b,hfb,by simp,hb,h⟩)
def qgJ (P:Program) (I:Task→Prop):Prop:=∀ f xs σ Q,I (.call f xs σ Q)→∃ r σ',Q r σ'∧qcS P f xs σ r σ'
theorem qoJ (hI : qgJ P I) {md : Md} {f : Nat} {xs : List A} {K : Kont} (h : qp7 I md σ nx f xs K) : (∃ fn c, P.funcs[f]? = some fn ∧ fn.body = some c ∧ (fn.name == "runtime.NumGoroutine") = false) ∧ ∃ v ws nw rd, K v ws nw rd ∧
  ∀ {w S inj} {fB:Nat→Blk} {vs:List Value} {next:Value→World→Prop},F2 (VA w S inj) xs vs→(∀ b,b∈rd++ws.map Prod.fst→fB b=look σ b)→Inv w S inj fB →
   (∀ b,b∈rd→look σ b≠.dead→b < nx) →
   (∀ i,i < nw.length→inj (nx + i)=.free∧fB (nx + i)=.dead)→(∀ v' w' S' inj',Post w S inj fB nx v ws nw v' w' S' inj'→next v' w') →
   Calls P f vs.toArray w fun e w'=>∃ v',e=.returned v'∧next v' w':=by
 unfold qp7 at h
 obtain ⟨L,h,hL⟩:=qoH (acc:=[]) (by simp) h
 rw [List.nil_append] at h hL
 obtain ⟨ys,bs,h,hnd,hok⟩:=quU xs h
 have hLn:=(bcF h).1
 replace h:=(bcF h).2
 simp only [qeh,List.all_eq_true] at hLn
 obtain ⟨σc,h,hσ⟩:=qfv (R:=fun b B'=>(b∈bs→B'=.dead)∧(b ∉ bs→(look σ b=.dead→B'=.dead)∧RenB (fwd L) (look σ b) B')) (fun b hb k h=>by
  unfold qp6 at h
  cases hm:memN b bs with
  | true=>rw [hm] at h; exact ⟨_,h,fun _=>rfl,fun hn=>absurd ((qfq b bs).1 hm) hn⟩
  | false =>
   rw [hm] at h
   have hn:b ∉ bs:=fun hb=>by rw [(qfq b bs).2 hb] at hm; cases hm
   obtain ⟨B',h,h1,h2⟩:=qky h
   exact ⟨_,h,fun hb=>absurd hb hn,fun _=>⟨h1,h2⟩⟩) h
 obtain ⟨r,σc',h,hc⟩:=hI _ _ _ _ h
 have hle:=(bcF h).1
 replace h:=(bcF h).2
 simp only [qah,qa9] at h hle
 have hle:=Nat.le_of_ble_eq_true hle
 obtain ⟨r',h,hr⟩:=qrH h
 obtain ⟨out,h,hout⟩:=qfv (R:=fun B B'=>(B=.dead→B'=.dead)∧RenB (bwd (L++qb3 nx (σc'.length - L.length))) B B') (fun B hB k h=>by
  obtain ⟨B',h,h1,h2⟩:=qky h
  exact ⟨_,h,h1,h2⟩) h
 have hlc:σc.length=L.length:=hσ.len.symm
 have main:∀ {w S inj} {fB:Nat→Blk} {vs:List Value},F2 (VA w S inj) xs vs→(∀ b,b∈bs→fB b=look σ b)→(∀ b,b∈L→fB b=look σ b)→Inv w S inj fB →
   Calls P f vs.toArray w fun e w'=>∃ v S' inj',e=.returned v∧Done w (qhF S inj fB bs L) (qdJ inj bs L) L.length r σc' v w' S' inj':=fun {w S inj fB vs} hv hf1 hf2 hi=>by
  have hd:∀ b,b∈bs→fB b≠.dead:=fun b hb=>by rw [hf1 b hb]; exact hnd b hb
  have hin:=qoI (L:=L) (σc:=σc) hi hd hL (by
   refine hσ.mono fun b B' hb hbB=>?_
   rw [hf2 b hb]; exact hbB)
  have hR:Ren (fwd L) inj (qdJ inj bs L):=fun b i hbi=>by
   have:=qdS hbi
   unfold qdJ; rw [this]
   simp only
   by_cases hm:b∈bs
   ·left; unfold kill; rw [if_pos hm]
   ·right; exact qaj hm
  have hys:=(hok hi hf1 hR hv).mono' fun a b h=>h.sub (S':=qhF S inj fB bs L) fun g h=>h
  have:=hc.2 w (qhF S inj fB bs L) (qdJ inj bs L) vs hys hin (fun b hb=>by
   unfold qdJ; rw [List.getElem?_eq_none (by omega)])
  rw [hlc] at this
  exact this
 rcases (qL _ _ _).1 h with ⟨hb,h'⟩ | ⟨hb,h'⟩
 ·simp only [Bool.and_eq_true] at hb
  have ho0:out.length=0:=Nat.eq_of_beq_eq_true hb.1
  have hs0:σc'.length=0:=by rw [hout.len]; exact ho0
  have hL0:L=[]:=List.eq_nil_of_length_eq_zero (by omega)
  subst hL0
  refine ⟨hc.1,_,_,_,_,h',fun {w S inj fB vs next} hv hf hi hbn hfr hn=>?_⟩
  have hf1:∀ b,b∈bs→fB b=look σ b:=fun b hb=>hf b (by simp [hb])
  refine (main hv hf1 (by simp) hi).mono fun e w' ⟨v,S',inj',he,hD⟩=>⟨v,he,hn _ _ _ _ (qrM hi (fun b hb=>by rw [hf1 b hb]; exact hnd b hb) hD.grow hD.val hb.2 ?_)⟩
  rw [hs0] at hr
  exact hr
 ·simp only [qeQ,qa6,qay,qah,qa9] at h'
  refine ⟨hc.1,_,_,_,_,h',fun {w S inj fB vs next} hv hf hi hbn hfr hn=>?_⟩
  have hf1:∀ b,b∈bs→fB b=look σ b:=fun b hb=>hf b (by simp [hb])
  have hf2:∀ b,b∈L→fB b=look σ b:=fun b hb=>hf b (by simp [hb])
  refine (main hv hf1 hf2 hi).mono fun e w' ⟨v,S',inj',he,hD⟩=>⟨v,he,hn _ _ _ _ (qxG hi (fun b hb=>by rw [hf1 b hb]; exact hnd b hb) hL (fun b hb=>Nat.le_of_ble_eq_true (hLn b hb))
   (fun b hb=>hbn b (by simp [hb]) (hnd b hb)) (by omega) hD hr hout ?_)⟩
  intro i hi'
  refine hfr i ?_
  rw [List.length_drop,←hout.len]; exact hi'
theorem qoK (hI : qgJ P I) {f : Nat} {xs : List A} {K : Kont} (h : qxk I σ nx f xs K) : (∃ fn c, P.funcs[f]? = some fn ∧ fn.body = some c ∧ (fn.name == "runtime.NumGoroutine") = false) ∧ ∃ v ws nw rd, K v ws nw rd ∧
  ∀ {w S inj} {fB:Nat→Blk} {vs:List Value} {next:Value→World→Prop},F2 (VA w S inj) xs vs→(∀ b,b∈rd++ws.map Prod.fst→fB b=look σ b)→Inv w S inj fB →
   (∀ b,b∈rd→look σ b≠.dead→b < nx) →
   (∀ i,i < nw.length→inj (nx + i)=.free∧fB (nx + i)=.dead)→(∀ v' w' S' inj',Post w S inj fB nx v ws nw v' w' S' inj'→next v' w') →
   Calls P f vs.toArray w fun e w'=>∃ v',e=.returned v'∧next v' w':=by
 unfold qxk at h
 cases hp:qrd xs with
 | true=>rw [hp] at h; exact qoJ hI h
 | false =>
  rw [hp] at h
  rcases h with h | h | h<;>exact qoJ hI h
end Go.Proofs.YtidkmoohgadjkaaGreat.E
namespace Go.Proofs.YtidkmoohgadjkaaGreat.E
open Go
variable {P:Program} {T:List TI} {t:List A} {σ:List Blk} {nx:Nat} {I:Task→Prop}
theorem qoL {w S inj} (v:Value) (h:flat v=true):VR w S inj (qjr v) v:=by
 unfold qjr; rw [h]; exact .p (.v h)
theorem qlQ {w S inj} (v:Value):VA w S inj (qq3 v) v:=by
 have one:∀ v,VA w S inj (.one (qjr v)) v:=fun v=>by
  cases h:flat v with
  | true=>exact .ofc (qoL v h)
  | false=>unfold qjr; rw [h]; exact .one .junk
 unfold qq3
 split
 ·rename_i cs
  cases h:allR flat cs.toList with
  | false=>exact .one .junk
  | true =>
   simp only [qeh,List.all_eq_true] at h
   rw [qay]
   have:∀ l:List Value,(∀ v∈l,flat v=true)→F2 (VR w S inj) (l.map qjr) l:=fun l=>by
    induction l with
    | nil=>intro _; exact .nil
    | cons v l ih=>intro h; exact .cons (qoL v (h v (by simp))) (ih fun v hv=>h v (by simp [hv]))
   have h2:=this _ h
   have:VA w S inj (.agg (cs.toList.map qjr)) (.agg cs.toList.toArray):=.one (.agg h2)
   simpa using this
 ·exact one v
theorem qlR {w S inj} {a:Act} (h:F2 (VA w S inj) t a.tmps.toList) (x:Operand):VA w S inj (opd t x) (a.eval x):=by
 cases x with
 | tmp n =>
  change VA w S inj (nth (.one .junk) t n) (a.tmps.getD n undef)
  rw [qhE]
  cases ht:t[n]? with
  | none=>rw [List.getD_eq_getElem?_getD,ht]; exact .one .junk
  | some x =>
   obtain ⟨v,hv,hr⟩:=h.get ht
   rw [List.getD_eq_getElem?_getD,ht]
   have:a.tmps.getD n undef=v:=by simp at hv; simp [Array.getD_eq_getD_getElem?,hv]
   rw [this]; exact hr
 | const v=>exact qlQ v
 | global g=>exact .one .junk
 | func f=>exact .ofc (.fn (caps:=[]) (vs:=[]) .nil)
theorem qoM (hT:TOk P T) (hI:qgJ P I) {o:Oper} {K:Kont} (h:qxl T I t σ σ.length o.op K):qM P t σ σ.length o K:=by
 unfold qxl at h
 split at h
 ·rename_i f args ts ho
  unfold qre at h
  split at h
  ·rename_i g caps hf
   simp only [qay,qa9] at h
   obtain ⟨⟨fn,c,hfn,hb,hname⟩,v,ws,nw,rd,h,hok⟩:=qoK hI h
   refine ⟨v,ws,nw,rd,h,fun a fB w S inj next Q hop hfb hi hfr hn=>?_⟩
   have hvf:=hop f (by simp [ho,Op.operands,Call.operands])
   rw [hf] at hvf
   have hvf:=hvf.cellv (by simp)
   cases hfv:a.eval f with
   | func fv first cap =>
    rw [hfv] at hvf
    cases hvf with
    | fn hcaps =>
     rename_i vs
     have hvs:F2 (VA w S inj) (args.toList.map (opd t)++caps.map fun b=>A.one (.ptr b 0)) ((args.toList.map a.eval)++vs):=by
      refine (qks _ fun x hx=>hop x (by simp [ho,Op.operands,Call.operands]; right; simpa using hx)).app (hcaps.map fun b v _ hbv=>?_)
      obtain ⟨ad,rfl,hbv⟩:=hbv
      exact .ofc (.ptr hbv)
     have hc:=hok hvs hfb hi (fun b _ hb=>by
      rw [qai] at hb
      rcases Nat.lt_or_ge b σ.length with h | h
      ·exact h
      ·exact absurd (by simp [List.getD_eq_getElem?_getD,List.getElem?_eq_none h]) hb) hfr (next:=fun v' w'=>next (a.put o.dst v') w') hn
     have hrun:(execOp a.eval o).run P w=.ok (.enter g ((args.toList.map a.eval)++vs).toArray) w:=by
      unfold execOp
      simp [ho,resolve,hfv,Deferred.ofValue,invoke,callFunc,hfn,hb,hname]
      rw [if_neg (by simpa using hname)]
      simp [←Array.toList_map]
     unfold Oper.wp
     rw [hrun,Oper.upon_enter]
     exact hc.mono fun e w' ⟨v',he,hn⟩=>by subst he; exact hn
   | _=>rw [hfv] at hvf; cases hvf
  ·rename_i g caps hf
   simp only [qay,qa9] at h
   obtain ⟨⟨fn,c,hfn,hb,hname⟩,v,ws,nw,rd,h,hok⟩:=qoK hI h
   refine ⟨v,ws,nw,rd,h,fun a fB w S inj next Q hop hfb hi hfr hn=>?_⟩
   have hvf:=hop f (by simp [ho,Op.operands,Call.operands])
   rw [hf] at hvf
   have hvf:=hvf.cellv (by simp)
   cases hfv:a.eval f with
   | func fv first cap =>
    rw [hfv] at hvf
    cases hvf with
    | pf hcaps =>
     rename_i vs
     have hvs:F2 (VA w S inj) (args.toList.map (opd t)++caps.map fun cs=>A.one (.rp cs)) ((args.toList.map a.eval)++vs):=by
      refine (qks _ fun x hx=>hop x (by simp [ho,Op.operands,Call.operands]; right; simpa using hx)).app (hcaps.map fun b v _ hbv=>?_)
      obtain ⟨g,vals,rfl,h1,h2,h3⟩:=hbv
      exact .ofc (.rp vals h1 h2 h3)
     have hc:=hok hvs hfb hi (fun b _ hb=>by
      rw [qai] at hb
      rcases Nat.lt_or_ge b σ.length with h | h
      ·exact h
      ·exact absurd (by simp [List.getD_eq_getElem?_getD,List.getElem?_eq_none h]) hb) hfr (next:=fun v' w'=>next (a.put o.dst v') w') hn
     have hrun:(execOp a.eval o).run P w=.ok (.enter g ((args.toList.map a.eval)++vs).toArray) w:=by
      unfold execOp
      simp [ho,resolve,hfv,Deferred.ofValue,invoke,callFunc,hfn,hb,hname]
      rw [if_neg (by simpa using hname)]
      simp [←Array.toList_map]
     unfold Oper.wp
     rw [hrun,Oper.upon_enter]
     exact hc.mono fun e w' ⟨v',he,hn⟩=>by subst he; exact hn
   | _=>rw [hfv] at hvf; cases hvf
  ·exact h.elim
 ·exact quS hT h
structure St (m:Nat) (t:List A) (σ:List Blk) (a:Act) (w:World) (S:Zone) (inj:Nat→Loc):Prop where
 tmps:F2 (VA w S inj) t a.tmps.toList
 inv:Inv w S inj (look σ)
 free:∀ b,σ.length≤b→inj b=.free
 defers:a.defers=[]
 le:m≤σ.length
structure Rl (m:Nat) (w:World) (S:Zone) (inj:Nat→Loc) (w':World) (S':Zone) (inj':Nat→Loc):Prop where
 grow:Grow w S w' S'
 le:∀ b,b < m→inj b=.free∨Same (inj b) (inj' b)∨inj' b=.dead
 free:∀ b,b < m→inj b=.free→inj' b=.free
theorem Rl.refl {m w S inj}:Rl m w S inj w S inj:=⟨.refl _ _,fun _ _=>.inr (.inl (.refl _)),fun _ _ h=>h⟩
theorem Rl.trans {m w S inj w' S' inj' w'' S'' inj''} (h:Rl m w S inj w' S' inj') (h':Rl m w' S' inj' w'' S'' inj''):Rl m w S inj w'' S'' inj'' :=
 ⟨h.grow.trans h'.grow,fun b hb=>Le1.trans (h.le b hb) (h'.le b hb),fun b hb h1=>h'.free b hb (h.free b hb h1)⟩
theorem qrN (ws:List (Nat × Blk)):∀ {σ:List Blk} {k:List Blk→Prop},(∀ x,x∈ws→x.1 < σ.length)→qrf ws σ k→∃ σ',k σ'∧σ'.length=σ.length∧∀ b,look σ' b=match ws.find? (fun x=>x.1 == b) with | some x=>x.2 | none=>look σ b:=by
 induction ws with
 | nil=>intro σ k hw h; exact ⟨_,h,rfl,fun b=>rfl⟩
 | cons x ws ih =>
  intro σ k hw h
  change bF x.2 (fun b=>qrf ws σ fun σ=>setF b σ x.1 k) at h
  rw [qyW] at h
  obtain ⟨σ',h,hl,hk⟩:=ih (fun y hy=>hw y (by simp [hy])) h
  rw [qnm] at h
  refine ⟨_,h,by simp [hl],fun b=>?_⟩
  have hx:=hw x (by simp)
  rw [List.find?_cons]
  by_cases hb:x.1=b
  ·subst hb
   simp only [beq_self_eq_true]
   rw [qai,List.getD_eq_getElem?_getD,List.getElem?_set_self (by omega)]; rfl
  ·rw [show (x.1 == b)=false from by simpa using hb]
   simp only
   rw [←hk b,qai,qai,List.getD_eq_getElem?_getD,List.getElem?_set_ne hb,←List.getD_eq_getElem?_getD]
theorem qlS {ws:List (Nat × Blk)} {nw:List Blk} {k:List Blk→Prop} (h:qrg σ ws nw k):∃ σ',k σ'∧σ'.length=σ.length + nw.length∧∀ b,look σ' b=upd (look σ) σ.length ws nw b:=by
 unfold qrg at h
 have hw:=(bcF h).1
 replace h:=(bcF h).2
 simp only [qeh,List.all_eq_true,qah] at hw
 obtain ⟨σ',h,hl,hk⟩:=qrN ws (fun x hx=>Nat.le_of_ble_eq_true (hw x hx)) h
 rw [qxv,qkn] at h
 refine ⟨_,h,by simp [hl],fun b=>?_⟩
 unfold upd
 rw [qai,List.getD_eq_getElem?_getD]
 by_cases hb:σ.length≤b∧b < σ.length + nw.length
 ·rw [if_pos hb,List.getElem?_append_right (by omega),hl,List.getD_eq_getElem?_getD]
 ·rw [if_neg hb]
  have:=hk b
  rw [qai,List.getD_eq_getElem?_getD] at this
  refine Eq.trans ?_ this
  rcases Nat.lt_or_ge b σ'.length with h1 | h1
  ·rw [List.getElem?_append_left h1]
  ·rw [List.getElem?_append_right h1,List.getElem?_eq_none (by omega),List.getElem?_eq_none h1]
theorem qrO {d:Option Nat} {v:A} {k:List A→Prop} (h:putF t d v k):∃ t',k t'∧∀ {w S inj v'} {a:Act},F2 (VA w S inj) t a.tmps.toList→VA w S inj v v'→F2 (VA w S inj) t' (a.put d v').tmps.toList:=by
 unfold putF at h
 cases d with
 | none=>exact ⟨_,h,fun ht _=>ht⟩
 | some d =>
  simp only [qxu,qnm] at h
  refine ⟨_,h,fun {w S inj v' a} ht hv=>?_⟩
  have:=ht.set hv d
  unfold Act.put
  simpa using this
def qev (ops:List Oper) (t:List A) (o:Oper) (w:World) (S:Zone) (inj:Nat→Loc) (a:Act):Prop :=
 ∀ g want oj d x,o.guard=some (g,want)→ops[g]?=some oj→oj.dst=some d→t[d]?=some x→∃ v,a.tmps[d]?=some v∧VA w S inj x v
theorem qev.of {ops:List Oper} {o:Oper} {w S inj a} (h:F2 (VA w S inj) t a.tmps.toList):qev ops t o w S inj a:=fun g want oj d x _ _ _ htd=>by
 obtain ⟨v,hv,hr⟩:=h.get htd
 exact ⟨v,by simpa using hv,hr⟩
theorem qjK {ops:List Oper} {o:Oper} {y n:Prop} (h:qio ops t o y n) :
  (y∧∀ {w S inj} {a:Act},qev ops t o w S inj a→Region.wanted o (yielded ops.toArray a.tmps)=true) ∨
  (n∧∀ {w S inj} {a:Act},qev ops t o w S inj a→Region.wanted o (yielded ops.toArray a.tmps)=false):=by
 unfold qio at h
 split at h
 ·rename_i hg
  exact .inl ⟨h,fun _=>by unfold Region.wanted; rw [hg]⟩
 ·rename_i j want hg
  have hout:(∀ a:Act,yielded ops.toArray a.tmps j=none)→n→_:=fun hy hn=>Or.inr (a:=(y∧∀ {w S inj} {a:Act},qev ops t o w S inj a→Region.wanted o (yielded ops.toArray a.tmps)=true)) (b:=(n∧∀ {w S inj} {a:Act},qev ops t o w S inj a→Region.wanted o (yielded ops.toArray a.tmps)=false)) ⟨hn,fun {w S inj a} _=>by
   unfold Region.wanted; rw [hg]; simp only; rw [hy]; cases want<;>rfl⟩
  rw [qa6] at h
  split at h
  ·rename_i oj rest hd
   have hj:ops.toArray[j]?=some oj:=by
    have:=congrArg (·[0]?) hd
    simpa using this
   split at h
   ·rename_i d hdst
    have hy:∀ {w S inj} {a:Act} {x:A},qev ops t o w S inj a→nth (.one .junk) t d=x→x≠.one .junk→∃ v,a.tmps[d]?=some v∧VA w S inj x v:=fun {w S inj a x} ht hx hne=>by
     rw [qhE,List.getD_eq_getElem?_getD] at hx
     cases htd:t[d]? with
     | none=>rw [htd] at hx; exact absurd hx.symm hne
     | some x' =>
      rw [htd] at hx
      simp only [Option.getD_some] at hx
      subst hx
      exact ht j want oj d _ hg (by simpa using hj) hdst htd
    split at h
    ·rename_i b hx
     have hyb:∀ {w S inj} {a:Act},qev ops t o w S inj a→yielded ops.toArray a.tmps j=some b:=fun {w S inj a} ht=>by
      obtain ⟨v,hv,hr⟩:=hy ht hx (by simp)
      have:=hr.flatv.1
      subst this
      unfold yielded; rw [hj]; simp [hdst,hv]
     cases want with
     | true =>
      rcases (qL _ _ _).1 h with ⟨hb,h⟩ | ⟨hb,h⟩
      ·exact .inl ⟨h,fun ht=>by unfold Region.wanted; rw [hg]; simp only; rw [hyb ht,hb]; rfl⟩
      ·exact .inr ⟨h,fun ht=>by unfold Region.wanted; rw [hg]; simp only; rw [hyb ht,hb]; rfl⟩
     | false =>
      rcases (qL _ _ _).1 h with ⟨hb,h⟩ | ⟨hb,h⟩
      ·exact .inr ⟨h,fun ht=>by unfold Region.wanted; rw [hg]; simp only; rw [hyb ht,hb]; rfl⟩
      ·exact .inl ⟨h,fun ht=>by unfold Region.wanted; rw [hg]; simp only; rw [hyb ht,hb]; rfl⟩
    ·rename_i hx
     refine .inr ⟨h,fun {w S inj a} ht=>?_⟩
     obtain ⟨v,hv,hr⟩:=hy ht hx (by simp)
     have:∃ vs:Array Value,v=.tuple vs:=by
      cases hr with
      | one hr=>cases hr
      | tup hr=>exact ⟨_,rfl⟩
     obtain ⟨vs,rfl⟩:=this
     unfold Region.wanted; rw [hg]; simp only
     unfold yielded; rw [hj]; simp [hdst,hv]
    ·exact h.elim
   ·rename_i hdst
    exact hout (fun a=>by unfold yielded; rw [hj]; simp [hdst]) h
  ·rename_i hd
   exact hout (fun a=>by
    have:ops.toArray[j]?=none:=by simpa [List.drop_eq_nil_iff] using hd
    unfold yielded; rw [this]; rfl) h
theorem qnw (hT:TOk P T) (hI:qgJ P I) {all:List Oper} {m:Nat}:∀ (l:List Oper) {t:List A} {σ:List Blk} {tr:Tr} {K:List A→List Blk→Tr→Prop},m≤σ.length→runF T I all l t σ tr K →
  ∃ t' σ' tr',K t' σ' tr'∧m≤σ'.length∧∀ {a w S inj Q},St m t σ a w S inj→(∀ a' w' S' inj',St m t' σ' a' w' S' inj'→Rl m w S inj w' S' inj'→Q .normal a' w')→wpList P all.toArray Q l a w
 | [],t,σ,tr,K,hm,h=>⟨t,σ,tr,h,hm,fun {a w S inj Q} hs hq=>hq _ _ _ _ hs .refl⟩
 | o::l,t,σ,tr,K,hm,h=>by
  change qio all t o _ _ at h
  rcases qjK h with ⟨h,hw⟩ | ⟨h,hw⟩
  ·rw [qah] at h
   obtain ⟨v,ws,nw,rd,h,hok⟩:=qoM hT hI h
   obtain ⟨t',h,ht'⟩:=qrO h
   obtain ⟨σ',h,hl,hup⟩:=qlS h
   obtain ⟨t'',σ'',tr'',h,hm',hrest⟩:=qnw (m:=m) (σ:=σ') hT hI l (by omega) h
   refine ⟨t'',σ'',tr'',h,hm',fun {a w S inj Q} hs hq=>?_⟩
   show (if _ then _ else _)
   rw [hw (.of hs.tmps),if_pos rfl]
   refine .inl (hok a (look σ) w S inj _ _ (fun x _=>qlR hs.tmps x) (fun _ _=>rfl) hs.inv (fun i hi=>⟨hs.free (σ.length + i) (Nat.le_add_right _ _),by rw [qai,List.getD_eq_getElem?_getD,List.getElem?_eq_none (by omega)]; rfl⟩) fun v' w' S' inj' hp=>?_)
   have hfree:∀ b,σ'.length≤b→inj' b=.free:=fun b hb=>hp.fresh b (hs.free b (by omega)) (.inr (by omega))
   have hst:St m t' σ' (a.put o.dst v') w' S' inj':=by
    refine ⟨ht' (hs.tmps.mono' fun _ _ h=>h.grow hp.grow hp.le) hp.val,?_,hfree,?_,by omega⟩
    ·have:=hp.inv
     rwa [show upd (look σ) σ.length ws nw=look σ' from (funext hup).symm] at this
    ·have:=hs.defers
     unfold Act.put; split<;>exact this
   have hr:Rl m w S inj w' S' inj':=⟨hp.grow,fun b _=>hp.le b,fun b hb h=>hp.fresh b h (.inl (by omega))⟩
   exact hrest hst fun a' w' S2 inj2 hs2 hr2=>hq _ _ _ _ hs2 (hr.trans hr2)
  ·obtain ⟨t',h,ht'⟩:=qrO h
   obtain ⟨t'',σ'',tr'',h,hm',hrest⟩:=qnw hT hI l hm h
   refine ⟨t'',σ'',tr'',h,hm',fun {a w S inj Q} hs hq=>?_⟩
   show (if _ then _ else _)
   rw [hw (.of hs.tmps),if_neg (by simp)]
   refine hrest ⟨ht' hs.tmps (.tup .nil),hs.inv,hs.free,?_,hs.le⟩ hq
   have:=hs.defers
   unfold Act.put; split<;>exact this
end Go.Proofs.YtidkmoohgadjkaaGreat.E
