/- What is known (layer 7), the program's functions: their answers, out of what their code computes. What is known (layer 7): what it means to be made plain, joined, known with a version. Layers 6 to 8, the document's, more of them. Written by decomp.py. What the statements hand in. Written by decomp.py. The evaluator is sound; facts of the program; arguments by their types. Items as arguments of laws. Lists of items as arguments of laws. What is known, and versions, as arguments of laws. What is known: the answers of the program's and the document's functions. Layers 9 and 11. Written by decomp.py. Lists of items (layer 8), the document's functions: their answers, out of what their code computes. The statements of layer 4, walked. The statements of layer 4, walked. Written by decomp.py. The statements of layer 5, walked. Filters made plain (layer 4): they have the same items, and stay when made plain again. The statement EvalPlain, out of what its code computes. Layers 8, 9, 11: items, states, sessions: what the code computes, as answers. What is known: the document's functions under a bound on all texts together; copies. The statements of layer 2, walked. Lists of items that rise (layer 8): what the program's functions and the document's do to them. Lists of items that rise (layer 8): all of both; whether items may be a list. The statements of layer 8, walked. Written by decomp.py. The statements ListTells and ListKeeps, out of what their code computes. The program: copies of  -/
import Derived.Test.YtidkmoohgadjkaaGreatND
import Derived.Test.YtidkmoohgadjkaaGreatNC
set_option linter.unusedVariables false
set_option linter.unusedSimpArgs false
set_option maxRecDepth 100000
namespace Go.Proofs.YtidkmoohgadjkaaGreat
open Go E Pred
noncomputable section
open Classical
def alk {α:Type} (l:List (ByteArray × α)) (k:ByteArray):Option α:=(l.find? fun e=>eqS e.1 k).map (·.2)
theorem keyEq_srw (a b:ByteArray):keyEq (srw a) (srw b)=eqS a b:=by simp [keyEq,pcEq]
theorem mget_srw {α:Type} (l:List (ByteArray × α)) (k:ByteArray):mget srw l k=alk l k:=by
 unfold mget alk; simp only [keyEq_srw]
theorem alk_cons {α:Type} (e:ByteArray × α) (l:List (ByteArray × α)) (k:ByteArray):alk (e::l) k=if eqS e.1 k=true then some e.2 else alk l k:=by
 unfold alk; rw [List.find?_cons]; cases eqS e.1 k<;>simp
theorem alk_app {α:Type} (l m:List (ByteArray × α)) (k:ByteArray):alk (l++m) k=(alk l k).or (alk m k):=by
 unfold alk; rw [List.find?_append]; cases List.find? (fun e=>eqS e.1 k) l<;>rfl
theorem alk_some {α:Type} {l:List (ByteArray × α)} {k:ByteArray}:(alk l k).isSome=memB (l.map (·.1)) k:=by
 unfold alk memB
 induction l with
 | nil=>rfl
 | cons e l ih =>
  rw [List.find?_cons,List.map_cons,List.any_cons]
  cases h:eqS e.1 k with
  | true=>rfl
  | false=>rw [Bool.false_or]; exact ih
theorem mset_alk {α:Type} (l:List (ByteArray × α)) (k:ByteArray) (v:α) (id:ByteArray):alk (mset srw l k v) id=if eqS k id=true then some v else alk l id:=by
 unfold mset
 rw [mget_srw]
 cases h:alk l k with
 | none =>
  rw [if_neg (by simp),alk_app,alk_cons]
  by_cases hk:eqS k id=true
  ·rw [if_pos hk,if_pos hk,←eqS_t.1 hk,h]; rfl
  ·rw [if_neg hk,if_neg hk]; cases alk l id<;>rfl
 | some w =>
  rw [if_pos (by rfl)]
  simp only [keyEq_srw]
  have key:∀ l:List (ByteArray × α),(alk l k).isSome=true→alk (l.map fun e=>if eqS e.1 k=true then (e.1,v) else e) id=if eqS k id=true then some v else alk l id:=by
   intro l
   induction l with
   | nil=>intro h; cases h
   | cons e l ih =>
    intro h
    rw [alk_cons] at h
    rw [List.map_cons,alk_cons,alk_cons]
    by_cases he:eqS e.1 k=true
    ·rw [if_pos he]
     have e':=eqS_t.1 he
     by_cases hk:eqS k id=true
     ·rw [if_pos (by show eqS e.1 id=true; rw [e']; exact hk),if_pos hk]
     ·rw [if_neg (by show ¬ eqS e.1 id=true; rw [e']; exact hk),if_neg hk,if_neg (by rw [e']; exact hk)]
      have:∀ l:List (ByteArray × α),alk (l.map fun e=>if eqS e.1 k=true then (e.1,v) else e) id=alk l id:=by
       intro l
       induction l with
       | nil=>rfl
       | cons e l ih =>
        rw [List.map_cons,alk_cons,alk_cons,ih]
        by_cases he:eqS e.1 k=true
        ·rw [if_pos he,if_neg (by show ¬ eqS e.1 id=true; rw [eqS_t.1 he]; exact hk),if_neg (by rw [eqS_t.1 he]; exact hk)]
        ·rw [if_neg he]
      exact this l
    ·rw [if_neg he] at h
     rw [if_neg he,ih h]
     by_cases hi:eqS e.1 id=true
     ·rw [if_pos hi,if_pos hi,if_neg (by rw [←eqS_t.1 hi,eqS_comm']; exact he)]
     ·rw [if_neg hi,if_neg hi]
  exact key l (by rw [h]; rfl)
theorem mset_keys {α:Type} (l:List (ByteArray × α)) (k:ByteArray) (v:α):(mset srw l k v).map (·.1)=if memB (l.map (·.1)) k=true then l.map (·.1) else l.map (·.1)++[k]:=by
 unfold mset
 rw [mget_srw,alk_some]
 split
 ·rw [List.map_map]
  refine List.map_congr_left fun e _=>?_
  simp only [Function.comp,keyEq_srw]
  split<;>rfl
 ·rw [List.map_append]; rfl
theorem memB_iff {l:List ByteArray} {x:ByteArray}:memB l x=true↔x∈l:=by
 unfold memB
 rw [List.any_eq_true]
 exact ⟨fun ⟨y,hy,e⟩=>by rw [←eqS_t.1 e]; exact hy,fun h=>⟨x,h,eqS_self _⟩⟩
theorem memB_cons (y:ByteArray) (l:List ByteArray) (x:ByteArray):memB (y::l) x=(eqS y x || memB l x):=List.any_cons
theorem mset_nodup {α:Type} {l:List (ByteArray × α)} {k:ByteArray} {v:α} (h:(l.map (·.1)).Nodup):((mset srw l k v).map (·.1)).Nodup:=by
 rw [mset_keys]
 split
 ·exact h
 ·rename_i hk
  rw [memB_iff] at hk
  rw [List.nodup_append]
  exact ⟨h,by simp,fun a ha b hb=>by rw [List.mem_singleton.1 hb]; rintro rfl; exact hk ha⟩
theorem maxI_idem (a v:Int):maxI (maxI a v) v=maxI a v:=by unfold maxI; by_cases h:v > a<;>simp [h]
theorem maxV_idem (a v:V8):maxV (maxV a v) v=maxV a v:=by unfold maxV; simp only [maxI_idem]
def addAll (v:V8) (M:List (ByteArray × V8)) (id:ByteArray):List (ByteArray × V8):=mset srw M id (maxV ((alk M id).getD zero8) v)
theorem opt_n {α β:Type} {f:α→Option β} {n:Option β}:opt none f n=n:=rfl
theorem opt_s {α β:Type} {x:α} {f:α→Option β} {n:Option β}:opt (some x) f n=f x:=rfl
theorem plain2_l {f:Frag} {k:List (ByteArray × V8)→Option Know}:∀ (ids:List ByteArray) (M:List (ByteArray × V8)),know_Plain_l2 f k ids M=k (ids.foldl (addAll f.vec) M)
 | [],M=>by rw [know_Plain_l2]; rfl
 | x::ids,M=>by
  have ih:=fun M=>plain2_l (f:=f) (k:=k) ids M
  rw [know_Plain_l2,List.foldl_cons,←ih]
  unfold addAll
  rw [mget_srw]
  cases alk M x with
  | none =>
   rw [opt_n]
   exact bnd_of (show vec_Max_s ⟨0,0,0,0,0,0,0,0⟩ f.vec=some (maxV zero8 f.vec) from rfl)
  | some y =>
   rw [opt_s]
   exact bnd_of (show vec_Max_s y f.vec=some (maxV y f.vec) from rfl)
theorem addAll_alk {v:V8}:∀ (ids:List ByteArray) (M:List (ByteArray × V8)) (id:ByteArray),alk (ids.foldl (addAll v) M) id=if memB ids id=true then some (maxV ((alk M id).getD zero8) v) else alk M id
 | [],M,id=>by rfl
 | x::ids,M,id=>by
  rw [List.foldl_cons,addAll_alk ids,memB_cons]
  unfold addAll
  rw [mset_alk]
  by_cases hx:eqS x id=true
  ·rw [if_pos hx,hx,Bool.true_or,if_pos rfl,←eqS_t.1 hx]
   split
   ·show some (maxV (maxV _ v) v)=_; rw [maxV_idem]
   ·rfl
  ·rw [if_neg hx]
   simp only [Bool.not_eq_true] at hx
   rw [hx,Bool.false_or]
theorem addAll_nodup {v:V8}:∀ (ids:List ByteArray) (M:List (ByteArray × V8)),(M.map (·.1)).Nodup→((ids.foldl (addAll v) M).map (·.1)).Nodup
 | [],M,h=>h
 | x::ids,M,h=>addAll_nodup ids _ (mset_nodup h)
theorem addAll_len {v:V8}:∀ (ids:List ByteArray) (M:List (ByteArray × V8)),(ids.foldl (addAll v) M).length≤M.length + ids.length
 | [],M=>Nat.le_refl _
 | x::ids,M=>by
  have h1:=addAll_len (v:=v) ids (addAll v M x)
  have h2:(addAll v M x).length≤M.length + 1:=by
   unfold addAll mset
   split
   ·simp
   ·simp
  rw [List.foldl_cons,List.length_cons]; omega
def allM (l:List Frag) (M:List (ByteArray × V8)):List (ByteArray × V8):=l.foldl (fun M f=>f.ids.foldl (addAll f.vec) M) M
theorem allM_alk (id:ByteArray):∀ (l:List Frag) (M:List (ByteArray × V8)),alk (allM l M) id=if (alk M id).isSome || l.any (fun f=>memB f.ids id) then some (sumV id l ((alk M id).getD zero8)) else none
 | [],M=>by
  show alk M id=_
  cases h:alk M id<;>rfl
 | f::l,M=>by
  have ih:=allM_alk id l (f.ids.foldl (addAll f.vec) M)
  rw [addAll_alk] at ih
  show alk (allM l (f.ids.foldl (addAll f.vec) M)) id=_
  rw [ih,List.any_cons]
  unfold sumV
  rw [List.foldl_cons]
  by_cases hf:memB f.ids id=true
  ·rw [if_pos hf,if_pos hf,hf]; simp
  ·rw [if_neg hf,if_neg hf]
   simp only [Bool.not_eq_true] at hf
   rw [hf,Bool.false_or]
theorem allM_nodup:∀ (l:List Frag) (M:List (ByteArray × V8)),(M.map (·.1)).Nodup→((allM l M).map (·.1)).Nodup
 | [],M,h=>h
 | f::l,M,h=>allM_nodup l _ (addAll_nodup f.ids M h)
def idsN (l:List Frag):Nat:=(l.map fun f=>f.ids.length).sum
theorem idsN_cons (f:Frag) (l:List Frag):idsN (f::l)=f.ids.length + idsN l:=by simp [idsN]
theorem idsN_app (l m:List Frag):idsN (l++m)=idsN l + idsN m:=by simp [idsN]
theorem allM_len:∀ (l:List Frag) (M:List (ByteArray × V8)),(allM l M).length≤M.length + idsN l
 | [],M=>Nat.le_refl _
 | f::l,M=>by
  have h1:=allM_len l (f.ids.foldl (addAll f.vec) M)
  have h2:=addAll_len (v:=f.vec) f.ids M
  rw [idsN_cons]
  show (allM l (f.ids.foldl (addAll f.vec) M)).length≤_
  omega
structure KT (k:Know) (N:Nat):Prop where
 l:k.l.length≤N
 ids:idsN k.l≤N
theorem idsN_mem {l:List Frag} {f:Frag} (h:f∈l):f.ids.length≤idsN l:=by
 induction l with
 | nil=>cases h
 | cons g l ih =>
  rw [idsN_cons]
  rcases List.mem_cons.1 h with rfl | h
  ·omega
  ·have:=ih h; omega
theorem KT.kb {k:Know} {N:Nat} (h:KT k N):KB k N:=⟨h.l,fun f hf=>Nat.le_trans (idsN_mem hf) h.ids⟩
theorem KT.mono {k:Know} {n m:Nat} (h:KT k n) (hm:n≤m):KT k m:=⟨Nat.le_trans h.l hm,Nat.le_trans h.ids hm⟩
theorem KB.kt {k:Know} {N:Nat} (h:KB k N):KT k (N + N * N):=by
 have key:∀ l:List Frag,(∀ f∈l,f.ids.length≤N)→idsN l≤l.length * N:=by
  intro l
  induction l with
  | nil=>intro _; simp [idsN]
  | cons f l ih =>
   intro h
   have h1:=h f (List.mem_cons_self ..)
   have h2:=ih fun g hg=>h g (List.mem_cons_of_mem _ hg)
   rw [idsN_cons,List.length_cons,Nat.succ_mul]; omega
 have h1:=key k.l h.ids
 have h2:=Nat.mul_le_mul_right N h.l
 exact ⟨Nat.le_trans h.l (Nat.le_add_right _ _),by omega⟩
theorem plain1_l {k:Know}:∀ (l:List Frag) (M:List (ByteArray × V8)),(∀ f∈l,f.ids.length≤1000000000)→know_Plain_l1 k l M=bnd (sorted_s (allM l M)) fun y=>chk (smallL y) (know_Plain_l3 k (allM l M) y)
 | [],M,_=>by rw [know_Plain_l1]; rfl
 | f::l,M,h=>by
  rw [know_Plain_l1,chk_t (smallL_of (h f (List.mem_cons_self ..))),plain2_l]
  exact plain1_l l _ fun g hg=>h g (List.mem_cons_of_mem _ hg)
def Srt (l:List ByteArray):Prop:=l.Pairwise fun a b=>ltS a b=true
theorem srt_cons {x:ByteArray} {l:List ByteArray}:Srt (x::l)↔(∀ y∈l,ltS x y=true)∧Srt l:=List.pairwise_cons
theorem srt_ext:∀ {l m:List ByteArray},Srt l→Srt m→(∀ x,x∈l↔x∈m)→l=m
 | [],[],_,_,_=>rfl
 | [],y::m,_,_,h=>absurd ((h y).2 (List.mem_cons_self ..)) (by simp)
 | x::l,[],_,_,h=>absurd ((h x).1 (List.mem_cons_self ..)) (by simp)
 | x::l,y::m,hl,hm,h=>by
  rw [srt_cons] at hl hm
  have e:x=y:=by
   rcases List.mem_cons.1 ((h x).1 (List.mem_cons_self ..)) with e | hx
   ·exact e
   ·rcases List.mem_cons.1 ((h y).2 (List.mem_cons_self ..)) with e | hy
    ·exact e.symm
    ·have:=ltS_asym (hl.1 y hy); rw [hm.1 x hx] at this; cases this
  subst e
  rw [srt_ext hl.2 hm.2 fun z=>?_]
  constructor
  ·intro hz
   rcases List.mem_cons.1 ((h z).1 (List.mem_cons_of_mem _ hz)) with rfl | hz'
   ·have:=hl.1 z hz; rw [ltS_self] at this; cases this
   ·exact hz'
  ·intro hz
   rcases List.mem_cons.1 ((h z).2 (List.mem_cons_of_mem _ hz)) with rfl | hz'
   ·have:=hm.1 z hz; rw [ltS_self] at this; cases this
   ·exact hz'
theorem insG_t {x:ByteArray}:∀ l:List ByteArray,insG x true l=l.filter fun y=>!eqS y x
 | []=>rfl
 | y::l=>by
  rw [insG,Bool.true_or,insG_t l,List.filter_cons]
  cases eqS y x<;>simp
theorem ins_mem {x z:ByteArray}:∀ l:List ByteArray,z∈insV l x↔z=x∨z∈l
 | []=>by unfold insV; rw [insG]; simp
 | y::l=>by
  have ih:=ins_mem (x:=x) (z:=z) l
  unfold insV at ih ⊢
  rw [insG]
  cases hc:(ltS x y || eqS x y) with
  | true =>
   simp only [Bool.not_false,Bool.true_and,if_true,Bool.false_or]
   rw [insG_t,List.mem_append,List.mem_append,List.mem_singleton,List.mem_filter,List.mem_cons]
   constructor
   ·rintro (h | h | h)
    ·exact .inl h
    ·split at h
     ·cases h
     ·exact .inr (.inl (List.mem_singleton.1 h))
    ·exact .inr (.inr h.1)
   ·rintro (h | h | h)
    ·exact .inl h
    ·subst h
     by_cases he:eqS z x=true
     ·exact .inl (eqS_t.1 he)
     ·exact .inr (.inl (by rw [if_neg he]; exact List.mem_singleton.2 rfl))
    ·by_cases he:eqS z x=true
     ·exact .inl (eqS_t.1 he)
     ·exact .inr (.inr ⟨h,by simpa using he⟩)
  | false =>
   simp only [Bool.not_false,Bool.true_and,Bool.false_eq_true,if_false,Bool.false_or,List.nil_append]
   rw [List.mem_append,ih,List.mem_cons]
   have hne:eqS y x=false:=by
    cases h:eqS y x with
    | false=>rfl
    | true=>rw [eqS_comm',h,Bool.or_true] at hc; cases hc
   rw [hne,if_neg (by simp),List.mem_singleton]
   constructor
   ·rintro (h | h | h)
    ·exact .inr (.inl h)
    ·exact .inl h
    ·exact .inr (.inr h)
   ·rintro (h | h | h)
    ·exact .inr (.inl h)
    ·exact .inl h
    ·exact .inr (.inr h)
theorem ins_srt {x:ByteArray}:∀ {l:List ByteArray},Srt l→Srt (insV l x)
 | [],_=>by unfold insV; rw [insG]; exact List.pairwise_singleton _ _
 | y::l,h=>by
  have h':=srt_cons.1 h
  have ih:=ins_srt (x:=x) h'.2
  have hm:=fun z=>ins_mem (x:=x) (z:=z) l
  unfold insV at ih hm ⊢
  rw [insG]
  cases hc:(ltS x y || eqS x y) with
  | true =>
   simp only [Bool.not_false,Bool.true_and,if_true,Bool.false_or]
   rw [insG_t]
   have hle:ltS y x=false:=by
    rcases Bool.or_eq_true_iff.1 hc with h1 | h1
    ·exact ltS_asym h1
    ·rw [eqS_t.1 h1]; exact ltS_self _
   have key:Srt ((if eqS y x=true then [] else [y])++l.filter fun y=>!eqS y x)∧∀ z∈((if eqS y x=true then [] else [y])++l.filter fun y=>!eqS y x),ltS x z=true:=by
    have hs:Srt (l.filter fun y=>!eqS y x):=h'.2.filter _
    by_cases he:eqS y x=true
    ·rw [if_pos he]
     refine ⟨hs,fun z hz=>?_⟩
     rw [List.nil_append] at hz
     rw [←eqS_t.1 he]; exact h'.1 z (List.mem_filter.1 hz).1
    ·rw [if_neg he]
     have hxy:ltS x y=true:=by
      rcases Bool.or_eq_true_iff.1 hc with h1 | h1
      ·exact h1
      ·exact absurd (by rw [eqS_comm']; exact h1) he
     refine ⟨srt_cons.2 ⟨fun z hz=>h'.1 z (List.mem_filter.1 hz).1,hs⟩,fun z hz=>?_⟩
     rcases List.mem_cons.1 hz with rfl | hz
     ·exact hxy
     ·exact ltS_tr hxy (h'.1 z (List.mem_filter.1 hz).1)
   exact srt_cons.2 ⟨key.2,key.1⟩
  | false =>
   simp only [Bool.not_false,Bool.true_and,Bool.false_eq_true,if_false,Bool.false_or,List.nil_append]
   rw [Bool.or_eq_false_iff] at hc
   have hyx:ltS y x=true:=by
    cases h1:ltS y x with
    | true=>rfl
    | false=>rw [ltS_tri hc.1 h1,eqS_self] at hc; cases hc.2
   rw [ltS_ne hyx,if_neg (by simp)]
   refine srt_cons.2 ⟨fun z hz=>?_,ih⟩
   rcases (hm z).1 hz with rfl | hz
   ·exact hyx
   ·exact h'.1 z hz
theorem insF_mem {z:ByteArray}:∀ (ids acc:List ByteArray),z∈ids.foldl insV acc↔z∈ids∨z∈acc
 | [],acc=>by simp
 | x::ids,acc=>by
  rw [List.foldl_cons,insF_mem ids,ins_mem,List.mem_cons]
  constructor
  ·rintro (h | h | h)
   ·exact .inl (.inr h)
   ·exact .inl (.inl h)
   ·exact .inr h
  ·rintro ((h | h) | h)
   ·exact .inr (.inl h)
   ·exact .inl h
   ·exact .inr (.inr h)
theorem insF_srt:∀ (ids:List ByteArray) {acc:List ByteArray},Srt acc→Srt (ids.foldl insV acc)
 | [],_,h=>h
 | x::ids,_,h=>insF_srt ids (ins_srt h)
theorem names_mem {z:ByteArray}:∀ (l:List Frag) (acc:List ByteArray),z∈namesG acc l↔(∃ f∈l,z∈f.ids)∨z∈acc
 | [],acc=>by simp [namesG]
 | f::l,acc=>by
  show z∈namesG (f.ids.foldl insV acc) l↔_
  rw [names_mem l,insF_mem]
  constructor
  ·rintro (⟨g,hg,hz⟩ | h | h)
   ·exact .inl ⟨g,List.mem_cons_of_mem _ hg,hz⟩
   ·exact .inl ⟨f,List.mem_cons_self .., h⟩
   ·exact .inr h
  ·rintro (⟨g,hg,hz⟩ | h)
   ·rcases List.mem_cons.1 hg with rfl | hg
    ·exact .inr (.inl hz)
    ·exact .inl ⟨g,hg,hz⟩
   ·exact .inr (.inr h)
theorem names_srt:∀ (l:List Frag) {acc:List ByteArray},Srt acc→Srt (namesG acc l)
 | [],_,h=>h
 | f::l,_,h=>names_srt l (insF_srt f.ids h)
theorem namesK_mem {k:Know} {z:ByteArray}:z∈namesK k↔∃ f∈k.l,z∈f.ids:=by
 unfold namesK; rw [names_mem]; simp
theorem namesK_srt (k:Know):Srt (namesK k):=names_srt k.l .nil
theorem sortS_mem {z:ByteArray} {l:List ByteArray}:z∈sortS l↔z∈l:=by
 unfold sortS
 rw [List.mem_map]
 constructor
 ·rintro ⟨b,hb,rfl⟩
  rw [List.mem_mergeSort,List.mem_map] at hb
  obtain ⟨s,hs,rfl⟩:=hb
  exact hs
 ·intro h
  exact ⟨z.data.toList,by rw [List.mem_mergeSort,List.mem_map]; exact ⟨z,h,rfl⟩,rfl⟩
theorem sortS_srt {l:List ByteArray} (h:l.Nodup):Srt (sortS l):=by
 have tr:∀ a b c:List UInt8,leB a b=true→leB b c=true→leB a c=true:=fun a b c h1 h2=>by simp only [leB,decide_eq_true_eq] at *; exact List.le_trans h1 h2
 have to:∀ a b:List UInt8,(leB a b || leB b a)=true:=fun a b=>by simp only [leB,Bool.or_eq_true,decide_eq_true_eq]; exact List.le_total a b
 have h1:((l.map fun s=>s.data.toList).mergeSort leB).Pairwise fun a b=>leB a b=true:=List.pairwise_mergeSort tr to _
 have h2:((l.map fun s=>s.data.toList).mergeSort leB).Nodup:=by
  rw [(List.mergeSort_perm _ _).nodup_iff]
  exact List.Pairwise.map _ (fun a b hab he=>hab (byt_ext he)) h
 unfold sortS Srt
 rw [List.pairwise_map]
 refine (h1.and h2).imp fun {a b} hab=>?_
 rw [ltS_lt,decide_eq_true_eq]
 have hle:a≤b:=by have:=hab.1; simpa [leB] using this
 show a < b
 rcases Classical.em (a < b) with h | h
 ·exact h
 ·exact absurd (List.le_antisymm hle (List.not_lt.1 h)) hab.2
theorem allM_names {k:Know}:sortS ((allM k.l []).map (·.1))=namesK k:=by
 refine srt_ext (sortS_srt (allM_nodup _ _ (by simp))) (namesK_srt k) fun z=>?_
 rw [sortS_mem,namesK_mem,←memB_iff,←alk_some,allM_alk]
 have:(alk ([]:List (ByteArray × V8)) z).isSome=false:=rfl
 rw [this,Bool.false_or]
 constructor
 ·intro h
  split at h
  ·rename_i h1
   obtain ⟨f,hf,hz⟩:=List.any_eq_true.1 h1
   exact ⟨f,hf,memB_iff.1 hz⟩
  ·cases h
 ·rintro ⟨f,hf,hz⟩
  rw [if_pos (List.any_eq_true.2 ⟨f,hf,memB_iff.2 hz⟩)]; rfl
theorem allM_get {k:Know} {id:ByteArray} (h:id∈namesK k):alk (allM k.l []) id=some (sumV id k.l zero8):=by
 obtain ⟨f,hf,hz⟩:=namesK_mem.1 h
 rw [allM_alk,if_pos (by rw [Bool.or_eq_true]; exact .inr (List.any_eq_true.2 ⟨f,hf,memB_iff.2 hz⟩))]; rfl
structure NonNeg (v:V8):Prop where
 h0:0≤v.x0
 h1:0≤v.x1
 h2:0≤v.x2
 h3:0≤v.x3
 h4:0≤v.x4
 h5:0≤v.x5
 h6:0≤v.x6
 h7:0≤v.x7
theorem maxI_nn {a b:Int} (h:0≤a):0≤maxI a b:=by unfold maxI; split<;>omega
theorem NonNeg.max {a b:V8} (h:NonNeg a):NonNeg (maxV a b):=⟨maxI_nn h.h0,maxI_nn h.h1,maxI_nn h.h2,maxI_nn h.h3,maxI_nn h.h4,maxI_nn h.h5,maxI_nn h.h6,maxI_nn h.h7⟩
theorem nn_zero:NonNeg zero8:=⟨by decide,by decide,by decide,by decide,by decide,by decide,by decide,by decide⟩
theorem nn_sum (id:ByteArray):∀ (l:List Frag) {v:V8},NonNeg v→NonNeg (sumV id l v)
 | [],_,h=>h
 | f::l,v,h=>by
  unfold sumV
  rw [List.foldl_cons]
  refine nn_sum id l ?_
  split
  ·exact h.max
  ·exact h
theorem cutN {α:Type} {a s:Int} {f:Int→Option α} (h:0≤a):br (leI a s) (f 0) (br (leI a 0) (f 0) (f a))=f (cutI a s):=by
 unfold cutI
 cases leI a s with
 | true=>rfl
 | false =>
  cases h0:leI a 0 with
  | false=>rfl
  | true =>
   have:a=0:=by rw [leI_t] at h0; omega
   rw [this]; rfl
theorem kbeyond_s {v s:V8} (h:NonNeg v):know_beyond_s v s=some (cutV v s):=by
 unfold know_beyond_s
 rw [cutN (f:=fun x=>know_beyond_j1 v s x) h.h0]
 unfold know_beyond_j1
 rw [cutN (f:=fun x=>know_beyond_j2 v s _ x) h.h1]
 unfold know_beyond_j2
 rw [cutN (f:=fun x=>know_beyond_j3 v s _ _ x) h.h2]
 unfold know_beyond_j3
 rw [cutN (f:=fun x=>know_beyond_j4 v s _ _ _ x) h.h3]
 unfold know_beyond_j4
 rw [cutN (f:=fun x=>know_beyond_j5 v s _ _ _ _ x) h.h4]
 unfold know_beyond_j5
 rw [cutN (f:=fun x=>know_beyond_j6 v s _ _ _ _ _ x) h.h5]
 unfold know_beyond_j6
 rw [cutN (f:=fun x=>know_beyond_j7 v s _ _ _ _ _ _ x) h.h6]
 unfold know_beyond_j7
 rw [cutN (f:=fun x=>know_beyond_j8 _ _ _ _ _ _ _ x) h.h7]
 rfl
theorem eq8_t {a b:V8}:eq8 a b=true↔a=b:=by
 rw [eq8_iff]
 constructor
 ·rintro ⟨h0,h1,h2,h3,h4,h5,h6,h7⟩
  cases a; cases b
  simp only at h0 h1 h2 h3 h4 h5 h6 h7
  rw [h0,h1,h2,h3,h4,h5,h6,h7]
 ·rintro rfl; exact ⟨rfl,rfl,rfl,rfl,rfl,rfl,rfl,rfl⟩
theorem eq8_self (a:V8):eq8 a a=true:=eq8_t.2 rfl
theorem keyEq_v8 (a b:V8):keyEq (V8.row a) (V8.row b)=eq8 a b:=by
 rw [Bool.eq_iff_iff,eq8_iff]
 simp [keyEq,pcEq]
def vlk (l:List (V8 × Int)) (v:V8):Option Int:=(l.find? fun e=>eq8 e.1 v).map (·.2)
theorem mget_v8 (l:List (V8 × Int)) (v:V8):mget V8.row l v=vlk l v:=by
 unfold mget vlk; simp only [keyEq_v8]
def fat:List Frag→V8→Nat→Option Int
 | [],_,_=>none
 | f::l,v,n=>if eq8 f.vec v=true then some (n:Int) else fat l v (n + 1)
theorem fat_app {g:Frag} {v:V8}:∀ (l:List Frag) (n:Nat),fat (l++[g]) v n=(fat l v n).or (if eq8 g.vec v=true then some ((n + l.length:Nat):Int) else none)
 | [],n=>by rw [List.nil_append,fat,fat]; simp [fat]
 | f::l,n=>by
  rw [List.cons_append,fat,fat]
  split
  ·rfl
  ·rw [fat_app l,List.length_cons]
   have:n + 1 + l.length=n + (l.length + 1):=by omega
   rw [this]
theorem vlk_new {at_:List (V8 × Int)} {v w:V8} {n:Int} (h:vlk at_ v=none):vlk (mset V8.row at_ v n) w=(vlk at_ w).or (if eq8 v w=true then some n else none):=by
 unfold mset
 rw [mget_v8,h,if_neg (by simp)]
 unfold vlk
 rw [List.find?_append]
 cases List.find? (fun e=>eq8 e.1 w) at_ with
 | none=>rw [List.find?_cons]; cases eq8 v w<;>rfl
 | some e=>rfl
theorem fat_add {id:ByteArray} {v:V8}:∀ (l:List Frag) (n:Nat),(fat l v n=none∧addF id v l=l++[⟨[id],v⟩])∨∃ pre f post,l=pre++f::post∧fat l v n=some ((n + pre.length:Nat):Int)∧f.vec=v∧addF id v l=pre++⟨f.ids++[id],f.vec⟩::post
 | [],n=>.inl ⟨rfl,rfl⟩
 | f::l,n=>by
  by_cases hf:eq8 f.vec v=true
  ·exact .inr ⟨[],f,l,rfl,by rw [fat,if_pos hf]; rfl,eq8_t.1 hf,by rw [addF,if_pos hf]; rfl⟩
  ·rcases fat_add l (n + 1) with ⟨h1,h2⟩ | ⟨pre,g,post,h1,h2,h3,h4⟩
   ·exact .inl ⟨by rw [fat,if_neg hf,h1],by rw [addF,if_neg hf,h2]; rfl⟩
   ·refine .inr ⟨f::pre,g,post,by rw [h1]; rfl,?_,h3,by rw [addF,if_neg hf,h4]; rfl⟩
    rw [fat,if_neg hf,h2,List.length_cons]
    congr 2; omega
theorem fat_same {pre post:List Frag} {f g:Frag} (h:g.vec=f.vec) (w:V8) (n:Nat):fat (pre++g::post) w n=fat (pre++f::post) w n:=by
 induction pre generalizing n with
 | nil=>rw [List.nil_append,List.nil_append,fat,fat,h]
 | cons x pre ih=>rw [List.cons_append,List.cons_append,fat,fat,ih]
theorem plain_step {out:List Frag} {at_:List (V8 × Int)} {id:ByteArray} {v:V8} {K:List Frag→List (V8 × Int)→Option Know} {N:Nat} (hat:∀ w,vlk at_ w=fat out w 0) (h1:out.length≤N) (h2:idsN out≤N) (hN:N≤999990) :
  ∃ at',(∀ w,vlk at' w=fat (addF id v out) w 0) ∧
  opt (mget V8.row at_ v) (fun x=>bnd (atL out x) fun y=>chk (roomL y.ids.length 1) (K (out.set x.toNat (Frag.mk (y.ids++[id]) y.vec)) at_))
   (chk (roomL out.length 1) (bnd (atL (out++[Frag.mk ([]:List ByteArray) v]) (out.length:Int)) fun x=>chk (roomL x.ids.length 1) (K ((out++[Frag.mk ([]:List ByteArray) v]).set (out.length:Int).toNat (Frag.mk (x.ids++[id]) x.vec)) (mset V8.row at_ v (out.length:Int)))))=K (addF id v out) at':=by
 rw [mget_v8]
 rcases fat_add (id:=id) (v:=v) out 0 with ⟨h3,h4⟩ | ⟨pre,f,post,h3,h4,h5,h6⟩
 ·refine ⟨mset V8.row at_ v (out.length:Int),fun w=>?_,?_⟩
  ·rw [vlk_new (by rw [hat]; exact h3),hat,h4,fat_app,Nat.zero_add]
  ·rw [hat v,h3]
   show chk _ _=_
   rw [chk_t (roomL_of (by omega)),bnd_of (at_app out _ []),chk_t (roomL_of (by simp)),Int.toNat_natCast,set_app,h4]; rfl
 ·refine ⟨at_,fun w=>?_,?_⟩
  ·rw [hat,h6,h3]; exact (fat_same (f:=f) (g:=⟨f.ids++[id],f.vec⟩) rfl w 0).symm
  ·rw [hat v,h4,Nat.zero_add]
   have hf:f.ids.length≤idsN out:=idsN_mem (by rw [h3]; simp)
   show bnd _ _=_
   rw [bnd_of (show atL out (pre.length:Int)=some f by rw [h3]; exact at_app pre f post),chk_t (roomL_of (by omega)),Int.toNat_natCast,h6]
   rw [show out.set pre.length (Frag.mk (f.ids++[id]) f.vec)=pre++Frag.mk (f.ids++[id]) f.vec::post by rw [h3]; exact set_app pre f _ post]
theorem addF_n (id:ByteArray) (v:V8):∀ l:List Frag,idsN (addF id v l)=idsN l + 1
 | []=>by simp [addF,idsN]
 | f::l=>by
  rw [addF,idsN_cons]
  split
  ·rw [idsN_cons]; simp; omega
  ·rw [idsN_cons,addF_n id v l]; omega
theorem plain4_l {k:Know}:∀ (names:List ByteArray) (out:List Frag) (at_:List (V8 × Int)) (N:Nat),(∀ id∈names,id∈namesK k)→(∀ w,vlk at_ w=fat out w 0)→out.length≤N→idsN out≤N→N + names.length≤999980 →
  know_Plain_l4 k (allM k.l []) names out at_=some ⟨k.star,names.foldl (stepP k) out⟩
 | [],out,at_,N,_,_,_,_,_=>by rw [know_Plain_l4]; rfl
 | id::names,out,at_,N,hm,hat,h1,h2,hN=>by
  rw [List.length_cons] at hN
  rw [know_Plain_l4,mget_srw,allM_get (hm id (List.mem_cons_self ..))]
  have hm':∀ z∈names,z∈namesK k:=fun z hz=>hm z (List.mem_cons_of_mem _ hz)
  show bnd (know_beyond_s (sumV id k.l zero8) k.star) _=_
  rw [bnd_of (kbeyond_s (nn_sum id k.l nn_zero)),List.foldl_cons]
  cases he:eq8 (beyondV k id) zero8 with
  | true =>
   rw [stepP_t he]
   refine (br_t (c:=eq8 (cutV (sumV id k.l zero8) k.star) ⟨0,0,0,0,0,0,0,0⟩) he).trans ?_
   exact plain4_l names out at_ N hm' hat h1 h2 (by omega)
  | false =>
   rw [stepP_f he]
   refine (br_f (c:=eq8 (cutV (sumV id k.l zero8) k.star) ⟨0,0,0,0,0,0,0,0⟩) he).trans ?_
   obtain ⟨at',hat',e⟩:=plain_step (id:=id) (v:=beyondV k id) (K:=fun a b=>know_Plain_l4 k (allM k.l []) names a b) hat h1 h2 (by omega)
   refine Eq.trans e ?_
   have:=addF_len id (beyondV k id) out
   exact plain4_l names _ at' (N + 1) hm' hat' (by omega) (by rw [addF_n]; omega) (by omega)
theorem plain3_l {k:Know}:∀ (names:List ByteArray),(∀ id∈names,id∈namesK k)→names.length≤999970→know_Plain_l3 k (allM k.l []) names=some ⟨k.star,names.foldl (stepP k) []⟩
 | [],_,_=>by rw [know_Plain_l3]; rfl
 | id::names,hm,hN=>by
  rw [List.length_cons] at hN
  rw [know_Plain_l3,mget_srw,allM_get (hm id (List.mem_cons_self ..))]
  have hm':∀ z∈names,z∈namesK k:=fun z hz=>hm z (List.mem_cons_of_mem _ hz)
  show bnd (know_beyond_s (sumV id k.l zero8) k.star) _=_
  rw [bnd_of (kbeyond_s (nn_sum id k.l nn_zero)),List.foldl_cons]
  cases he:eq8 (beyondV k id) zero8 with
  | true =>
   rw [stepP_t he]
   refine (br_t (c:=eq8 (cutV (sumV id k.l zero8) k.star) ⟨0,0,0,0,0,0,0,0⟩) he).trans ?_
   exact plain3_l names hm' (by omega)
  | false =>
   rw [stepP_f he]
   refine (br_f (c:=eq8 (cutV (sumV id k.l zero8) k.star) ⟨0,0,0,0,0,0,0,0⟩) he).trans ?_
   rw [mget_v8,show vlk ([]:List (V8 × Int)) (cutV (sumV id k.l zero8) k.star)=none from rfl,opt_n]
   rw [chk_t (by rfl)]
   refine plain4_l names [⟨[id],beyondV k id⟩] _ 1 hm' (fun w=>?_) (by simp) (by simp [idsN]) (by omega)
   rw [vlk_new (by rfl)]
   show (none:Option Int).or _=_
   rw [fat]
   rfl
theorem namesK_len {k:Know} {N:Nat} (h:KT k N):(namesK k).length≤N:=by
 rw [←allM_names]
 unfold sortS
 rw [List.length_map,List.length_mergeSort,List.length_map,List.length_map]
 have:=allM_len k.l []
 have:=h.ids
 simp at *; omega
theorem kplain_s {k:Know} (h:KT k 990000) (hi:IdsOk k):know_Plain_s k=some (plainK k):=by
 have hl:=h.l
 have hids:=h.ids
 unfold know_Plain_s
 have hlen:=allM_len k.l []
 have hs:sorted_s (allM k.l [])=some (namesK k):=by
  unfold sorted_s
  rw [chk_t,allM_names]
  rw [Bool.and_eq_true,List.all_eq_true]
  refine ⟨decide_eq_true (by simp at hlen; omega),fun e he=>decide_eq_true ?_⟩
  have:e.1∈namesK k:=by
   rw [←allM_names,sortS_mem]; exact List.mem_map.2 ⟨e,he,rfl⟩
  obtain ⟨f,hf,hz⟩:=namesK_mem.1 this
  exact hi f hf _ hz
 have hnl:=namesK_len h
 rw [chk_t (smallL_of (by omega)),plain1_l _ _ fun f hf=>Nat.le_trans (idsN_mem hf) (by omega),bnd_of hs,chk_t (smallL_of (by omega)),plain3_l _ (fun _ h=>h) (by omega)]
 rfl
theorem stepP_n (k:Know):∀ (names:List ByteArray) (out:List Frag) (N:Nat),out.length≤N→idsN out≤N→(names.foldl (stepP k) out).length≤N + names.length∧idsN (names.foldl (stepP k) out)≤N + names.length
 | [],out,N,h1,h2=>⟨h1,h2⟩
 | id::names,out,N,h1,h2=>by
  rw [List.foldl_cons,List.length_cons]
  have key:(stepP k out id).length≤N + 1∧idsN (stepP k out id)≤N + 1:=by
   unfold stepP
   split
   ·omega
   ·have:=addF_len id (beyondV k id) out
    rw [addF_n]; omega
  have:=stepP_n k names _ (N + 1) key.1 key.2
  omega
theorem KT.plain {k:Know} {N:Nat} (h:KT k N):KT (plainK k) N:=by
 have h1:=stepP_n k (namesK k) [] 0 (by simp) (by simp [idsN])
 have h2:=namesK_len h
 exact ⟨by show ((namesK k).foldl (stepP k) []).length≤N; omega,by show idsN ((namesK k).foldl (stepP k) [])≤N; omega⟩
end
end Go.Proofs.YtidkmoohgadjkaaGreat
namespace Go.Proofs.YtidkmoohgadjkaaGreat
open Go E Pred
noncomputable section
open Classical
theorem at_cut (a s:V8) (r:Int):(cutV a s).at r=cutI (a.at r) (s.at r):=by
 unfold V8.at cutV
 repeat' split
 all_goals rfl
theorem at_zero (r:Int):zero8.at r=0:=by
 unfold V8.at zero8
 repeat' split
 all_goals rfl
theorem has_zero (r c:Int):hasV zero8 r c=false:=by
 unfold hasV; rw [at_zero]; exact decide_eq_false (by omega)
theorem has_cut (s a:V8) (r c:Int):(hasV s r c || hasV (cutV a s) r c)=(hasV s r c || hasV a r c):=by
 unfold hasV
 rw [at_cut,Bool.eq_iff_iff]
 simp only [Bool.or_eq_true,decide_eq_true_eq]
 unfold cutI leI
 by_cases h:a.at r≤s.at r
 ·rw [if_pos (by simpa using h)]; omega
 ·rw [if_neg (by simpa using h)]
theorem has_sum (id:ByteArray) (r c:Int):∀ (l:List Frag) (v:V8),hasV (sumV id l v) r c=(hasV v r c || l.any fun f=>hasF f id r c)
 | [],v=>by simp [sumV]
 | f::l,v=>by
  have ih:=fun v=>has_sum id r c l v
  have e:sumV id (f::l) v=sumV id l (if memB f.ids id then maxV v f.vec else v):=rfl
  rw [e,ih,List.any_cons]
  unfold hasF
  cases memB f.ids id with
  | true=>simp only [if_true,Bool.true_and]; rw [has_max,Bool.or_assoc]
  | false=>simp
theorem hasK_sum (k:Know) (id:ByteArray) (r c:Int):hasK k id r c=(hasV k.star r c || hasV (beyondV k id) r c):=by
 unfold beyondV hasK
 rw [has_cut,has_sum,has_zero,Bool.false_or]
theorem sum_none {id:ByteArray}:∀ (l:List Frag) (v:V8),(∀ f∈l,id ∉ f.ids)→sumV id l v=v
 | [],v,_=>rfl
 | f::l,v,h=>by
  have e:sumV id (f::l) v=sumV id l (if memB f.ids id then maxV v f.vec else v):=rfl
  have hf:¬ memB f.ids id=true:=by rw [memB_iff]; exact h f (List.mem_cons_self ..)
  rw [e,if_neg hf]; exact sum_none l v fun g hg=>h g (List.mem_cons_of_mem _ hg)
theorem cutI_0 (s:Int):cutI 0 s=0:=by unfold cutI; split<;>rfl
theorem cut_zero (s:V8):cutV zero8 s=zero8:=by unfold cutV zero8; simp only [cutI_0]
theorem beyond_none {k:Know} {id:ByteArray} (h:id ∉ namesK k):beyondV k id=zero8:=by
 unfold beyondV
 rw [sum_none _ _ fun f hf hz=>h (namesK_mem.2 ⟨f,hf,hz⟩),cut_zero]
structure Pieces (k:Know) (P:ByteArray→Prop) (out:List Frag):Prop where
 of_:∀ f∈out, ∀ id∈f.ids,beyondV k id=f.vec∧f.vec≠zero8
 has:∀ id,P id→beyondV k id≠zero8→∃ f∈out,id∈f.ids
theorem pieces_step {k:Know} {P:ByteArray→Prop} {out:List Frag} {id:ByteArray} (h:Pieces k P out):Pieces k (fun x=>P x∨x=id) (stepP k out id):=by
 unfold stepP
 by_cases hz:eq8 (beyondV k id) zero8=true
 ·rw [if_pos hz]
  refine ⟨h.of_,fun x hx hb=>?_⟩
  rcases hx with hx | rfl
  ·exact h.has x hx hb
  ·exact absurd (eq8_t.1 hz) hb
 ·rw [if_neg hz]
  have hz':beyondV k id≠zero8:=fun e=>hz (eq8_t.2 e)
  rcases fat_add (id:=id) (v:=beyondV k id) out 0 with ⟨_,e⟩ | ⟨pre,f,post,e1,_,e2,e⟩
  ·rw [e]
   refine ⟨fun g hg x hx=>?_,fun x hx hb=>?_⟩
   ·rcases List.mem_append.1 hg with hg | hg
    ·exact h.of_ g hg x hx
    ·rw [List.mem_singleton.1 hg] at hx ⊢
     rw [List.mem_singleton.1 hx]; exact ⟨rfl,hz'⟩
   ·rcases hx with hx | rfl
    ·obtain ⟨g,hg,hi⟩:=h.has x hx hb
     exact ⟨g,List.mem_append_left _ hg,hi⟩
    ·exact ⟨⟨[x],beyondV k x⟩,List.mem_append_right _ (List.mem_singleton.2 rfl),List.mem_singleton.2 rfl⟩
  ·rw [e]
   refine ⟨fun g hg x hx=>?_,fun x hx hb=>?_⟩
   ·rcases List.mem_append.1 hg with hg | hg
    ·exact h.of_ g (by rw [e1]; exact List.mem_append_left _ hg) x hx
    ·rcases List.mem_cons.1 hg with rfl | hg
     ·rcases List.mem_append.1 hx with hx | hx
      ·exact h.of_ f (by rw [e1]; exact List.mem_append_right _ (List.mem_cons_self ..)) x hx
      ·rw [List.mem_singleton.1 hx]
       exact ⟨e2.symm,by rw [e2]; exact hz'⟩
     ·exact h.of_ g (by rw [e1]; exact List.mem_append_right _ (List.mem_cons_of_mem _ hg)) x hx
   ·rcases hx with hx | rfl
    ·obtain ⟨g,hg,hi⟩:=h.has x hx hb
     rw [e1] at hg
     rcases List.mem_append.1 hg with hg | hg
     ·exact ⟨g,List.mem_append_left _ hg,hi⟩
     ·rcases List.mem_cons.1 hg with rfl | hg
      ·exact ⟨_,List.mem_append_right _ (List.mem_cons_self ..),List.mem_append_left _ hi⟩
      ·exact ⟨g,List.mem_append_right _ (List.mem_cons_of_mem _ hg),hi⟩
    ·exact ⟨_,List.mem_append_right _ (List.mem_cons_self ..),List.mem_append_right _ (List.mem_singleton.2 rfl)⟩
theorem pieces_fold {k:Know}:∀ (names:List ByteArray) {P:ByteArray→Prop} {out:List Frag},Pieces k P out→Pieces k (fun x=>P x∨x∈names) (names.foldl (stepP k) out)
 | [],P,out,h=>⟨h.of_,fun x hx hb=>h.has x (by simpa using hx) hb⟩
 | id::names,P,out,h=>by
  have:=pieces_fold names (pieces_step (id:=id) h)
  rw [List.foldl_cons]
  exact ⟨this.of_,fun x hx hb=>this.has x (by
   rcases hx with hx | hx
   ·exact .inl (.inl hx)
   ·rcases List.mem_cons.1 hx with hx | hx
    ·exact .inl (.inr hx)
    ·exact .inr hx) hb⟩
theorem pieces_plain (k:Know):Pieces k (fun _=>True) (plainK k).l:=by
 have h:=pieces_fold (k:=k) (namesK k) (P:=fun _=>False) (out:=[]) ⟨fun f hf=>(by cases hf),fun id h=>h.elim⟩
 refine ⟨h.of_,fun id _ hb=>h.has id (.inr ?_) hb⟩
 exact Classical.byContradiction fun hn=>hb (beyond_none hn)
theorem maxI_0 {a:Int} (h:0≤a):maxI 0 a=a:=by unfold maxI; split<;>omega
theorem max_zero {v:V8} (h:NonNeg v):maxV zero8 v=v:=by
 unfold maxV zero8
 simp only [maxI_0 h.h0,maxI_0 h.h1,maxI_0 h.h2,maxI_0 h.h3,maxI_0 h.h4,maxI_0 h.h5,maxI_0 h.h6,maxI_0 h.h7]
theorem cut_nnI {a s:Int} (h:0≤a):0≤cutI a s:=by unfold cutI; split<;>omega
theorem NonNeg.cut {a:V8} (h:NonNeg a) (s:V8):NonNeg (cutV a s):=⟨cut_nnI h.h0,cut_nnI h.h1,cut_nnI h.h2,cut_nnI h.h3,cut_nnI h.h4,cut_nnI h.h5,cut_nnI h.h6,cut_nnI h.h7⟩
theorem nn_beyond (k:Know) (id:ByteArray):NonNeg (beyondV k id):=(nn_sum id k.l nn_zero).cut _
theorem sum_all {id:ByteArray} {b:V8}:∀ (l:List Frag) (v:V8),(∀ f∈l,id∈f.ids→f.vec=b)→sumV id l v=if (l.any fun f=>memB f.ids id)=true then maxV v b else v
 | [],v,_=>rfl
 | f::l,v,h=>by
  have e:sumV id (f::l) v=sumV id l (if memB f.ids id then maxV v f.vec else v):=rfl
  rw [e,sum_all l _ fun g hg=>h g (List.mem_cons_of_mem _ hg),List.any_cons]
  by_cases hf:memB f.ids id=true
  ·rw [if_pos hf,hf,h f (List.mem_cons_self ..) (memB_iff.1 hf),Bool.true_or,if_pos rfl,maxV_idem]
   split<;>rfl
  ·rw [if_neg hf]
   simp only [Bool.not_eq_true] at hf
   rw [hf,Bool.false_or]
theorem sum_plain (k:Know) (id:ByteArray):sumV id (plainK k).l zero8=beyondV k id:=by
 have hp:=pieces_plain k
 rw [sum_all (b:=beyondV k id) _ _ fun f hf hi=>(hp.of_ f hf id hi).1.symm]
 split
 ·exact max_zero (nn_beyond k id)
 ·rename_i h
  refine (Classical.byContradiction fun hb=>h ?_:zero8=beyondV k id)
  obtain ⟨f,hf,hi⟩:=hp.has id trivial fun e=>hb e.symm
  exact List.any_eq_true.2 ⟨f,hf,memB_iff.2 hi⟩
theorem cutI_cut (a s:Int):cutI (cutI a s) s=cutI a s:=by
 unfold cutI
 cases h:leI a s with
 | true=>simp
 | false=>simp [h]
theorem cut_cut (a s:V8):cutV (cutV a s) s=cutV a s:=by unfold cutV; simp only [cutI_cut]
theorem beyond_plain (k:Know) (id:ByteArray):beyondV (plainK k) id=beyondV k id:=by
 unfold beyondV
 rw [sum_plain]
 exact cut_cut _ _
theorem hasK_plain (k:Know) (id:ByteArray) (r c:Int):hasK (plainK k) id r c=hasK k id r c:=by
 rw [hasK_sum,hasK_sum,beyond_plain]; rfl
theorem fold_filter (k:Know):∀ (names:List ByteArray) (out:List Frag),names.foldl (stepP k) out=(names.filter fun id=>!eq8 (beyondV k id) zero8).foldl (stepP k) out
 | [],_=>rfl
 | id::names,out=>by
  rw [List.foldl_cons,List.filter_cons]
  cases h:eq8 (beyondV k id) zero8 with
  | true=>rw [stepP_t h]; exact fold_filter k names out
  | false=>rw [if_pos (by rfl),List.foldl_cons]; exact fold_filter k names _
theorem plainK_ext {a b:Know} (hs:a.star=b.star) (hb:∀ id,beyondV a id=beyondV b id):plainK a=plainK b:=by
 have hstep:stepP a=stepP b:=by funext out id; unfold stepP; rw [hb]
 have hn:(namesK a).filter (fun id=>!eq8 (beyondV a id) zero8)=(namesK b).filter fun id=>!eq8 (beyondV b id) zero8:=by
  refine srt_ext ((namesK_srt a).filter _) ((namesK_srt b).filter _) fun z=>?_
  have key:∀ {a b:Know},(∀ id,beyondV a id=beyondV b id)→z∈(namesK a).filter (fun id=>!eq8 (beyondV a id) zero8)→z∈(namesK b).filter fun id=>!eq8 (beyondV b id) zero8:=fun {a b} hb h=>by
   rw [List.mem_filter] at h ⊢
   have h2:=h.2
   rw [hb] at h2
   refine ⟨Classical.byContradiction fun hn=>?_,h2⟩
   rw [beyond_none hn,eq8_self] at h2
   cases h2
  exact ⟨key hb,key fun id=>(hb id).symm⟩
 unfold plainK
 rw [fold_filter a,fold_filter b,hn,hstep,hs]
theorem plain_plain (k:Know):plainK (plainK k)=plainK k:=plainK_ext rfl fun id=>beyond_plain k id
theorem eqL_refl:∀ l:List ByteArray,eqL l l=true
 | []=>rfl
 | x::l=>by rw [eqL,eqS_self,eqL_refl l]; rfl
theorem alikeL_refl:∀ l:List Frag,alikeL l l=true
 | []=>rfl
 | f::l=>by rw [alikeL,alikeL_refl l]; unfold alikeF; rw [eq8_self,eqL_refl]; rfl
theorem alike_self (k:Know):alikeK k k=true:=by unfold alikeK; rw [eq8_self,alikeL_refl]; rfl
def pieceK (k:Know) (id:ByteArray) (r c:Int):Know:=⟨k.star,k.l++[⟨[id],withV zero8 r c⟩]⟩
def withK (k:Know) (id:ByteArray) (r c:Int):Know:=plainK (pieceK k id r c)
theorem hasK_with (k:Know) (id:ByteArray) (r c:Int) (id':ByteArray) (r' c':Int):hasK (withK k id r c) id' r' c'=(hasK k id' r' c' || (eqS id id'&&hasV (withV zero8 r c) r' c')):=by
 unfold withK
 rw [hasK_plain]
 unfold pieceK hasK
 show (hasV k.star r' c' || (k.l++[Frag.mk [id] (withV zero8 r c)]).any _)=_
 rw [List.any_append,←Bool.or_assoc]
 congr 1
 simp [hasF,memB]
def ownB (k:Know) (r c:Int):Bool:=decide (1≤r∧r≤8∧1≤c∧k.star.at r=wr .i64 (c - 1))
def ownK (k:Know) (id:ByteArray) (r c:Int):Know:=if ownB k r c=true then plainK ⟨withV k.star r c,k.l⟩ else withK k id r c
theorem at_putq (v:V8) (r n q:Int) (hr:1≤r∧r≤8):(v.put r n).at q=if q=r then n else v.at q:=by
 by_cases hq:q=r
 ·rw [if_pos hq,hq]; exact at_put v r n hr
 ·rw [if_neg hq]
  rcases r8 r with h' | rfl | rfl | rfl | rfl | rfl | rfl | rfl | rfl
  ·omega
  all_goals simp [V8.put,V8.at,hq]
theorem at_with (v:V8) (r c q:Int) (hr:1≤r∧r≤8):(withV v r c).at q=if q=r then maxI (v.at r) c else v.at q:=at_putq v r _ q hr
theorem hasK_own {k:Know} {id:ByteArray} {r c:Int} (hc : -9223372036854775808≤c∧c≤9223372036854775807) {id':ByteArray} {r' c':Int} (h:hasK (withK k id r c) id' r' c'=true):hasK (ownK k id r c) id' r' c'=true:=by
 unfold ownK
 by_cases hb:ownB k r c=true
 ·rw [if_pos hb,hasK_plain]
  unfold ownB at hb
  rw [decide_eq_true_eq] at hb
  obtain ⟨h1,h2,h3,h4⟩:=hb
  rw [wr64 (by omega) (by omega)] at h4
  rw [hasK_with] at h
  unfold hasK at h ⊢
  have mono:∀ q n,hasV k.star q n=true→hasV (withV k.star r c) q n=true:=fun q n hq=>by
   unfold hasV at hq ⊢
   rw [decide_eq_true_eq] at hq ⊢
   rw [at_with _ _ _ _ ⟨h1,h2⟩]
   refine ⟨hq.1,hq.2.1,hq.2.2.1,?_⟩
   split
   ·rename_i e; subst e; unfold maxI; split<;>omega
   ·exact hq.2.2.2
  show (hasV (withV k.star r c) r' c' || k.l.any _)=true
  rw [Bool.or_eq_true,Bool.or_eq_true] at h
  rw [Bool.or_eq_true]
  rcases h with (h | h) | h
  ·exact .inl (mono _ _ h)
  ·exact .inr h
  ·rw [Bool.and_eq_true] at h
   refine .inl ?_
   have h':=h.2
   unfold hasV at h' ⊢
   rw [decide_eq_true_eq] at h' ⊢
   rw [at_with _ _ _ _ ⟨h1,h2⟩] at h' ⊢
   rw [at_zero,at_zero] at h'
   refine ⟨h'.1,h'.2.1,h'.2.2.1,?_⟩
   by_cases e:r'=r
   ·rw [if_pos e] at h' ⊢
    have:=h'.2.2.2
    unfold maxI at this ⊢
    split at this<;>split<;>omega
   ·rw [if_neg e] at h'; omega
 ·rw [if_neg hb]; exact h
end
end Go.Proofs.YtidkmoohgadjkaaGreat
set_option maxHeartbeats 0
namespace Go.Proofs.YtidkmoohgadjkaaGreat
open Go E
noncomputable section
open Pred
def ref06_Put_l2 (p1:Item):List Item→(List Item)→Option ((List Item))
  | [],v7 =>
  some v7
  | x2e::xs2,v7 =>
  (br (!(ltS x2e.id p1.id || eqS x2e.id p1.id))
   (chk (roomL v7.length 1)
    (ref06_Put_l2 p1 xs2  (v7++[x2e])))
   (ref06_Put_l2 p1 xs2  v7))
def ref06_Put_l1 (p0:List Item) (p1:Item):List Item→(List Item)→Option ((List Item))
  | [],v2 =>
  (chk (roomL v2.length 1)
   (chk (smallL p0)
     ((ref06_Put_l2 p1) p0 (v2++[p1]))))
  | x1e::xs1,v2 =>
  (br (ltS x1e.id p1.id)
   (chk (roomL v2.length 1)
    (ref06_Put_l1 p0 p1 xs1  (v2++[x1e])))
   (ref06_Put_l1 p0 p1 xs1  v2))
def ref06_Put_s (p0:List Item) (p1:Item):Option ((List Item)) :=
 (chk (smallL p0)
   ((ref06_Put_l1 p0 p1) p0 ([]:List Item)))
def ref06_Both_l1:List Item→(List Item)→Option ((List Item))
  | [],v3 =>
  some v3
  | x1e::xs1,v3 =>
  (bnd (ref06_Get_s v3 x1e.id) fun y4 =>
   (br (!y4.2)
    (bnd (ref06_Put_s v3 x1e) fun y7 =>
     (ref06_Both_l1 xs1  y7))
    (bnd (ref01_Behind_s x1e y4.1) fun y9 =>
     (br y9
      (bnd (ref06_Put_s v3 x1e) fun y12 =>
       (ref06_Both_l1 xs1  y12))
      (ref06_Both_l1 xs1  v3)))))
def ref06_Both_s (p0:List Item) (p1:List Item):Option ((List Item)) :=
 (chk (roomL 0 p0.length)
  (chk (smallL p1)
    ((ref06_Both_l1) p1 p0)))
def ref06_SameList_l1 (p1:List Item):List Item→Int→Option (Bool)
  | [],v2 =>
  some true
  | x1e::xs1,v2 =>
  (bnd (atL p1 v2) fun x3 =>
   (bnd (ref01_Same_s x1e x3) fun y5 =>
    (br (!y5)
     (some false)
     (ref06_SameList_l1 p1 xs1 (v2 + 1) ))))
def ref06_SameList_s (p0:List Item) (p1:List Item):Option (Bool) :=
 (br (!eqI (p0.length:Int) (p1.length:Int))
  (some false)
  (chk (smallL p0)
    ((ref06_SameList_l1 p1) p0 0 )))
variable {X:Task→Prop} (hX:Closed X) {Q:A→List Blk→Prop}
include hX
theorem ref06_Put_c  {p0:List Item} {p1:Item} {r:(List Item)} (h:ref06_Put_s p0 p1=some r) (hQ:Q (.one (.own 0)) [.rows 8 (r.map Item.row)]):X (.call 92 [.one (.p (.sl (p0.map Item.row))),.agg (Item.cs p1)] [] Q):=by
  unfold ref06_Put_s at h
  refine call_intro hX Tryz.func92 rfl rfl ?_
  revert h
  refine chkk fun hs1 h=>?_
  conv=>whnf
  repeat((first|refine dw ?_);conv=>whnf)
  refine loop_k hX [8] ?_
  conv=>whnf
  refine loop_lisx1 (fun (v1:Int) (v2:List Item)=>pad [(0,.one (.p (.sl (p0.map Item.row)))),(2,.one (.ptr 0 0)),(1,.one (.own 1)),(0,iv v1)] 48) (fun (v1:Int) (v2:List Item)=>[.box (Item.cs p1),.rows 8 (v2.map Item.row)]) _ p0 (fun pre1 x1e xs1 v1 v2 hl1 hi1 h ih1=>?_) (fun v1 v2 hi1 h=>?_) ([]:List Item) h
  ·rw [ref06_Put_l1] at h
   have am1:=at_mid hl1 hi1
   refine loop_intro hX ?_
   conv=>whnf
   repeat((first|refine dw ?_|refine eqv_to (map_len _) ?_|refine bct (lt_mid hl1 hi1) ?_|refine bct (at_in am1) ?_|refine bct (andt (at_in am1) rfl) ?_|refine row_in (at_row am1) ?_|refine bct (andt (at_in (at_nat am1)) rfl) ?_|refine row_in (at_row (at_nat am1)) ?_);conv=>whnf)
   revert h
   refine brk (fun c3 h=>?_) (fun c3 h=>?_)
   ·revert h
    refine chkk fun c4 h=>?_
    conv=>whnf
    repeat((first|refine dw ?_|refine bct c3 ?_|refine bct (at_in am1) ?_|refine bct (andt (at_in am1) rfl) ?_|refine row_in (at_row am1) ?_|refine bct (andt (at_in (at_nat am1)) rfl) ?_|refine row_in (at_row (at_nat am1)) ?_|refine bct (room_map c4 rfl rfl rfl rfl) ?_|refine eqv_to (cat_one (f:=Item.row) v2 x1e) ?_);conv=>whnf)
    exact ih1 _ (v2++[x1e]) (wrL hs1 hl1 hi1) h
   ·conv=>whnf
    repeat((first|refine dw ?_|refine bcf c3 ?_);conv=>whnf)
    exact ih1 _ v2 (wrL hs1 hl1 hi1) h
  ·rw [ref06_Put_l1] at h
   refine loop_intro hX ?_
   revert h
   refine chkk fun c5 h=>?_
   revert h
   refine chkk fun hs2 h=>?_
   conv=>whnf
   repeat((first|refine dw ?_|refine eqv_to (map_len _) ?_|refine bcf (lt_end hi1) ?_|refine bct (room_map c5 rfl rfl rfl rfl) ?_|refine eqv_to (cat_one (f:=Item.row) v2 p1) ?_);conv=>whnf)
   refine loop_lisx1 (fun (v6:Int) (v7:List Item)=>pad [(0,.one (.p (.sl (p0.map Item.row)))),(2,.one (.ptr 0 0)),(1,.one (.own 1)),(1,iv v6)] 47) (fun (v6:Int) (v7:List Item)=>[.box (Item.cs p1),.rows 8 (v7.map Item.row)]) _ p0 (fun pre2 x2e xs2 v6 v7 hl2 hi2 h ih2=>?_) (fun v6 v7 hi2 h=>?_) (v2++[p1]) h
   ·rw [ref06_Put_l2] at h
    have am2:=at_mid hl2 hi2
    refine loop_intro hX ?_
    conv=>whnf
    repeat((first|refine dw ?_|refine eqv_to (map_len _) ?_|refine bct (lt_mid hl2 hi2) ?_|refine bct (at_in am2) ?_|refine bct (andt (at_in am2) rfl) ?_|refine row_in (at_row am2) ?_|refine bct (andt (at_in (at_nat am2)) rfl) ?_|refine row_in (at_row (at_nat am2)) ?_);conv=>whnf)
    revert h
    refine brk (fun c8 h=>?_) (fun c8 h=>?_)
    ·revert h
     refine chkk fun c9 h=>?_
     conv=>whnf
     repeat((first|refine dw ?_|refine bct c8 ?_|refine bct (at_in am2) ?_|refine bct (andt (at_in am2) rfl) ?_|refine row_in (at_row am2) ?_|refine bct (andt (at_in (at_nat am2)) rfl) ?_|refine row_in (at_row (at_nat am2)) ?_|refine bct (room_map c9 rfl rfl rfl rfl) ?_|refine eqv_to (cat_one (f:=Item.row) v7 x2e) ?_);conv=>whnf)
     exact ih2 _ (v7++[x2e]) (wrL hs2 hl2 hi2) h
    ·conv=>whnf
     repeat((first|refine dw ?_|refine bcf c8 ?_);conv=>whnf)
     exact ih2 _ v7 (wrL hs2 hl2 hi2) h
   ·rw [ref06_Put_l2] at h
    refine loop_intro hX ?_
    conv=>whnf
    repeat((first|refine dw ?_|refine eqv_to (map_len _) ?_|refine bcf (lt_end hi2) ?_);conv=>whnf)
    exact ret_some (f:=fun y=>.one (.own 0)) (g:=fun y=>[.rows 8 (y.map Item.row)]) h hQ
theorem ref06_Both_c  {p0:List Item} {p1:List Item} {r:(List Item)} (h:ref06_Both_s p0 p1=some r) (hQ:Q (.one (.p (.sl (r.map Item.row)))) []):X (.call 29 [.one (.p (.sl (p0.map Item.row))),.one (.p (.sl (p1.map Item.row)))] [] Q):=by
  unfold ref06_Both_s at h
  refine call_nz hX ?_
  conv=>whnf
  refine call_intro hX Tryz.func29 rfl rfl ?_
  revert h
  refine chkk fun c1 h=>?_
  revert h
  refine chkk fun hs1 h=>?_
  conv=>whnf
  repeat((first|refine dw ?_|refine bct (room_zero c1 (List.length_map ..) rfl (rowsOk_map (f:=Item.row) (sz:=8) (fun _=>rfl) _) rfl) ?_|refine eqv_to (nil_map (f:=Item.row) _) ?_);conv=>whnf)
  refine loop_lisx1 (fun (v2:Int) (v3:List Item)=>pad [(1,.one (.p (.sl (p1.map Item.row)))),(3,.one (.own 0)),(0,iv v2)] 38) (fun (v2:Int) (v3:List Item)=>[.rows 8 (v3.map Item.row)]) _ p1 (fun pre1 x1e xs1 v2 v3 hl1 hi1 h ih1=>?_) (fun v2 v3 hi1 h=>?_) p0 h
  ·rw [ref06_Both_l1] at h
   have am1:=at_mid hl1 hi1
   refine loop_intro hX ?_
   revert h
   refine bndk fun y4 e5 h=>?_
   conv=>whnf
   repeat((first|refine dw ?_|refine eqv_to (map_len _) ?_|refine bct (lt_mid hl1 hi1) ?_|refine bct (at_in am1) ?_|refine bct (andt (at_in am1) rfl) ?_|refine row_in (at_row am1) ?_|refine bct (andt (at_in (at_nat am1)) rfl) ?_|refine row_in (at_row (at_nat am1)) ?_);conv=>whnf)
   refine Or.inl ?_
   conv=>whnf
   refine ref06_Get_c hX e5 ?_
   conv=>whnf
   repeat((first|refine dw ?_);conv=>whnf)
   revert h
   refine brk (fun c6 h=>?_) (fun c6 h=>?_)
   ·revert h
    refine bndk fun y7 e8 h=>?_
    conv=>whnf
    repeat((first|refine dw ?_|refine bct c6 ?_|refine bct (at_in am1) ?_|refine bct (andt (at_in am1) rfl) ?_|refine row_in (at_row am1) ?_|refine bct (andt (at_in (at_nat am1)) rfl) ?_|refine row_in (at_row (at_nat am1)) ?_);conv=>whnf)
    refine Or.inl ?_
    conv=>whnf
    refine ref06_Put_c hX e8 ?_
    conv=>whnf
    repeat((first|refine dw ?_);conv=>whnf)
    exact ih1 _ y7 (wrL hs1 hl1 hi1) h
   ·revert h
    refine bndk fun y9 e10 h=>?_
    conv=>whnf
    repeat((first|refine dw ?_|refine bcf c6 ?_|refine bct (at_in am1) ?_|refine bct (andt (at_in am1) rfl) ?_|refine row_in (at_row am1) ?_|refine bct (andt (at_in (at_nat am1)) rfl) ?_|refine row_in (at_row (at_nat am1)) ?_);conv=>whnf)
    refine ref01_Behind_c hX e10 ?_
    conv=>whnf
    repeat((first|refine dw ?_|refine bcf c6 ?_);conv=>whnf)
    revert h
    refine brk (fun c11 h=>?_) (fun c11 h=>?_)
    ·revert h
     refine bndk fun y12 e13 h=>?_
     conv=>whnf
     repeat((first|refine dw ?_|refine bct c11 ?_|refine bct (at_in am1) ?_|refine bct (andt (at_in am1) rfl) ?_|refine row_in (at_row am1) ?_|refine bct (andt (at_in (at_nat am1)) rfl) ?_|refine row_in (at_row (at_nat am1)) ?_);conv=>whnf)
     refine Or.inl ?_
     conv=>whnf
     refine ref06_Put_c hX e13 ?_
     conv=>whnf
     repeat((first|refine dw ?_);conv=>whnf)
     exact ih1 _ y12 (wrL hs1 hl1 hi1) h
    ·conv=>whnf
     repeat((first|refine dw ?_|refine bcf c11 ?_);conv=>whnf)
     exact ih1 _ v3 (wrL hs1 hl1 hi1) h
  ·rw [ref06_Both_l1] at h
   refine loop_intro hX ?_
   conv=>whnf
   repeat((first|refine dw ?_|refine eqv_to (map_len _) ?_|refine bcf (lt_end hi1) ?_);conv=>whnf)
   exact ret_some (f:=fun y=>.one (.p (.sl (y.map Item.row)))) (g:=fun y=>[]) h hQ
theorem ref06_SameList_c  {p0:List Item} {p1:List Item} {r:Bool} (h:ref06_SameList_s p0 p1=some r) (hQ:Q (.one (.p (.v (.bool r)))) []):X (.call 43 [.one (.p (.sl (p0.map Item.row))),.one (.p (.sl (p1.map Item.row)))] [] Q):=by
  have K:=fun a (e:some a=some r)=>ret_some (f:=fun y=>.one (.p (.v (.bool y)))) (g:=fun y=>[]) e hQ
  unfold ref06_SameList_s at h
  refine call_intro hX Tryz.func43 rfl rfl ?_
  conv=>whnf
  repeat((first|refine dw ?_|refine eqv_to (map_len _) ?_);conv=>whnf)
  revert h
  refine brk (fun c1 h=>?_) (fun c1 h=>?_)
  ·conv=>whnf
   repeat((first|refine dw ?_|refine bct c1 ?_);conv=>whnf)
   exact K _ h
  ·revert h
   refine chkk fun hs1 h=>?_
   conv=>whnf
   repeat((first|refine dw ?_|refine bcf c1 ?_);conv=>whnf)
   refine loop_list0 (fun (v2:Int)=>pad [(0,.one (.p (.sl (p0.map Item.row)))),(0,.one (.p (.sl (p1.map Item.row)))),(3,iv v2)] 23) (fun (v2:Int)=>[]) _ p0 (fun pre1 x1e xs1 v2  hl1 hi1 h ih1=>?_) (fun v2  hi1 h=>?_)  h
   ·rw [ref06_SameList_l1] at h
    have am1:=at_mid hl1 hi1
    refine loop_intro hX ?_
    revert h
    refine bndk fun x3 a4 h=>?_
    revert h
    refine bndk fun y5 e6 h=>?_
    conv=>whnf
    repeat((first|refine dw ?_|refine eqv_to (map_len _) ?_|refine bct (lt_mid hl1 hi1) ?_|refine bct (at_in am1) ?_|refine bct (andt (at_in am1) rfl) ?_|refine row_in (at_row am1) ?_|refine bct (andt (at_in (at_nat am1)) rfl) ?_|refine row_in (at_row (at_nat am1)) ?_|refine bct (at_in a4) ?_|refine bct (andt (at_in a4) rfl) ?_|refine row_in (at_row a4) ?_|refine bct (andt (at_in (at_nat a4)) rfl) ?_|refine row_in (at_row (at_nat a4)) ?_);conv=>whnf)
    refine ref01_Same_c hX e6 ?_
    conv=>whnf
    repeat((first|refine dw ?_);conv=>whnf)
    revert h
    refine brk (fun c7 h=>?_) (fun c7 h=>?_)
    ·conv=>whnf
     repeat((first|refine dw ?_|refine bct c7 ?_);conv=>whnf)
     exact K _ h
    ·conv=>whnf
     repeat((first|refine dw ?_|refine bcf c7 ?_);conv=>whnf)
     exact ih1 _  (wrL hs1 hl1 hi1) h
   ·rw [ref06_SameList_l1] at h
    refine loop_intro hX ?_
    conv=>whnf
    repeat((first|refine dw ?_|refine eqv_to (map_len _) ?_|refine bcf (lt_end hi1) ?_);conv=>whnf)
    exact K _ h
end
end Go.Proofs.YtidkmoohgadjkaaGreat
set_option maxHeartbeats 0
namespace Go.Proofs.YtidkmoohgadjkaaGreat
open Go E
noncomputable section
open Pred
def law00_Items_l1:List Item→(List Item)→Option ((List Item))
  | [],v2 =>
  some v2
  | x1e::xs1,v2 =>
  (bnd (law00_Item_s x1e) fun y3 =>
   (chk (roomL v2.length 1)
    (law00_Items_l1 xs1  (v2++[y3]))))
def law00_Items_s (p0:List Item):Option ((List Item)) :=
 (chk (smallL p0)
   ((law00_Items_l1) p0 ([]:List Item)))
def law00_Known_l1:List Frag→Option (Int)
  | [] =>
  some 1
  | x1e::xs1 =>
  (br (ltI 60 (x1e.ids.length:Int))
   (some 0)
   (law00_Known_l1 xs1  ))
def law00_Known_s (p0:Know):Option (Int) :=
 (br (ltI 30 (p0.l.length:Int))
  (some 0)
  (chk (smallL p0.l)
    ((law00_Known_l1) p0.l )))
def law00_Fits_s (p0:Sit):Option (Int) :=
 (br (ltI 60 (p0.store.length:Int))
  (some 0)
  (br (ltI 60 (p0.out.length:Int))
   (some 0)
   (bnd (law00_Small_s p0.f) fun y3 =>
    (bnd (law00_Known_s p0.k) fun y5 =>
     some (wr .i64 (y3 * y5))))))
def law00_State_s (p0:Sit):Option (State) :=
 (bnd (law00_Pred_s p0.f) fun y1 =>
  (bnd (law00_Items_s p0.store) fun y3 =>
   (bnd (law00_Items_s p0.out) fun y5 =>
    some (State.mk p0.r y1 y3 y5 p0.k p0.count p0.clock p0.epoch))))
variable {X:Task→Prop} (hX:Closed X) {Q:A→List Blk→Prop}
include hX
theorem law00_Items_c  {p0:List Item} {r:(List Item)} (h:law00_Items_s p0=some r) (hQ:Q (.one (.p (.sl (r.map Item.row)))) []):X (.call 80 [.one (.p (.sl (p0.map Item.lrow)))] [] Q):=by
  unfold law00_Items_s at h
  refine call_nz hX ?_
  conv=>whnf
  refine call_intro hX Tryz.func80 rfl rfl ?_
  revert h
  refine chkk fun hs1 h=>?_
  conv=>whnf
  repeat((first|refine dw ?_);conv=>whnf)
  refine loop_k hX [8] ?_
  conv=>whnf
  refine loop_lisx1 (fun (v1:Int) (v2:List Item)=>pad [(0,.one (.p (.sl (p0.map Item.lrow)))),(2,.one (.own 0)),(0,iv v1)] 15) (fun (v1:Int) (v2:List Item)=>[.rows 8 (v2.map Item.row)]) _ p0 (fun pre1 x1e xs1 v1 v2 hl1 hi1 h ih1=>?_) (fun v1 v2 hi1 h=>?_) ([]:List Item) h
  ·rw [law00_Items_l1] at h
   have am1:=at_mid hl1 hi1
   refine loop_intro hX ?_
   revert h
   refine bndk fun y3 e4 h=>?_
   conv=>whnf
   repeat((first|refine dw ?_|refine eqv_to (map_len _) ?_|refine bct (lt_mid hl1 hi1) ?_|refine bct (at_in am1) ?_|refine bct (andt (at_in am1) rfl) ?_|refine row_in (at_row am1) ?_|refine bct (andt (at_in (at_nat am1)) rfl) ?_|refine row_in (at_row (at_nat am1)) ?_);conv=>whnf)
   refine law00_Item_c hX e4 ?_
   revert h
   refine chkk fun c5 h=>?_
   conv=>whnf
   repeat((first|refine dw ?_|refine bct (room_map c5 rfl rfl rfl rfl) ?_|refine eqv_to (cat_one (f:=Item.row) v2 y3) ?_);conv=>whnf)
   exact ih1 _ (v2++[y3]) (wrL hs1 hl1 hi1) h
  ·rw [law00_Items_l1] at h
   refine loop_intro hX ?_
   conv=>whnf
   repeat((first|refine dw ?_|refine eqv_to (map_len _) ?_|refine bcf (lt_end hi1) ?_);conv=>whnf)
   exact ret_some (f:=fun y=>.one (.p (.sl (y.map Item.row)))) (g:=fun y=>[]) h hQ
theorem law00_Known_c  {p0:Know} {r:Int} (h:law00_Known_s p0=some r) (hQ:Q (iv r) []):X (.call 54 [.agg (Know.cs p0)] [] Q):=by
  have K:=fun a (e:some a=some r)=>ret_some (f:=fun y=>iv y) (g:=fun y=>[]) e hQ
  unfold law00_Known_s at h
  refine call_intro hX Tryz.func54 rfl rfl ?_
  conv=>whnf
  repeat((first|refine dw ?_|refine eqv_to (map_len _) ?_);conv=>whnf)
  revert h
  refine brk (fun c1 h=>?_) (fun c1 h=>?_)
  ·conv=>whnf
   repeat((first|refine dw ?_|refine bct c1 ?_);conv=>whnf)
   exact K _ h
  ·revert h
   refine chkk fun hs1 h=>?_
   conv=>whnf
   repeat((first|refine dw ?_|refine bcf c1 ?_);conv=>whnf)
   refine loop_lisx0 (fun (v2:Int)=>pad [(1,.one (.ptr 0 0)),(1,iv v2)] 19) (fun (v2:Int)=>[.box (Know.cs p0)]) _ p0.l (fun pre1 x1e xs1 v2  hl1 hi1 h ih1=>?_) (fun v2  hi1 h=>?_)  h
   ·rw [law00_Known_l1] at h
    have am1:=at_mid hl1 hi1
    refine loop_intro hX ?_
    conv=>whnf
    repeat((first|refine dw ?_|refine eqv_to (map_len _) ?_|refine bct (lt_mid hl1 hi1) ?_|refine bct (at_in am1) ?_|refine bct (andt (at_in am1) rfl) ?_|refine row_in (at_row am1) ?_|refine bct (andt (at_in (at_nat am1)) rfl) ?_|refine row_in (at_row (at_nat am1)) ?_);conv=>whnf)
    revert h
    refine brk (fun c3 h=>?_) (fun c3 h=>?_)
    ·conv=>whnf
     repeat((first|refine dw ?_|refine bct c3 ?_);conv=>whnf)
     exact K _ h
    ·conv=>whnf
     repeat((first|refine dw ?_|refine bcf c3 ?_);conv=>whnf)
     exact ih1 _  (wrL hs1 hl1 hi1) h
   ·rw [law00_Known_l1] at h
    refine loop_intro hX ?_
    conv=>whnf
    repeat((first|refine dw ?_|refine eqv_to (map_len _) ?_|refine bcf (lt_end hi1) ?_);conv=>whnf)
    exact K _ h
theorem law00_Fits_c  {p0:Sit} {r:Int} (h:law00_Fits_s p0=some r) (hQ:Q (iv r) []):X (.call 16 [.agg [ic p0.r,ic p0.f.op,.p (.v (.string p0.f.text)),ic p0.f.n,.p (.v (.float .f64 p0.f.re)),.p (.v (.float .f64 p0.f.im)),.p (.sl (Pred.lrows p0.f.kids)),.p (.sl (p0.store.map Item.lrow)),.p (.sl (p0.out.map Item.lrow)),ic p0.k.star.x0,ic p0.k.star.x1,ic p0.k.star.x2,ic p0.k.star.x3,ic p0.k.star.x4,ic p0.k.star.x5,ic p0.k.star.x6,ic p0.k.star.x7,.p (.sl (p0.k.l.map Frag.row)),ic p0.count,ic p0.clock,ic p0.epoch]] [] Q):=by
  have K:=fun a (e:some a=some r)=>ret_some (f:=fun y=>iv y) (g:=fun y=>[]) e hQ
  unfold law00_Fits_s at h
  refine call_intro hX Tryz.func16 rfl rfl ?_
  conv=>whnf
  repeat((first|refine dw ?_|refine eqv_to (map_len _) ?_);conv=>whnf)
  revert h
  refine brk (fun c1 h=>?_) (fun c1 h=>?_)
  ·conv=>whnf
   repeat((first|refine dw ?_|refine bct c1 ?_);conv=>whnf)
   exact K _ h
  ·conv=>whnf
   repeat((first|refine dw ?_|refine bcf c1 ?_|refine eqv_to (map_len _) ?_);conv=>whnf)
   revert h
   refine brk (fun c2 h=>?_) (fun c2 h=>?_)
   ·conv=>whnf
    repeat((first|refine dw ?_|refine bct c2 ?_);conv=>whnf)
    exact K _ h
   ·revert h
    refine bndk fun y3 e4 h=>?_
    conv=>whnf
    repeat((first|refine dw ?_|refine bcf c2 ?_);conv=>whnf)
    refine law00_Small_c hX e4 ?_
    revert h
    refine bndk fun y5 e6 h=>?_
    conv=>whnf
    repeat((first|refine dw ?_);conv=>whnf)
    refine law00_Known_c hX e6 ?_
    conv=>whnf
    repeat((first|refine dw ?_);conv=>whnf)
    exact K _ h
theorem law00_State_c  {p0:Sit} {r:State} (h:law00_State_s p0=some r) (hQ:Q (.agg (State.cs r)) []):X (.call 21 [.agg [ic p0.r,ic p0.f.op,.p (.v (.string p0.f.text)),ic p0.f.n,.p (.v (.float .f64 p0.f.re)),.p (.v (.float .f64 p0.f.im)),.p (.sl (Pred.lrows p0.f.kids)),.p (.sl (p0.store.map Item.lrow)),.p (.sl (p0.out.map Item.lrow)),ic p0.k.star.x0,ic p0.k.star.x1,ic p0.k.star.x2,ic p0.k.star.x3,ic p0.k.star.x4,ic p0.k.star.x5,ic p0.k.star.x6,ic p0.k.star.x7,.p (.sl (p0.k.l.map Frag.row)),ic p0.count,ic p0.clock,ic p0.epoch]] [] Q):=by
 unfold law00_State_s at h
 refine call_nz hX ?_
 conv=>whnf
 refine call_intro hX Tryz.func21 rfl rfl ?_
 revert h
 refine bndk fun y1 e2 h=>?_
 conv=>whnf
 repeat((first|refine dw ?_);conv=>whnf)
 refine law00_Pred_c hX e2 ?_
 revert h
 refine bndk fun y3 e4 h=>?_
 conv=>whnf
 repeat((first|refine dw ?_);conv=>whnf)
 refine law00_Items_c hX e4 ?_
 revert h
 refine bndk fun y5 e6 h=>?_
 conv=>whnf
 repeat((first|refine dw ?_);conv=>whnf)
 refine law00_Items_c hX e6 ?_
 conv=>whnf
 repeat((first|refine dw ?_);conv=>whnf)
 exact ret_some (f:=fun y=>.agg (State.cs y)) (g:=fun y=>[]) h hQ
end
end Go.Proofs.YtidkmoohgadjkaaGreat
set_option maxHeartbeats 4000000
namespace Go.Proofs.YtidkmoohgadjkaaGreat
open Go E Go.RowKit
theorem prim_ok:∀ f xs σ r σ',prim f xs σ r σ'→CallOk Tryz.prog f xs σ r σ':=fun _ _ _ _ _ h=>h
theorem all_lt {ts:List Nat} {n:Nat} (h:(ts.all fun t=>decide (t < n))=true):∀ t∈ts,t < n:=fun t ht=>of_decide_eq_true (List.all_eq_true.1 h t ht)
theorem all_rd {P:Program} {ts:List Nat} (h:(ts.all fun t=>P.readableRec t)=true):∀ t∈ts,P.readableRec t=true:=List.all_eq_true.1 h
theorem ownNone:ownKnob Tryz.prog.godebug=none:=by kernel_rfl
theorem laidOut:laidOutB Tryz.prog=true:=by kernel_rfl
theorem mixedF:Tryz.prog.follows .mixedOrders=true:=by kernel_rfl
theorem cellsInt:Tryz.prog.cellsOf 3=1:=by kernel_rfl
theorem cellsBool:Tryz.prog.cellsOf 4=1:=by kernel_rfl
theorem cellsFlt:Tryz.prog.cellsOf 22=1:=by kernel_rfl
theorem shInt (n:Nat):ShOk Tryz.prog n 3 (.int .i64):=.int Tryz.underlying3
theorem shBool (n:Nat):ShOk Tryz.prog n 4 .bool:=.bool Tryz.underlying4
theorem shFlt (n:Nat):ShOk Tryz.prog n 22 (.flt .f64):=.flt Tryz.underlying22
theorem sound_ok:Closed (TaskOk Tryz.prog):=sound T_ok mixedF prim_ok
theorem i64_of {n:Int} (h:(Lit.int .i64 n).wf=true) : -9223372036854775808≤n∧n≤9223372036854775807:=by
 simp only [Lit.wf,Bool.and_eq_true,decide_eq_true_eq] at h
 exact ⟨by simpa [IntKind.min,IntKind.signed,IntKind.bits] using h.1,by simpa [IntKind.max,IntKind.signed,IntKind.bits] using h.2⟩
end Go.Proofs.YtidkmoohgadjkaaGreat
set_option maxHeartbeats 4000000
namespace Go.Proofs.YtidkmoohgadjkaaGreat
open Go E Go.ChangeShapes Go.WideShapes Go.ChangeAt Go.RowKit
theorem cellsStr:Tryz.prog.cellsOf 9=1:=by kernel_rfl
theorem shStr (n:Nat):ShOk Tryz.prog n 9 .str:=.str Tryz.underlying9
theorem cellsRow:Tryz.prog.cellsOf 78=9:=by kernel_rfl
abbrev rowSh:Sh:=.cat .str (.cat (.int .i64) (.cat (.int .i64) (.cat (.int .i64) (.cat .str (.cat (.int .i64) (.cat (.flt .f64) (.cat (.flt .f64) (.cat .bool .nil))))))))
theorem shRow:∀ n,ShOk Tryz.prog n 78 rowSh
 | 0=>.zero
 | n + 1=>.struct Tryz.underlying78 cellsRow (.cons rfl cellsStr (shStr n) (.cons rfl cellsInt (shInt n) (.cons rfl cellsInt (shInt n) (.cons rfl cellsInt (shInt n) (.cons rfl cellsStr (shStr n) (.cons rfl cellsInt (shInt n) (.cons rfl cellsFlt (shFlt n) (.cons rfl cellsFlt (shFlt n) (.cons rfl cellsBool (shBool n) .nil)))))))))
theorem fits_row {l:List PC} (h:Fits rowSh l):∃ x:Item,x.Ok∧l=x.lrow:=by
 obtain ⟨_,_,rfl,⟨x0,rfl,w0⟩,_,_,rfl,⟨x1,rfl,w1⟩,_,_,rfl,⟨x2,rfl,w2⟩,_,_,rfl,⟨x3,rfl,w3⟩,_,_,rfl,⟨x4,rfl,w4⟩,_,_,rfl,⟨x5,rfl,w5⟩,_,_,rfl,⟨x6,rfl,w6⟩,_,_,rfl,⟨x7,rfl,w7⟩,_,_,rfl,⟨x8,rfl⟩,rfl⟩:=h
 exact ⟨⟨x0,x1,x2,x3,x4,x5,x6,x7,x8⟩,⟨Nat.le_trans w0 (by decide),Nat.le_trans w4 (by decide),i64_of w1,i64_of w2,i64_of w3,i64_of w5⟩,rfl⟩
section
variable {H:Type} {enc:TypeId × Value→H} {W:World} {v:Value} {d:DataW H} {ps:List MemPlace} {b0:Nat}
theorem arg_row (hv:Value.okWide Tryz.prog W .any b0 78 v) (h:DataW.Trod enc Tryz.prog W 0 (fun _=>true) true 78 v d ps):∃ x:Item,x.Ok∧VA W (zoneOf W) noLoc x.la v:=by
 obtain ⟨_,l,h1,h2⟩:=arg_agg shRow (.inl ⟨_,Tryz.underlying78⟩) hv h
 obtain ⟨x,ok,rfl⟩:=fits_row h1
 exact ⟨x,ok,h2⟩
end
end Go.Proofs.YtidkmoohgadjkaaGreat
set_option maxHeartbeats 4000000
namespace Go.Proofs.YtidkmoohgadjkaaGreat
open Go E Go.ChangeShapes Go.WideShapes Go.ChangeAt Go.RowKit
theorem cellsRows:Tryz.prog.cellsOf 26=1:=by kernel_rfl
theorem shRows:∀ n,ShOk Tryz.prog n 26 (.sl rowSh)
 | 0=>.zero
 | n + 1=>.sl Tryz.underlying26 cellsRow (by decide) (shRow n)
theorem list_of {α:Type} {P:List PC→Prop} {Ok:α→Prop} {f:α→List PC} (h:∀ r,P r→∃ x,Ok x∧r=f x):∀ (l:List (List PC)),(∀ r∈l,P r)→∃ xs:List α,(∀ x∈xs,Ok x)∧l=xs.map f
 | [],_=>⟨[],by simp,rfl⟩
 | r::l,hl=>by
  obtain ⟨x,hx,rfl⟩:=h r (hl r (by simp))
  obtain ⟨xs,hxs,rfl⟩:=list_of h l fun r hr=>hl r (by simp [hr])
  exact ⟨x::xs,by simpa using ⟨hx,hxs⟩,rfl⟩
theorem fits_rows {l:List PC} (h:Fits (.sl rowSh) l):∃ xs:List Item,(∀ x∈xs,x.Ok)∧l=[.sl (xs.map Item.lrow)]:=by
 obtain ⟨rows,rfl,_,hr⟩:=h
 obtain ⟨xs,hx,rfl⟩:=list_of (P:=Fits rowSh) (Ok:=Item.Ok) (f:=Item.lrow) (fun r h=>fits_row h) rows hr
 exact ⟨xs,hx,rfl⟩
section
variable {H:Type} {enc:TypeId × Value→H} {W:World} {v:Value} {d:DataW H} {ps:List MemPlace} {b0:Nat}
end
end Go.Proofs.YtidkmoohgadjkaaGreat
set_option maxHeartbeats 4000000
namespace Go.Proofs.YtidkmoohgadjkaaGreat
open Go E Go.ChangeShapes Go.WideShapes Go.ChangeAt Go.RowKit
theorem cellsStrs:Tryz.prog.cellsOf 151=1:=by kernel_rfl
theorem cellsVec:Tryz.prog.cellsOf 28=8:=by kernel_rfl
theorem cellsFrag:Tryz.prog.cellsOf 153=9:=by kernel_rfl
theorem cellsFrags:Tryz.prog.cellsOf 29=1:=by kernel_rfl
theorem cellsKnow:Tryz.prog.cellsOf 31=9:=by kernel_rfl
theorem shStrs:∀ n,ShOk Tryz.prog n 151 (.sl .str)
 | 0=>.zero
 | n + 1=>.sl Tryz.underlying151 cellsStr (by decide) (shStr n)
theorem shVec:∀ n,ShOk Tryz.prog n 28 (repS (.int .i64) 8)
 | 0=>.zero
 | n + 1=>.arr (s:=.int .i64) Tryz.underlying28 cellsInt cellsVec (shInt n) rfl
abbrev fragSh:Sh:=.cat (.sl .str) (.cat (repS (.int .i64) 8) .nil)
theorem shFrag:∀ n,ShOk Tryz.prog n 153 fragSh
 | 0=>.zero
 | n + 1=>.struct Tryz.underlying153 cellsFrag (.cons rfl cellsStrs (shStrs n) (.cons rfl cellsVec (shVec n) .nil))
theorem shFrags:∀ n,ShOk Tryz.prog n 29 (.sl fragSh)
 | 0=>.zero
 | n + 1=>.sl Tryz.underlying29 cellsFrag (by decide) (shFrag n)
abbrev knowSh:Sh:=.cat (repS (.int .i64) 8) (.cat (.sl fragSh) .nil)
theorem shKnow:∀ n,ShOk Tryz.prog n 31 knowSh
 | 0=>.zero
 | n + 1=>.struct Tryz.underlying31 cellsKnow (.cons rfl cellsVec (shVec n) (.cons rfl cellsFrags (shFrags n) .nil))
theorem fits_v8 {l:List PC} (h:Fits (repS (.int .i64) 8) l):∃ v:V8,l=v.row:=by
 obtain ⟨_,_,rfl,⟨x0,rfl,w0⟩,_,_,rfl,⟨x1,rfl,w1⟩,_,_,rfl,⟨x2,rfl,w2⟩,_,_,rfl,⟨x3,rfl,w3⟩,_,_,rfl,⟨x4,rfl,w4⟩,_,_,rfl,⟨x5,rfl,w5⟩,_,_,rfl,⟨x6,rfl,w6⟩,_,_,rfl,⟨x7,rfl,w7⟩,rfl⟩:=h
 exact ⟨⟨x0,x1,x2,x3,x4,x5,x6,x7⟩,rfl⟩
theorem fits_strs {l:List PC} (h:Fits (.sl .str) l):∃ xs:List ByteArray,(∀ x∈xs,x.size≤9223372036854775807)∧l=[.sl (xs.map srw)]:=by
 obtain ⟨rows,rfl,_,hr⟩:=h
 obtain ⟨xs,hx,rfl⟩:=list_of (P:=Fits .str) (Ok:=fun x:ByteArray=>x.size≤9223372036854775807) (f:=srw) (fun r ⟨s,e,hs⟩=>⟨s,Nat.le_trans hs (by decide),e⟩) rows hr
 exact ⟨xs,hx,rfl⟩
theorem fits_frag {l:List PC} (h:Fits fragSh l):∃ f:Frag,(∀ x∈f.ids,x.size≤9223372036854775807)∧l=f.row:=by
 obtain ⟨_,_,rfl,h1,_,_,rfl,h2,rfl⟩:=h
 obtain ⟨xs,hx,rfl⟩:=fits_strs h1
 obtain ⟨v,rfl⟩:=fits_v8 h2
 exact ⟨⟨xs,v⟩,hx,by simp⟩
theorem fits_know {l:List PC} (h:Fits knowSh l):∃ k:Know,IdsOk k∧l=k.row:=by
 obtain ⟨_,_,rfl,h1,_,_,rfl,⟨rows,rfl,_,hr⟩,rfl⟩:=h
 obtain ⟨v,rfl⟩:=fits_v8 h1
 obtain ⟨fs,hf,rfl⟩:=list_of (P:=Fits fragSh) (Ok:=fun f:Frag=>∀ x∈f.ids,x.size≤9223372036854775807) (f:=Frag.row) (fun r h=>fits_frag h) rows hr
 exact ⟨⟨v,fs⟩,hf,by simp⟩
abbrev Know.la (k:Know):A:=.agg [ic k.star.x0,ic k.star.x1,ic k.star.x2,ic k.star.x3,ic k.star.x4,ic k.star.x5,ic k.star.x6,ic k.star.x7,.p (.sl (k.l.map Frag.row))]
abbrev Ver.la (v:Ver):A:=.agg [ic v.r,ic v.c]
def Ver.Ok (v:Ver):Prop:=(-9223372036854775808≤v.r∧v.r≤9223372036854775807) ∧ -9223372036854775808≤v.c∧v.c≤9223372036854775807
theorem cellsVer:Tryz.prog.cellsOf 66=2:=by kernel_rfl
abbrev verSh:Sh:=.cat (.int .i64) (.cat (.int .i64) .nil)
theorem shVer:∀ n,ShOk Tryz.prog n 66 verSh
 | 0=>.zero
 | n + 1=>.struct Tryz.underlying66 cellsVer (.cons rfl cellsInt (shInt n) (.cons rfl cellsInt (shInt n) .nil))
section
variable {H:Type} {enc:TypeId × Value→H} {W:World} {v:Value} {d:DataW H} {ps:List MemPlace} {b0:Nat}
theorem arg_ver (hv:Value.okWide Tryz.prog W .any b0 66 v) (h:DataW.Trod enc Tryz.prog W 0 (fun _=>true) true 66 v d ps):∃ x:Ver,x.Ok∧VA W (zoneOf W) noLoc x.la v:=by
 obtain ⟨_,l,h1,h2⟩:=arg_agg shVer (.inl ⟨_,Tryz.underlying66⟩) hv h
 obtain ⟨_,_,rfl,⟨x0,rfl,w0⟩,_,_,rfl,⟨x1,rfl,w1⟩,rfl⟩:=h1
 exact ⟨⟨x0,x1⟩,⟨i64_of w0,i64_of w1⟩,h2⟩
end
end Go.Proofs.YtidkmoohgadjkaaGreat
namespace Go.Proofs.YtidkmoohgadjkaaGreat
open Go E Pred
noncomputable section
open Classical
theorem kalike_l2 {k:Option Bool}:∀ (xs pre ys:List ByteArray) (g:Frag),g.ids=pre++ys→xs.length=ys.length→know_alike_l2 g k xs (pre.length:Int)=if eqL xs ys then k else some false
 | [],pre,[],g,_,_=>by rw [know_alike_l2]; rfl
 | x::xs,pre,y::ys,g,hg,hl=>by
  have ih:=kalike_l2 (k:=k) xs (pre++[y]) ys g (by simpa using hg) (by simpa using hl)
  rw [List.length_append] at ih
  rw [know_alike_l2,bnd_of (by rw [hg]; exact at_app pre y ys),eqL]
  cases eqS x y with
  | false=>rfl
  | true=>rw [br_f (by rfl),Bool.true_and]; exact ih
 | [],_,_::_,_,_,h=>by simp at h
 | _::_,_,[],_,_,h=>by simp at h
theorem kalike_l1:∀ (fs pre gs:List Frag) (b:Know),b.l=pre++gs→fs.length=gs.length→(∀ f∈fs,f.ids.length≤1000000000)→know_alike_l1 b fs (pre.length:Int)=some (alikeL fs gs)
 | [],pre,[],b,_,_,_=>by rw [know_alike_l1]; rfl
 | f::fs,pre,g::gs,b,hb,hl,hi=>by
  have ih:=kalike_l1 fs (pre++[g]) gs b (by simpa using hb) (by simpa using hl) fun x hx=>hi x (List.mem_cons_of_mem _ hx)
  rw [List.length_append] at ih
  rw [know_alike_l1,bnd_of (by rw [hb]; exact at_app pre g gs),alikeL]
  unfold alikeF
  cases eq8 f.vec g.vec with
  | false=>rfl
  | true =>
   rw [br_t (by rfl),Bool.true_and]
   by_cases hn:f.ids.length=g.ids.length
   ·rw [br_f (by rw [hn,eqI_t.2 rfl]; rfl),chk_t (smallL_of (hi f (List.mem_cons_self ..)))]
    have h2:=kalike_l2 (k:=know_alike_l1 b fs ((pre.length:Int) + 1)) f.ids [] g.ids g rfl hn
    rw [show (([]:List ByteArray).length:Int)=0 from rfl] at h2
    rw [h2]
    cases eqL f.ids g.ids with
    | true=>rw [if_pos rfl,Bool.true_and]; exact ih
    | false=>rfl
   ·rw [br_t (by rw [eqI_f.2 (by omega)]; rfl),eqL_len hn]; rfl
 | [],_,_::_,_,_,h,_=>by simp at h
 | _::_,_,[],_,_,h,_=>by simp at h
theorem kalike_s {a b:Know} {N:Nat} (hN:N≤1000000000) (h:KB a N):know_alike_s a b=some (alikeK a b):=by
 unfold know_alike_s alikeK
 cases eq8 a.star b.star with
 | false=>rfl
 | true =>
  rw [br_t (by rfl),Bool.true_and]
  by_cases hl:a.l.length=b.l.length
  ·rw [br_f (by rw [hl,eqI_t.2 rfl]; rfl),chk_t (smallL_of (Nat.le_trans h.l hN))]
   exact kalike_l1 a.l [] b.l b rfl hl fun f hf=>Nat.le_trans (h.ids f hf) hN
  ·rw [br_t (by rw [eqI_f.2 (by omega)]; rfl),alikeL_len hl]
theorem khas_l2 {id:ByteArray} {v:Ver} {f:Frag} {k:Option Bool}:∀ (ids:List ByteArray) (i:Int),0≤i→know_Has_l2 id v f k ids i=if memB ids id=true then (if hasV f.vec v.r v.c=true then some true else k) else k
 | [],i,_=>by rw [know_Has_l2]; rfl
 | x::ids,i,hi=>by
  rw [know_Has_l2,khas_l2 ids (i + 1) (by omega),memB_cons,eqS_comm' id x]
  cases eqS x id with
  | false=>rfl
  | true =>
   rw [br_t rfl,br_t (leI_t.2 hi),bnd_of (show vec_Has_s f.vec v=some (hasV f.vec v.r v.c) from rfl),br_if]; rfl
theorem khas_l1 {id:ByteArray} {v:Ver}:∀ l:List Frag,(∀ f∈l,f.ids.length≤1000000000)→know_Has_l1 id v l=some (l.any fun f=>hasF f id v.r v.c)
 | [],_=>by rw [know_Has_l1]; rfl
 | f::l,h=>by
  rw [know_Has_l1,chk_t (smallL_of (h f (List.mem_cons_self ..))),khas_l2 _ _ (by decide),khas_l1 l fun g hg=>h g (List.mem_cons_of_mem _ hg),List.any_cons]
  unfold hasF
  cases memB f.ids id<;>cases hasV f.vec v.r v.c<;>rfl
theorem khas_s {k:Know} {id:ByteArray} {v:Ver} {N:Nat} (hN:N≤1000000000) (h:KB k N):know_Has_s k id v=some (hasK k id v.r v.c):=by
 unfold know_Has_s hasK
 rw [bnd_of (show vec_Has_s k.star v=some (hasV k.star v.r v.c) from rfl),chk_t (smallL_of (Nat.le_trans h.l hN)),khas_l1 _ fun f hf=>Nat.le_trans (h.ids f hf) hN]
 cases hasV k.star v.r v.c<;>rfl
theorem kmay_l2 {k:Option Bool}:∀ (xs:List ByteArray) (i:Int),0≤i→(∀ x∈xs,x.size≤9223372036854775807)→know_May_l2 k xs i=if (xs.all fun x=>lettersB x 1) then k else some false
 | [],i,_,_=>by rw [know_May_l2]; rfl
 | x::xs,i,hi,h=>by
  have e:item_Name_s x=some (lettersB x 1):=by unfold item_Name_s; rw [chk_t (decide_eq_true (h x (List.mem_cons_self ..)))]
  rw [know_May_l2,bnd_of e,kmay_l2 xs (i + 1) (by omega) fun y hy=>h y (List.mem_cons_of_mem _ hy),List.all_cons]
  cases lettersB x 1 with
  | true=>rfl
  | false=>rw [br_t (by rfl),br_t (leI_t.2 hi)]; rfl
theorem kmay_l1:∀ (l:List Frag),(∀ f∈l,f.ids.length≤1000000000)→(∀ f∈l, ∀ x∈f.ids,x.size≤9223372036854775807)→know_May_l1 l=some (l.all mayF)
 | [],_,_=>by rw [know_May_l1]; rfl
 | f::l,h,h2=>by
  rw [know_May_l1,bnd_of (show vec_May_s f.vec=some (mayV f.vec) from rfl),List.all_cons]
  unfold mayF
  cases mayV f.vec with
  | false=>rfl
  | true =>
   rw [br_f (by rfl),chk_t (smallL_of (h f (List.mem_cons_self ..))),kmay_l2 _ _ (by decide) (h2 f (List.mem_cons_self ..)),kmay_l1 l (fun g hg=>h g (List.mem_cons_of_mem _ hg)) fun g hg=>h2 g (List.mem_cons_of_mem _ hg)]
   unfold mayF
   cases (f.ids.all fun x=>lettersB x 1)<;>rfl
theorem kmay_s {k:Know} (h:KT k 990000) (hi:IdsOk k):know_May_s k=some (mayK k):=by
 unfold know_May_s mayK
 rw [bnd_of (show vec_May_s k.star=some (mayV k.star) from rfl)]
 cases mayV k.star with
 | false=>rw [br_t (by rfl)]; simp
 | true =>
  rw [br_f (by rfl),bnd_of (kplain_s h hi),bnd_of (kalike_s (by decide) h.kb)]
  cases alikeK k (plainK k) with
  | false=>rfl
  | true=>rw [br_f (by rfl),chk_t (smallL_of (by have:=h.l; omega)),kmay_l1 _ (fun f hf=>by have:=h.kb.ids f hf; omega) hi]; rfl
theorem ids_plain {k:Know} (h:IdsOk k):IdsOk (plainK k):=fun f hf x hx=>by
 have hp:=(pieces_plain k).of_ f hf x hx
 have:x∈namesK k:=Classical.byContradiction fun hn=>hp.2 (by rw [←hp.1,beyond_none hn])
 obtain ⟨g,hg,hz⟩:=namesK_mem.1 this
 exact h g hg x hz
theorem kt_piece {k:Know} {N:Nat} (h:KT k N) (id:ByteArray) (r c:Int):KT (pieceK k id r c) (N + 1) :=
 ⟨by show (k.l++[_]).length≤_; rw [List.length_append]; have:=h.l; simp; omega,by show idsN (k.l++[_])≤_; rw [idsN_app]; have:=h.ids; simp [idsN]; simp [idsN] at this; omega⟩
theorem ids_piece {k:Know} {id:ByteArray} {r c:Int} (h:IdsOk k) (hid:id.size≤9223372036854775807):IdsOk (pieceK k id r c):=fun f hf x hx=>by
 rcases List.mem_append.1 hf with hf | hf
 ·exact h f hf x hx
 ·rw [List.mem_singleton.1 hf] at hx
  rw [List.mem_singleton.1 hx]; exact hid
theorem kwith_s {k:Know} {id:ByteArray} {v:Ver} {N:Nat} (h:KT k N) (hn:N≤900000) (hi:IdsOk k) (hid:id.size≤9223372036854775807):know_With_s k id v=some (withK k id v.r v.c):=by
 have hl:=h.l
 unfold know_With_s
 rw [bnd_of (show vec_With_s ⟨0,0,0,0,0,0,0,0⟩ v=some (withV zero8 v.r v.c) from rfl),bnd_of (show clone_s k.l=some k.l by unfold clone_s; rw [chk_t (decide_eq_true (by omega))]),chk_t (roomL_of (by omega))]
 rw [bnd_of (show know_Plain_s ⟨k.star,k.l++[⟨[id],withV zero8 v.r v.c⟩]⟩=some (plainK (pieceK k id v.r v.c)) from kplain_s (k:=pieceK k id v.r v.c) ((kt_piece h id v.r v.c).mono (by omega)) (ids_piece hi hid))]
 rfl
theorem own_in {k:Know} {id:ByteArray} {r c:Int} (h:1≤r∧r≤8):know_Own_s k id ⟨r,c⟩=br (leI 1 c) (br (eqI (k.star.at r) (wr .i64 (c - 1))) (bnd (vec_With_s k.star ⟨r,c⟩) fun y=>bnd (know_Plain_s ⟨y,k.l⟩) fun z=>some z) (bnd (know_With_s k id ⟨r,c⟩) fun y=>some y)) (bnd (know_With_s k id ⟨r,c⟩) fun y=>some y):=by
 rcases r8 r with h' | rfl | rfl | rfl | rfl | rfl | rfl | rfl | rfl
 ·omega
 all_goals rfl
theorem own_out {k:Know} {id:ByteArray} {r c:Int} (h:r < 1∨8 < r):know_Own_s k id ⟨r,c⟩=bnd (know_With_s k id ⟨r,c⟩) fun y=>some y:=by
 unfold know_Own_s
 dsimp only
 rw [br_f (eqI_f.2 (by omega)),br_f (eqI_f.2 (by omega)),br_f (eqI_f.2 (by omega)),br_f (eqI_f.2 (by omega)),br_f (eqI_f.2 (by omega)),br_f (eqI_f.2 (by omega)),br_f (eqI_f.2 (by omega)),br_f (eqI_f.2 (by omega))]
 by_cases h1:1≤r
 ·rw [br_t (leI_t.2 h1),br_f (by rw [leI_f]; omega)]; rfl
 ·rw [br_f (by rw [leI_f]; omega)]; rfl
theorem kown_s {k:Know} {id:ByteArray} {v:Ver} {N:Nat} (h:KT k N) (hn:N≤900000) (hi:IdsOk k) (hid:id.size≤9223372036854775807):know_Own_s k id v=some (ownK k id v.r v.c):=by
 obtain ⟨r,c⟩:=v
 have hw:=kwith_s (v:=⟨r,c⟩) h hn hi hid
 unfold ownK ownB
 by_cases hr:1≤r∧r≤8
 ·rw [own_in hr]
  by_cases hc:1≤c
  ·rw [br_t (leI_t.2 hc)]
   by_cases he:k.star.at r=wr .i64 (c - 1)
   ·rw [br_t (eqI_t.2 he),bnd_of (show vec_With_s k.star ⟨r,c⟩=some (withV k.star r c) from rfl),bnd_of (kplain_s (k:=⟨withV k.star r c,k.l⟩) ⟨by have:=h.l; show k.l.length≤_; omega,by have:=h.ids; show idsN k.l≤_; omega⟩ hi),if_pos (decide_eq_true ⟨hr.1,hr.2,hc,he⟩)]
   ·rw [br_f (eqI_f.2 he),bnd_of hw,if_neg (by rw [decide_eq_true_eq]; exact fun h=>he h.2.2.2)]
  ·rw [br_f (leI_f.2 (by omega)),bnd_of hw,if_neg (by rw [decide_eq_true_eq]; exact fun h=>hc h.2.2.1)]
 ·rw [own_out (by omega),bnd_of hw,if_neg (by rw [decide_eq_true_eq]; exact fun h=>hr ⟨h.1,h.2.1⟩)]
theorem KB.mono' {k:Know} {n m:Nat} (h:KB k n) (hm:n≤m):KB k m:=⟨Nat.le_trans h.l hm,fun f hf=>Nat.le_trans (h.ids f hf) hm⟩
end
end Go.Proofs.YtidkmoohgadjkaaGreat
set_option maxHeartbeats 0
namespace Go.Proofs.YtidkmoohgadjkaaGreat
open Go E
noncomputable section
open Pred
def fresh_Pred_l1 (p0:Pred) (rc:Pred→Option Pred):List Pred→(List Pred)→Option (Pred)
  | [],v2 =>
  some (Pred.mk p0.op p0.text p0.n p0.re p0.im v2)
  | x1e::xs1,v2 =>
  (bnd (rc x1e) fun y3 =>
   (chk (roomL v2.length 1)
    (fresh_Pred_l1 p0 rc xs1  (v2++[y3]))))
def fresh_Pred_b (rc:Pred→Option Pred) (p0:Pred):Option (Pred) :=
 (chk (smallL p0.kids)
   ((fresh_Pred_l1 p0 rc) p0.kids ([]:List Pred)))
def fresh_Pred_s:Nat→Pred→Option Pred
 | 0=>fun _=>none
 | n + 1=>fresh_Pred_b (fresh_Pred_s n)
def fresh_Know_l1 (p0:Know):List Frag→(List Frag)→Option (Know)
  | [],v2 =>
  some (Know.mk p0.star v2)
  | x1e::xs1,v2 =>
  (bnd (clone_s x1e.ids) fun y3 =>
   (chk (roomL v2.length 1)
    (fresh_Know_l1 p0 xs1  (v2++[(Frag.mk y3 x1e.vec)]))))
def fresh_Know_s (p0:Know):Option (Know) :=
 (chk (smallL p0.l)
   ((fresh_Know_l1 p0) p0.l ([]:List Frag)))
variable {X:Task→Prop} (hX:Closed X) {Q:A→List Blk→Prop}
include hX
theorem fresh_Pred_c:∀ (n:Nat) {p0:Pred} {r:Pred} {Q:A→List Blk→Prop} (h:fresh_Pred_s n p0=some r) (hQ:Q (.agg (Pred.cs r)) []),X (.call 113 [.agg (Pred.cs p0)] [] Q):=by
  intro n
  induction n with
  | zero=>intro p0 r Q h; cases h
  | succ n ih =>
    intro p0 r Q h hQ
    replace h:fresh_Pred_b (fresh_Pred_s n) p0=some r:=h
    generalize fresh_Pred_s n=rc at ih h
    unfold fresh_Pred_b at h
    refine call_nz hX ?_
    conv=>whnf
    refine call_intro hX Tryz.func113 rfl rfl ?_
    revert h
    refine chkk fun hs1 h=>?_
    conv=>whnf
    repeat((first|refine dw ?_|refine eqv_to (Pred.pmap_len _) ?_);conv=>whnf)
    refine loop_k hX [5,0] ?_
    conv=>whnf
    refine loop_lisx1 (fun (v1:Int) (v2:List Pred)=>pad [(1,.one (.ptr 0 0)),(0,.one (.ptr 2 0)),(6,.one (.p (.sl (Pred.rows p0.kids)))),(0,iv (p0.kids.length:Int)),(0,iv v1)] 12) (fun (v1:Int) (v2:List Pred)=>[.box [ic p0.op,.p (.v (.string p0.text)),ic p0.n,.p (.v (.complex .f64 p0.re p0.im)),.own 1],.rows 5 (Pred.rows v2),.box [ic 0,.p (.v (.string ⟨#[]⟩)),ic 0,.p (.v (.complex .f64 0 0)),.own 3],.rows 0 []]) _ p0.kids (fun pre1 x1e xs1 v1 v2 hl1 hi1 h ih1=>?_) (fun v1 v2 hi1 h=>?_) ([]:List Pred) h
    ·rw [fresh_Pred_l1] at h
     have am1:=at_mid hl1 hi1
     refine loop_intro hX ?_
     revert h
     refine bndk fun y3 e4 h=>?_
     conv=>whnf
     repeat((first|refine dw ?_|refine bct (lt_mid hl1 hi1) ?_|refine bct (Pred.pat_in am1) ?_|refine bct (andt (Pred.pat_in am1) rfl) ?_|refine row_in (Pred.pat_row am1) ?_|refine bct (andt (Pred.pat_in (at_nat am1)) rfl) ?_|refine row_in (Pred.pat_row (at_nat am1)) ?_);conv=>whnf)
     refine ih e4 ?_
     revert h
     refine chkk fun c5 h=>?_
     conv=>whnf
     repeat((first|refine dw ?_|refine bct (Pred.proom_map c5 rfl rfl rfl rfl) ?_|refine eqv_to (Pred.pcat_one v2 y3) ?_);conv=>whnf)
     exact ih1 _ (v2++[y3]) (wrL hs1 hl1 hi1) h
    ·rw [fresh_Pred_l1] at h
     refine loop_intro hX ?_
     conv=>whnf
     repeat((first|refine dw ?_|refine bcf (lt_end hi1) ?_);conv=>whnf)
     exact ret_some (f:=fun y=>.agg (Pred.cs y)) (g:=fun y=>[]) h hQ
theorem fresh_Know_c  {p0:Know} {r:Know} (h:fresh_Know_s p0=some r) (hQ:Q (.agg (Know.cs r)) []):X (.call 127 [.agg (Know.cs p0)] [] Q):=by
  unfold fresh_Know_s at h
  refine call_nz hX ?_
  conv=>whnf
  refine call_intro hX Tryz.func127 rfl rfl ?_
  revert h
  refine chkk fun hs1 h=>?_
  conv=>whnf
  repeat((first|refine dw ?_|refine eqv_to (map_len _) ?_);conv=>whnf)
  refine loop_nc hX ?_
  conv=>whnf
  refine loop_k hX [0,9] ?_
  conv=>whnf
  refine loop_lisx1 (fun (v1:Int) (v2:List Frag)=>pad [(2,.one (.ptr 0 0)),(0,.one (.ptr 2 0)),(6,.one (.p (.sl (p0.l.map Frag.row)))),(0,iv (p0.l.length:Int)),(0,iv v1)] 16) (fun (v1:Int) (v2:List Frag)=>[.box [ic 0,ic 0,ic 0,ic 0,ic 0,ic 0,ic 0,ic 0,.own 1],.rows 0 [],.box [ic p0.star.x0,ic p0.star.x1,ic p0.star.x2,ic p0.star.x3,ic p0.star.x4,ic p0.star.x5,ic p0.star.x6,ic p0.star.x7,.own 3],.rows 9 (v2.map Frag.row)]) _ p0.l (fun pre1 x1e xs1 v1 v2 hl1 hi1 h ih1=>?_) (fun v1 v2 hi1 h=>?_) ([]:List Frag) h
  ·rw [fresh_Know_l1] at h
   have am1:=at_mid hl1 hi1
   refine loop_intro hX ?_
   revert h
   refine bndk fun y3 e4 h=>?_
   conv=>whnf
   repeat((first|refine dw ?_|refine bct (lt_mid hl1 hi1) ?_|refine bct (at_in am1) ?_|refine bct (andt (at_in am1) rfl) ?_|refine row_in (at_row am1) ?_|refine bct (andt (at_in (at_nat am1)) rfl) ?_|refine row_in (at_row (at_nat am1)) ?_);conv=>whnf)
   refine clone_c (f:=srw) (k:=1) (fun _=>rfl) (by decide) hX e4 ?_
   revert h
   refine chkk fun c5 h=>?_
   conv=>whnf
   repeat((first|refine dw ?_|refine bct (room_map c5 rfl rfl rfl rfl) ?_|refine eqv_to (cat_one (f:=Frag.row) v2 (Frag.mk y3 x1e.vec)) ?_);conv=>whnf)
   exact ih1 _ (v2++[(Frag.mk y3 x1e.vec)]) (wrL hs1 hl1 hi1) h
  ·rw [fresh_Know_l1] at h
   refine loop_intro hX ?_
   conv=>whnf
   repeat((first|refine dw ?_|refine bcf (lt_end hi1) ?_);conv=>whnf)
   exact ret_some (f:=fun y=>.agg (Know.cs y)) (g:=fun y=>[]) h hQ
end
end Go.Proofs.YtidkmoohgadjkaaGreat
namespace Go.Proofs.YtidkmoohgadjkaaGreat
open Go E Pred
noncomputable section
open Classical
def risesG:Item→List Item→Bool
 | _,[]=>true
 | p,x::xs=>!(ltS x.id p.id || eqS x.id p.id)&&risesG x xs
def risesB:List Item→Bool
 | []=>true
 | x::xs=>risesG x xs
def mayListB (l:List Item):Bool:=l.all mayI&&risesB l
def item0':Item:=⟨⟨#[]⟩,0,0,0,⟨#[]⟩,0,0,0,false⟩
def getI (id:ByteArray):List Item→Item × Bool
 | []=>(item0',false)
 | x::xs=>if eqS x.id id then (x,true) else getI id xs
theorem get_l (id:ByteArray):∀ l:List Item,ref06_Get_l1 id l=some (getI id l)
 | []=>by rw [ref06_Get_l1]; rfl
 | x::xs=>by rw [ref06_Get_l1,get_l id xs,getI]; cases eqS x.id id<;>rfl
theorem get_s {l:List Item} {id:ByteArray} (h:l.length≤1000000000):ref06_Get_s l id=some (getI id l):=by
 unfold ref06_Get_s; rw [chk_t (smallL_of h),get_l]
theorem items_l:∀ (xs acc:List Item),acc.length + xs.length≤999990→law00_Items_l1 xs acc=some (acc++xs)
 | [],acc,_=>by rw [law00_Items_l1,List.append_nil]
 | i::xs,acc,h=>by
  rw [List.length_cons] at h
  rw [law00_Items_l1,bnd_of (show law00_Item_s i=some i from rfl),chk_t (roomL_of (by omega)),items_l xs _ (by rw [List.length_append]; simp; omega),List.append_assoc]; rfl
theorem items_s {l:List Item} (h:l.length≤999990):law00_Items_s l=some l:=by
 unfold law00_Items_s; rw [chk_t (smallL_of (by omega)),items_l l [] (by simp; omega)]; rfl
end
end Go.Proofs.YtidkmoohgadjkaaGreat
set_option maxHeartbeats 4000000
namespace Go.Proofs.YtidkmoohgadjkaaGreat
open Go E Pred
abbrev ex4:List Pred:=[bare 2 [],bare 1 []]
abbrev item0:Item:=⟨⟨#[]⟩,0,0,0,⟨#[]⟩,0,0,0,false⟩
end Go.Proofs.YtidkmoohgadjkaaGreat
set_option maxHeartbeats 0
namespace Go.Proofs.YtidkmoohgadjkaaGreat
open Go E
noncomputable section
open Pred
end
end Go.Proofs.YtidkmoohgadjkaaGreat
set_option maxHeartbeats 4000000
namespace Go.Proofs.YtidkmoohgadjkaaGreat
open Go E Pred
section
variable {X:Task→Prop} (hX:Closed X) {Q:A→List Blk→Prop}
include hX
end
end Go.Proofs.YtidkmoohgadjkaaGreat
namespace Go.Proofs.YtidkmoohgadjkaaGreat
open Go E Pred
inductive NF:Pred→Prop
 | leaf {o t n x y}:o≠8→o≠9→o≠10→NF (.mk o t n x y [])
 | some {ks}:(∀ k∈ks,NF k)→(∀ k∈ks,k.op≠9∧k.op≠1)→ks.foldl (addP 2) []=ks→2≤ks.length→NF (bare 9 ks)
 | all {ks}:(∀ k∈ks,NF k)→(∀ k∈ks,k.op≠8∧k.op≠2)→ks.foldl (addP 1) []=ks→2≤ks.length→NF (bare 8 ks)
 | no {k}:NF k→k.op≠1→k.op≠2→k.op≠10→NF (bare 10 [k])
end Go.Proofs.YtidkmoohgadjkaaGreat
namespace Go.Proofs.YtidkmoohgadjkaaGreat
open Go E Pred
noncomputable section
open Classical
theorem lsmall_t {p:Pred} (h:p.Ok) (hs:p.size≤60):law00_Small_s p=some 1:=by unfold law00_Small_s; rw [chk_t (decide_eq_true h),if_pos hs]
theorem lsmall_f {p:Pred} (h:p.Ok) (hs:¬ p.size≤60):law00_Small_s p=some 0:=by unfold law00_Small_s; rw [chk_t (decide_eq_true h),if_neg hs]
theorem lpred_s {p:Pred} (h:p.Ok) (hs:p.size≤1000):law00_Pred_s p=some p:=by unfold law00_Pred_s; rw [chk_t (decide_eq_true hs),chk_t (decide_eq_true h)]
theorem has_s {p:Pred} {x:Item} (h:p.Ok) (hx:x.Ok):eval_Has_s p x=some (hasP p x):=by unfold eval_Has_s; rw [chk_t (decide_eq_true h),chk_t (decide_eq_true hx)]
end
end Go.Proofs.YtidkmoohgadjkaaGreat
namespace Go.Proofs.YtidkmoohgadjkaaGreat
open Go E Pred
noncomputable section
open Classical
structure StOk (x:State):Prop where
 f:x.f.Ok
 fs:x.f.size≤1000
 store:∀ i∈x.store,i.Ok
 out:∀ i∈x.out,i.Ok
 sl:x.store.length≤990
 ol:x.out.length≤990
 k:KB x.k 990
 ids:IdsOk x.k
theorem fresh_know_l {k:Know}:∀ (l acc:List Frag),acc.length + l.length≤999990→(∀ f∈l,f.ids.length≤1000000)→fresh_Know_l1 k l acc=some ⟨k.star,acc++l⟩
 | [],acc,_,_=>by rw [fresh_Know_l1,List.append_nil]
 | f::l,acc,h,hi=>by
  rw [List.length_cons] at h
  have e:clone_s f.ids=some f.ids:=by unfold clone_s; rw [chk_t (decide_eq_true (hi f (List.mem_cons_self ..)))]
  rw [fresh_Know_l1,bnd_of e,chk_t (roomL_of (by omega)),fresh_know_l l _ (by rw [List.length_append]; simp; omega) fun g hg=>hi g (List.mem_cons_of_mem _ hg),List.append_assoc]; rfl
theorem fresh_pred_l {p:Pred} {rc:Pred→Option Pred}:∀ (l acc:List Pred),(∀ q∈l,rc q=some q)→acc.length + l.length≤999990→fresh_Pred_l1 p rc l acc=some (.mk p.op p.text p.n p.re p.im (acc++l))
 | [],acc,_,_=>by rw [fresh_Pred_l1,List.append_nil]
 | q::l,acc,h,hn=>by
  rw [List.length_cons] at hn
  rw [fresh_Pred_l1,bnd_of (h q (List.mem_cons_self ..)),chk_t (roomL_of (by omega)),fresh_pred_l l _ (fun x hx=>h x (List.mem_cons_of_mem _ hx)) (by rw [List.length_append]; simp; omega),List.append_assoc]; rfl
theorem fresh_pred:∀ (n:Nat) {p:Pred},p.size≤n→p.size≤1000→fresh_Pred_s n p=some p
 | 0,p,h,_=>by have:=size_pos p; omega
 | n + 1,p,h,hs=>by
  have e:=size_eq p
  have hl:=len_sizes p.kids
  show fresh_Pred_b (fresh_Pred_s n) p=some p
  unfold fresh_Pred_b
  rw [chk_t (smallL_of (by omega)),fresh_pred_l p.kids [] (fun q hq=>fresh_pred n (by have:=size_mem hq; omega) (by have:=size_mem hq; omega)) (by simp; omega)]
  cases p; rfl
theorem eqI_self (n:Int):eqI n n=true:=eqI_t.2 rfl
theorem known_l:∀ (l:List Frag),∃ b,law00_Known_l1 l=some b∧(b=0∨(b=1∧∀ f∈l,f.ids.length≤60))
 | []=>⟨1,by rw [law00_Known_l1],.inr ⟨rfl,fun f hf=>by cases hf⟩⟩
 | f::l=>by
  obtain ⟨b,hb,h⟩:=known_l l
  rw [law00_Known_l1,br_if]
  by_cases hf:ltI 60 (f.ids.length:Int)=true
  ·exact ⟨0,by rw [if_pos hf],.inl rfl⟩
  ·refine ⟨b,by rw [if_neg hf,hb],h.imp id fun ⟨h1,h2⟩=>⟨h1,fun g hg=>?_⟩⟩
   rw [ltI_t] at hf
   rcases List.mem_cons.1 hg with rfl | hg
   ·omega
   ·exact h2 g hg
theorem known_s (k:Know):∃ b,law00_Known_s k=some b∧(b=0∨(b=1∧KB k 60)):=by
 unfold law00_Known_s
 rw [br_if]
 by_cases hf:ltI 30 (k.l.length:Int)=true
 ·exact ⟨0,by rw [if_pos hf],.inl rfl⟩
 ·rw [if_neg hf]
  rw [ltI_t] at hf
  obtain ⟨b,hb,h⟩:=known_l k.l
  exact ⟨b,by rw [chk_t (smallL_of (by omega)),hb],h.imp id fun ⟨h1,h2⟩=>⟨h1,⟨by omega,h2⟩⟩⟩
structure Sit.Ok (s:Sit):Prop where
 f:s.f.Ok
 store:∀ i∈s.store,i.Ok
 out:∀ i∈s.out,i.Ok
 ids:IdsOk s.k
def Sit.st (s:Sit):State:=⟨s.r,s.f,s.store,s.out,s.k,s.count,s.clock,s.epoch⟩
theorem KB.mono {k:Know} {n m:Nat} (h:KB k n) (hm:n≤m):KB k m:=⟨Nat.le_trans h.l hm,fun f hf=>Nat.le_trans (h.ids f hf) hm⟩
theorem fits_sit {s:Sit} (ok:s.Ok):∃ b,law00_Fits_s s=some b∧(b=0∨(b=1∧StOk s.st∧s.f.size≤60∧s.store.length≤60∧s.out.length≤60∧KB s.k 60)):=by
 unfold law00_Fits_s
 rw [br_if,br_if]
 by_cases h1:ltI 60 (s.store.length:Int)=true
 ·exact ⟨0,by rw [if_pos h1],.inl rfl⟩
 ·rw [if_neg h1]
  by_cases h2:ltI 60 (s.out.length:Int)=true
  ·exact ⟨0,by rw [if_pos h2],.inl rfl⟩
  ·rw [if_neg h2]
   rw [ltI_t] at h1 h2
   obtain ⟨b,hb,hk⟩:=known_s s.k
   by_cases h3:s.f.size≤60
   ·rw [bnd_of (lsmall_t ok.f h3),bnd_of hb]
    rcases hk with rfl | ⟨rfl,hk⟩
    ·exact ⟨_,rfl,.inl rfl⟩
    ·exact ⟨_,rfl,.inr ⟨rfl,⟨ok.f,by show s.f.size≤1000; omega,ok.store,ok.out,by show s.store.length≤990; omega,by show s.out.length≤990; omega,hk.mono (by decide),ok.ids⟩,h3,by omega,by omega,hk⟩⟩
   ·rw [bnd_of (lsmall_f ok.f h3),bnd_of hb]
    exact ⟨_,rfl,.inl (by rw [Int.zero_mul]; rfl)⟩
theorem state_s {s:Sit} (ok:s.Ok) (h:StOk s.st):law00_State_s s=some s.st:=by
 have h1:=h.fs
 have h2:=h.sl
 have h3:=h.ol
 unfold law00_State_s
 rw [bnd_of (lpred_s ok.f h1),bnd_of (items_s (l:=s.store) (by show s.st.store.length≤_; omega)),bnd_of (items_s (l:=s.out) (by show s.st.out.length≤_; omega))]; rfl
end
end Go.Proofs.YtidkmoohgadjkaaGreat
namespace Go.Proofs.YtidkmoohgadjkaaGreat
open Go E Pred
noncomputable section
open Classical
theorem kt_with {k:Know} {N:Nat} (h:KT k N) (id:ByteArray) (r c:Int):KT (withK k id r c) (N + 1):=(kt_piece h id r c).plain
theorem ids_with {k:Know} {id:ByteArray} {r c:Int} (h:IdsOk k) (hid:id.size≤9223372036854775807):IdsOk (withK k id r c):=ids_plain (ids_piece h hid)
theorem kt_own {k:Know} {N:Nat} (h:KT k N) (id:ByteArray) (r c:Int):KT (ownK k id r c) (N + 1):=by
 unfold ownK
 split
 ·exact (KT.plain (k:=⟨withV k.star r c,k.l⟩) (N:=N) ⟨h.l,h.ids⟩).mono (by omega)
 ·exact kt_with h id r c
theorem ids_own {k:Know} {id:ByteArray} {r c:Int} (h:IdsOk k) (hid:id.size≤9223372036854775807):IdsOk (ownK k id r c):=by
 unfold ownK
 split
 ·exact ids_plain (k:=⟨withV k.star r c,k.l⟩) h
 ·exact ids_with h hid
theorem fresh_know_t {k:Know} {N:Nat} (h:KT k N) (hN:N≤900000):fresh_Know_s k=some k:=by
 have:=h.l
 unfold fresh_Know_s
 rw [chk_t (smallL_of (by omega)),fresh_know_l k.l [] (by simp; omega) fun f hf=>by have:=h.kb.ids f hf; omega]; rfl
theorem eqL_t:∀ {a b:List ByteArray},eqL a b=true→a=b
 | [],[],_=>rfl
 | x::xs,y::ys,h=>by
  rw [eqL,Bool.and_eq_true] at h
  rw [eqS_t.1 h.1,eqL_t h.2]
 | [],_::_,h=>by cases h
 | _::_,[],h=>by cases h
theorem alikeL_t:∀ {a b:List Frag},alikeL a b=true→a=b
 | [],[],_=>rfl
 | x::xs,y::ys,h=>by
  rw [alikeL,Bool.and_eq_true] at h
  unfold alikeF at h
  rw [Bool.and_eq_true] at h
  obtain ⟨⟨h1,h2⟩,h3⟩:=h
  have e1:=eq8_t.1 h1
  have e2:=eqL_t h2
  cases x; cases y
  simp only at e1 e2
  rw [e1,e2,alikeL_t h3]
 | [],_::_,h=>by cases h
 | _::_,[],h=>by cases h
theorem alikeK_t {a b:Know} (h:alikeK a b=true):a=b:=by
 unfold alikeK at h
 rw [Bool.and_eq_true] at h
 have e1:=eq8_t.1 h.1
 have e2:=alikeL_t h.2
 cases a; cases b
 simp only at e1 e2
 rw [e1,e2]
theorem mayK_plain {k:Know} (h:mayK k=true):plainK k=k:=by
 unfold mayK at h
 rw [Bool.and_eq_true] at h
 exact (alikeK_t h.1).symm
theorem mayK_iff {k:Know}:mayK k=true↔plainK k=k∧mayV k.star=true∧∀ f∈k.l,mayF f=true:=by
 constructor
 ·intro h
  refine ⟨mayK_plain h,?_⟩
  unfold mayK at h
  rw [Bool.and_eq_true,Bool.and_eq_true] at h
  exact ⟨h.2.1,List.all_eq_true.1 h.2.2⟩
 ·rintro ⟨h1,h2,h3⟩
  unfold mayK
  rw [h1,alike_self,h2]
  exact List.all_eq_true.2 h3
end
end Go.Proofs.YtidkmoohgadjkaaGreat
set_option maxHeartbeats 4000000
namespace Go.Proofs.YtidkmoohgadjkaaGreat
open Go E
abbrev z0 (n:Int):Item:=⟨⟨#[]⟩,0,0,n,⟨#[]⟩,0,0,0,false⟩
theorem beq_selfB (b:Bool):boolEq b b=true:=by rw [boolEq_eq]; simp
end Go.Proofs.YtidkmoohgadjkaaGreat
namespace Go.Proofs.YtidkmoohgadjkaaGreat
open Go E Pred
noncomputable section
open Classical
def lk (l:List Item) (id:ByteArray):Option Item:=l.find? fun x=>eqS x.id id
theorem lk_cons (x:Item) (l:List Item) (id:ByteArray):lk (x::l) id=if eqS x.id id=true then some x else lk l id:=by
 unfold lk; rw [List.find?_cons]; cases eqS x.id id<;>simp
theorem lk_some {l:List Item} {id:ByteArray} {x:Item} (h:lk l id=some x):x∈l∧x.id=id:=⟨List.mem_of_find?_eq_some h,eqS_t.1 (List.find?_some (p:=fun y:Item=>eqS y.id id) h)⟩
theorem lk_none {l:List Item} {id:ByteArray}:lk l id=none↔∀ x∈l,eqS x.id id=false:=by
 unfold lk; rw [List.find?_eq_none]
 exact ⟨fun h x hx=>by simpa using h x hx,fun h x hx=>by simpa using h x hx⟩
theorem lk_app (l m:List Item) (id:ByteArray):lk (l++m) id=(lk l id).or (lk m id):=List.find?_append
theorem ris_cons {x:Item} {l:List Item}:Ris (x::l)↔(∀ y∈l,ltS x.id y.id=true)∧Ris l:=List.pairwise_cons
theorem lk_lt {l:List Item} {id:ByteArray} (h:∀ x∈l,ltS x.id id=true):lk l id=none:=lk_none.2 fun x hx=>ltS_ne (h x hx)
theorem lk_gt {l:List Item} {id:ByteArray} (h:∀ x∈l,ltS id x.id=true):lk l id=none:=lk_none.2 fun x hx=>by rw [eqS_comm']; exact ltS_ne (h x hx)
theorem lk_mem:∀ {l:List Item} {x:Item},Ris l→x∈l→lk l x.id=some x
 | y::l,x,h,hx=>by
  rw [ris_cons] at h
  rw [lk_cons]
  rcases List.mem_cons.1 hx with rfl | hx
  ·rw [if_pos (eqS_self _)]
  ·rw [if_neg (by rw [ltS_ne (h.1 x hx)]; simp)]; exact lk_mem h.2 hx
theorem ris_ext:∀ {l m:List Item},Ris l→Ris m→(∀ id,lk l id=lk m id)→l=m
 | [],[],_,_,_=>rfl
 | [],y::m,_,_,h=>by have:=h y.id; rw [lk_cons,if_pos (eqS_self _)] at this; cases this
 | x::l,[],_,_,h=>by have:=h x.id; rw [lk_cons,if_pos (eqS_self _)] at this; cases this
 | x::l,y::m,hl,hm,h=>by
  have hx:x∈y::m:=(lk_some ((h x.id).symm.trans (lk_mem hl (List.mem_cons_self ..)))).1
  have hy:y∈x::l:=(lk_some ((h y.id).trans (lk_mem hm (List.mem_cons_self ..)))).1
  rw [ris_cons] at hl hm
  have e:x=y:=by
   rcases List.mem_cons.1 hx with e | hx
   ·exact e
   ·rcases List.mem_cons.1 hy with e | hy
    ·exact e.symm
    ·have:=ltS_asym (hl.1 y hy); rw [hm.1 x hx] at this; cases this
  subst e
  rw [ris_ext hl.2 hm.2 fun id=>?_]
  have:=h id
  rw [lk_cons,lk_cons] at this
  by_cases hi:eqS x.id id=true
  ·have hi':=eqS_t.1 hi
   subst hi'
   rw [lk_gt hl.1,lk_gt hm.1]
  ·rw [if_neg hi,if_neg hi] at this; exact this
theorem getI_lk (id:ByteArray):∀ l:List Item,getI id l=match lk l id with
  | some x=>(x,true)
  | none=>(item0',false)
 | []=>rfl
 | x::l=>by
  rw [getI,lk_cons]
  split
  ·rfl
  ·exact getI_lk id l
theorem getI_t {l:List Item} {id:ByteArray} {x:Item} (h:lk l id=some x):getI id l=(x,true):=by rw [getI_lk,h]
theorem getI_f {l:List Item} {id:ByteArray} (h:lk l id=none):getI id l=(item0',false):=by rw [getI_lk,h]
theorem risesG_iff:∀ (l:List Item) (p:Item),risesG p l=true↔Ris (p::l)
 | [],p=>⟨fun _=>ris_cons.2 ⟨fun y hy=>(by cases hy),List.Pairwise.nil⟩,fun _=>rfl⟩
 | x::l,p=>by
  rw [risesG,Bool.and_eq_true,risesG_iff l x,ris_cons (x:=p),ris_cons (x:=x)]
  constructor
  ·rintro ⟨h1,h2,h3⟩
   have hp:ltS p.id x.id=true:=by
    cases h:ltS p.id x.id with
    | true=>rfl
    | false =>
     cases h':ltS x.id p.id with
     | true=>rw [h'] at h1; cases h1
     | false=>rw [h',ltS_tri h' h,eqS_self] at h1; cases h1
   exact ⟨fun y hy=>by
    rcases List.mem_cons.1 hy with rfl | hy
    ·exact hp
    ·exact ltS_tr hp (h2 y hy),h2,h3⟩
  ·rintro ⟨h1,h2,h3⟩
   have hp:=h1 x (List.mem_cons_self ..)
   refine ⟨?_,h2,h3⟩
   rw [ltS_asym hp,eqS_comm',ltS_ne hp]; rfl
theorem ris_iff {l:List Item}:risesB l=true↔Ris l:=by
 cases l with
 | nil=>exact ⟨fun _=>.nil,fun _=>rfl⟩
 | cons x l=>exact risesG_iff l x
theorem mid_of {i j:Nat} (h:i + j≤4000000):wr .i64 (shrI .u64 (wr .u64 (wr .i64 ((i:Int) + (j:Int)))) 1)=(((i + j) / 2:Nat):Int):=by
 have h1:wr .i64 ((i:Int) + (j:Int))=((i + j:Nat):Int):=by rw [wr64 (by omega) (by omega)]; omega
 have h2:wr .u64 ((i + j:Nat):Int)=((i + j:Nat):Int):=by
  unfold wr IntKind.wrap
  simp only [IntKind.signed,IntKind.bits]
  simp
  omega
 have h3:shrI .u64 ((i + j:Nat):Int) 1=(((i + j) / 2:Nat):Int):=by
  unfold shrI
  rw [Int.fdiv_eq_ediv_of_nonneg _ (by decide)]
  simp [IntKind.bits]
 rw [h1,h2,h3,wr64 (by omega) (by omega)]
theorem br_same {α:Type} (c:Bool) (x:Option α):br c x x=x:=by cases c<;>rfl
theorem ris_get {l:List Item} (hr:Ris l) {i j:Nat} {x y:Item} (hx:l[i]?=some x) (hy:l[j]?=some y) (h:i < j):ltS x.id y.id=true:=by
 obtain ⟨hi,rfl⟩:=List.getElem?_eq_some_iff.1 hx
 obtain ⟨hj,rfl⟩:=List.getElem?_eq_some_iff.1 hy
 exact List.pairwise_iff_getElem.1 hr i j hi hj h
theorem find_l {l:List Item} {id:ByteArray} (hr:Ris l) (hn:l.length≤999990):∀ (fl i j:Nat),i≤j→j≤l.length→j - i < fl→(∀ k x,l[k]?=some x→k < i→ltS x.id id=true)→(∀ k x,l[k]?=some x→j≤k→ltS x.id id=false) →
  ∃ p,p≤l.length∧list_find_l1 l id fl (j:Int) (i:Int)=some ((p:Int),match l[p]? with | some x=>eqS x.id id | none=>false)∧(∀ k x,l[k]?=some x→k < p→ltS x.id id=true)∧(∀ k x,l[k]?=some x→p≤k→ltS x.id id=false)
 | 0,i,j,_,_,h,_,_=>by omega
 | fl + 1,i,j,hij,hj,hf,h1,h2=>by
  rw [list_find_l1]
  by_cases hlt:i < j
  ·have hm:(i + j) / 2 < l.length:=by omega
   rw [br_t (by rw [ltI_t]; omega),mid_of (by omega),bnd_of (atL_of hm),br_f (by rw [eqS_self]; rfl),br_f (by rw [eqS_self]; rfl)]
   have hx:l[(i + j) / 2]?=some l[(i + j) / 2]:=List.getElem?_eq_getElem hm
   cases hc:ltS l[(i + j) / 2].id id with
   | true =>
    rw [br_t rfl,wrS (by omega)]
    refine find_l hr hn fl ((i + j) / 2 + 1) j (by omega) hj (by omega) (fun k x hk hki=>?_) h2
    by_cases hkm:k=(i + j) / 2
    ·subst hkm; rw [hx] at hk; injection hk with hk; rw [←hk]; exact hc
    ·exact ltS_tr (ris_get hr hk hx (by omega)) hc
   | false =>
    rw [br_f rfl,br_same]
    refine find_l hr hn fl i ((i + j) / 2) (by omega) (by omega) (by omega) h1 (fun k x hk hki=>?_)
    by_cases hkm:k=(i + j) / 2
    ·subst hkm; rw [hx] at hk; injection hk with hk; rw [←hk]; exact hc
    ·cases h:ltS x.id id with
     | false=>rfl
     | true=>have:=ltS_tr (ris_get hr hx hk (by omega)) h; rw [hc] at this; cases this
  ·obtain rfl:i=j:=by omega
   refine ⟨i,hj,?_,h1,h2⟩
   rw [br_f (by rw [ltI_f]; omega)]
   by_cases hil:i < l.length
   ·have hx:l[i]?=some l[i]:=List.getElem?_eq_getElem hil
    rw [br_t (by rw [ltI_t]; omega),bnd_of (atL_of hil),br_f (by rw [eqS_self]; rfl),br_f (by rw [eqS_self]; rfl),br_f (h2 i _ hx (Nat.le_refl _)),h2 i _ hx (Nat.le_refl _),hx]
    dsimp only
    cases eqS l[i].id id<;>rfl
   ·rw [br_f (by rw [ltI_f]; omega),List.getElem?_eq_none (by omega)]
theorem find_s {l:List Item} {id:ByteArray} (hr:Ris l) (hn:l.length≤999990):∃ A B:List Item,l=A++B∧(∀ x∈A,ltS x.id id=true)∧(∀ x∈B,ltS x.id id=false)∧list_find_s l id=some ((A.length:Int),(lk l id).isSome):=by
 obtain ⟨p,hp,e,h1,h2⟩:=find_l hr hn fuelN 0 l.length (Nat.zero_le _) (Nat.le_refl _) (by unfold fuelN; omega) (fun k x _ h=>by omega) (fun k x hk h=>by rw [List.getElem?_eq_none h] at hk; cases hk) (id:=id)
 have hA:∀ x∈l.take p,ltS x.id id=true:=fun x hx=>by
  obtain ⟨k,hk⟩:=List.getElem?_of_mem hx
  rw [List.getElem?_take] at hk
  split at hk
  ·exact h1 k x hk (by omega)
  ·cases hk
 have hB:∀ x∈l.drop p,ltS x.id id=false:=fun x hx=>by
  obtain ⟨k,hk⟩:=List.getElem?_of_mem hx
  rw [List.getElem?_drop] at hk
  exact h2 _ x hk (by omega)
 refine ⟨l.take p,l.drop p,(List.take_append_drop p l).symm,hA,hB,?_⟩
 unfold list_find_s
 rw [show ((0:Nat):Int)=0 from rfl] at e
 rw [e,List.length_take,Nat.min_eq_left hp]
 congr 2
 have hl:lk l id=lk (l.drop p) id:=by
  conv=>lhs; rw [←List.take_append_drop p l,lk_app,lk_lt hA]
  rfl
 rw [hl]
 cases hd:l.drop p with
 | nil =>
  have:l[p]?=none:=by have:=List.getElem?_drop (xs:=l) (i:=p) (j:=0); rw [hd] at this; simpa using this.symm
  rw [this]; rfl
 | cons x B =>
  have hx:l[p]?=some x:=by have:=List.getElem?_drop (xs:=l) (i:=p) (j:=0); rw [hd] at this; simpa using this.symm
  have hr':Ris (x::B):=by rw [←hd]; exact hr.sublist (List.drop_sublist _ _)
  rw [hx,lk_cons]
  dsimp only
  cases hc:eqS x.id id with
  | true=>simp
  | false =>
   have hgt:∀ y∈B,ltS id y.id=true:=fun y hy=>by
    have h3:=(ris_cons.1 hr').1 y hy
    have h4:=hB x (by rw [hd]; exact List.mem_cons_self ..)
    exact le_ltS_tr h4 h3
   rw [if_neg (by simp),lk_gt hgt]; rfl
theorem find_head {l A B:List Item} {id:ByteArray} (hr:Ris l) (e:l=A++B) (hA:∀ x∈A,ltS x.id id=true) (hB:∀ x∈B,ltS x.id id=false) :
  (lk l id=none∧∀ x∈B,ltS id x.id=true)∨∃ x B',B=x::B'∧x.id=id∧lk l id=some x∧∀ y∈B',ltS id y.id=true:=by
 have hl:lk l id=lk B id:=by rw [e,lk_app,lk_lt hA]; rfl
 cases B with
 | nil=>exact .inl ⟨by rw [hl]; rfl,fun x hx=>by cases hx⟩
 | cons x B =>
  have hr':Ris (x::B):=by rw [e] at hr; exact hr.sublist (List.sublist_append_right _ _)
  have hx:=hB x (List.mem_cons_self ..)
  have hgt:∀ y∈B,ltS id y.id=true:=fun y hy=>le_ltS_tr hx ((ris_cons.1 hr').1 y hy)
  cases hc:ltS id x.id with
  | true =>
   refine .inl ⟨?_,fun y hy=>?_⟩
   ·rw [hl,lk_gt]
    intro y hy
    rcases List.mem_cons.1 hy with rfl | hy
    ·exact hc
    ·exact hgt y hy
   ·rcases List.mem_cons.1 hy with rfl | hy
    ·exact hc
    ·exact hgt y hy
  | false =>
   have e':=ltS_tri hx hc
   exact .inr ⟨x,B,rfl,e',by rw [hl,lk_cons,if_pos (eqS_t.2 e')],hgt⟩
theorem lget_s {l:List Item} {id:ByteArray} (hr:Ris l) (hn:l.length≤999990):list_Get_s l id=some (getI id l):=by
 obtain ⟨A,B,e,hA,hB,hf⟩:=find_s (id:=id) hr hn
 unfold list_Get_s
 rw [bnd_of hf]
 rcases find_head hr e hA hB with ⟨hl,_⟩ | ⟨x,B',rfl,hx,hl,_⟩
 ·rw [br_f (by rw [hl]; rfl),getI_f hl]; rfl
 ·rw [br_t (by rw [hl]; rfl),bnd_of (show atL l (A.length:Int)=some x by rw [e]; exact at_app A x B'),getI_t hl]
def putV (l:List Item) (x:Item):List Item:=(l.filter fun y=>ltS y.id x.id)++x::l.filter fun y=>ltS x.id y.id
def dropV (l:List Item) (id:ByteArray):List Item:=l.filter fun y=>!eqS y.id id
theorem lk_filter_t {l:List Item} {p:Item→Bool} {id:ByteArray} (h:∀ x,x.id=id→p x=true):lk (l.filter p) id=lk l id:=by
 induction l with
 | nil=>rfl
 | cons x l ih =>
  rw [List.filter_cons]
  by_cases hx:eqS x.id id=true
  ·rw [if_pos (h x (eqS_t.1 hx)),lk_cons,lk_cons,if_pos hx,if_pos hx]
  ·split
   ·rw [lk_cons,lk_cons,if_neg hx,if_neg hx,ih]
   ·rw [lk_cons,if_neg hx,ih]
theorem lk_filter_f {l:List Item} {p:Item→Bool} {id:ByteArray} (h:∀ x,x.id=id→p x=false):lk (l.filter p) id=none :=
 lk_none.2 fun x hx=>eqS_f.2 fun e=>by have:=(List.mem_filter.1 hx).2; rw [h x e] at this; cases this
theorem lk_put (l:List Item) (x:Item) (id:ByteArray):lk (putV l x) id=if eqS x.id id=true then some x else lk l id:=by
 unfold putV
 rw [lk_app,lk_cons]
 by_cases hx:eqS x.id id=true
 ·rw [if_pos hx,if_pos hx,lk_filter_f fun y hy=>by rw [hy,←eqS_t.1 hx]; exact ltS_self _]; rfl
 ·rw [if_neg hx,if_neg hx]
  cases h1:ltS id x.id with
  | true=>rw [lk_filter_t fun y hy=>by rw [hy]; exact h1,lk_filter_f fun y hy=>by rw [hy]; exact ltS_asym h1]; cases lk l id<;>rfl
  | false =>
   rw [lk_filter_f fun y hy=>by rw [hy]; exact h1]
   cases h2:ltS x.id id with
   | true=>rw [lk_filter_t fun y hy=>by rw [hy]; exact h2]; rfl
   | false=>exact absurd (eqS_t.2 (ltS_tri h2 h1)) hx
theorem lk_drop (l:List Item) (d id:ByteArray):lk (dropV l d) id=if eqS d id=true then none else lk l id:=by
 unfold dropV
 by_cases hx:eqS d id=true
 ·rw [if_pos hx,lk_filter_f fun y hy=>by rw [hy,eqS_comm',hx]; rfl]
 ·rw [if_neg hx,lk_filter_t fun y hy=>by rw [hy,eqS_comm']; simp at hx; rw [hx]; rfl]
theorem ris_put {l:List Item} (hr:Ris l) (x:Item):Ris (putV l x):=by
 unfold putV Ris
 rw [List.pairwise_append,List.pairwise_cons]
 refine ⟨hr.filter _,⟨fun y hy=>(List.mem_filter.1 hy).2,hr.filter _⟩,fun a ha b hb=>?_⟩
 have h1:=(List.mem_filter.1 ha).2
 rcases List.mem_cons.1 hb with rfl | hb
 ·exact h1
 ·exact ltS_tr h1 (List.mem_filter.1 hb).2
theorem ris_drop {l:List Item} (hr:Ris l) (id:ByteArray):Ris (dropV l id):=hr.filter _
theorem rput_l2 {x:Item}:∀ (l acc:List Item),acc.length + l.length≤999990→ref06_Put_l2 x l acc=some (acc++l.filter fun y=>ltS x.id y.id)
 | [],acc,_=>by rw [ref06_Put_l2]; simp
 | y::l,acc,h=>by
  rw [List.length_cons] at h
  have e:(!(ltS y.id x.id || eqS y.id x.id))=ltS x.id y.id:=by
   cases h1:ltS x.id y.id with
   | true=>rw [ltS_asym h1,eqS_comm',ltS_ne h1]; rfl
   | false =>
    cases h2:ltS y.id x.id with
    | true=>rfl
    | false=>rw [ltS_tri h2 h1,eqS_self]; rfl
  rw [ref06_Put_l2,e,List.filter_cons]
  cases ltS x.id y.id with
  | true=>rw [br_t rfl,chk_t (roomL_of (by omega)),rput_l2 l _ (by rw [List.length_append]; simp; omega)]; simp
  | false=>rw [br_f rfl,rput_l2 l _ (by omega)]; simp
theorem rput_l1 {L:List Item} {x:Item} (hL:L.length≤400000):∀ (l acc:List Item),acc.length + l.length≤400000→ref06_Put_l1 L x l acc=some (acc++(l.filter fun y=>ltS y.id x.id)++x::L.filter fun y=>ltS x.id y.id)
 | [],acc,h=>by
  rw [List.length_nil] at h
  rw [ref06_Put_l1,chk_t (roomL_of (by omega)),chk_t (smallL_of (by omega)),rput_l2 L _ (by rw [List.length_append]; simp; omega)]; simp
 | y::l,acc,h=>by
  rw [List.length_cons] at h
  rw [ref06_Put_l1,List.filter_cons]
  cases ltS y.id x.id with
  | true=>rw [br_t rfl,chk_t (roomL_of (by omega)),rput_l1 hL l _ (by rw [List.length_append]; simp; omega)]; simp
  | false=>rw [br_f rfl,rput_l1 hL l _ (by omega)]; simp
theorem rput_s {l:List Item} {x:Item} (h:l.length≤400000):ref06_Put_s l x=some (putV l x):=by
 unfold ref06_Put_s; rw [chk_t (smallL_of (by omega)),rput_l1 h l [] (by simpa using h)]; rfl
theorem lput_s {l:List Item} {x:Item} (hr:Ris l) (hn:l.length≤999990):list_Put_s l x=some (putV l x):=by
 obtain ⟨A,B,e,hA,hB,hf⟩:=find_s (id:=x.id) hr hn
 have hrA:Ris A:=by rw [e] at hr; exact hr.sublist (List.sublist_append_left _ _)
 have hrB:Ris B:=by rw [e] at hr; exact hr.sublist (List.sublist_append_right _ _)
 unfold list_Put_s
 rw [bnd_of hf,bnd_of (show clone_s l=some l by unfold clone_s; rw [chk_t (decide_eq_true (by omega))])]
 have key:∀ {B':List Item},(∀ y∈B',ltS x.id y.id=true)→Ris B'→(∀ id,eqS x.id id=false→lk B' id=lk B id)→A++x::B'=putV l x:=fun {B'} h1 h2 h3=>by
  refine ris_ext ?_ (ris_put hr x) fun id=>?_
  ·unfold Ris
   rw [List.pairwise_append,List.pairwise_cons]
   refine ⟨hrA,⟨h1,h2⟩,fun a ha b hb=>?_⟩
   rcases List.mem_cons.1 hb with rfl | hb
   ·exact hA a ha
   ·exact ltS_tr (hA a ha) (h1 b hb)
  ·rw [lk_put,lk_app,lk_cons]
   by_cases hx:eqS x.id id=true
   ·rw [if_pos hx,if_pos hx,←eqS_t.1 hx,lk_lt hA]; rfl
   ·rw [if_neg hx,if_neg hx,h3 id (by simpa using hx),e,lk_app]
 rcases find_head hr e hA hB with ⟨hl,hgt⟩ | ⟨y,B',rfl,hy,hl,hgt⟩
 ·rw [br_f (by rw [hl]; rfl)]
  have hi:ins_s l (A.length:Int) x=some (A++x::B):=by
   unfold ins_s
   rw [chk_t (decide_eq_true ⟨by omega,by rw [e]; simp; omega,by omega⟩),Int.toNat_natCast,e,List.take_left,List.drop_left]
  rw [bnd_of hi,key hgt hrB fun _ _=>rfl]
 ·rw [br_t (by rw [hl]; rfl),bnd_of (show atL l (A.length:Int)=some y by rw [e]; exact at_app A y B'),Int.toNat_natCast]
  have:l.set A.length x=A++x::B':=by rw [e]; exact set_app A y x B'
  rw [this,key hgt (ris_cons.1 hrB).2 fun id hid=>by rw [lk_cons,if_neg (by rw [hy,hid]; simp)]]
theorem ldrop_s {l:List Item} {id:ByteArray} (hr:Ris l) (hn:l.length≤999990):list_Drop_s l id=some (dropV l id):=by
 obtain ⟨A,B,e,hA,hB,hf⟩:=find_s (id:=id) hr hn
 have hrA:Ris A:=by rw [e] at hr; exact hr.sublist (List.sublist_append_left _ _)
 unfold list_Drop_s
 rw [bnd_of (show clone_s l=some l by unfold clone_s; rw [chk_t (decide_eq_true (by omega))]),bnd_of hf]
 rcases find_head hr e hA hB with ⟨hl,hgt⟩ | ⟨y,B',rfl,hy,hl,hgt⟩
 ·rw [br_f (by rw [hl]; rfl)]
  congr 1
  unfold dropV
  rw [List.filter_eq_self.2]
  intro y hy
  rw [lk_none.1 hl y hy]; rfl
 ·rw [br_t (by rw [hl]; rfl)]
  have hi:del_s l (A.length:Int)=some (A++B'):=by
   unfold del_s
   rw [chk_t (decide_eq_true ⟨by omega,by rw [e]; simp; omega,by omega⟩),Int.toNat_natCast,e,List.take_left]
   congr 2
   rw [←List.drop_drop,List.drop_left]; rfl
  rw [bnd_of hi]
  congr 1
  refine ris_ext ?_ (ris_drop hr id) fun id'=>?_
  ·rw [e] at hr
   exact hr.sublist (List.Sublist.append_left (List.sublist_cons_self _ _) _)
  ·rw [lk_drop,lk_app]
   by_cases hx:eqS id id'=true
   ·rw [if_pos hx,←eqS_t.1 hx,lk_lt hA,lk_gt hgt]; rfl
   ·rw [if_neg hx,e,lk_app,lk_cons,if_neg (by rw [hy]; exact hx)]
end
end Go.Proofs.YtidkmoohgadjkaaGreat
namespace Go.Proofs.YtidkmoohgadjkaaGreat
open Go E Pred
noncomputable section
open Classical
def newer:Option Item→Option Item→Option Item
 | none,p=>p
 | some x,none=>some x
 | some x,some y=>if behindB y x=true then some y else some x
theorem newer_none (o:Option Item):newer o none=o:=by cases o<;>rfl
def mergeF:Nat→List Item→List Item→List Item
 | 0,_,_=>[]
 | _ + 1,[],b=>b
 | _ + 1,x::a,[]=>x::a
 | n + 1,x::a,y::b=>if ltS x.id y.id=true then x::mergeF n a (y::b) else if ltS y.id x.id=true then y::mergeF n (x::a) b else if behindB y x=true then mergeF n a (y::b) else mergeF n (x::a) b
def bothV (a b:List Item):List Item:=mergeF (a.length + b.length + 1) a b
theorem cmp_pos (a b:Item):ltI 0 (compareV a b)=behindB a b:=by
 unfold compareV
 cases behindB a b with
 | true=>rfl
 | false =>
  cases behindB b a<;>rfl
theorem both_l:∀ (n fl:Nat) (a out b:List Item),a.length + b.length < n→n≤fl→out.length + a.length + b.length≤999990→list_Both_l1 fl a out b=some (out++mergeF n a b)
 | 0,_,_,_,_,h,_,_=>by omega
 | n + 1,0,_,_,_,_,h,_=>by omega
 | n + 1,fl + 1,[],out,b,h,hf,hl=>by
  rw [list_Both_l1,br_f (by rfl),chk_t (roomL_of (by simpa using by simp at hl; omega)),chk_t (roomL_of (by simp at hl ⊢; omega)),mergeF]; simp
 | n + 1,fl + 1,x::a,out,[],h,hf,hl=>by
  rw [list_Both_l1,br_t (by rw [ltI_t,List.length_cons]; omega),br_f (by rfl),chk_t (roomL_of (by simp at hl ⊢; omega)),chk_t (roomL_of (by simp at hl ⊢; omega)),mergeF]; simp
 | n + 1,fl + 1,x::a,out,y::b,h,hf,hl=>by
  have l1:leI 1 ((x::a).length:Int)=true:=by rw [leI_t,List.length_cons]; omega
  have l2:leI 1 ((y::b).length:Int)=true:=by rw [leI_t,List.length_cons]; omega
  have i1:=fun o=>both_l n fl a o (y::b) (by simp at h ⊢; omega) (by omega)
  have i2:=fun o=>both_l n fl (x::a) o b (by simp at h ⊢; omega) (by omega)
  rw [list_Both_l1,br_t (by rw [ltI_t,List.length_cons]; omega),br_t (by rw [ltI_t,List.length_cons]; omega),bnd_of (show atL (x::a) 0=some x from rfl),bnd_of (show atL (y::b) 0=some y from rfl),mergeF]
  cases h1:ltS x.id y.id with
  | true =>
   rw [br_t rfl,chk_t (roomL_of (by simp at hl; omega)),chk_t l1,if_pos rfl]
   rw [show (x::a).drop 1=a from rfl,i1 _ (by simp at hl ⊢; omega)]; simp
  | false =>
   rw [br_f rfl,if_neg (by simp)]
   cases h2:ltS y.id x.id with
   | true =>
    have:(!(false || eqS x.id y.id))=true:=by rw [eqS_comm',ltS_ne h2]; rfl
    rw [br_t this,chk_t (roomL_of (by simp at hl; omega)),chk_t l2,if_pos rfl]
    rw [show (y::b).drop 1=b from rfl,i2 _ (by simp at hl ⊢; omega)]; simp
   | false =>
    have:(!(false || eqS x.id y.id))=false:=by rw [eqS_t.2 (ltS_tri h1 h2)]; rfl
    rw [br_f this,if_neg (by simp),bnd_of (show item_Compare_s y x=some (compareV y x) from rfl),cmp_pos]
    cases behindB y x with
    | true=>rw [br_t rfl,chk_t l1,if_pos rfl]; exact i1 _ (by simp at hl ⊢; omega)
    | false=>rw [br_f rfl,chk_t l2,if_neg (by simp)]; exact i2 _ (by simp at hl ⊢; omega)
theorem lboth_s {a b:List Item} (h:a.length + b.length≤999980):list_Both_s a b=some (bothV a b):=by
 unfold list_Both_s bothV
 rw [both_l (a.length + b.length + 1) fuelN a [] b (by omega) (by unfold fuelN; omega) (by simp; omega)]; rfl
theorem mem_merge:∀ (n:Nat) (a b:List Item) (z:Item),z∈mergeF n a b→z∈a∨z∈b
 | 0,_,_,_,h=>by rw [mergeF] at h; cases h
 | n + 1,[],b,z,h=>by rw [mergeF] at h; exact .inr h
 | n + 1,x::a,[],z,h=>by rw [mergeF] at h; exact .inl h
 | n + 1,x::a,y::b,z,h=>by
  rw [mergeF] at h
  split at h
  ·rcases List.mem_cons.1 h with rfl | h
   ·exact .inl (List.mem_cons_self ..)
   ·exact (mem_merge n a (y::b) z h).imp (List.mem_cons_of_mem _) id
  ·split at h
   ·rcases List.mem_cons.1 h with rfl | h
    ·exact .inr (List.mem_cons_self ..)
    ·exact (mem_merge n (x::a) b z h).imp id (List.mem_cons_of_mem _)
   ·split at h
    ·exact (mem_merge n a (y::b) z h).imp (List.mem_cons_of_mem _) id
    ·exact (mem_merge n (x::a) b z h).imp id (List.mem_cons_of_mem _)
theorem len_merge:∀ (n:Nat) (a b:List Item),(mergeF n a b).length≤a.length + b.length
 | 0,_,_=>by rw [mergeF]; simp
 | n + 1,[],b=>by rw [mergeF]; simp
 | n + 1,x::a,[]=>by rw [mergeF]; simp
 | n + 1,x::a,y::b=>by
  have h1:=len_merge n a (y::b)
  have h2:=len_merge n (x::a) b
  rw [mergeF]
  simp only [List.length_cons] at *
  split
  ·simp; omega
  ·split
   ·simp; omega
   ·split<;>omega
theorem ris_merge:∀ (n:Nat) {a b:List Item},Ris a→Ris b→Ris (mergeF n a b)
 | 0,_,_,_,_=>by rw [mergeF]; exact .nil
 | n + 1,[],b,_,hb=>by rw [mergeF]; exact hb
 | n + 1,x::a,[],ha,_=>by rw [mergeF]; exact ha
 | n + 1,x::a,y::b,ha,hb=>by
  have ha':=ris_cons.1 ha
  have hb':=ris_cons.1 hb
  rw [mergeF]
  split
  ·rename_i h1
   refine ris_cons.2 ⟨fun z hz=>?_,ris_merge n ha'.2 hb⟩
   rcases mem_merge n _ _ z hz with hz | hz
   ·exact ha'.1 z hz
   ·rcases List.mem_cons.1 hz with rfl | hz
    ·exact h1
    ·exact ltS_tr h1 (hb'.1 z hz)
  ·split
   ·rename_i h2
    refine ris_cons.2 ⟨fun z hz=>?_,ris_merge n ha hb'.2⟩
    rcases mem_merge n _ _ z hz with hz | hz
    ·rcases List.mem_cons.1 hz with rfl | hz
     ·exact h2
     ·exact ltS_tr h2 (ha'.1 z hz)
    ·exact hb'.1 z hz
   ·split
    ·exact ris_merge n ha'.2 hb
    ·exact ris_merge n ha hb'.2
theorem lk_merge:∀ (n:Nat) {a b:List Item} (id:ByteArray),a.length + b.length < n→Ris a→Ris b→lk (mergeF n a b) id=newer (lk a id) (lk b id)
 | 0,_,_,_,h,_,_=>by omega
 | n + 1,[],b,id,_,_,_=>by rw [mergeF]; rfl
 | n + 1,x::a,[],id,_,_,_=>by rw [mergeF]; exact (newer_none _).symm
 | n + 1,x::a,y::b,id,h,ha,hb=>by
  have ha':=ris_cons.1 ha
  have hb':=ris_cons.1 hb
  have i1:=lk_merge n id (a:=a) (b:=y::b) (by simp at h ⊢; omega) ha'.2 hb
  have i2:=lk_merge n id (a:=x::a) (b:=b) (by simp at h ⊢; omega) ha hb'.2
  rw [mergeF]
  by_cases h1:ltS x.id y.id=true
  ·rw [if_pos h1,lk_cons,lk_cons x a,i1]
   by_cases hx:eqS x.id id=true
   ·have hn:lk (y::b) id=none:=lk_gt fun z hz=>by
     rw [←eqS_t.1 hx]
     rcases List.mem_cons.1 hz with rfl | hz
     ·exact h1
     ·exact ltS_tr h1 (hb'.1 z hz)
    rw [if_pos hx,if_pos hx,hn]; rfl
   ·rw [if_neg hx,if_neg hx]
  ·rw [if_neg h1]
   by_cases h2:ltS y.id x.id=true
   ·rw [if_pos h2,lk_cons,lk_cons y b,i2]
    by_cases hy:eqS y.id id=true
    ·have hn:lk (x::a) id=none:=lk_gt fun z hz=>by
      rw [←eqS_t.1 hy]
      rcases List.mem_cons.1 hz with rfl | hz
      ·exact h2
      ·exact ltS_tr h2 (ha'.1 z hz)
     rw [if_pos hy,if_pos hy,hn]; rfl
    ·rw [if_neg hy,if_neg hy]
   ·rw [if_neg h2]
    simp only [Bool.not_eq_true] at h1 h2
    have e:=ltS_tri h1 h2
    by_cases hx:eqS x.id id=true
    ·have hy:eqS y.id id=true:=by rw [←e]; exact hx
     have na:lk a id=none:=lk_gt fun z hz=>by rw [←eqS_t.1 hx]; exact ha'.1 z hz
     have nb:lk b id=none:=lk_gt fun z hz=>by rw [←eqS_t.1 hy]; exact hb'.1 z hz
     have ex:lk (x::a) id=some x:=by rw [lk_cons,if_pos hx]
     have ey:lk (y::b) id=some y:=by rw [lk_cons,if_pos hy]
     rw [na,ey] at i1
     rw [nb,ex] at i2
     rw [ex,ey]
     show _=if behindB y x=true then some y else some x
     split
     ·exact i1
     ·exact i2
    ·have hy:¬ eqS y.id id=true:=by rw [←e]; exact hx
     have ex:lk (x::a) id=lk a id:=by rw [lk_cons,if_neg hx]
     have ey:lk (y::b) id=lk b id:=by rw [lk_cons,if_neg hy]
     rw [ey] at i1
     rw [ex] at i2
     rw [ex,ey]
     split
     ·exact i1
     ·exact i2
theorem ris_both {a b:List Item} (ha:Ris a) (hb:Ris b):Ris (bothV a b):=ris_merge _ ha hb
theorem lk_both {a b:List Item} (ha:Ris a) (hb:Ris b) (id:ByteArray):lk (bothV a b) id=newer (lk a id) (lk b id):=lk_merge _ id (by omega) ha hb
def stepB (acc:List Item) (y:Item):List Item:=match lk acc y.id with
 | none=>putV acc y
 | some h=>if behindB y h=true then putV acc y else acc
theorem len_put1 {l:List Item} (hr:Ris l) (x:Item):(putV l x).length≤l.length + 1:=by
 have h1:((l.filter fun y=>ltS y.id x.id)++l.filter fun y=>ltS x.id y.id).length≤l.length:=by
  rw [List.length_append]
  induction l with
  | nil=>simp
  | cons y l ih =>
   have:=ih (ris_cons.1 hr).2
   rw [List.filter_cons,List.filter_cons]
   cases h:ltS y.id x.id with
   | true=>rw [ltS_asym h]; simp; omega
   | false=>cases ltS x.id y.id<;>simp<;>omega
 unfold putV
 rw [List.length_append] at h1 ⊢
 rw [List.length_cons]; omega
theorem ris_step {acc:List Item} (h:Ris acc) (y:Item):Ris (stepB acc y):=by
 unfold stepB
 split
 ·exact ris_put h y
 ·split
  ·exact ris_put h y
  ·exact h
theorem len_step {acc:List Item} (h:Ris acc) (y:Item):(stepB acc y).length≤acc.length + 1:=by
 unfold stepB
 split
 ·exact len_put1 h y
 ·split
  ·exact len_put1 h y
  ·omega
theorem lk_step (acc:List Item) (y:Item) (id:ByteArray):lk (stepB acc y) id=newer (lk acc id) (if eqS y.id id=true then some y else none):=by
 unfold stepB
 by_cases hy:eqS y.id id=true
 ·rw [if_pos hy,←eqS_t.1 hy]
  cases h:lk acc y.id with
  | none=>dsimp only; rw [lk_put,if_pos (eqS_self _)]; rfl
  | some x =>
   dsimp only
   show _=if behindB y x=true then some y else some x
   split
   ·rw [lk_put,if_pos (eqS_self _)]
   ·exact h
 ·rw [if_neg hy,newer_none]
  split
  ·rw [lk_put,if_neg hy]
  ·split
   ·rw [lk_put,if_neg hy]
   ·rfl
theorem ris_fold:∀ (b acc:List Item),Ris acc→Ris (b.foldl stepB acc)
 | [],_,h=>h
 | y::b,acc,h=>ris_fold b _ (ris_step h y)
theorem lk_fold (id:ByteArray):∀ (b acc:List Item),Ris b→lk (b.foldl stepB acc) id=newer (lk acc id) (lk b id)
 | [],acc,_=>(newer_none _).symm
 | y::b,acc,h=>by
  have h':=ris_cons.1 h
  rw [List.foldl_cons,lk_fold id b _ h'.2,lk_step,lk_cons]
  by_cases hy:eqS y.id id=true
  ·rw [if_pos hy,if_pos hy,lk_gt (l:=b) fun z hz=>by rw [←eqS_t.1 hy]; exact h'.1 z hz,newer_none]
  ·rw [if_neg hy,if_neg hy,newer_none]
theorem rboth_l:∀ (b acc:List Item),Ris acc→acc.length + b.length≤400000→ref06_Both_l1 b acc=some (b.foldl stepB acc)
 | [],acc,_,_=>by rw [ref06_Both_l1]; rfl
 | y::b,acc,hr,h=>by
  rw [List.length_cons] at h
  have ih:=rboth_l b (stepB acc y) (ris_step hr y) (by have:=len_step hr y; omega)
  rw [ref06_Both_l1,bnd_of (get_s (by omega)),List.foldl_cons,←ih]
  unfold stepB
  cases hk:lk acc y.id with
  | none=>rw [getI_f hk,br_t (by rfl),bnd_of (rput_s (by omega))]
  | some x =>
   rw [getI_t hk,br_f (by rfl),bnd_of (show ref01_Behind_s y (x,true).1=some (behindB y x) from rfl)]
   dsimp only
   cases behindB y x with
   | true=>rw [br_t rfl,bnd_of (rput_s (by omega)),if_pos rfl]
   | false=>rw [br_f rfl,if_neg (by simp)]
theorem rboth_s {a b:List Item} (ha:Ris a) (hb:Ris b) (h:a.length + b.length≤400000):ref06_Both_s a b=some (bothV a b):=by
 unfold ref06_Both_s
 rw [chk_t (roomL_of (by omega)),chk_t (smallL_of (by omega)),rboth_l b a ha h]
 congr 1
 exact ris_ext (ris_fold b a ha) (ris_both ha hb) fun id=>by rw [lk_fold id b a hb,lk_both ha hb]
theorem lmay_l {L:List Item} (hn:L.length≤999990):∀ (xs:List Item) (p:Item) (pre:List Item),L=pre++p::xs→(∀ x∈xs,x.Ok)→list_May_l1 L xs ((pre.length:Int) + 1)=some (xs.all mayI&&risesG p xs)
 | [],p,pre,_,_=>by rw [list_May_l1]; rfl
 | x::xs,p,pre,h,hx=>by
  have hlen:L.length=pre.length + (xs.length + 2):=by rw [h]; simp
  have e:item_May_s x=some (mayI x):=by unfold item_May_s; rw [chk_t (decide_eq_true (hx x (List.mem_cons_self ..)))]
  have a0:atL L (wr .i64 ((pre.length:Int) + 1 - 1))=some p:=by
   rw [wr64 (by omega) (by omega),show (pre.length:Int) + 1 - 1=pre.length by omega,h]; exact at_app pre p (x::xs)
  have ih:=lmay_l hn xs x (pre++[p]) (by rw [h]; simp) fun y hy=>hx y (List.mem_cons_of_mem _ hy)
  rw [List.length_append] at ih
  rw [list_May_l1,bnd_of e,List.all_cons,risesG]
  cases mayI x with
  | false=>rfl
  | true =>
   rw [br_f (by rfl),br_t (by rw [ltI_t]; omega),bnd_of a0]
   have eq:(!(ltS x.id p.id || eqS x.id p.id))=ltS p.id x.id:=by
    cases h1:ltS p.id x.id with
    | true=>rw [ltS_asym h1,eqS_comm',ltS_ne h1]; rfl
    | false =>
     cases h2:ltS x.id p.id with
     | true=>rfl
     | false=>rw [ltS_tri h2 h1,eqS_self]; rfl
   rw [eq]
   cases ltS p.id x.id with
   | false=>rw [br_t (by rfl)]; simp
   | true =>
    rw [br_f (by rfl)]
    refine Eq.trans ?_ (ih.trans ?_)
    ·rfl
    ·simp
theorem lmay_s {l:List Item} (hn:l.length≤999990) (hx:∀ x∈l,x.Ok):list_May_s l=some (mayListB l):=by
 unfold list_May_s mayListB
 rw [chk_t (smallL_of (by omega))]
 match l,hn,hx with
 | [],_,_=>rfl
 | x::xs,hn,hx =>
  have e:item_May_s x=some (mayI x):=by unfold item_May_s; rw [chk_t (decide_eq_true (hx x (List.mem_cons_self ..)))]
  have ih:=lmay_l hn xs x [] rfl fun y hy=>hx y (List.mem_cons_of_mem _ hy)
  rw [list_May_l1,bnd_of e,List.all_cons]
  cases mayI x with
  | false=>rfl
  | true =>
   rw [br_f (by rfl),br_f (by rfl)]
   refine Eq.trans ?_ (ih.trans ?_)
   ·rfl
   ·simp [risesB]
theorem may_ris {l:List Item} (h:mayListB l=true):Ris l:=by
 unfold mayListB at h; rw [Bool.and_eq_true] at h; exact ris_iff.1 h.2
theorem may_all {l:List Item} (h:mayListB l=true):∀ x∈l,mayI x=true:=by
 unfold mayListB at h; rw [Bool.and_eq_true,List.all_eq_true] at h; exact h.1
theorem may_of {l:List Item} (h:Ris l) (h':∀ x∈l,mayI x=true):mayListB l=true:=by
 unfold mayListB; rw [Bool.and_eq_true,List.all_eq_true]; exact ⟨h',ris_iff.2 h⟩
theorem sameList_l:∀ (xs pre ys L:List Item),L=pre++ys→xs.length=ys.length→(∀ p∈xs.zip ys,sameI p.1 p.2=true)→ref06_SameList_l1 L xs (pre.length:Int)=some true
 | [],pre,[],L,_,_,_=>by rw [ref06_SameList_l1]
 | x::xs,pre,y::ys,L,h,hl,hs=>by
  have ih:=sameList_l xs (pre++[y]) ys L (by rw [h]; simp) (by simpa using hl) fun p hp=>hs p (by simp [hp])
  rw [List.length_append] at ih
  rw [ref06_SameList_l1,bnd_of (show atL L (pre.length:Int)=some y by rw [h]; exact at_app pre y ys),bnd_of (show ref01_Same_s x y=some (sameI x y) from rfl),hs (x,y) (by simp),br_f (by rfl)]
  exact ih
 | [],_,_::_,_,_,h,_=>by simp at h
 | _::_,_,[],_,_,h,_=>by simp at h
end
end Go.Proofs.YtidkmoohgadjkaaGreat
set_option maxHeartbeats 0
namespace Go.Proofs.YtidkmoohgadjkaaGreat
open Go E
noncomputable section
open Pred
end
end Go.Proofs.YtidkmoohgadjkaaGreat
namespace Go.Proofs.YtidkmoohgadjkaaGreat
open Go E Pred
noncomputable section
open Classical
def realI (x:Item):Prop:=eqFl .f64 x.re x.re=true∧eqFl .f64 x.im x.im=true
theorem sameI_real {x:Item} (h:realI x):sameI x x=true:=by
 unfold sameI
 rw [h.1,h.2,eqS_refl,eqS_refl,beq_selfB]
 simp [eqI]
theorem real_may {x:Item} (h:mayI x=true):realI x:=by
 unfold mayI at h
 simp only [Bool.and_eq_true] at h
 obtain ⟨_,_,_,hp⟩:=h
 obtain ⟨⟨w1,_⟩,⟨w2,_⟩⟩:=placeB_ok hp
 exact ⟨w1.self,w2.self⟩
theorem mem_put {l:List Item} {x y:Item} (h:y∈putV l x):y=x∨y∈l:=by
 unfold putV at h
 rcases List.mem_append.1 h with h | h
 ·exact .inr (List.mem_filter.1 h).1
 ·rcases List.mem_cons.1 h with rfl | h
  ·exact .inl rfl
  ·exact .inr (List.mem_filter.1 h).1
theorem mem_drop {l:List Item} {id:ByteArray} {y:Item} (h:y∈dropV l id):y∈l:=(List.mem_filter.1 h).1
theorem mem_both {a b:List Item} {y:Item} (h:y∈bothV a b):y∈a∨y∈b:=mem_merge _ a b y h
theorem behind_iff (a b:Item):behindB a b=true↔b.stamp < a.stamp∨(a.stamp=b.stamp∧(b.vr < a.vr∨(a.vr=b.vr∧b.vc < a.vc))):=by
 unfold behindB
 by_cases h1:a.stamp=b.stamp
 ·rw [if_pos (eqI_t.2 h1)]
  by_cases h2:a.vr=b.vr
  ·rw [if_pos (eqI_t.2 h2),ltI_t]; omega
  ·rw [if_neg (by rw [eqI_t]; exact h2),ltI_t]; omega
 ·rw [if_neg (by rw [eqI_t]; exact h1),ltI_t]; omega
theorem behind_self (a:Item):behindB a a=false:=by
 cases h:behindB a a with
 | false=>rfl
 | true=>rw [behind_iff] at h; omega
end
end Go.Proofs.YtidkmoohgadjkaaGreat
set_option maxHeartbeats 0
namespace Go.Proofs.YtidkmoohgadjkaaGreat
open Go E
noncomputable section
open Pred
def fresh_State_s (p0:State):Option (State) :=
 (bnd (fresh_Pred_s fuelR p0.f) fun y1 =>
  (bnd (fresh_Know_s p0.k) fun y3 =>
   (bnd (clone_s p0.store) fun y5 =>
    (bnd (clone_s p0.out) fun y7 =>
     some (State.mk p0.r y1 y5 y7 y3 p0.count p0.clock p0.epoch)))))
variable {X:Task→Prop} (hX:Closed X) {Q:A→List Blk→Prop}
include hX
theorem fresh_State_c  {p0:State} {r:State} (h:fresh_State_s p0=some r) (hQ:Q (.agg (State.cs r)) []):X (.call 93 [.agg (State.cs p0)] [] Q):=by
 unfold fresh_State_s at h
 refine call_nz hX ?_
 conv=>whnf
 refine call_intro hX Tryz.func93 rfl rfl ?_
 revert h
 refine bndk fun y1 e2 h=>?_
 conv=>whnf
 repeat((first|refine dw ?_);conv=>whnf)
 refine fresh_Pred_c hX fuelR e2 ?_
 revert h
 refine bndk fun y3 e4 h=>?_
 conv=>whnf
 repeat((first|refine dw ?_);conv=>whnf)
 refine fresh_Know_c hX e4 ?_
 revert h
 refine bndk fun y5 e6 h=>?_
 conv=>whnf
 repeat((first|refine dw ?_);conv=>whnf)
 refine clone_c (f:=Item.row) (k:=8) (fun _=>rfl) (by decide) hX e6 ?_
 revert h
 refine bndk fun y7 e8 h=>?_
 conv=>whnf
 repeat((first|refine dw ?_);conv=>whnf)
 refine clone_c (f:=Item.row) (k:=8) (fun _=>rfl) (by decide) hX e8 ?_
 conv=>whnf
 repeat((first|refine dw ?_);conv=>whnf)
 exact ret_some (f:=fun y=>.agg (State.cs y)) (g:=fun y=>[]) h hQ
end
end Go.Proofs.YtidkmoohgadjkaaGreat
set_option maxHeartbeats 0
namespace Go.Proofs.YtidkmoohgadjkaaGreat
open Go E
noncomputable section
open Pred
def local_within_s (p0:Int) (p1:Int):Option (Bool) :=
 (br (leI 0 p0)
  (some (leI p0 p1))
  (some false))
def local_holds_l1 (p0:State) (p2:Bool):List Item→Option (Bool)
  | [] =>
  some true
  | x1e::xs1 =>
  (bnd (eval_Has_s p0.f x1e) fun y2 =>
   (br (@Bool.rec (fun _=>Bool) p2 (!p2) y2)
    (some false)
    (br (ltI p0.clock x1e.stamp)
     (some false)
     (bnd (know_Has_s p0.k x1e.id (Ver.mk x1e.vr x1e.vc)) fun y6 =>
      (br (!y6)
       (some false)
       (local_holds_l1 p0 p2 xs1  ))))))
def local_holds_s (p0:State) (p1:List Item) (p2:Bool):Option (Bool) :=
 (chk (smallL p1)
   ((local_holds_l1 p0 p2) p1 ))
def local_own_l1 (p0_k:Know) (p0_count:Int):List Frag→Option (Bool)
  | [] =>
  some (leI p0_k.star.x0 p0_count)
  | x1e::xs1 =>
  (br (ltI p0_count x1e.vec.x0)
   (some false)
   (local_own_l1 p0_k p0_count xs1  ))
def local_own_l2 (p0_k:Know) (p0_count:Int):List Frag→Option (Bool)
  | [] =>
  some (leI p0_k.star.x1 p0_count)
  | x2e::xs2 =>
  (br (ltI p0_count x2e.vec.x1)
   (some false)
   (local_own_l2 p0_k p0_count xs2  ))
def local_own_l3 (p0_k:Know) (p0_count:Int):List Frag→Option (Bool)
  | [] =>
  some (leI p0_k.star.x2 p0_count)
  | x3e::xs3 =>
  (br (ltI p0_count x3e.vec.x2)
   (some false)
   (local_own_l3 p0_k p0_count xs3  ))
def local_own_l4 (p0_k:Know) (p0_count:Int):List Frag→Option (Bool)
  | [] =>
  some (leI p0_k.star.x3 p0_count)
  | x4e::xs4 =>
  (br (ltI p0_count x4e.vec.x3)
   (some false)
   (local_own_l4 p0_k p0_count xs4  ))
def local_own_l5 (p0_k:Know) (p0_count:Int):List Frag→Option (Bool)
  | [] =>
  some (leI p0_k.star.x4 p0_count)
  | x5e::xs5 =>
  (br (ltI p0_count x5e.vec.x4)
   (some false)
   (local_own_l5 p0_k p0_count xs5  ))
def local_own_l6 (p0_k:Know) (p0_count:Int):List Frag→Option (Bool)
  | [] =>
  some (leI p0_k.star.x5 p0_count)
  | x6e::xs6 =>
  (br (ltI p0_count x6e.vec.x5)
   (some false)
   (local_own_l6 p0_k p0_count xs6  ))
def local_own_l7 (p0_k:Know) (p0_count:Int):List Frag→Option (Bool)
  | [] =>
  some (leI p0_k.star.x6 p0_count)
  | x7e::xs7 =>
  (br (ltI p0_count x7e.vec.x6)
   (some false)
   (local_own_l7 p0_k p0_count xs7  ))
def local_own_l8 (p0_k:Know) (p0_count:Int):List Frag→Option (Bool)
  | [] =>
  some (leI p0_k.star.x7 p0_count)
  | x8e::xs8 =>
  (br (ltI p0_count x8e.vec.x7)
   (some false)
   (local_own_l8 p0_k p0_count xs8  ))
def local_own_l9:Nat→Option (Bool)
 | 0=>none
 | fl9 + 1 =>
 none
def local_own_s (p0:State):Option (Bool) :=
 match p0 with
 | ⟨p0_r,p0_f,p0_store,p0_out,p0_k,p0_count,p0_clock,p0_epoch⟩ =>
  (br (eqI p0_r 1)
   (chk (smallL p0_k.l)
     ((local_own_l1 p0_k p0_count) p0_k.l ))
   (br (eqI p0_r 2)
    (chk (smallL p0_k.l)
      ((local_own_l2 p0_k p0_count) p0_k.l ))
    (br (eqI p0_r 3)
     (chk (smallL p0_k.l)
       ((local_own_l3 p0_k p0_count) p0_k.l ))
     (br (eqI p0_r 4)
      (chk (smallL p0_k.l)
        ((local_own_l4 p0_k p0_count) p0_k.l ))
      (br (eqI p0_r 5)
       (chk (smallL p0_k.l)
         ((local_own_l5 p0_k p0_count) p0_k.l ))
       (br (eqI p0_r 6)
        (chk (smallL p0_k.l)
          ((local_own_l6 p0_k p0_count) p0_k.l ))
        (br (eqI p0_r 7)
         (chk (smallL p0_k.l)
           ((local_own_l7 p0_k p0_count) p0_k.l ))
         (br (eqI p0_r 8)
          (chk (smallL p0_k.l)
            ((local_own_l8 p0_k p0_count) p0_k.l ))
          ((local_own_l9) fuelN )))))))))
def local_May_s (p0:State):Option (Bool) :=
 (br (ltI p0.r 1)
  (some false)
  (br (ltI 8 p0.r)
   (some false)
   (bnd (pred_May_s p0.f) fun y3 =>
    (br (!y3)
     (some false)
     (bnd (list_May_s p0.store) fun y6 =>
      (br (!y6)
       (some false)
       (bnd (list_May_s p0.out) fun y9 =>
        (br (!y9)
         (some false)
         (bnd (know_May_s p0.k) fun y12 =>
          (br (!y12)
           (some false)
           (bnd (local_within_s p0.count 1000) fun y15 =>
            (br (!y15)
             (some false)
             (bnd (local_within_s p0.clock 1000000) fun y18 =>
              (br (!y18)
               (some false)
               (bnd (local_within_s p0.epoch 1000000) fun y21 =>
                (br (!y21)
                 (some false)
                 (br (ltI 40 (wr .i64 ((p0.store.length:Int) + (p0.out.length:Int))))
                  (some false)
                  (bnd (list_Both_s p0.store p0.out) fun y25 =>
                   (br (!eqI (y25.length:Int) (wr .i64 ((p0.store.length:Int) + (p0.out.length:Int))))
                    (some false)
                    (bnd (local_holds_s p0 p0.store true) fun y28 =>
                     (br y28
                      (bnd (local_holds_s p0 p0.out false) fun y31 =>
                       (br y31
                        (bnd (local_own_s p0) fun y34 =>
                         some y34)
                        (some false)))
                      (some false))))))))))))))))))))))
def local_New_s (p0:Int) (p1:Pred):Option (State × Option Int) :=
 (br (ltI p0 1)
  (some ((State.mk 0 (Pred.mk 0 ⟨#[]⟩ 0 0 0 ([]:List Pred)) ([]:List Item) ([]:List Item) (Know.mk (V8.mk 0 0 0 0 0 0 0 0) ([]:List Frag)) 0 0 0),(some 1)))
  (br (ltI 8 p0)
   (some ((State.mk 0 (Pred.mk 0 ⟨#[]⟩ 0 0 0 ([]:List Pred)) ([]:List Item) ([]:List Item) (Know.mk (V8.mk 0 0 0 0 0 0 0 0) ([]:List Frag)) 0 0 0),(some 1)))
   (bnd (pred_May_s p1) fun y3 =>
    (br (!y3)
     (some ((State.mk 0 (Pred.mk 0 ⟨#[]⟩ 0 0 0 ([]:List Pred)) ([]:List Item) ([]:List Item) (Know.mk (V8.mk 0 0 0 0 0 0 0 0) ([]:List Frag)) 0 0 0),(some 1)))
     (bnd (fresh_Pred_s fuelR p1) fun y6 =>
      some ((State.mk p0 y6 ([]:List Item) ([]:List Item) (Know.mk (V8.mk 0 0 0 0 0 0 0 0) ([]:List Frag)) 0 0 0),none))))))
def local_stands_s (p0:State) (p1:ByteArray):Option (Item × Bool) :=
 (bnd (list_Get_s p0.store p1) fun y1 =>
  (br y1.2
   (some (y1.1,true))
   (bnd (list_Get_s p0.out p1) fun y4 =>
    some (y4.1,y4.2))))
def local_might_s (p0:Item):Option (Bool) :=
 (bnd (item_May_s (Item.mk p0.id 1 1 1 p0.kind p0.num p0.re p0.im p0.dead)) fun y1 =>
  some y1)
def local_version_s (p0:State) (p1:Item):Option (State × Option Int) :=
 (br (leI 1000 p0.count)
  (bnd (fresh_State_s p0) fun y2 =>
   some (y2,(some 5)))
  (br (leI 1000000 p0.clock)
   (bnd (fresh_State_s p0) fun y5 =>
    some (y5,(some 5)))
   (bnd (fresh_State_s p0) fun y7 =>
    (bnd (know_Own_s y7.k p1.id (Ver.mk y7.r (wr .i64 (y7.count + 1)))) fun y9 =>
     (bnd (list_Drop_s y7.store p1.id) fun y11 =>
      (bnd (list_Drop_s y7.out p1.id) fun y13 =>
       (bnd (eval_Has_s y7.f (Item.mk p1.id y7.r (wr .i64 (y7.count + 1)) (wr .i64 (y7.clock + 1)) p1.kind p1.num p1.re p1.im p1.dead)) fun y15 =>
        (br y15
         (bnd (list_Put_s y11 (Item.mk p1.id y7.r (wr .i64 (y7.count + 1)) (wr .i64 (y7.clock + 1)) p1.kind p1.num p1.re p1.im p1.dead)) fun y18 =>
          some ((State.mk y7.r y7.f y18 y13 y9 (wr .i64 (y7.count + 1)) (wr .i64 (y7.clock + 1)) y7.epoch),none))
         (bnd (list_Put_s y13 (Item.mk p1.id y7.r (wr .i64 (y7.count + 1)) (wr .i64 (y7.clock + 1)) p1.kind p1.num p1.re p1.im p1.dead)) fun y20 =>
          some ((State.mk y7.r y7.f y11 y20 y9 (wr .i64 (y7.count + 1)) (wr .i64 (y7.clock + 1)) y7.epoch),none))))))))))
def local_Create_j1 (p0:State) (p1:ByteArray) (p2:ByteArray) (p3:Int) (p4r:Nat) (p4i:Nat):Option (State × Option Int) :=
 (bndE (local_version_s p0 (Item.mk p1 0 0 0 p2 p3 p4r p4i false)) (fun y3 n5 =>
  some (y3,(some n5)))
   (fun y3 =>
  some (y3,none)))
def local_Create_s (p0:State) (p1:ByteArray) (p2:ByteArray) (p3:Int) (p4r:Nat) (p4i:Nat):Option (State × Option Int) :=
 (bnd (local_stands_s p0 p1) fun y1 =>
  (bnd (local_might_s (Item.mk p1 0 0 0 p2 p3 p4r p4i false)) fun y6 =>
   (br (!y6)
    (bnd (fresh_State_s p0) fun y9 =>
     some (y9,(some 1)))
    (br y1.2
     (br (!y1.1.dead)
      (bnd (fresh_State_s p0) fun y13 =>
       some (y13,(some 3)))
      (br (!y1.2)
       (br (leI 40 (wr .i64 ((p0.store.length:Int) + (p0.out.length:Int))))
        (bnd (fresh_State_s p0) fun y17 =>
         some (y17,(some 4)))
        (local_Create_j1 p0 p1 p2 p3 p4r p4i ))
       (local_Create_j1 p0 p1 p2 p3 p4r p4i )))
     (br (!y1.2)
      (br (leI 40 (wr .i64 ((p0.store.length:Int) + (p0.out.length:Int))))
       (bnd (fresh_State_s p0) fun y21 =>
        some (y21,(some 4)))
       (local_Create_j1 p0 p1 p2 p3 p4r p4i ))
      (local_Create_j1 p0 p1 p2 p3 p4r p4i ))))))
def local_Update_s (p0:State) (p1:ByteArray) (p2:ByteArray) (p3:Int) (p4r:Nat) (p4i:Nat):Option (State × Option Int) :=
 (bnd (local_might_s (Item.mk p1 0 0 0 p2 p3 p4r p4i false)) fun y1 =>
  (br (!y1)
   (bnd (fresh_State_s p0) fun y4 =>
    some (y4,(some 1)))
   (bnd (local_stands_s p0 p1) fun y6 =>
    (br (!y6.2)
     (bnd (fresh_State_s p0) fun y9 =>
      some (y9,(some 2)))
     (br y6.1.dead
      (bnd (fresh_State_s p0) fun y12 =>
       some (y12,(some 2)))
      (bndE (local_version_s p0 (Item.mk p1 0 0 0 p2 p3 p4r p4i false)) (fun y14 n16 =>
       some (y14,(some n16)))
        (fun y14 =>
       some (y14,none))))))))
def local_Delete_s (p0:State) (p1:ByteArray):Option (State × Option Int) :=
 (bnd (item_Name_s p1) fun y1 =>
  (br (!y1)
   (bnd (fresh_State_s p0) fun y4 =>
    some (y4,(some 1)))
   (bnd (local_stands_s p0 p1) fun y6 =>
    (br (!y6.2)
     (bnd (fresh_State_s p0) fun y9 =>
      some (y9,(some 2)))
     (br y6.1.dead
      (bnd (fresh_State_s p0) fun y12 =>
       some (y12,(some 2)))
      (bndE (local_version_s p0 (Item.mk y6.1.id y6.1.vr y6.1.vc y6.1.stamp y6.1.kind y6.1.num y6.1.re y6.1.im true)) (fun y14 n16 =>
       some (y14,(some n16)))
        (fun y14 =>
       some (y14,none))))))))
def local_Filter_l2 (p0:State) (p1:Pred) (y6:Pred):List Item→Know→(List Item)→(List Item)→Option (State × Option Int)
  | [],v20,v18,v19 =>
  some ((State.mk p0.r y6 v18 v19 v20 p0.count p0.clock (wr .i64 (p0.epoch + 1))),none)
  | x2e::xs2,v20,v18,v19 =>
  (bnd (know_With_s v20 x2e.id (Ver.mk x2e.vr x2e.vc)) fun y21 =>
   (bnd (eval_Has_s p1 x2e) fun y23 =>
    (br y23
     (chk (roomL v18.length 1)
      (local_Filter_l2 p0 p1 y6 xs2  y21 (v18++[x2e]) v19))
     (chk (roomL v19.length 1)
      (local_Filter_l2 p0 p1 y6 xs2  y21 v18 (v19++[x2e]))))))
def local_Filter_j1 (p0:State) (p1:Pred):Option (State × Option Int) :=
 (br (leI 1000000 p0.epoch)
  (bnd (fresh_State_s p0) fun y2 =>
   some (y2,(some 5)))
  (bnd (list_Both_s p0.store p0.out) fun y4 =>
   (bnd (fresh_Pred_s fuelR p1) fun y6 =>
    (chk (smallL y4)
      ((local_Filter_l2 p0 p1 y6) y4 (Know.mk (V8.mk 0 0 0 0 0 0 0 0) ([]:List Frag)) ([]:List Item) ([]:List Item))))))
def local_Filter_s (p0:State) (p1:Pred):Option (State × Option Int) :=
 (bnd (pred_May_s p1) fun y28 =>
  (br (!y28)
   (bnd (fresh_State_s p0) fun y31 =>
    some (y31,(some 1)))
   (br (eqI p0.f.op 1)
    (br (!eqI p1.op 1)
     (bnd (fresh_State_s p0) fun y35 =>
      some (y35,(some 1)))
     (local_Filter_j1 p0 p1 ))
    (local_Filter_j1 p0 p1 ))))
def local_Read_l1:List Item→(List Item)→Option ((List Item))
  | [],v2 =>
  some v2
  | x1e::xs1,v2 =>
  (br (!x1e.dead)
   (chk (roomL v2.length 1)
    (local_Read_l1 xs1  (v2++[x1e])))
   (local_Read_l1 xs1  v2))
def local_Read_s (p0:State):Option ((List Item)) :=
 (chk (smallL p0.store)
   ((local_Read_l1) p0.store ([]:List Item)))
variable {X:Task→Prop} (hX:Closed X) {Q:A→List Blk→Prop}
include hX
theorem local_within_c  {p0:Int} {p1:Int} {r:Bool} (h:local_within_s p0 p1=some r) (hQ:Q (.one (.p (.v (.bool r)))) []):X (.call 106 [iv p0,iv p1] [] Q):=by
  have K:=fun a (e:some a=some r)=>ret_some (f:=fun y=>.one (.p (.v (.bool y)))) (g:=fun y=>[]) e hQ
  unfold local_within_s at h
  refine call_intro hX Tryz.func106 rfl rfl ?_
  conv=>whnf
  repeat((first|refine dw ?_);conv=>whnf)
  revert h
  refine brk (fun c1 h=>?_) (fun c1 h=>?_)
  ·conv=>whnf
   repeat((first|refine dw ?_|refine bct c1 ?_);conv=>whnf)
   exact K _ h
  ·conv=>whnf
   repeat((first|refine dw ?_|refine bcf c1 ?_);conv=>whnf)
   exact K _ h
theorem local_holds_c  {p0:State} {p1:List Item} {p2:Bool} {r:Bool} (h:local_holds_s p0 p1 p2=some r) (hQ:Q (.one (.p (.v (.bool r)))) []):X (.call 107 [.agg (State.cs p0),.one (.p (.sl (p1.map Item.row))),.one (.p (.v (.bool p2)))] [] Q):=by
  have K:=fun a (e:some a=some r)=>ret_some (f:=fun y=>.one (.p (.v (.bool y)))) (g:=fun y=>[]) e hQ
  unfold local_holds_s at h
  refine call_intro hX Tryz.func107 rfl rfl ?_
  revert h
  refine chkk fun hs1 h=>?_
  conv=>whnf
  repeat((first|refine dw ?_|refine eqv_to (map_len _) ?_);conv=>whnf)
  refine loop_lisx0 (fun (v1:Int)=>pad [(2,.one (.p (.v (.bool p2)))),(0,.one (.ptr 0 0)),(5,.one (.p (.sl (p1.map Item.row)))),(0,iv (p1.length:Int)),(0,iv v1)] 27) (fun (v1:Int)=>[.box (State.cs p0)]) _ p1 (fun pre1 x1e xs1 v1  hl1 hi1 h ih1=>?_) (fun v1  hi1 h=>?_)  h
  ·rw [local_holds_l1] at h
   have am1:=at_mid hl1 hi1
   refine loop_intro hX ?_
   revert h
   refine bndk fun y2 e3 h=>?_
   conv=>whnf
   repeat((first|refine dw ?_|refine bct (lt_mid hl1 hi1) ?_|refine bct (at_in am1) ?_|refine bct (andt (at_in am1) rfl) ?_|refine row_in (at_row am1) ?_|refine bct (andt (at_in (at_nat am1)) rfl) ?_|refine row_in (at_row (at_nat am1)) ?_);conv=>whnf)
   refine eval_Has_c hX e3 ?_
   conv=>whnf
   repeat((first|refine dw ?_);conv=>whnf)
   revert h
   refine brk (fun c4 h=>?_) (fun c4 h=>?_)
   ·conv=>whnf
    repeat((first|refine dw ?_|refine bct c4 ?_);conv=>whnf)
    exact K _ h
   ·conv=>whnf
    repeat((first|refine dw ?_|refine bcf c4 ?_);conv=>whnf)
    revert h
    refine brk (fun c5 h=>?_) (fun c5 h=>?_)
    ·conv=>whnf
     repeat((first|refine dw ?_|refine bct c5 ?_);conv=>whnf)
     exact K _ h
    ·revert h
     refine bndk fun y6 e7 h=>?_
     conv=>whnf
     repeat((first|refine dw ?_|refine bcf c5 ?_);conv=>whnf)
     refine know_Has_c hX e7 ?_
     conv=>whnf
     repeat((first|refine dw ?_|refine bcf c5 ?_);conv=>whnf)
     revert h
     refine brk (fun c8 h=>?_) (fun c8 h=>?_)
     ·conv=>whnf
      repeat((first|refine dw ?_|refine bct c8 ?_);conv=>whnf)
      exact K _ h
     ·conv=>whnf
      repeat((first|refine dw ?_|refine bcf c8 ?_);conv=>whnf)
      exact ih1 _  (wrL hs1 hl1 hi1) h
  ·rw [local_holds_l1] at h
   refine loop_intro hX ?_
   conv=>whnf
   repeat((first|refine dw ?_|refine bcf (lt_end hi1) ?_);conv=>whnf)
   exact K _ h
theorem local_own_c  {p0:State} {r:Bool} (h:local_own_s p0=some r) (hQ:Q (.one (.p (.v (.bool r)))) []):X (.call 108 [.agg (State.cs p0)] [] Q):=by
  have K:=fun a (e:some a=some r)=>ret_some (f:=fun y=>.one (.p (.v (.bool y)))) (g:=fun y=>[]) e hQ
  obtain ⟨p0_r,p0_f,p0_store,p0_out,p0_k,p0_count,p0_clock,p0_epoch⟩:=p0
  unfold local_own_s at h
  dsimp only at h
  refine br_case h (fun c g=>?_) (fun c g=>?_)
  ·replace h:=g
   clear g
   obtain rfl:=eqI_t.1 c
   clear c
   refine call_intro hX Tryz.func108 rfl rfl ?_
   revert h
   refine chkk fun hs1 h=>?_
   conv=>whnf
   repeat((first|refine dw ?_|refine eqv_to (map_len _) ?_);conv=>whnf)
   refine loop_lisx0 (fun (v101:Int)=>pad [(1,.one (.ptr 0 0)),(1,iv 0),(7,.one (.p (.sl (p0_k.l.map Frag.row)))),(0,iv (p0_k.l.length:Int)),(0,iv v101)] 19) (fun (v101:Int)=>[.box [ic 1,ic p0_f.op,.p (.v (.string p0_f.text)),ic p0_f.n,.p (.v (.complex .f64 p0_f.re p0_f.im)),.p (.sl (Pred.rows p0_f.kids)),.p (.sl (p0_store.map Item.row)),.p (.sl (p0_out.map Item.row)),ic p0_k.star.x0,ic p0_k.star.x1,ic p0_k.star.x2,ic p0_k.star.x3,ic p0_k.star.x4,ic p0_k.star.x5,ic p0_k.star.x6,ic p0_k.star.x7,.p (.sl (p0_k.l.map Frag.row)),ic p0_count,ic p0_clock,ic p0_epoch]]) _ p0_k.l (fun pre1 x1e xs1 v101  hl1 hi1 h ih1=>?_) (fun v101  hi1 h=>?_)  h
   ·rw [local_own_l1] at h
    have am1:=at_mid hl1 hi1
    refine loop_intro hX ?_
    conv=>whnf
    repeat((first|refine dw ?_|refine bct (lt_mid hl1 hi1) ?_|refine bct (at_in am1) ?_|refine bct (andt (at_in am1) rfl) ?_|refine row_in (at_row am1) ?_|refine bct (andt (at_in (at_nat am1)) rfl) ?_|refine row_in (at_row (at_nat am1)) ?_);conv=>whnf)
    revert h
    refine brk (fun c102 h=>?_) (fun c102 h=>?_)
    ·conv=>whnf
     repeat((first|refine dw ?_|refine bct c102 ?_);conv=>whnf)
     exact K _ h
    ·conv=>whnf
     repeat((first|refine dw ?_|refine bcf c102 ?_);conv=>whnf)
     exact ih1 _  (wrL hs1 hl1 hi1) h
   ·rw [local_own_l1] at h
    refine loop_intro hX ?_
    conv=>whnf
    repeat((first|refine dw ?_|refine bcf (lt_end hi1) ?_);conv=>whnf)
    exact K _ h
  ·replace h:=g
   clear g c
   refine br_case h (fun c g=>?_) (fun c g=>?_)
   ·replace h:=g
    clear g
    obtain rfl:=eqI_t.1 c
    clear c
    refine call_intro hX Tryz.func108 rfl rfl ?_
    revert h
    refine chkk fun hs2 h=>?_
    conv=>whnf
    repeat((first|refine dw ?_|refine eqv_to (map_len _) ?_);conv=>whnf)
    refine loop_lisx0 (fun (v203:Int)=>pad [(1,.one (.ptr 0 0)),(1,iv 1),(7,.one (.p (.sl (p0_k.l.map Frag.row)))),(0,iv (p0_k.l.length:Int)),(0,iv v203)] 19) (fun (v203:Int)=>[.box [ic 2,ic p0_f.op,.p (.v (.string p0_f.text)),ic p0_f.n,.p (.v (.complex .f64 p0_f.re p0_f.im)),.p (.sl (Pred.rows p0_f.kids)),.p (.sl (p0_store.map Item.row)),.p (.sl (p0_out.map Item.row)),ic p0_k.star.x0,ic p0_k.star.x1,ic p0_k.star.x2,ic p0_k.star.x3,ic p0_k.star.x4,ic p0_k.star.x5,ic p0_k.star.x6,ic p0_k.star.x7,.p (.sl (p0_k.l.map Frag.row)),ic p0_count,ic p0_clock,ic p0_epoch]]) _ p0_k.l (fun pre2 x2e xs2 v203  hl2 hi2 h ih2=>?_) (fun v203  hi2 h=>?_)  h
    ·rw [local_own_l2] at h
     have am2:=at_mid hl2 hi2
     refine loop_intro hX ?_
     conv=>whnf
     repeat((first|refine dw ?_|refine bct (lt_mid hl2 hi2) ?_|refine bct (at_in am2) ?_|refine bct (andt (at_in am2) rfl) ?_|refine row_in (at_row am2) ?_|refine bct (andt (at_in (at_nat am2)) rfl) ?_|refine row_in (at_row (at_nat am2)) ?_);conv=>whnf)
     revert h
     refine brk (fun c204 h=>?_) (fun c204 h=>?_)
     ·conv=>whnf
      repeat((first|refine dw ?_|refine bct c204 ?_);conv=>whnf)
      exact K _ h
     ·conv=>whnf
      repeat((first|refine dw ?_|refine bcf c204 ?_);conv=>whnf)
      exact ih2 _  (wrL hs2 hl2 hi2) h
    ·rw [local_own_l2] at h
     refine loop_intro hX ?_
     conv=>whnf
     repeat((first|refine dw ?_|refine bcf (lt_end hi2) ?_);conv=>whnf)
     exact K _ h
   ·replace h:=g
    clear g c
    refine br_case h (fun c g=>?_) (fun c g=>?_)
    ·replace h:=g
     clear g
     obtain rfl:=eqI_t.1 c
     clear c
     refine call_intro hX Tryz.func108 rfl rfl ?_
     revert h
     refine chkk fun hs3 h=>?_
     conv=>whnf
     repeat((first|refine dw ?_|refine eqv_to (map_len _) ?_);conv=>whnf)
     refine loop_lisx0 (fun (v305:Int)=>pad [(1,.one (.ptr 0 0)),(1,iv 2),(7,.one (.p (.sl (p0_k.l.map Frag.row)))),(0,iv (p0_k.l.length:Int)),(0,iv v305)] 19) (fun (v305:Int)=>[.box [ic 3,ic p0_f.op,.p (.v (.string p0_f.text)),ic p0_f.n,.p (.v (.complex .f64 p0_f.re p0_f.im)),.p (.sl (Pred.rows p0_f.kids)),.p (.sl (p0_store.map Item.row)),.p (.sl (p0_out.map Item.row)),ic p0_k.star.x0,ic p0_k.star.x1,ic p0_k.star.x2,ic p0_k.star.x3,ic p0_k.star.x4,ic p0_k.star.x5,ic p0_k.star.x6,ic p0_k.star.x7,.p (.sl (p0_k.l.map Frag.row)),ic p0_count,ic p0_clock,ic p0_epoch]]) _ p0_k.l (fun pre3 x3e xs3 v305  hl3 hi3 h ih3=>?_) (fun v305  hi3 h=>?_)  h
     ·rw [local_own_l3] at h
      have am3:=at_mid hl3 hi3
      refine loop_intro hX ?_
      conv=>whnf
      repeat((first|refine dw ?_|refine bct (lt_mid hl3 hi3) ?_|refine bct (at_in am3) ?_|refine bct (andt (at_in am3) rfl) ?_|refine row_in (at_row am3) ?_|refine bct (andt (at_in (at_nat am3)) rfl) ?_|refine row_in (at_row (at_nat am3)) ?_);conv=>whnf)
      revert h
      refine brk (fun c306 h=>?_) (fun c306 h=>?_)
      ·conv=>whnf
       repeat((first|refine dw ?_|refine bct c306 ?_);conv=>whnf)
       exact K _ h
      ·conv=>whnf
       repeat((first|refine dw ?_|refine bcf c306 ?_);conv=>whnf)
       exact ih3 _  (wrL hs3 hl3 hi3) h
     ·rw [local_own_l3] at h
      refine loop_intro hX ?_
      conv=>whnf
      repeat((first|refine dw ?_|refine bcf (lt_end hi3) ?_);conv=>whnf)
      exact K _ h
    ·replace h:=g
     clear g c
     refine br_case h (fun c g=>?_) (fun c g=>?_)
     ·replace h:=g
      clear g
      obtain rfl:=eqI_t.1 c
      clear c
      refine call_intro hX Tryz.func108 rfl rfl ?_
      revert h
      refine chkk fun hs4 h=>?_
      conv=>whnf
      repeat((first|refine dw ?_|refine eqv_to (map_len _) ?_);conv=>whnf)
      refine loop_lisx0 (fun (v407:Int)=>pad [(1,.one (.ptr 0 0)),(1,iv 3),(7,.one (.p (.sl (p0_k.l.map Frag.row)))),(0,iv (p0_k.l.length:Int)),(0,iv v407)] 19) (fun (v407:Int)=>[.box [ic 4,ic p0_f.op,.p (.v (.string p0_f.text)),ic p0_f.n,.p (.v (.complex .f64 p0_f.re p0_f.im)),.p (.sl (Pred.rows p0_f.kids)),.p (.sl (p0_store.map Item.row)),.p (.sl (p0_out.map Item.row)),ic p0_k.star.x0,ic p0_k.star.x1,ic p0_k.star.x2,ic p0_k.star.x3,ic p0_k.star.x4,ic p0_k.star.x5,ic p0_k.star.x6,ic p0_k.star.x7,.p (.sl (p0_k.l.map Frag.row)),ic p0_count,ic p0_clock,ic p0_epoch]]) _ p0_k.l (fun pre4 x4e xs4 v407  hl4 hi4 h ih4=>?_) (fun v407  hi4 h=>?_)  h
      ·rw [local_own_l4] at h
       have am4:=at_mid hl4 hi4
       refine loop_intro hX ?_
       conv=>whnf
       repeat((first|refine dw ?_|refine bct (lt_mid hl4 hi4) ?_|refine bct (at_in am4) ?_|refine bct (andt (at_in am4) rfl) ?_|refine row_in (at_row am4) ?_|refine bct (andt (at_in (at_nat am4)) rfl) ?_|refine row_in (at_row (at_nat am4)) ?_);conv=>whnf)
       revert h
       refine brk (fun c408 h=>?_) (fun c408 h=>?_)
       ·conv=>whnf
        repeat((first|refine dw ?_|refine bct c408 ?_);conv=>whnf)
        exact K _ h
       ·conv=>whnf
        repeat((first|refine dw ?_|refine bcf c408 ?_);conv=>whnf)
        exact ih4 _  (wrL hs4 hl4 hi4) h
      ·rw [local_own_l4] at h
       refine loop_intro hX ?_
       conv=>whnf
       repeat((first|refine dw ?_|refine bcf (lt_end hi4) ?_);conv=>whnf)
       exact K _ h
     ·replace h:=g
      clear g c
      refine br_case h (fun c g=>?_) (fun c g=>?_)
      ·replace h:=g
       clear g
       obtain rfl:=eqI_t.1 c
       clear c
       refine call_intro hX Tryz.func108 rfl rfl ?_
       revert h
       refine chkk fun hs5 h=>?_
       conv=>whnf
       repeat((first|refine dw ?_|refine eqv_to (map_len _) ?_);conv=>whnf)
       refine loop_lisx0 (fun (v509:Int)=>pad [(1,.one (.ptr 0 0)),(1,iv 4),(7,.one (.p (.sl (p0_k.l.map Frag.row)))),(0,iv (p0_k.l.length:Int)),(0,iv v509)] 19) (fun (v509:Int)=>[.box [ic 5,ic p0_f.op,.p (.v (.string p0_f.text)),ic p0_f.n,.p (.v (.complex .f64 p0_f.re p0_f.im)),.p (.sl (Pred.rows p0_f.kids)),.p (.sl (p0_store.map Item.row)),.p (.sl (p0_out.map Item.row)),ic p0_k.star.x0,ic p0_k.star.x1,ic p0_k.star.x2,ic p0_k.star.x3,ic p0_k.star.x4,ic p0_k.star.x5,ic p0_k.star.x6,ic p0_k.star.x7,.p (.sl (p0_k.l.map Frag.row)),ic p0_count,ic p0_clock,ic p0_epoch]]) _ p0_k.l (fun pre5 x5e xs5 v509  hl5 hi5 h ih5=>?_) (fun v509  hi5 h=>?_)  h
       ·rw [local_own_l5] at h
        have am5:=at_mid hl5 hi5
        refine loop_intro hX ?_
        conv=>whnf
        repeat((first|refine dw ?_|refine bct (lt_mid hl5 hi5) ?_|refine bct (at_in am5) ?_|refine bct (andt (at_in am5) rfl) ?_|refine row_in (at_row am5) ?_|refine bct (andt (at_in (at_nat am5)) rfl) ?_|refine row_in (at_row (at_nat am5)) ?_);conv=>whnf)
        revert h
        refine brk (fun c510 h=>?_) (fun c510 h=>?_)
        ·conv=>whnf
         repeat((first|refine dw ?_|refine bct c510 ?_);conv=>whnf)
         exact K _ h
        ·conv=>whnf
         repeat((first|refine dw ?_|refine bcf c510 ?_);conv=>whnf)
         exact ih5 _  (wrL hs5 hl5 hi5) h
       ·rw [local_own_l5] at h
        refine loop_intro hX ?_
        conv=>whnf
        repeat((first|refine dw ?_|refine bcf (lt_end hi5) ?_);conv=>whnf)
        exact K _ h
      ·replace h:=g
       clear g c
       refine br_case h (fun c g=>?_) (fun c g=>?_)
       ·replace h:=g
        clear g
        obtain rfl:=eqI_t.1 c
        clear c
        refine call_intro hX Tryz.func108 rfl rfl ?_
        revert h
        refine chkk fun hs6 h=>?_
        conv=>whnf
        repeat((first|refine dw ?_|refine eqv_to (map_len _) ?_);conv=>whnf)
        refine loop_lisx0 (fun (v611:Int)=>pad [(1,.one (.ptr 0 0)),(1,iv 5),(7,.one (.p (.sl (p0_k.l.map Frag.row)))),(0,iv (p0_k.l.length:Int)),(0,iv v611)] 19) (fun (v611:Int)=>[.box [ic 6,ic p0_f.op,.p (.v (.string p0_f.text)),ic p0_f.n,.p (.v (.complex .f64 p0_f.re p0_f.im)),.p (.sl (Pred.rows p0_f.kids)),.p (.sl (p0_store.map Item.row)),.p (.sl (p0_out.map Item.row)),ic p0_k.star.x0,ic p0_k.star.x1,ic p0_k.star.x2,ic p0_k.star.x3,ic p0_k.star.x4,ic p0_k.star.x5,ic p0_k.star.x6,ic p0_k.star.x7,.p (.sl (p0_k.l.map Frag.row)),ic p0_count,ic p0_clock,ic p0_epoch]]) _ p0_k.l (fun pre6 x6e xs6 v611  hl6 hi6 h ih6=>?_) (fun v611  hi6 h=>?_)  h
        ·rw [local_own_l6] at h
         have am6:=at_mid hl6 hi6
         refine loop_intro hX ?_
         conv=>whnf
         repeat((first|refine dw ?_|refine bct (lt_mid hl6 hi6) ?_|refine bct (at_in am6) ?_|refine bct (andt (at_in am6) rfl) ?_|refine row_in (at_row am6) ?_|refine bct (andt (at_in (at_nat am6)) rfl) ?_|refine row_in (at_row (at_nat am6)) ?_);conv=>whnf)
         revert h
         refine brk (fun c612 h=>?_) (fun c612 h=>?_)
         ·conv=>whnf
          repeat((first|refine dw ?_|refine bct c612 ?_);conv=>whnf)
          exact K _ h
         ·conv=>whnf
          repeat((first|refine dw ?_|refine bcf c612 ?_);conv=>whnf)
          exact ih6 _  (wrL hs6 hl6 hi6) h
        ·rw [local_own_l6] at h
         refine loop_intro hX ?_
         conv=>whnf
         repeat((first|refine dw ?_|refine bcf (lt_end hi6) ?_);conv=>whnf)
         exact K _ h
       ·replace h:=g
        clear g c
        refine br_case h (fun c g=>?_) (fun c g=>?_)
        ·replace h:=g
         clear g
         obtain rfl:=eqI_t.1 c
         clear c
         refine call_intro hX Tryz.func108 rfl rfl ?_
         revert h
         refine chkk fun hs7 h=>?_
         conv=>whnf
         repeat((first|refine dw ?_|refine eqv_to (map_len _) ?_);conv=>whnf)
         refine loop_lisx0 (fun (v713:Int)=>pad [(1,.one (.ptr 0 0)),(1,iv 6),(7,.one (.p (.sl (p0_k.l.map Frag.row)))),(0,iv (p0_k.l.length:Int)),(0,iv v713)] 19) (fun (v713:Int)=>[.box [ic 7,ic p0_f.op,.p (.v (.string p0_f.text)),ic p0_f.n,.p (.v (.complex .f64 p0_f.re p0_f.im)),.p (.sl (Pred.rows p0_f.kids)),.p (.sl (p0_store.map Item.row)),.p (.sl (p0_out.map Item.row)),ic p0_k.star.x0,ic p0_k.star.x1,ic p0_k.star.x2,ic p0_k.star.x3,ic p0_k.star.x4,ic p0_k.star.x5,ic p0_k.star.x6,ic p0_k.star.x7,.p (.sl (p0_k.l.map Frag.row)),ic p0_count,ic p0_clock,ic p0_epoch]]) _ p0_k.l (fun pre7 x7e xs7 v713  hl7 hi7 h ih7=>?_) (fun v713  hi7 h=>?_)  h
         ·rw [local_own_l7] at h
          have am7:=at_mid hl7 hi7
          refine loop_intro hX ?_
          conv=>whnf
          repeat((first|refine dw ?_|refine bct (lt_mid hl7 hi7) ?_|refine bct (at_in am7) ?_|refine bct (andt (at_in am7) rfl) ?_|refine row_in (at_row am7) ?_|refine bct (andt (at_in (at_nat am7)) rfl) ?_|refine row_in (at_row (at_nat am7)) ?_);conv=>whnf)
          revert h
          refine brk (fun c714 h=>?_) (fun c714 h=>?_)
          ·conv=>whnf
           repeat((first|refine dw ?_|refine bct c714 ?_);conv=>whnf)
           exact K _ h
          ·conv=>whnf
           repeat((first|refine dw ?_|refine bcf c714 ?_);conv=>whnf)
           exact ih7 _  (wrL hs7 hl7 hi7) h
         ·rw [local_own_l7] at h
          refine loop_intro hX ?_
          conv=>whnf
          repeat((first|refine dw ?_|refine bcf (lt_end hi7) ?_);conv=>whnf)
          exact K _ h
        ·replace h:=g
         clear g c
         refine br_case h (fun c g=>?_) (fun c g=>?_)
         ·replace h:=g
          clear g
          obtain rfl:=eqI_t.1 c
          clear c
          refine call_intro hX Tryz.func108 rfl rfl ?_
          revert h
          refine chkk fun hs8 h=>?_
          conv=>whnf
          repeat((first|refine dw ?_|refine eqv_to (map_len _) ?_);conv=>whnf)
          refine loop_lisx0 (fun (v815:Int)=>pad [(1,.one (.ptr 0 0)),(1,iv 7),(7,.one (.p (.sl (p0_k.l.map Frag.row)))),(0,iv (p0_k.l.length:Int)),(0,iv v815)] 19) (fun (v815:Int)=>[.box [ic 8,ic p0_f.op,.p (.v (.string p0_f.text)),ic p0_f.n,.p (.v (.complex .f64 p0_f.re p0_f.im)),.p (.sl (Pred.rows p0_f.kids)),.p (.sl (p0_store.map Item.row)),.p (.sl (p0_out.map Item.row)),ic p0_k.star.x0,ic p0_k.star.x1,ic p0_k.star.x2,ic p0_k.star.x3,ic p0_k.star.x4,ic p0_k.star.x5,ic p0_k.star.x6,ic p0_k.star.x7,.p (.sl (p0_k.l.map Frag.row)),ic p0_count,ic p0_clock,ic p0_epoch]]) _ p0_k.l (fun pre8 x8e xs8 v815  hl8 hi8 h ih8=>?_) (fun v815  hi8 h=>?_)  h
          ·rw [local_own_l8] at h
           have am8:=at_mid hl8 hi8
           refine loop_intro hX ?_
           conv=>whnf
           repeat((first|refine dw ?_|refine bct (lt_mid hl8 hi8) ?_|refine bct (at_in am8) ?_|refine bct (andt (at_in am8) rfl) ?_|refine row_in (at_row am8) ?_|refine bct (andt (at_in (at_nat am8)) rfl) ?_|refine row_in (at_row (at_nat am8)) ?_);conv=>whnf)
           revert h
           refine brk (fun c816 h=>?_) (fun c816 h=>?_)
           ·conv=>whnf
            repeat((first|refine dw ?_|refine bct c816 ?_);conv=>whnf)
            exact K _ h
           ·conv=>whnf
            repeat((first|refine dw ?_|refine bcf c816 ?_);conv=>whnf)
            exact ih8 _  (wrL hs8 hl8 hi8) h
          ·rw [local_own_l8] at h
           refine loop_intro hX ?_
           conv=>whnf
           repeat((first|refine dw ?_|refine bcf (lt_end hi8) ?_);conv=>whnf)
           exact K _ h
         ·replace h:=g
          clear g c
          refine call_intro hX Tryz.func108 rfl rfl ?_
          conv=>whnf
          repeat((first|refine dw ?_|refine eqv_to (map_len _) ?_);conv=>whnf)
          refine loop_fuel0 (pad [(1,.one (.ptr 0 0)),(1,iv (wr .i64 (p0_r - 1))),(7,.one (.p (.sl (p0_k.l.map Frag.row)))),(0,iv (p0_k.l.length:Int)),(0,iv 0)] 19) [.box [ic p0_r,ic p0_f.op,.p (.v (.string p0_f.text)),ic p0_f.n,.p (.v (.complex .f64 p0_f.re p0_f.im)),.p (.sl (Pred.rows p0_f.kids)),.p (.sl (p0_store.map Item.row)),.p (.sl (p0_out.map Item.row)),ic p0_k.star.x0,ic p0_k.star.x1,ic p0_k.star.x2,ic p0_k.star.x3,ic p0_k.star.x4,ic p0_k.star.x5,ic p0_k.star.x6,ic p0_k.star.x7,.p (.sl (p0_k.l.map Frag.row)),ic p0_count,ic p0_clock,ic p0_epoch]] _ (fun _ h=>?_) (fun fl9  h ih9=>?_) fuelN  h
          ·rw [local_own_l9] at h
           cases h
          ·rw [local_own_l9] at h
           refine loop_intro hX ?_
           exact no_some h
theorem local_May_c  {p0:State} {r:Bool} (h:local_May_s p0=some r) (hQ:Q (.one (.p (.v (.bool r)))) []):X (.call 39 [.agg (State.cs p0)] [] Q):=by
  have K:=fun a (e:some a=some r)=>ret_some (f:=fun y=>.one (.p (.v (.bool y)))) (g:=fun y=>[]) e hQ
  unfold local_May_s at h
  refine call_intro hX Tryz.func39 rfl rfl ?_
  conv=>whnf
  repeat((first|refine dw ?_);conv=>whnf)
  revert h
  refine brk (fun c1 h=>?_) (fun c1 h=>?_)
  ·conv=>whnf
   repeat((first|refine dw ?_|refine bct c1 ?_);conv=>whnf)
   exact K _ h
  ·conv=>whnf
   repeat((first|refine dw ?_|refine bcf c1 ?_);conv=>whnf)
   revert h
   refine brk (fun c2 h=>?_) (fun c2 h=>?_)
   ·conv=>whnf
    repeat((first|refine dw ?_|refine bct c2 ?_);conv=>whnf)
    exact K _ h
   ·revert h
    refine bndk fun y3 e4 h=>?_
    conv=>whnf
    repeat((first|refine dw ?_|refine bcf c2 ?_);conv=>whnf)
    refine pred_May_c hX e4 ?_
    conv=>whnf
    repeat((first|refine dw ?_|refine bcf c2 ?_);conv=>whnf)
    revert h
    refine brk (fun c5 h=>?_) (fun c5 h=>?_)
    ·conv=>whnf
     repeat((first|refine dw ?_|refine bct c5 ?_);conv=>whnf)
     exact K _ h
    ·revert h
     refine bndk fun y6 e7 h=>?_
     conv=>whnf
     repeat((first|refine dw ?_|refine bcf c5 ?_);conv=>whnf)
     refine list_May_c hX e7 ?_
     conv=>whnf
     repeat((first|refine dw ?_|refine bcf c5 ?_);conv=>whnf)
     revert h
     refine brk (fun c8 h=>?_) (fun c8 h=>?_)
     ·conv=>whnf
      repeat((first|refine dw ?_|refine bct c8 ?_);conv=>whnf)
      exact K _ h
     ·revert h
      refine bndk fun y9 e10 h=>?_
      conv=>whnf
      repeat((first|refine dw ?_|refine bcf c8 ?_);conv=>whnf)
      refine list_May_c hX e10 ?_
      conv=>whnf
      repeat((first|refine dw ?_|refine bcf c8 ?_);conv=>whnf)
      revert h
      refine brk (fun c11 h=>?_) (fun c11 h=>?_)
      ·conv=>whnf
       repeat((first|refine dw ?_|refine bct c11 ?_);conv=>whnf)
       exact K _ h
      ·revert h
       refine bndk fun y12 e13 h=>?_
       conv=>whnf
       repeat((first|refine dw ?_|refine bcf c11 ?_);conv=>whnf)
       refine know_May_c hX e13 ?_
       conv=>whnf
       repeat((first|refine dw ?_|refine bcf c11 ?_);conv=>whnf)
       revert h
       refine brk (fun c14 h=>?_) (fun c14 h=>?_)
       ·conv=>whnf
        repeat((first|refine dw ?_|refine bct c14 ?_);conv=>whnf)
        exact K _ h
       ·revert h
        refine bndk fun y15 e16 h=>?_
        conv=>whnf
        repeat((first|refine dw ?_|refine bcf c14 ?_);conv=>whnf)
        refine local_within_c hX e16 ?_
        conv=>whnf
        repeat((first|refine dw ?_);conv=>whnf)
        revert h
        refine brk (fun c17 h=>?_) (fun c17 h=>?_)
        ·conv=>whnf
         repeat((first|refine dw ?_|refine bct c17 ?_);conv=>whnf)
         exact K _ h
        ·revert h
         refine bndk fun y18 e19 h=>?_
         conv=>whnf
         repeat((first|refine dw ?_|refine bcf c17 ?_);conv=>whnf)
         refine local_within_c hX e19 ?_
         conv=>whnf
         repeat((first|refine dw ?_|refine bcf c17 ?_);conv=>whnf)
         revert h
         refine brk (fun c20 h=>?_) (fun c20 h=>?_)
         ·conv=>whnf
          repeat((first|refine dw ?_|refine bct c20 ?_);conv=>whnf)
          exact K _ h
         ·revert h
          refine bndk fun y21 e22 h=>?_
          conv=>whnf
          repeat((first|refine dw ?_|refine bcf c20 ?_);conv=>whnf)
          refine local_within_c hX e22 ?_
          conv=>whnf
          repeat((first|refine dw ?_|refine bcf c20 ?_);conv=>whnf)
          revert h
          refine brk (fun c23 h=>?_) (fun c23 h=>?_)
          ·conv=>whnf
           repeat((first|refine dw ?_|refine bct c23 ?_);conv=>whnf)
           exact K _ h
          ·conv=>whnf
           repeat((first|refine dw ?_|refine bcf c23 ?_|refine eqv_to (map_len _) ?_);conv=>whnf)
           revert h
           refine brk (fun c24 h=>?_) (fun c24 h=>?_)
           ·conv=>whnf
            repeat((first|refine dw ?_|refine bct c24 ?_);conv=>whnf)
            exact K _ h
           ·revert h
            refine bndk fun y25 e26 h=>?_
            conv=>whnf
            repeat((first|refine dw ?_|refine bcf c24 ?_);conv=>whnf)
            refine list_Both_c hX e26 ?_
            conv=>whnf
            repeat((first|refine dw ?_|refine bcf c24 ?_|refine eqv_to (map_len _) ?_);conv=>whnf)
            revert h
            refine brk (fun c27 h=>?_) (fun c27 h=>?_)
            ·conv=>whnf
             repeat((first|refine dw ?_|refine bct c27 ?_);conv=>whnf)
             exact K _ h
            ·revert h
             refine bndk fun y28 e29 h=>?_
             conv=>whnf
             repeat((first|refine dw ?_|refine bcf c27 ?_);conv=>whnf)
             refine local_holds_c hX e29 ?_
             conv=>whnf
             repeat((first|refine dw ?_);conv=>whnf)
             revert h
             refine brk (fun c30 h=>?_) (fun c30 h=>?_)
             ·revert h
              refine bndk fun y31 e32 h=>?_
              conv=>whnf
              repeat((first|refine dw ?_|refine bct c30 ?_);conv=>whnf)
              refine local_holds_c hX e32 ?_
              conv=>whnf
              repeat((first|refine dw ?_|refine bct c30 ?_);conv=>whnf)
              revert h
              refine brk (fun c33 h=>?_) (fun c33 h=>?_)
              ·revert h
               refine bndk fun y34 e35 h=>?_
               conv=>whnf
               repeat((first|refine dw ?_|refine bct c33 ?_);conv=>whnf)
               refine local_own_c hX e35 ?_
               conv=>whnf
               repeat((first|refine dw ?_|refine bct c33 ?_);conv=>whnf)
               exact K _ h
              ·conv=>whnf
               repeat((first|refine dw ?_|refine bcf c33 ?_);conv=>whnf)
               exact K _ h
             ·conv=>whnf
              repeat((first|refine dw ?_|refine bcf c30 ?_);conv=>whnf)
              exact K _ h
theorem local_New_c  {p0:Int} {p1:Pred} {r:State × Option Int} (h:local_New_s p0 p1=some r) (hQ:Q (.tup [.agg (State.cs r.1),errA 159 r.2]) []):X (.call 45 [iv p0,.agg (Pred.cs p1)] [] Q):=by
  have K:=fun a (e:some a=some r)=>ret_some (f:=fun y=>.tup [.agg (State.cs y.1),errA 159 y.2]) (g:=fun y=>[]) e hQ
  unfold local_New_s at h
  refine call_nz hX ?_
  conv=>whnf
  refine call_intro hX Tryz.func45 rfl rfl ?_
  conv=>whnf
  repeat((first|refine dw ?_);conv=>whnf)
  revert h
  refine brk (fun c1 h=>?_) (fun c1 h=>?_)
  ·conv=>whnf
   repeat((first|refine dw ?_|refine bct c1 ?_);conv=>whnf)
   exact K _ h
  ·conv=>whnf
   repeat((first|refine dw ?_|refine bcf c1 ?_);conv=>whnf)
   revert h
   refine brk (fun c2 h=>?_) (fun c2 h=>?_)
   ·conv=>whnf
    repeat((first|refine dw ?_|refine bct c2 ?_);conv=>whnf)
    exact K _ h
   ·revert h
    refine bndk fun y3 e4 h=>?_
    conv=>whnf
    repeat((first|refine dw ?_|refine bcf c2 ?_);conv=>whnf)
    refine pred_May_c hX e4 ?_
    conv=>whnf
    repeat((first|refine dw ?_|refine bcf c2 ?_);conv=>whnf)
    revert h
    refine brk (fun c5 h=>?_) (fun c5 h=>?_)
    ·conv=>whnf
     repeat((first|refine dw ?_|refine bct c5 ?_);conv=>whnf)
     exact K _ h
    ·revert h
     refine bndk fun y6 e7 h=>?_
     conv=>whnf
     repeat((first|refine dw ?_|refine bcf c5 ?_);conv=>whnf)
     refine fresh_Pred_c hX fuelR e7 ?_
     conv=>whnf
     repeat((first|refine dw ?_);conv=>whnf)
     exact K _ h
theorem local_stands_c  {p0:State} {p1:ByteArray} {r:Item × Bool} (h:local_stands_s p0 p1=some r) (hQ:Q (.tup [.agg (Item.cs r.1),.one (.p (.v (.bool r.2)))]) []):X (.call 177 [.agg (State.cs p0),.one (.p (.v (.string p1)))] [] Q):=by
  have K:=fun a (e:some a=some r)=>ret_some (f:=fun y=>.tup [.agg (Item.cs y.1),.one (.p (.v (.bool y.2)))]) (g:=fun y=>[]) e hQ
  unfold local_stands_s at h
  refine call_intro hX Tryz.func177 rfl rfl ?_
  revert h
  refine bndk fun y1 e2 h=>?_
  conv=>whnf
  repeat((first|refine dw ?_);conv=>whnf)
  refine list_Get_c hX e2 ?_
  conv=>whnf
  repeat((first|refine dw ?_);conv=>whnf)
  revert h
  refine brk (fun c3 h=>?_) (fun c3 h=>?_)
  ·conv=>whnf
   repeat((first|refine dw ?_|refine bct c3 ?_);conv=>whnf)
   exact K _ h
  ·revert h
   refine bndk fun y4 e5 h=>?_
   conv=>whnf
   repeat((first|refine dw ?_|refine bcf c3 ?_);conv=>whnf)
   refine list_Get_c hX e5 ?_
   conv=>whnf
   repeat((first|refine dw ?_);conv=>whnf)
   exact K _ h
theorem local_might_c  {p0:Item} {r:Bool} (h:local_might_s p0=some r) (hQ:Q (.one (.p (.v (.bool r)))) []):X (.call 178 [.agg (Item.cs p0)] [] Q):=by
 unfold local_might_s at h
 refine call_intro hX Tryz.func178 rfl rfl ?_
 revert h
 refine bndk fun y1 e2 h=>?_
 conv=>whnf
 repeat((first|refine dw ?_);conv=>whnf)
 refine item_May_c hX e2 ?_
 conv=>whnf
 repeat((first|refine dw ?_);conv=>whnf)
 exact ret_some (f:=fun y=>.one (.p (.v (.bool y)))) (g:=fun y=>[]) h hQ
theorem local_version_c  {p0:State} {p1:Item} {r:State × Option Int} (h:local_version_s p0 p1=some r) (hQ:Q (.tup [.agg (State.cs r.1),errA 159 r.2]) []):X (.call 179 [.agg (State.cs p0),.agg (Item.cs p1)] [] Q):=by
  have K:=fun a (e:some a=some r)=>ret_some (f:=fun y=>.tup [.agg (State.cs y.1),errA 159 y.2]) (g:=fun y=>[]) e hQ
  unfold local_version_s at h
  refine call_nz hX ?_
  conv=>whnf
  refine call_intro hX Tryz.func179 rfl rfl ?_
  conv=>whnf
  repeat((first|refine dw ?_);conv=>whnf)
  revert h
  refine brk (fun c1 h=>?_) (fun c1 h=>?_)
  ·revert h
   refine bndk fun y2 e3 h=>?_
   conv=>whnf
   repeat((first|refine dw ?_|refine bct c1 ?_);conv=>whnf)
   refine fresh_State_c hX e3 ?_
   conv=>whnf
   repeat((first|refine dw ?_);conv=>whnf)
   exact K _ h
  ·conv=>whnf
   repeat((first|refine dw ?_|refine bcf c1 ?_);conv=>whnf)
   revert h
   refine brk (fun c4 h=>?_) (fun c4 h=>?_)
   ·revert h
    refine bndk fun y5 e6 h=>?_
    conv=>whnf
    repeat((first|refine dw ?_|refine bct c4 ?_);conv=>whnf)
    refine fresh_State_c hX e6 ?_
    conv=>whnf
    repeat((first|refine dw ?_);conv=>whnf)
    exact K _ h
   ·revert h
    refine bndk fun y7 e8 h=>?_
    conv=>whnf
    repeat((first|refine dw ?_|refine bcf c4 ?_);conv=>whnf)
    refine fresh_State_c hX e8 ?_
    revert h
    refine bndk fun y9 e10 h=>?_
    conv=>whnf
    repeat((first|refine dw ?_);conv=>whnf)
    refine know_Own_c hX e10 ?_
    revert h
    refine bndk fun y11 e12 h=>?_
    conv=>whnf
    repeat((first|refine dw ?_);conv=>whnf)
    refine list_Drop_c hX e12 ?_
    revert h
    refine bndk fun y13 e14 h=>?_
    conv=>whnf
    repeat((first|refine dw ?_);conv=>whnf)
    refine list_Drop_c hX e14 ?_
    revert h
    refine bndk fun y15 e16 h=>?_
    conv=>whnf
    repeat((first|refine dw ?_);conv=>whnf)
    refine eval_Has_c hX e16 ?_
    conv=>whnf
    repeat((first|refine dw ?_);conv=>whnf)
    revert h
    refine brk (fun c17 h=>?_) (fun c17 h=>?_)
    ·revert h
     refine bndk fun y18 e19 h=>?_
     conv=>whnf
     repeat((first|refine dw ?_|refine bct c17 ?_);conv=>whnf)
     refine list_Put_c hX e19 ?_
     conv=>whnf
     repeat((first|refine dw ?_);conv=>whnf)
     exact K _ h
    ·revert h
     refine bndk fun y20 e21 h=>?_
     conv=>whnf
     repeat((first|refine dw ?_|refine bcf c17 ?_);conv=>whnf)
     refine list_Put_c hX e21 ?_
     conv=>whnf
     repeat((first|refine dw ?_);conv=>whnf)
     exact K _ h
theorem local_Create_c  {p0:State} {p1:ByteArray} {p2:ByteArray} {p3:Int} {p4r:Nat} {p4i:Nat} {r:State × Option Int} (h:local_Create_s p0 p1 p2 p3 p4r p4i=some r) (hQ:Q (.tup [.agg (State.cs r.1),errA 159 r.2]) []):X (.call 114 [.agg (State.cs p0),.one (.p (.v (.string p1))),.one (.p (.v (.string p2))),iv p3,.one (.p (.v (.complex .f64 p4r p4i)))] [] Q):=by
  have K:=fun a (e:some a=some r)=>ret_some (f:=fun y=>.tup [.agg (State.cs y.1),errA 159 y.2]) (g:=fun y=>[]) e hQ
  unfold local_Create_s at h
  refine call_nz hX ?_
  conv=>whnf
  refine call_intro hX Tryz.func114 rfl rfl ?_
  replace h:=bnd_some h
  obtain ⟨y1,e2,h⟩:=h
  conv=>whnf
  repeat((first|refine dw ?_);conv=>whnf)
  refine local_stands_c hX e2 ?_
  apply join0 (X:=X) (r:=r) (pad [(5,.one (.ptr 0 0)),(4,.one (.ptr 1 0)),(1,.one (.ptr 6 0))] 51) ([.box (State.cs p0),.box [ic 0,ic 0,.p (.v (.string ⟨#[]⟩)),ic 0,.p (.v (.complex .f64 0 0)),.own 2,.own 3,.own 4,ic 0,ic 0,ic 0,ic 0,ic 0,ic 0,ic 0,ic 0,.own 5,ic 0,ic 0,ic 0],.rows 0 [],.rows 0 [],.rows 0 [],.rows 0 [],.box [.p (.v (.string p1)),ic 0,ic 0,ic 0,.p (.v (.string p2)),ic p3,.p (.v (.complex .f64 p4r p4i)),.p (.v (.bool false))]])
  ·intro tl1
   replace h:=bnd_some h
   obtain ⟨y6,e7,h⟩:=h
   conv=>whnf
   repeat((first|refine dw ?_);conv=>whnf)
   refine local_might_c hX e7 ?_
   conv=>whnf
   repeat((first|refine dw ?_);conv=>whnf)
   refine br_some h (fun c8 g=>?_) (fun c8 g=>?_)
   ·replace h:=g
    clear g
    replace h:=bnd_some h
    obtain ⟨y9,e10,h⟩:=h
    conv=>whnf
    repeat((first|refine dw ?_|refine bct c8 ?_);conv=>whnf)
    refine fresh_State_c hX e10 ?_
    conv=>whnf
    repeat((first|refine dw ?_);conv=>whnf)
    exact K _ h
   ·replace h:=g
    clear g
    conv=>whnf
    repeat((first|refine dw ?_|refine bcf c8 ?_);conv=>whnf)
    refine br_some h (fun c11 g=>?_) (fun c11 g=>?_)
    ·replace h:=g
     clear g
     conv=>whnf
     repeat((first|refine dw ?_|refine bct c11 ?_);conv=>whnf)
     refine br_some h (fun c12 g=>?_) (fun c12 g=>?_)
     ·replace h:=g
      clear g
      replace h:=bnd_some h
      obtain ⟨y13,e14,h⟩:=h
      conv=>whnf
      repeat((first|refine dw ?_|refine bct c12 ?_);conv=>whnf)
      refine fresh_State_c hX e14 ?_
      conv=>whnf
      repeat((first|refine dw ?_);conv=>whnf)
      exact K _ h
     ·replace h:=g
      clear g
      conv=>whnf
      repeat((first|refine dw ?_|refine bcf c12 ?_);conv=>whnf)
      refine br_some h (fun c15 g=>?_) (fun c15 g=>?_)
      ·replace h:=g
       clear g
       conv=>whnf
       repeat((first|refine dw ?_|refine bct c15 ?_|refine eqv_to (map_len _) ?_);conv=>whnf)
       refine br_some h (fun c16 g=>?_) (fun c16 g=>?_)
       ·replace h:=g
        clear g
        replace h:=bnd_some h
        obtain ⟨y17,e18,h⟩:=h
        conv=>whnf
        repeat((first|refine dw ?_|refine bct c16 ?_);conv=>whnf)
        refine fresh_State_c hX e18 ?_
        conv=>whnf
        repeat((first|refine dw ?_);conv=>whnf)
        exact K _ h
       ·replace h:=g
        clear g
        conv=>whnf
        repeat((first|refine dw ?_|refine bcf c16 ?_);conv=>whnf)
        exact tl1.h  h
      ·replace h:=g
       clear g
       conv=>whnf
       repeat((first|refine dw ?_|refine bcf c15 ?_);conv=>whnf)
       exact tl1.h  h
    ·replace h:=g
     clear g
     conv=>whnf
     repeat((first|refine dw ?_|refine bcf c11 ?_);conv=>whnf)
     refine br_some h (fun c19 g=>?_) (fun c19 g=>?_)
     ·replace h:=g
      clear g
      conv=>whnf
      repeat((first|refine dw ?_|refine bct c19 ?_|refine eqv_to (map_len _) ?_);conv=>whnf)
      refine br_some h (fun c20 g=>?_) (fun c20 g=>?_)
      ·replace h:=g
       clear g
       replace h:=bnd_some h
       obtain ⟨y21,e22,h⟩:=h
       conv=>whnf
       repeat((first|refine dw ?_|refine bct c20 ?_);conv=>whnf)
       refine fresh_State_c hX e22 ?_
       conv=>whnf
       repeat((first|refine dw ?_);conv=>whnf)
       exact K _ h
      ·replace h:=g
       clear g
       conv=>whnf
       repeat((first|refine dw ?_|refine bcf c20 ?_);conv=>whnf)
       exact tl1.h  h
     ·replace h:=g
      clear g
      conv=>whnf
      repeat((first|refine dw ?_|refine bcf c19 ?_);conv=>whnf)
      exact tl1.h  h
  ·intro h
   unfold local_Create_j1 at h
   refine rest_intro hX ?_
   refine bndE_some h (fun y3 n5 e4 g=>?_) (fun y3 e4 g=>?_)
   ·replace h:=g
    clear g
    conv=>whnf
    repeat((first|refine dw ?_);conv=>whnf)
    refine local_version_c hX e4 ?_
    conv=>whnf
    repeat((first|refine dw ?_);conv=>whnf)
    exact K _ h
   ·replace h:=g
    clear g
    conv=>whnf
    repeat((first|refine dw ?_);conv=>whnf)
    refine local_version_c hX e4 ?_
    conv=>whnf
    repeat((first|refine dw ?_);conv=>whnf)
    exact K _ h
theorem local_Update_c  {p0:State} {p1:ByteArray} {p2:ByteArray} {p3:Int} {p4r:Nat} {p4i:Nat} {r:State × Option Int} (h:local_Update_s p0 p1 p2 p3 p4r p4i=some r) (hQ:Q (.tup [.agg (State.cs r.1),errA 159 r.2]) []):X (.call 115 [.agg (State.cs p0),.one (.p (.v (.string p1))),.one (.p (.v (.string p2))),iv p3,.one (.p (.v (.complex .f64 p4r p4i)))] [] Q):=by
  have K:=fun a (e:some a=some r)=>ret_some (f:=fun y=>.tup [.agg (State.cs y.1),errA 159 y.2]) (g:=fun y=>[]) e hQ
  unfold local_Update_s at h
  refine call_nz hX ?_
  conv=>whnf
  refine call_intro hX Tryz.func115 rfl rfl ?_
  revert h
  refine bndk fun y1 e2 h=>?_
  conv=>whnf
  repeat((first|refine dw ?_);conv=>whnf)
  refine local_might_c hX e2 ?_
  conv=>whnf
  repeat((first|refine dw ?_);conv=>whnf)
  revert h
  refine brk (fun c3 h=>?_) (fun c3 h=>?_)
  ·revert h
   refine bndk fun y4 e5 h=>?_
   conv=>whnf
   repeat((first|refine dw ?_|refine bct c3 ?_);conv=>whnf)
   refine fresh_State_c hX e5 ?_
   conv=>whnf
   repeat((first|refine dw ?_);conv=>whnf)
   exact K _ h
  ·revert h
   refine bndk fun y6 e7 h=>?_
   conv=>whnf
   repeat((first|refine dw ?_|refine bcf c3 ?_);conv=>whnf)
   refine local_stands_c hX e7 ?_
   conv=>whnf
   repeat((first|refine dw ?_);conv=>whnf)
   revert h
   refine brk (fun c8 h=>?_) (fun c8 h=>?_)
   ·revert h
    refine bndk fun y9 e10 h=>?_
    conv=>whnf
    repeat((first|refine dw ?_|refine bct c8 ?_);conv=>whnf)
    refine fresh_State_c hX e10 ?_
    conv=>whnf
    repeat((first|refine dw ?_);conv=>whnf)
    exact K _ h
   ·conv=>whnf
    repeat((first|refine dw ?_|refine bcf c8 ?_);conv=>whnf)
    revert h
    refine brk (fun c11 h=>?_) (fun c11 h=>?_)
    ·revert h
     refine bndk fun y12 e13 h=>?_
     conv=>whnf
     repeat((first|refine dw ?_|refine bct c11 ?_);conv=>whnf)
     refine fresh_State_c hX e13 ?_
     conv=>whnf
     repeat((first|refine dw ?_);conv=>whnf)
     exact K _ h
    ·revert h
     refine bndEk (fun y14 n16 e15 h=>?_) (fun y14 e15 h=>?_)
     ·conv=>whnf
      repeat((first|refine dw ?_|refine bcf c11 ?_);conv=>whnf)
      refine local_version_c hX e15 ?_
      conv=>whnf
      repeat((first|refine dw ?_);conv=>whnf)
      exact K _ h
     ·conv=>whnf
      repeat((first|refine dw ?_|refine bcf c11 ?_);conv=>whnf)
      refine local_version_c hX e15 ?_
      conv=>whnf
      repeat((first|refine dw ?_);conv=>whnf)
      exact K _ h
theorem local_Delete_c  {p0:State} {p1:ByteArray} {r:State × Option Int} (h:local_Delete_s p0 p1=some r) (hQ:Q (.tup [.agg (State.cs r.1),errA 159 r.2]) []):X (.call 116 [.agg (State.cs p0),.one (.p (.v (.string p1)))] [] Q):=by
  have K:=fun a (e:some a=some r)=>ret_some (f:=fun y=>.tup [.agg (State.cs y.1),errA 159 y.2]) (g:=fun y=>[]) e hQ
  unfold local_Delete_s at h
  refine call_nz hX ?_
  conv=>whnf
  refine call_intro hX Tryz.func116 rfl rfl ?_
  revert h
  refine bndk fun y1 e2 h=>?_
  conv=>whnf
  repeat((first|refine dw ?_);conv=>whnf)
  refine item_Name_c hX e2 ?_
  conv=>whnf
  repeat((first|refine dw ?_);conv=>whnf)
  revert h
  refine brk (fun c3 h=>?_) (fun c3 h=>?_)
  ·revert h
   refine bndk fun y4 e5 h=>?_
   conv=>whnf
   repeat((first|refine dw ?_|refine bct c3 ?_);conv=>whnf)
   refine fresh_State_c hX e5 ?_
   conv=>whnf
   repeat((first|refine dw ?_);conv=>whnf)
   exact K _ h
  ·revert h
   refine bndk fun y6 e7 h=>?_
   conv=>whnf
   repeat((first|refine dw ?_|refine bcf c3 ?_);conv=>whnf)
   refine local_stands_c hX e7 ?_
   conv=>whnf
   repeat((first|refine dw ?_);conv=>whnf)
   revert h
   refine brk (fun c8 h=>?_) (fun c8 h=>?_)
   ·revert h
    refine bndk fun y9 e10 h=>?_
    conv=>whnf
    repeat((first|refine dw ?_|refine bct c8 ?_);conv=>whnf)
    refine fresh_State_c hX e10 ?_
    conv=>whnf
    repeat((first|refine dw ?_);conv=>whnf)
    exact K _ h
   ·conv=>whnf
    repeat((first|refine dw ?_|refine bcf c8 ?_);conv=>whnf)
    revert h
    refine brk (fun c11 h=>?_) (fun c11 h=>?_)
    ·revert h
     refine bndk fun y12 e13 h=>?_
     conv=>whnf
     repeat((first|refine dw ?_|refine bct c11 ?_);conv=>whnf)
     refine fresh_State_c hX e13 ?_
     conv=>whnf
     repeat((first|refine dw ?_);conv=>whnf)
     exact K _ h
    ·revert h
     refine bndEk (fun y14 n16 e15 h=>?_) (fun y14 e15 h=>?_)
     ·conv=>whnf
      repeat((first|refine dw ?_|refine bcf c11 ?_);conv=>whnf)
      refine local_version_c hX e15 ?_
      conv=>whnf
      repeat((first|refine dw ?_);conv=>whnf)
      exact K _ h
     ·conv=>whnf
      repeat((first|refine dw ?_|refine bcf c11 ?_);conv=>whnf)
      refine local_version_c hX e15 ?_
      conv=>whnf
      repeat((first|refine dw ?_);conv=>whnf)
      exact K _ h
theorem local_Filter_c  {p0:State} {p1:Pred} {r:State × Option Int} (h:local_Filter_s p0 p1=some r) (hQ:Q (.tup [.agg (State.cs r.1),errA 159 r.2]) []):X (.call 117 [.agg (State.cs p0),.agg (Pred.cs p1)] [] Q):=by
  have K:=fun a (e:some a=some r)=>ret_some (f:=fun y=>.tup [.agg (State.cs y.1),errA 159 y.2]) (g:=fun y=>[]) e hQ
  unfold local_Filter_s at h
  refine call_nz hX ?_
  conv=>whnf
  refine call_intro hX Tryz.func117 rfl rfl ?_
  apply join0 (X:=X) (r:=r) (pad [(2,.one (.ptr 0 0)),(0,.one (.ptr 1 0)),(0,.one (.ptr 2 0))] 74) ([.box (State.cs p0),.box (Pred.cs p1),.box [ic 0,ic 0,.p (.v (.string ⟨#[]⟩)),ic 0,.p (.v (.complex .f64 0 0)),.own 3,.own 4,.own 5,ic 0,ic 0,ic 0,ic 0,ic 0,ic 0,ic 0,ic 0,.own 6,ic 0,ic 0,ic 0],.rows 0 [],.rows 0 [],.rows 0 [],.rows 0 []])
  ·intro tl1
   replace h:=bnd_some h
   obtain ⟨y28,e29,h⟩:=h
   conv=>whnf
   repeat((first|refine dw ?_);conv=>whnf)
   refine pred_May_c hX e29 ?_
   conv=>whnf
   repeat((first|refine dw ?_);conv=>whnf)
   refine br_some h (fun c30 g=>?_) (fun c30 g=>?_)
   ·replace h:=g
    clear g
    replace h:=bnd_some h
    obtain ⟨y31,e32,h⟩:=h
    conv=>whnf
    repeat((first|refine dw ?_|refine bct c30 ?_);conv=>whnf)
    refine fresh_State_c hX e32 ?_
    conv=>whnf
    repeat((first|refine dw ?_);conv=>whnf)
    exact K _ h
   ·replace h:=g
    clear g
    conv=>whnf
    repeat((first|refine dw ?_|refine bcf c30 ?_);conv=>whnf)
    refine br_some h (fun c33 g=>?_) (fun c33 g=>?_)
    ·replace h:=g
     clear g
     conv=>whnf
     repeat((first|refine dw ?_|refine bct c33 ?_|refine bcf c30 ?_);conv=>whnf)
     refine br_some h (fun c34 g=>?_) (fun c34 g=>?_)
     ·replace h:=g
      clear g
      replace h:=bnd_some h
      obtain ⟨y35,e36,h⟩:=h
      conv=>whnf
      repeat((first|refine dw ?_|refine bct c34 ?_);conv=>whnf)
      refine fresh_State_c hX e36 ?_
      conv=>whnf
      repeat((first|refine dw ?_);conv=>whnf)
      exact K _ h
     ·replace h:=g
      clear g
      conv=>whnf
      repeat((first|refine dw ?_|refine bcf c34 ?_);conv=>whnf)
      exact tl1.h  h
    ·replace h:=g
     clear g
     conv=>whnf
     repeat((first|refine dw ?_|refine bcf c33 ?_|refine bcf c30 ?_);conv=>whnf)
     exact tl1.h  h
  ·intro h
   unfold local_Filter_j1 at h
   refine rest_intro hX ?_
   conv=>whnf
   repeat((first|refine dw ?_);conv=>whnf)
   refine br_some h (fun c1 g=>?_) (fun c1 g=>?_)
   ·replace h:=g
    clear g
    replace h:=bnd_some h
    obtain ⟨y2,e3,h⟩:=h
    conv=>whnf
    repeat((first|refine dw ?_|refine bct c1 ?_);conv=>whnf)
    refine fresh_State_c hX e3 ?_
    conv=>whnf
    repeat((first|refine dw ?_);conv=>whnf)
    exact K _ h
   ·replace h:=g
    clear g
    replace h:=bnd_some h
    obtain ⟨y4,e5,h⟩:=h
    conv=>whnf
    repeat((first|refine dw ?_|refine bcf c1 ?_);conv=>whnf)
    refine list_Both_c hX e5 ?_
    replace h:=bnd_some h
    obtain ⟨y6,e7,h⟩:=h
    conv=>whnf
    repeat((first|refine dw ?_);conv=>whnf)
    refine fresh_Pred_c hX fuelR e7 ?_
    replace h:=chk_some h
    obtain ⟨hs2,h⟩:=h
    conv=>whnf
    repeat((first|refine dw ?_|refine eqv_to (map_len _) ?_);conv=>whnf)
    refine loop_nk hX ?_
    conv=>whnf
    refine Two.r (Two.r ?_)
    conv=>whnf
    refine loop_k hX [8,8,0,0,0,0] ?_
    conv=>whnf
    refine loop_lisx3 (fun (v8:Int) (v20:Know) (v18:List Item) (v19:List Item)=>pad [(2,.one (.ptr 0 0)),(0,.one (.ptr 3 0)),(0,.one (.ptr 4 0)),(43,.one (.p (.sl (y4.map Item.row)))),(0,iv (y4.length:Int)),(0,iv v8)] 28) (fun (v8:Int) (v20:Know) (v18:List Item) (v19:List Item)=>[.box [ic p0.r,ic y6.op,.p (.v (.string y6.text)),ic y6.n,.p (.v (.complex .f64 y6.re y6.im)),.p (.sl (Pred.rows y6.kids)),.own 1,.own 2,ic v20.star.x0,ic v20.star.x1,ic v20.star.x2,ic v20.star.x3,ic v20.star.x4,ic v20.star.x5,ic v20.star.x6,ic v20.star.x7,.p (.sl (v20.l.map Frag.row)),ic p0.count,ic p0.clock,ic (wr .i64 (p0.epoch + 1))],.rows 8 (v18.map Item.row),.rows 8 (v19.map Item.row),.box (Pred.cs p1),.box [ic 0,ic 0,.p (.v (.string ⟨#[]⟩)),ic 0,.p (.v (.complex .f64 0 0)),.own 5,.own 6,.own 7,ic 0,ic 0,ic 0,ic 0,ic 0,ic 0,ic 0,ic 0,.own 8,ic 0,ic 0,ic 0],.rows 0 [],.rows 0 [],.rows 0 [],.rows 0 []]) _ y4 (fun pre2 x2e xs2 v8 v20 v18 v19 hl2 hi2 h ih2=>?_) (fun v8 v20 v18 v19 hi2 h=>?_) (Know.mk (V8.mk 0 0 0 0 0 0 0 0) ([]:List Frag)) ([]:List Item) ([]:List Item) h
    ·rw [local_Filter_l2] at h
     have am2:=at_mid hl2 hi2
     refine loop_intro hX ?_
     replace h:=bnd_some h
     obtain ⟨y21,e22,h⟩:=h
     conv=>whnf
     repeat((first|refine dw ?_|refine bct (lt_mid hl2 hi2) ?_|refine bct (at_in am2) ?_|refine bct (andt (at_in am2) rfl) ?_|refine row_in (at_row am2) ?_|refine bct (andt (at_in (at_nat am2)) rfl) ?_|refine row_in (at_row (at_nat am2)) ?_);conv=>whnf)
     refine know_With_c hX e22 ?_
     replace h:=bnd_some h
     obtain ⟨y23,e24,h⟩:=h
     conv=>whnf
     repeat((first|refine dw ?_);conv=>whnf)
     refine eval_Has_c hX e24 ?_
     conv=>whnf
     repeat((first|refine dw ?_);conv=>whnf)
     refine br_some h (fun c25 g=>?_) (fun c25 g=>?_)
     ·replace h:=g
      clear g
      replace h:=chk_some h
      obtain ⟨c26,h⟩:=h
      conv=>whnf
      repeat((first|refine dw ?_|refine bct c25 ?_|refine bct (room_map c26 rfl rfl rfl rfl) ?_|refine eqv_to (cat_one (f:=Item.row) v18 x2e) ?_);conv=>whnf)
      exact ih2 _ y21 (v18++[x2e]) v19 (wrL hs2 hl2 hi2) h
     ·replace h:=g
      clear g
      replace h:=chk_some h
      obtain ⟨c27,h⟩:=h
      conv=>whnf
      repeat((first|refine dw ?_|refine bcf c25 ?_|refine bct (room_map c27 rfl rfl rfl rfl) ?_|refine eqv_to (cat_one (f:=Item.row) v19 x2e) ?_);conv=>whnf)
      exact ih2 _ y21 v18 (v19++[x2e]) (wrL hs2 hl2 hi2) h
    ·rw [local_Filter_l2] at h
     refine loop_intro hX ?_
     conv=>whnf
     repeat((first|refine dw ?_|refine bcf (lt_end hi2) ?_);conv=>whnf)
     exact K _ h
theorem local_Read_c  {p0:State} {r:(List Item)} (h:local_Read_s p0=some r) (hQ:Q (.one (.p (.sl (r.map Item.row)))) []):X (.call 65 [.agg (State.cs p0)] [] Q):=by
  unfold local_Read_s at h
  refine call_nz hX ?_
  conv=>whnf
  refine call_intro hX Tryz.func65 rfl rfl ?_
  revert h
  refine chkk fun hs1 h=>?_
  conv=>whnf
  repeat((first|refine dw ?_|refine eqv_to (map_len _) ?_);conv=>whnf)
  refine loop_k hX [8] ?_
  conv=>whnf
  refine loop_lisx1 (fun (v1:Int) (v2:List Item)=>pad [(3,.one (.own 0)),(3,.one (.p (.sl (p0.store.map Item.row)))),(0,iv (p0.store.length:Int)),(0,iv v1)] 12) (fun (v1:Int) (v2:List Item)=>[.rows 8 (v2.map Item.row)]) _ p0.store (fun pre1 x1e xs1 v1 v2 hl1 hi1 h ih1=>?_) (fun v1 v2 hi1 h=>?_) ([]:List Item) h
  ·rw [local_Read_l1] at h
   have am1:=at_mid hl1 hi1
   refine loop_intro hX ?_
   conv=>whnf
   repeat((first|refine dw ?_|refine bct (lt_mid hl1 hi1) ?_|refine bct (at_in am1) ?_|refine bct (andt (at_in am1) rfl) ?_|refine row_in (at_row am1) ?_|refine bct (andt (at_in (at_nat am1)) rfl) ?_|refine row_in (at_row (at_nat am1)) ?_);conv=>whnf)
   revert h
   refine brk (fun c3 h=>?_) (fun c3 h=>?_)
   ·revert h
    refine chkk fun c4 h=>?_
    conv=>whnf
    repeat((first|refine dw ?_|refine bct c3 ?_|refine bct (room_map c4 rfl rfl rfl rfl) ?_|refine eqv_to (cat_one (f:=Item.row) v2 x1e) ?_);conv=>whnf)
    exact ih1 _ (v2++[x1e]) (wrL hs1 hl1 hi1) h
   ·conv=>whnf
    repeat((first|refine dw ?_|refine bcf c3 ?_);conv=>whnf)
    exact ih1 _ v2 (wrL hs1 hl1 hi1) h
  ·rw [local_Read_l1] at h
   refine loop_intro hX ?_
   conv=>whnf
   repeat((first|refine dw ?_|refine bcf (lt_end hi1) ?_);conv=>whnf)
   exact ret_some (f:=fun y=>.one (.p (.sl (y.map Item.row)))) (g:=fun y=>[]) h hQ
end
end Go.Proofs.YtidkmoohgadjkaaGreat
set_option maxHeartbeats 0
namespace Go.Proofs.YtidkmoohgadjkaaGreat
open Go E
noncomputable section
open Pred
def ref09_Same_s (p0:State) (p1:State):Option (Bool) :=
 (br (!eqI p0.r p1.r)
  (some false)
  (br (!eqI p0.count p1.count)
   (some false)
   (br (!eqI p0.clock p1.clock)
    (some false)
    (br (!eqI p0.epoch p1.epoch)
     (some false)
     (bnd (ref03_Same_s p0.f p1.f) fun y5 =>
      (bnd (ref06_SameList_s p0.store p1.store) fun y7 =>
       (bnd (ref06_SameList_s p0.out p1.out) fun y9 =>
        (bnd (ref06_Alike_s p0.k p1.k) fun y11 =>
         (br y5
          (br y7
           (br y9
            (some y11)
            (some false))
           (some false))
          (some false))))))))))
def ref09_Stands_s (p0:State) (p1:ByteArray):Option (Item × Bool) :=
 (bnd (ref06_Both_s p0.store p0.out) fun y1 =>
  (bnd (ref06_Get_s y1 p1) fun y3 =>
   some (y3.1,y3.2)))
variable {X:Task→Prop} (hX:Closed X) {Q:A→List Blk→Prop}
include hX
theorem ref09_Same_c  {p0:State} {p1:State} {r:Bool} (h:ref09_Same_s p0 p1=some r) (hQ:Q (.one (.p (.v (.bool r)))) []):X (.call 35 [.agg (State.cs p0),.agg (State.cs p1)] [] Q):=by
  have K:=fun a (e:some a=some r)=>ret_some (f:=fun y=>.one (.p (.v (.bool y)))) (g:=fun y=>[]) e hQ
  unfold ref09_Same_s at h
  refine call_intro hX Tryz.func35 rfl rfl ?_
  conv=>whnf
  repeat((first|refine dw ?_);conv=>whnf)
  revert h
  refine brk (fun c1 h=>?_) (fun c1 h=>?_)
  ·conv=>whnf
   repeat((first|refine dw ?_|refine bct c1 ?_);conv=>whnf)
   exact K _ h
  ·conv=>whnf
   repeat((first|refine dw ?_|refine bcf c1 ?_);conv=>whnf)
   revert h
   refine brk (fun c2 h=>?_) (fun c2 h=>?_)
   ·conv=>whnf
    repeat((first|refine dw ?_|refine bct c2 ?_);conv=>whnf)
    exact K _ h
   ·conv=>whnf
    repeat((first|refine dw ?_|refine bcf c2 ?_);conv=>whnf)
    revert h
    refine brk (fun c3 h=>?_) (fun c3 h=>?_)
    ·conv=>whnf
     repeat((first|refine dw ?_|refine bct c3 ?_);conv=>whnf)
     exact K _ h
    ·conv=>whnf
     repeat((first|refine dw ?_|refine bcf c3 ?_);conv=>whnf)
     revert h
     refine brk (fun c4 h=>?_) (fun c4 h=>?_)
     ·conv=>whnf
      repeat((first|refine dw ?_|refine bct c4 ?_);conv=>whnf)
      exact K _ h
     ·revert h
      refine bndk fun y5 e6 h=>?_
      conv=>whnf
      repeat((first|refine dw ?_|refine bcf c4 ?_);conv=>whnf)
      refine ref03_Same_c hX e6 ?_
      revert h
      refine bndk fun y7 e8 h=>?_
      conv=>whnf
      repeat((first|refine dw ?_);conv=>whnf)
      refine ref06_SameList_c hX e8 ?_
      revert h
      refine bndk fun y9 e10 h=>?_
      conv=>whnf
      repeat((first|refine dw ?_);conv=>whnf)
      refine ref06_SameList_c hX e10 ?_
      revert h
      refine bndk fun y11 e12 h=>?_
      conv=>whnf
      repeat((first|refine dw ?_);conv=>whnf)
      refine ref06_Alike_c hX e12 ?_
      conv=>whnf
      repeat((first|refine dw ?_);conv=>whnf)
      revert h
      refine brk (fun c13 h=>?_) (fun c13 h=>?_)
      ·conv=>whnf
       repeat((first|refine dw ?_|refine bct c13 ?_);conv=>whnf)
       revert h
       refine brk (fun c14 h=>?_) (fun c14 h=>?_)
       ·conv=>whnf
        repeat((first|refine dw ?_|refine bct c14 ?_);conv=>whnf)
        revert h
        refine brk (fun c15 h=>?_) (fun c15 h=>?_)
        ·conv=>whnf
         repeat((first|refine dw ?_|refine bct c15 ?_);conv=>whnf)
         exact K _ h
        ·conv=>whnf
         repeat((first|refine dw ?_|refine bcf c15 ?_);conv=>whnf)
         exact K _ h
       ·conv=>whnf
        repeat((first|refine dw ?_|refine bcf c14 ?_);conv=>whnf)
        exact K _ h
      ·conv=>whnf
       repeat((first|refine dw ?_|refine bcf c13 ?_);conv=>whnf)
       exact K _ h
theorem ref09_Stands_c  {p0:State} {p1:ByteArray} {r:Item × Bool} (h:ref09_Stands_s p0 p1=some r) (hQ:Q (.tup [.agg (Item.cs r.1),.one (.p (.v (.bool r.2)))]) []):X (.call 41 [.agg (State.cs p0),.one (.p (.v (.string p1)))] [] Q):=by
 unfold ref09_Stands_s at h
 refine call_intro hX Tryz.func41 rfl rfl ?_
 revert h
 refine bndk fun y1 e2 h=>?_
 conv=>whnf
 repeat((first|refine dw ?_);conv=>whnf)
 refine ref06_Both_c hX e2 ?_
 revert h
 refine bndk fun y3 e4 h=>?_
 conv=>whnf
 repeat((first|refine dw ?_);conv=>whnf)
 refine ref06_Get_c hX e4 ?_
 conv=>whnf
 repeat((first|refine dw ?_);conv=>whnf)
 exact ret_some (f:=fun y=>.tup [.agg (Item.cs y.1),.one (.p (.v (.bool y.2)))]) (g:=fun y=>[]) h hQ
end
end Go.Proofs.YtidkmoohgadjkaaGreat
namespace Go.Proofs.YtidkmoohgadjkaaGreat
open Go E Pred
noncomputable section
open Classical
def Dj (a b:List Item):Prop:=∀ id,(lk a id).isSome=true→lk b id=none
theorem lk_head (x:Item) (l:List Item):lk (x::l) x.id=some x:=by rw [lk_cons,if_pos (eqS_self _)]
theorem lk_tail {x:Item} {l:List Item} {id:ByteArray} (h:(lk l id).isSome=true):(lk (x::l) id).isSome=true:=by
 rw [lk_cons]; split
 ·rfl
 ·exact h
theorem lk_tail_none {x:Item} {l:List Item} {id:ByteArray} (h:lk (x::l) id=none):lk l id=none:=by
 rw [lk_cons] at h
 split at h
 ·cases h
 ·exact h
theorem len_merge_dj:∀ (n:Nat) {a b:List Item},a.length + b.length < n→Dj a b→(mergeF n a b).length=a.length + b.length
 | 0,_,_,h,_=>by omega
 | n + 1,[],b,_,_=>by rw [mergeF]; simp
 | n + 1,x::a,[],_,_=>by rw [mergeF]; simp
 | n + 1,x::a,y::b,h,hd=>by
  rw [mergeF]
  simp only [List.length_cons] at h ⊢
  have hxy:x.id≠y.id:=fun e=>by
   have:=hd x.id (by rw [lk_head]; rfl)
   rw [e,lk_head] at this; cases this
  split
  ·rw [List.length_cons,len_merge_dj n (by simp only [List.length_cons]; omega) fun id hi=>hd id (lk_tail hi)]; simp only [List.length_cons]; omega
  ·split
   ·rw [List.length_cons,len_merge_dj n (by simp only [List.length_cons]; omega) fun id hi=>lk_tail_none (hd id hi)]; simp only [List.length_cons]; omega
   ·rename_i h1 h2
    simp only [Bool.not_eq_true] at h1 h2
    exact absurd (ltS_tri h1 h2) hxy
theorem len_both_dj {a b:List Item} (h:Dj a b):(bothV a b).length=a.length + b.length:=len_merge_dj _ (by omega) h
theorem len_merge_lt:∀ (n:Nat) {a b:List Item},a.length + b.length < n→Ris a→Ris b→(∃ id,(lk a id).isSome=true∧(lk b id).isSome=true)→(mergeF n a b).length < a.length + b.length
 | 0,_,_,h,_,_,_=>by omega
 | n + 1,[],b,_,_,_,h=>by obtain ⟨id,h1,_⟩:=h; cases h1
 | n + 1,x::a,[],_,_,_,h=>by obtain ⟨id,_,h1⟩:=h; cases h1
 | n + 1,x::a,y::b,h,ha,hb,hd=>by
  have ha':=ris_cons.1 ha
  have hb':=ris_cons.1 hb
  obtain ⟨id,h1,h2⟩:=hd
  rw [mergeF]
  simp only [List.length_cons] at h ⊢
  split
  ·rename_i hlt
   rw [List.length_cons]
   have:=len_merge_lt n (a:=a) (b:=y::b) (by simp only [List.length_cons]; omega) ha'.2 hb ⟨id,by
    rw [lk_cons] at h1
    split at h1
    ·rename_i e
     have e:=eqS_t.1 e
     rw [lk_gt (by
      intro z hz
      rw [←e]
      rcases List.mem_cons.1 hz with rfl | hz
      ·exact hlt
      ·exact ltS_tr hlt (hb'.1 z hz))] at h2
     cases h2
    ·exact h1,h2⟩
   simp only [List.length_cons] at this; omega
  ·split
   ·rename_i h3 hlt
    rw [List.length_cons]
    have:=len_merge_lt n (a:=x::a) (b:=b) (by simp only [List.length_cons]; omega) ha hb'.2 ⟨id,h1,by
     rw [lk_cons] at h2
     split at h2
     ·rename_i e
      have e:=eqS_t.1 e
      rw [lk_gt (by
       intro z hz
       rw [←e]
       rcases List.mem_cons.1 hz with rfl | hz
       ·exact hlt
       ·exact ltS_tr hlt (ha'.1 z hz))] at h1
      cases h1
     ·exact h2⟩
    simp only [List.length_cons] at this; omega
   ·split
    ·have:=len_merge n a (y::b); simp only [List.length_cons] at this; omega
    ·have:=len_merge n (x::a) b; simp only [List.length_cons] at this; omega
theorem len_both_lt {a b:List Item} (ha:Ris a) (hb:Ris b) (h:∃ id,(lk a id).isSome=true∧(lk b id).isSome=true):(bothV a b).length < a.length + b.length:=len_merge_lt _ (by omega) ha hb h
theorem len_both_iff {a b:List Item} (ha:Ris a) (hb:Ris b):(bothV a b).length=a.length + b.length↔Dj a b:=by
 constructor
 ·intro h id hi
  cases hl:lk b id with
  | none=>rfl
  | some y=>have:=len_both_lt ha hb ⟨id,hi,by rw [hl]; rfl⟩; omega
 ·exact len_both_dj
def disjB (a b:List Item):Bool:=b.all fun y=>(lk a y.id).isNone
theorem disjB_iff {a b:List Item}:disjB a b=true↔Dj a b:=by
 unfold disjB
 rw [List.all_eq_true]
 constructor
 ·intro h id hi
  cases hb:lk b id with
  | none=>rfl
  | some y =>
   obtain ⟨hy,rfl⟩:=lk_some hb
   have:=h y hy
   rw [Option.isNone_iff_eq_none] at this
   rw [this] at hi; cases hi
 ·intro h y hy
  rw [Option.isNone_iff_eq_none]
  cases ha:lk a y.id with
  | none=>rfl
  | some x =>
   have:=h y.id (by rw [ha]; rfl)
   exact absurd (lk_none.1 this y hy) (by rw [eqS_self]; simp)
def stoodB (s:State) (l:List Item) (b:Bool):Bool:=l.all fun i=>(hasP s.f i == b)&&(hasK s.k i.id i.vr i.vc&&leI i.stamp s.clock)
def beyondB (k:Know) (r n:Int):Bool:=ltI n (k.star.at r) || k.l.any fun f=>ltI n (f.vec.at r)
def numsB (x:State):Bool:=inN x.r 1 8&&(decide (x.store.length + x.out.length≤40)&&(inN x.count 0 1000&&(inN x.clock 0 1000000&&inN x.epoch 0 1000000)))
def mayS (x:State):Bool:=mayP x.f&&(mayListB x.store&&(mayListB x.out&&(mayK x.k&&(numsB x&&(disjB x.store x.out&&(stoodB x x.store true&&(stoodB x x.out false&&!beyondB x.k x.r x.count)))))))
structure StB (x:State):Prop where
 f:x.f.Ok
 fs:x.f.size≤1000
 store:∀ i∈x.store,i.Ok
 out:∀ i∈x.out,i.Ok
 sl:x.store.length≤1000
 ol:x.out.length≤1000
 k:KT x.k 90000
 ids:IdsOk x.k
theorem StOk.b {x:State} (h:StOk x) (hk:KB x.k 60):StB x:=⟨h.f,h.fs,h.store,h.out,by have:=h.sl; omega,by have:=h.ol; omega,hk.kt.mono (by decide),h.ids⟩
theorem brec_neq (a b:Bool):(@Bool.rec (fun _=>Bool) b (!b) a)=!(a == b):=by cases a<;>cases b<;>rfl
theorem lholds_l {x:State} (h:StB x) (b:Bool):∀ l:List Item,(∀ i∈l,i.Ok)→local_holds_l1 x b l=some (stoodB x l b)
 | [],_=>by rw [local_holds_l1]; rfl
 | i::l,hl=>by
  have ih:=lholds_l h b l fun j hj=>hl j (List.mem_cons_of_mem _ hj)
  rw [local_holds_l1,bnd_of (has_s h.f (hl i (List.mem_cons_self ..))),bnd_of (khas_s (N:=90000) (by decide) h.k.kb),ih,brec_neq]
  unfold stoodB
  rw [List.all_cons]
  have e:ltI x.clock i.stamp=!leI i.stamp x.clock:=by
   cases h1:leI i.stamp x.clock with
   | true=>rw [leI_t] at h1; exact ltI_f.2 h1
   | false=>rw [leI_f] at h1; exact ltI_t.2 h1
  rw [e]
  generalize (hasP x.f i == b)=p
  generalize hasK x.k i.id _ _=q
  generalize leI i.stamp x.clock=r
  cases p<;>cases q<;>cases r<;>rfl
theorem lholds_s {x:State} (h:StB x) (b:Bool) {l:List Item} (hl:∀ i∈l,i.Ok) (hn:l.length≤1000):local_holds_s x l b=some (stoodB x l b):=by
 unfold local_holds_s; rw [chk_t (smallL_of (by omega)),lholds_l h b l hl]
theorem ltle (a b:Int):leI a b=!ltI b a:=by
 cases h:ltI b a with
 | true=>rw [ltI_t] at h; exact leI_f.2 h
 | false=>rw [ltI_f] at h; exact leI_t.2 h
theorem own1 {k:Know} {n:Int}:∀ l:List Frag,local_own_l1 k n l=some (!(ltI n k.star.x0 || l.any fun f=>ltI n f.vec.x0))
 | []=>by rw [local_own_l1,ltle]; simp
 | f::l=>by rw [local_own_l1,own1 l,List.any_cons]; cases ltI n f.vec.x0<;>simp [br]
theorem own2 {k:Know} {n:Int}:∀ l:List Frag,local_own_l2 k n l=some (!(ltI n k.star.x1 || l.any fun f=>ltI n f.vec.x1))
 | []=>by rw [local_own_l2,ltle]; simp
 | f::l=>by rw [local_own_l2,own2 l,List.any_cons]; cases ltI n f.vec.x1<;>simp [br]
theorem own3 {k:Know} {n:Int}:∀ l:List Frag,local_own_l3 k n l=some (!(ltI n k.star.x2 || l.any fun f=>ltI n f.vec.x2))
 | []=>by rw [local_own_l3,ltle]; simp
 | f::l=>by rw [local_own_l3,own3 l,List.any_cons]; cases ltI n f.vec.x2<;>simp [br]
theorem own4 {k:Know} {n:Int}:∀ l:List Frag,local_own_l4 k n l=some (!(ltI n k.star.x3 || l.any fun f=>ltI n f.vec.x3))
 | []=>by rw [local_own_l4,ltle]; simp
 | f::l=>by rw [local_own_l4,own4 l,List.any_cons]; cases ltI n f.vec.x3<;>simp [br]
theorem own5 {k:Know} {n:Int}:∀ l:List Frag,local_own_l5 k n l=some (!(ltI n k.star.x4 || l.any fun f=>ltI n f.vec.x4))
 | []=>by rw [local_own_l5,ltle]; simp
 | f::l=>by rw [local_own_l5,own5 l,List.any_cons]; cases ltI n f.vec.x4<;>simp [br]
theorem own6 {k:Know} {n:Int}:∀ l:List Frag,local_own_l6 k n l=some (!(ltI n k.star.x5 || l.any fun f=>ltI n f.vec.x5))
 | []=>by rw [local_own_l6,ltle]; simp
 | f::l=>by rw [local_own_l6,own6 l,List.any_cons]; cases ltI n f.vec.x5<;>simp [br]
theorem own7 {k:Know} {n:Int}:∀ l:List Frag,local_own_l7 k n l=some (!(ltI n k.star.x6 || l.any fun f=>ltI n f.vec.x6))
 | []=>by rw [local_own_l7,ltle]; simp
 | f::l=>by rw [local_own_l7,own7 l,List.any_cons]; cases ltI n f.vec.x6<;>simp [br]
theorem own8 {k:Know} {n:Int}:∀ l:List Frag,local_own_l8 k n l=some (!(ltI n k.star.x7 || l.any fun f=>ltI n f.vec.x7))
 | []=>by rw [local_own_l8,ltle]; simp
 | f::l=>by rw [local_own_l8,own8 l,List.any_cons]; cases ltI n f.vec.x7<;>simp [br]
theorem lown_s {x:State} (h:x.k.l.length≤1000000000) (hr:1≤x.r∧x.r≤8):local_own_s x=some (!beyondB x.k x.r x.count):=by
 obtain ⟨r,f,st,out,k,n,c,e⟩:=x
 simp only at h hr
 unfold beyondB
 rcases r8 r with h' | rfl | rfl | rfl | rfl | rfl | rfl | rfl | rfl
 ·omega
 ·exact (chk_t (smallL_of h)).trans (own1 k.l)
 ·exact (chk_t (smallL_of h)).trans (own2 k.l)
 ·exact (chk_t (smallL_of h)).trans (own3 k.l)
 ·exact (chk_t (smallL_of h)).trans (own4 k.l)
 ·exact (chk_t (smallL_of h)).trans (own5 k.l)
 ·exact (chk_t (smallL_of h)).trans (own6 k.l)
 ·exact (chk_t (smallL_of h)).trans (own7 k.l)
 ·exact (chk_t (smallL_of h)).trans (own8 k.l)
end
end Go.Proofs.YtidkmoohgadjkaaGreat
namespace Go.Proofs.YtidkmoohgadjkaaGreat
open Go E Pred
noncomputable section
open Classical
theorem getI_snd (id:ByteArray) (l:List Item):(getI id l).2=(lk l id).isSome:=by
 rw [getI_lk]; cases lk l id<;>rfl
theorem ltn (a b:Int):ltI a b=!leI b a:=by
 rw [ltle b a,Bool.not_not]
theorem pmay_s {p:Pred} (h:p.Ok):pred_May_s p=some (mayP p):=by unfold pred_May_s; rw [chk_t (decide_eq_true h)]
theorem lmay9_s {x:State} (h:StB x):local_May_s x=some (mayS x):=by
 have hs:=h.sl
 have ho:=h.ol
 have hw:wr .i64 ((x.store.length:Int) + (x.out.length:Int))=((x.store.length + x.out.length:Nat):Int):=by rw [wr64 (by omega) (by omega)]; omega
 have e:ltI 40 ((x.store.length + x.out.length:Nat):Int)=!decide (x.store.length + x.out.length≤40):=by
  by_cases hl:x.store.length + x.out.length≤40
  ·rw [decide_eq_true hl]; exact ltI_f.2 (by omega)
  ·rw [decide_eq_false hl]; exact ltI_t.2 (by omega)
 have w:∀ a b:Int,local_within_s a b=some (inN a 0 b):=fun a b=>by
  unfold local_within_s inN; cases leI 0 a<;>rfl
 unfold local_May_s
 rw [bnd_of (pmay_s h.f),bnd_of (lmay_s (by omega) h.store),bnd_of (lmay_s (by omega) h.out),bnd_of (kmay_s (h.k.mono (by decide)) h.ids),bnd_of (w x.count 1000),bnd_of (w x.clock 1000000),bnd_of (w x.epoch 1000000),hw,e,
  bnd_of (lboth_s (by omega)),bnd_of (lholds_s h true h.store h.sl),bnd_of (lholds_s h false h.out h.ol)]
 unfold mayS numsB
 have er:inN x.r 1 8=(!ltI x.r 1&&!ltI 8 x.r):=by unfold inN; rw [ltle,ltle]
 rw [er]
 cases hr1:ltI x.r 1 with
 | true=>simp [br]
 | false =>
  cases hr2:ltI 8 x.r with
  | true=>simp [br]
  | false =>
   rw [ltI_f] at hr1 hr2
   rw [bnd_of (lown_s (by have:=h.k.l; omega) ⟨by omega,by omega⟩)]
   cases mayP x.f with
   | false=>rfl
   | true=>cases h2:mayListB x.store with
    | false=>rfl
    | true=>cases h3:mayListB x.out with
     | false=>rfl
     | true =>
      have ed:eqI ((bothV x.store x.out).length:Int) ((x.store.length + x.out.length:Nat):Int)=disjB x.store x.out:=by
       cases hd:disjB x.store x.out with
       | true=>exact eqI_t.2 (by rw [len_both_dj (disjB_iff.1 hd)])
       | false =>
        refine eqI_f.2 fun e=>?_
        have:=disjB_iff.2 ((len_both_iff (may_ris h2) (may_ris h3)).1 (by omega))
        rw [hd] at this; cases this
      rw [ed]
      cases mayK x.k with
      | false=>rfl
      | true=>cases inN x.count 0 1000 with
       | false=>simp [br]
       | true=>cases inN x.clock 0 1000000 with
        | false=>simp [br]
        | true=>cases inN x.epoch 0 1000000 with
         | false=>simp [br]
         | true=>cases decide (x.store.length + x.out.length≤40) with
          | false=>rfl
          | true=>cases disjB x.store x.out with
           | false=>rfl
           | true=>cases stoodB x x.store true with
            | false=>rfl
            | true=>cases stoodB x x.out false<;>rfl
structure SOk (x:State) (N:Nat):Prop where
 f:x.f.Ok
 fs:x.f.size≤1000
 rs:Ris x.store
 ro:Ris x.out
 le:x.store.length + x.out.length≤40
 dj:Dj x.store x.out
 is:∀ i∈x.store,i.Ok∧mayI i=true
 io:∀ i∈x.out,i.Ok∧mayI i=true
 kt:KT x.k N
 ids:IdsOk x.k
 cn:0≤x.count∧x.count≤1000
 cl:0≤x.clock∧x.clock≤1000000
 ep:0≤x.epoch∧x.epoch≤1000000
theorem inN_iff {n a b:Int}:inN n a b=true↔a≤n∧n≤b:=by unfold inN; rw [Bool.and_eq_true,leI_t,leI_t]
theorem mayS_iff {x:State}:mayS x=true↔mayP x.f=true∧mayListB x.store=true∧mayListB x.out=true∧mayK x.k=true∧(1≤x.r∧x.r≤8)∧x.store.length + x.out.length≤40∧(0≤x.count∧x.count≤1000)∧(0≤x.clock∧x.clock≤1000000)∧(0≤x.epoch∧x.epoch≤1000000)∧Dj x.store x.out∧stoodB x x.store true=true∧stoodB x x.out false=true∧beyondB x.k x.r x.count=false:=by
 unfold mayS numsB
 simp only [Bool.and_eq_true,inN_iff,decide_eq_true_eq,disjB_iff,Bool.not_eq_true']
 constructor
 ·rintro ⟨a,b,c,d,⟨e,f,g,h,i⟩,j,k,l,m⟩; exact ⟨a,b,c,d,e,f,g,h,i,j,k,l,m⟩
 ·rintro ⟨a,b,c,d,e,f,g,h,i,j,k,l,m⟩; exact ⟨a,b,c,d,⟨e,f,g,h,i⟩,j,k,l,m⟩
theorem may_sok {x:State} {N:Nat} (h:mayS x=true) (hf:x.f.Ok) (hs:∀ i∈x.store,i.Ok) (ho:∀ i∈x.out,i.Ok) (hk:KT x.k N) (hi:IdsOk x.k):SOk x N:=by
 obtain ⟨a,b,c,d,e,f,g,h,i,j,k,l,m⟩:=mayS_iff.1 h
 have hsz:=(mayP_iff.1 a).1
 exact ⟨hf,by omega,may_ris b,may_ris c,f,j,fun y hy=>⟨hs y hy,may_all b y hy⟩,fun y hy=>⟨ho y hy,may_all c y hy⟩,hk,hi,g,h,i⟩
theorem SOk.stb {x:State} {N:Nat} (h:SOk x N) (hN:N≤90000):StB x:=by
 have:=h.le
 exact ⟨h.f,h.fs,fun i hi=>(h.is i hi).1,fun i hi=>(h.io i hi).1,by omega,by omega,h.kt.mono hN,h.ids⟩
theorem clone_s_of {α:Type} {l:List α} (h:l.length≤1000000):clone_s l=some l:=by unfold clone_s; rw [chk_t (decide_eq_true h)]
theorem fresh_state {x:State} {N:Nat} (h:SOk x N) (hN:N≤900000):fresh_State_s x=some x:=by
 have:=h.le
 unfold fresh_State_s
 rw [bnd_of (fresh_pred fuelR (by have:=h.fs; unfold fuelR; omega) h.fs),bnd_of (fresh_know_t h.kt hN),bnd_of (clone_s_of (by omega)),bnd_of (clone_s_of (by omega))]
theorem SOk.mono {x:State} {N M:Nat} (h:SOk x N) (hm:N≤M):SOk x M:={ h with kt:=h.kt.mono hm }
end
end Go.Proofs.YtidkmoohgadjkaaGreat
set_option maxHeartbeats 0
namespace Go.Proofs.YtidkmoohgadjkaaGreat
open Go E
noncomputable section
open Pred
def recv_Item_j2 (p1:Item) (y1:State) (y10:Bool):Option (State × Option Int) :=
 (bnd (know_With_s y1.k p1.id (Ver.mk p1.vr p1.vc)) fun y13 =>
  (bnd (list_Drop_s y1.store p1.id) fun y15 =>
   (bnd (list_Drop_s y1.out p1.id) fun y17 =>
    (br y10
     (bnd (list_Put_s y15 p1) fun y20 =>
      some ((State.mk y1.r y1.f y20 y17 y13 y1.count (maxI y1.clock p1.stamp) y1.epoch),none))
     (some ((State.mk y1.r y1.f y15 y17 y13 y1.count (maxI y1.clock p1.stamp) y1.epoch),none))))))
def recv_Item_j3 (p1:Item) (y1:State) (y10:Bool) (y24:Int):Option (State × Option Int) :=
 (bnd (know_With_s y1.k p1.id (Ver.mk p1.vr p1.vc)) fun y26 =>
  (br (!(ltI 0 y24))
   (some ((State.mk y1.r y1.f y1.store y1.out y26 y1.count (maxI y1.clock p1.stamp) y1.epoch),none))
   (bnd (list_Drop_s y1.store p1.id) fun y29 =>
    (bnd (list_Drop_s y1.out p1.id) fun y31 =>
     (br y10
      (bnd (list_Put_s y29 p1) fun y34 =>
       some ((State.mk y1.r y1.f y34 y31 y26 y1.count (maxI y1.clock p1.stamp) y1.epoch),none))
      (some ((State.mk y1.r y1.f y29 y31 y26 y1.count (maxI y1.clock p1.stamp) y1.epoch),none)))))))
def recv_Item_j1 (p1:Item) (y1:State):Option (State × Option Int) :=
 (bnd (know_Has_s y1.k p1.id (Ver.mk p1.vr p1.vc)) fun y3 =>
  (br y3
   (some (y1,none))
   (bnd (list_Both_s y1.store y1.out) fun y6 =>
    (bnd (list_Get_s y6 p1.id) fun y8 =>
     (bnd (eval_Has_s y1.f p1) fun y10 =>
      (br (!y8.2)
       (br y10
        (br (leI 40 (y6.length:Int))
         (some (y1,(some 4)))
         (recv_Item_j2 p1 y1 y10 ))
        (recv_Item_j2 p1 y1 y10 ))
       (bnd (item_Compare_s p1 y8.1) fun y24 =>
        (br y10
         (recv_Item_j3 p1 y1 y10 y24 )
         (recv_Item_j3 p1 y1 y10 y24 )))))))))
def recv_Item_s (p0:State) (p1:Item):Option (State × Option Int) :=
 (bnd (fresh_State_s p0) fun y1 =>
  (bnd (item_May_s p1) fun y37 =>
   (br (!y37)
    (some (y1,(some 1)))
    (br (eqI p1.vr y1.r)
     (br (ltI y1.count p1.vc)
      (some (y1,(some 1)))
      (recv_Item_j1 p1 y1 ))
     (recv_Item_j1 p1 y1 )))))
def recv_Goes_s (p0:State) (p1:ByteArray) (p2:Ver) (p3:Ver):Option (State) :=
 (bnd (fresh_State_s p0) fun y1 =>
  (bnd (list_Get_s y1.store p1) fun y3 =>
   (br (!y3.2)
    (some y1)
    (br (!(andB (eqI y3.1.vr p2.r) (andB (eqI y3.1.vc p2.c) true)))
     (some y1)
     (bnd (list_Drop_s y1.store p1) fun y7 =>
      (br (leI 1 p3.r)
       (br (leI p3.r 8)
        (br (leI 1 p3.c)
         (br (leI p3.c 1000)
          (br (!eqI p3.r y1.r)
           (bnd (know_With_s y1.k p1 p3) fun y14 =>
            some (State.mk y1.r y1.f y7 y1.out y14 y1.count y1.clock y1.epoch))
           (br (leI p3.c y1.count)
            (bnd (know_With_s y1.k p1 p3) fun y17 =>
             some (State.mk y1.r y1.f y7 y1.out y17 y1.count y1.clock y1.epoch))
            (some (State.mk y1.r y1.f y7 y1.out y1.k y1.count y1.clock y1.epoch))))
          (some (State.mk y1.r y1.f y7 y1.out y1.k y1.count y1.clock y1.epoch)))
         (some (State.mk y1.r y1.f y7 y1.out y1.k y1.count y1.clock y1.epoch)))
        (some (State.mk y1.r y1.f y7 y1.out y1.k y1.count y1.clock y1.epoch)))
       (some (State.mk y1.r y1.f y7 y1.out y1.k y1.count y1.clock y1.epoch))))))))
variable {X:Task→Prop} (hX:Closed X) {Q:A→List Blk→Prop}
include hX
theorem recv_Item_c  {p0:State} {p1:Item} {r:State × Option Int} (h:recv_Item_s p0 p1=some r) (hQ:Q (.tup [.agg (State.cs r.1),errA 159 r.2]) []):X (.call 33 [.agg (State.cs p0),.agg (Item.cs p1)] [] Q):=by
  have K:=fun a (e:some a=some r)=>ret_some (f:=fun y=>.tup [.agg (State.cs y.1),errA 159 y.2]) (g:=fun y=>[]) e hQ
  unfold recv_Item_s at h
  refine call_nz hX ?_
  conv=>whnf
  refine call_intro hX Tryz.func33 rfl rfl ?_
  replace h:=bnd_some h
  obtain ⟨y1,e2,h⟩:=h
  conv=>whnf
  repeat((first|refine dw ?_);conv=>whnf)
  refine fresh_State_c hX e2 ?_
  apply join0 (X:=X) (r:=r) (pad [(2,.one (.ptr 0 0)),(0,.one (.ptr 1 0)),(0,.one (.ptr 2 0))] 109) ([.box (State.cs y1),.box (Item.cs p1),.box [ic 0,ic 0,.p (.v (.string ⟨#[]⟩)),ic 0,.p (.v (.complex .f64 0 0)),.own 3,.own 4,.own 5,ic 0,ic 0,ic 0,ic 0,ic 0,ic 0,ic 0,ic 0,.own 6,ic 0,ic 0,ic 0],.rows 0 [],.rows 0 [],.rows 0 [],.rows 0 []])
  ·intro tl1
   replace h:=bnd_some h
   obtain ⟨y37,e38,h⟩:=h
   conv=>whnf
   repeat((first|refine dw ?_);conv=>whnf)
   refine item_May_c hX e38 ?_
   conv=>whnf
   repeat((first|refine dw ?_);conv=>whnf)
   refine br_some h (fun c39 g=>?_) (fun c39 g=>?_)
   ·replace h:=g
    clear g
    conv=>whnf
    repeat((first|refine dw ?_|refine bct c39 ?_);conv=>whnf)
    exact K _ h
   ·replace h:=g
    clear g
    conv=>whnf
    repeat((first|refine dw ?_|refine bcf c39 ?_);conv=>whnf)
    refine br_some h (fun c40 g=>?_) (fun c40 g=>?_)
    ·replace h:=g
     clear g
     conv=>whnf
     repeat((first|refine dw ?_|refine bct c40 ?_|refine bcf c39 ?_);conv=>whnf)
     refine br_some h (fun c41 g=>?_) (fun c41 g=>?_)
     ·replace h:=g
      clear g
      conv=>whnf
      repeat((first|refine dw ?_|refine bct c41 ?_);conv=>whnf)
      exact K _ h
     ·replace h:=g
      clear g
      conv=>whnf
      repeat((first|refine dw ?_|refine bcf c41 ?_);conv=>whnf)
      exact tl1.h  h
    ·replace h:=g
     clear g
     conv=>whnf
     repeat((first|refine dw ?_|refine bcf c40 ?_|refine bcf c39 ?_);conv=>whnf)
     exact tl1.h  h
  ·intro h
   unfold recv_Item_j1 at h
   refine rest_intro hX ?_
   replace h:=bnd_some h
   obtain ⟨y3,e4,h⟩:=h
   conv=>whnf
   repeat((first|refine dw ?_);conv=>whnf)
   refine know_Has_c hX e4 ?_
   conv=>whnf
   repeat((first|refine dw ?_);conv=>whnf)
   refine br_some h (fun c5 g=>?_) (fun c5 g=>?_)
   ·replace h:=g
    clear g
    conv=>whnf
    repeat((first|refine dw ?_|refine bct c5 ?_);conv=>whnf)
    exact K _ h
   ·replace h:=g
    clear g
    replace h:=bnd_some h
    obtain ⟨y6,e7,h⟩:=h
    conv=>whnf
    repeat((first|refine dw ?_|refine bcf c5 ?_);conv=>whnf)
    refine list_Both_c hX e7 ?_
    replace h:=bnd_some h
    obtain ⟨y8,e9,h⟩:=h
    conv=>whnf
    repeat((first|refine dw ?_);conv=>whnf)
    refine list_Get_c hX e9 ?_
    replace h:=bnd_some h
    obtain ⟨y10,e11,h⟩:=h
    conv=>whnf
    repeat((first|refine dw ?_);conv=>whnf)
    refine eval_Has_c hX e11 ?_
    conv=>whnf
    repeat((first|refine dw ?_);conv=>whnf)
    refine br_some h (fun c12 g=>?_) (fun c12 g=>?_)
    ·replace h:=g
     clear g
     apply join0 (X:=X) (r:=r) (pad [(2,.one (.ptr 0 0)),(0,.one (.ptr 1 0)),(0,.one (.ptr 2 0)),(4,.one (.p (.v (.bool y10)))),(0,.one (.p (.v (.bool true))))] 103) ([.box (State.cs y1),.box (Item.cs p1),.box [ic 0,ic 0,.p (.v (.string ⟨#[]⟩)),ic 0,.p (.v (.complex .f64 0 0)),.own 3,.own 4,.own 5,ic 0,ic 0,ic 0,ic 0,ic 0,ic 0,ic 0,ic 0,.own 6,ic 0,ic 0,ic 0],.rows 0 [],.rows 0 [],.rows 0 [],.rows 0 []])
     ·intro tl2
      conv=>whnf
      repeat((first|refine dw ?_|refine bct c12 ?_);conv=>whnf)
      refine br_some h (fun c22 g=>?_) (fun c22 g=>?_)
      ·replace h:=g
       clear g
       conv=>whnf
       repeat((first|refine dw ?_|refine bct c22 ?_|refine bct c12 ?_|refine eqv_to (map_len _) ?_);conv=>whnf)
       refine br_some h (fun c23 g=>?_) (fun c23 g=>?_)
       ·replace h:=g
        clear g
        conv=>whnf
        repeat((first|refine dw ?_|refine bct c23 ?_);conv=>whnf)
        exact K _ h
       ·replace h:=g
        clear g
        conv=>whnf
        repeat((first|refine dw ?_|refine bcf c23 ?_);conv=>whnf)
        exact tl2.h  h
      ·replace h:=g
       clear g
       conv=>whnf
       repeat((first|refine dw ?_|refine bcf c22 ?_);conv=>whnf)
       exact tl2.h  h
     ·intro h
      unfold recv_Item_j2 at h
      refine rest_intro hX ?_
      replace h:=bnd_some h
      obtain ⟨y13,e14,h⟩:=h
      conv=>whnf
      repeat((first|refine dw ?_);conv=>whnf)
      refine know_With_c hX e14 ?_
      replace h:=bnd_some h
      obtain ⟨y15,e16,h⟩:=h
      conv=>whnf
      repeat((first|refine dw ?_);conv=>whnf)
      refine list_Drop_c hX e16 ?_
      replace h:=bnd_some h
      obtain ⟨y17,e18,h⟩:=h
      conv=>whnf
      repeat((first|refine dw ?_);conv=>whnf)
      refine list_Drop_c hX e18 ?_
      conv=>whnf
      repeat((first|refine dw ?_);conv=>whnf)
      refine br_some h (fun c19 g=>?_) (fun c19 g=>?_)
      ·replace h:=g
       clear g
       replace h:=bnd_some h
       obtain ⟨y20,e21,h⟩:=h
       conv=>whnf
       repeat((first|refine dw ?_|refine bct c19 ?_);conv=>whnf)
       refine list_Put_c hX e21 ?_
       conv=>whnf
       repeat((first|refine dw ?_);conv=>whnf)
       exact K _ h
      ·replace h:=g
       clear g
       conv=>whnf
       repeat((first|refine dw ?_|refine bcf c19 ?_);conv=>whnf)
       exact K _ h
    ·replace h:=g
     clear g
     replace h:=bnd_some h
     obtain ⟨y24,e25,h⟩:=h
     conv=>whnf
     repeat((first|refine dw ?_|refine bcf c12 ?_);conv=>whnf)
     refine item_Compare_c hX e25 ?_
     apply join0 (X:=X) (r:=r) (pad [(2,.one (.ptr 0 0)),(0,.one (.ptr 1 0)),(0,.one (.ptr 2 0)),(4,.one (.p (.v (.bool y10)))),(0,.one (.p (.v (.bool (ltI 0 y24)))))] 103) ([.box (State.cs y1),.box (Item.cs p1),.box [ic 0,ic 0,.p (.v (.string ⟨#[]⟩)),ic 0,.p (.v (.complex .f64 0 0)),.own 3,.own 4,.own 5,ic 0,ic 0,ic 0,ic 0,ic 0,ic 0,ic 0,ic 0,.own 6,ic 0,ic 0,ic 0],.rows 0 [],.rows 0 [],.rows 0 [],.rows 0 []])
     ·intro tl3
      conv=>whnf
      repeat((first|refine dw ?_|refine bcf c12 ?_);conv=>whnf)
      refine br_some h (fun c36 g=>?_) (fun c36 g=>?_)
      ·replace h:=g
       clear g
       conv=>whnf
       repeat((first|refine dw ?_|refine bct c36 ?_|refine bcf c12 ?_);conv=>whnf)
       exact tl3.h  h
      ·replace h:=g
       clear g
       conv=>whnf
       repeat((first|refine dw ?_|refine bcf c36 ?_);conv=>whnf)
       exact tl3.h  h
     ·intro h
      unfold recv_Item_j3 at h
      refine rest_intro hX ?_
      replace h:=bnd_some h
      obtain ⟨y26,e27,h⟩:=h
      conv=>whnf
      repeat((first|refine dw ?_);conv=>whnf)
      refine know_With_c hX e27 ?_
      conv=>whnf
      repeat((first|refine dw ?_);conv=>whnf)
      refine br_some h (fun c28 g=>?_) (fun c28 g=>?_)
      ·replace h:=g
       clear g
       conv=>whnf
       repeat((first|refine dw ?_|refine bct c28 ?_);conv=>whnf)
       exact K _ h
      ·replace h:=g
       clear g
       replace h:=bnd_some h
       obtain ⟨y29,e30,h⟩:=h
       conv=>whnf
       repeat((first|refine dw ?_|refine bcf c28 ?_);conv=>whnf)
       refine list_Drop_c hX e30 ?_
       replace h:=bnd_some h
       obtain ⟨y31,e32,h⟩:=h
       conv=>whnf
       repeat((first|refine dw ?_);conv=>whnf)
       refine list_Drop_c hX e32 ?_
       conv=>whnf
       repeat((first|refine dw ?_);conv=>whnf)
       refine br_some h (fun c33 g=>?_) (fun c33 g=>?_)
       ·replace h:=g
        clear g
        replace h:=bnd_some h
        obtain ⟨y34,e35,h⟩:=h
        conv=>whnf
        repeat((first|refine dw ?_|refine bct c33 ?_);conv=>whnf)
        refine list_Put_c hX e35 ?_
        conv=>whnf
        repeat((first|refine dw ?_);conv=>whnf)
        exact K _ h
       ·replace h:=g
        clear g
        conv=>whnf
        repeat((first|refine dw ?_|refine bcf c33 ?_);conv=>whnf)
        exact K _ h
theorem recv_Goes_c  {p0:State} {p1:ByteArray} {p2:Ver} {p3:Ver} {r:State} (h:recv_Goes_s p0 p1 p2 p3=some r) (hQ:Q (.agg (State.cs r)) []):X (.call 37 [.agg (State.cs p0),.one (.p (.v (.string p1))),.agg (Ver.cs p2),.agg (Ver.cs p3)] [] Q):=by
  have K:=fun a (e:some a=some r)=>ret_some (f:=fun y=>.agg (State.cs y)) (g:=fun y=>[]) e hQ
  unfold recv_Goes_s at h
  refine call_nz hX ?_
  conv=>whnf
  refine call_intro hX Tryz.func37 rfl rfl ?_
  revert h
  refine bndk fun y1 e2 h=>?_
  conv=>whnf
  repeat((first|refine dw ?_);conv=>whnf)
  refine fresh_State_c hX e2 ?_
  revert h
  refine bndk fun y3 e4 h=>?_
  conv=>whnf
  repeat((first|refine dw ?_);conv=>whnf)
  refine list_Get_c hX e4 ?_
  conv=>whnf
  repeat((first|refine dw ?_);conv=>whnf)
  revert h
  refine brk (fun c5 h=>?_) (fun c5 h=>?_)
  ·conv=>whnf
   repeat((first|refine dw ?_|refine bct c5 ?_);conv=>whnf)
   exact K _ h
  ·conv=>whnf
   repeat((first|refine dw ?_|refine bcf c5 ?_);conv=>whnf)
   revert h
   refine brk (fun c6 h=>?_) (fun c6 h=>?_)
   ·conv=>whnf
    repeat((first|refine dw ?_|refine bct c6 ?_);conv=>whnf)
    exact K _ h
   ·revert h
    refine bndk fun y7 e8 h=>?_
    conv=>whnf
    repeat((first|refine dw ?_|refine bcf c6 ?_);conv=>whnf)
    refine list_Drop_c hX e8 ?_
    conv=>whnf
    repeat((first|refine dw ?_);conv=>whnf)
    revert h
    refine brk (fun c9 h=>?_) (fun c9 h=>?_)
    ·conv=>whnf
     repeat((first|refine dw ?_|refine bct c9 ?_);conv=>whnf)
     revert h
     refine brk (fun c10 h=>?_) (fun c10 h=>?_)
     ·conv=>whnf
      repeat((first|refine dw ?_|refine bct c10 ?_);conv=>whnf)
      revert h
      refine brk (fun c11 h=>?_) (fun c11 h=>?_)
      ·conv=>whnf
       repeat((first|refine dw ?_|refine bct c11 ?_);conv=>whnf)
       revert h
       refine brk (fun c12 h=>?_) (fun c12 h=>?_)
       ·conv=>whnf
        repeat((first|refine dw ?_|refine bct c12 ?_);conv=>whnf)
        revert h
        refine brk (fun c13 h=>?_) (fun c13 h=>?_)
        ·revert h
         refine bndk fun y14 e15 h=>?_
         conv=>whnf
         repeat((first|refine dw ?_|refine bct c13 ?_|refine bct c12 ?_);conv=>whnf)
         refine know_With_c hX e15 ?_
         conv=>whnf
         repeat((first|refine dw ?_);conv=>whnf)
         exact K _ h
        ·conv=>whnf
         repeat((first|refine dw ?_|refine bcf c13 ?_|refine bct c12 ?_);conv=>whnf)
         revert h
         refine brk (fun c16 h=>?_) (fun c16 h=>?_)
         ·revert h
          refine bndk fun y17 e18 h=>?_
          conv=>whnf
          repeat((first|refine dw ?_|refine bct c16 ?_);conv=>whnf)
          refine know_With_c hX e18 ?_
          conv=>whnf
          repeat((first|refine dw ?_);conv=>whnf)
          exact K _ h
         ·conv=>whnf
          repeat((first|refine dw ?_|refine bcf c16 ?_);conv=>whnf)
          exact K _ h
       ·conv=>whnf
        repeat((first|refine dw ?_|refine bcf c12 ?_);conv=>whnf)
        exact K _ h
      ·conv=>whnf
       repeat((first|refine dw ?_|refine bcf c11 ?_);conv=>whnf)
       exact K _ h
     ·conv=>whnf
      repeat((first|refine dw ?_|refine bcf c10 ?_);conv=>whnf)
      exact K _ h
    ·conv=>whnf
     repeat((first|refine dw ?_|refine bcf c9 ?_);conv=>whnf)
     exact K _ h
end
end Go.Proofs.YtidkmoohgadjkaaGreat
namespace Go.Proofs.YtidkmoohgadjkaaGreat
open Go E Pred
noncomputable section
open Classical
def errO (n:Int):Option Int:=if n=0 then none else some n
def newB (s:State) (x:Item):Bool:=match lk (bothV s.store s.out) x.id with
 | none=>true
 | some y=>behindB x y
def fullB (s:State) (x:Item):Bool:=newB s x&&(hasP s.f x&&((lk (bothV s.store s.out) x.id).isNone&&decide (s.store.length + s.out.length=40)))
def knownV (s:State) (x:Item):State:=⟨s.r,s.f,s.store,s.out,withK s.k x.id x.vr x.vc,s.count,maxI s.clock x.stamp,s.epoch⟩
def tookV (s:State) (x:Item):State:=⟨s.r,s.f,if hasP s.f x=true then putV (dropV s.store x.id) x else dropV s.store x.id,dropV s.out x.id,withK s.k x.id x.vr x.vc,s.count,maxI s.clock x.stamp,s.epoch⟩
def badB (s:State) (x:Item):Bool:=!mayI x || (eqI x.vr s.r&&ltI s.count x.vc)
def itemV (s:State) (x:Item):State × Int :=
 if badB s x=true then (s,1) else if hasK s.k x.id x.vr x.vc=true then (s,0) else if fullB s x=true then (s,4) else if newB s x=true then (tookV s x,0) else (knownV s x,0)
def goneB (s:State) (id:ByteArray) (or oc:Int):Bool:=match lk s.store id with
 | none=>false
 | some y=>eqI y.vr or&&eqI y.vc oc
def goesV (s:State) (id:ByteArray) (or oc nr nc:Int):State :=
 if goneB s id or oc=true then ⟨s.r,s.f,dropV s.store id,s.out,if verB nr nc=true∧(!eqI nr s.r || leI nc s.count)=true then withK s.k id nr nc else s.k,s.count,s.clock,s.epoch⟩ else s
theorem newB_n {s:State} {x:Item} (h:lk (bothV s.store s.out) x.id=none):newB s x=true:=by unfold newB; rw [h]
theorem newB_s {s:State} {x y:Item} (h:lk (bothV s.store s.out) x.id=some y):newB s x=behindB x y:=by unfold newB; rw [h]
theorem fullB_n {s:State} {x:Item} (h:lk (bothV s.store s.out) x.id=none):fullB s x=(hasP s.f x&&decide (s.store.length + s.out.length=40)):=by unfold fullB; rw [newB_n h,h]; rfl
theorem fullB_s {s:State} {x y:Item} (h:lk (bothV s.store s.out) x.id=some y):fullB s x=false:=by unfold fullB; rw [h]; simp
theorem goneB_n {s:State} {id:ByteArray} {or oc:Int} (h:lk s.store id=none):goneB s id or oc=false:=by unfold goneB; rw [h]
theorem goneB_s {s:State} {id:ByteArray} {or oc:Int} {y:Item} (h:lk s.store id=some y):goneB s id or oc=(eqI y.vr or&&eqI y.vc oc):=by unfold goneB; rw [h]
theorem imay_s {x:Item} (h:x.Ok):item_May_s x=some (mayI x):=by unfold item_May_s; rw [chk_t (decide_eq_true h)]
theorem both_len {x:State} {N:Nat} (h:SOk x N):(bothV x.store x.out).length=x.store.length + x.out.length:=len_both_dj h.dj
theorem len_drop (l:List Item) (id:ByteArray):(dropV l id).length≤l.length:=List.length_filter_le ..
theorem len_drop_lt:∀ {l:List Item} {id:ByteArray},(lk l id).isSome=true→(dropV l id).length < l.length
 | [],_,h=>by cases h
 | x::l,id,h=>by
  rw [lk_cons] at h
  unfold dropV
  rw [List.filter_cons]
  by_cases hx:eqS x.id id=true
  ·rw [if_neg (by rw [hx]; simp)]
   have:=len_drop l id
   unfold dropV at this
   rw [List.length_cons]; omega
  ·rw [if_neg hx] at h
   have:=len_drop_lt h
   unfold dropV at this
   split<;>simp only [List.length_cons]<;>omega
theorem recv_j2 {s:State} {x:Item} {N:Nat} (h:SOk s N) (hN:N≤90000) (hx:x.Ok):recv_Item_j2 x s (hasP s.f x)=some (tookV s x,none):=by
 have hl:=h.le
 have:=len_drop s.store x.id
 unfold recv_Item_j2 tookV
 rw [bnd_of (kwith_s h.kt (by omega) h.ids hx.id),bnd_of (ldrop_s h.rs (by omega)),bnd_of (ldrop_s h.ro (by omega)),bnd_of (lput_s (ris_drop h.rs _) (by omega))]
 cases hasP s.f x<;>rfl
theorem recv_j3 {s:State} {x:Item} {N:Nat} {n:Int} (h:SOk s N) (hN:N≤90000) (hx:x.Ok):recv_Item_j3 x s (hasP s.f x) n=some (if ltI 0 n=true then tookV s x else knownV s x,none):=by
 have hl:=h.le
 have:=len_drop s.store x.id
 unfold recv_Item_j3
 rw [bnd_of (kwith_s h.kt (by omega) h.ids hx.id),bnd_of (ldrop_s h.rs (by omega)),bnd_of (ldrop_s h.ro (by omega)),bnd_of (lput_s (ris_drop h.rs _) (by omega))]
 cases ltI 0 n with
 | false=>rfl
 | true=>unfold tookV; cases hasP s.f x<;>rfl
theorem recv_j1 {s:State} {x:Item} {N:Nat} (h:SOk s N) (hN:N≤90000) (hx:x.Ok) (hb:badB s x=false):recv_Item_j1 x s=some ((itemV s x).1,errO (itemV s x).2):=by
 have hl:=h.le
 have hlen:=both_len h
 unfold recv_Item_j1 itemV
 rw [hb,if_neg (by simp),bnd_of (khas_s (N:=N) (by omega) h.kt.kb)]
 cases hk:hasK s.k x.id x.vr x.vc with
 | true=>rfl
 | false =>
  rw [if_neg (by simp),br_f rfl,bnd_of (lboth_s (by omega)),bnd_of (lget_s (ris_both h.rs h.ro) (by omega)),bnd_of (has_s h.f hx)]
  cases hg:lk (bothV s.store s.out) x.id with
  | none =>
   rw [getI_f hg,hlen,fullB_n hg,newB_n hg]
   have e:leI 40 ((s.store.length + s.out.length:Nat):Int)=decide (s.store.length + s.out.length=40):=by
    by_cases h40:s.store.length + s.out.length=40
    ·rw [decide_eq_true h40]; exact leI_t.2 (by omega)
    ·rw [decide_eq_false h40]; exact leI_f.2 (by omega)
   rw [e,br_t (by rfl),recv_j2 h hN hx]
   cases hasP s.f x with
   | false=>rfl
   | true=>cases decide (s.store.length + s.out.length=40)<;>rfl
  | some y =>
   rw [getI_t hg,br_f (by rfl),fullB_s hg,newB_s hg]
   rw [bnd_of (show item_Compare_s x y=some (compareV x y) from rfl),recv_j3 h hN hx,cmp_pos,br_same]
   cases behindB x y<;>rfl
theorem recv_item {s:State} {x:Item} {N:Nat} (h:SOk s N) (hN:N≤90000) (hx:x.Ok):recv_Item_s s x=some ((itemV s x).1,errO (itemV s x).2):=by
 have key:badB s x=true→(itemV s x).1=s∧errO (itemV s x).2=some 1:=fun hb=>by unfold itemV; rw [if_pos hb]; exact ⟨rfl,rfl⟩
 unfold recv_Item_s
 rw [bnd_of (fresh_state h (by omega)),bnd_of (imay_s hx)]
 cases hm:mayI x with
 | false =>
  have:=key (by unfold badB; rw [hm]; rfl)
  rw [this.1,this.2]; rfl
 | true =>
  cases h1:eqI x.vr s.r with
  | false=>exact recv_j1 h hN hx (by unfold badB; rw [hm,h1]; rfl)
  | true =>
   cases h2:ltI s.count x.vc with
   | true =>
    have:=key (by unfold badB; rw [hm,h1,h2]; rfl)
    rw [this.1,this.2]; rfl
   | false=>exact recv_j1 h hN hx (by unfold badB; rw [hm,h1,h2]; rfl)
theorem rstands {s:State} {id:ByteArray} {N:Nat} (h:SOk s N):ref09_Stands_s s id=some (getI id (bothV s.store s.out)):=by
 have hl:=h.le
 have hlen:=both_len h
 unfold ref09_Stands_s
 rw [bnd_of (rboth_s h.rs h.ro (by omega)),bnd_of (get_s (by omega))]
theorem recv_goes {s:State} {id:ByteArray} {o n:Ver} {N:Nat} (h:SOk s N) (hN:N≤90000) (hid:id.size≤9223372036854775807):recv_Goes_s s id o n=some (goesV s id o.r o.c n.r n.c):=by
 have hl:=h.le
 unfold recv_Goes_s goesV
 rw [bnd_of (fresh_state h (by omega)),bnd_of (lget_s h.rs (by omega))]
 cases hg:lk s.store id with
 | none=>rw [getI_f hg,goneB_n hg]; rfl
 | some y =>
  rw [getI_t hg,goneB_s hg]
  have e:andB (eqI y.vr o.r) (andB (eqI y.vc o.c) true)=(eqI y.vr o.r&&eqI y.vc o.c):=by unfold andB; rw [Bool.and_true]
  rw [br_f (by rfl),e]
  cases hv:(eqI y.vr o.r&&eqI y.vc o.c) with
  | false=>rfl
  | true =>
   rw [br_f (by rfl),bnd_of (ldrop_s h.rs (by omega)),bnd_of (kwith_s h.kt (by omega) h.ids hid),if_pos rfl]
   unfold verB inN
   cases leI 1 n.r with
   | false=>simp [br]
   | true=>cases leI n.r 8 with
    | false=>simp [br]
    | true=>cases leI 1 n.c with
     | false=>simp [br]
     | true=>cases leI n.c 1000 with
      | false=>simp [br]
      | true=>cases eqI n.r s.r<;>cases leI n.c s.count<;>simp [br]
theorem ok_took {s:State} {x:Item} {N:Nat} (h:SOk s N) (hx:x.Ok) (hm:mayI x=true) (hfull:hasP s.f x=true→(lk (bothV s.store s.out) x.id).isNone=true→s.store.length + s.out.length≠40):SOk (tookV s x) (N + 1):=by
 have hl:=h.le
 have e1:=len_drop s.store x.id
 have e2:=len_drop s.out x.id
 have hst:inN x.stamp 1 1000000=true:=by unfold mayI at hm; simp only [Bool.and_eq_true] at hm; exact hm.2.2.1.1
 rw [inN_iff] at hst
 have hcl:0≤maxI s.clock x.stamp∧maxI s.clock x.stamp≤1000000:=by have:=h.cl; unfold maxI; split<;>omega
 have kt:=kt_with h.kt x.id x.vr x.vc
 have ids:=ids_with (r:=x.vr) (c:=x.vc) h.ids hx.id
 have md:∀ i∈dropV s.store x.id,i.Ok∧mayI i=true:=fun i hi=>h.is i (mem_drop hi)
 have mo:∀ i∈dropV s.out x.id,i.Ok∧mayI i=true:=fun i hi=>h.io i (mem_drop hi)
 unfold tookV
 by_cases hp:hasP s.f x=true
 ·rw [if_pos hp]
  have e3:=len_put1 (ris_drop h.rs x.id) x
  refine ⟨h.f,h.fs,ris_put (ris_drop h.rs _) x,ris_drop h.ro _,?_,fun id hid=>?_,fun i hi=>?_,mo,kt,ids,h.cn,hcl,h.ep⟩
  ·show (putV (dropV s.store x.id) x).length + (dropV s.out x.id).length≤40
   cases hg:lk (bothV s.store s.out) x.id with
   | none=>have:=hfull hp (by rw [hg]; rfl); omega
   | some y =>
    rw [lk_both h.rs h.ro] at hg
    cases h1:lk s.store x.id with
    | some z=>have:=len_drop_lt (l:=s.store) (id:=x.id) (by rw [h1]; rfl); omega
    | none =>
     rw [h1] at hg
     have:=len_drop_lt (l:=s.out) (id:=x.id) (by rw [show lk s.out x.id=some y from hg]; rfl)
     omega
  ·show lk (dropV s.out x.id) id=none
   rw [lk_drop]
   split
   ·rfl
   ·rename_i hne
    have hid':(lk (putV (dropV s.store x.id) x) id).isSome=true:=hid
    rw [lk_put,if_neg hne,lk_drop,if_neg hne] at hid'
    exact h.dj id hid'
  ·rcases mem_put hi with rfl | hi
   ·exact ⟨hx,hm⟩
   ·exact md i hi
 ·rw [if_neg hp]
  refine ⟨h.f,h.fs,ris_drop h.rs _,ris_drop h.ro _,by simp only []; omega,fun id hid=>?_,md,mo,kt,ids,h.cn,hcl,h.ep⟩
  show lk (dropV s.out x.id) id=none
  rw [lk_drop]
  split
  ·rfl
  ·rename_i hne
   have hid':(lk (dropV s.store x.id) id).isSome=true:=hid
   rw [lk_drop,if_neg hne] at hid'
   exact h.dj id hid'
theorem ok_known {s:State} {x:Item} {N:Nat} (h:SOk s N) (hx:x.Ok) (hm:mayI x=true):SOk (knownV s x) (N + 1):=by
 have hst:inN x.stamp 1 1000000=true:=by unfold mayI at hm; simp only [Bool.and_eq_true] at hm; exact hm.2.2.1.1
 rw [inN_iff] at hst
 exact ⟨h.f,h.fs,h.rs,h.ro,h.le,h.dj,h.is,h.io,kt_with h.kt x.id x.vr x.vc,ids_with h.ids hx.id,h.cn,by have:=h.cl; show 0≤maxI s.clock x.stamp∧maxI s.clock x.stamp≤1000000; unfold maxI; split<;>omega,h.ep⟩
theorem ok_item {s:State} {x:Item} {N:Nat} (h:SOk s N) (hx:x.Ok):SOk (itemV s x).1 (N + 1):=by
 unfold itemV
 by_cases hb:badB s x=true
 ·rw [if_pos hb]; exact h.mono (by omega)
 ·rw [if_neg hb]
  have hm:mayI x=true:=by
   unfold badB at hb
   cases hm:mayI x with
   | true=>rfl
   | false=>rw [hm] at hb; exact absurd rfl hb
  by_cases hk:hasK s.k x.id x.vr x.vc=true
  ·rw [if_pos hk]; exact h.mono (by omega)
  ·rw [if_neg hk]
   by_cases hf:fullB s x=true
   ·rw [if_pos hf]; exact h.mono (by omega)
   ·rw [if_neg hf]
    by_cases hn:newB s x=true
    ·rw [if_pos hn]
     refine ok_took h hx hm fun h1 h2 h3=>hf ?_
     unfold fullB; rw [hn,h1,h2,decide_eq_true h3]; rfl
    ·rw [if_neg hn]; exact ok_known h hx hm
theorem ok_goes {s:State} {id:ByteArray} {or oc nr nc:Int} {N:Nat} (h:SOk s N) (hid:id.size≤9223372036854775807):SOk (goesV s id or oc nr nc) (N + 1):=by
 have hl:=h.le
 have e1:=len_drop s.store id
 unfold goesV
 split
 ·refine ⟨h.f,h.fs,ris_drop h.rs _,h.ro,by simp only []; omega,fun i hi=>?_,fun i hi=>h.is i (mem_drop hi),h.io,?_,?_,h.cn,h.cl,h.ep⟩
  ·have hi':(lk (dropV s.store id) i).isSome=true:=hi
   rw [lk_drop] at hi'
   split at hi'
   ·cases hi'
   ·exact h.dj i hi'
  ·show KT (if _ then _ else _) _
   split
   ·exact kt_with h.kt ..
   ·exact h.kt.mono (by omega)
  ·show IdsOk (if _ then _ else _)
   split
   ·exact ids_with h.ids hid
   ·exact h.ids
 ·exact h.mono (by omega)
end
end Go.Proofs.YtidkmoohgadjkaaGreat
namespace Go.Proofs.YtidkmoohgadjkaaGreat
open Go E Pred
noncomputable section
open Classical
def state0:State:=⟨0,.mk 0 ⟨#[]⟩ 0 0 0 [],[],[],⟨zero8,[]⟩,0,0,0⟩
def newS (r:Int) (f:Pred):State:=⟨r,f,[],[],⟨zero8,[]⟩,0,0,0⟩
def newV (r:Int) (f:Pred):State × Int:=if inN r 1 8&&mayP f then (newS r f,0) else (state0,1)
theorem lnew_s {r:Int} {f:Pred} (h:f.Ok) (hs:f.size≤1000):local_New_s r f=some ((newV r f).1,errO (newV r f).2):=by
 unfold local_New_s newV
 rw [bnd_of (pmay_s h),bnd_of (fresh_pred fuelR (by unfold fuelR; omega) hs),ltn,ltn]
 unfold inN
 cases leI 1 r<;>cases leI r 8<;>cases mayP f<;>rfl
theorem lk_both_dj {s:State} {N:Nat} (h:SOk s N) (id:ByteArray):lk (bothV s.store s.out) id=(lk s.store id).or (lk s.out id):=by
 rw [lk_both h.rs h.ro]
 cases h1:lk s.store id with
 | none=>exact newer_none' _
 | some x=>rw [h.dj id (by rw [h1]; rfl)]; rfl
where newer_none' (o:Option Item):newer none o=(none:Option Item).or o:=by cases o<;>rfl
theorem lstands {s:State} {id:ByteArray} {N:Nat} (h:SOk s N):local_stands_s s id=some (getI id (bothV s.store s.out)):=by
 have hl:=h.le
 unfold local_stands_s
 rw [bnd_of (lget_s h.rs (by omega)),bnd_of (lget_s h.ro (by omega))]
 have e:=lk_both_dj h id
 cases h1:lk s.store id with
 | none =>
  rw [getI_f h1,br_f (by rfl)]
  rw [h1] at e
  cases h2:lk s.out id with
  | none=>rw [h2] at e; rw [getI_f h2,getI_f e]
  | some y=>rw [h2] at e; rw [getI_t h2,getI_t e]
 | some x =>
  rw [h1] at e
  rw [getI_t h1,getI_t e]; rfl
def verI (s:State) (x:Item):Item:=⟨x.id,s.r,s.count + 1,s.clock + 1,x.kind,x.num,x.re,x.im,x.dead⟩
def madeV (s:State) (x:Item):State :=
 ⟨s.r,s.f,if hasP s.f (verI s x)=true then putV (dropV s.store x.id) (verI s x) else dropV s.store x.id,if hasP s.f (verI s x)=true then dropV s.out x.id else putV (dropV s.out x.id) (verI s x),ownK s.k x.id s.r (s.count + 1),s.count + 1,s.clock + 1,s.epoch⟩
def makeV (s:State) (x:Item):State × Int:=if eqI s.count 1000 || eqI s.clock 1000000 then (s,5) else (madeV s x,0)
theorem wr1 {n:Int} (h:0≤n∧n≤1000000):wr .i64 (n + 1)=n + 1:=wr64 (by omega) (by omega)
theorem le_eq {n m:Int} (h:n≤m):leI m n=eqI n m:=by
 by_cases e:n=m
 ·subst e; rw [eqI_t.2 rfl]; exact leI_t.2 (Int.le_refl _)
 ·rw [eqI_f.2 e]; exact leI_f.2 (by omega)
theorem ok_ver {s:State} {x:Item} {N:Nat} (h:SOk s N) (hr:1≤s.r∧s.r≤8) (hx:x.Ok):(verI s x).Ok:=by
 have h1:=h.cn
 have h2:=h.cl
 exact ⟨hx.id,hx.kind,⟨by show _≤s.r; omega,by show s.r≤_; omega⟩,⟨by show _≤s.count + 1; omega,by show s.count + 1≤_; omega⟩,⟨by show _≤s.clock + 1; omega,by show s.clock + 1≤_; omega⟩,hx.num⟩
theorem lversion {s:State} {x:Item} {N:Nat} (h:SOk s N) (hN:N≤90000) (hr:1≤s.r∧s.r≤8) (hx:x.Ok):local_version_s s x=some ((makeV s x).1,errO (makeV s x).2):=by
 have hl:=h.le
 have e1:=len_drop s.store x.id
 have e2:=len_drop s.out x.id
 have hc:=h.cn
 have hk:=h.cl
 unfold local_version_s makeV
 rw [bnd_of (fresh_state h (by omega)),bnd_of (fresh_state h (by omega)),le_eq hc.2,le_eq hk.2]
 cases eqI s.count 1000 with
 | true=>rfl
 | false =>
  cases eqI s.clock 1000000 with
  | true=>rfl
  | false =>
   rw [br_f rfl,br_f rfl,wr1 (by omega),wr1 hk]
   have hv:=ok_ver h hr hx
   rw [bnd_of (kown_s h.kt (by omega) h.ids hx.id),bnd_of (ldrop_s h.rs (by omega)),bnd_of (ldrop_s h.ro (by omega)),bnd_of (show eval_Has_s s.f ⟨x.id,s.r,s.count + 1,s.clock + 1,x.kind,x.num,x.re,x.im,x.dead⟩=some (hasP s.f (verI s x)) from has_s h.f hv),
    bnd_of (lput_s (ris_drop h.rs _) (by omega)),bnd_of (lput_s (ris_drop h.ro _) (by omega))]
   unfold madeV
   cases hasP s.f (verI s x)<;>rfl
theorem dj_made {s:State} {y:Item} {id:ByteArray} {b:Bool} (h:Dj s.store s.out) (e:y.id=id):Dj (if b=true then putV (dropV s.store id) y else dropV s.store id) (if b=true then dropV s.out id else putV (dropV s.out id) y):=by
 intro i hi
 subst e
 cases b with
 | true =>
  simp only [if_true] at hi ⊢
  rw [lk_drop]
  split
  ·rfl
  ·rename_i hne
   rw [lk_put,if_neg hne,lk_drop,if_neg hne] at hi
   exact h i hi
 | false =>
  simp only [Bool.false_eq_true,if_false] at hi ⊢
  rw [lk_drop] at hi
  split at hi
  ·cases hi
  ·rename_i hne
   rw [lk_put,if_neg hne,lk_drop,if_neg hne]
   exact h i hi
theorem ok_made {s:State} {x:Item} {N:Nat} (h:SOk s N) (hr:1≤s.r∧s.r≤8) (hx:x.Ok) (hm:mayI (verI s x)=true) (hc:s.count < 1000) (hk:s.clock < 1000000) (hfull:(lk (bothV s.store s.out) x.id).isNone=true→s.store.length + s.out.length < 40):SOk (madeV s x) (N + 1):=by
 have hl:=h.le
 have e1:=len_drop s.store x.id
 have e2:=len_drop s.out x.id
 have hcn:=h.cn
 have hcl:=h.cl
 have hv:=ok_ver h hr hx
 have kt:=kt_own h.kt x.id s.r (s.count + 1)
 have ids:=ids_own (r:=s.r) (c:=s.count + 1) h.ids hx.id
 have md:∀ i∈dropV s.store x.id,i.Ok∧mayI i=true:=fun i hi=>h.is i (mem_drop hi)
 have mo:∀ i∈dropV s.out x.id,i.Ok∧mayI i=true:=fun i hi=>h.io i (mem_drop hi)
 have hdj:=dj_made (y:=verI s x) (id:=x.id) (b:=hasP s.f (verI s x)) h.dj rfl
 have hsum:(dropV s.store x.id).length + (dropV s.out x.id).length < 40:=by
  cases hg:lk (bothV s.store s.out) x.id with
  | none=>have:=hfull (by rw [hg]; rfl); omega
  | some y =>
   rw [lk_both h.rs h.ro] at hg
   cases h1:lk s.store x.id with
   | some z=>have:=len_drop_lt (l:=s.store) (id:=x.id) (by rw [h1]; rfl); omega
   | none =>
    rw [h1] at hg
    have:=len_drop_lt (l:=s.out) (id:=x.id) (by rw [show lk s.out x.id=some y from hg]; rfl)
    omega
 have p1:=len_put1 (ris_drop h.rs x.id) (verI s x)
 have p2:=len_put1 (ris_drop h.ro x.id) (verI s x)
 refine ⟨h.f,h.fs,?_,?_,?_,hdj,?_,?_,kt,ids,by show 0≤s.count + 1∧s.count + 1≤1000; omega,by show 0≤s.clock + 1∧s.clock + 1≤1000000; omega,h.ep⟩
 ·show Ris (if _ then _ else _)
  split
  ·exact ris_put (ris_drop h.rs _) _
  ·exact ris_drop h.rs _
 ·show Ris (if _ then _ else _)
  split
  ·exact ris_drop h.ro _
  ·exact ris_put (ris_drop h.ro _) _
 ·unfold madeV
  simp only []
  split<;>omega
 ·intro i hi
  unfold madeV at hi
  simp only [] at hi
  split at hi
  ·rcases mem_put hi with rfl | hi
   ·exact ⟨hv,hm⟩
   ·exact md i hi
  ·exact md i hi
 ·intro i hi
  unfold madeV at hi
  simp only [] at hi
  split at hi
  ·exact mo i hi
  ·rcases mem_put hi with rfl | hi
   ·exact ⟨hv,hm⟩
   ·exact mo i hi
def shapeI (id kind:ByteArray) (num:Int) (re im:Nat):Item:=⟨id,1,1,1,kind,num,re,im,false⟩
def createV (s:State) (id kind:ByteArray) (num:Int) (re im:Nat):State × Int :=
 if (!mayI (shapeI id kind num re im))=true then (s,1) else match lk (bothV s.store s.out) id with
 | none=>if s.store.length + s.out.length=40 then (s,4) else makeV s (shapeI id kind num re im)
 | some y=>if y.dead=true then makeV s (shapeI id kind num re im) else (s,3)
def updateV (s:State) (id kind:ByteArray) (num:Int) (re im:Nat):State × Int :=
 if (!mayI (shapeI id kind num re im))=true then (s,1) else match lk (bothV s.store s.out) id with
 | none=>(s,2)
 | some y=>if y.dead=true then (s,2) else makeV s (shapeI id kind num re im)
def deadI (y:Item):Item:=⟨y.id,y.vr,y.vc,y.stamp,y.kind,y.num,y.re,y.im,true⟩
def deleteV (s:State) (id:ByteArray):State × Int :=
 if (!lettersB id 1)=true then (s,1) else match lk (bothV s.store s.out) id with
 | none=>(s,2)
 | some y=>if y.dead=true then (s,2) else makeV s (deadI y)
theorem verI_cng {s:State} {x y:Item} (h1:x.id=y.id) (h2:x.kind=y.kind) (h3:x.num=y.num) (h4:x.re=y.re) (h5:x.im=y.im) (h6:x.dead=y.dead):makeV s x=makeV s y:=by
 unfold makeV madeV verI; rw [h1,h2,h3,h4,h5,h6]
theorem bndE_err {x:Option (State × Option Int)} {r:State × Int} (h:x=some (r.1,errO r.2)):bndE x (fun y n=>some (y,some n)) (fun y=>some (y,none))=some (r.1,errO r.2):=by
 rw [h]; cases errO r.2<;>rfl
theorem shape_ok {id kind:ByteArray} {num:Int} {re im:Nat} (h1:id.size≤9223372036854775807) (h2:kind.size≤9223372036854775807) (h3 : -9223372036854775808≤num∧num≤9223372036854775807) (v:Int × Int × Int) (hv:(0≤v.1∧v.1≤1)∧(0≤v.2.1∧v.2.1≤1)∧(0≤v.2.2∧v.2.2≤1)):(⟨id,v.1,v.2.1,v.2.2,kind,num,re,im,false⟩:Item).Ok :=
 ⟨h1,h2,⟨by show _≤v.1; omega,by show v.1≤_; omega⟩,⟨by show _≤v.2.1; omega,by show v.2.1≤_; omega⟩,⟨by show _≤v.2.2; omega,by show v.2.2≤_; omega⟩,h3⟩
theorem might_s {x:Item} (h:(⟨x.id,1,1,1,x.kind,x.num,x.re,x.im,x.dead⟩:Item).Ok):local_might_s x=some (mayI ⟨x.id,1,1,1,x.kind,x.num,x.re,x.im,x.dead⟩):=by
 unfold local_might_s; rw [bnd_of (imay_s h)]
theorem lsum {s:State} {N:Nat} (h:SOk s N):wr .i64 ((s.store.length:Int) + (s.out.length:Int))=((s.store.length + s.out.length:Nat):Int):=by have:=h.le; rw [wr64 (by omega) (by omega)]; omega
section
variable {s:State} {id kind:ByteArray} {num:Int} {re im:Nat} {N:Nat} (h:SOk s N) (hN:N≤90000) (hr:1≤s.r∧s.r≤8) (h1:id.size≤9223372036854775807)
include h hN hr h1
theorem lcreate (h2:kind.size≤9223372036854775807) (h3 : -9223372036854775808≤num∧num≤9223372036854775807):local_Create_s s id kind num re im=some ((createV s id kind num re im).1,errO (createV s id kind num re im).2):=by
 have hl:=h.le
 have o1:(shapeI id kind num re im).Ok:=shape_ok h1 h2 h3 (1,1,1) (by decide)
 have o0:(⟨id,0,0,0,kind,num,re,im,false⟩:Item).Ok:=shape_ok h1 h2 h3 (0,0,0) (by decide)
 have hj:local_Create_j1 s id kind num re im=some ((makeV s (shapeI id kind num re im)).1,errO (makeV s (shapeI id kind num re im)).2):=by
  unfold local_Create_j1
  exact bndE_err (by rw [lversion h hN hr o0,verI_cng (x:=⟨id,0,0,0,kind,num,re,im,false⟩) (y:=shapeI id kind num re im) rfl rfl rfl rfl rfl rfl])
 unfold local_Create_s createV
 rw [bnd_of (lstands h),bnd_of (might_s (x:=⟨id,0,0,0,kind,num,re,im,false⟩) o1),hj,lsum h,bnd_of (fresh_state h (by omega)),bnd_of (fresh_state h (by omega)),bnd_of (fresh_state h (by omega))]
 show br (!mayI (shapeI id kind num re im)) _ _=_
 cases mayI (shapeI id kind num re im) with
 | false=>rfl
 | true =>
  rw [br_f (by rfl),if_neg (by simp)]
  cases hg:lk (bothV s.store s.out) id with
  | none =>
   rw [getI_f hg,br_f (by rfl),br_t (by rfl)]
   by_cases h40:s.store.length + s.out.length=40
   ·rw [br_t (leI_t.2 (by omega))]; simp only [if_pos h40]; rfl
   ·rw [br_f (leI_f.2 (by omega))]; simp only [if_neg h40]
  | some y =>
   rw [getI_t hg]
   dsimp only
   cases y.dead<;>rfl
theorem lupdate (h2:kind.size≤9223372036854775807) (h3 : -9223372036854775808≤num∧num≤9223372036854775807):local_Update_s s id kind num re im=some ((updateV s id kind num re im).1,errO (updateV s id kind num re im).2):=by
 have hl:=h.le
 have o1:(shapeI id kind num re im).Ok:=shape_ok h1 h2 h3 (1,1,1) (by decide)
 have o0:(⟨id,0,0,0,kind,num,re,im,false⟩:Item).Ok:=shape_ok h1 h2 h3 (0,0,0) (by decide)
 have hj:bndE (local_version_s s ⟨id,0,0,0,kind,num,re,im,false⟩) (fun y n=>some (y,some n)) (fun y=>some (y,none))=some ((makeV s (shapeI id kind num re im)).1,errO (makeV s (shapeI id kind num re im)).2) :=
  bndE_err (by rw [lversion h hN hr o0,verI_cng (x:=⟨id,0,0,0,kind,num,re,im,false⟩) (y:=shapeI id kind num re im) rfl rfl rfl rfl rfl rfl])
 unfold local_Update_s updateV
 rw [bnd_of (might_s (x:=⟨id,0,0,0,kind,num,re,im,false⟩) o1),bnd_of (lstands h),bnd_of (fresh_state h (by omega)),bnd_of (fresh_state h (by omega))]
 show br (!mayI (shapeI id kind num re im)) _ _=_
 cases mayI (shapeI id kind num re im) with
 | false=>rfl
 | true =>
  rw [br_f (by rfl),if_neg (by simp)]
  cases hg:lk (bothV s.store s.out) id with
  | none=>rw [getI_f hg]; rfl
  | some y =>
   rw [getI_t hg]
   dsimp only
   cases y.dead with
   | true=>rfl
   | false=>exact hj
theorem ldelete:local_Delete_s s id=some ((deleteV s id).1,errO (deleteV s id).2):=by
 have hl:=h.le
 unfold local_Delete_s deleteV
 rw [bnd_of (show item_Name_s id=some (lettersB id 1) by unfold item_Name_s; rw [chk_t (decide_eq_true h1)]),bnd_of (lstands h),bnd_of (fresh_state h (by omega)),bnd_of (fresh_state h (by omega))]
 cases lettersB id 1 with
 | false=>rfl
 | true =>
  rw [br_f (by rfl),if_neg (by simp)]
  cases hg:lk (bothV s.store s.out) id with
  | none=>rw [getI_f hg]; rfl
  | some y =>
   rw [getI_t hg]
   have hy:y.Ok:=by
    rw [lk_both h.rs h.ro] at hg
    cases e1:lk s.store id with
    | some z =>
     rw [e1] at hg
     have hz:=h.is z (lk_some e1).1
     rw [h.dj id (by rw [e1]; rfl)] at hg
     injection hg with hg; rw [←hg]; exact hz.1
    | none =>
     rw [e1] at hg
     exact (h.io y (lk_some (show lk s.out id=some y from hg)).1).1
   dsimp only
   cases hd:y.dead with
   | true=>rfl
   | false =>
    have hd':(deadI y).Ok:=⟨hy.id,hy.kind,hy.vr,hy.vc,hy.stamp,hy.num⟩
    refine (br_f (by rfl)).trans ((br_f rfl).trans ?_)
    exact bndE_err (x:=local_version_s s (deadI y)) (lversion h hN hr hd')
end
end
end Go.Proofs.YtidkmoohgadjkaaGreat
set_option maxHeartbeats 0
namespace Go.Proofs.YtidkmoohgadjkaaGreat
open Go E
noncomputable section
open Pred
def law00_Code_s (p0:Option Int):Option (Int) :=
  (opt p0 (fun en =>
  (br (eqI en 1)
   (some 1)
   (br (eqI en 2)
    (some 2)
    (br (eqI en 3)
     (some 3)
     (br (eqI en 4)
      (some 4)
      (br (eqI en 5)
       (some 5)
       (br (eqI en 6)
        (some 6)
        (br (eqI en 7)
         (some 7)
         (br (eqI en 8)
          (some 8)
          (br (eqI en 9)
           (some 9)
           (br (eqI en 10)
            (some 10)
            (some (-1)))))))))))))
  (some 0))
def law00_Pick_s (p0:Int) (p1:Int):Option (Int) :=
 (chk (!eqI p1 0)
  (br (ltI (tmodI p0 p1) 0)
   (some (wr .i64 ((tmodI p0 p1) + p1)))
   (some (tmodI p0 p1))))
variable {X:Task→Prop} (hX:Closed X) {Q:A→List Blk→Prop}
include hX
theorem law00_Code_c  {p0:Option Int} {r:Int} (h:law00_Code_s p0=some r) (hQ:Q (iv r) []):X (.call 36 [errA 159 p0] [] Q):=by
  have K:=fun a (e:some a=some r)=>ret_some (f:=fun y=>iv y) (g:=fun y=>[]) e hQ
  unfold law00_Code_s at h
  cases p0 with
  | none =>
    replace h:=opt_no h
    refine call_intro hX Tryz.func36 rfl rfl ?_
    conv=>whnf
    repeat((first|refine dw ?_);conv=>whnf)
    exact K _ h
  | some en =>
    replace h:=opt_so h
    refine call_intro hX Tryz.func36 rfl rfl ?_
    conv=>whnf
    repeat((first|refine dw ?_);conv=>whnf)
    refine loop_intro hX ?_
    conv=>whnf
    repeat((first|refine dw ?_);conv=>whnf)
    revert h
    refine brk (fun c1 h=>?_) (fun c1 h=>?_)
    ·conv=>whnf
     repeat((first|refine dw ?_|refine bct c1 ?_);conv=>whnf)
     exact K _ h
    ·conv=>whnf
     repeat((first|refine dw ?_|refine bcf c1 ?_);conv=>whnf)
     refine loop_intro hX ?_
     conv=>whnf
     repeat((first|refine dw ?_);conv=>whnf)
     revert h
     refine brk (fun c2 h=>?_) (fun c2 h=>?_)
     ·conv=>whnf
      repeat((first|refine dw ?_|refine bct c2 ?_);conv=>whnf)
      exact K _ h
     ·conv=>whnf
      repeat((first|refine dw ?_|refine bcf c2 ?_);conv=>whnf)
      refine loop_intro hX ?_
      conv=>whnf
      repeat((first|refine dw ?_);conv=>whnf)
      revert h
      refine brk (fun c3 h=>?_) (fun c3 h=>?_)
      ·conv=>whnf
       repeat((first|refine dw ?_|refine bct c3 ?_);conv=>whnf)
       exact K _ h
      ·conv=>whnf
       repeat((first|refine dw ?_|refine bcf c3 ?_);conv=>whnf)
       refine loop_intro hX ?_
       conv=>whnf
       repeat((first|refine dw ?_);conv=>whnf)
       revert h
       refine brk (fun c4 h=>?_) (fun c4 h=>?_)
       ·conv=>whnf
        repeat((first|refine dw ?_|refine bct c4 ?_);conv=>whnf)
        exact K _ h
       ·conv=>whnf
        repeat((first|refine dw ?_|refine bcf c4 ?_);conv=>whnf)
        refine loop_intro hX ?_
        conv=>whnf
        repeat((first|refine dw ?_);conv=>whnf)
        revert h
        refine brk (fun c5 h=>?_) (fun c5 h=>?_)
        ·conv=>whnf
         repeat((first|refine dw ?_|refine bct c5 ?_);conv=>whnf)
         exact K _ h
        ·conv=>whnf
         repeat((first|refine dw ?_|refine bcf c5 ?_);conv=>whnf)
         refine loop_intro hX ?_
         conv=>whnf
         repeat((first|refine dw ?_);conv=>whnf)
         revert h
         refine brk (fun c6 h=>?_) (fun c6 h=>?_)
         ·conv=>whnf
          repeat((first|refine dw ?_|refine bct c6 ?_);conv=>whnf)
          exact K _ h
         ·conv=>whnf
          repeat((first|refine dw ?_|refine bcf c6 ?_);conv=>whnf)
          refine loop_intro hX ?_
          conv=>whnf
          repeat((first|refine dw ?_);conv=>whnf)
          revert h
          refine brk (fun c7 h=>?_) (fun c7 h=>?_)
          ·conv=>whnf
           repeat((first|refine dw ?_|refine bct c7 ?_);conv=>whnf)
           exact K _ h
          ·conv=>whnf
           repeat((first|refine dw ?_|refine bcf c7 ?_);conv=>whnf)
           refine loop_intro hX ?_
           conv=>whnf
           repeat((first|refine dw ?_);conv=>whnf)
           revert h
           refine brk (fun c8 h=>?_) (fun c8 h=>?_)
           ·conv=>whnf
            repeat((first|refine dw ?_|refine bct c8 ?_);conv=>whnf)
            exact K _ h
           ·conv=>whnf
            repeat((first|refine dw ?_|refine bcf c8 ?_);conv=>whnf)
            refine loop_intro hX ?_
            conv=>whnf
            repeat((first|refine dw ?_);conv=>whnf)
            revert h
            refine brk (fun c9 h=>?_) (fun c9 h=>?_)
            ·conv=>whnf
             repeat((first|refine dw ?_|refine bct c9 ?_);conv=>whnf)
             exact K _ h
            ·conv=>whnf
             repeat((first|refine dw ?_|refine bcf c9 ?_);conv=>whnf)
             refine loop_intro hX ?_
             conv=>whnf
             repeat((first|refine dw ?_);conv=>whnf)
             revert h
             refine brk (fun c10 h=>?_) (fun c10 h=>?_)
             ·conv=>whnf
              repeat((first|refine dw ?_|refine bct c10 ?_);conv=>whnf)
              exact K _ h
             ·conv=>whnf
              repeat((first|refine dw ?_|refine bcf c10 ?_);conv=>whnf)
              refine loop_intro hX ?_
              conv=>whnf
              repeat((first|refine dw ?_);conv=>whnf)
              exact K _ h
theorem law00_Pick_c  {p0:Int} {p1:Int} {r:Int} (h:law00_Pick_s p0 p1=some r) (hQ:Q (iv r) []):X (.call 48 [iv p0,iv p1] [] Q):=by
  have K:=fun a (e:some a=some r)=>ret_some (f:=fun y=>iv y) (g:=fun y=>[]) e hQ
  unfold law00_Pick_s at h
  refine call_intro hX Tryz.func48 rfl rfl ?_
  revert h
  refine chkk fun c1 h=>?_
  conv=>whnf
  repeat((first|refine dw ?_|refine bcf (nb c1) ?_);conv=>whnf)
  revert h
  refine brk (fun c2 h=>?_) (fun c2 h=>?_)
  ·conv=>whnf
   repeat((first|refine dw ?_|refine bct c2 ?_);conv=>whnf)
   exact K _ h
  ·conv=>whnf
   repeat((first|refine dw ?_|refine bcf c2 ?_);conv=>whnf)
   exact K _ h
end
end Go.Proofs.YtidkmoohgadjkaaGreat
