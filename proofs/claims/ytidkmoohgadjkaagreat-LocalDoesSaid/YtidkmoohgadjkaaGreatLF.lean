/- Lists of items that rise (layer 8): all of both; whether items may be a list. The statements of layer 8, walked. Written by decomp.py. The statements ListTells and ListKeeps, out of what their code computes. The program: copies of states, serve. Written by decomp.py. The program: local. Written by decomp.py. The document: layers 9 and 10. Written by decomp.py. States: which may be, by both; what is kept. States: which may be, by both functions; what that gives. The program: recv. Written by decomp.py. What comes to a replica, and what goes there: by both functions. What a replica does by itself: by both functions. What the laws hand in: lines, notes; errors. Written by decomp.py. The laws of layer 9. Written by decomp.py. Another filter; what is read; deeds. The statements LocalStarts, LocalDoes, LocalPlays, out of what their code computes. Filters as arguments of laws. States as arguments of laws. What a replica does, and lists of it, as arguments of laws. The calls of the statements of layer 9. -/
import Derived.Test.YtidkmoohgadjkaaGreatLE
import Derived.Test.YtidkmoohgadjkaaGreatLD
set_option linter.unusedVariables false
set_option linter.unusedSimpArgs false
set_option maxRecDepth 100000
namespace Go.Proofs.YtidkmoohgadjkaaGreat
open Go E Pred
noncomputable section
open Classical
def newer:Option Item→Option Item→Option Item
 | none,p=>p
 | some x,none=>some x
 | some x,some y=>if behindB y x=true then some y else some x
theorem newer_none (o:Option Item):newer o none=o:=by cases o<;>rfl
def mergeF:Nat→List Item→List Item→List Item
 | 0,_,_=>[]
 | _ + 1,[],b=>b
 | _ + 1,x::a,[]=>x::a
 | n + 1,x::a,y::b=>if ltS x.id y.id=true then x::mergeF n a (y::b) else if ltS y.id x.id=true then y::mergeF n (x::a) b else if behindB y x=true then mergeF n a (y::b) else mergeF n (x::a) b
def bothV (a b:List Item):List Item:=mergeF (a.length + b.length + 1) a b
theorem cmp_pos (a b:Item):ltI 0 (compareV a b)=behindB a b:=by
 unfold compareV
 cases behindB a b with
 | true=>rfl
 | false =>
  cases behindB b a<;>rfl
theorem both_l:∀ (n fl:Nat) (a out b:List Item),a.length + b.length < n→n≤fl→out.length + a.length + b.length≤999990→list_Both_l1 fl a out b=some (out++mergeF n a b)
 | 0,_,_,_,_,h,_,_=>by omega
 | n + 1,0,_,_,_,_,h,_=>by omega
 | n + 1,fl + 1,[],out,b,h,hf,hl=>by
  rw [list_Both_l1,br_f (by rfl),chk_t (roomL_of (by simpa using by simp at hl; omega)),chk_t (roomL_of (by simp at hl ⊢; omega)),mergeF]; simp
 | n + 1,fl + 1,x::a,out,[],h,hf,hl=>by
  rw [list_Both_l1,br_t (by rw [ltI_t,List.length_cons]; omega),br_f (by rfl),chk_t (roomL_of (by simp at hl ⊢; omega)),chk_t (roomL_of (by simp at hl ⊢; omega)),mergeF]; simp
 | n + 1,fl + 1,x::a,out,y::b,h,hf,hl=>by
  have l1:leI 1 ((x::a).length:Int)=true:=by rw [leI_t,List.length_cons]; omega
  have l2:leI 1 ((y::b).length:Int)=true:=by rw [leI_t,List.length_cons]; omega
  have i1:=fun o=>both_l n fl a o (y::b) (by simp at h ⊢; omega) (by omega)
  have i2:=fun o=>both_l n fl (x::a) o b (by simp at h ⊢; omega) (by omega)
  rw [list_Both_l1,br_t (by rw [ltI_t,List.length_cons]; omega),br_t (by rw [ltI_t,List.length_cons]; omega),bnd_of (show atL (x::a) 0=some x from rfl),bnd_of (show atL (y::b) 0=some y from rfl),mergeF]
  cases h1:ltS x.id y.id with
  | true =>
   rw [br_t rfl,chk_t (roomL_of (by simp at hl; omega)),chk_t l1,if_pos rfl]
   rw [show (x::a).drop 1=a from rfl,i1 _ (by simp at hl ⊢; omega)]; simp
  | false =>
   rw [br_f rfl,if_neg (by simp)]
   cases h2:ltS y.id x.id with
   | true =>
    have:(!(false || eqS x.id y.id))=true:=by rw [eqS_comm',ltS_ne h2]; rfl
    rw [br_t this,chk_t (roomL_of (by simp at hl; omega)),chk_t l2,if_pos rfl]
    rw [show (y::b).drop 1=b from rfl,i2 _ (by simp at hl ⊢; omega)]; simp
   | false =>
    have:(!(false || eqS x.id y.id))=false:=by rw [eqS_t.2 (ltS_tri h1 h2)]; rfl
    rw [br_f this,if_neg (by simp),bnd_of (show item_Compare_s y x=some (compareV y x) from rfl),cmp_pos]
    cases behindB y x with
    | true=>rw [br_t rfl,chk_t l1,if_pos rfl]; exact i1 _ (by simp at hl ⊢; omega)
    | false=>rw [br_f rfl,chk_t l2,if_neg (by simp)]; exact i2 _ (by simp at hl ⊢; omega)
theorem lboth_s {a b:List Item} (h:a.length + b.length≤999980):list_Both_s a b=some (bothV a b):=by
 unfold list_Both_s bothV
 rw [both_l (a.length + b.length + 1) fuelN a [] b (by omega) (by unfold fuelN; omega) (by simp; omega)]; rfl
theorem mem_merge:∀ (n:Nat) (a b:List Item) (z:Item),z∈mergeF n a b→z∈a∨z∈b
 | 0,_,_,_,h=>by rw [mergeF] at h; cases h
 | n + 1,[],b,z,h=>by rw [mergeF] at h; exact .inr h
 | n + 1,x::a,[],z,h=>by rw [mergeF] at h; exact .inl h
 | n + 1,x::a,y::b,z,h=>by
  rw [mergeF] at h
  split at h
  ·rcases List.mem_cons.1 h with rfl | h
   ·exact .inl (List.mem_cons_self ..)
   ·exact (mem_merge n a (y::b) z h).imp (List.mem_cons_of_mem _) id
  ·split at h
   ·rcases List.mem_cons.1 h with rfl | h
    ·exact .inr (List.mem_cons_self ..)
    ·exact (mem_merge n (x::a) b z h).imp id (List.mem_cons_of_mem _)
   ·split at h
    ·exact (mem_merge n a (y::b) z h).imp (List.mem_cons_of_mem _) id
    ·exact (mem_merge n (x::a) b z h).imp id (List.mem_cons_of_mem _)
theorem len_merge:∀ (n:Nat) (a b:List Item),(mergeF n a b).length≤a.length + b.length
 | 0,_,_=>by rw [mergeF]; simp
 | n + 1,[],b=>by rw [mergeF]; simp
 | n + 1,x::a,[]=>by rw [mergeF]; simp
 | n + 1,x::a,y::b=>by
  have h1:=len_merge n a (y::b)
  have h2:=len_merge n (x::a) b
  rw [mergeF]
  simp only [List.length_cons] at *
  split
  ·simp; omega
  ·split
   ·simp; omega
   ·split<;>omega
theorem ris_merge:∀ (n:Nat) {a b:List Item},Ris a→Ris b→Ris (mergeF n a b)
 | 0,_,_,_,_=>by rw [mergeF]; exact .nil
 | n + 1,[],b,_,hb=>by rw [mergeF]; exact hb
 | n + 1,x::a,[],ha,_=>by rw [mergeF]; exact ha
 | n + 1,x::a,y::b,ha,hb=>by
  have ha':=ris_cons.1 ha
  have hb':=ris_cons.1 hb
  rw [mergeF]
  split
  ·rename_i h1
   refine ris_cons.2 ⟨fun z hz=>?_,ris_merge n ha'.2 hb⟩
   rcases mem_merge n _ _ z hz with hz | hz
   ·exact ha'.1 z hz
   ·rcases List.mem_cons.1 hz with rfl | hz
    ·exact h1
    ·exact ltS_tr h1 (hb'.1 z hz)
  ·split
   ·rename_i h2
    refine ris_cons.2 ⟨fun z hz=>?_,ris_merge n ha hb'.2⟩
    rcases mem_merge n _ _ z hz with hz | hz
    ·rcases List.mem_cons.1 hz with rfl | hz
     ·exact h2
     ·exact ltS_tr h2 (ha'.1 z hz)
    ·exact hb'.1 z hz
   ·split
    ·exact ris_merge n ha'.2 hb
    ·exact ris_merge n ha hb'.2
theorem lk_merge:∀ (n:Nat) {a b:List Item} (id:ByteArray),a.length + b.length < n→Ris a→Ris b→lk (mergeF n a b) id=newer (lk a id) (lk b id)
 | 0,_,_,_,h,_,_=>by omega
 | n + 1,[],b,id,_,_,_=>by rw [mergeF]; rfl
 | n + 1,x::a,[],id,_,_,_=>by rw [mergeF]; exact (newer_none _).symm
 | n + 1,x::a,y::b,id,h,ha,hb=>by
  have ha':=ris_cons.1 ha
  have hb':=ris_cons.1 hb
  have i1:=lk_merge n id (a:=a) (b:=y::b) (by simp at h ⊢; omega) ha'.2 hb
  have i2:=lk_merge n id (a:=x::a) (b:=b) (by simp at h ⊢; omega) ha hb'.2
  rw [mergeF]
  by_cases h1:ltS x.id y.id=true
  ·rw [if_pos h1,lk_cons,lk_cons x a,i1]
   by_cases hx:eqS x.id id=true
   ·have hn:lk (y::b) id=none:=lk_gt fun z hz=>by
     rw [←eqS_t.1 hx]
     rcases List.mem_cons.1 hz with rfl | hz
     ·exact h1
     ·exact ltS_tr h1 (hb'.1 z hz)
    rw [if_pos hx,if_pos hx,hn]; rfl
   ·rw [if_neg hx,if_neg hx]
  ·rw [if_neg h1]
   by_cases h2:ltS y.id x.id=true
   ·rw [if_pos h2,lk_cons,lk_cons y b,i2]
    by_cases hy:eqS y.id id=true
    ·have hn:lk (x::a) id=none:=lk_gt fun z hz=>by
      rw [←eqS_t.1 hy]
      rcases List.mem_cons.1 hz with rfl | hz
      ·exact h2
      ·exact ltS_tr h2 (ha'.1 z hz)
     rw [if_pos hy,if_pos hy,hn]; rfl
    ·rw [if_neg hy,if_neg hy]
   ·rw [if_neg h2]
    simp only [Bool.not_eq_true] at h1 h2
    have e:=ltS_tri h1 h2
    by_cases hx:eqS x.id id=true
    ·have hy:eqS y.id id=true:=by rw [←e]; exact hx
     have na:lk a id=none:=lk_gt fun z hz=>by rw [←eqS_t.1 hx]; exact ha'.1 z hz
     have nb:lk b id=none:=lk_gt fun z hz=>by rw [←eqS_t.1 hy]; exact hb'.1 z hz
     have ex:lk (x::a) id=some x:=by rw [lk_cons,if_pos hx]
     have ey:lk (y::b) id=some y:=by rw [lk_cons,if_pos hy]
     rw [na,ey] at i1
     rw [nb,ex] at i2
     rw [ex,ey]
     show _=if behindB y x=true then some y else some x
     split
     ·exact i1
     ·exact i2
    ·have hy:¬ eqS y.id id=true:=by rw [←e]; exact hx
     have ex:lk (x::a) id=lk a id:=by rw [lk_cons,if_neg hx]
     have ey:lk (y::b) id=lk b id:=by rw [lk_cons,if_neg hy]
     rw [ey] at i1
     rw [ex] at i2
     rw [ex,ey]
     split
     ·exact i1
     ·exact i2
theorem ris_both {a b:List Item} (ha:Ris a) (hb:Ris b):Ris (bothV a b):=ris_merge _ ha hb
theorem lk_both {a b:List Item} (ha:Ris a) (hb:Ris b) (id:ByteArray):lk (bothV a b) id=newer (lk a id) (lk b id):=lk_merge _ id (by omega) ha hb
def stepB (acc:List Item) (y:Item):List Item:=match lk acc y.id with
 | none=>putV acc y
 | some h=>if behindB y h=true then putV acc y else acc
theorem len_put1 {l:List Item} (hr:Ris l) (x:Item):(putV l x).length≤l.length + 1:=by
 have h1:((l.filter fun y=>ltS y.id x.id)++l.filter fun y=>ltS x.id y.id).length≤l.length:=by
  rw [List.length_append]
  induction l with
  | nil=>simp
  | cons y l ih =>
   have:=ih (ris_cons.1 hr).2
   rw [List.filter_cons,List.filter_cons]
   cases h:ltS y.id x.id with
   | true=>rw [ltS_asym h]; simp; omega
   | false=>cases ltS x.id y.id<;>simp<;>omega
 unfold putV
 rw [List.length_append] at h1 ⊢
 rw [List.length_cons]; omega
theorem ris_step {acc:List Item} (h:Ris acc) (y:Item):Ris (stepB acc y):=by
 unfold stepB
 split
 ·exact ris_put h y
 ·split
  ·exact ris_put h y
  ·exact h
theorem len_step {acc:List Item} (h:Ris acc) (y:Item):(stepB acc y).length≤acc.length + 1:=by
 unfold stepB
 split
 ·exact len_put1 h y
 ·split
  ·exact len_put1 h y
  ·omega
theorem lk_step (acc:List Item) (y:Item) (id:ByteArray):lk (stepB acc y) id=newer (lk acc id) (if eqS y.id id=true then some y else none):=by
 unfold stepB
 by_cases hy:eqS y.id id=true
 ·rw [if_pos hy,←eqS_t.1 hy]
  cases h:lk acc y.id with
  | none=>dsimp only; rw [lk_put,if_pos (eqS_self _)]; rfl
  | some x =>
   dsimp only
   show _=if behindB y x=true then some y else some x
   split
   ·rw [lk_put,if_pos (eqS_self _)]
   ·exact h
 ·rw [if_neg hy,newer_none]
  split
  ·rw [lk_put,if_neg hy]
  ·split
   ·rw [lk_put,if_neg hy]
   ·rfl
theorem ris_fold:∀ (b acc:List Item),Ris acc→Ris (b.foldl stepB acc)
 | [],_,h=>h
 | y::b,acc,h=>ris_fold b _ (ris_step h y)
theorem lk_fold (id:ByteArray):∀ (b acc:List Item),Ris b→lk (b.foldl stepB acc) id=newer (lk acc id) (lk b id)
 | [],acc,_=>(newer_none _).symm
 | y::b,acc,h=>by
  have h':=ris_cons.1 h
  rw [List.foldl_cons,lk_fold id b _ h'.2,lk_step,lk_cons]
  by_cases hy:eqS y.id id=true
  ·rw [if_pos hy,if_pos hy,lk_gt (l:=b) fun z hz=>by rw [←eqS_t.1 hy]; exact h'.1 z hz,newer_none]
  ·rw [if_neg hy,if_neg hy,newer_none]
theorem rboth_l:∀ (b acc:List Item),Ris acc→acc.length + b.length≤400000→ref06_Both_l1 b acc=some (b.foldl stepB acc)
 | [],acc,_,_=>by rw [ref06_Both_l1]; rfl
 | y::b,acc,hr,h=>by
  rw [List.length_cons] at h
  have ih:=rboth_l b (stepB acc y) (ris_step hr y) (by have:=len_step hr y; omega)
  rw [ref06_Both_l1,bnd_of (get_s (by omega)),List.foldl_cons,←ih]
  unfold stepB
  cases hk:lk acc y.id with
  | none=>rw [getI_f hk,br_t (by rfl),bnd_of (rput_s (by omega))]
  | some x =>
   rw [getI_t hk,br_f (by rfl),bnd_of (show ref01_Behind_s y (x,true).1=some (behindB y x) from rfl)]
   dsimp only
   cases behindB y x with
   | true=>rw [br_t rfl,bnd_of (rput_s (by omega)),if_pos rfl]
   | false=>rw [br_f rfl,if_neg (by simp)]
theorem rboth_s {a b:List Item} (ha:Ris a) (hb:Ris b) (h:a.length + b.length≤400000):ref06_Both_s a b=some (bothV a b):=by
 unfold ref06_Both_s
 rw [chk_t (roomL_of (by omega)),chk_t (smallL_of (by omega)),rboth_l b a ha h]
 congr 1
 exact ris_ext (ris_fold b a ha) (ris_both ha hb) fun id=>by rw [lk_fold id b a hb,lk_both ha hb]
theorem lmay_l {L:List Item} (hn:L.length≤999990):∀ (xs:List Item) (p:Item) (pre:List Item),L=pre++p::xs→(∀ x∈xs,x.Ok)→list_May_l1 L xs ((pre.length:Int) + 1)=some (xs.all mayI&&risesG p xs)
 | [],p,pre,_,_=>by rw [list_May_l1]; rfl
 | x::xs,p,pre,h,hx=>by
  have hlen:L.length=pre.length + (xs.length + 2):=by rw [h]; simp
  have e:item_May_s x=some (mayI x):=by unfold item_May_s; rw [chk_t (decide_eq_true (hx x (List.mem_cons_self ..)))]
  have a0:atL L (wr .i64 ((pre.length:Int) + 1 - 1))=some p:=by
   rw [wr64 (by omega) (by omega),show (pre.length:Int) + 1 - 1=pre.length by omega,h]; exact at_app pre p (x::xs)
  have ih:=lmay_l hn xs x (pre++[p]) (by rw [h]; simp) fun y hy=>hx y (List.mem_cons_of_mem _ hy)
  rw [List.length_append] at ih
  rw [list_May_l1,bnd_of e,List.all_cons,risesG]
  cases mayI x with
  | false=>rfl
  | true =>
   rw [br_f (by rfl),br_t (by rw [ltI_t]; omega),bnd_of a0]
   have eq:(!(ltS x.id p.id || eqS x.id p.id))=ltS p.id x.id:=by
    cases h1:ltS p.id x.id with
    | true=>rw [ltS_asym h1,eqS_comm',ltS_ne h1]; rfl
    | false =>
     cases h2:ltS x.id p.id with
     | true=>rfl
     | false=>rw [ltS_tri h2 h1,eqS_self]; rfl
   rw [eq]
   cases ltS p.id x.id with
   | false=>rw [br_t (by rfl)]; simp
   | true =>
    rw [br_f (by rfl)]
    refine Eq.trans ?_ (ih.trans ?_)
    ·rfl
    ·simp
theorem lmay_s {l:List Item} (hn:l.length≤999990) (hx:∀ x∈l,x.Ok):list_May_s l=some (mayListB l):=by
 unfold list_May_s mayListB
 rw [chk_t (smallL_of (by omega))]
 match l,hn,hx with
 | [],_,_=>rfl
 | x::xs,hn,hx =>
  have e:item_May_s x=some (mayI x):=by unfold item_May_s; rw [chk_t (decide_eq_true (hx x (List.mem_cons_self ..)))]
  have ih:=lmay_l hn xs x [] rfl fun y hy=>hx y (List.mem_cons_of_mem _ hy)
  rw [list_May_l1,bnd_of e,List.all_cons]
  cases mayI x with
  | false=>rfl
  | true =>
   rw [br_f (by rfl),br_f (by rfl)]
   refine Eq.trans ?_ (ih.trans ?_)
   ·rfl
   ·simp [risesB]
theorem may_ris {l:List Item} (h:mayListB l=true):Ris l:=by
 unfold mayListB at h; rw [Bool.and_eq_true] at h; exact ris_iff.1 h.2
theorem may_all {l:List Item} (h:mayListB l=true):∀ x∈l,mayI x=true:=by
 unfold mayListB at h; rw [Bool.and_eq_true,List.all_eq_true] at h; exact h.1
theorem sameList_l:∀ (xs pre ys L:List Item),L=pre++ys→xs.length=ys.length→(∀ p∈xs.zip ys,sameI p.1 p.2=true)→ref06_SameList_l1 L xs (pre.length:Int)=some true
 | [],pre,[],L,_,_,_=>by rw [ref06_SameList_l1]
 | x::xs,pre,y::ys,L,h,hl,hs=>by
  have ih:=sameList_l xs (pre++[y]) ys L (by rw [h]; simp) (by simpa using hl) fun p hp=>hs p (by simp [hp])
  rw [List.length_append] at ih
  rw [ref06_SameList_l1,bnd_of (show atL L (pre.length:Int)=some y by rw [h]; exact at_app pre y ys),bnd_of (show ref01_Same_s x y=some (sameI x y) from rfl),hs (x,y) (by simp),br_f (by rfl)]
  exact ih
 | [],_,_::_,_,_,h,_=>by simp at h
 | _::_,_,[],_,_,h,_=>by simp at h
theorem same0_s {l:List Item} (hn:l.length≤1000000000) (h:∀ x∈l,sameI x x=true):law00_Same_s l l=some 1:=by
 have e:ref06_SameList_s l l=some true:=by
  unfold ref06_SameList_s
  rw [eqI_t.2 rfl,br_f (by rfl),chk_t (smallL_of hn)]
  have:=sameList_l l [] l l rfl rfl fun p hp=>by
   obtain ⟨i,hi⟩:=List.getElem?_of_mem hp
   rw [List.getElem?_zip_eq_some] at hi
   have e:p.1=p.2:=by have:=hi.1.symm.trans hi.2; injection this
   rw [←e]
   exact h p.1 (List.mem_of_getElem? hi.1)
  exact this
 unfold law00_Same_s
 rw [bnd_of e]; rfl
end
end Go.Proofs.YtidkmoohgadjkaaGreat
set_option maxHeartbeats 0
namespace Go.Proofs.YtidkmoohgadjkaaGreat
open Go E
noncomputable section
open Pred
end
end Go.Proofs.YtidkmoohgadjkaaGreat
namespace Go.Proofs.YtidkmoohgadjkaaGreat
open Go E Pred
noncomputable section
open Classical
def realI (x:Item):Prop:=eqFl .f64 x.re x.re=true∧eqFl .f64 x.im x.im=true
theorem sameI_real {x:Item} (h:realI x):sameI x x=true:=by
 unfold sameI
 rw [h.1,h.2,eqS_refl,eqS_refl,beq_selfB]
 simp [eqI]
theorem real_may {x:Item} (h:mayI x=true):realI x:=by
 unfold mayI at h
 simp only [Bool.and_eq_true] at h
 obtain ⟨_,_,_,hp⟩:=h
 obtain ⟨⟨w1,_⟩,⟨w2,_⟩⟩:=placeB_ok hp
 exact ⟨w1.self,w2.self⟩
theorem mem_put {l:List Item} {x y:Item} (h:y∈putV l x):y=x∨y∈l:=by
 unfold putV at h
 rcases List.mem_append.1 h with h | h
 ·exact .inr (List.mem_filter.1 h).1
 ·rcases List.mem_cons.1 h with rfl | h
  ·exact .inl rfl
  ·exact .inr (List.mem_filter.1 h).1
theorem mem_drop {l:List Item} {id:ByteArray} {y:Item} (h:y∈dropV l id):y∈l:=(List.mem_filter.1 h).1
theorem mem_both {a b:List Item} {y:Item} (h:y∈bothV a b):y∈a∨y∈b:=mem_merge _ a b y h
end
end Go.Proofs.YtidkmoohgadjkaaGreat
set_option maxHeartbeats 0
namespace Go.Proofs.YtidkmoohgadjkaaGreat
open Go E
noncomputable section
open Pred
def fresh_State_s (p0:State):Option (State) :=
 (bnd (fresh_Pred_s fuelR p0.f) fun y1 =>
  (bnd (fresh_Know_s p0.k) fun y3 =>
   (bnd (clone_s p0.store) fun y5 =>
    (bnd (clone_s p0.out) fun y7 =>
     some (State.mk p0.r y1 y5 y7 y3 p0.count p0.clock p0.epoch)))))
variable {X:Task→Prop} (hX:Closed X) {Q:A→List Blk→Prop}
include hX
theorem fresh_State_c  {p0:State} {r:State} (h:fresh_State_s p0=some r) (hQ:Q (.agg (State.cs r)) []):X (.call 93 [.agg (State.cs p0)] [] Q):=by
 unfold fresh_State_s at h
 refine call_nz hX ?_
 conv=>whnf
 refine call_intro hX Tryz.func93 rfl rfl ?_
 revert h
 refine bndk fun y1 e2 h=>?_
 conv=>whnf
 repeat((first|refine dw ?_);conv=>whnf)
 refine fresh_Pred_c hX fuelR e2 ?_
 revert h
 refine bndk fun y3 e4 h=>?_
 conv=>whnf
 repeat((first|refine dw ?_);conv=>whnf)
 refine fresh_Know_c hX e4 ?_
 revert h
 refine bndk fun y5 e6 h=>?_
 conv=>whnf
 repeat((first|refine dw ?_);conv=>whnf)
 refine clone_c (f:=Item.row) (k:=8) (fun _=>rfl) (by decide) hX e6 ?_
 revert h
 refine bndk fun y7 e8 h=>?_
 conv=>whnf
 repeat((first|refine dw ?_);conv=>whnf)
 refine clone_c (f:=Item.row) (k:=8) (fun _=>rfl) (by decide) hX e8 ?_
 conv=>whnf
 repeat((first|refine dw ?_);conv=>whnf)
 exact ret_some (f:=fun y=>.agg (State.cs y)) (g:=fun y=>[]) h hQ
end
end Go.Proofs.YtidkmoohgadjkaaGreat
set_option maxHeartbeats 0
namespace Go.Proofs.YtidkmoohgadjkaaGreat
open Go E
noncomputable section
open Pred
def local_within_s (p0:Int) (p1:Int):Option (Bool) :=
 (br (leI 0 p0)
  (some (leI p0 p1))
  (some false))
def local_holds_l1 (p0:State) (p2:Bool):List Item→Option (Bool)
  | [] =>
  some true
  | x1e::xs1 =>
  (bnd (eval_Has_s p0.f x1e) fun y2 =>
   (br (@Bool.rec (fun _=>Bool) p2 (!p2) y2)
    (some false)
    (br (ltI p0.clock x1e.stamp)
     (some false)
     (bnd (know_Has_s p0.k x1e.id (Ver.mk x1e.vr x1e.vc)) fun y6 =>
      (br (!y6)
       (some false)
       (local_holds_l1 p0 p2 xs1  ))))))
def local_holds_s (p0:State) (p1:List Item) (p2:Bool):Option (Bool) :=
 (chk (smallL p1)
   ((local_holds_l1 p0 p2) p1 ))
def local_own_l1 (p0_k:Know) (p0_count:Int):List Frag→Option (Bool)
  | [] =>
  some (leI p0_k.star.x0 p0_count)
  | x1e::xs1 =>
  (br (ltI p0_count x1e.vec.x0)
   (some false)
   (local_own_l1 p0_k p0_count xs1  ))
def local_own_l2 (p0_k:Know) (p0_count:Int):List Frag→Option (Bool)
  | [] =>
  some (leI p0_k.star.x1 p0_count)
  | x2e::xs2 =>
  (br (ltI p0_count x2e.vec.x1)
   (some false)
   (local_own_l2 p0_k p0_count xs2  ))
def local_own_l3 (p0_k:Know) (p0_count:Int):List Frag→Option (Bool)
  | [] =>
  some (leI p0_k.star.x2 p0_count)
  | x3e::xs3 =>
  (br (ltI p0_count x3e.vec.x2)
   (some false)
   (local_own_l3 p0_k p0_count xs3  ))
def local_own_l4 (p0_k:Know) (p0_count:Int):List Frag→Option (Bool)
  | [] =>
  some (leI p0_k.star.x3 p0_count)
  | x4e::xs4 =>
  (br (ltI p0_count x4e.vec.x3)
   (some false)
   (local_own_l4 p0_k p0_count xs4  ))
def local_own_l5 (p0_k:Know) (p0_count:Int):List Frag→Option (Bool)
  | [] =>
  some (leI p0_k.star.x4 p0_count)
  | x5e::xs5 =>
  (br (ltI p0_count x5e.vec.x4)
   (some false)
   (local_own_l5 p0_k p0_count xs5  ))
def local_own_l6 (p0_k:Know) (p0_count:Int):List Frag→Option (Bool)
  | [] =>
  some (leI p0_k.star.x5 p0_count)
  | x6e::xs6 =>
  (br (ltI p0_count x6e.vec.x5)
   (some false)
   (local_own_l6 p0_k p0_count xs6  ))
def local_own_l7 (p0_k:Know) (p0_count:Int):List Frag→Option (Bool)
  | [] =>
  some (leI p0_k.star.x6 p0_count)
  | x7e::xs7 =>
  (br (ltI p0_count x7e.vec.x6)
   (some false)
   (local_own_l7 p0_k p0_count xs7  ))
def local_own_l8 (p0_k:Know) (p0_count:Int):List Frag→Option (Bool)
  | [] =>
  some (leI p0_k.star.x7 p0_count)
  | x8e::xs8 =>
  (br (ltI p0_count x8e.vec.x7)
   (some false)
   (local_own_l8 p0_k p0_count xs8  ))
def local_own_l9:Nat→Option (Bool)
 | 0=>none
 | fl9 + 1 =>
 none
def local_own_s (p0:State):Option (Bool) :=
 match p0 with
 | ⟨p0_r,p0_f,p0_store,p0_out,p0_k,p0_count,p0_clock,p0_epoch⟩ =>
  (br (eqI p0_r 1)
   (chk (smallL p0_k.l)
     ((local_own_l1 p0_k p0_count) p0_k.l ))
   (br (eqI p0_r 2)
    (chk (smallL p0_k.l)
      ((local_own_l2 p0_k p0_count) p0_k.l ))
    (br (eqI p0_r 3)
     (chk (smallL p0_k.l)
       ((local_own_l3 p0_k p0_count) p0_k.l ))
     (br (eqI p0_r 4)
      (chk (smallL p0_k.l)
        ((local_own_l4 p0_k p0_count) p0_k.l ))
      (br (eqI p0_r 5)
       (chk (smallL p0_k.l)
         ((local_own_l5 p0_k p0_count) p0_k.l ))
       (br (eqI p0_r 6)
        (chk (smallL p0_k.l)
          ((local_own_l6 p0_k p0_count) p0_k.l ))
        (br (eqI p0_r 7)
         (chk (smallL p0_k.l)
           ((local_own_l7 p0_k p0_count) p0_k.l ))
         (br (eqI p0_r 8)
          (chk (smallL p0_k.l)
            ((local_own_l8 p0_k p0_count) p0_k.l ))
          ((local_own_l9) fuelN )))))))))
def local_May_s (p0:State):Option (Bool) :=
 (br (ltI p0.r 1)
  (some false)
  (br (ltI 8 p0.r)
   (some false)
   (bnd (pred_May_s p0.f) fun y3 =>
    (br (!y3)
     (some false)
     (bnd (list_May_s p0.store) fun y6 =>
      (br (!y6)
       (some false)
       (bnd (list_May_s p0.out) fun y9 =>
        (br (!y9)
         (some false)
         (bnd (know_May_s p0.k) fun y12 =>
          (br (!y12)
           (some false)
           (bnd (local_within_s p0.count 1000) fun y15 =>
            (br (!y15)
             (some false)
             (bnd (local_within_s p0.clock 1000000) fun y18 =>
              (br (!y18)
               (some false)
               (bnd (local_within_s p0.epoch 1000000) fun y21 =>
                (br (!y21)
                 (some false)
                 (br (ltI 40 (wr .i64 ((p0.store.length:Int) + (p0.out.length:Int))))
                  (some false)
                  (bnd (list_Both_s p0.store p0.out) fun y25 =>
                   (br (!eqI (y25.length:Int) (wr .i64 ((p0.store.length:Int) + (p0.out.length:Int))))
                    (some false)
                    (bnd (local_holds_s p0 p0.store true) fun y28 =>
                     (br y28
                      (bnd (local_holds_s p0 p0.out false) fun y31 =>
                       (br y31
                        (bnd (local_own_s p0) fun y34 =>
                         some y34)
                        (some false)))
                      (some false))))))))))))))))))))))
def local_New_s (p0:Int) (p1:Pred):Option (State × Option Int) :=
 (br (ltI p0 1)
  (some ((State.mk 0 (Pred.mk 0 ⟨#[]⟩ 0 0 0 ([]:List Pred)) ([]:List Item) ([]:List Item) (Know.mk (V8.mk 0 0 0 0 0 0 0 0) ([]:List Frag)) 0 0 0),(some 1)))
  (br (ltI 8 p0)
   (some ((State.mk 0 (Pred.mk 0 ⟨#[]⟩ 0 0 0 ([]:List Pred)) ([]:List Item) ([]:List Item) (Know.mk (V8.mk 0 0 0 0 0 0 0 0) ([]:List Frag)) 0 0 0),(some 1)))
   (bnd (pred_May_s p1) fun y3 =>
    (br (!y3)
     (some ((State.mk 0 (Pred.mk 0 ⟨#[]⟩ 0 0 0 ([]:List Pred)) ([]:List Item) ([]:List Item) (Know.mk (V8.mk 0 0 0 0 0 0 0 0) ([]:List Frag)) 0 0 0),(some 1)))
     (bnd (fresh_Pred_s fuelR p1) fun y6 =>
      some ((State.mk p0 y6 ([]:List Item) ([]:List Item) (Know.mk (V8.mk 0 0 0 0 0 0 0 0) ([]:List Frag)) 0 0 0),none))))))
def local_stands_s (p0:State) (p1:ByteArray):Option (Item × Bool) :=
 (bnd (list_Get_s p0.store p1) fun y1 =>
  (br y1.2
   (some (y1.1,true))
   (bnd (list_Get_s p0.out p1) fun y4 =>
    some (y4.1,y4.2))))
def local_might_s (p0:Item):Option (Bool) :=
 (bnd (item_May_s (Item.mk p0.id 1 1 1 p0.kind p0.num p0.re p0.im p0.dead)) fun y1 =>
  some y1)
def local_version_s (p0:State) (p1:Item):Option (State × Option Int) :=
 (br (leI 1000 p0.count)
  (bnd (fresh_State_s p0) fun y2 =>
   some (y2,(some 5)))
  (br (leI 1000000 p0.clock)
   (bnd (fresh_State_s p0) fun y5 =>
    some (y5,(some 5)))
   (bnd (fresh_State_s p0) fun y7 =>
    (bnd (know_Own_s y7.k p1.id (Ver.mk y7.r (wr .i64 (y7.count + 1)))) fun y9 =>
     (bnd (list_Drop_s y7.store p1.id) fun y11 =>
      (bnd (list_Drop_s y7.out p1.id) fun y13 =>
       (bnd (eval_Has_s y7.f (Item.mk p1.id y7.r (wr .i64 (y7.count + 1)) (wr .i64 (y7.clock + 1)) p1.kind p1.num p1.re p1.im p1.dead)) fun y15 =>
        (br y15
         (bnd (list_Put_s y11 (Item.mk p1.id y7.r (wr .i64 (y7.count + 1)) (wr .i64 (y7.clock + 1)) p1.kind p1.num p1.re p1.im p1.dead)) fun y18 =>
          some ((State.mk y7.r y7.f y18 y13 y9 (wr .i64 (y7.count + 1)) (wr .i64 (y7.clock + 1)) y7.epoch),none))
         (bnd (list_Put_s y13 (Item.mk p1.id y7.r (wr .i64 (y7.count + 1)) (wr .i64 (y7.clock + 1)) p1.kind p1.num p1.re p1.im p1.dead)) fun y20 =>
          some ((State.mk y7.r y7.f y11 y20 y9 (wr .i64 (y7.count + 1)) (wr .i64 (y7.clock + 1)) y7.epoch),none))))))))))
def local_Create_j1 (p0:State) (p1:ByteArray) (p2:ByteArray) (p3:Int) (p4r:Nat) (p4i:Nat):Option (State × Option Int) :=
 (bndE (local_version_s p0 (Item.mk p1 0 0 0 p2 p3 p4r p4i false)) (fun y3 n5 =>
  some (y3,(some n5)))
   (fun y3 =>
  some (y3,none)))
def local_Create_s (p0:State) (p1:ByteArray) (p2:ByteArray) (p3:Int) (p4r:Nat) (p4i:Nat):Option (State × Option Int) :=
 (bnd (local_stands_s p0 p1) fun y1 =>
  (bnd (local_might_s (Item.mk p1 0 0 0 p2 p3 p4r p4i false)) fun y6 =>
   (br (!y6)
    (bnd (fresh_State_s p0) fun y9 =>
     some (y9,(some 1)))
    (br y1.2
     (br (!y1.1.dead)
      (bnd (fresh_State_s p0) fun y13 =>
       some (y13,(some 3)))
      (br (!y1.2)
       (br (leI 40 (wr .i64 ((p0.store.length:Int) + (p0.out.length:Int))))
        (bnd (fresh_State_s p0) fun y17 =>
         some (y17,(some 4)))
        (local_Create_j1 p0 p1 p2 p3 p4r p4i ))
       (local_Create_j1 p0 p1 p2 p3 p4r p4i )))
     (br (!y1.2)
      (br (leI 40 (wr .i64 ((p0.store.length:Int) + (p0.out.length:Int))))
       (bnd (fresh_State_s p0) fun y21 =>
        some (y21,(some 4)))
       (local_Create_j1 p0 p1 p2 p3 p4r p4i ))
      (local_Create_j1 p0 p1 p2 p3 p4r p4i ))))))
def local_Update_s (p0:State) (p1:ByteArray) (p2:ByteArray) (p3:Int) (p4r:Nat) (p4i:Nat):Option (State × Option Int) :=
 (bnd (local_might_s (Item.mk p1 0 0 0 p2 p3 p4r p4i false)) fun y1 =>
  (br (!y1)
   (bnd (fresh_State_s p0) fun y4 =>
    some (y4,(some 1)))
   (bnd (local_stands_s p0 p1) fun y6 =>
    (br (!y6.2)
     (bnd (fresh_State_s p0) fun y9 =>
      some (y9,(some 2)))
     (br y6.1.dead
      (bnd (fresh_State_s p0) fun y12 =>
       some (y12,(some 2)))
      (bndE (local_version_s p0 (Item.mk p1 0 0 0 p2 p3 p4r p4i false)) (fun y14 n16 =>
       some (y14,(some n16)))
        (fun y14 =>
       some (y14,none))))))))
def local_Delete_s (p0:State) (p1:ByteArray):Option (State × Option Int) :=
 (bnd (item_Name_s p1) fun y1 =>
  (br (!y1)
   (bnd (fresh_State_s p0) fun y4 =>
    some (y4,(some 1)))
   (bnd (local_stands_s p0 p1) fun y6 =>
    (br (!y6.2)
     (bnd (fresh_State_s p0) fun y9 =>
      some (y9,(some 2)))
     (br y6.1.dead
      (bnd (fresh_State_s p0) fun y12 =>
       some (y12,(some 2)))
      (bndE (local_version_s p0 (Item.mk y6.1.id y6.1.vr y6.1.vc y6.1.stamp y6.1.kind y6.1.num y6.1.re y6.1.im true)) (fun y14 n16 =>
       some (y14,(some n16)))
        (fun y14 =>
       some (y14,none))))))))
def local_Filter_l2 (p0:State) (p1:Pred) (y6:Pred):List Item→Know→(List Item)→(List Item)→Option (State × Option Int)
  | [],v20,v18,v19 =>
  some ((State.mk p0.r y6 v18 v19 v20 p0.count p0.clock (wr .i64 (p0.epoch + 1))),none)
  | x2e::xs2,v20,v18,v19 =>
  (bnd (know_With_s v20 x2e.id (Ver.mk x2e.vr x2e.vc)) fun y21 =>
   (bnd (eval_Has_s p1 x2e) fun y23 =>
    (br y23
     (chk (roomL v18.length 1)
      (local_Filter_l2 p0 p1 y6 xs2  y21 (v18++[x2e]) v19))
     (chk (roomL v19.length 1)
      (local_Filter_l2 p0 p1 y6 xs2  y21 v18 (v19++[x2e]))))))
def local_Filter_j1 (p0:State) (p1:Pred):Option (State × Option Int) :=
 (br (leI 1000000 p0.epoch)
  (bnd (fresh_State_s p0) fun y2 =>
   some (y2,(some 5)))
  (bnd (list_Both_s p0.store p0.out) fun y4 =>
   (bnd (fresh_Pred_s fuelR p1) fun y6 =>
    (chk (smallL y4)
      ((local_Filter_l2 p0 p1 y6) y4 (Know.mk (V8.mk 0 0 0 0 0 0 0 0) ([]:List Frag)) ([]:List Item) ([]:List Item))))))
def local_Filter_s (p0:State) (p1:Pred):Option (State × Option Int) :=
 (bnd (pred_May_s p1) fun y28 =>
  (br (!y28)
   (bnd (fresh_State_s p0) fun y31 =>
    some (y31,(some 1)))
   (br (eqI p0.f.op 1)
    (br (!eqI p1.op 1)
     (bnd (fresh_State_s p0) fun y35 =>
      some (y35,(some 1)))
     (local_Filter_j1 p0 p1 ))
    (local_Filter_j1 p0 p1 ))))
def local_Read_l1:List Item→(List Item)→Option ((List Item))
  | [],v2 =>
  some v2
  | x1e::xs1,v2 =>
  (br (!x1e.dead)
   (chk (roomL v2.length 1)
    (local_Read_l1 xs1  (v2++[x1e])))
   (local_Read_l1 xs1  v2))
def local_Read_s (p0:State):Option ((List Item)) :=
 (chk (smallL p0.store)
   ((local_Read_l1) p0.store ([]:List Item)))
variable {X:Task→Prop} (hX:Closed X) {Q:A→List Blk→Prop}
include hX
theorem local_within_c  {p0:Int} {p1:Int} {r:Bool} (h:local_within_s p0 p1=some r) (hQ:Q (.one (.p (.v (.bool r)))) []):X (.call 106 [iv p0,iv p1] [] Q):=by
  have K:=fun a (e:some a=some r)=>ret_some (f:=fun y=>.one (.p (.v (.bool y)))) (g:=fun y=>[]) e hQ
  unfold local_within_s at h
  refine call_intro hX Tryz.func106 rfl rfl ?_
  conv=>whnf
  repeat((first|refine dw ?_);conv=>whnf)
  revert h
  refine brk (fun c1 h=>?_) (fun c1 h=>?_)
  ·conv=>whnf
   repeat((first|refine dw ?_|refine bct c1 ?_);conv=>whnf)
   exact K _ h
  ·conv=>whnf
   repeat((first|refine dw ?_|refine bcf c1 ?_);conv=>whnf)
   exact K _ h
theorem local_holds_c  {p0:State} {p1:List Item} {p2:Bool} {r:Bool} (h:local_holds_s p0 p1 p2=some r) (hQ:Q (.one (.p (.v (.bool r)))) []):X (.call 107 [.agg (State.cs p0),.one (.p (.sl (p1.map Item.row))),.one (.p (.v (.bool p2)))] [] Q):=by
  have K:=fun a (e:some a=some r)=>ret_some (f:=fun y=>.one (.p (.v (.bool y)))) (g:=fun y=>[]) e hQ
  unfold local_holds_s at h
  refine call_intro hX Tryz.func107 rfl rfl ?_
  revert h
  refine chkk fun hs1 h=>?_
  conv=>whnf
  repeat((first|refine dw ?_|refine eqv_to (map_len _) ?_);conv=>whnf)
  refine loop_lisx0 (fun (v1:Int)=>pad [(2,.one (.p (.v (.bool p2)))),(0,.one (.ptr 0 0)),(5,.one (.p (.sl (p1.map Item.row)))),(0,iv (p1.length:Int)),(0,iv v1)] 27) (fun (v1:Int)=>[.box (State.cs p0)]) _ p1 (fun pre1 x1e xs1 v1  hl1 hi1 h ih1=>?_) (fun v1  hi1 h=>?_)  h
  ·rw [local_holds_l1] at h
   have am1:=at_mid hl1 hi1
   refine loop_intro hX ?_
   revert h
   refine bndk fun y2 e3 h=>?_
   conv=>whnf
   repeat((first|refine dw ?_|refine bct (lt_mid hl1 hi1) ?_|refine bct (at_in am1) ?_|refine bct (andt (at_in am1) rfl) ?_|refine row_in (at_row am1) ?_|refine bct (andt (at_in (at_nat am1)) rfl) ?_|refine row_in (at_row (at_nat am1)) ?_);conv=>whnf)
   refine eval_Has_c hX e3 ?_
   conv=>whnf
   repeat((first|refine dw ?_);conv=>whnf)
   revert h
   refine brk (fun c4 h=>?_) (fun c4 h=>?_)
   ·conv=>whnf
    repeat((first|refine dw ?_|refine bct c4 ?_);conv=>whnf)
    exact K _ h
   ·conv=>whnf
    repeat((first|refine dw ?_|refine bcf c4 ?_);conv=>whnf)
    revert h
    refine brk (fun c5 h=>?_) (fun c5 h=>?_)
    ·conv=>whnf
     repeat((first|refine dw ?_|refine bct c5 ?_);conv=>whnf)
     exact K _ h
    ·revert h
     refine bndk fun y6 e7 h=>?_
     conv=>whnf
     repeat((first|refine dw ?_|refine bcf c5 ?_);conv=>whnf)
     refine know_Has_c hX e7 ?_
     conv=>whnf
     repeat((first|refine dw ?_|refine bcf c5 ?_);conv=>whnf)
     revert h
     refine brk (fun c8 h=>?_) (fun c8 h=>?_)
     ·conv=>whnf
      repeat((first|refine dw ?_|refine bct c8 ?_);conv=>whnf)
      exact K _ h
     ·conv=>whnf
      repeat((first|refine dw ?_|refine bcf c8 ?_);conv=>whnf)
      exact ih1 _  (wrL hs1 hl1 hi1) h
  ·rw [local_holds_l1] at h
   refine loop_intro hX ?_
   conv=>whnf
   repeat((first|refine dw ?_|refine bcf (lt_end hi1) ?_);conv=>whnf)
   exact K _ h
theorem local_own_c  {p0:State} {r:Bool} (h:local_own_s p0=some r) (hQ:Q (.one (.p (.v (.bool r)))) []):X (.call 108 [.agg (State.cs p0)] [] Q):=by
  have K:=fun a (e:some a=some r)=>ret_some (f:=fun y=>.one (.p (.v (.bool y)))) (g:=fun y=>[]) e hQ
  obtain ⟨p0_r,p0_f,p0_store,p0_out,p0_k,p0_count,p0_clock,p0_epoch⟩:=p0
  unfold local_own_s at h
  dsimp only at h
  refine br_case h (fun c g=>?_) (fun c g=>?_)
  ·replace h:=g
   clear g
   obtain rfl:=eqI_t.1 c
   clear c
   refine call_intro hX Tryz.func108 rfl rfl ?_
   revert h
   refine chkk fun hs1 h=>?_
   conv=>whnf
   repeat((first|refine dw ?_|refine eqv_to (map_len _) ?_);conv=>whnf)
   refine loop_lisx0 (fun (v101:Int)=>pad [(1,.one (.ptr 0 0)),(1,iv 0),(7,.one (.p (.sl (p0_k.l.map Frag.row)))),(0,iv (p0_k.l.length:Int)),(0,iv v101)] 19) (fun (v101:Int)=>[.box [ic 1,ic p0_f.op,.p (.v (.string p0_f.text)),ic p0_f.n,.p (.v (.complex .f64 p0_f.re p0_f.im)),.p (.sl (Pred.rows p0_f.kids)),.p (.sl (p0_store.map Item.row)),.p (.sl (p0_out.map Item.row)),ic p0_k.star.x0,ic p0_k.star.x1,ic p0_k.star.x2,ic p0_k.star.x3,ic p0_k.star.x4,ic p0_k.star.x5,ic p0_k.star.x6,ic p0_k.star.x7,.p (.sl (p0_k.l.map Frag.row)),ic p0_count,ic p0_clock,ic p0_epoch]]) _ p0_k.l (fun pre1 x1e xs1 v101  hl1 hi1 h ih1=>?_) (fun v101  hi1 h=>?_)  h
   ·rw [local_own_l1] at h
    have am1:=at_mid hl1 hi1
    refine loop_intro hX ?_
    conv=>whnf
    repeat((first|refine dw ?_|refine bct (lt_mid hl1 hi1) ?_|refine bct (at_in am1) ?_|refine bct (andt (at_in am1) rfl) ?_|refine row_in (at_row am1) ?_|refine bct (andt (at_in (at_nat am1)) rfl) ?_|refine row_in (at_row (at_nat am1)) ?_);conv=>whnf)
    revert h
    refine brk (fun c102 h=>?_) (fun c102 h=>?_)
    ·conv=>whnf
     repeat((first|refine dw ?_|refine bct c102 ?_);conv=>whnf)
     exact K _ h
    ·conv=>whnf
     repeat((first|refine dw ?_|refine bcf c102 ?_);conv=>whnf)
     exact ih1 _  (wrL hs1 hl1 hi1) h
   ·rw [local_own_l1] at h
    refine loop_intro hX ?_
    conv=>whnf
    repeat((first|refine dw ?_|refine bcf (lt_end hi1) ?_);conv=>whnf)
    exact K _ h
  ·replace h:=g
   clear g c
   refine br_case h (fun c g=>?_) (fun c g=>?_)
   ·replace h:=g
    clear g
    obtain rfl:=eqI_t.1 c
    clear c
    refine call_intro hX Tryz.func108 rfl rfl ?_
    revert h
    refine chkk fun hs2 h=>?_
    conv=>whnf
    repeat((first|refine dw ?_|refine eqv_to (map_len _) ?_);conv=>whnf)
    refine loop_lisx0 (fun (v203:Int)=>pad [(1,.one (.ptr 0 0)),(1,iv 1),(7,.one (.p (.sl (p0_k.l.map Frag.row)))),(0,iv (p0_k.l.length:Int)),(0,iv v203)] 19) (fun (v203:Int)=>[.box [ic 2,ic p0_f.op,.p (.v (.string p0_f.text)),ic p0_f.n,.p (.v (.complex .f64 p0_f.re p0_f.im)),.p (.sl (Pred.rows p0_f.kids)),.p (.sl (p0_store.map Item.row)),.p (.sl (p0_out.map Item.row)),ic p0_k.star.x0,ic p0_k.star.x1,ic p0_k.star.x2,ic p0_k.star.x3,ic p0_k.star.x4,ic p0_k.star.x5,ic p0_k.star.x6,ic p0_k.star.x7,.p (.sl (p0_k.l.map Frag.row)),ic p0_count,ic p0_clock,ic p0_epoch]]) _ p0_k.l (fun pre2 x2e xs2 v203  hl2 hi2 h ih2=>?_) (fun v203  hi2 h=>?_)  h
    ·rw [local_own_l2] at h
     have am2:=at_mid hl2 hi2
     refine loop_intro hX ?_
     conv=>whnf
     repeat((first|refine dw ?_|refine bct (lt_mid hl2 hi2) ?_|refine bct (at_in am2) ?_|refine bct (andt (at_in am2) rfl) ?_|refine row_in (at_row am2) ?_|refine bct (andt (at_in (at_nat am2)) rfl) ?_|refine row_in (at_row (at_nat am2)) ?_);conv=>whnf)
     revert h
     refine brk (fun c204 h=>?_) (fun c204 h=>?_)
     ·conv=>whnf
      repeat((first|refine dw ?_|refine bct c204 ?_);conv=>whnf)
      exact K _ h
     ·conv=>whnf
      repeat((first|refine dw ?_|refine bcf c204 ?_);conv=>whnf)
      exact ih2 _  (wrL hs2 hl2 hi2) h
    ·rw [local_own_l2] at h
     refine loop_intro hX ?_
     conv=>whnf
     repeat((first|refine dw ?_|refine bcf (lt_end hi2) ?_);conv=>whnf)
     exact K _ h
   ·replace h:=g
    clear g c
    refine br_case h (fun c g=>?_) (fun c g=>?_)
    ·replace h:=g
     clear g
     obtain rfl:=eqI_t.1 c
     clear c
     refine call_intro hX Tryz.func108 rfl rfl ?_
     revert h
     refine chkk fun hs3 h=>?_
     conv=>whnf
     repeat((first|refine dw ?_|refine eqv_to (map_len _) ?_);conv=>whnf)
     refine loop_lisx0 (fun (v305:Int)=>pad [(1,.one (.ptr 0 0)),(1,iv 2),(7,.one (.p (.sl (p0_k.l.map Frag.row)))),(0,iv (p0_k.l.length:Int)),(0,iv v305)] 19) (fun (v305:Int)=>[.box [ic 3,ic p0_f.op,.p (.v (.string p0_f.text)),ic p0_f.n,.p (.v (.complex .f64 p0_f.re p0_f.im)),.p (.sl (Pred.rows p0_f.kids)),.p (.sl (p0_store.map Item.row)),.p (.sl (p0_out.map Item.row)),ic p0_k.star.x0,ic p0_k.star.x1,ic p0_k.star.x2,ic p0_k.star.x3,ic p0_k.star.x4,ic p0_k.star.x5,ic p0_k.star.x6,ic p0_k.star.x7,.p (.sl (p0_k.l.map Frag.row)),ic p0_count,ic p0_clock,ic p0_epoch]]) _ p0_k.l (fun pre3 x3e xs3 v305  hl3 hi3 h ih3=>?_) (fun v305  hi3 h=>?_)  h
     ·rw [local_own_l3] at h
      have am3:=at_mid hl3 hi3
      refine loop_intro hX ?_
      conv=>whnf
      repeat((first|refine dw ?_|refine bct (lt_mid hl3 hi3) ?_|refine bct (at_in am3) ?_|refine bct (andt (at_in am3) rfl) ?_|refine row_in (at_row am3) ?_|refine bct (andt (at_in (at_nat am3)) rfl) ?_|refine row_in (at_row (at_nat am3)) ?_);conv=>whnf)
      revert h
      refine brk (fun c306 h=>?_) (fun c306 h=>?_)
      ·conv=>whnf
       repeat((first|refine dw ?_|refine bct c306 ?_);conv=>whnf)
       exact K _ h
      ·conv=>whnf
       repeat((first|refine dw ?_|refine bcf c306 ?_);conv=>whnf)
       exact ih3 _  (wrL hs3 hl3 hi3) h
     ·rw [local_own_l3] at h
      refine loop_intro hX ?_
      conv=>whnf
      repeat((first|refine dw ?_|refine bcf (lt_end hi3) ?_);conv=>whnf)
      exact K _ h
    ·replace h:=g
     clear g c
     refine br_case h (fun c g=>?_) (fun c g=>?_)
     ·replace h:=g
      clear g
      obtain rfl:=eqI_t.1 c
      clear c
      refine call_intro hX Tryz.func108 rfl rfl ?_
      revert h
      refine chkk fun hs4 h=>?_
      conv=>whnf
      repeat((first|refine dw ?_|refine eqv_to (map_len _) ?_);conv=>whnf)
      refine loop_lisx0 (fun (v407:Int)=>pad [(1,.one (.ptr 0 0)),(1,iv 3),(7,.one (.p (.sl (p0_k.l.map Frag.row)))),(0,iv (p0_k.l.length:Int)),(0,iv v407)] 19) (fun (v407:Int)=>[.box [ic 4,ic p0_f.op,.p (.v (.string p0_f.text)),ic p0_f.n,.p (.v (.complex .f64 p0_f.re p0_f.im)),.p (.sl (Pred.rows p0_f.kids)),.p (.sl (p0_store.map Item.row)),.p (.sl (p0_out.map Item.row)),ic p0_k.star.x0,ic p0_k.star.x1,ic p0_k.star.x2,ic p0_k.star.x3,ic p0_k.star.x4,ic p0_k.star.x5,ic p0_k.star.x6,ic p0_k.star.x7,.p (.sl (p0_k.l.map Frag.row)),ic p0_count,ic p0_clock,ic p0_epoch]]) _ p0_k.l (fun pre4 x4e xs4 v407  hl4 hi4 h ih4=>?_) (fun v407  hi4 h=>?_)  h
      ·rw [local_own_l4] at h
       have am4:=at_mid hl4 hi4
       refine loop_intro hX ?_
       conv=>whnf
       repeat((first|refine dw ?_|refine bct (lt_mid hl4 hi4) ?_|refine bct (at_in am4) ?_|refine bct (andt (at_in am4) rfl) ?_|refine row_in (at_row am4) ?_|refine bct (andt (at_in (at_nat am4)) rfl) ?_|refine row_in (at_row (at_nat am4)) ?_);conv=>whnf)
       revert h
       refine brk (fun c408 h=>?_) (fun c408 h=>?_)
       ·conv=>whnf
        repeat((first|refine dw ?_|refine bct c408 ?_);conv=>whnf)
        exact K _ h
       ·conv=>whnf
        repeat((first|refine dw ?_|refine bcf c408 ?_);conv=>whnf)
        exact ih4 _  (wrL hs4 hl4 hi4) h
      ·rw [local_own_l4] at h
       refine loop_intro hX ?_
       conv=>whnf
       repeat((first|refine dw ?_|refine bcf (lt_end hi4) ?_);conv=>whnf)
       exact K _ h
     ·replace h:=g
      clear g c
      refine br_case h (fun c g=>?_) (fun c g=>?_)
      ·replace h:=g
       clear g
       obtain rfl:=eqI_t.1 c
       clear c
       refine call_intro hX Tryz.func108 rfl rfl ?_
       revert h
       refine chkk fun hs5 h=>?_
       conv=>whnf
       repeat((first|refine dw ?_|refine eqv_to (map_len _) ?_);conv=>whnf)
       refine loop_lisx0 (fun (v509:Int)=>pad [(1,.one (.ptr 0 0)),(1,iv 4),(7,.one (.p (.sl (p0_k.l.map Frag.row)))),(0,iv (p0_k.l.length:Int)),(0,iv v509)] 19) (fun (v509:Int)=>[.box [ic 5,ic p0_f.op,.p (.v (.string p0_f.text)),ic p0_f.n,.p (.v (.complex .f64 p0_f.re p0_f.im)),.p (.sl (Pred.rows p0_f.kids)),.p (.sl (p0_store.map Item.row)),.p (.sl (p0_out.map Item.row)),ic p0_k.star.x0,ic p0_k.star.x1,ic p0_k.star.x2,ic p0_k.star.x3,ic p0_k.star.x4,ic p0_k.star.x5,ic p0_k.star.x6,ic p0_k.star.x7,.p (.sl (p0_k.l.map Frag.row)),ic p0_count,ic p0_clock,ic p0_epoch]]) _ p0_k.l (fun pre5 x5e xs5 v509  hl5 hi5 h ih5=>?_) (fun v509  hi5 h=>?_)  h
       ·rw [local_own_l5] at h
        have am5:=at_mid hl5 hi5
        refine loop_intro hX ?_
        conv=>whnf
        repeat((first|refine dw ?_|refine bct (lt_mid hl5 hi5) ?_|refine bct (at_in am5) ?_|refine bct (andt (at_in am5) rfl) ?_|refine row_in (at_row am5) ?_|refine bct (andt (at_in (at_nat am5)) rfl) ?_|refine row_in (at_row (at_nat am5)) ?_);conv=>whnf)
        revert h
        refine brk (fun c510 h=>?_) (fun c510 h=>?_)
        ·conv=>whnf
         repeat((first|refine dw ?_|refine bct c510 ?_);conv=>whnf)
         exact K _ h
        ·conv=>whnf
         repeat((first|refine dw ?_|refine bcf c510 ?_);conv=>whnf)
         exact ih5 _  (wrL hs5 hl5 hi5) h
       ·rw [local_own_l5] at h
        refine loop_intro hX ?_
        conv=>whnf
        repeat((first|refine dw ?_|refine bcf (lt_end hi5) ?_);conv=>whnf)
        exact K _ h
      ·replace h:=g
       clear g c
       refine br_case h (fun c g=>?_) (fun c g=>?_)
       ·replace h:=g
        clear g
        obtain rfl:=eqI_t.1 c
        clear c
        refine call_intro hX Tryz.func108 rfl rfl ?_
        revert h
        refine chkk fun hs6 h=>?_
        conv=>whnf
        repeat((first|refine dw ?_|refine eqv_to (map_len _) ?_);conv=>whnf)
        refine loop_lisx0 (fun (v611:Int)=>pad [(1,.one (.ptr 0 0)),(1,iv 5),(7,.one (.p (.sl (p0_k.l.map Frag.row)))),(0,iv (p0_k.l.length:Int)),(0,iv v611)] 19) (fun (v611:Int)=>[.box [ic 6,ic p0_f.op,.p (.v (.string p0_f.text)),ic p0_f.n,.p (.v (.complex .f64 p0_f.re p0_f.im)),.p (.sl (Pred.rows p0_f.kids)),.p (.sl (p0_store.map Item.row)),.p (.sl (p0_out.map Item.row)),ic p0_k.star.x0,ic p0_k.star.x1,ic p0_k.star.x2,ic p0_k.star.x3,ic p0_k.star.x4,ic p0_k.star.x5,ic p0_k.star.x6,ic p0_k.star.x7,.p (.sl (p0_k.l.map Frag.row)),ic p0_count,ic p0_clock,ic p0_epoch]]) _ p0_k.l (fun pre6 x6e xs6 v611  hl6 hi6 h ih6=>?_) (fun v611  hi6 h=>?_)  h
        ·rw [local_own_l6] at h
         have am6:=at_mid hl6 hi6
         refine loop_intro hX ?_
         conv=>whnf
         repeat((first|refine dw ?_|refine bct (lt_mid hl6 hi6) ?_|refine bct (at_in am6) ?_|refine bct (andt (at_in am6) rfl) ?_|refine row_in (at_row am6) ?_|refine bct (andt (at_in (at_nat am6)) rfl) ?_|refine row_in (at_row (at_nat am6)) ?_);conv=>whnf)
         revert h
         refine brk (fun c612 h=>?_) (fun c612 h=>?_)
         ·conv=>whnf
          repeat((first|refine dw ?_|refine bct c612 ?_);conv=>whnf)
          exact K _ h
         ·conv=>whnf
          repeat((first|refine dw ?_|refine bcf c612 ?_);conv=>whnf)
          exact ih6 _  (wrL hs6 hl6 hi6) h
        ·rw [local_own_l6] at h
         refine loop_intro hX ?_
         conv=>whnf
         repeat((first|refine dw ?_|refine bcf (lt_end hi6) ?_);conv=>whnf)
         exact K _ h
       ·replace h:=g
        clear g c
        refine br_case h (fun c g=>?_) (fun c g=>?_)
        ·replace h:=g
         clear g
         obtain rfl:=eqI_t.1 c
         clear c
         refine call_intro hX Tryz.func108 rfl rfl ?_
         revert h
         refine chkk fun hs7 h=>?_
         conv=>whnf
         repeat((first|refine dw ?_|refine eqv_to (map_len _) ?_);conv=>whnf)
         refine loop_lisx0 (fun (v713:Int)=>pad [(1,.one (.ptr 0 0)),(1,iv 6),(7,.one (.p (.sl (p0_k.l.map Frag.row)))),(0,iv (p0_k.l.length:Int)),(0,iv v713)] 19) (fun (v713:Int)=>[.box [ic 7,ic p0_f.op,.p (.v (.string p0_f.text)),ic p0_f.n,.p (.v (.complex .f64 p0_f.re p0_f.im)),.p (.sl (Pred.rows p0_f.kids)),.p (.sl (p0_store.map Item.row)),.p (.sl (p0_out.map Item.row)),ic p0_k.star.x0,ic p0_k.star.x1,ic p0_k.star.x2,ic p0_k.star.x3,ic p0_k.star.x4,ic p0_k.star.x5,ic p0_k.star.x6,ic p0_k.star.x7,.p (.sl (p0_k.l.map Frag.row)),ic p0_count,ic p0_clock,ic p0_epoch]]) _ p0_k.l (fun pre7 x7e xs7 v713  hl7 hi7 h ih7=>?_) (fun v713  hi7 h=>?_)  h
         ·rw [local_own_l7] at h
          have am7:=at_mid hl7 hi7
          refine loop_intro hX ?_
          conv=>whnf
          repeat((first|refine dw ?_|refine bct (lt_mid hl7 hi7) ?_|refine bct (at_in am7) ?_|refine bct (andt (at_in am7) rfl) ?_|refine row_in (at_row am7) ?_|refine bct (andt (at_in (at_nat am7)) rfl) ?_|refine row_in (at_row (at_nat am7)) ?_);conv=>whnf)
          revert h
          refine brk (fun c714 h=>?_) (fun c714 h=>?_)
          ·conv=>whnf
           repeat((first|refine dw ?_|refine bct c714 ?_);conv=>whnf)
           exact K _ h
          ·conv=>whnf
           repeat((first|refine dw ?_|refine bcf c714 ?_);conv=>whnf)
           exact ih7 _  (wrL hs7 hl7 hi7) h
         ·rw [local_own_l7] at h
          refine loop_intro hX ?_
          conv=>whnf
          repeat((first|refine dw ?_|refine bcf (lt_end hi7) ?_);conv=>whnf)
          exact K _ h
        ·replace h:=g
         clear g c
         refine br_case h (fun c g=>?_) (fun c g=>?_)
         ·replace h:=g
          clear g
          obtain rfl:=eqI_t.1 c
          clear c
          refine call_intro hX Tryz.func108 rfl rfl ?_
          revert h
          refine chkk fun hs8 h=>?_
          conv=>whnf
          repeat((first|refine dw ?_|refine eqv_to (map_len _) ?_);conv=>whnf)
          refine loop_lisx0 (fun (v815:Int)=>pad [(1,.one (.ptr 0 0)),(1,iv 7),(7,.one (.p (.sl (p0_k.l.map Frag.row)))),(0,iv (p0_k.l.length:Int)),(0,iv v815)] 19) (fun (v815:Int)=>[.box [ic 8,ic p0_f.op,.p (.v (.string p0_f.text)),ic p0_f.n,.p (.v (.complex .f64 p0_f.re p0_f.im)),.p (.sl (Pred.rows p0_f.kids)),.p (.sl (p0_store.map Item.row)),.p (.sl (p0_out.map Item.row)),ic p0_k.star.x0,ic p0_k.star.x1,ic p0_k.star.x2,ic p0_k.star.x3,ic p0_k.star.x4,ic p0_k.star.x5,ic p0_k.star.x6,ic p0_k.star.x7,.p (.sl (p0_k.l.map Frag.row)),ic p0_count,ic p0_clock,ic p0_epoch]]) _ p0_k.l (fun pre8 x8e xs8 v815  hl8 hi8 h ih8=>?_) (fun v815  hi8 h=>?_)  h
          ·rw [local_own_l8] at h
           have am8:=at_mid hl8 hi8
           refine loop_intro hX ?_
           conv=>whnf
           repeat((first|refine dw ?_|refine bct (lt_mid hl8 hi8) ?_|refine bct (at_in am8) ?_|refine bct (andt (at_in am8) rfl) ?_|refine row_in (at_row am8) ?_|refine bct (andt (at_in (at_nat am8)) rfl) ?_|refine row_in (at_row (at_nat am8)) ?_);conv=>whnf)
           revert h
           refine brk (fun c816 h=>?_) (fun c816 h=>?_)
           ·conv=>whnf
            repeat((first|refine dw ?_|refine bct c816 ?_);conv=>whnf)
            exact K _ h
           ·conv=>whnf
            repeat((first|refine dw ?_|refine bcf c816 ?_);conv=>whnf)
            exact ih8 _  (wrL hs8 hl8 hi8) h
          ·rw [local_own_l8] at h
           refine loop_intro hX ?_
           conv=>whnf
           repeat((first|refine dw ?_|refine bcf (lt_end hi8) ?_);conv=>whnf)
           exact K _ h
         ·replace h:=g
          clear g c
          refine call_intro hX Tryz.func108 rfl rfl ?_
          conv=>whnf
          repeat((first|refine dw ?_|refine eqv_to (map_len _) ?_);conv=>whnf)
          refine loop_fuel0 (pad [(1,.one (.ptr 0 0)),(1,iv (wr .i64 (p0_r - 1))),(7,.one (.p (.sl (p0_k.l.map Frag.row)))),(0,iv (p0_k.l.length:Int)),(0,iv 0)] 19) [.box [ic p0_r,ic p0_f.op,.p (.v (.string p0_f.text)),ic p0_f.n,.p (.v (.complex .f64 p0_f.re p0_f.im)),.p (.sl (Pred.rows p0_f.kids)),.p (.sl (p0_store.map Item.row)),.p (.sl (p0_out.map Item.row)),ic p0_k.star.x0,ic p0_k.star.x1,ic p0_k.star.x2,ic p0_k.star.x3,ic p0_k.star.x4,ic p0_k.star.x5,ic p0_k.star.x6,ic p0_k.star.x7,.p (.sl (p0_k.l.map Frag.row)),ic p0_count,ic p0_clock,ic p0_epoch]] _ (fun _ h=>?_) (fun fl9  h ih9=>?_) fuelN  h
          ·rw [local_own_l9] at h
           cases h
          ·rw [local_own_l9] at h
           refine loop_intro hX ?_
           exact no_some h
theorem local_May_c  {p0:State} {r:Bool} (h:local_May_s p0=some r) (hQ:Q (.one (.p (.v (.bool r)))) []):X (.call 39 [.agg (State.cs p0)] [] Q):=by
  have K:=fun a (e:some a=some r)=>ret_some (f:=fun y=>.one (.p (.v (.bool y)))) (g:=fun y=>[]) e hQ
  unfold local_May_s at h
  refine call_intro hX Tryz.func39 rfl rfl ?_
  conv=>whnf
  repeat((first|refine dw ?_);conv=>whnf)
  revert h
  refine brk (fun c1 h=>?_) (fun c1 h=>?_)
  ·conv=>whnf
   repeat((first|refine dw ?_|refine bct c1 ?_);conv=>whnf)
   exact K _ h
  ·conv=>whnf
   repeat((first|refine dw ?_|refine bcf c1 ?_);conv=>whnf)
   revert h
   refine brk (fun c2 h=>?_) (fun c2 h=>?_)
   ·conv=>whnf
    repeat((first|refine dw ?_|refine bct c2 ?_);conv=>whnf)
    exact K _ h
   ·revert h
    refine bndk fun y3 e4 h=>?_
    conv=>whnf
    repeat((first|refine dw ?_|refine bcf c2 ?_);conv=>whnf)
    refine pred_May_c hX e4 ?_
    conv=>whnf
    repeat((first|refine dw ?_|refine bcf c2 ?_);conv=>whnf)
    revert h
    refine brk (fun c5 h=>?_) (fun c5 h=>?_)
    ·conv=>whnf
     repeat((first|refine dw ?_|refine bct c5 ?_);conv=>whnf)
     exact K _ h
    ·revert h
     refine bndk fun y6 e7 h=>?_
     conv=>whnf
     repeat((first|refine dw ?_|refine bcf c5 ?_);conv=>whnf)
     refine list_May_c hX e7 ?_
     conv=>whnf
     repeat((first|refine dw ?_|refine bcf c5 ?_);conv=>whnf)
     revert h
     refine brk (fun c8 h=>?_) (fun c8 h=>?_)
     ·conv=>whnf
      repeat((first|refine dw ?_|refine bct c8 ?_);conv=>whnf)
      exact K _ h
     ·revert h
      refine bndk fun y9 e10 h=>?_
      conv=>whnf
      repeat((first|refine dw ?_|refine bcf c8 ?_);conv=>whnf)
      refine list_May_c hX e10 ?_
      conv=>whnf
      repeat((first|refine dw ?_|refine bcf c8 ?_);conv=>whnf)
      revert h
      refine brk (fun c11 h=>?_) (fun c11 h=>?_)
      ·conv=>whnf
       repeat((first|refine dw ?_|refine bct c11 ?_);conv=>whnf)
       exact K _ h
      ·revert h
       refine bndk fun y12 e13 h=>?_
       conv=>whnf
       repeat((first|refine dw ?_|refine bcf c11 ?_);conv=>whnf)
       refine know_May_c hX e13 ?_
       conv=>whnf
       repeat((first|refine dw ?_|refine bcf c11 ?_);conv=>whnf)
       revert h
       refine brk (fun c14 h=>?_) (fun c14 h=>?_)
       ·conv=>whnf
        repeat((first|refine dw ?_|refine bct c14 ?_);conv=>whnf)
        exact K _ h
       ·revert h
        refine bndk fun y15 e16 h=>?_
        conv=>whnf
        repeat((first|refine dw ?_|refine bcf c14 ?_);conv=>whnf)
        refine local_within_c hX e16 ?_
        conv=>whnf
        repeat((first|refine dw ?_);conv=>whnf)
        revert h
        refine brk (fun c17 h=>?_) (fun c17 h=>?_)
        ·conv=>whnf
         repeat((first|refine dw ?_|refine bct c17 ?_);conv=>whnf)
         exact K _ h
        ·revert h
         refine bndk fun y18 e19 h=>?_
         conv=>whnf
         repeat((first|refine dw ?_|refine bcf c17 ?_);conv=>whnf)
         refine local_within_c hX e19 ?_
         conv=>whnf
         repeat((first|refine dw ?_|refine bcf c17 ?_);conv=>whnf)
         revert h
         refine brk (fun c20 h=>?_) (fun c20 h=>?_)
         ·conv=>whnf
          repeat((first|refine dw ?_|refine bct c20 ?_);conv=>whnf)
          exact K _ h
         ·revert h
          refine bndk fun y21 e22 h=>?_
          conv=>whnf
          repeat((first|refine dw ?_|refine bcf c20 ?_);conv=>whnf)
          refine local_within_c hX e22 ?_
          conv=>whnf
          repeat((first|refine dw ?_|refine bcf c20 ?_);conv=>whnf)
          revert h
          refine brk (fun c23 h=>?_) (fun c23 h=>?_)
          ·conv=>whnf
           repeat((first|refine dw ?_|refine bct c23 ?_);conv=>whnf)
           exact K _ h
          ·conv=>whnf
           repeat((first|refine dw ?_|refine bcf c23 ?_|refine eqv_to (map_len _) ?_);conv=>whnf)
           revert h
           refine brk (fun c24 h=>?_) (fun c24 h=>?_)
           ·conv=>whnf
            repeat((first|refine dw ?_|refine bct c24 ?_);conv=>whnf)
            exact K _ h
           ·revert h
            refine bndk fun y25 e26 h=>?_
            conv=>whnf
            repeat((first|refine dw ?_|refine bcf c24 ?_);conv=>whnf)
            refine list_Both_c hX e26 ?_
            conv=>whnf
            repeat((first|refine dw ?_|refine bcf c24 ?_|refine eqv_to (map_len _) ?_);conv=>whnf)
            revert h
            refine brk (fun c27 h=>?_) (fun c27 h=>?_)
            ·conv=>whnf
             repeat((first|refine dw ?_|refine bct c27 ?_);conv=>whnf)
             exact K _ h
            ·revert h
             refine bndk fun y28 e29 h=>?_
             conv=>whnf
             repeat((first|refine dw ?_|refine bcf c27 ?_);conv=>whnf)
             refine local_holds_c hX e29 ?_
             conv=>whnf
             repeat((first|refine dw ?_);conv=>whnf)
             revert h
             refine brk (fun c30 h=>?_) (fun c30 h=>?_)
             ·revert h
              refine bndk fun y31 e32 h=>?_
              conv=>whnf
              repeat((first|refine dw ?_|refine bct c30 ?_);conv=>whnf)
              refine local_holds_c hX e32 ?_
              conv=>whnf
              repeat((first|refine dw ?_|refine bct c30 ?_);conv=>whnf)
              revert h
              refine brk (fun c33 h=>?_) (fun c33 h=>?_)
              ·revert h
               refine bndk fun y34 e35 h=>?_
               conv=>whnf
               repeat((first|refine dw ?_|refine bct c33 ?_);conv=>whnf)
               refine local_own_c hX e35 ?_
               conv=>whnf
               repeat((first|refine dw ?_|refine bct c33 ?_);conv=>whnf)
               exact K _ h
              ·conv=>whnf
               repeat((first|refine dw ?_|refine bcf c33 ?_);conv=>whnf)
               exact K _ h
             ·conv=>whnf
              repeat((first|refine dw ?_|refine bcf c30 ?_);conv=>whnf)
              exact K _ h
theorem local_New_c  {p0:Int} {p1:Pred} {r:State × Option Int} (h:local_New_s p0 p1=some r) (hQ:Q (.tup [.agg (State.cs r.1),errA 159 r.2]) []):X (.call 45 [iv p0,.agg (Pred.cs p1)] [] Q):=by
  have K:=fun a (e:some a=some r)=>ret_some (f:=fun y=>.tup [.agg (State.cs y.1),errA 159 y.2]) (g:=fun y=>[]) e hQ
  unfold local_New_s at h
  refine call_nz hX ?_
  conv=>whnf
  refine call_intro hX Tryz.func45 rfl rfl ?_
  conv=>whnf
  repeat((first|refine dw ?_);conv=>whnf)
  revert h
  refine brk (fun c1 h=>?_) (fun c1 h=>?_)
  ·conv=>whnf
   repeat((first|refine dw ?_|refine bct c1 ?_);conv=>whnf)
   exact K _ h
  ·conv=>whnf
   repeat((first|refine dw ?_|refine bcf c1 ?_);conv=>whnf)
   revert h
   refine brk (fun c2 h=>?_) (fun c2 h=>?_)
   ·conv=>whnf
    repeat((first|refine dw ?_|refine bct c2 ?_);conv=>whnf)
    exact K _ h
   ·revert h
    refine bndk fun y3 e4 h=>?_
    conv=>whnf
    repeat((first|refine dw ?_|refine bcf c2 ?_);conv=>whnf)
    refine pred_May_c hX e4 ?_
    conv=>whnf
    repeat((first|refine dw ?_|refine bcf c2 ?_);conv=>whnf)
    revert h
    refine brk (fun c5 h=>?_) (fun c5 h=>?_)
    ·conv=>whnf
     repeat((first|refine dw ?_|refine bct c5 ?_);conv=>whnf)
     exact K _ h
    ·revert h
     refine bndk fun y6 e7 h=>?_
     conv=>whnf
     repeat((first|refine dw ?_|refine bcf c5 ?_);conv=>whnf)
     refine fresh_Pred_c hX fuelR e7 ?_
     conv=>whnf
     repeat((first|refine dw ?_);conv=>whnf)
     exact K _ h
theorem local_stands_c  {p0:State} {p1:ByteArray} {r:Item × Bool} (h:local_stands_s p0 p1=some r) (hQ:Q (.tup [.agg (Item.cs r.1),.one (.p (.v (.bool r.2)))]) []):X (.call 177 [.agg (State.cs p0),.one (.p (.v (.string p1)))] [] Q):=by
  have K:=fun a (e:some a=some r)=>ret_some (f:=fun y=>.tup [.agg (Item.cs y.1),.one (.p (.v (.bool y.2)))]) (g:=fun y=>[]) e hQ
  unfold local_stands_s at h
  refine call_intro hX Tryz.func177 rfl rfl ?_
  revert h
  refine bndk fun y1 e2 h=>?_
  conv=>whnf
  repeat((first|refine dw ?_);conv=>whnf)
  refine list_Get_c hX e2 ?_
  conv=>whnf
  repeat((first|refine dw ?_);conv=>whnf)
  revert h
  refine brk (fun c3 h=>?_) (fun c3 h=>?_)
  ·conv=>whnf
   repeat((first|refine dw ?_|refine bct c3 ?_);conv=>whnf)
   exact K _ h
  ·revert h
   refine bndk fun y4 e5 h=>?_
   conv=>whnf
   repeat((first|refine dw ?_|refine bcf c3 ?_);conv=>whnf)
   refine list_Get_c hX e5 ?_
   conv=>whnf
   repeat((first|refine dw ?_);conv=>whnf)
   exact K _ h
theorem local_might_c  {p0:Item} {r:Bool} (h:local_might_s p0=some r) (hQ:Q (.one (.p (.v (.bool r)))) []):X (.call 178 [.agg (Item.cs p0)] [] Q):=by
 unfold local_might_s at h
 refine call_intro hX Tryz.func178 rfl rfl ?_
 revert h
 refine bndk fun y1 e2 h=>?_
 conv=>whnf
 repeat((first|refine dw ?_);conv=>whnf)
 refine item_May_c hX e2 ?_
 conv=>whnf
 repeat((first|refine dw ?_);conv=>whnf)
 exact ret_some (f:=fun y=>.one (.p (.v (.bool y)))) (g:=fun y=>[]) h hQ
theorem local_version_c  {p0:State} {p1:Item} {r:State × Option Int} (h:local_version_s p0 p1=some r) (hQ:Q (.tup [.agg (State.cs r.1),errA 159 r.2]) []):X (.call 179 [.agg (State.cs p0),.agg (Item.cs p1)] [] Q):=by
  have K:=fun a (e:some a=some r)=>ret_some (f:=fun y=>.tup [.agg (State.cs y.1),errA 159 y.2]) (g:=fun y=>[]) e hQ
  unfold local_version_s at h
  refine call_nz hX ?_
  conv=>whnf
  refine call_intro hX Tryz.func179 rfl rfl ?_
  conv=>whnf
  repeat((first|refine dw ?_);conv=>whnf)
  revert h
  refine brk (fun c1 h=>?_) (fun c1 h=>?_)
  ·revert h
   refine bndk fun y2 e3 h=>?_
   conv=>whnf
   repeat((first|refine dw ?_|refine bct c1 ?_);conv=>whnf)
   refine fresh_State_c hX e3 ?_
   conv=>whnf
   repeat((first|refine dw ?_);conv=>whnf)
   exact K _ h
  ·conv=>whnf
   repeat((first|refine dw ?_|refine bcf c1 ?_);conv=>whnf)
   revert h
   refine brk (fun c4 h=>?_) (fun c4 h=>?_)
   ·revert h
    refine bndk fun y5 e6 h=>?_
    conv=>whnf
    repeat((first|refine dw ?_|refine bct c4 ?_);conv=>whnf)
    refine fresh_State_c hX e6 ?_
    conv=>whnf
    repeat((first|refine dw ?_);conv=>whnf)
    exact K _ h
   ·revert h
    refine bndk fun y7 e8 h=>?_
    conv=>whnf
    repeat((first|refine dw ?_|refine bcf c4 ?_);conv=>whnf)
    refine fresh_State_c hX e8 ?_
    revert h
    refine bndk fun y9 e10 h=>?_
    conv=>whnf
    repeat((first|refine dw ?_);conv=>whnf)
    refine know_Own_c hX e10 ?_
    revert h
    refine bndk fun y11 e12 h=>?_
    conv=>whnf
    repeat((first|refine dw ?_);conv=>whnf)
    refine list_Drop_c hX e12 ?_
    revert h
    refine bndk fun y13 e14 h=>?_
    conv=>whnf
    repeat((first|refine dw ?_);conv=>whnf)
    refine list_Drop_c hX e14 ?_
    revert h
    refine bndk fun y15 e16 h=>?_
    conv=>whnf
    repeat((first|refine dw ?_);conv=>whnf)
    refine eval_Has_c hX e16 ?_
    conv=>whnf
    repeat((first|refine dw ?_);conv=>whnf)
    revert h
    refine brk (fun c17 h=>?_) (fun c17 h=>?_)
    ·revert h
     refine bndk fun y18 e19 h=>?_
     conv=>whnf
     repeat((first|refine dw ?_|refine bct c17 ?_);conv=>whnf)
     refine list_Put_c hX e19 ?_
     conv=>whnf
     repeat((first|refine dw ?_);conv=>whnf)
     exact K _ h
    ·revert h
     refine bndk fun y20 e21 h=>?_
     conv=>whnf
     repeat((first|refine dw ?_|refine bcf c17 ?_);conv=>whnf)
     refine list_Put_c hX e21 ?_
     conv=>whnf
     repeat((first|refine dw ?_);conv=>whnf)
     exact K _ h
theorem local_Create_c  {p0:State} {p1:ByteArray} {p2:ByteArray} {p3:Int} {p4r:Nat} {p4i:Nat} {r:State × Option Int} (h:local_Create_s p0 p1 p2 p3 p4r p4i=some r) (hQ:Q (.tup [.agg (State.cs r.1),errA 159 r.2]) []):X (.call 114 [.agg (State.cs p0),.one (.p (.v (.string p1))),.one (.p (.v (.string p2))),iv p3,.one (.p (.v (.complex .f64 p4r p4i)))] [] Q):=by
  have K:=fun a (e:some a=some r)=>ret_some (f:=fun y=>.tup [.agg (State.cs y.1),errA 159 y.2]) (g:=fun y=>[]) e hQ
  unfold local_Create_s at h
  refine call_nz hX ?_
  conv=>whnf
  refine call_intro hX Tryz.func114 rfl rfl ?_
  replace h:=bnd_some h
  obtain ⟨y1,e2,h⟩:=h
  conv=>whnf
  repeat((first|refine dw ?_);conv=>whnf)
  refine local_stands_c hX e2 ?_
  apply join0 (X:=X) (r:=r) (pad [(5,.one (.ptr 0 0)),(4,.one (.ptr 1 0)),(1,.one (.ptr 6 0))] 51) ([.box (State.cs p0),.box [ic 0,ic 0,.p (.v (.string ⟨#[]⟩)),ic 0,.p (.v (.complex .f64 0 0)),.own 2,.own 3,.own 4,ic 0,ic 0,ic 0,ic 0,ic 0,ic 0,ic 0,ic 0,.own 5,ic 0,ic 0,ic 0],.rows 0 [],.rows 0 [],.rows 0 [],.rows 0 [],.box [.p (.v (.string p1)),ic 0,ic 0,ic 0,.p (.v (.string p2)),ic p3,.p (.v (.complex .f64 p4r p4i)),.p (.v (.bool false))]])
  ·intro tl1
   replace h:=bnd_some h
   obtain ⟨y6,e7,h⟩:=h
   conv=>whnf
   repeat((first|refine dw ?_);conv=>whnf)
   refine local_might_c hX e7 ?_
   conv=>whnf
   repeat((first|refine dw ?_);conv=>whnf)
   refine br_some h (fun c8 g=>?_) (fun c8 g=>?_)
   ·replace h:=g
    clear g
    replace h:=bnd_some h
    obtain ⟨y9,e10,h⟩:=h
    conv=>whnf
    repeat((first|refine dw ?_|refine bct c8 ?_);conv=>whnf)
    refine fresh_State_c hX e10 ?_
    conv=>whnf
    repeat((first|refine dw ?_);conv=>whnf)
    exact K _ h
   ·replace h:=g
    clear g
    conv=>whnf
    repeat((first|refine dw ?_|refine bcf c8 ?_);conv=>whnf)
    refine br_some h (fun c11 g=>?_) (fun c11 g=>?_)
    ·replace h:=g
     clear g
     conv=>whnf
     repeat((first|refine dw ?_|refine bct c11 ?_);conv=>whnf)
     refine br_some h (fun c12 g=>?_) (fun c12 g=>?_)
     ·replace h:=g
      clear g
      replace h:=bnd_some h
      obtain ⟨y13,e14,h⟩:=h
      conv=>whnf
      repeat((first|refine dw ?_|refine bct c12 ?_);conv=>whnf)
      refine fresh_State_c hX e14 ?_
      conv=>whnf
      repeat((first|refine dw ?_);conv=>whnf)
      exact K _ h
     ·replace h:=g
      clear g
      conv=>whnf
      repeat((first|refine dw ?_|refine bcf c12 ?_);conv=>whnf)
      refine br_some h (fun c15 g=>?_) (fun c15 g=>?_)
      ·replace h:=g
       clear g
       conv=>whnf
       repeat((first|refine dw ?_|refine bct c15 ?_|refine eqv_to (map_len _) ?_);conv=>whnf)
       refine br_some h (fun c16 g=>?_) (fun c16 g=>?_)
       ·replace h:=g
        clear g
        replace h:=bnd_some h
        obtain ⟨y17,e18,h⟩:=h
        conv=>whnf
        repeat((first|refine dw ?_|refine bct c16 ?_);conv=>whnf)
        refine fresh_State_c hX e18 ?_
        conv=>whnf
        repeat((first|refine dw ?_);conv=>whnf)
        exact K _ h
       ·replace h:=g
        clear g
        conv=>whnf
        repeat((first|refine dw ?_|refine bcf c16 ?_);conv=>whnf)
        exact tl1.h  h
      ·replace h:=g
       clear g
       conv=>whnf
       repeat((first|refine dw ?_|refine bcf c15 ?_);conv=>whnf)
       exact tl1.h  h
    ·replace h:=g
     clear g
     conv=>whnf
     repeat((first|refine dw ?_|refine bcf c11 ?_);conv=>whnf)
     refine br_some h (fun c19 g=>?_) (fun c19 g=>?_)
     ·replace h:=g
      clear g
      conv=>whnf
      repeat((first|refine dw ?_|refine bct c19 ?_|refine eqv_to (map_len _) ?_);conv=>whnf)
      refine br_some h (fun c20 g=>?_) (fun c20 g=>?_)
      ·replace h:=g
       clear g
       replace h:=bnd_some h
       obtain ⟨y21,e22,h⟩:=h
       conv=>whnf
       repeat((first|refine dw ?_|refine bct c20 ?_);conv=>whnf)
       refine fresh_State_c hX e22 ?_
       conv=>whnf
       repeat((first|refine dw ?_);conv=>whnf)
       exact K _ h
      ·replace h:=g
       clear g
       conv=>whnf
       repeat((first|refine dw ?_|refine bcf c20 ?_);conv=>whnf)
       exact tl1.h  h
     ·replace h:=g
      clear g
      conv=>whnf
      repeat((first|refine dw ?_|refine bcf c19 ?_);conv=>whnf)
      exact tl1.h  h
  ·intro h
   unfold local_Create_j1 at h
   refine rest_intro hX ?_
   refine bndE_some h (fun y3 n5 e4 g=>?_) (fun y3 e4 g=>?_)
   ·replace h:=g
    clear g
    conv=>whnf
    repeat((first|refine dw ?_);conv=>whnf)
    refine local_version_c hX e4 ?_
    conv=>whnf
    repeat((first|refine dw ?_);conv=>whnf)
    exact K _ h
   ·replace h:=g
    clear g
    conv=>whnf
    repeat((first|refine dw ?_);conv=>whnf)
    refine local_version_c hX e4 ?_
    conv=>whnf
    repeat((first|refine dw ?_);conv=>whnf)
    exact K _ h
theorem local_Update_c  {p0:State} {p1:ByteArray} {p2:ByteArray} {p3:Int} {p4r:Nat} {p4i:Nat} {r:State × Option Int} (h:local_Update_s p0 p1 p2 p3 p4r p4i=some r) (hQ:Q (.tup [.agg (State.cs r.1),errA 159 r.2]) []):X (.call 115 [.agg (State.cs p0),.one (.p (.v (.string p1))),.one (.p (.v (.string p2))),iv p3,.one (.p (.v (.complex .f64 p4r p4i)))] [] Q):=by
  have K:=fun a (e:some a=some r)=>ret_some (f:=fun y=>.tup [.agg (State.cs y.1),errA 159 y.2]) (g:=fun y=>[]) e hQ
  unfold local_Update_s at h
  refine call_nz hX ?_
  conv=>whnf
  refine call_intro hX Tryz.func115 rfl rfl ?_
  revert h
  refine bndk fun y1 e2 h=>?_
  conv=>whnf
  repeat((first|refine dw ?_);conv=>whnf)
  refine local_might_c hX e2 ?_
  conv=>whnf
  repeat((first|refine dw ?_);conv=>whnf)
  revert h
  refine brk (fun c3 h=>?_) (fun c3 h=>?_)
  ·revert h
   refine bndk fun y4 e5 h=>?_
   conv=>whnf
   repeat((first|refine dw ?_|refine bct c3 ?_);conv=>whnf)
   refine fresh_State_c hX e5 ?_
   conv=>whnf
   repeat((first|refine dw ?_);conv=>whnf)
   exact K _ h
  ·revert h
   refine bndk fun y6 e7 h=>?_
   conv=>whnf
   repeat((first|refine dw ?_|refine bcf c3 ?_);conv=>whnf)
   refine local_stands_c hX e7 ?_
   conv=>whnf
   repeat((first|refine dw ?_);conv=>whnf)
   revert h
   refine brk (fun c8 h=>?_) (fun c8 h=>?_)
   ·revert h
    refine bndk fun y9 e10 h=>?_
    conv=>whnf
    repeat((first|refine dw ?_|refine bct c8 ?_);conv=>whnf)
    refine fresh_State_c hX e10 ?_
    conv=>whnf
    repeat((first|refine dw ?_);conv=>whnf)
    exact K _ h
   ·conv=>whnf
    repeat((first|refine dw ?_|refine bcf c8 ?_);conv=>whnf)
    revert h
    refine brk (fun c11 h=>?_) (fun c11 h=>?_)
    ·revert h
     refine bndk fun y12 e13 h=>?_
     conv=>whnf
     repeat((first|refine dw ?_|refine bct c11 ?_);conv=>whnf)
     refine fresh_State_c hX e13 ?_
     conv=>whnf
     repeat((first|refine dw ?_);conv=>whnf)
     exact K _ h
    ·revert h
     refine bndEk (fun y14 n16 e15 h=>?_) (fun y14 e15 h=>?_)
     ·conv=>whnf
      repeat((first|refine dw ?_|refine bcf c11 ?_);conv=>whnf)
      refine local_version_c hX e15 ?_
      conv=>whnf
      repeat((first|refine dw ?_);conv=>whnf)
      exact K _ h
     ·conv=>whnf
      repeat((first|refine dw ?_|refine bcf c11 ?_);conv=>whnf)
      refine local_version_c hX e15 ?_
      conv=>whnf
      repeat((first|refine dw ?_);conv=>whnf)
      exact K _ h
theorem local_Delete_c  {p0:State} {p1:ByteArray} {r:State × Option Int} (h:local_Delete_s p0 p1=some r) (hQ:Q (.tup [.agg (State.cs r.1),errA 159 r.2]) []):X (.call 116 [.agg (State.cs p0),.one (.p (.v (.string p1)))] [] Q):=by
  have K:=fun a (e:some a=some r)=>ret_some (f:=fun y=>.tup [.agg (State.cs y.1),errA 159 y.2]) (g:=fun y=>[]) e hQ
  unfold local_Delete_s at h
  refine call_nz hX ?_
  conv=>whnf
  refine call_intro hX Tryz.func116 rfl rfl ?_
  revert h
  refine bndk fun y1 e2 h=>?_
  conv=>whnf
  repeat((first|refine dw ?_);conv=>whnf)
  refine item_Name_c hX e2 ?_
  conv=>whnf
  repeat((first|refine dw ?_);conv=>whnf)
  revert h
  refine brk (fun c3 h=>?_) (fun c3 h=>?_)
  ·revert h
   refine bndk fun y4 e5 h=>?_
   conv=>whnf
   repeat((first|refine dw ?_|refine bct c3 ?_);conv=>whnf)
   refine fresh_State_c hX e5 ?_
   conv=>whnf
   repeat((first|refine dw ?_);conv=>whnf)
   exact K _ h
  ·revert h
   refine bndk fun y6 e7 h=>?_
   conv=>whnf
   repeat((first|refine dw ?_|refine bcf c3 ?_);conv=>whnf)
   refine local_stands_c hX e7 ?_
   conv=>whnf
   repeat((first|refine dw ?_);conv=>whnf)
   revert h
   refine brk (fun c8 h=>?_) (fun c8 h=>?_)
   ·revert h
    refine bndk fun y9 e10 h=>?_
    conv=>whnf
    repeat((first|refine dw ?_|refine bct c8 ?_);conv=>whnf)
    refine fresh_State_c hX e10 ?_
    conv=>whnf
    repeat((first|refine dw ?_);conv=>whnf)
    exact K _ h
   ·conv=>whnf
    repeat((first|refine dw ?_|refine bcf c8 ?_);conv=>whnf)
    revert h
    refine brk (fun c11 h=>?_) (fun c11 h=>?_)
    ·revert h
     refine bndk fun y12 e13 h=>?_
     conv=>whnf
     repeat((first|refine dw ?_|refine bct c11 ?_);conv=>whnf)
     refine fresh_State_c hX e13 ?_
     conv=>whnf
     repeat((first|refine dw ?_);conv=>whnf)
     exact K _ h
    ·revert h
     refine bndEk (fun y14 n16 e15 h=>?_) (fun y14 e15 h=>?_)
     ·conv=>whnf
      repeat((first|refine dw ?_|refine bcf c11 ?_);conv=>whnf)
      refine local_version_c hX e15 ?_
      conv=>whnf
      repeat((first|refine dw ?_);conv=>whnf)
      exact K _ h
     ·conv=>whnf
      repeat((first|refine dw ?_|refine bcf c11 ?_);conv=>whnf)
      refine local_version_c hX e15 ?_
      conv=>whnf
      repeat((first|refine dw ?_);conv=>whnf)
      exact K _ h
theorem local_Filter_c  {p0:State} {p1:Pred} {r:State × Option Int} (h:local_Filter_s p0 p1=some r) (hQ:Q (.tup [.agg (State.cs r.1),errA 159 r.2]) []):X (.call 117 [.agg (State.cs p0),.agg (Pred.cs p1)] [] Q):=by
  have K:=fun a (e:some a=some r)=>ret_some (f:=fun y=>.tup [.agg (State.cs y.1),errA 159 y.2]) (g:=fun y=>[]) e hQ
  unfold local_Filter_s at h
  refine call_nz hX ?_
  conv=>whnf
  refine call_intro hX Tryz.func117 rfl rfl ?_
  apply join0 (X:=X) (r:=r) (pad [(2,.one (.ptr 0 0)),(0,.one (.ptr 1 0)),(0,.one (.ptr 2 0))] 74) ([.box (State.cs p0),.box (Pred.cs p1),.box [ic 0,ic 0,.p (.v (.string ⟨#[]⟩)),ic 0,.p (.v (.complex .f64 0 0)),.own 3,.own 4,.own 5,ic 0,ic 0,ic 0,ic 0,ic 0,ic 0,ic 0,ic 0,.own 6,ic 0,ic 0,ic 0],.rows 0 [],.rows 0 [],.rows 0 [],.rows 0 []])
  ·intro tl1
   replace h:=bnd_some h
   obtain ⟨y28,e29,h⟩:=h
   conv=>whnf
   repeat((first|refine dw ?_);conv=>whnf)
   refine pred_May_c hX e29 ?_
   conv=>whnf
   repeat((first|refine dw ?_);conv=>whnf)
   refine br_some h (fun c30 g=>?_) (fun c30 g=>?_)
   ·replace h:=g
    clear g
    replace h:=bnd_some h
    obtain ⟨y31,e32,h⟩:=h
    conv=>whnf
    repeat((first|refine dw ?_|refine bct c30 ?_);conv=>whnf)
    refine fresh_State_c hX e32 ?_
    conv=>whnf
    repeat((first|refine dw ?_);conv=>whnf)
    exact K _ h
   ·replace h:=g
    clear g
    conv=>whnf
    repeat((first|refine dw ?_|refine bcf c30 ?_);conv=>whnf)
    refine br_some h (fun c33 g=>?_) (fun c33 g=>?_)
    ·replace h:=g
     clear g
     conv=>whnf
     repeat((first|refine dw ?_|refine bct c33 ?_|refine bcf c30 ?_);conv=>whnf)
     refine br_some h (fun c34 g=>?_) (fun c34 g=>?_)
     ·replace h:=g
      clear g
      replace h:=bnd_some h
      obtain ⟨y35,e36,h⟩:=h
      conv=>whnf
      repeat((first|refine dw ?_|refine bct c34 ?_);conv=>whnf)
      refine fresh_State_c hX e36 ?_
      conv=>whnf
      repeat((first|refine dw ?_);conv=>whnf)
      exact K _ h
     ·replace h:=g
      clear g
      conv=>whnf
      repeat((first|refine dw ?_|refine bcf c34 ?_);conv=>whnf)
      exact tl1.h  h
    ·replace h:=g
     clear g
     conv=>whnf
     repeat((first|refine dw ?_|refine bcf c33 ?_|refine bcf c30 ?_);conv=>whnf)
     exact tl1.h  h
  ·intro h
   unfold local_Filter_j1 at h
   refine rest_intro hX ?_
   conv=>whnf
   repeat((first|refine dw ?_);conv=>whnf)
   refine br_some h (fun c1 g=>?_) (fun c1 g=>?_)
   ·replace h:=g
    clear g
    replace h:=bnd_some h
    obtain ⟨y2,e3,h⟩:=h
    conv=>whnf
    repeat((first|refine dw ?_|refine bct c1 ?_);conv=>whnf)
    refine fresh_State_c hX e3 ?_
    conv=>whnf
    repeat((first|refine dw ?_);conv=>whnf)
    exact K _ h
   ·replace h:=g
    clear g
    replace h:=bnd_some h
    obtain ⟨y4,e5,h⟩:=h
    conv=>whnf
    repeat((first|refine dw ?_|refine bcf c1 ?_);conv=>whnf)
    refine list_Both_c hX e5 ?_
    replace h:=bnd_some h
    obtain ⟨y6,e7,h⟩:=h
    conv=>whnf
    repeat((first|refine dw ?_);conv=>whnf)
    refine fresh_Pred_c hX fuelR e7 ?_
    replace h:=chk_some h
    obtain ⟨hs2,h⟩:=h
    conv=>whnf
    repeat((first|refine dw ?_|refine eqv_to (map_len _) ?_);conv=>whnf)
    refine loop_nk hX ?_
    conv=>whnf
    refine Two.r (Two.r ?_)
    conv=>whnf
    refine loop_k hX [8,8,0,0,0,0] ?_
    conv=>whnf
    refine loop_lisx3 (fun (v8:Int) (v20:Know) (v18:List Item) (v19:List Item)=>pad [(2,.one (.ptr 0 0)),(0,.one (.ptr 3 0)),(0,.one (.ptr 4 0)),(43,.one (.p (.sl (y4.map Item.row)))),(0,iv (y4.length:Int)),(0,iv v8)] 28) (fun (v8:Int) (v20:Know) (v18:List Item) (v19:List Item)=>[.box [ic p0.r,ic y6.op,.p (.v (.string y6.text)),ic y6.n,.p (.v (.complex .f64 y6.re y6.im)),.p (.sl (Pred.rows y6.kids)),.own 1,.own 2,ic v20.star.x0,ic v20.star.x1,ic v20.star.x2,ic v20.star.x3,ic v20.star.x4,ic v20.star.x5,ic v20.star.x6,ic v20.star.x7,.p (.sl (v20.l.map Frag.row)),ic p0.count,ic p0.clock,ic (wr .i64 (p0.epoch + 1))],.rows 8 (v18.map Item.row),.rows 8 (v19.map Item.row),.box (Pred.cs p1),.box [ic 0,ic 0,.p (.v (.string ⟨#[]⟩)),ic 0,.p (.v (.complex .f64 0 0)),.own 5,.own 6,.own 7,ic 0,ic 0,ic 0,ic 0,ic 0,ic 0,ic 0,ic 0,.own 8,ic 0,ic 0,ic 0],.rows 0 [],.rows 0 [],.rows 0 [],.rows 0 []]) _ y4 (fun pre2 x2e xs2 v8 v20 v18 v19 hl2 hi2 h ih2=>?_) (fun v8 v20 v18 v19 hi2 h=>?_) (Know.mk (V8.mk 0 0 0 0 0 0 0 0) ([]:List Frag)) ([]:List Item) ([]:List Item) h
    ·rw [local_Filter_l2] at h
     have am2:=at_mid hl2 hi2
     refine loop_intro hX ?_
     replace h:=bnd_some h
     obtain ⟨y21,e22,h⟩:=h
     conv=>whnf
     repeat((first|refine dw ?_|refine bct (lt_mid hl2 hi2) ?_|refine bct (at_in am2) ?_|refine bct (andt (at_in am2) rfl) ?_|refine row_in (at_row am2) ?_|refine bct (andt (at_in (at_nat am2)) rfl) ?_|refine row_in (at_row (at_nat am2)) ?_);conv=>whnf)
     refine know_With_c hX e22 ?_
     replace h:=bnd_some h
     obtain ⟨y23,e24,h⟩:=h
     conv=>whnf
     repeat((first|refine dw ?_);conv=>whnf)
     refine eval_Has_c hX e24 ?_
     conv=>whnf
     repeat((first|refine dw ?_);conv=>whnf)
     refine br_some h (fun c25 g=>?_) (fun c25 g=>?_)
     ·replace h:=g
      clear g
      replace h:=chk_some h
      obtain ⟨c26,h⟩:=h
      conv=>whnf
      repeat((first|refine dw ?_|refine bct c25 ?_|refine bct (room_map c26 rfl rfl rfl rfl) ?_|refine eqv_to (cat_one (f:=Item.row) v18 x2e) ?_);conv=>whnf)
      exact ih2 _ y21 (v18++[x2e]) v19 (wrL hs2 hl2 hi2) h
     ·replace h:=g
      clear g
      replace h:=chk_some h
      obtain ⟨c27,h⟩:=h
      conv=>whnf
      repeat((first|refine dw ?_|refine bcf c25 ?_|refine bct (room_map c27 rfl rfl rfl rfl) ?_|refine eqv_to (cat_one (f:=Item.row) v19 x2e) ?_);conv=>whnf)
      exact ih2 _ y21 v18 (v19++[x2e]) (wrL hs2 hl2 hi2) h
    ·rw [local_Filter_l2] at h
     refine loop_intro hX ?_
     conv=>whnf
     repeat((first|refine dw ?_|refine bcf (lt_end hi2) ?_);conv=>whnf)
     exact K _ h
theorem local_Read_c  {p0:State} {r:(List Item)} (h:local_Read_s p0=some r) (hQ:Q (.one (.p (.sl (r.map Item.row)))) []):X (.call 65 [.agg (State.cs p0)] [] Q):=by
  unfold local_Read_s at h
  refine call_nz hX ?_
  conv=>whnf
  refine call_intro hX Tryz.func65 rfl rfl ?_
  revert h
  refine chkk fun hs1 h=>?_
  conv=>whnf
  repeat((first|refine dw ?_|refine eqv_to (map_len _) ?_);conv=>whnf)
  refine loop_k hX [8] ?_
  conv=>whnf
  refine loop_lisx1 (fun (v1:Int) (v2:List Item)=>pad [(3,.one (.own 0)),(3,.one (.p (.sl (p0.store.map Item.row)))),(0,iv (p0.store.length:Int)),(0,iv v1)] 12) (fun (v1:Int) (v2:List Item)=>[.rows 8 (v2.map Item.row)]) _ p0.store (fun pre1 x1e xs1 v1 v2 hl1 hi1 h ih1=>?_) (fun v1 v2 hi1 h=>?_) ([]:List Item) h
  ·rw [local_Read_l1] at h
   have am1:=at_mid hl1 hi1
   refine loop_intro hX ?_
   conv=>whnf
   repeat((first|refine dw ?_|refine bct (lt_mid hl1 hi1) ?_|refine bct (at_in am1) ?_|refine bct (andt (at_in am1) rfl) ?_|refine row_in (at_row am1) ?_|refine bct (andt (at_in (at_nat am1)) rfl) ?_|refine row_in (at_row (at_nat am1)) ?_);conv=>whnf)
   revert h
   refine brk (fun c3 h=>?_) (fun c3 h=>?_)
   ·revert h
    refine chkk fun c4 h=>?_
    conv=>whnf
    repeat((first|refine dw ?_|refine bct c3 ?_|refine bct (room_map c4 rfl rfl rfl rfl) ?_|refine eqv_to (cat_one (f:=Item.row) v2 x1e) ?_);conv=>whnf)
    exact ih1 _ (v2++[x1e]) (wrL hs1 hl1 hi1) h
   ·conv=>whnf
    repeat((first|refine dw ?_|refine bcf c3 ?_);conv=>whnf)
    exact ih1 _ v2 (wrL hs1 hl1 hi1) h
  ·rw [local_Read_l1] at h
   refine loop_intro hX ?_
   conv=>whnf
   repeat((first|refine dw ?_|refine bcf (lt_end hi1) ?_);conv=>whnf)
   exact ret_some (f:=fun y=>.one (.p (.sl (y.map Item.row)))) (g:=fun y=>[]) h hQ
end
end Go.Proofs.YtidkmoohgadjkaaGreat
set_option maxHeartbeats 0
namespace Go.Proofs.YtidkmoohgadjkaaGreat
open Go E
noncomputable section
open Pred
def ref09_Same_s (p0:State) (p1:State):Option (Bool) :=
 (br (!eqI p0.r p1.r)
  (some false)
  (br (!eqI p0.count p1.count)
   (some false)
   (br (!eqI p0.clock p1.clock)
    (some false)
    (br (!eqI p0.epoch p1.epoch)
     (some false)
     (bnd (ref03_Same_s p0.f p1.f) fun y5 =>
      (bnd (ref06_SameList_s p0.store p1.store) fun y7 =>
       (bnd (ref06_SameList_s p0.out p1.out) fun y9 =>
        (bnd (ref06_Alike_s p0.k p1.k) fun y11 =>
         (br y5
          (br y7
           (br y9
            (some y11)
            (some false))
           (some false))
          (some false))))))))))
def ref09_New_s (p0:Int) (p1:Pred):Option (State × Int) :=
 (bnd (ref03_May_s p1) fun y1 =>
  (br (!y1)
   (some ((State.mk 0 (Pred.mk 0 ⟨#[]⟩ 0 0 0 ([]:List Pred)) ([]:List Item) ([]:List Item) (Know.mk (V8.mk 0 0 0 0 0 0 0 0) ([]:List Frag)) 0 0 0),1))
   (br (ltI p0 1)
    (some ((State.mk 0 (Pred.mk 0 ⟨#[]⟩ 0 0 0 ([]:List Pred)) ([]:List Item) ([]:List Item) (Know.mk (V8.mk 0 0 0 0 0 0 0 0) ([]:List Frag)) 0 0 0),1))
    (br (ltI 8 p0)
     (some ((State.mk 0 (Pred.mk 0 ⟨#[]⟩ 0 0 0 ([]:List Pred)) ([]:List Item) ([]:List Item) (Know.mk (V8.mk 0 0 0 0 0 0 0 0) ([]:List Frag)) 0 0 0),1))
     (some ((State.mk p0 p1 ([]:List Item) ([]:List Item) (Know.mk (V8.mk 0 0 0 0 0 0 0 0) ([]:List Frag)) 0 0 0),0))))))
def ref09_Stands_s (p0:State) (p1:ByteArray):Option (Item × Bool) :=
 (bnd (ref06_Both_s p0.store p0.out) fun y1 =>
  (bnd (ref06_Get_s y1 p1) fun y3 =>
   some (y3.1,y3.2)))
def ref09_laid_s (p0:State) (p1:Item) (p2:Bool):Option (State) :=
 (bnd (ref06_Drop_s p0.store p1.id) fun y1 =>
  (bnd (ref06_Drop_s p0.out p1.id) fun y3 =>
   (bnd (ref03_Has_s p0.f p1) fun y5 =>
    (br y5
     (bnd (ref06_Put_s y1 p1) fun y8 =>
      some (State.mk p0.r p0.f y8 y3 p0.k p0.count p0.clock p0.epoch))
     (br p2
      (bnd (ref06_Put_s y3 p1) fun y11 =>
       some (State.mk p0.r p0.f y1 y11 p0.k p0.count p0.clock p0.epoch))
      (some (State.mk p0.r p0.f y1 y3 p0.k p0.count p0.clock p0.epoch)))))))
def ref09_made_s (p0:State) (p1:Item):Option (State × Int) :=
 (br (eqI p0.count 1000)
  (some (p0,5))
  (br (eqI p0.clock 1000000)
   (some (p0,5))
   (bnd (ref06_Own_s p0.k p1.id (Ver.mk p0.r (wr .i64 (p0.count + 1)))) fun y3 =>
    (bnd (ref09_laid_s (State.mk p0.r p0.f p0.store p0.out y3 (wr .i64 (p0.count + 1)) (wr .i64 (p0.clock + 1)) p0.epoch) (Item.mk p1.id p0.r (wr .i64 (p0.count + 1)) (wr .i64 (p0.clock + 1)) p1.kind p1.num p1.re p1.im p1.dead) true) fun y5 =>
     some (y5,0)))))
def ref09_shape_s (p0:ByteArray) (p1:ByteArray) (p2:Int) (p3r:Nat) (p3i:Nat):Option (Item × Bool) :=
 (bnd (ref01_May_s (Item.mk p0 1 1 1 p1 p2 p3r p3i false)) fun y1 =>
  some ((Item.mk p0 1 1 1 p1 p2 p3r p3i false),y1))
def ref09_Create_j2 (p0:State) (y1:Item × Bool):Option (State × Int) :=
 (bnd (ref09_made_s p0 y1.1) fun y6 =>
  some (y6.1,y6.2))
def ref09_Create_j1 (p0:State) (y1:Item × Bool) (y4:Item × Bool):Option (State × Int) :=
 (br (!y4.2)
  (br (eqI (wr .i64 ((p0.store.length:Int) + (p0.out.length:Int))) 40)
   (some (p0,4))
   (ref09_Create_j2 p0 y1 ))
  (ref09_Create_j2 p0 y1 ))
def ref09_Create_s (p0:State) (p1:ByteArray) (p2:ByteArray) (p3:Int) (p4r:Nat) (p4i:Nat):Option (State × Int) :=
 (bnd (ref09_shape_s p1 p2 p3 p4r p4i) fun y1 =>
  (br (!y1.2)
   (some (p0,1))
   (bnd (ref09_Stands_s p0 p1) fun y4 =>
    (br y4.2
     (br (!y4.1.dead)
      (some (p0,3))
      (ref09_Create_j1 p0 y1 y4 ))
     (ref09_Create_j1 p0 y1 y4 )))))
def ref09_Update_s (p0:State) (p1:ByteArray) (p2:ByteArray) (p3:Int) (p4r:Nat) (p4i:Nat):Option (State × Int) :=
 (bnd (ref09_shape_s p1 p2 p3 p4r p4i) fun y1 =>
  (br (!y1.2)
   (some (p0,1))
   (bnd (ref09_Stands_s p0 p1) fun y4 =>
    (br (!y4.2)
     (some (p0,2))
     (br y4.1.dead
      (some (p0,2))
      (bnd (ref09_made_s p0 y1.1) fun y8 =>
       some (y8.1,y8.2)))))))
def ref09_Delete_s (p0:State) (p1:ByteArray):Option (State × Int) :=
 (bnd (ref01_Name_s p1) fun y1 =>
  (br (!y1)
   (some (p0,1))
   (bnd (ref09_Stands_s p0 p1) fun y4 =>
    (br (!y4.2)
     (some (p0,2))
     (br y4.1.dead
      (some (p0,2))
      (bnd (ref09_made_s p0 (Item.mk y4.1.id y4.1.vr y4.1.vc y4.1.stamp y4.1.kind y4.1.num y4.1.re y4.1.im true)) fun y8 =>
       some (y8.1,y8.2)))))))
def ref09_Filter_l2:List Item→State→Option (State × Int)
  | [],v28 =>
  some (v28,0)
  | x2e::xs2,v28 =>
  (bnd (ref06_With_s v28.k x2e.id (Ver.mk x2e.vr x2e.vc)) fun y29 =>
   (bnd (ref09_laid_s (State.mk v28.r v28.f v28.store v28.out y29 v28.count v28.clock v28.epoch) x2e true) fun y31 =>
    (ref09_Filter_l2 xs2  y31)))
def ref09_Filter_j1 (p0:State) (p1:Pred):Option (State × Int) :=
 (br (eqI p0.epoch 1000000)
  (some (p0,5))
  (bnd (ref06_Both_s p0.store p0.out) fun y4 =>
   (chk (smallL y4)
     ((ref09_Filter_l2) y4 (State.mk p0.r p1 ([]:List Item) ([]:List Item) (Know.mk (V8.mk 0 0 0 0 0 0 0 0) ([]:List Frag)) p0.count p0.clock (wr .i64 (p0.epoch + 1)))))))
def ref09_Filter_s (p0:State) (p1:Pred):Option (State × Int) :=
 (bnd (ref03_May_s p1) fun y1 =>
  (br (!y1)
   (some (p0,1))
   (br (eqI p0.f.op 1)
    (br (!eqI p1.op 1)
     (some (p0,1))
     (ref09_Filter_j1 p0 p1 ))
    (ref09_Filter_j1 p0 p1 ))))
def ref09_Read_l1:List Item→(List Item)→Option ((List Item))
  | [],v2 =>
  some v2
  | x1e::xs1,v2 =>
  (br (!x1e.dead)
   (chk (roomL v2.length 1)
    (ref09_Read_l1 xs1  (v2++[x1e])))
   (ref09_Read_l1 xs1  v2))
def ref09_Read_s (p0:State):Option ((List Item)) :=
 (chk (smallL p0.store)
   ((ref09_Read_l1) p0.store ([]:List Item)))
variable {X:Task→Prop} (hX:Closed X) {Q:A→List Blk→Prop}
include hX
theorem ref09_Same_c  {p0:State} {p1:State} {r:Bool} (h:ref09_Same_s p0 p1=some r) (hQ:Q (.one (.p (.v (.bool r)))) []):X (.call 35 [.agg (State.cs p0),.agg (State.cs p1)] [] Q):=by
  have K:=fun a (e:some a=some r)=>ret_some (f:=fun y=>.one (.p (.v (.bool y)))) (g:=fun y=>[]) e hQ
  unfold ref09_Same_s at h
  refine call_intro hX Tryz.func35 rfl rfl ?_
  conv=>whnf
  repeat((first|refine dw ?_);conv=>whnf)
  revert h
  refine brk (fun c1 h=>?_) (fun c1 h=>?_)
  ·conv=>whnf
   repeat((first|refine dw ?_|refine bct c1 ?_);conv=>whnf)
   exact K _ h
  ·conv=>whnf
   repeat((first|refine dw ?_|refine bcf c1 ?_);conv=>whnf)
   revert h
   refine brk (fun c2 h=>?_) (fun c2 h=>?_)
   ·conv=>whnf
    repeat((first|refine dw ?_|refine bct c2 ?_);conv=>whnf)
    exact K _ h
   ·conv=>whnf
    repeat((first|refine dw ?_|refine bcf c2 ?_);conv=>whnf)
    revert h
    refine brk (fun c3 h=>?_) (fun c3 h=>?_)
    ·conv=>whnf
     repeat((first|refine dw ?_|refine bct c3 ?_);conv=>whnf)
     exact K _ h
    ·conv=>whnf
     repeat((first|refine dw ?_|refine bcf c3 ?_);conv=>whnf)
     revert h
     refine brk (fun c4 h=>?_) (fun c4 h=>?_)
     ·conv=>whnf
      repeat((first|refine dw ?_|refine bct c4 ?_);conv=>whnf)
      exact K _ h
     ·revert h
      refine bndk fun y5 e6 h=>?_
      conv=>whnf
      repeat((first|refine dw ?_|refine bcf c4 ?_);conv=>whnf)
      refine ref03_Same_c hX e6 ?_
      revert h
      refine bndk fun y7 e8 h=>?_
      conv=>whnf
      repeat((first|refine dw ?_);conv=>whnf)
      refine ref06_SameList_c hX e8 ?_
      revert h
      refine bndk fun y9 e10 h=>?_
      conv=>whnf
      repeat((first|refine dw ?_);conv=>whnf)
      refine ref06_SameList_c hX e10 ?_
      revert h
      refine bndk fun y11 e12 h=>?_
      conv=>whnf
      repeat((first|refine dw ?_);conv=>whnf)
      refine ref06_Alike_c hX e12 ?_
      conv=>whnf
      repeat((first|refine dw ?_);conv=>whnf)
      revert h
      refine brk (fun c13 h=>?_) (fun c13 h=>?_)
      ·conv=>whnf
       repeat((first|refine dw ?_|refine bct c13 ?_);conv=>whnf)
       revert h
       refine brk (fun c14 h=>?_) (fun c14 h=>?_)
       ·conv=>whnf
        repeat((first|refine dw ?_|refine bct c14 ?_);conv=>whnf)
        revert h
        refine brk (fun c15 h=>?_) (fun c15 h=>?_)
        ·conv=>whnf
         repeat((first|refine dw ?_|refine bct c15 ?_);conv=>whnf)
         exact K _ h
        ·conv=>whnf
         repeat((first|refine dw ?_|refine bcf c15 ?_);conv=>whnf)
         exact K _ h
       ·conv=>whnf
        repeat((first|refine dw ?_|refine bcf c14 ?_);conv=>whnf)
        exact K _ h
      ·conv=>whnf
       repeat((first|refine dw ?_|refine bcf c13 ?_);conv=>whnf)
       exact K _ h
theorem ref09_New_c  {p0:Int} {p1:Pred} {r:State × Int} (h:ref09_New_s p0 p1=some r) (hQ:Q (.tup [.agg (State.cs r.1),iv r.2]) []):X (.call 47 [iv p0,.agg (Pred.cs p1)] [] Q):=by
  have K:=fun a (e:some a=some r)=>ret_some (f:=fun y=>.tup [.agg (State.cs y.1),iv y.2]) (g:=fun y=>[]) e hQ
  unfold ref09_New_s at h
  refine call_nz hX ?_
  conv=>whnf
  refine call_intro hX Tryz.func47 rfl rfl ?_
  revert h
  refine bndk fun y1 e2 h=>?_
  conv=>whnf
  repeat((first|refine dw ?_);conv=>whnf)
  refine ref03_May_c hX e2 ?_
  conv=>whnf
  repeat((first|refine dw ?_);conv=>whnf)
  revert h
  refine brk (fun c3 h=>?_) (fun c3 h=>?_)
  ·conv=>whnf
   repeat((first|refine dw ?_|refine bct c3 ?_);conv=>whnf)
   exact K _ h
  ·conv=>whnf
   repeat((first|refine dw ?_|refine bcf c3 ?_);conv=>whnf)
   revert h
   refine brk (fun c4 h=>?_) (fun c4 h=>?_)
   ·conv=>whnf
    repeat((first|refine dw ?_|refine bct c4 ?_);conv=>whnf)
    exact K _ h
   ·conv=>whnf
    repeat((first|refine dw ?_|refine bcf c4 ?_);conv=>whnf)
    revert h
    refine brk (fun c5 h=>?_) (fun c5 h=>?_)
    ·conv=>whnf
     repeat((first|refine dw ?_|refine bct c5 ?_);conv=>whnf)
     exact K _ h
    ·conv=>whnf
     repeat((first|refine dw ?_|refine bcf c5 ?_);conv=>whnf)
     exact K _ h
theorem ref09_Stands_c  {p0:State} {p1:ByteArray} {r:Item × Bool} (h:ref09_Stands_s p0 p1=some r) (hQ:Q (.tup [.agg (Item.cs r.1),.one (.p (.v (.bool r.2)))]) []):X (.call 41 [.agg (State.cs p0),.one (.p (.v (.string p1)))] [] Q):=by
 unfold ref09_Stands_s at h
 refine call_intro hX Tryz.func41 rfl rfl ?_
 revert h
 refine bndk fun y1 e2 h=>?_
 conv=>whnf
 repeat((first|refine dw ?_);conv=>whnf)
 refine ref06_Both_c hX e2 ?_
 revert h
 refine bndk fun y3 e4 h=>?_
 conv=>whnf
 repeat((first|refine dw ?_);conv=>whnf)
 refine ref06_Get_c hX e4 ?_
 conv=>whnf
 repeat((first|refine dw ?_);conv=>whnf)
 exact ret_some (f:=fun y=>.tup [.agg (Item.cs y.1),.one (.p (.v (.bool y.2)))]) (g:=fun y=>[]) h hQ
theorem ref09_laid_c  {p0:State} {p1:Item} {p2:Bool} {r:State} (h:ref09_laid_s p0 p1 p2=some r) (hQ:Q (.agg (State.cs r)) []):X (.call 102 [.agg (State.cs p0),.agg (Item.cs p1),.one (.p (.v (.bool p2)))] [] Q):=by
  have K:=fun a (e:some a=some r)=>ret_some (f:=fun y=>.agg (State.cs y)) (g:=fun y=>[]) e hQ
  unfold ref09_laid_s at h
  refine call_nz hX ?_
  conv=>whnf
  refine call_intro hX Tryz.func102 rfl rfl ?_
  revert h
  refine bndk fun y1 e2 h=>?_
  conv=>whnf
  repeat((first|refine dw ?_);conv=>whnf)
  refine ref06_Drop_c hX e2 ?_
  revert h
  refine bndk fun y3 e4 h=>?_
  conv=>whnf
  repeat((first|refine dw ?_);conv=>whnf)
  refine ref06_Drop_c hX e4 ?_
  revert h
  refine bndk fun y5 e6 h=>?_
  conv=>whnf
  repeat((first|refine dw ?_);conv=>whnf)
  refine ref03_Has_c hX e6 ?_
  conv=>whnf
  repeat((first|refine dw ?_);conv=>whnf)
  revert h
  refine brk (fun c7 h=>?_) (fun c7 h=>?_)
  ·revert h
   refine bndk fun y8 e9 h=>?_
   conv=>whnf
   repeat((first|refine dw ?_|refine bct c7 ?_);conv=>whnf)
   refine Or.inl ?_
   conv=>whnf
   refine ref06_Put_c hX e9 ?_
   conv=>whnf
   repeat((first|refine dw ?_);conv=>whnf)
   exact K _ h
  ·conv=>whnf
   repeat((first|refine dw ?_|refine bcf c7 ?_);conv=>whnf)
   revert h
   refine brk (fun c10 h=>?_) (fun c10 h=>?_)
   ·revert h
    refine bndk fun y11 e12 h=>?_
    conv=>whnf
    repeat((first|refine dw ?_|refine bct c10 ?_);conv=>whnf)
    refine Or.inl ?_
    conv=>whnf
    refine ref06_Put_c hX e12 ?_
    conv=>whnf
    repeat((first|refine dw ?_);conv=>whnf)
    exact K _ h
   ·conv=>whnf
    repeat((first|refine dw ?_|refine bcf c10 ?_);conv=>whnf)
    exact K _ h
theorem ref09_made_c  {p0:State} {p1:Item} {r:State × Int} (h:ref09_made_s p0 p1=some r) (hQ:Q (.tup [.agg (State.cs r.1),iv r.2]) []):X (.call 181 [.agg (State.cs p0),.agg (Item.cs p1)] [] Q):=by
  have K:=fun a (e:some a=some r)=>ret_some (f:=fun y=>.tup [.agg (State.cs y.1),iv y.2]) (g:=fun y=>[]) e hQ
  unfold ref09_made_s at h
  refine call_nz hX ?_
  conv=>whnf
  refine call_intro hX Tryz.func181 rfl rfl ?_
  conv=>whnf
  repeat((first|refine dw ?_);conv=>whnf)
  revert h
  refine brk (fun c1 h=>?_) (fun c1 h=>?_)
  ·conv=>whnf
   repeat((first|refine dw ?_|refine bct c1 ?_);conv=>whnf)
   exact K _ h
  ·conv=>whnf
   repeat((first|refine dw ?_|refine bcf c1 ?_);conv=>whnf)
   revert h
   refine brk (fun c2 h=>?_) (fun c2 h=>?_)
   ·conv=>whnf
    repeat((first|refine dw ?_|refine bct c2 ?_);conv=>whnf)
    exact K _ h
   ·revert h
    refine bndk fun y3 e4 h=>?_
    conv=>whnf
    repeat((first|refine dw ?_|refine bcf c2 ?_);conv=>whnf)
    refine ref06_Own_c hX e4 ?_
    revert h
    refine bndk fun y5 e6 h=>?_
    conv=>whnf
    repeat((first|refine dw ?_);conv=>whnf)
    refine ref09_laid_c hX e6 ?_
    conv=>whnf
    repeat((first|refine dw ?_);conv=>whnf)
    exact K _ h
theorem ref09_shape_c  {p0:ByteArray} {p1:ByteArray} {p2:Int} {p3r:Nat} {p3i:Nat} {r:Item × Bool} (h:ref09_shape_s p0 p1 p2 p3r p3i=some r) (hQ:Q (.tup [.agg (Item.cs r.1),.one (.p (.v (.bool r.2)))]) []):X (.call 180 [.one (.p (.v (.string p0))),.one (.p (.v (.string p1))),iv p2,.one (.p (.v (.complex .f64 p3r p3i)))] [] Q):=by
 unfold ref09_shape_s at h
 refine call_intro hX Tryz.func180 rfl rfl ?_
 revert h
 refine bndk fun y1 e2 h=>?_
 conv=>whnf
 repeat((first|refine dw ?_);conv=>whnf)
 refine ref01_May_c hX e2 ?_
 conv=>whnf
 repeat((first|refine dw ?_);conv=>whnf)
 exact ret_some (f:=fun y=>.tup [.agg (Item.cs y.1),.one (.p (.v (.bool y.2)))]) (g:=fun y=>[]) h hQ
theorem ref09_Create_c  {p0:State} {p1:ByteArray} {p2:ByteArray} {p3:Int} {p4r:Nat} {p4i:Nat} {r:State × Int} (h:ref09_Create_s p0 p1 p2 p3 p4r p4i=some r) (hQ:Q (.tup [.agg (State.cs r.1),iv r.2]) []):X (.call 118 [.agg (State.cs p0),.one (.p (.v (.string p1))),.one (.p (.v (.string p2))),iv p3,.one (.p (.v (.complex .f64 p4r p4i)))] [] Q):=by
  have K:=fun a (e:some a=some r)=>ret_some (f:=fun y=>.tup [.agg (State.cs y.1),iv y.2]) (g:=fun y=>[]) e hQ
  unfold ref09_Create_s at h
  refine call_nz hX ?_
  conv=>whnf
  refine call_intro hX Tryz.func118 rfl rfl ?_
  replace h:=bnd_some h
  obtain ⟨y1,e2,h⟩:=h
  conv=>whnf
  repeat((first|refine dw ?_);conv=>whnf)
  refine ref09_shape_c hX e2 ?_
  conv=>whnf
  repeat((first|refine dw ?_);conv=>whnf)
  refine br_some h (fun c3 g=>?_) (fun c3 g=>?_)
  ·replace h:=g
   clear g
   conv=>whnf
   repeat((first|refine dw ?_|refine bct c3 ?_);conv=>whnf)
   exact K _ h
  ·replace h:=g
   clear g
   replace h:=bnd_some h
   obtain ⟨y4,e5,h⟩:=h
   conv=>whnf
   repeat((first|refine dw ?_|refine bcf c3 ?_);conv=>whnf)
   refine ref09_Stands_c hX e5 ?_
   apply join0 (X:=X) (r:=r) (pad [(5,.one (.ptr 0 0)),(4,.one (.ptr 1 0)),(1,.one (.ptr 6 0)),(2,.one (.p (.v (.bool y4.2))))] 42) ([.box (State.cs p0),.box [ic 0,ic 0,.p (.v (.string ⟨#[]⟩)),ic 0,.p (.v (.complex .f64 0 0)),.own 2,.own 3,.own 4,ic 0,ic 0,ic 0,ic 0,ic 0,ic 0,ic 0,ic 0,.own 5,ic 0,ic 0,ic 0],.rows 0 [],.rows 0 [],.rows 0 [],.rows 0 [],.box (Item.cs y1.1)])
   ·intro tl1
    conv=>whnf
    repeat((first|refine dw ?_);conv=>whnf)
    refine br_some h (fun c10 g=>?_) (fun c10 g=>?_)
    ·replace h:=g
     clear g
     conv=>whnf
     repeat((first|refine dw ?_|refine bct c10 ?_);conv=>whnf)
     refine br_some h (fun c11 g=>?_) (fun c11 g=>?_)
     ·replace h:=g
      clear g
      conv=>whnf
      repeat((first|refine dw ?_|refine bct c11 ?_);conv=>whnf)
      exact K _ h
     ·replace h:=g
      clear g
      conv=>whnf
      repeat((first|refine dw ?_|refine bcf c11 ?_);conv=>whnf)
      exact tl1.h  h
    ·replace h:=g
     clear g
     conv=>whnf
     repeat((first|refine dw ?_|refine bcf c10 ?_);conv=>whnf)
     exact tl1.h  h
   ·intro h
    unfold ref09_Create_j1 at h
    refine rest_intro hX ?_
    apply join0 (X:=X) (r:=r) (pad [(5,.one (.ptr 0 0)),(4,.one (.ptr 1 0)),(1,.one (.ptr 6 0))] 45) ([.box (State.cs p0),.box [ic 0,ic 0,.p (.v (.string ⟨#[]⟩)),ic 0,.p (.v (.complex .f64 0 0)),.own 2,.own 3,.own 4,ic 0,ic 0,ic 0,ic 0,ic 0,ic 0,ic 0,ic 0,.own 5,ic 0,ic 0,ic 0],.rows 0 [],.rows 0 [],.rows 0 [],.rows 0 [],.box (Item.cs y1.1)])
    ·intro tl2
     conv=>whnf
     repeat((first|refine dw ?_);conv=>whnf)
     refine br_some h (fun c8 g=>?_) (fun c8 g=>?_)
     ·replace h:=g
      clear g
      conv=>whnf
      repeat((first|refine dw ?_|refine bct c8 ?_|refine eqv_to (map_len _) ?_);conv=>whnf)
      refine br_some h (fun c9 g=>?_) (fun c9 g=>?_)
      ·replace h:=g
       clear g
       conv=>whnf
       repeat((first|refine dw ?_|refine bct c9 ?_);conv=>whnf)
       exact K _ h
      ·replace h:=g
       clear g
       conv=>whnf
       repeat((first|refine dw ?_|refine bcf c9 ?_);conv=>whnf)
       exact tl2.h  h
     ·replace h:=g
      clear g
      conv=>whnf
      repeat((first|refine dw ?_|refine bcf c8 ?_);conv=>whnf)
      exact tl2.h  h
    ·intro h
     unfold ref09_Create_j2 at h
     refine rest_intro hX ?_
     replace h:=bnd_some h
     obtain ⟨y6,e7,h⟩:=h
     conv=>whnf
     repeat((first|refine dw ?_);conv=>whnf)
     refine ref09_made_c hX e7 ?_
     conv=>whnf
     repeat((first|refine dw ?_);conv=>whnf)
     exact K _ h
theorem ref09_Update_c  {p0:State} {p1:ByteArray} {p2:ByteArray} {p3:Int} {p4r:Nat} {p4i:Nat} {r:State × Int} (h:ref09_Update_s p0 p1 p2 p3 p4r p4i=some r) (hQ:Q (.tup [.agg (State.cs r.1),iv r.2]) []):X (.call 119 [.agg (State.cs p0),.one (.p (.v (.string p1))),.one (.p (.v (.string p2))),iv p3,.one (.p (.v (.complex .f64 p4r p4i)))] [] Q):=by
  have K:=fun a (e:some a=some r)=>ret_some (f:=fun y=>.tup [.agg (State.cs y.1),iv y.2]) (g:=fun y=>[]) e hQ
  unfold ref09_Update_s at h
  refine call_nz hX ?_
  conv=>whnf
  refine call_intro hX Tryz.func119 rfl rfl ?_
  revert h
  refine bndk fun y1 e2 h=>?_
  conv=>whnf
  repeat((first|refine dw ?_);conv=>whnf)
  refine ref09_shape_c hX e2 ?_
  conv=>whnf
  repeat((first|refine dw ?_);conv=>whnf)
  revert h
  refine brk (fun c3 h=>?_) (fun c3 h=>?_)
  ·conv=>whnf
   repeat((first|refine dw ?_|refine bct c3 ?_);conv=>whnf)
   exact K _ h
  ·revert h
   refine bndk fun y4 e5 h=>?_
   conv=>whnf
   repeat((first|refine dw ?_|refine bcf c3 ?_);conv=>whnf)
   refine ref09_Stands_c hX e5 ?_
   conv=>whnf
   repeat((first|refine dw ?_);conv=>whnf)
   revert h
   refine brk (fun c6 h=>?_) (fun c6 h=>?_)
   ·conv=>whnf
    repeat((first|refine dw ?_|refine bct c6 ?_);conv=>whnf)
    exact K _ h
   ·conv=>whnf
    repeat((first|refine dw ?_|refine bcf c6 ?_);conv=>whnf)
    revert h
    refine brk (fun c7 h=>?_) (fun c7 h=>?_)
    ·conv=>whnf
     repeat((first|refine dw ?_|refine bct c7 ?_);conv=>whnf)
     exact K _ h
    ·revert h
     refine bndk fun y8 e9 h=>?_
     conv=>whnf
     repeat((first|refine dw ?_|refine bcf c7 ?_);conv=>whnf)
     refine ref09_made_c hX e9 ?_
     conv=>whnf
     repeat((first|refine dw ?_);conv=>whnf)
     exact K _ h
theorem ref09_Delete_c  {p0:State} {p1:ByteArray} {r:State × Int} (h:ref09_Delete_s p0 p1=some r) (hQ:Q (.tup [.agg (State.cs r.1),iv r.2]) []):X (.call 120 [.agg (State.cs p0),.one (.p (.v (.string p1)))] [] Q):=by
  have K:=fun a (e:some a=some r)=>ret_some (f:=fun y=>.tup [.agg (State.cs y.1),iv y.2]) (g:=fun y=>[]) e hQ
  unfold ref09_Delete_s at h
  refine call_nz hX ?_
  conv=>whnf
  refine call_intro hX Tryz.func120 rfl rfl ?_
  revert h
  refine bndk fun y1 e2 h=>?_
  conv=>whnf
  repeat((first|refine dw ?_);conv=>whnf)
  refine ref01_Name_c hX e2 ?_
  conv=>whnf
  repeat((first|refine dw ?_);conv=>whnf)
  revert h
  refine brk (fun c3 h=>?_) (fun c3 h=>?_)
  ·conv=>whnf
   repeat((first|refine dw ?_|refine bct c3 ?_);conv=>whnf)
   exact K _ h
  ·revert h
   refine bndk fun y4 e5 h=>?_
   conv=>whnf
   repeat((first|refine dw ?_|refine bcf c3 ?_);conv=>whnf)
   refine ref09_Stands_c hX e5 ?_
   conv=>whnf
   repeat((first|refine dw ?_);conv=>whnf)
   revert h
   refine brk (fun c6 h=>?_) (fun c6 h=>?_)
   ·conv=>whnf
    repeat((first|refine dw ?_|refine bct c6 ?_);conv=>whnf)
    exact K _ h
   ·conv=>whnf
    repeat((first|refine dw ?_|refine bcf c6 ?_);conv=>whnf)
    revert h
    refine brk (fun c7 h=>?_) (fun c7 h=>?_)
    ·conv=>whnf
     repeat((first|refine dw ?_|refine bct c7 ?_);conv=>whnf)
     exact K _ h
    ·revert h
     refine bndk fun y8 e9 h=>?_
     conv=>whnf
     repeat((first|refine dw ?_|refine bcf c7 ?_);conv=>whnf)
     refine ref09_made_c hX e9 ?_
     conv=>whnf
     repeat((first|refine dw ?_);conv=>whnf)
     exact K _ h
theorem ref09_Filter_c  {p0:State} {p1:Pred} {r:State × Int} (h:ref09_Filter_s p0 p1=some r) (hQ:Q (.tup [.agg (State.cs r.1),iv r.2]) []):X (.call 121 [.agg (State.cs p0),.agg (Pred.cs p1)] [] Q):=by
  have K:=fun a (e:some a=some r)=>ret_some (f:=fun y=>.tup [.agg (State.cs y.1),iv y.2]) (g:=fun y=>[]) e hQ
  unfold ref09_Filter_s at h
  refine call_nz hX ?_
  conv=>whnf
  refine call_intro hX Tryz.func121 rfl rfl ?_
  replace h:=bnd_some h
  obtain ⟨y1,e2,h⟩:=h
  conv=>whnf
  repeat((first|refine dw ?_);conv=>whnf)
  refine ref03_May_c hX e2 ?_
  apply join0 (X:=X) (r:=r) (pad [(2,.one (.ptr 0 0)),(0,.one (.ptr 1 0)),(0,.one (.ptr 2 0))] 68) ([.box (State.cs p0),.box (Pred.cs p1),.box [ic 0,ic 0,.p (.v (.string ⟨#[]⟩)),ic 0,.p (.v (.complex .f64 0 0)),.own 3,.own 4,.own 5,ic 0,ic 0,ic 0,ic 0,ic 0,ic 0,ic 0,ic 0,.own 6,ic 0,ic 0,ic 0],.rows 0 [],.rows 0 [],.rows 0 [],.rows 0 []])
  ·intro tl1
   conv=>whnf
   repeat((first|refine dw ?_);conv=>whnf)
   refine br_some h (fun c33 g=>?_) (fun c33 g=>?_)
   ·replace h:=g
    clear g
    conv=>whnf
    repeat((first|refine dw ?_|refine bct c33 ?_);conv=>whnf)
    exact K _ h
   ·replace h:=g
    clear g
    conv=>whnf
    repeat((first|refine dw ?_|refine bcf c33 ?_);conv=>whnf)
    refine br_some h (fun c34 g=>?_) (fun c34 g=>?_)
    ·replace h:=g
     clear g
     conv=>whnf
     repeat((first|refine dw ?_|refine bct c34 ?_|refine bcf c33 ?_);conv=>whnf)
     refine br_some h (fun c35 g=>?_) (fun c35 g=>?_)
     ·replace h:=g
      clear g
      conv=>whnf
      repeat((first|refine dw ?_|refine bct c35 ?_);conv=>whnf)
      exact K _ h
     ·replace h:=g
      clear g
      conv=>whnf
      repeat((first|refine dw ?_|refine bcf c35 ?_);conv=>whnf)
      exact tl1.h  h
    ·replace h:=g
     clear g
     conv=>whnf
     repeat((first|refine dw ?_|refine bcf c34 ?_|refine bcf c33 ?_);conv=>whnf)
     exact tl1.h  h
  ·intro h
   unfold ref09_Filter_j1 at h
   refine rest_intro hX ?_
   conv=>whnf
   repeat((first|refine dw ?_);conv=>whnf)
   refine br_some h (fun c3 g=>?_) (fun c3 g=>?_)
   ·replace h:=g
    clear g
    conv=>whnf
    repeat((first|refine dw ?_|refine bct c3 ?_);conv=>whnf)
    exact K _ h
   ·replace h:=g
    clear g
    replace h:=bnd_some h
    obtain ⟨y4,e5,h⟩:=h
    conv=>whnf
    repeat((first|refine dw ?_|refine bcf c3 ?_);conv=>whnf)
    refine ref06_Both_c hX e5 ?_
    replace h:=chk_some h
    obtain ⟨hs2,h⟩:=h
    conv=>whnf
    repeat((first|refine dw ?_);conv=>whnf)
    refine loop_nk hX ?_
    conv=>whnf
    refine Two.r (Two.r ?_)
    conv=>whnf
    refine Two.r (Two.r ?_)
    conv=>whnf
    refine Two.r (Two.r ?_)
    conv=>whnf
    refine loop_lisx1 (fun (v6:Int) (v28:State)=>pad [(4,.one (.ptr 0 0)),(2,.one (.p (.sl (y4.map Item.row)))),(0,.one (.ptr 5 0)),(0,iv v6)] 63) (fun (v6:Int) (v28:State)=>[.box [ic 0,ic 0,.p (.v (.string ⟨#[]⟩)),ic 0,.p (.v (.complex .f64 0 0)),.own 1,.own 2,.own 3,ic 0,ic 0,ic 0,ic 0,ic 0,ic 0,ic 0,ic 0,.own 4,ic 0,ic 0,ic 0],.rows 0 [],.rows 0 [],.rows 0 [],.rows 0 [],.box (State.cs v28)]) _ y4 (fun pre2 x2e xs2 v6 v28 hl2 hi2 h ih2=>?_) (fun v6 v28 hi2 h=>?_) (State.mk p0.r p1 ([]:List Item) ([]:List Item) (Know.mk (V8.mk 0 0 0 0 0 0 0 0) ([]:List Frag)) p0.count p0.clock (wr .i64 (p0.epoch + 1))) h
    ·rw [ref09_Filter_l2] at h
     have am2:=at_mid hl2 hi2
     refine loop_intro hX ?_
     replace h:=bnd_some h
     obtain ⟨y29,e30,h⟩:=h
     conv=>whnf
     repeat((first|refine dw ?_|refine eqv_to (map_len _) ?_|refine bct (lt_mid hl2 hi2) ?_|refine bct (at_in am2) ?_|refine bct (andt (at_in am2) rfl) ?_|refine row_in (at_row am2) ?_|refine bct (andt (at_in (at_nat am2)) rfl) ?_|refine row_in (at_row (at_nat am2)) ?_);conv=>whnf)
     refine ref06_With_c hX e30 ?_
     replace h:=bnd_some h
     obtain ⟨y31,e32,h⟩:=h
     conv=>whnf
     repeat((first|refine dw ?_|refine bct (at_in am2) ?_|refine bct (andt (at_in am2) rfl) ?_|refine row_in (at_row am2) ?_|refine bct (andt (at_in (at_nat am2)) rfl) ?_|refine row_in (at_row (at_nat am2)) ?_);conv=>whnf)
     refine ref09_laid_c hX e32 ?_
     conv=>whnf
     repeat((first|refine dw ?_);conv=>whnf)
     exact ih2 _ y31 (wrL hs2 hl2 hi2) h
    ·rw [ref09_Filter_l2] at h
     refine loop_intro hX ?_
     conv=>whnf
     repeat((first|refine dw ?_|refine eqv_to (map_len _) ?_|refine bcf (lt_end hi2) ?_);conv=>whnf)
     exact K _ h
theorem ref09_Read_c  {p0:State} {r:(List Item)} (h:ref09_Read_s p0=some r) (hQ:Q (.one (.p (.sl (r.map Item.row)))) []):X (.call 66 [.agg (State.cs p0)] [] Q):=by
  unfold ref09_Read_s at h
  refine call_nz hX ?_
  conv=>whnf
  refine call_intro hX Tryz.func66 rfl rfl ?_
  revert h
  refine chkk fun hs1 h=>?_
  conv=>whnf
  repeat((first|refine dw ?_);conv=>whnf)
  refine loop_k hX [8] ?_
  conv=>whnf
  refine loop_lisx1 (fun (v1:Int) (v2:List Item)=>pad [(1,.one (.ptr 0 0)),(1,.one (.own 1)),(0,iv v1)] 23) (fun (v1:Int) (v2:List Item)=>[.box (State.cs p0),.rows 8 (v2.map Item.row)]) _ p0.store (fun pre1 x1e xs1 v1 v2 hl1 hi1 h ih1=>?_) (fun v1 v2 hi1 h=>?_) ([]:List Item) h
  ·rw [ref09_Read_l1] at h
   have am1:=at_mid hl1 hi1
   refine loop_intro hX ?_
   conv=>whnf
   repeat((first|refine dw ?_|refine eqv_to (map_len _) ?_|refine bct (lt_mid hl1 hi1) ?_|refine bct (at_in am1) ?_|refine bct (andt (at_in am1) rfl) ?_|refine row_in (at_row am1) ?_|refine bct (andt (at_in (at_nat am1)) rfl) ?_|refine row_in (at_row (at_nat am1)) ?_);conv=>whnf)
   revert h
   refine brk (fun c3 h=>?_) (fun c3 h=>?_)
   ·revert h
    refine chkk fun c4 h=>?_
    conv=>whnf
    repeat((first|refine dw ?_|refine bct c3 ?_|refine bct (at_in am1) ?_|refine bct (andt (at_in am1) rfl) ?_|refine row_in (at_row am1) ?_|refine bct (andt (at_in (at_nat am1)) rfl) ?_|refine row_in (at_row (at_nat am1)) ?_|refine bct (room_map c4 rfl rfl rfl rfl) ?_|refine eqv_to (cat_one (f:=Item.row) v2 x1e) ?_);conv=>whnf)
    exact ih1 _ (v2++[x1e]) (wrL hs1 hl1 hi1) h
   ·conv=>whnf
    repeat((first|refine dw ?_|refine bcf c3 ?_);conv=>whnf)
    exact ih1 _ v2 (wrL hs1 hl1 hi1) h
  ·rw [ref09_Read_l1] at h
   refine loop_intro hX ?_
   conv=>whnf
   repeat((first|refine dw ?_|refine eqv_to (map_len _) ?_|refine bcf (lt_end hi1) ?_);conv=>whnf)
   exact ret_some (f:=fun y=>.one (.p (.sl (y.map Item.row)))) (g:=fun y=>[]) h hQ
end
end Go.Proofs.YtidkmoohgadjkaaGreat
namespace Go.Proofs.YtidkmoohgadjkaaGreat
open Go E Pred
noncomputable section
open Classical
def Dj (a b:List Item):Prop:=∀ id,(lk a id).isSome=true→lk b id=none
theorem lk_head (x:Item) (l:List Item):lk (x::l) x.id=some x:=by rw [lk_cons,if_pos (eqS_self _)]
theorem lk_tail {x:Item} {l:List Item} {id:ByteArray} (h:(lk l id).isSome=true):(lk (x::l) id).isSome=true:=by
 rw [lk_cons]; split
 ·rfl
 ·exact h
theorem lk_tail_none {x:Item} {l:List Item} {id:ByteArray} (h:lk (x::l) id=none):lk l id=none:=by
 rw [lk_cons] at h
 split at h
 ·cases h
 ·exact h
theorem len_merge_dj:∀ (n:Nat) {a b:List Item},a.length + b.length < n→Dj a b→(mergeF n a b).length=a.length + b.length
 | 0,_,_,h,_=>by omega
 | n + 1,[],b,_,_=>by rw [mergeF]; simp
 | n + 1,x::a,[],_,_=>by rw [mergeF]; simp
 | n + 1,x::a,y::b,h,hd=>by
  rw [mergeF]
  simp only [List.length_cons] at h ⊢
  have hxy:x.id≠y.id:=fun e=>by
   have:=hd x.id (by rw [lk_head]; rfl)
   rw [e,lk_head] at this; cases this
  split
  ·rw [List.length_cons,len_merge_dj n (by simp only [List.length_cons]; omega) fun id hi=>hd id (lk_tail hi)]; simp only [List.length_cons]; omega
  ·split
   ·rw [List.length_cons,len_merge_dj n (by simp only [List.length_cons]; omega) fun id hi=>lk_tail_none (hd id hi)]; simp only [List.length_cons]; omega
   ·rename_i h1 h2
    simp only [Bool.not_eq_true] at h1 h2
    exact absurd (ltS_tri h1 h2) hxy
theorem len_both_dj {a b:List Item} (h:Dj a b):(bothV a b).length=a.length + b.length:=len_merge_dj _ (by omega) h
theorem len_merge_lt:∀ (n:Nat) {a b:List Item},a.length + b.length < n→Ris a→Ris b→(∃ id,(lk a id).isSome=true∧(lk b id).isSome=true)→(mergeF n a b).length < a.length + b.length
 | 0,_,_,h,_,_,_=>by omega
 | n + 1,[],b,_,_,_,h=>by obtain ⟨id,h1,_⟩:=h; cases h1
 | n + 1,x::a,[],_,_,_,h=>by obtain ⟨id,_,h1⟩:=h; cases h1
 | n + 1,x::a,y::b,h,ha,hb,hd=>by
  have ha':=ris_cons.1 ha
  have hb':=ris_cons.1 hb
  obtain ⟨id,h1,h2⟩:=hd
  rw [mergeF]
  simp only [List.length_cons] at h ⊢
  split
  ·rename_i hlt
   rw [List.length_cons]
   have:=len_merge_lt n (a:=a) (b:=y::b) (by simp only [List.length_cons]; omega) ha'.2 hb ⟨id,by
    rw [lk_cons] at h1
    split at h1
    ·rename_i e
     have e:=eqS_t.1 e
     rw [lk_gt (by
      intro z hz
      rw [←e]
      rcases List.mem_cons.1 hz with rfl | hz
      ·exact hlt
      ·exact ltS_tr hlt (hb'.1 z hz))] at h2
     cases h2
    ·exact h1,h2⟩
   simp only [List.length_cons] at this; omega
  ·split
   ·rename_i h3 hlt
    rw [List.length_cons]
    have:=len_merge_lt n (a:=x::a) (b:=b) (by simp only [List.length_cons]; omega) ha hb'.2 ⟨id,h1,by
     rw [lk_cons] at h2
     split at h2
     ·rename_i e
      have e:=eqS_t.1 e
      rw [lk_gt (by
       intro z hz
       rw [←e]
       rcases List.mem_cons.1 hz with rfl | hz
       ·exact hlt
       ·exact ltS_tr hlt (ha'.1 z hz))] at h1
      cases h1
     ·exact h2⟩
    simp only [List.length_cons] at this; omega
   ·split
    ·have:=len_merge n a (y::b); simp only [List.length_cons] at this; omega
    ·have:=len_merge n (x::a) b; simp only [List.length_cons] at this; omega
theorem len_both_lt {a b:List Item} (ha:Ris a) (hb:Ris b) (h:∃ id,(lk a id).isSome=true∧(lk b id).isSome=true):(bothV a b).length < a.length + b.length:=len_merge_lt _ (by omega) ha hb h
theorem len_both_iff {a b:List Item} (ha:Ris a) (hb:Ris b):(bothV a b).length=a.length + b.length↔Dj a b:=by
 constructor
 ·intro h id hi
  cases hl:lk b id with
  | none=>rfl
  | some y=>have:=len_both_lt ha hb ⟨id,hi,by rw [hl]; rfl⟩; omega
 ·exact len_both_dj
def disjB (a b:List Item):Bool:=b.all fun y=>(lk a y.id).isNone
theorem disjB_iff {a b:List Item}:disjB a b=true↔Dj a b:=by
 unfold disjB
 rw [List.all_eq_true]
 constructor
 ·intro h id hi
  cases hb:lk b id with
  | none=>rfl
  | some y =>
   obtain ⟨hy,rfl⟩:=lk_some hb
   have:=h y hy
   rw [Option.isNone_iff_eq_none] at this
   rw [this] at hi; cases hi
 ·intro h y hy
  rw [Option.isNone_iff_eq_none]
  cases ha:lk a y.id with
  | none=>rfl
  | some x =>
   have:=h y.id (by rw [ha]; rfl)
   exact absurd (lk_none.1 this y hy) (by rw [eqS_self]; simp)
def stoodB (s:State) (l:List Item) (b:Bool):Bool:=l.all fun i=>(hasP s.f i == b)&&(hasK s.k i.id i.vr i.vc&&leI i.stamp s.clock)
def beyondB (k:Know) (r n:Int):Bool:=ltI n (k.star.at r) || k.l.any fun f=>ltI n (f.vec.at r)
def numsB (x:State):Bool:=inN x.r 1 8&&(decide (x.store.length + x.out.length≤40)&&(inN x.count 0 1000&&(inN x.clock 0 1000000&&inN x.epoch 0 1000000)))
def mayS (x:State):Bool:=mayP x.f&&(mayListB x.store&&(mayListB x.out&&(mayK x.k&&(numsB x&&(disjB x.store x.out&&(stoodB x x.store true&&(stoodB x x.out false&&!beyondB x.k x.r x.count)))))))
structure StB (x:State):Prop where
 f:x.f.Ok
 fs:x.f.size≤1000
 store:∀ i∈x.store,i.Ok
 out:∀ i∈x.out,i.Ok
 sl:x.store.length≤1000
 ol:x.out.length≤1000
 k:KT x.k 90000
 ids:IdsOk x.k
theorem StOk.b {x:State} (h:StOk x) (hk:KB x.k 60):StB x:=⟨h.f,h.fs,h.store,h.out,by have:=h.sl; omega,by have:=h.ol; omega,hk.kt.mono (by decide),h.ids⟩
theorem brec_neq (a b:Bool):(@Bool.rec (fun _=>Bool) b (!b) a)=!(a == b):=by cases a<;>cases b<;>rfl
theorem rstood_l {x:State} (h:StB x) (b:Bool):∀ l:List Item,(∀ i∈l,i.Ok)→ref09_stood_l1 x b l=some (stoodB x l b)
 | [],_=>by rw [ref09_stood_l1]; rfl
 | i::l,hl=>by
  have ih:=rstood_l h b l fun j hj=>hl j (List.mem_cons_of_mem _ hj)
  rw [ref09_stood_l1,bnd_of (has3_s h.f (hl i (List.mem_cons_self ..))),bnd_of (hasK_s (by decide) h.k.kb),ih,brec_neq]
  unfold stoodB
  rw [List.all_cons]
  have e:ltI x.clock i.stamp=!leI i.stamp x.clock:=by
   cases h1:leI i.stamp x.clock with
   | true=>rw [leI_t] at h1; exact ltI_f.2 h1
   | false=>rw [leI_f] at h1; exact ltI_t.2 h1
  rw [e]
  generalize (hasP x.f i == b)=p
  generalize hasK x.k i.id _ _=q
  generalize leI i.stamp x.clock=r
  cases p<;>cases q<;>cases r<;>rfl
theorem rstood_s {x:State} (h:StB x) (b:Bool) {l:List Item} (hl:∀ i∈l,i.Ok) (hn:l.length≤1000):ref09_stood_s x l b=some (stoodB x l b):=by
 unfold ref09_stood_s; rw [chk_t (smallL_of (by omega)),rstood_l h b l hl]
theorem lholds_l {x:State} (h:StB x) (b:Bool):∀ l:List Item,(∀ i∈l,i.Ok)→local_holds_l1 x b l=some (stoodB x l b)
 | [],_=>by rw [local_holds_l1]; rfl
 | i::l,hl=>by
  have ih:=lholds_l h b l fun j hj=>hl j (List.mem_cons_of_mem _ hj)
  rw [local_holds_l1,bnd_of (has_s h.f (hl i (List.mem_cons_self ..))),bnd_of (khas_s (N:=90000) (by decide) h.k.kb),ih,brec_neq]
  unfold stoodB
  rw [List.all_cons]
  have e:ltI x.clock i.stamp=!leI i.stamp x.clock:=by
   cases h1:leI i.stamp x.clock with
   | true=>rw [leI_t] at h1; exact ltI_f.2 h1
   | false=>rw [leI_f] at h1; exact ltI_t.2 h1
  rw [e]
  generalize (hasP x.f i == b)=p
  generalize hasK x.k i.id _ _=q
  generalize leI i.stamp x.clock=r
  cases p<;>cases q<;>cases r<;>rfl
theorem lholds_s {x:State} (h:StB x) (b:Bool) {l:List Item} (hl:∀ i∈l,i.Ok) (hn:l.length≤1000):local_holds_s x l b=some (stoodB x l b):=by
 unfold local_holds_s; rw [chk_t (smallL_of (by omega)),lholds_l h b l hl]
theorem rbeyond_l (r n:Int):∀ l:List Frag,ref09_Beyond_l1 r n l=some (l.any fun f=>ltI n (f.vec.at r))
 | []=>by rw [ref09_Beyond_l1]; rfl
 | f::l=>by
  rw [ref09_Beyond_l1,bnd_of (show ref06_Count_s f.vec r=some (f.vec.at r) from rfl),rbeyond_l r n l,List.any_cons]
  cases ltI n (f.vec.at r)<;>rfl
theorem rbeyond_s {k:Know} {N:Nat} (h:KT k N) (hN:N≤1000000000) (r n:Int):ref09_Beyond_s k r n=some (beyondB k r n):=by
 unfold ref09_Beyond_s beyondB
 rw [bnd_of (show ref06_Count_s k.star r=some (k.star.at r) from rfl),chk_t (smallL_of (by have:=h.l; omega)),rbeyond_l]
 cases ltI n (k.star.at r)<;>rfl
theorem ltle (a b:Int):leI a b=!ltI b a:=by
 cases h:ltI b a with
 | true=>rw [ltI_t] at h; exact leI_f.2 h
 | false=>rw [ltI_f] at h; exact leI_t.2 h
theorem own1 {k:Know} {n:Int}:∀ l:List Frag,local_own_l1 k n l=some (!(ltI n k.star.x0 || l.any fun f=>ltI n f.vec.x0))
 | []=>by rw [local_own_l1,ltle]; simp
 | f::l=>by rw [local_own_l1,own1 l,List.any_cons]; cases ltI n f.vec.x0<;>simp [br]
theorem own2 {k:Know} {n:Int}:∀ l:List Frag,local_own_l2 k n l=some (!(ltI n k.star.x1 || l.any fun f=>ltI n f.vec.x1))
 | []=>by rw [local_own_l2,ltle]; simp
 | f::l=>by rw [local_own_l2,own2 l,List.any_cons]; cases ltI n f.vec.x1<;>simp [br]
theorem own3 {k:Know} {n:Int}:∀ l:List Frag,local_own_l3 k n l=some (!(ltI n k.star.x2 || l.any fun f=>ltI n f.vec.x2))
 | []=>by rw [local_own_l3,ltle]; simp
 | f::l=>by rw [local_own_l3,own3 l,List.any_cons]; cases ltI n f.vec.x2<;>simp [br]
theorem own4 {k:Know} {n:Int}:∀ l:List Frag,local_own_l4 k n l=some (!(ltI n k.star.x3 || l.any fun f=>ltI n f.vec.x3))
 | []=>by rw [local_own_l4,ltle]; simp
 | f::l=>by rw [local_own_l4,own4 l,List.any_cons]; cases ltI n f.vec.x3<;>simp [br]
theorem own5 {k:Know} {n:Int}:∀ l:List Frag,local_own_l5 k n l=some (!(ltI n k.star.x4 || l.any fun f=>ltI n f.vec.x4))
 | []=>by rw [local_own_l5,ltle]; simp
 | f::l=>by rw [local_own_l5,own5 l,List.any_cons]; cases ltI n f.vec.x4<;>simp [br]
theorem own6 {k:Know} {n:Int}:∀ l:List Frag,local_own_l6 k n l=some (!(ltI n k.star.x5 || l.any fun f=>ltI n f.vec.x5))
 | []=>by rw [local_own_l6,ltle]; simp
 | f::l=>by rw [local_own_l6,own6 l,List.any_cons]; cases ltI n f.vec.x5<;>simp [br]
theorem own7 {k:Know} {n:Int}:∀ l:List Frag,local_own_l7 k n l=some (!(ltI n k.star.x6 || l.any fun f=>ltI n f.vec.x6))
 | []=>by rw [local_own_l7,ltle]; simp
 | f::l=>by rw [local_own_l7,own7 l,List.any_cons]; cases ltI n f.vec.x6<;>simp [br]
theorem own8 {k:Know} {n:Int}:∀ l:List Frag,local_own_l8 k n l=some (!(ltI n k.star.x7 || l.any fun f=>ltI n f.vec.x7))
 | []=>by rw [local_own_l8,ltle]; simp
 | f::l=>by rw [local_own_l8,own8 l,List.any_cons]; cases ltI n f.vec.x7<;>simp [br]
theorem lown_s {x:State} (h:x.k.l.length≤1000000000) (hr:1≤x.r∧x.r≤8):local_own_s x=some (!beyondB x.k x.r x.count):=by
 obtain ⟨r,f,st,out,k,n,c,e⟩:=x
 simp only at h hr
 unfold beyondB
 rcases r8 r with h' | rfl | rfl | rfl | rfl | rfl | rfl | rfl | rfl
 ·omega
 ·exact (chk_t (smallL_of h)).trans (own1 k.l)
 ·exact (chk_t (smallL_of h)).trans (own2 k.l)
 ·exact (chk_t (smallL_of h)).trans (own3 k.l)
 ·exact (chk_t (smallL_of h)).trans (own4 k.l)
 ·exact (chk_t (smallL_of h)).trans (own5 k.l)
 ·exact (chk_t (smallL_of h)).trans (own6 k.l)
 ·exact (chk_t (smallL_of h)).trans (own7 k.l)
 ·exact (chk_t (smallL_of h)).trans (own8 k.l)
end
end Go.Proofs.YtidkmoohgadjkaaGreat
namespace Go.Proofs.YtidkmoohgadjkaaGreat
open Go E Pred
noncomputable section
open Classical
theorem getI_snd (id:ByteArray) (l:List Item):(getI id l).2=(lk l id).isSome:=by
 rw [getI_lk]; cases lk l id<;>rfl
theorem rmay_l {x:State} (h:StB x):∀ l:List Item,ref09_May_l1 x l=some (l.all (fun y=>(lk x.store y.id).isNone)&&(stoodB x x.store true&&(stoodB x x.out false&&!beyondB x.k x.r x.count)))
 | []=>by
  rw [ref09_May_l1,bnd_of (rstood_s h true h.store h.sl),bnd_of (rstood_s h false h.out h.ol),bnd_of (rbeyond_s h.k (by decide) x.r x.count)]
  cases stoodB x x.store true<;>cases stoodB x x.out false<;>rfl
 | y::l=>by
  rw [ref09_May_l1,bnd_of (get_s (by have:=h.sl; omega)),getI_snd,rmay_l h l,List.all_cons]
  cases lk x.store y.id<;>rfl
theorem ltn (a b:Int):ltI a b=!leI b a:=by
 rw [ltle b a,Bool.not_not]
theorem rmay_s {x:State} (h:StB x):ref09_May_s x=some (mayS x):=by
 have hs:=h.sl
 have ho:=h.ol
 unfold ref09_May_s
 rw [bnd_of (may3_s h.f h.fs),bnd_of (mayList_s (by omega) h.store),bnd_of (mayList_s (by omega) h.out),bnd_of (rmayK_t h.k (by decide) h.ids),chk_t (smallL_of (by omega)),rmay_l h]
 have e:ltI 40 (wr .i64 ((x.store.length:Int) + (x.out.length:Int)))=!decide (x.store.length + x.out.length≤40):=by
  rw [wr64 (by omega) (by omega)]
  by_cases hl:x.store.length + x.out.length≤40
  ·rw [decide_eq_true hl]; exact ltI_f.2 (by omega)
  ·rw [decide_eq_false hl]; exact ltI_t.2 (by omega)
 rw [e]
 unfold mayS numsB inN disjB
 simp only [ltn]
 generalize mayP x.f=b1
 generalize mayListB x.store=b2
 generalize mayListB x.out=b3
 generalize mayK x.k=b4
 generalize leI 1 x.r=c1
 generalize leI x.r 8=c2
 generalize decide (x.store.length + x.out.length≤40)=c3
 generalize leI 0 x.count=c4
 generalize leI x.count 1000=c5
 generalize leI 0 x.clock=c6
 generalize leI x.clock 1000000=c7
 generalize leI 0 x.epoch=c8
 generalize leI x.epoch 1000000=c9
 cases b1 with
 | false=>rfl
 | true=>cases b2 with
  | false=>rfl
  | true=>cases b3 with
   | false=>rfl
   | true=>cases b4 with
    | false=>rfl
    | true=>cases c1 with
     | false=>rfl
     | true=>cases c2 with
      | false=>rfl
      | true=>cases c3 with
       | false=>rfl
       | true=>cases c4 with
        | false=>rfl
        | true=>cases c5 with
         | false=>rfl
         | true=>cases c6 with
          | false=>rfl
          | true=>cases c7 with
           | false=>rfl
           | true=>cases c8 with
            | false=>rfl
            | true=>cases c9 with
             | false=>rfl
             | true=>rfl
theorem pmay_s {p:Pred} (h:p.Ok):pred_May_s p=some (mayP p):=by unfold pred_May_s; rw [chk_t (decide_eq_true h)]
theorem lmay9_s {x:State} (h:StB x):local_May_s x=some (mayS x):=by
 have hs:=h.sl
 have ho:=h.ol
 have hw:wr .i64 ((x.store.length:Int) + (x.out.length:Int))=((x.store.length + x.out.length:Nat):Int):=by rw [wr64 (by omega) (by omega)]; omega
 have e:ltI 40 ((x.store.length + x.out.length:Nat):Int)=!decide (x.store.length + x.out.length≤40):=by
  by_cases hl:x.store.length + x.out.length≤40
  ·rw [decide_eq_true hl]; exact ltI_f.2 (by omega)
  ·rw [decide_eq_false hl]; exact ltI_t.2 (by omega)
 have w:∀ a b:Int,local_within_s a b=some (inN a 0 b):=fun a b=>by
  unfold local_within_s inN; cases leI 0 a<;>rfl
 unfold local_May_s
 rw [bnd_of (pmay_s h.f),bnd_of (lmay_s (by omega) h.store),bnd_of (lmay_s (by omega) h.out),bnd_of (kmay_s (h.k.mono (by decide)) h.ids),bnd_of (w x.count 1000),bnd_of (w x.clock 1000000),bnd_of (w x.epoch 1000000),hw,e,
  bnd_of (lboth_s (by omega)),bnd_of (lholds_s h true h.store h.sl),bnd_of (lholds_s h false h.out h.ol)]
 unfold mayS numsB
 have er:inN x.r 1 8=(!ltI x.r 1&&!ltI 8 x.r):=by unfold inN; rw [ltle,ltle]
 rw [er]
 cases hr1:ltI x.r 1 with
 | true=>simp [br]
 | false =>
  cases hr2:ltI 8 x.r with
  | true=>simp [br]
  | false =>
   rw [ltI_f] at hr1 hr2
   rw [bnd_of (lown_s (by have:=h.k.l; omega) ⟨by omega,by omega⟩)]
   cases mayP x.f with
   | false=>rfl
   | true=>cases h2:mayListB x.store with
    | false=>rfl
    | true=>cases h3:mayListB x.out with
     | false=>rfl
     | true =>
      have ed:eqI ((bothV x.store x.out).length:Int) ((x.store.length + x.out.length:Nat):Int)=disjB x.store x.out:=by
       cases hd:disjB x.store x.out with
       | true=>exact eqI_t.2 (by rw [len_both_dj (disjB_iff.1 hd)])
       | false =>
        refine eqI_f.2 fun e=>?_
        have:=disjB_iff.2 ((len_both_iff (may_ris h2) (may_ris h3)).1 (by omega))
        rw [hd] at this; cases this
      rw [ed]
      cases mayK x.k with
      | false=>rfl
      | true=>cases inN x.count 0 1000 with
       | false=>simp [br]
       | true=>cases inN x.clock 0 1000000 with
        | false=>simp [br]
        | true=>cases inN x.epoch 0 1000000 with
         | false=>simp [br]
         | true=>cases decide (x.store.length + x.out.length≤40) with
          | false=>rfl
          | true=>cases disjB x.store x.out with
           | false=>rfl
           | true=>cases stoodB x x.store true with
            | false=>rfl
            | true=>cases stoodB x x.out false<;>rfl
structure SOk (x:State) (N:Nat):Prop where
 f:x.f.Ok
 fs:x.f.size≤1000
 rs:Ris x.store
 ro:Ris x.out
 le:x.store.length + x.out.length≤40
 dj:Dj x.store x.out
 is:∀ i∈x.store,i.Ok∧mayI i=true
 io:∀ i∈x.out,i.Ok∧mayI i=true
 kt:KT x.k N
 ids:IdsOk x.k
 cn:0≤x.count∧x.count≤1000
 cl:0≤x.clock∧x.clock≤1000000
 ep:0≤x.epoch∧x.epoch≤1000000
theorem inN_iff {n a b:Int}:inN n a b=true↔a≤n∧n≤b:=by unfold inN; rw [Bool.and_eq_true,leI_t,leI_t]
theorem mayS_iff {x:State}:mayS x=true↔mayP x.f=true∧mayListB x.store=true∧mayListB x.out=true∧mayK x.k=true∧(1≤x.r∧x.r≤8)∧x.store.length + x.out.length≤40∧(0≤x.count∧x.count≤1000)∧(0≤x.clock∧x.clock≤1000000)∧(0≤x.epoch∧x.epoch≤1000000)∧Dj x.store x.out∧stoodB x x.store true=true∧stoodB x x.out false=true∧beyondB x.k x.r x.count=false:=by
 unfold mayS numsB
 simp only [Bool.and_eq_true,inN_iff,decide_eq_true_eq,disjB_iff,Bool.not_eq_true']
 constructor
 ·rintro ⟨a,b,c,d,⟨e,f,g,h,i⟩,j,k,l,m⟩; exact ⟨a,b,c,d,e,f,g,h,i,j,k,l,m⟩
 ·rintro ⟨a,b,c,d,e,f,g,h,i,j,k,l,m⟩; exact ⟨a,b,c,d,⟨e,f,g,h,i⟩,j,k,l,m⟩
theorem may_sok {x:State} {N:Nat} (h:mayS x=true) (hf:x.f.Ok) (hs:∀ i∈x.store,i.Ok) (ho:∀ i∈x.out,i.Ok) (hk:KT x.k N) (hi:IdsOk x.k):SOk x N:=by
 obtain ⟨a,b,c,d,e,f,g,h,i,j,k,l,m⟩:=mayS_iff.1 h
 have hsz:=(mayP_iff.1 a).1
 exact ⟨hf,by omega,may_ris b,may_ris c,f,j,fun y hy=>⟨hs y hy,may_all b y hy⟩,fun y hy=>⟨ho y hy,may_all c y hy⟩,hk,hi,g,h,i⟩
theorem clone_s_of {α:Type} {l:List α} (h:l.length≤1000000):clone_s l=some l:=by unfold clone_s; rw [chk_t (decide_eq_true h)]
theorem fresh_state {x:State} {N:Nat} (h:SOk x N) (hN:N≤900000):fresh_State_s x=some x:=by
 have:=h.le
 unfold fresh_State_s
 rw [bnd_of (fresh_pred fuelR (by have:=h.fs; unfold fuelR; omega) h.fs),bnd_of (fresh_know_t h.kt hN),bnd_of (clone_s_of (by omega)),bnd_of (clone_s_of (by omega))]
theorem SOk.mono {x:State} {N M:Nat} (h:SOk x N) (hm:N≤M):SOk x M:={ h with kt:=h.kt.mono hm }
end
end Go.Proofs.YtidkmoohgadjkaaGreat
set_option maxHeartbeats 0
namespace Go.Proofs.YtidkmoohgadjkaaGreat
open Go E
noncomputable section
open Pred
variable {X:Task→Prop} (hX:Closed X) {Q:A→List Blk→Prop}
include hX
end
end Go.Proofs.YtidkmoohgadjkaaGreat
namespace Go.Proofs.YtidkmoohgadjkaaGreat
open Go E Pred
noncomputable section
open Classical
def errO (n:Int):Option Int:=if n=0 then none else some n
theorem imay_s {x:Item} (h:x.Ok):item_May_s x=some (mayI x):=by unfold item_May_s; rw [chk_t (decide_eq_true h)]
theorem rimay_s {x:Item} (h:x.Ok):ref01_May_s x=some (mayI x):=by unfold ref01_May_s; rw [chk_t (decide_eq_true h)]
theorem both_len {x:State} {N:Nat} (h:SOk x N):(bothV x.store x.out).length=x.store.length + x.out.length:=len_both_dj h.dj
theorem len_drop (l:List Item) (id:ByteArray):(dropV l id).length≤l.length:=List.length_filter_le ..
theorem len_drop_lt:∀ {l:List Item} {id:ByteArray},(lk l id).isSome=true→(dropV l id).length < l.length
 | [],_,h=>by cases h
 | x::l,id,h=>by
  rw [lk_cons] at h
  unfold dropV
  rw [List.filter_cons]
  by_cases hx:eqS x.id id=true
  ·rw [if_neg (by rw [hx]; simp)]
   have:=len_drop l id
   unfold dropV at this
   rw [List.length_cons]; omega
  ·rw [if_neg hx] at h
   have:=len_drop_lt h
   unfold dropV at this
   split<;>simp only [List.length_cons]<;>omega
theorem rlaid {s:State} {x:Item} {b:Bool} (h1:Ris s.store) (h2:Ris s.out) (h3:s.store.length + s.out.length≤100) (hf:s.f.Ok) (hx:x.Ok):ref09_laid_s s x b=some ⟨s.r,s.f,if hasP s.f x=true then putV (dropV s.store x.id) x else dropV s.store x.id,if hasP s.f x=false∧b=true then putV (dropV s.out x.id) x else dropV s.out x.id,s.k,s.count,s.clock,s.epoch⟩:=by
 have e1:=len_drop s.store x.id
 have e2:=len_drop s.out x.id
 unfold ref09_laid_s
 rw [bnd_of (rdrop_s (by omega)),bnd_of (rdrop_s (by omega)),bnd_of (has3_s hf hx),bnd_of (rput_s (by omega)),bnd_of (rput_s (by omega))]
 cases hasP s.f x<;>cases b<;>rfl
theorem rstands {s:State} {id:ByteArray} {N:Nat} (h:SOk s N):ref09_Stands_s s id=some (getI id (bothV s.store s.out)):=by
 have hl:=h.le
 have hlen:=both_len h
 unfold ref09_Stands_s
 rw [bnd_of (rboth_s h.rs h.ro (by omega)),bnd_of (get_s (by omega))]
end
end Go.Proofs.YtidkmoohgadjkaaGreat
namespace Go.Proofs.YtidkmoohgadjkaaGreat
open Go E Pred
noncomputable section
open Classical
def state0:State:=⟨0,.mk 0 ⟨#[]⟩ 0 0 0 [],[],[],⟨zero8,[]⟩,0,0,0⟩
def newS (r:Int) (f:Pred):State:=⟨r,f,[],[],⟨zero8,[]⟩,0,0,0⟩
def newV (r:Int) (f:Pred):State × Int:=if inN r 1 8&&mayP f then (newS r f,0) else (state0,1)
theorem lnew_s {r:Int} {f:Pred} (h:f.Ok) (hs:f.size≤1000):local_New_s r f=some ((newV r f).1,errO (newV r f).2):=by
 unfold local_New_s newV
 rw [bnd_of (pmay_s h),bnd_of (fresh_pred fuelR (by unfold fuelR; omega) hs),ltn,ltn]
 unfold inN
 cases leI 1 r<;>cases leI r 8<;>cases mayP f<;>rfl
theorem rnew_s {r:Int} {f:Pred} (h:f.Ok) (hs:f.size≤1000):ref09_New_s r f=some (newV r f):=by
 unfold ref09_New_s newV
 rw [bnd_of (may3_s h hs),ltn,ltn]
 unfold inN
 cases leI 1 r<;>cases leI r 8<;>cases mayP f<;>rfl
theorem lk_both_dj {s:State} {N:Nat} (h:SOk s N) (id:ByteArray):lk (bothV s.store s.out) id=(lk s.store id).or (lk s.out id):=by
 rw [lk_both h.rs h.ro]
 cases h1:lk s.store id with
 | none=>exact newer_none' _
 | some x=>rw [h.dj id (by rw [h1]; rfl)]; rfl
where newer_none' (o:Option Item):newer none o=(none:Option Item).or o:=by cases o<;>rfl
theorem lstands {s:State} {id:ByteArray} {N:Nat} (h:SOk s N):local_stands_s s id=some (getI id (bothV s.store s.out)):=by
 have hl:=h.le
 unfold local_stands_s
 rw [bnd_of (lget_s h.rs (by omega)),bnd_of (lget_s h.ro (by omega))]
 have e:=lk_both_dj h id
 cases h1:lk s.store id with
 | none =>
  rw [getI_f h1,br_f (by rfl)]
  rw [h1] at e
  cases h2:lk s.out id with
  | none=>rw [h2] at e; rw [getI_f h2,getI_f e]
  | some y=>rw [h2] at e; rw [getI_t h2,getI_t e]
 | some x =>
  rw [h1] at e
  rw [getI_t h1,getI_t e]; rfl
def verI (s:State) (x:Item):Item:=⟨x.id,s.r,s.count + 1,s.clock + 1,x.kind,x.num,x.re,x.im,x.dead⟩
def madeV (s:State) (x:Item):State :=
 ⟨s.r,s.f,if hasP s.f (verI s x)=true then putV (dropV s.store x.id) (verI s x) else dropV s.store x.id,if hasP s.f (verI s x)=true then dropV s.out x.id else putV (dropV s.out x.id) (verI s x),ownK s.k x.id s.r (s.count + 1),s.count + 1,s.clock + 1,s.epoch⟩
def makeV (s:State) (x:Item):State × Int:=if eqI s.count 1000 || eqI s.clock 1000000 then (s,5) else (madeV s x,0)
theorem wr1 {n:Int} (h:0≤n∧n≤1000000):wr .i64 (n + 1)=n + 1:=wr64 (by omega) (by omega)
theorem le_eq {n m:Int} (h:n≤m):leI m n=eqI n m:=by
 by_cases e:n=m
 ·subst e; rw [eqI_t.2 rfl]; exact leI_t.2 (Int.le_refl _)
 ·rw [eqI_f.2 e]; exact leI_f.2 (by omega)
theorem ok_ver {s:State} {x:Item} {N:Nat} (h:SOk s N) (hr:1≤s.r∧s.r≤8) (hx:x.Ok):(verI s x).Ok:=by
 have h1:=h.cn
 have h2:=h.cl
 exact ⟨hx.id,hx.kind,⟨by show _≤s.r; omega,by show s.r≤_; omega⟩,⟨by show _≤s.count + 1; omega,by show s.count + 1≤_; omega⟩,⟨by show _≤s.clock + 1; omega,by show s.clock + 1≤_; omega⟩,hx.num⟩
theorem lversion {s:State} {x:Item} {N:Nat} (h:SOk s N) (hN:N≤90000) (hr:1≤s.r∧s.r≤8) (hx:x.Ok):local_version_s s x=some ((makeV s x).1,errO (makeV s x).2):=by
 have hl:=h.le
 have e1:=len_drop s.store x.id
 have e2:=len_drop s.out x.id
 have hc:=h.cn
 have hk:=h.cl
 unfold local_version_s makeV
 rw [bnd_of (fresh_state h (by omega)),bnd_of (fresh_state h (by omega)),le_eq hc.2,le_eq hk.2]
 cases eqI s.count 1000 with
 | true=>rfl
 | false =>
  cases eqI s.clock 1000000 with
  | true=>rfl
  | false =>
   rw [br_f rfl,br_f rfl,wr1 (by omega),wr1 hk]
   have hv:=ok_ver h hr hx
   rw [bnd_of (kown_s h.kt (by omega) h.ids hx.id),bnd_of (ldrop_s h.rs (by omega)),bnd_of (ldrop_s h.ro (by omega)),bnd_of (show eval_Has_s s.f ⟨x.id,s.r,s.count + 1,s.clock + 1,x.kind,x.num,x.re,x.im,x.dead⟩=some (hasP s.f (verI s x)) from has_s h.f hv),
    bnd_of (lput_s (ris_drop h.rs _) (by omega)),bnd_of (lput_s (ris_drop h.ro _) (by omega))]
   unfold madeV
   cases hasP s.f (verI s x)<;>rfl
theorem rmade {s:State} {x:Item} {N:Nat} (h:SOk s N) (hN:N≤90000) (hr:1≤s.r∧s.r≤8) (hx:x.Ok):ref09_made_s s x=some (makeV s x):=by
 have hl:=h.le
 have hc:=h.cn
 have hk:=h.cl
 unfold ref09_made_s makeV
 cases eqI s.count 1000 with
 | true=>rfl
 | false =>
  cases eqI s.clock 1000000 with
  | true=>rfl
  | false =>
   rw [br_f rfl,br_f rfl,wr1 (by omega),wr1 hk]
   have hv:=ok_ver h hr hx
   rw [bnd_of (rown_t h.kt (by omega))]
   refine (bnd_of (rlaid (s:=⟨s.r,s.f,s.store,s.out,ownK s.k x.id s.r (s.count + 1),s.count + 1,s.clock + 1,s.epoch⟩) (x:=verI s x) (b:=true) h.rs h.ro (by simp only []; omega) h.f hv)).trans ?_
   unfold madeV
   cases hasP s.f (verI s x)<;>rfl
theorem dj_made {s:State} {y:Item} {id:ByteArray} {b:Bool} (h:Dj s.store s.out) (e:y.id=id):Dj (if b=true then putV (dropV s.store id) y else dropV s.store id) (if b=true then dropV s.out id else putV (dropV s.out id) y):=by
 intro i hi
 subst e
 cases b with
 | true =>
  simp only [if_true] at hi ⊢
  rw [lk_drop]
  split
  ·rfl
  ·rename_i hne
   rw [lk_put,if_neg hne,lk_drop,if_neg hne] at hi
   exact h i hi
 | false =>
  simp only [Bool.false_eq_true,if_false] at hi ⊢
  rw [lk_drop] at hi
  split at hi
  ·cases hi
  ·rename_i hne
   rw [lk_put,if_neg hne,lk_drop,if_neg hne]
   exact h i hi
theorem ok_made {s:State} {x:Item} {N:Nat} (h:SOk s N) (hr:1≤s.r∧s.r≤8) (hx:x.Ok) (hm:mayI (verI s x)=true) (hc:s.count < 1000) (hk:s.clock < 1000000) (hfull:(lk (bothV s.store s.out) x.id).isNone=true→s.store.length + s.out.length < 40):SOk (madeV s x) (N + 1):=by
 have hl:=h.le
 have e1:=len_drop s.store x.id
 have e2:=len_drop s.out x.id
 have hcn:=h.cn
 have hcl:=h.cl
 have hv:=ok_ver h hr hx
 have kt:=kt_own h.kt x.id s.r (s.count + 1)
 have ids:=ids_own (r:=s.r) (c:=s.count + 1) h.ids hx.id
 have md:∀ i∈dropV s.store x.id,i.Ok∧mayI i=true:=fun i hi=>h.is i (mem_drop hi)
 have mo:∀ i∈dropV s.out x.id,i.Ok∧mayI i=true:=fun i hi=>h.io i (mem_drop hi)
 have hdj:=dj_made (y:=verI s x) (id:=x.id) (b:=hasP s.f (verI s x)) h.dj rfl
 have hsum:(dropV s.store x.id).length + (dropV s.out x.id).length < 40:=by
  cases hg:lk (bothV s.store s.out) x.id with
  | none=>have:=hfull (by rw [hg]; rfl); omega
  | some y =>
   rw [lk_both h.rs h.ro] at hg
   cases h1:lk s.store x.id with
   | some z=>have:=len_drop_lt (l:=s.store) (id:=x.id) (by rw [h1]; rfl); omega
   | none =>
    rw [h1] at hg
    have:=len_drop_lt (l:=s.out) (id:=x.id) (by rw [show lk s.out x.id=some y from hg]; rfl)
    omega
 have p1:=len_put1 (ris_drop h.rs x.id) (verI s x)
 have p2:=len_put1 (ris_drop h.ro x.id) (verI s x)
 refine ⟨h.f,h.fs,?_,?_,?_,hdj,?_,?_,kt,ids,by show 0≤s.count + 1∧s.count + 1≤1000; omega,by show 0≤s.clock + 1∧s.clock + 1≤1000000; omega,h.ep⟩
 ·show Ris (if _ then _ else _)
  split
  ·exact ris_put (ris_drop h.rs _) _
  ·exact ris_drop h.rs _
 ·show Ris (if _ then _ else _)
  split
  ·exact ris_drop h.ro _
  ·exact ris_put (ris_drop h.ro _) _
 ·unfold madeV
  simp only []
  split<;>omega
 ·intro i hi
  unfold madeV at hi
  simp only [] at hi
  split at hi
  ·rcases mem_put hi with rfl | hi
   ·exact ⟨hv,hm⟩
   ·exact md i hi
  ·exact md i hi
 ·intro i hi
  unfold madeV at hi
  simp only [] at hi
  split at hi
  ·exact mo i hi
  ·rcases mem_put hi with rfl | hi
   ·exact ⟨hv,hm⟩
   ·exact mo i hi
def shapeI (id kind:ByteArray) (num:Int) (re im:Nat):Item:=⟨id,1,1,1,kind,num,re,im,false⟩
def createV (s:State) (id kind:ByteArray) (num:Int) (re im:Nat):State × Int :=
 if (!mayI (shapeI id kind num re im))=true then (s,1) else match lk (bothV s.store s.out) id with
 | none=>if s.store.length + s.out.length=40 then (s,4) else makeV s (shapeI id kind num re im)
 | some y=>if y.dead=true then makeV s (shapeI id kind num re im) else (s,3)
def updateV (s:State) (id kind:ByteArray) (num:Int) (re im:Nat):State × Int :=
 if (!mayI (shapeI id kind num re im))=true then (s,1) else match lk (bothV s.store s.out) id with
 | none=>(s,2)
 | some y=>if y.dead=true then (s,2) else makeV s (shapeI id kind num re im)
def deadI (y:Item):Item:=⟨y.id,y.vr,y.vc,y.stamp,y.kind,y.num,y.re,y.im,true⟩
def deleteV (s:State) (id:ByteArray):State × Int :=
 if (!lettersB id 1)=true then (s,1) else match lk (bothV s.store s.out) id with
 | none=>(s,2)
 | some y=>if y.dead=true then (s,2) else makeV s (deadI y)
theorem verI_cng {s:State} {x y:Item} (h1:x.id=y.id) (h2:x.kind=y.kind) (h3:x.num=y.num) (h4:x.re=y.re) (h5:x.im=y.im) (h6:x.dead=y.dead):makeV s x=makeV s y:=by
 unfold makeV madeV verI; rw [h1,h2,h3,h4,h5,h6]
theorem bndE_err {x:Option (State × Option Int)} {r:State × Int} (h:x=some (r.1,errO r.2)):bndE x (fun y n=>some (y,some n)) (fun y=>some (y,none))=some (r.1,errO r.2):=by
 rw [h]; cases errO r.2<;>rfl
theorem shape_ok {id kind:ByteArray} {num:Int} {re im:Nat} (h1:id.size≤9223372036854775807) (h2:kind.size≤9223372036854775807) (h3 : -9223372036854775808≤num∧num≤9223372036854775807) (v:Int × Int × Int) (hv:(0≤v.1∧v.1≤1)∧(0≤v.2.1∧v.2.1≤1)∧(0≤v.2.2∧v.2.2≤1)):(⟨id,v.1,v.2.1,v.2.2,kind,num,re,im,false⟩:Item).Ok :=
 ⟨h1,h2,⟨by show _≤v.1; omega,by show v.1≤_; omega⟩,⟨by show _≤v.2.1; omega,by show v.2.1≤_; omega⟩,⟨by show _≤v.2.2; omega,by show v.2.2≤_; omega⟩,h3⟩
theorem might_s {x:Item} (h:(⟨x.id,1,1,1,x.kind,x.num,x.re,x.im,x.dead⟩:Item).Ok):local_might_s x=some (mayI ⟨x.id,1,1,1,x.kind,x.num,x.re,x.im,x.dead⟩):=by
 unfold local_might_s; rw [bnd_of (imay_s h)]
theorem lsum {s:State} {N:Nat} (h:SOk s N):wr .i64 ((s.store.length:Int) + (s.out.length:Int))=((s.store.length + s.out.length:Nat):Int):=by have:=h.le; rw [wr64 (by omega) (by omega)]; omega
section
variable {s:State} {id kind:ByteArray} {num:Int} {re im:Nat} {N:Nat} (h:SOk s N) (hN:N≤90000) (hr:1≤s.r∧s.r≤8) (h1:id.size≤9223372036854775807)
include h hN hr h1
theorem lcreate (h2:kind.size≤9223372036854775807) (h3 : -9223372036854775808≤num∧num≤9223372036854775807):local_Create_s s id kind num re im=some ((createV s id kind num re im).1,errO (createV s id kind num re im).2):=by
 have hl:=h.le
 have o1:(shapeI id kind num re im).Ok:=shape_ok h1 h2 h3 (1,1,1) (by decide)
 have o0:(⟨id,0,0,0,kind,num,re,im,false⟩:Item).Ok:=shape_ok h1 h2 h3 (0,0,0) (by decide)
 have hj:local_Create_j1 s id kind num re im=some ((makeV s (shapeI id kind num re im)).1,errO (makeV s (shapeI id kind num re im)).2):=by
  unfold local_Create_j1
  exact bndE_err (by rw [lversion h hN hr o0,verI_cng (x:=⟨id,0,0,0,kind,num,re,im,false⟩) (y:=shapeI id kind num re im) rfl rfl rfl rfl rfl rfl])
 unfold local_Create_s createV
 rw [bnd_of (lstands h),bnd_of (might_s (x:=⟨id,0,0,0,kind,num,re,im,false⟩) o1),hj,lsum h,bnd_of (fresh_state h (by omega)),bnd_of (fresh_state h (by omega)),bnd_of (fresh_state h (by omega))]
 show br (!mayI (shapeI id kind num re im)) _ _=_
 cases mayI (shapeI id kind num re im) with
 | false=>rfl
 | true =>
  rw [br_f (by rfl),if_neg (by simp)]
  cases hg:lk (bothV s.store s.out) id with
  | none =>
   rw [getI_f hg,br_f (by rfl),br_t (by rfl)]
   by_cases h40:s.store.length + s.out.length=40
   ·rw [br_t (leI_t.2 (by omega))]; simp only [if_pos h40]; rfl
   ·rw [br_f (leI_f.2 (by omega))]; simp only [if_neg h40]
  | some y =>
   rw [getI_t hg]
   dsimp only
   cases y.dead<;>rfl
theorem lupdate (h2:kind.size≤9223372036854775807) (h3 : -9223372036854775808≤num∧num≤9223372036854775807):local_Update_s s id kind num re im=some ((updateV s id kind num re im).1,errO (updateV s id kind num re im).2):=by
 have hl:=h.le
 have o1:(shapeI id kind num re im).Ok:=shape_ok h1 h2 h3 (1,1,1) (by decide)
 have o0:(⟨id,0,0,0,kind,num,re,im,false⟩:Item).Ok:=shape_ok h1 h2 h3 (0,0,0) (by decide)
 have hj:bndE (local_version_s s ⟨id,0,0,0,kind,num,re,im,false⟩) (fun y n=>some (y,some n)) (fun y=>some (y,none))=some ((makeV s (shapeI id kind num re im)).1,errO (makeV s (shapeI id kind num re im)).2) :=
  bndE_err (by rw [lversion h hN hr o0,verI_cng (x:=⟨id,0,0,0,kind,num,re,im,false⟩) (y:=shapeI id kind num re im) rfl rfl rfl rfl rfl rfl])
 unfold local_Update_s updateV
 rw [bnd_of (might_s (x:=⟨id,0,0,0,kind,num,re,im,false⟩) o1),bnd_of (lstands h),bnd_of (fresh_state h (by omega)),bnd_of (fresh_state h (by omega))]
 show br (!mayI (shapeI id kind num re im)) _ _=_
 cases mayI (shapeI id kind num re im) with
 | false=>rfl
 | true =>
  rw [br_f (by rfl),if_neg (by simp)]
  cases hg:lk (bothV s.store s.out) id with
  | none=>rw [getI_f hg]; rfl
  | some y =>
   rw [getI_t hg]
   dsimp only
   cases y.dead with
   | true=>rfl
   | false=>exact hj
theorem ldelete:local_Delete_s s id=some ((deleteV s id).1,errO (deleteV s id).2):=by
 have hl:=h.le
 unfold local_Delete_s deleteV
 rw [bnd_of (show item_Name_s id=some (lettersB id 1) by unfold item_Name_s; rw [chk_t (decide_eq_true h1)]),bnd_of (lstands h),bnd_of (fresh_state h (by omega)),bnd_of (fresh_state h (by omega))]
 cases lettersB id 1 with
 | false=>rfl
 | true =>
  rw [br_f (by rfl),if_neg (by simp)]
  cases hg:lk (bothV s.store s.out) id with
  | none=>rw [getI_f hg]; rfl
  | some y =>
   rw [getI_t hg]
   have hy:y.Ok:=by
    rw [lk_both h.rs h.ro] at hg
    cases e1:lk s.store id with
    | some z =>
     rw [e1] at hg
     have hz:=h.is z (lk_some e1).1
     rw [h.dj id (by rw [e1]; rfl)] at hg
     injection hg with hg; rw [←hg]; exact hz.1
    | none =>
     rw [e1] at hg
     exact (h.io y (lk_some (show lk s.out id=some y from hg)).1).1
   dsimp only
   cases hd:y.dead with
   | true=>rfl
   | false =>
    have hd':(deadI y).Ok:=⟨hy.id,hy.kind,hy.vr,hy.vc,hy.stamp,hy.num⟩
    refine (br_f (by rfl)).trans ((br_f rfl).trans ?_)
    exact bndE_err (x:=local_version_s s (deadI y)) (lversion h hN hr hd')
theorem rcreate (h2:kind.size≤9223372036854775807) (h3 : -9223372036854775808≤num∧num≤9223372036854775807):ref09_Create_s s id kind num re im=some (createV s id kind num re im):=by
 have hl:=h.le
 have o1:(shapeI id kind num re im).Ok:=shape_ok h1 h2 h3 (1,1,1) (by decide)
 have hs:ref09_shape_s id kind num re im=some (shapeI id kind num re im,mayI (shapeI id kind num re im)):=by
  unfold ref09_shape_s; exact bnd_of (rimay_s o1)
 have j2:∀ b,ref09_Create_j2 s (shapeI id kind num re im,b)=some (makeV s (shapeI id kind num re im)):=fun b=>by
  unfold ref09_Create_j2; exact bnd_of (rmade h hN hr o1)
 unfold ref09_Create_s createV
 rw [bnd_of hs,bnd_of (rstands h)]
 dsimp only
 cases mayI (shapeI id kind num re im) with
 | false=>rfl
 | true =>
  rw [br_f (by rfl),if_neg (by simp)]
  unfold ref09_Create_j1
  rw [j2,lsum h]
  cases hg:lk (bothV s.store s.out) id with
  | none =>
   rw [getI_f hg,br_f (by rfl),br_t (by rfl)]
   by_cases h40:s.store.length + s.out.length=40
   ·rw [br_t (eqI_t.2 (by omega))]; simp only [if_pos h40]
   ·rw [br_f (eqI_f.2 (by omega))]; simp only [if_neg h40]
  | some y =>
   rw [getI_t hg]
   dsimp only
   cases y.dead<;>rfl
theorem rupdate (h2:kind.size≤9223372036854775807) (h3 : -9223372036854775808≤num∧num≤9223372036854775807):ref09_Update_s s id kind num re im=some (updateV s id kind num re im):=by
 have hl:=h.le
 have o1:(shapeI id kind num re im).Ok:=shape_ok h1 h2 h3 (1,1,1) (by decide)
 have hs:ref09_shape_s id kind num re im=some (shapeI id kind num re im,mayI (shapeI id kind num re im)):=by
  unfold ref09_shape_s; exact bnd_of (rimay_s o1)
 unfold ref09_Update_s updateV
 rw [bnd_of hs,bnd_of (rstands h)]
 dsimp only
 rw [bnd_of (rmade h hN hr o1)]
 cases mayI (shapeI id kind num re im) with
 | false=>rfl
 | true =>
  rw [br_f (by rfl),if_neg (by simp)]
  cases hg:lk (bothV s.store s.out) id with
  | none=>rw [getI_f hg]; rfl
  | some y =>
   rw [getI_t hg]
   dsimp only
   cases y.dead<;>rfl
theorem rdelete:ref09_Delete_s s id=some (deleteV s id):=by
 have hl:=h.le
 unfold ref09_Delete_s deleteV
 rw [bnd_of (show ref01_Name_s id=some (lettersB id 1) by unfold ref01_Name_s; rw [chk_t (decide_eq_true h1)]),bnd_of (rstands h)]
 cases lettersB id 1 with
 | false=>rfl
 | true =>
  rw [br_f (by rfl),if_neg (by simp)]
  cases hg:lk (bothV s.store s.out) id with
  | none=>rw [getI_f hg]; rfl
  | some y =>
   rw [getI_t hg]
   have hy:y.Ok:=by
    rw [lk_both h.rs h.ro] at hg
    cases e1:lk s.store id with
    | some z =>
     rw [e1] at hg
     have hz:=h.is z (lk_some e1).1
     rw [h.dj id (by rw [e1]; rfl)] at hg
     injection hg with hg; rw [←hg]; exact hz.1
    | none =>
     rw [e1] at hg
     exact (h.io y (lk_some (show lk s.out id=some y from hg)).1).1
   dsimp only
   cases hd:y.dead with
   | true=>rfl
   | false =>
    have hd':(deadI y).Ok:=⟨hy.id,hy.kind,hy.vr,hy.vc,hy.stamp,hy.num⟩
    refine (br_f (by rfl)).trans ((br_f rfl).trans ?_)
    exact bnd_of (x:=ref09_made_s s (deadI y)) (rmade h hN hr hd')
end
end
end Go.Proofs.YtidkmoohgadjkaaGreat
set_option maxHeartbeats 0
namespace Go.Proofs.YtidkmoohgadjkaaGreat
open Go E
noncomputable section
open Pred
def law00_Code_s (p0:Option Int):Option (Int) :=
  (opt p0 (fun en =>
  (br (eqI en 1)
   (some 1)
   (br (eqI en 2)
    (some 2)
    (br (eqI en 3)
     (some 3)
     (br (eqI en 4)
      (some 4)
      (br (eqI en 5)
       (some 5)
       (br (eqI en 6)
        (some 6)
        (br (eqI en 7)
         (some 7)
         (br (eqI en 8)
          (some 8)
          (br (eqI en 9)
           (some 9)
           (br (eqI en 10)
            (some 10)
            (some (-1)))))))))))))
  (some 0))
def law00_Pick_s (p0:Int) (p1:Int):Option (Int) :=
 (chk (!eqI p1 0)
  (br (ltI (tmodI p0 p1) 0)
   (some (wr .i64 ((tmodI p0 p1) + p1)))
   (some (tmodI p0 p1))))
variable {X:Task→Prop} (hX:Closed X) {Q:A→List Blk→Prop}
include hX
theorem law00_Code_c  {p0:Option Int} {r:Int} (h:law00_Code_s p0=some r) (hQ:Q (iv r) []):X (.call 36 [errA 159 p0] [] Q):=by
  have K:=fun a (e:some a=some r)=>ret_some (f:=fun y=>iv y) (g:=fun y=>[]) e hQ
  unfold law00_Code_s at h
  cases p0 with
  | none =>
    replace h:=opt_no h
    refine call_intro hX Tryz.func36 rfl rfl ?_
    conv=>whnf
    repeat((first|refine dw ?_);conv=>whnf)
    exact K _ h
  | some en =>
    replace h:=opt_so h
    refine call_intro hX Tryz.func36 rfl rfl ?_
    conv=>whnf
    repeat((first|refine dw ?_);conv=>whnf)
    refine loop_intro hX ?_
    conv=>whnf
    repeat((first|refine dw ?_);conv=>whnf)
    revert h
    refine brk (fun c1 h=>?_) (fun c1 h=>?_)
    ·conv=>whnf
     repeat((first|refine dw ?_|refine bct c1 ?_);conv=>whnf)
     exact K _ h
    ·conv=>whnf
     repeat((first|refine dw ?_|refine bcf c1 ?_);conv=>whnf)
     refine loop_intro hX ?_
     conv=>whnf
     repeat((first|refine dw ?_);conv=>whnf)
     revert h
     refine brk (fun c2 h=>?_) (fun c2 h=>?_)
     ·conv=>whnf
      repeat((first|refine dw ?_|refine bct c2 ?_);conv=>whnf)
      exact K _ h
     ·conv=>whnf
      repeat((first|refine dw ?_|refine bcf c2 ?_);conv=>whnf)
      refine loop_intro hX ?_
      conv=>whnf
      repeat((first|refine dw ?_);conv=>whnf)
      revert h
      refine brk (fun c3 h=>?_) (fun c3 h=>?_)
      ·conv=>whnf
       repeat((first|refine dw ?_|refine bct c3 ?_);conv=>whnf)
       exact K _ h
      ·conv=>whnf
       repeat((first|refine dw ?_|refine bcf c3 ?_);conv=>whnf)
       refine loop_intro hX ?_
       conv=>whnf
       repeat((first|refine dw ?_);conv=>whnf)
       revert h
       refine brk (fun c4 h=>?_) (fun c4 h=>?_)
       ·conv=>whnf
        repeat((first|refine dw ?_|refine bct c4 ?_);conv=>whnf)
        exact K _ h
       ·conv=>whnf
        repeat((first|refine dw ?_|refine bcf c4 ?_);conv=>whnf)
        refine loop_intro hX ?_
        conv=>whnf
        repeat((first|refine dw ?_);conv=>whnf)
        revert h
        refine brk (fun c5 h=>?_) (fun c5 h=>?_)
        ·conv=>whnf
         repeat((first|refine dw ?_|refine bct c5 ?_);conv=>whnf)
         exact K _ h
        ·conv=>whnf
         repeat((first|refine dw ?_|refine bcf c5 ?_);conv=>whnf)
         refine loop_intro hX ?_
         conv=>whnf
         repeat((first|refine dw ?_);conv=>whnf)
         revert h
         refine brk (fun c6 h=>?_) (fun c6 h=>?_)
         ·conv=>whnf
          repeat((first|refine dw ?_|refine bct c6 ?_);conv=>whnf)
          exact K _ h
         ·conv=>whnf
          repeat((first|refine dw ?_|refine bcf c6 ?_);conv=>whnf)
          refine loop_intro hX ?_
          conv=>whnf
          repeat((first|refine dw ?_);conv=>whnf)
          revert h
          refine brk (fun c7 h=>?_) (fun c7 h=>?_)
          ·conv=>whnf
           repeat((first|refine dw ?_|refine bct c7 ?_);conv=>whnf)
           exact K _ h
          ·conv=>whnf
           repeat((first|refine dw ?_|refine bcf c7 ?_);conv=>whnf)
           refine loop_intro hX ?_
           conv=>whnf
           repeat((first|refine dw ?_);conv=>whnf)
           revert h
           refine brk (fun c8 h=>?_) (fun c8 h=>?_)
           ·conv=>whnf
            repeat((first|refine dw ?_|refine bct c8 ?_);conv=>whnf)
            exact K _ h
           ·conv=>whnf
            repeat((first|refine dw ?_|refine bcf c8 ?_);conv=>whnf)
            refine loop_intro hX ?_
            conv=>whnf
            repeat((first|refine dw ?_);conv=>whnf)
            revert h
            refine brk (fun c9 h=>?_) (fun c9 h=>?_)
            ·conv=>whnf
             repeat((first|refine dw ?_|refine bct c9 ?_);conv=>whnf)
             exact K _ h
            ·conv=>whnf
             repeat((first|refine dw ?_|refine bcf c9 ?_);conv=>whnf)
             refine loop_intro hX ?_
             conv=>whnf
             repeat((first|refine dw ?_);conv=>whnf)
             revert h
             refine brk (fun c10 h=>?_) (fun c10 h=>?_)
             ·conv=>whnf
              repeat((first|refine dw ?_|refine bct c10 ?_);conv=>whnf)
              exact K _ h
             ·conv=>whnf
              repeat((first|refine dw ?_|refine bcf c10 ?_);conv=>whnf)
              refine loop_intro hX ?_
              conv=>whnf
              repeat((first|refine dw ?_);conv=>whnf)
              exact K _ h
theorem law00_Pick_c  {p0:Int} {p1:Int} {r:Int} (h:law00_Pick_s p0 p1=some r) (hQ:Q (iv r) []):X (.call 48 [iv p0,iv p1] [] Q):=by
  have K:=fun a (e:some a=some r)=>ret_some (f:=fun y=>iv y) (g:=fun y=>[]) e hQ
  unfold law00_Pick_s at h
  refine call_intro hX Tryz.func48 rfl rfl ?_
  revert h
  refine chkk fun c1 h=>?_
  conv=>whnf
  repeat((first|refine dw ?_|refine bcf (nb c1) ?_);conv=>whnf)
  revert h
  refine brk (fun c2 h=>?_) (fun c2 h=>?_)
  ·conv=>whnf
   repeat((first|refine dw ?_|refine bct c2 ?_);conv=>whnf)
   exact K _ h
  ·conv=>whnf
   repeat((first|refine dw ?_|refine bcf c2 ?_);conv=>whnf)
   exact K _ h
end
end Go.Proofs.YtidkmoohgadjkaaGreat
set_option maxHeartbeats 0
namespace Go.Proofs.YtidkmoohgadjkaaGreat
open Go E
noncomputable section
open Pred
def law09_up_s:Option (Bool) :=
 (bndE (local_New_s 1 (Pred.mk 1 ⟨#[]⟩ 0 0 0 ([]:List Pred))) (fun y1 n3 =>
  (bndE (local_Create_s y1 ⟨#[97]⟩ ⟨#[]⟩ 1 0 0) (fun y4 n6 =>
   (bnd (local_Read_s y4) fun y7 =>
    some false))
    (fun y4 =>
   (bnd (local_Read_s y4) fun y9 =>
    some false))))
   (fun y1 =>
  (bndE (local_Create_s y1 ⟨#[97]⟩ ⟨#[]⟩ 1 0 0) (fun y11 n13 =>
   (bnd (local_Read_s y11) fun y14 =>
    some false))
    (fun y11 =>
   (bnd (local_Read_s y11) fun y16 =>
    (br (!eqI (y16.length:Int) 1)
     (some false)
     (bnd (local_May_s y11) fun y19 =>
      (br (!y19)
       (some false)
       (bnd (atL y16 0) fun x22 =>
        (br (eqS x22.id ⟨#[97]⟩)
         (br (andB (eqI x22.vr 1) (andB (eqI x22.vc 1) true))
          (br (eqI x22.stamp 1)
           (some (eqI y11.k.star.x0 1))
           (some false))
          (some false))
         (some false)))))))))))
def law09_Do_s (p0:State) (p1:Deed9):Option (State × Int) :=
 (bnd (law00_Pick_s p1.what 4) fun y1 =>
  (br (eqI y1 0)
   (bndE (local_Create_s p0 p1.id p1.kind p1.num p1.re p1.im) (fun y4 n6 =>
    (bnd (law00_Code_s (some n6)) fun y7 =>
     some (y4,y7)))
     (fun y4 =>
    (bnd (law00_Code_s none) fun y9 =>
     some (y4,y9))))
   (br (eqI y1 1)
    (bndE (local_Update_s p0 p1.id p1.kind p1.num p1.re p1.im) (fun y12 n14 =>
     (bnd (law00_Code_s (some n14)) fun y15 =>
      some (y12,y15)))
      (fun y12 =>
     (bnd (law00_Code_s none) fun y17 =>
      some (y12,y17))))
    (br (eqI y1 2)
     (bndE (local_Delete_s p0 p1.id) (fun y20 n22 =>
      (bnd (law00_Code_s (some n22)) fun y23 =>
       some (y20,y23)))
       (fun y20 =>
      (bnd (law00_Code_s none) fun y25 =>
       some (y20,y25))))
     (bnd (law00_Pred_s p1.f) fun y27 =>
      (bndE (local_Filter_s p0 y27) (fun y29 n31 =>
       (bnd (law00_Code_s (some n31)) fun y32 =>
        some (y29,y32)))
        (fun y29 =>
       (bnd (law00_Code_s none) fun y34 =>
        some (y29,y34)))))))))
def law09_Want_s (p0:State) (p1:Deed9):Option (State × Int) :=
 (bnd (law00_Pick_s p1.what 4) fun y1 =>
  (br (eqI y1 0)
   (bnd (ref09_Create_s p0 p1.id p1.kind p1.num p1.re p1.im) fun y4 =>
    some (y4.1,y4.2))
   (br (eqI y1 1)
    (bnd (ref09_Update_s p0 p1.id p1.kind p1.num p1.re p1.im) fun y7 =>
     some (y7.1,y7.2))
    (br (eqI y1 2)
     (bnd (ref09_Delete_s p0 p1.id) fun y10 =>
      some (y10.1,y10.2))
     (bnd (law00_Pred_s p1.f) fun y12 =>
      (bnd (ref09_Filter_s p0 y12) fun y14 =>
       some (y14.1,y14.2)))))))
def law09_Few_l1:List Deed9→Option (Int)
  | [] =>
  some 1
  | x1e::xs1 =>
  (bnd (law00_Small_s x1e.f) fun y3 =>
   (br (eqI y3 0)
    (some 0)
    (law09_Few_l1 xs1  )))
def law09_Few_s (p0:List Deed9) (p1:Int):Option (Int) :=
 (br (ltI p1 (p0.length:Int))
  (some 0)
  (chk (smallL p0)
    ((law09_Few_l1) p0 )))
def law09_LocalStarts_s (p0:Sit) (p1:Int) (p2:Pred):Option (Bool) :=
 (bnd (law09_up_s ) fun y1 =>
  (bnd (law00_Fits_s p0) fun y3 =>
   (bnd (law00_Small_s p2) fun y5 =>
    (br (eqI (wr .i64 (y3 * y5)) 0)
     (some y1)
     (bnd (law00_State_s p0) fun y8 =>
      (bnd (local_May_s y8) fun y10 =>
       (bnd (ref09_May_s y8) fun y12 =>
        (br (@Bool.rec (fun _=>Bool) y12 (!y12) y10)
         (some false)
         (bnd (law00_Pred_s p2) fun y15 =>
          (bndE (local_New_s p1 y15) (fun y17 n19 =>
           (bnd (law00_Pred_s p2) fun y20 =>
            (bnd (ref09_New_s p1 y20) fun y22 =>
             (bnd (ref09_Same_s y17 y22.1) fun y24 =>
              (br y1
               (br y24
                (bnd (law00_Code_s (some n19)) fun y28 =>
                 some (eqI y28 y22.2))
                (some false))
               (some false))))))
            (fun y17 =>
           (bnd (law00_Pred_s p2) fun y30 =>
            (bnd (ref09_New_s p1 y30) fun y32 =>
             (bnd (ref09_Same_s y17 y32.1) fun y34 =>
              (br y1
               (br y34
                (bnd (law00_Code_s none) fun y38 =>
                 some (eqI y38 y32.2))
                (some false))
               (some false))))))))))))))))
def law09_LocalDoes_s (p0:Sit) (p1:Deed9):Option (Bool) :=
 (bnd (law09_up_s ) fun y1 =>
  (bnd (law00_Fits_s p0) fun y3 =>
   (bnd (law00_Small_s p1.f) fun y5 =>
    (br (eqI (wr .i64 (y3 * y5)) 0)
     (some y1)
     (bnd (law00_State_s p0) fun y8 =>
      (bnd (ref09_May_s y8) fun y10 =>
       (br (!y10)
        (some y1)
        (bnd (law09_Do_s y8 p1) fun y13 =>
         (bnd (law09_Want_s y8 p1) fun y15 =>
          (bnd (ref09_Same_s y13.1 y15.1) fun y17 =>
           (br (!y17)
            (some false)
            (br (!eqI y13.2 y15.2)
             (some false)
             (br y1
              (bnd (local_Read_s y13.1) fun y22 =>
               (bnd (ref09_Read_s y15.1) fun y24 =>
                (bnd (law00_Same_s y22 y24) fun y26 =>
                 some (eqI y26 1))))
              (some false))))))))))))))
def law09_LocalPlays_l1 (y1:Bool):List Deed9→State→State→Option (Bool)
  | [],v71,v72 =>
  some y1
  | x1e::xs1,v71,v72 =>
  (bnd (law09_Do_s v71 x1e) fun y73 =>
   (bnd (law09_Want_s v72 x1e) fun y75 =>
    (bnd (ref09_Same_s y73.1 y75.1) fun y77 =>
     (br (!y77)
      (some false)
      (br (!eqI y73.2 y75.2)
       (some false)
       (bnd (local_Read_s y73.1) fun y81 =>
        (bnd (ref09_Read_s y75.1) fun y83 =>
         (bnd (law00_Same_s y81 y83) fun y85 =>
          (br (eqI y85 0)
           (some false)
           (law09_LocalPlays_l1 y1 xs1  y73.1 y75.1))))))))))
def law09_LocalPlays_s (p0:Int) (p1:Pred) (p2:List Deed9):Option (Bool) :=
 (bnd (law09_up_s ) fun y1 =>
  (bnd (law00_Small_s p1) fun y3 =>
   (bnd (law09_Few_s p2 100) fun y5 =>
    (br (eqI (wr .i64 (y3 * y5)) 0)
     (some y1)
     (bnd (law00_Pred_s p1) fun y8 =>
      (bndE (local_New_s p0 y8) (fun y10 n12 =>
       (bnd (law00_Pred_s p1) fun y13 =>
        (bnd (ref09_New_s p0 y13) fun y15 =>
         (br y1
          (bnd (law00_Code_s (some n12)) fun y18 =>
           some (eqI y18 y15.2))
          (some false)))))
        (fun y10 =>
       (bnd (law00_Pred_s p1) fun y20 =>
        (bnd (ref09_New_s p0 y20) fun y22 =>
         (br (!eqI y22.2 0)
          (br y1
           (bnd (law00_Code_s none) fun y26 =>
            some (eqI y26 y22.2))
           (some false))
          (chk (smallL p2)
            ((law09_LocalPlays_l1 y1) p2 y10 y22.1))))))))))))
variable {X:Task→Prop} (hX:Closed X) {Q:A→List Blk→Prop}
include hX
theorem law09_up_c  {r:Bool} (h:law09_up_s  = some r) (hQ:Q (.one (.p (.v (.bool r)))) []):X (.call 52 [] [] Q):=by
  have K:=fun a (e:some a=some r)=>ret_some (f:=fun y=>.one (.p (.v (.bool y)))) (g:=fun y=>[]) e hQ
  unfold law09_up_s at h
  refine call_intro hX Tryz.func52 rfl rfl ?_
  revert h
  refine bndEk (fun y1 n3 e2 h=>?_) (fun y1 e2 h=>?_)
  ·conv=>whnf
   repeat((first|refine dw ?_);conv=>whnf)
   refine call_nz hX ?_
   conv=>whnf
   refine local_New_c hX e2 ?_
   revert h
   refine bndEk (fun y4 n6 e5 h=>?_) (fun y4 e5 h=>?_)
   ·conv=>whnf
    repeat((first|refine dw ?_);conv=>whnf)
    refine local_Create_c hX e5 ?_
    revert h
    refine bndk fun y7 e8 h=>?_
    conv=>whnf
    repeat((first|refine dw ?_);conv=>whnf)
    refine local_Read_c hX e8 ?_
    conv=>whnf
    repeat((first|refine dw ?_);conv=>whnf)
    exact K _ h
   ·conv=>whnf
    repeat((first|refine dw ?_);conv=>whnf)
    refine local_Create_c hX e5 ?_
    revert h
    refine bndk fun y9 e10 h=>?_
    conv=>whnf
    repeat((first|refine dw ?_);conv=>whnf)
    refine local_Read_c hX e10 ?_
    conv=>whnf
    repeat((first|refine dw ?_);conv=>whnf)
    exact K _ h
  ·conv=>whnf
   repeat((first|refine dw ?_);conv=>whnf)
   refine call_nz hX ?_
   conv=>whnf
   refine local_New_c hX e2 ?_
   revert h
   refine bndEk (fun y11 n13 e12 h=>?_) (fun y11 e12 h=>?_)
   ·conv=>whnf
    repeat((first|refine dw ?_);conv=>whnf)
    refine local_Create_c hX e12 ?_
    revert h
    refine bndk fun y14 e15 h=>?_
    conv=>whnf
    repeat((first|refine dw ?_);conv=>whnf)
    refine local_Read_c hX e15 ?_
    conv=>whnf
    repeat((first|refine dw ?_);conv=>whnf)
    exact K _ h
   ·conv=>whnf
    repeat((first|refine dw ?_);conv=>whnf)
    refine local_Create_c hX e12 ?_
    revert h
    refine bndk fun y16 e17 h=>?_
    conv=>whnf
    repeat((first|refine dw ?_);conv=>whnf)
    refine local_Read_c hX e17 ?_
    conv=>whnf
    repeat((first|refine dw ?_|refine eqv_to (map_len _) ?_);conv=>whnf)
    revert h
    refine brk (fun c18 h=>?_) (fun c18 h=>?_)
    ·conv=>whnf
     repeat((first|refine dw ?_|refine bct c18 ?_);conv=>whnf)
     exact K _ h
    ·revert h
     refine bndk fun y19 e20 h=>?_
     conv=>whnf
     repeat((first|refine dw ?_|refine bcf c18 ?_);conv=>whnf)
     refine local_May_c hX e20 ?_
     conv=>whnf
     repeat((first|refine dw ?_|refine bcf c18 ?_);conv=>whnf)
     revert h
     refine brk (fun c21 h=>?_) (fun c21 h=>?_)
     ·conv=>whnf
      repeat((first|refine dw ?_|refine bct c21 ?_);conv=>whnf)
      exact K _ h
     ·revert h
      refine bndk fun x22 a23 h=>?_
      conv=>whnf
      repeat((first|refine dw ?_|refine bcf c21 ?_|refine bct (at_in a23) ?_|refine bct (andt (at_in a23) rfl) ?_|refine row_in (at_row a23) ?_|refine bct (andt (at_in (at_nat a23)) rfl) ?_|refine row_in (at_row (at_nat a23)) ?_);conv=>whnf)
      revert h
      refine brk (fun c24 h=>?_) (fun c24 h=>?_)
      ·conv=>whnf
       repeat((first|refine dw ?_|refine bct c24 ?_|refine bct (at_in a23) ?_|refine bct (andt (at_in a23) rfl) ?_|refine row_in (at_row a23) ?_|refine bct (andt (at_in (at_nat a23)) rfl) ?_|refine row_in (at_row (at_nat a23)) ?_);conv=>whnf)
       revert h
       refine brk (fun c25 h=>?_) (fun c25 h=>?_)
       ·conv=>whnf
        repeat((first|refine dw ?_|refine bct c25 ?_|refine bct (at_in a23) ?_|refine bct (andt (at_in a23) rfl) ?_|refine row_in (at_row a23) ?_|refine bct (andt (at_in (at_nat a23)) rfl) ?_|refine row_in (at_row (at_nat a23)) ?_);conv=>whnf)
        revert h
        refine brk (fun c26 h=>?_) (fun c26 h=>?_)
        ·conv=>whnf
         repeat((first|refine dw ?_|refine bct c26 ?_);conv=>whnf)
         exact K _ h
        ·conv=>whnf
         repeat((first|refine dw ?_|refine bcf c26 ?_);conv=>whnf)
         exact K _ h
       ·conv=>whnf
        repeat((first|refine dw ?_|refine bcf c25 ?_);conv=>whnf)
        exact K _ h
      ·conv=>whnf
       repeat((first|refine dw ?_|refine bcf c24 ?_);conv=>whnf)
       exact K _ h
theorem law09_Do_c  {p0:State} {p1:Deed9} {r:State × Int} (h:law09_Do_s p0 p1=some r) (hQ:Q (.tup [.agg (State.cs r.1),iv r.2]) []):X (.call 50 [.agg (State.cs p0),.agg [ic p1.what,.p (.v (.string p1.id)),.p (.v (.string p1.kind)),ic p1.num,.p (.v (.float .f64 p1.re)),.p (.v (.float .f64 p1.im)),ic p1.f.op,.p (.v (.string p1.f.text)),ic p1.f.n,.p (.v (.float .f64 p1.f.re)),.p (.v (.float .f64 p1.f.im)),.p (.sl (Pred.lrows p1.f.kids))]] [] Q):=by
  have K:=fun a (e:some a=some r)=>ret_some (f:=fun y=>.tup [.agg (State.cs y.1),iv y.2]) (g:=fun y=>[]) e hQ
  unfold law09_Do_s at h
  refine call_nz hX ?_
  conv=>whnf
  refine call_intro hX Tryz.func50 rfl rfl ?_
  revert h
  refine bndk fun y1 e2 h=>?_
  conv=>whnf
  repeat((first|refine dw ?_);conv=>whnf)
  refine law00_Pick_c hX e2 ?_
  conv=>whnf
  repeat((first|refine dw ?_);conv=>whnf)
  revert h
  refine brk (fun c3 h=>?_) (fun c3 h=>?_)
  ·revert h
   refine bndEk (fun y4 n6 e5 h=>?_) (fun y4 e5 h=>?_)
   ·conv=>whnf
    repeat((first|refine dw ?_|refine bct c3 ?_);conv=>whnf)
    refine local_Create_c hX e5 ?_
    revert h
    refine bndk fun y7 e8 h=>?_
    conv=>whnf
    repeat((first|refine dw ?_);conv=>whnf)
    refine law00_Code_c hX e8 ?_
    conv=>whnf
    repeat((first|refine dw ?_);conv=>whnf)
    exact K _ h
   ·conv=>whnf
    repeat((first|refine dw ?_|refine bct c3 ?_);conv=>whnf)
    refine local_Create_c hX e5 ?_
    revert h
    refine bndk fun y9 e10 h=>?_
    conv=>whnf
    repeat((first|refine dw ?_);conv=>whnf)
    refine law00_Code_c hX e10 ?_
    conv=>whnf
    repeat((first|refine dw ?_);conv=>whnf)
    exact K _ h
  ·conv=>whnf
   repeat((first|refine dw ?_|refine bcf c3 ?_);conv=>whnf)
   revert h
   refine brk (fun c11 h=>?_) (fun c11 h=>?_)
   ·revert h
    refine bndEk (fun y12 n14 e13 h=>?_) (fun y12 e13 h=>?_)
    ·conv=>whnf
     repeat((first|refine dw ?_|refine bct c11 ?_);conv=>whnf)
     refine local_Update_c hX e13 ?_
     revert h
     refine bndk fun y15 e16 h=>?_
     conv=>whnf
     repeat((first|refine dw ?_);conv=>whnf)
     refine law00_Code_c hX e16 ?_
     conv=>whnf
     repeat((first|refine dw ?_);conv=>whnf)
     exact K _ h
    ·conv=>whnf
     repeat((first|refine dw ?_|refine bct c11 ?_);conv=>whnf)
     refine local_Update_c hX e13 ?_
     revert h
     refine bndk fun y17 e18 h=>?_
     conv=>whnf
     repeat((first|refine dw ?_);conv=>whnf)
     refine law00_Code_c hX e18 ?_
     conv=>whnf
     repeat((first|refine dw ?_);conv=>whnf)
     exact K _ h
   ·conv=>whnf
    repeat((first|refine dw ?_|refine bcf c11 ?_);conv=>whnf)
    revert h
    refine brk (fun c19 h=>?_) (fun c19 h=>?_)
    ·revert h
     refine bndEk (fun y20 n22 e21 h=>?_) (fun y20 e21 h=>?_)
     ·conv=>whnf
      repeat((first|refine dw ?_|refine bct c19 ?_);conv=>whnf)
      refine local_Delete_c hX e21 ?_
      revert h
      refine bndk fun y23 e24 h=>?_
      conv=>whnf
      repeat((first|refine dw ?_);conv=>whnf)
      refine law00_Code_c hX e24 ?_
      conv=>whnf
      repeat((first|refine dw ?_);conv=>whnf)
      exact K _ h
     ·conv=>whnf
      repeat((first|refine dw ?_|refine bct c19 ?_);conv=>whnf)
      refine local_Delete_c hX e21 ?_
      revert h
      refine bndk fun y25 e26 h=>?_
      conv=>whnf
      repeat((first|refine dw ?_);conv=>whnf)
      refine law00_Code_c hX e26 ?_
      conv=>whnf
      repeat((first|refine dw ?_);conv=>whnf)
      exact K _ h
    ·revert h
     refine bndk fun y27 e28 h=>?_
     conv=>whnf
     repeat((first|refine dw ?_|refine bcf c19 ?_);conv=>whnf)
     refine law00_Pred_c hX e28 ?_
     revert h
     refine bndEk (fun y29 n31 e30 h=>?_) (fun y29 e30 h=>?_)
     ·conv=>whnf
      repeat((first|refine dw ?_);conv=>whnf)
      refine local_Filter_c hX e30 ?_
      revert h
      refine bndk fun y32 e33 h=>?_
      conv=>whnf
      repeat((first|refine dw ?_);conv=>whnf)
      refine law00_Code_c hX e33 ?_
      conv=>whnf
      repeat((first|refine dw ?_);conv=>whnf)
      exact K _ h
     ·conv=>whnf
      repeat((first|refine dw ?_);conv=>whnf)
      refine local_Filter_c hX e30 ?_
      revert h
      refine bndk fun y34 e35 h=>?_
      conv=>whnf
      repeat((first|refine dw ?_);conv=>whnf)
      refine law00_Code_c hX e35 ?_
      conv=>whnf
      repeat((first|refine dw ?_);conv=>whnf)
      exact K _ h
theorem law09_Want_c  {p0:State} {p1:Deed9} {r:State × Int} (h:law09_Want_s p0 p1=some r) (hQ:Q (.tup [.agg (State.cs r.1),iv r.2]) []):X (.call 51 [.agg (State.cs p0),.agg [ic p1.what,.p (.v (.string p1.id)),.p (.v (.string p1.kind)),ic p1.num,.p (.v (.float .f64 p1.re)),.p (.v (.float .f64 p1.im)),ic p1.f.op,.p (.v (.string p1.f.text)),ic p1.f.n,.p (.v (.float .f64 p1.f.re)),.p (.v (.float .f64 p1.f.im)),.p (.sl (Pred.lrows p1.f.kids))]] [] Q):=by
  have K:=fun a (e:some a=some r)=>ret_some (f:=fun y=>.tup [.agg (State.cs y.1),iv y.2]) (g:=fun y=>[]) e hQ
  unfold law09_Want_s at h
  refine call_nz hX ?_
  conv=>whnf
  refine call_intro hX Tryz.func51 rfl rfl ?_
  revert h
  refine bndk fun y1 e2 h=>?_
  conv=>whnf
  repeat((first|refine dw ?_);conv=>whnf)
  refine law00_Pick_c hX e2 ?_
  conv=>whnf
  repeat((first|refine dw ?_);conv=>whnf)
  revert h
  refine brk (fun c3 h=>?_) (fun c3 h=>?_)
  ·revert h
   refine bndk fun y4 e5 h=>?_
   conv=>whnf
   repeat((first|refine dw ?_|refine bct c3 ?_);conv=>whnf)
   refine ref09_Create_c hX e5 ?_
   conv=>whnf
   repeat((first|refine dw ?_);conv=>whnf)
   exact K _ h
  ·conv=>whnf
   repeat((first|refine dw ?_|refine bcf c3 ?_);conv=>whnf)
   revert h
   refine brk (fun c6 h=>?_) (fun c6 h=>?_)
   ·revert h
    refine bndk fun y7 e8 h=>?_
    conv=>whnf
    repeat((first|refine dw ?_|refine bct c6 ?_);conv=>whnf)
    refine ref09_Update_c hX e8 ?_
    conv=>whnf
    repeat((first|refine dw ?_);conv=>whnf)
    exact K _ h
   ·conv=>whnf
    repeat((first|refine dw ?_|refine bcf c6 ?_);conv=>whnf)
    revert h
    refine brk (fun c9 h=>?_) (fun c9 h=>?_)
    ·revert h
     refine bndk fun y10 e11 h=>?_
     conv=>whnf
     repeat((first|refine dw ?_|refine bct c9 ?_);conv=>whnf)
     refine ref09_Delete_c hX e11 ?_
     conv=>whnf
     repeat((first|refine dw ?_);conv=>whnf)
     exact K _ h
    ·revert h
     refine bndk fun y12 e13 h=>?_
     conv=>whnf
     repeat((first|refine dw ?_|refine bcf c9 ?_);conv=>whnf)
     refine law00_Pred_c hX e13 ?_
     revert h
     refine bndk fun y14 e15 h=>?_
     conv=>whnf
     repeat((first|refine dw ?_);conv=>whnf)
     refine ref09_Filter_c hX e15 ?_
     conv=>whnf
     repeat((first|refine dw ?_);conv=>whnf)
     exact K _ h
theorem law09_Few_c  {p0:List Deed9} {p1:Int} {r:Int} (h:law09_Few_s p0 p1=some r) (hQ:Q (iv r) []):X (.call 67 [.one (.p (.sl (p0.map Deed9.row))),iv p1] [] Q):=by
  have K:=fun a (e:some a=some r)=>ret_some (f:=fun y=>iv y) (g:=fun y=>[]) e hQ
  unfold law09_Few_s at h
  refine call_intro hX Tryz.func67 rfl rfl ?_
  conv=>whnf
  repeat((first|refine dw ?_|refine eqv_to (map_len _) ?_);conv=>whnf)
  revert h
  refine brk (fun c1 h=>?_) (fun c1 h=>?_)
  ·conv=>whnf
   repeat((first|refine dw ?_|refine bct c1 ?_);conv=>whnf)
   exact K _ h
  ·revert h
   refine chkk fun hs1 h=>?_
   conv=>whnf
   repeat((first|refine dw ?_|refine bcf c1 ?_);conv=>whnf)
   refine loop_lisx0 (fun (v2:Int)=>pad [(0,.one (.p (.sl (p0.map Deed9.row)))),(4,iv v2)] 17) (fun (v2:Int)=>[]) _ p0 (fun pre1 x1e xs1 v2  hl1 hi1 h ih1=>?_) (fun v2  hi1 h=>?_)  h
   ·rw [law09_Few_l1] at h
    have am1:=at_mid hl1 hi1
    refine loop_intro hX ?_
    revert h
    refine bndk fun y3 e4 h=>?_
    conv=>whnf
    repeat((first|refine dw ?_|refine eqv_to (map_len _) ?_|refine bct (lt_mid hl1 hi1) ?_|refine bct (at_in am1) ?_|refine bct (andt (at_in am1) rfl) ?_|refine row_in (at_row am1) ?_|refine bct (andt (at_in (at_nat am1)) rfl) ?_|refine row_in (at_row (at_nat am1)) ?_);conv=>whnf)
    refine law00_Small_c hX e4 ?_
    conv=>whnf
    repeat((first|refine dw ?_);conv=>whnf)
    revert h
    refine brk (fun c5 h=>?_) (fun c5 h=>?_)
    ·conv=>whnf
     repeat((first|refine dw ?_|refine bct c5 ?_);conv=>whnf)
     exact K _ h
    ·conv=>whnf
     repeat((first|refine dw ?_|refine bcf c5 ?_);conv=>whnf)
     exact ih1 _  (wrL hs1 hl1 hi1) h
   ·rw [law09_Few_l1] at h
    refine loop_intro hX ?_
    conv=>whnf
    repeat((first|refine dw ?_|refine eqv_to (map_len _) ?_|refine bcf (lt_end hi1) ?_);conv=>whnf)
    exact K _ h
theorem law09_LocalStarts_c  {p0:Sit} {p1:Int} {p2:Pred} {r:Bool} (h:law09_LocalStarts_s p0 p1 p2=some r) (hQ:Q (.one (.p (.v (.bool r)))) []):X (.call 9 [.agg [ic p0.r,ic p0.f.op,.p (.v (.string p0.f.text)),ic p0.f.n,.p (.v (.float .f64 p0.f.re)),.p (.v (.float .f64 p0.f.im)),.p (.sl (Pred.lrows p0.f.kids)),.p (.sl (p0.store.map Item.lrow)),.p (.sl (p0.out.map Item.lrow)),ic p0.k.star.x0,ic p0.k.star.x1,ic p0.k.star.x2,ic p0.k.star.x3,ic p0.k.star.x4,ic p0.k.star.x5,ic p0.k.star.x6,ic p0.k.star.x7,.p (.sl (p0.k.l.map Frag.row)),ic p0.count,ic p0.clock,ic p0.epoch],iv p1,.agg [ic p2.op,.p (.v (.string p2.text)),ic p2.n,.p (.v (.float .f64 p2.re)),.p (.v (.float .f64 p2.im)),.p (.sl (Pred.lrows p2.kids))]] [] Q):=by
  have K:=fun a (e:some a=some r)=>ret_some (f:=fun y=>.one (.p (.v (.bool y)))) (g:=fun y=>[]) e hQ
  unfold law09_LocalStarts_s at h
  refine call_intro hX Tryz.func9 rfl rfl ?_
  revert h
  refine bndk fun y1 e2 h=>?_
  conv=>whnf
  repeat((first|refine dw ?_);conv=>whnf)
  refine law09_up_c hX e2 ?_
  revert h
  refine bndk fun y3 e4 h=>?_
  conv=>whnf
  repeat((first|refine dw ?_);conv=>whnf)
  refine law00_Fits_c hX e4 ?_
  revert h
  refine bndk fun y5 e6 h=>?_
  conv=>whnf
  repeat((first|refine dw ?_);conv=>whnf)
  refine law00_Small_c hX e6 ?_
  conv=>whnf
  repeat((first|refine dw ?_);conv=>whnf)
  revert h
  refine brk (fun c7 h=>?_) (fun c7 h=>?_)
  ·conv=>whnf
   repeat((first|refine dw ?_|refine bct c7 ?_);conv=>whnf)
   exact K _ h
  ·revert h
   refine bndk fun y8 e9 h=>?_
   conv=>whnf
   repeat((first|refine dw ?_|refine bcf c7 ?_);conv=>whnf)
   refine law00_State_c hX e9 ?_
   revert h
   refine bndk fun y10 e11 h=>?_
   conv=>whnf
   repeat((first|refine dw ?_);conv=>whnf)
   refine local_May_c hX e11 ?_
   revert h
   refine bndk fun y12 e13 h=>?_
   conv=>whnf
   repeat((first|refine dw ?_);conv=>whnf)
   refine ref09_May_c hX e13 ?_
   conv=>whnf
   repeat((first|refine dw ?_);conv=>whnf)
   revert h
   refine brk (fun c14 h=>?_) (fun c14 h=>?_)
   ·conv=>whnf
    repeat((first|refine dw ?_|refine bct c14 ?_);conv=>whnf)
    exact K _ h
   ·revert h
    refine bndk fun y15 e16 h=>?_
    conv=>whnf
    repeat((first|refine dw ?_|refine bcf c14 ?_);conv=>whnf)
    refine law00_Pred_c hX e16 ?_
    revert h
    refine bndEk (fun y17 n19 e18 h=>?_) (fun y17 e18 h=>?_)
    ·conv=>whnf
     repeat((first|refine dw ?_);conv=>whnf)
     refine local_New_c hX e18 ?_
     revert h
     refine bndk fun y20 e21 h=>?_
     conv=>whnf
     repeat((first|refine dw ?_);conv=>whnf)
     refine law00_Pred_c hX e21 ?_
     revert h
     refine bndk fun y22 e23 h=>?_
     conv=>whnf
     repeat((first|refine dw ?_);conv=>whnf)
     refine ref09_New_c hX e23 ?_
     revert h
     refine bndk fun y24 e25 h=>?_
     conv=>whnf
     repeat((first|refine dw ?_);conv=>whnf)
     refine ref09_Same_c hX e25 ?_
     conv=>whnf
     repeat((first|refine dw ?_);conv=>whnf)
     revert h
     refine brk (fun c26 h=>?_) (fun c26 h=>?_)
     ·conv=>whnf
      repeat((first|refine dw ?_|refine bct c26 ?_);conv=>whnf)
      revert h
      refine brk (fun c27 h=>?_) (fun c27 h=>?_)
      ·revert h
       refine bndk fun y28 e29 h=>?_
       conv=>whnf
       repeat((first|refine dw ?_|refine bct c27 ?_);conv=>whnf)
       refine law00_Code_c hX e29 ?_
       conv=>whnf
       repeat((first|refine dw ?_|refine bct c27 ?_);conv=>whnf)
       exact K _ h
      ·conv=>whnf
       repeat((first|refine dw ?_|refine bcf c27 ?_);conv=>whnf)
       exact K _ h
     ·conv=>whnf
      repeat((first|refine dw ?_|refine bcf c26 ?_);conv=>whnf)
      exact K _ h
    ·conv=>whnf
     repeat((first|refine dw ?_);conv=>whnf)
     refine local_New_c hX e18 ?_
     revert h
     refine bndk fun y30 e31 h=>?_
     conv=>whnf
     repeat((first|refine dw ?_);conv=>whnf)
     refine law00_Pred_c hX e31 ?_
     revert h
     refine bndk fun y32 e33 h=>?_
     conv=>whnf
     repeat((first|refine dw ?_);conv=>whnf)
     refine ref09_New_c hX e33 ?_
     revert h
     refine bndk fun y34 e35 h=>?_
     conv=>whnf
     repeat((first|refine dw ?_);conv=>whnf)
     refine ref09_Same_c hX e35 ?_
     conv=>whnf
     repeat((first|refine dw ?_);conv=>whnf)
     revert h
     refine brk (fun c36 h=>?_) (fun c36 h=>?_)
     ·conv=>whnf
      repeat((first|refine dw ?_|refine bct c36 ?_);conv=>whnf)
      revert h
      refine brk (fun c37 h=>?_) (fun c37 h=>?_)
      ·revert h
       refine bndk fun y38 e39 h=>?_
       conv=>whnf
       repeat((first|refine dw ?_|refine bct c37 ?_);conv=>whnf)
       refine law00_Code_c hX e39 ?_
       conv=>whnf
       repeat((first|refine dw ?_|refine bct c37 ?_);conv=>whnf)
       exact K _ h
      ·conv=>whnf
       repeat((first|refine dw ?_|refine bcf c37 ?_);conv=>whnf)
       exact K _ h
     ·conv=>whnf
      repeat((first|refine dw ?_|refine bcf c36 ?_);conv=>whnf)
      exact K _ h
theorem law09_LocalDoes_c  {p0:Sit} {p1:Deed9} {r:Bool} (h:law09_LocalDoes_s p0 p1=some r) (hQ:Q (.one (.p (.v (.bool r)))) []):X (.call 12 [.agg [ic p0.r,ic p0.f.op,.p (.v (.string p0.f.text)),ic p0.f.n,.p (.v (.float .f64 p0.f.re)),.p (.v (.float .f64 p0.f.im)),.p (.sl (Pred.lrows p0.f.kids)),.p (.sl (p0.store.map Item.lrow)),.p (.sl (p0.out.map Item.lrow)),ic p0.k.star.x0,ic p0.k.star.x1,ic p0.k.star.x2,ic p0.k.star.x3,ic p0.k.star.x4,ic p0.k.star.x5,ic p0.k.star.x6,ic p0.k.star.x7,.p (.sl (p0.k.l.map Frag.row)),ic p0.count,ic p0.clock,ic p0.epoch],.agg [ic p1.what,.p (.v (.string p1.id)),.p (.v (.string p1.kind)),ic p1.num,.p (.v (.float .f64 p1.re)),.p (.v (.float .f64 p1.im)),ic p1.f.op,.p (.v (.string p1.f.text)),ic p1.f.n,.p (.v (.float .f64 p1.f.re)),.p (.v (.float .f64 p1.f.im)),.p (.sl (Pred.lrows p1.f.kids))]] [] Q):=by
  have K:=fun a (e:some a=some r)=>ret_some (f:=fun y=>.one (.p (.v (.bool y)))) (g:=fun y=>[]) e hQ
  unfold law09_LocalDoes_s at h
  refine call_intro hX Tryz.func12 rfl rfl ?_
  revert h
  refine bndk fun y1 e2 h=>?_
  conv=>whnf
  repeat((first|refine dw ?_);conv=>whnf)
  refine law09_up_c hX e2 ?_
  revert h
  refine bndk fun y3 e4 h=>?_
  conv=>whnf
  repeat((first|refine dw ?_);conv=>whnf)
  refine law00_Fits_c hX e4 ?_
  revert h
  refine bndk fun y5 e6 h=>?_
  conv=>whnf
  repeat((first|refine dw ?_);conv=>whnf)
  refine law00_Small_c hX e6 ?_
  conv=>whnf
  repeat((first|refine dw ?_);conv=>whnf)
  revert h
  refine brk (fun c7 h=>?_) (fun c7 h=>?_)
  ·conv=>whnf
   repeat((first|refine dw ?_|refine bct c7 ?_);conv=>whnf)
   exact K _ h
  ·revert h
   refine bndk fun y8 e9 h=>?_
   conv=>whnf
   repeat((first|refine dw ?_|refine bcf c7 ?_);conv=>whnf)
   refine law00_State_c hX e9 ?_
   revert h
   refine bndk fun y10 e11 h=>?_
   conv=>whnf
   repeat((first|refine dw ?_);conv=>whnf)
   refine ref09_May_c hX e11 ?_
   conv=>whnf
   repeat((first|refine dw ?_);conv=>whnf)
   revert h
   refine brk (fun c12 h=>?_) (fun c12 h=>?_)
   ·conv=>whnf
    repeat((first|refine dw ?_|refine bct c12 ?_);conv=>whnf)
    exact K _ h
   ·revert h
    refine bndk fun y13 e14 h=>?_
    conv=>whnf
    repeat((first|refine dw ?_|refine bcf c12 ?_);conv=>whnf)
    refine law09_Do_c hX e14 ?_
    revert h
    refine bndk fun y15 e16 h=>?_
    conv=>whnf
    repeat((first|refine dw ?_);conv=>whnf)
    refine law09_Want_c hX e16 ?_
    revert h
    refine bndk fun y17 e18 h=>?_
    conv=>whnf
    repeat((first|refine dw ?_);conv=>whnf)
    refine ref09_Same_c hX e18 ?_
    conv=>whnf
    repeat((first|refine dw ?_);conv=>whnf)
    revert h
    refine brk (fun c19 h=>?_) (fun c19 h=>?_)
    ·conv=>whnf
     repeat((first|refine dw ?_|refine bct c19 ?_);conv=>whnf)
     exact K _ h
    ·conv=>whnf
     repeat((first|refine dw ?_|refine bcf c19 ?_);conv=>whnf)
     revert h
     refine brk (fun c20 h=>?_) (fun c20 h=>?_)
     ·conv=>whnf
      repeat((first|refine dw ?_|refine bct c20 ?_);conv=>whnf)
      exact K _ h
     ·conv=>whnf
      repeat((first|refine dw ?_|refine bcf c20 ?_);conv=>whnf)
      revert h
      refine brk (fun c21 h=>?_) (fun c21 h=>?_)
      ·revert h
       refine bndk fun y22 e23 h=>?_
       conv=>whnf
       repeat((first|refine dw ?_|refine bct c21 ?_);conv=>whnf)
       refine local_Read_c hX e23 ?_
       revert h
       refine bndk fun y24 e25 h=>?_
       conv=>whnf
       repeat((first|refine dw ?_|refine bct c21 ?_);conv=>whnf)
       refine ref09_Read_c hX e25 ?_
       revert h
       refine bndk fun y26 e27 h=>?_
       conv=>whnf
       repeat((first|refine dw ?_|refine bct c21 ?_);conv=>whnf)
       refine law00_Same_c hX e27 ?_
       conv=>whnf
       repeat((first|refine dw ?_|refine bct c21 ?_);conv=>whnf)
       exact K _ h
      ·conv=>whnf
       repeat((first|refine dw ?_|refine bcf c21 ?_);conv=>whnf)
       exact K _ h
theorem law09_LocalPlays_c  {p0:Int} {p1:Pred} {p2:List Deed9} {r:Bool} (h:law09_LocalPlays_s p0 p1 p2=some r) (hQ:Q (.one (.p (.v (.bool r)))) []):X (.call 13 [iv p0,.agg [ic p1.op,.p (.v (.string p1.text)),ic p1.n,.p (.v (.float .f64 p1.re)),.p (.v (.float .f64 p1.im)),.p (.sl (Pred.lrows p1.kids))],.one (.p (.sl (p2.map Deed9.row)))] [] Q):=by
  have K:=fun a (e:some a=some r)=>ret_some (f:=fun y=>.one (.p (.v (.bool y)))) (g:=fun y=>[]) e hQ
  unfold law09_LocalPlays_s at h
  refine call_intro hX Tryz.func13 rfl rfl ?_
  revert h
  refine bndk fun y1 e2 h=>?_
  conv=>whnf
  repeat((first|refine dw ?_);conv=>whnf)
  refine law09_up_c hX e2 ?_
  revert h
  refine bndk fun y3 e4 h=>?_
  conv=>whnf
  repeat((first|refine dw ?_);conv=>whnf)
  refine law00_Small_c hX e4 ?_
  revert h
  refine bndk fun y5 e6 h=>?_
  conv=>whnf
  repeat((first|refine dw ?_);conv=>whnf)
  refine law09_Few_c hX e6 ?_
  conv=>whnf
  repeat((first|refine dw ?_);conv=>whnf)
  revert h
  refine brk (fun c7 h=>?_) (fun c7 h=>?_)
  ·conv=>whnf
   repeat((first|refine dw ?_|refine bct c7 ?_);conv=>whnf)
   exact K _ h
  ·revert h
   refine bndk fun y8 e9 h=>?_
   conv=>whnf
   repeat((first|refine dw ?_|refine bcf c7 ?_);conv=>whnf)
   refine law00_Pred_c hX e9 ?_
   revert h
   refine bndEk (fun y10 n12 e11 h=>?_) (fun y10 e11 h=>?_)
   ·conv=>whnf
    repeat((first|refine dw ?_);conv=>whnf)
    refine local_New_c hX e11 ?_
    revert h
    refine bndk fun y13 e14 h=>?_
    conv=>whnf
    repeat((first|refine dw ?_);conv=>whnf)
    refine law00_Pred_c hX e14 ?_
    revert h
    refine bndk fun y15 e16 h=>?_
    conv=>whnf
    repeat((first|refine dw ?_);conv=>whnf)
    refine ref09_New_c hX e16 ?_
    conv=>whnf
    repeat((first|refine dw ?_);conv=>whnf)
    revert h
    refine brk (fun c17 h=>?_) (fun c17 h=>?_)
    ·revert h
     refine bndk fun y18 e19 h=>?_
     conv=>whnf
     repeat((first|refine dw ?_|refine bct c17 ?_);conv=>whnf)
     refine law00_Code_c hX e19 ?_
     conv=>whnf
     repeat((first|refine dw ?_|refine bct c17 ?_);conv=>whnf)
     exact K _ h
    ·conv=>whnf
     repeat((first|refine dw ?_|refine bcf c17 ?_);conv=>whnf)
     exact K _ h
   ·conv=>whnf
    repeat((first|refine dw ?_);conv=>whnf)
    refine local_New_c hX e11 ?_
    revert h
    refine bndk fun y20 e21 h=>?_
    conv=>whnf
    repeat((first|refine dw ?_);conv=>whnf)
    refine law00_Pred_c hX e21 ?_
    revert h
    refine bndk fun y22 e23 h=>?_
    conv=>whnf
    repeat((first|refine dw ?_);conv=>whnf)
    refine ref09_New_c hX e23 ?_
    conv=>whnf
    repeat((first|refine dw ?_);conv=>whnf)
    revert h
    refine brk (fun c24 h=>?_) (fun c24 h=>?_)
    ·conv=>whnf
     repeat((first|refine dw ?_|refine bct c24 ?_);conv=>whnf)
     revert h
     refine brk (fun c25 h=>?_) (fun c25 h=>?_)
     ·revert h
      refine bndk fun y26 e27 h=>?_
      conv=>whnf
      repeat((first|refine dw ?_|refine bct c25 ?_);conv=>whnf)
      refine law00_Code_c hX e27 ?_
      conv=>whnf
      repeat((first|refine dw ?_|refine bct c25 ?_);conv=>whnf)
      exact K _ h
     ·conv=>whnf
      repeat((first|refine dw ?_|refine bcf c25 ?_);conv=>whnf)
      exact K _ h
    ·revert h
     refine chkk fun hs1 h=>?_
     conv=>whnf
     repeat((first|refine dw ?_|refine bcf c24 ?_);conv=>whnf)
     refine loop_lisx2 (fun (v28:Int) (v71:State) (v72:State)=>pad [(2,.one (.p (.sl (p2.map Deed9.row)))),(4,.one (.p (.v (.bool y1)))),(0,.one (.ptr 0 0)),(1,.one (.ptr 1 0)),(1,iv v28)] 80) (fun (v28:Int) (v71:State) (v72:State)=>[.box (State.cs v71),.box (State.cs v72)]) _ p2 (fun pre1 x1e xs1 v28 v71 v72 hl1 hi1 h ih1=>?_) (fun v28 v71 v72 hi1 h=>?_) y10 y22.1 h
     ·rw [law09_LocalPlays_l1] at h
      have am1:=at_mid hl1 hi1
      refine loop_intro hX ?_
      revert h
      refine bndk fun y73 e74 h=>?_
      conv=>whnf
      repeat((first|refine dw ?_|refine eqv_to (map_len _) ?_|refine bct (lt_mid hl1 hi1) ?_|refine bct (at_in am1) ?_|refine bct (andt (at_in am1) rfl) ?_|refine row_in (at_row am1) ?_|refine bct (andt (at_in (at_nat am1)) rfl) ?_|refine row_in (at_row (at_nat am1)) ?_);conv=>whnf)
      refine law09_Do_c hX e74 ?_
      revert h
      refine bndk fun y75 e76 h=>?_
      conv=>whnf
      repeat((first|refine dw ?_|refine bct (at_in am1) ?_|refine bct (andt (at_in am1) rfl) ?_|refine row_in (at_row am1) ?_|refine bct (andt (at_in (at_nat am1)) rfl) ?_|refine row_in (at_row (at_nat am1)) ?_);conv=>whnf)
      refine law09_Want_c hX e76 ?_
      revert h
      refine bndk fun y77 e78 h=>?_
      conv=>whnf
      repeat((first|refine dw ?_);conv=>whnf)
      refine ref09_Same_c hX e78 ?_
      conv=>whnf
      repeat((first|refine dw ?_);conv=>whnf)
      revert h
      refine brk (fun c79 h=>?_) (fun c79 h=>?_)
      ·conv=>whnf
       repeat((first|refine dw ?_|refine bct c79 ?_);conv=>whnf)
       exact K _ h
      ·conv=>whnf
       repeat((first|refine dw ?_|refine bcf c79 ?_);conv=>whnf)
       revert h
       refine brk (fun c80 h=>?_) (fun c80 h=>?_)
       ·conv=>whnf
        repeat((first|refine dw ?_|refine bct c80 ?_);conv=>whnf)
        exact K _ h
       ·revert h
        refine bndk fun y81 e82 h=>?_
        conv=>whnf
        repeat((first|refine dw ?_|refine bcf c80 ?_);conv=>whnf)
        refine local_Read_c hX e82 ?_
        revert h
        refine bndk fun y83 e84 h=>?_
        conv=>whnf
        repeat((first|refine dw ?_|refine bcf c80 ?_);conv=>whnf)
        refine ref09_Read_c hX e84 ?_
        revert h
        refine bndk fun y85 e86 h=>?_
        conv=>whnf
        repeat((first|refine dw ?_|refine bcf c80 ?_);conv=>whnf)
        refine law00_Same_c hX e86 ?_
        conv=>whnf
        repeat((first|refine dw ?_|refine bcf c80 ?_);conv=>whnf)
        revert h
        refine brk (fun c87 h=>?_) (fun c87 h=>?_)
        ·conv=>whnf
         repeat((first|refine dw ?_|refine bct c87 ?_);conv=>whnf)
         exact K _ h
        ·conv=>whnf
         repeat((first|refine dw ?_|refine bcf c87 ?_);conv=>whnf)
         exact ih1 _ y73.1 y75.1 (wrL hs1 hl1 hi1) h
     ·rw [law09_LocalPlays_l1] at h
      refine loop_intro hX ?_
      conv=>whnf
      repeat((first|refine dw ?_|refine eqv_to (map_len _) ?_|refine bcf (lt_end hi1) ?_);conv=>whnf)
      exact K _ h
end
end Go.Proofs.YtidkmoohgadjkaaGreat
namespace Go.Proofs.YtidkmoohgadjkaaGreat
open Go E Pred
noncomputable section
open Classical
def know0:Know:=⟨zero8,[]⟩
def withAll (k:Know) (l:List Item):Know:=l.foldl (fun k i=>withK k i.id i.vr i.vc) k
def filteredV (s:State) (f:Pred):State:=⟨s.r,f,(bothV s.store s.out).filter (hasP f),(bothV s.store s.out).filter (fun x=>!hasP f x),withAll know0 (bothV s.store s.out),s.count,s.clock,s.epoch + 1⟩
def filterV (s:State) (f:Pred):State × Int :=
 if (!mayP f || (eqI s.f.op 1&&!eqI f.op 1))=true then (s,1) else if eqI s.epoch 1000000=true then (s,5) else (filteredV s f,0)
theorem both_ok {s:State} {N:Nat} (h:SOk s N):∀ i∈bothV s.store s.out,i.Ok∧mayI i=true:=fun i hi=>(mem_both hi).elim (h.is i) (h.io i)
theorem kt0:KT know0 0:=⟨Nat.le_refl _,Nat.le_refl _⟩
theorem ids0:IdsOk know0:=fun f hf=>by cases hf
theorem kt_all:∀ (l:List Item) {k:Know} {N:Nat},KT k N→KT (withAll k l) (N + l.length)
 | [],k,N,h=>h
 | i::l,k,N,h=>by have:=kt_all l (kt_with h i.id i.vr i.vc); rw [List.length_cons]; exact this.mono (by omega)
theorem ids_all:∀ (l:List Item) {k:Know},IdsOk k→(∀ i∈l,i.Ok)→IdsOk (withAll k l)
 | [],k,h,_=>h
 | i::l,k,h,hl=>ids_all l (ids_with h (hl i (List.mem_cons_self ..)).id) fun j hj=>hl j (List.mem_cons_of_mem _ hj)
theorem lfilter_l {s:State} {f:Pred} (hf:f.Ok):∀ (l:List Item) (k:Know) (a b:List Item) (N:Nat),KT k N→N + l.length≤90000→IdsOk k→(∀ i∈l,i.Ok)→a.length + l.length≤1000→b.length + l.length≤1000 →
  local_Filter_l2 s f f l k a b=some (⟨s.r,f,a++l.filter (hasP f),b++l.filter (fun x=>!hasP f x),withAll k l,s.count,s.clock,wr .i64 (s.epoch + 1)⟩,none)
 | [],k,a,b,N,_,_,_,_,_,_=>by rw [local_Filter_l2]; simp [withAll]
 | i::l,k,a,b,N,hk,hN,hi,hl,ha,hb=>by
  rw [List.length_cons] at hN ha hb
  have hx:=hl i (List.mem_cons_self ..)
  have ih:=fun a' b' h1 h2=>lfilter_l (s:=s) hf l (withK k i.id i.vr i.vc) a' b' (N + 1) (kt_with hk ..) (by omega) (ids_with hi hx.id) (fun j hj=>hl j (List.mem_cons_of_mem _ hj)) h1 h2
  rw [local_Filter_l2,bnd_of (kwith_s hk (by omega) hi hx.id),bnd_of (has_s hf hx),chk_t (roomL_of (by omega)),chk_t (roomL_of (by omega)),List.filter_cons,List.filter_cons]
  cases hp:hasP f i with
  | true=>rw [br_t rfl,ih _ _ (by rw [List.length_append]; simp; omega) (by omega)]; simp [withAll]
  | false=>rw [br_f rfl,ih _ _ (by omega) (by rw [List.length_append]; simp; omega)]; simp [withAll]
theorem drop_none {l:List Item} {id:ByteArray} (h:∀ y∈l,ltS y.id id=true):dropV l id=l:=by
 unfold dropV
 rw [List.filter_eq_self]
 intro y hy
 rw [ltS_ne (h y hy)]; rfl
theorem put_last {l:List Item} {x:Item} (h:∀ y∈l,ltS y.id x.id=true):putV l x=l++[x]:=by
 unfold putV
 rw [List.filter_eq_self.2 h]
 congr 1
 rw [show (l.filter fun y=>ltS x.id y.id)=[] from List.filter_eq_nil_iff.2 fun y hy=>by rw [ltS_asym (h y hy)]; simp]
theorem rfilter_l {f:Pred} (hf:f.Ok):∀ (l:List Item) (v:State) (N:Nat),v.f=f→KT v.k N→N + l.length≤90000→IdsOk v.k→(∀ i∈l,i.Ok)→Ris l→Ris v.store→Ris v.out→(∀ y∈v.store, ∀ x∈l,ltS y.id x.id=true)→(∀ y∈v.out, ∀ x∈l,ltS y.id x.id=true)→v.store.length + v.out.length + l.length≤100 →
  ref09_Filter_l2 l v=some (⟨v.r,f,v.store++l.filter (hasP f),v.out++l.filter (fun x=>!hasP f x),withAll v.k l,v.count,v.clock,v.epoch⟩,0)
 | [],v,N,hv,_,_,_,_,_,_,_,_,_,_=>by rw [ref09_Filter_l2,←hv]; simp [withAll]
 | i::l,v,N,hv,hk,hN,hi,hl,hr,r1,r2,h1,h2,hle=>by
  rw [List.length_cons] at hN hle
  have hx:=hl i (List.mem_cons_self ..)
  rw [ris_cons] at hr
  have s1:∀ y∈v.store,ltS y.id i.id=true:=fun y hy=>h1 y hy i (List.mem_cons_self ..)
  have s2:∀ y∈v.out,ltS y.id i.id=true:=fun y hy=>h2 y hy i (List.mem_cons_self ..)
  have e:=rlaid (s:=⟨v.r,v.f,v.store,v.out,withK v.k i.id i.vr i.vc,v.count,v.clock,v.epoch⟩) (x:=i) (b:=true) r1 r2 (by simp only []; omega) (by simp only []; rw [hv]; exact hf) hx
  simp only [drop_none s1,drop_none s2,put_last s1,put_last s2] at e
  rw [ref09_Filter_l2,bnd_of (rwith_t hk (by omega)),bnd_of e,hv]
  have app:∀ {a:List Item},(∀ y∈a, ∀ x∈i::l,ltS y.id x.id=true)→∀ y∈a++[i], ∀ x∈l,ltS y.id x.id=true:=fun ha y hy x hx=>by
   rcases List.mem_append.1 hy with hy | hy
   ·exact ha y hy x (List.mem_cons_of_mem _ hx)
   ·rw [List.mem_singleton.1 hy]; exact hr.1 x hx
  have tl:∀ {a:List Item},(∀ y∈a, ∀ x∈i::l,ltS y.id x.id=true)→∀ y∈a, ∀ x∈l,ltS y.id x.id=true:=fun ha y hy x hx=>ha y hy x (List.mem_cons_of_mem _ hx)
  have ra:∀ {a:List Item},Ris a→(∀ y∈a,ltS y.id i.id=true)→Ris (a++[i]):=fun ha hs=>by
   have:=ris_put ha i; rwa [put_last hs] at this
  rw [List.filter_cons,List.filter_cons]
  cases hp:hasP f i with
  | true =>
   simp only [if_true,Bool.not_true,Bool.false_eq_true,if_false,Bool.true_eq_false,false_and]
   rw [rfilter_l hf l ⟨v.r,f,v.store++[i],v.out,withK v.k i.id i.vr i.vc,v.count,v.clock,v.epoch⟩ (N + 1) rfl (kt_with hk ..) (by omega) (ids_with hi hx.id) (fun j hj=>hl j (List.mem_cons_of_mem _ hj)) hr.2 (ra r1 s1) r2 (app h1) (tl h2) (by simp; omega)]
   simp [withAll]
  | false =>
   simp only [Bool.not_false,Bool.false_eq_true,if_false,if_true,true_and]
   rw [rfilter_l hf l ⟨v.r,f,v.store,v.out++[i],withK v.k i.id i.vr i.vc,v.count,v.clock,v.epoch⟩ (N + 1) rfl (kt_with hk ..) (by omega) (ids_with hi hx.id) (fun j hj=>hl j (List.mem_cons_of_mem _ hj)) hr.2 r1 (ra r2 s2) (tl h1) (app h2) (by simp; omega)]
   simp [withAll]
theorem lfilter {s:State} {f:Pred} {N:Nat} (h:SOk s N) (hN:N≤90000) (hf:f.Ok) (hs:f.size≤1000):local_Filter_s s f=some ((filterV s f).1,errO (filterV s f).2):=by
 have hl:=h.le
 have hlen:=both_len h
 have he:=h.ep
 have j1:local_Filter_j1 s f=some (if eqI s.epoch 1000000=true then (s,some 5) else (filteredV s f,none)):=by
  unfold local_Filter_j1
  rw [bnd_of (fresh_state h (by omega)),bnd_of (lboth_s (by omega)),bnd_of (fresh_pred fuelR (by unfold fuelR; omega) hs),chk_t (smallL_of (by omega)),le_eq he.2]
  have:=lfilter_l (s:=s) hf (bothV s.store s.out) know0 [] [] 0 kt0 (by omega) ids0 (fun i hi=>(both_ok h i hi).1) (by simp; omega) (by simp; omega)
  rw [show (⟨⟨0,0,0,0,0,0,0,0⟩,[]⟩:Know)=know0 from rfl,this,wr1 he]
  cases eqI s.epoch 1000000<;>rfl
 unfold local_Filter_s filterV
 rw [bnd_of (pmay_s hf),bnd_of (fresh_state h (by omega)),j1]
 cases mayP f with
 | false=>rfl
 | true=>cases eqI s.f.op 1 with
  | false=>cases eqI s.epoch 1000000<;>rfl
  | true=>cases eqI f.op 1 with
   | false=>rfl
   | true=>cases eqI s.epoch 1000000<;>rfl
theorem rfilter {s:State} {f:Pred} {N:Nat} (h:SOk s N) (hN:N≤90000) (hf:f.Ok) (hs:f.size≤1000):ref09_Filter_s s f=some (filterV s f):=by
 have hl:=h.le
 have hlen:=both_len h
 have he:=h.ep
 have j1:ref09_Filter_j1 s f=some (if eqI s.epoch 1000000=true then (s,5) else (filteredV s f,0)):=by
  unfold ref09_Filter_j1
  rw [bnd_of (rboth_s h.rs h.ro (by omega)),chk_t (smallL_of (by omega)),wr1 he]
  have:=rfilter_l hf (bothV s.store s.out) ⟨s.r,f,[],[],know0,s.count,s.clock,s.epoch + 1⟩ 0 rfl kt0 (by omega) ids0 (fun i hi=>(both_ok h i hi).1) (ris_both h.rs h.ro) .nil .nil (fun y hy=>by cases hy) (fun y hy=>by cases hy) (by simp; omega)
  rw [show (⟨⟨0,0,0,0,0,0,0,0⟩,[]⟩:Know)=know0 from rfl,this]
  cases eqI s.epoch 1000000<;>rfl
 unfold ref09_Filter_s filterV
 rw [bnd_of (may3_s hf hs),j1]
 cases mayP f with
 | false=>rfl
 | true=>cases eqI s.f.op 1 with
  | false=>cases eqI s.epoch 1000000<;>rfl
  | true=>cases eqI f.op 1 with
   | false=>rfl
   | true=>cases eqI s.epoch 1000000<;>rfl
def readV (s:State):List Item:=s.store.filter fun x=>!x.dead
theorem lread_l:∀ (l acc:List Item),acc.length + l.length≤999990→local_Read_l1 l acc=some (acc++l.filter fun x=>!x.dead)
 | [],acc,_=>by rw [local_Read_l1]; simp
 | x::l,acc,h=>by
  rw [List.length_cons] at h
  rw [local_Read_l1,chk_t (roomL_of (by omega)),List.filter_cons]
  cases x.dead with
  | true=>rw [br_f (by rfl),lread_l l _ (by omega)]; simp
  | false=>rw [br_t (by rfl),lread_l l _ (by rw [List.length_append]; simp; omega)]; simp
theorem rread_l:∀ (l acc:List Item),acc.length + l.length≤999990→ref09_Read_l1 l acc=some (acc++l.filter fun x=>!x.dead)
 | [],acc,_=>by rw [ref09_Read_l1]; simp
 | x::l,acc,h=>by
  rw [List.length_cons] at h
  rw [ref09_Read_l1,chk_t (roomL_of (by omega)),List.filter_cons]
  cases x.dead with
  | true=>rw [br_f (by rfl),rread_l l _ (by omega)]; simp
  | false=>rw [br_t (by rfl),rread_l l _ (by rw [List.length_append]; simp; omega)]; simp
theorem lread {s:State} (h:s.store.length≤1000):local_Read_s s=some (readV s):=by
 unfold local_Read_s; rw [chk_t (smallL_of (by omega)),lread_l _ _ (by simp; omega)]; rfl
theorem rread {s:State} (h:s.store.length≤1000):ref09_Read_s s=some (readV s):=by
 unfold ref09_Read_s; rw [chk_t (smallL_of (by omega)),rread_l _ _ (by simp; omega)]; rfl
theorem sameList_s {l:List Item} (hn:l.length≤1000000000) (h:∀ x∈l,sameI x x=true):ref06_SameList_s l l=some true:=by
 unfold ref06_SameList_s
 rw [eqI_t.2 rfl,br_f (by rfl),chk_t (smallL_of hn)]
 have:=sameList_l l [] l l rfl rfl fun p hp=>by
  obtain ⟨i,hi⟩:=List.getElem?_of_mem hp
  rw [List.getElem?_zip_eq_some] at hi
  have e:p.1=p.2:=by have:=hi.1.symm.trans hi.2; injection this
  rw [←e]
  exact h p.1 (List.mem_of_getElem? hi.1)
 exact this
theorem same9_s {s:State} {N:Nat} (h:SOk s N) (hN:N≤90000) (hf:sameP s.f s.f=true):ref09_Same_s s s=some true:=by
 have hl:=h.le
 unfold ref09_Same_s
 rw [eqI_self,eqI_self,eqI_self,eqI_self,bnd_of (rsame_s h.f),hf,bnd_of (sameList_s (by omega) fun x hx=>sameI_real (real_may (h.is x hx).2)),bnd_of (sameList_s (by omega) fun x hx=>sameI_real (real_may (h.io x hx).2)),bnd_of (alike_s (N:=N) (by omega) h.kt.kb),alike_self]
 rfl
def pick4 (n:Int):Int:=if ltI (tmodI n 4) 0=true then wr .i64 (tmodI n 4 + 4) else tmodI n 4
theorem pick4_s (n:Int):law00_Pick_s n 4=some (pick4 n):=by
 unfold law00_Pick_s pick4
 rw [chk_t (by rfl)]
 cases ltI (tmodI n 4) 0<;>rfl
def doV (s:State) (d:Deed9):State × Int :=
 if eqI (pick4 d.what) 0=true then createV s d.id d.kind d.num d.re d.im else if eqI (pick4 d.what) 1=true then updateV s d.id d.kind d.num d.re d.im else if eqI (pick4 d.what) 2=true then deleteV s d.id else filterV s d.f
theorem code_s {n:Int} (h:0≤n∧n≤10):law00_Code_s (errO n)=some n:=by
 obtain ⟨h1,h2⟩:=h
 have:n=0∨n=1∨n=2∨n=3∨n=4∨n=5∨n=6∨n=7∨n=8∨n=9∨n=10:=by omega
 rcases this with rfl | rfl | rfl | rfl | rfl | rfl | rfl | rfl | rfl | rfl | rfl<;>rfl
theorem bndE_code {x:Option (State × Option Int)} {r:State × Int} (h:x=some (r.1,errO r.2)) (hr:0≤r.2∧r.2≤10):bndE x (fun y n=>bnd (law00_Code_s (some n)) fun c=>some (y,c)) (fun y=>bnd (law00_Code_s none) fun c=>some (y,c))=some r:=by
 have hc:=code_s hr
 rw [h]
 cases he:errO r.2 with
 | none=>rw [he] at hc; rw [bndE_n rfl,bnd_of hc]
 | some n=>rw [he] at hc; rw [bndE_e rfl,bnd_of hc]
theorem make_err (s:State) (x:Item):0≤(makeV s x).2∧(makeV s x).2≤10:=by unfold makeV; split<;>exact ⟨by simp,by simp⟩
theorem create_err (s:State) (id kind:ByteArray) (num:Int) (re im:Nat):0≤(createV s id kind num re im).2∧(createV s id kind num re im).2≤10:=by
 unfold createV
 split
 ·exact ⟨by simp,by simp⟩
 ·split
  ·split
   ·exact ⟨by simp,by simp⟩
   ·exact make_err ..
  ·split
   ·exact make_err ..
   ·exact ⟨by simp,by simp⟩
theorem update_err (s:State) (id kind:ByteArray) (num:Int) (re im:Nat):0≤(updateV s id kind num re im).2∧(updateV s id kind num re im).2≤10:=by
 unfold updateV
 split
 ·exact ⟨by simp,by simp⟩
 ·split
  ·exact ⟨by simp,by simp⟩
  ·split
   ·exact ⟨by simp,by simp⟩
   ·exact make_err ..
theorem delete_err (s:State) (id:ByteArray):0≤(deleteV s id).2∧(deleteV s id).2≤10:=by
 unfold deleteV
 split
 ·exact ⟨by simp,by simp⟩
 ·split
  ·exact ⟨by simp,by simp⟩
  ·split
   ·exact ⟨by simp,by simp⟩
   ·exact make_err ..
theorem filter_err (s:State) (f:Pred):0≤(filterV s f).2∧(filterV s f).2≤10:=by
 unfold filterV
 split
 ·exact ⟨by simp,by simp⟩
 ·split<;>exact ⟨by simp,by simp⟩
structure Deed9.Ok (d:Deed9):Prop where
 id:d.id.size≤9223372036854775807
 kind:d.kind.size≤9223372036854775807
 num : -9223372036854775808≤d.num∧d.num≤9223372036854775807
 f:d.f.Ok
theorem do_s {s:State} {d:Deed9} {N:Nat} (h:SOk s N) (hN:N≤90000) (hr:1≤s.r∧s.r≤8) (hd:d.Ok) (hs:d.f.size≤1000):law09_Do_s s d=some (doV s d):=by
 unfold law09_Do_s doV
 rw [bnd_of (pick4_s _),bndE_code (lcreate h hN hr hd.id hd.kind hd.num) (create_err ..),bndE_code (lupdate h hN hr hd.id hd.kind hd.num) (update_err ..),bndE_code (ldelete h hN hr hd.id) (delete_err ..),bnd_of (lpred_s hd.f hs),bndE_code (lfilter h hN hd.f hs) (filter_err ..)]
 simp only [br_if]
 repeat' split
 all_goals rfl
theorem want_s {s:State} {d:Deed9} {N:Nat} (h:SOk s N) (hN:N≤90000) (hr:1≤s.r∧s.r≤8) (hd:d.Ok) (hs:d.f.size≤1000):law09_Want_s s d=some (doV s d):=by
 unfold law09_Want_s doV
 rw [bnd_of (pick4_s _),bnd_of (rcreate h hN hr hd.id hd.kind hd.num),bnd_of (rupdate h hN hr hd.id hd.kind hd.num),bnd_of (rdelete h hN hr hd.id),bnd_of (lpred_s hd.f hs),bnd_of (rfilter h hN hd.f hs)]
 simp only [br_if]
 repeat' split
 all_goals rfl
theorem may_verI {s:State} {x:Item} (hm:mayI x=true) (hr:1≤s.r∧s.r≤8) (hc:0≤s.count∧s.count < 1000) (hk:0≤s.clock∧s.clock < 1000000):mayI (verI s x)=true:=by
 unfold mayI verB at hm ⊢
 simp only [Bool.and_eq_true] at hm ⊢
 refine ⟨hm.1,⟨inN_iff.2 hr,inN_iff.2 ⟨by show 1≤s.count + 1; omega,by show s.count + 1≤1000; omega⟩⟩,⟨inN_iff.2 ⟨by show 1≤s.clock + 1; omega,by show s.clock + 1≤1000000; omega⟩,hm.2.2.1.2⟩,hm.2.2.2⟩
theorem ok_make {s:State} {x:Item} {N:Nat} (h:SOk s N) (hr:1≤s.r∧s.r≤8) (hx:x.Ok) (hm:mayI x=true) (hfull:(lk (bothV s.store s.out) x.id).isNone=true→s.store.length + s.out.length < 40):SOk (makeV s x).1 (N + 1):=by
 unfold makeV
 split
 ·exact h.mono (by omega)
 ·rename_i hn
  simp only [Bool.or_eq_true,not_or,Bool.not_eq_true,eqI_f] at hn
  have hc:=h.cn
  have hk:=h.cl
  exact ok_made h hr hx (may_verI hm hr (by omega) (by omega)) (by omega) (by omega) hfull
theorem len_parts (p:Item→Bool):∀ l:List Item,(l.filter p).length + (l.filter fun x=>!p x).length=l.length
 | []=>rfl
 | x::l=>by
  have:=len_parts p l
  rw [List.filter_cons,List.filter_cons]
  cases p x<;>simp<;>omega
theorem may_dead {y:Item} (h:mayI y=true):mayI (deadI y)=true:=by unfold mayI at *; exact h
theorem ok_filter {s:State} {f:Pred} {N:Nat} (h:SOk s N) (hf:f.Ok) (hs:f.size≤1000):SOk (filterV s f).1 (N + 41):=by
 have hl:=h.le
 have hlen:=both_len h
 have he:=h.ep
 have hb:=both_ok h
 have hr:=ris_both h.rs h.ro
 unfold filterV
 split
 ·exact h.mono (by omega)
 ·split
  ·exact h.mono (by omega)
  ·rename_i hn
   simp only [Bool.not_eq_true,eqI_f] at hn
   refine ⟨hf,hs,hr.filter _,hr.filter _,?_,?_,fun i hi=>hb i (List.mem_filter.1 hi).1,fun i hi=>hb i (List.mem_filter.1 hi).1,(kt_all _ kt0).mono (by omega),ids_all _ ids0 fun i hi=>(hb i hi).1,h.cn,h.cl,by show 0≤s.epoch + 1∧s.epoch + 1≤1000000; omega⟩
   ·show ((bothV s.store s.out).filter (hasP f)).length + ((bothV s.store s.out).filter fun x=>!hasP f x).length≤40
    have:=len_parts (hasP f) (bothV s.store s.out)
    omega
   ·intro id hid
    have hid':(lk ((bothV s.store s.out).filter (hasP f)) id).isSome=true:=hid
    show lk ((bothV s.store s.out).filter fun x=>!hasP f x) id=none
    obtain ⟨x,hx⟩:=Option.isSome_iff_exists.1 hid'
    obtain ⟨m1,m2⟩:=lk_some hx
    rw [List.mem_filter] at m1
    cases h2:lk ((bothV s.store s.out).filter fun x=>!hasP f x) id with
    | none=>rfl
    | some y =>
     obtain ⟨n1,n2⟩:=lk_some h2
     rw [List.mem_filter] at n1
     have e1:=lk_mem hr m1.1
     have e2:=lk_mem hr n1.1
     rw [m2] at e1
     rw [n2,e1] at e2
     injection e2 with e2
     rw [←e2,m1.2] at n1
     cases n1.2
theorem both_get {s:State} {N:Nat} (h:SOk s N) {id:ByteArray} {y:Item} (e:lk (bothV s.store s.out) id=some y):y.Ok∧mayI y=true∧y.id=id:=⟨(both_ok h y (lk_some e).1).1,(both_ok h y (lk_some e).1).2,(lk_some e).2⟩
theorem ok_do {s:State} {d:Deed9} {N:Nat} (h:SOk s N) (hr:1≤s.r∧s.r≤8) (hd:d.Ok) (hs:d.f.size≤1000):SOk (doV s d).1 (N + 41):=by
 have hl:=h.le
 have o1:(shapeI d.id d.kind d.num d.re d.im).Ok:=shape_ok hd.id hd.kind hd.num (1,1,1) (by decide)
 unfold doV
 split
 ·unfold createV
  split
  ·exact h.mono (by omega)
  ·rename_i hm
   simp only [Bool.not_eq_true',Bool.not_eq_false] at hm
   split
   ·rename_i hg
    split
    ·exact h.mono (by omega)
    ·exact (ok_make h hr o1 hm fun _=>by omega).mono (by omega)
   ·rename_i y hg
    split
    ·exact (ok_make h hr o1 hm fun hn=>by rw [show (shapeI d.id d.kind d.num d.re d.im).id=d.id from rfl,hg] at hn; cases hn).mono (by omega)
    ·exact h.mono (by omega)
 ·split
  ·unfold updateV
   split
   ·exact h.mono (by omega)
   ·rename_i hm
    simp only [Bool.not_eq_true',Bool.not_eq_false] at hm
    split
    ·exact h.mono (by omega)
    ·rename_i y hg
     split
     ·exact h.mono (by omega)
     ·exact (ok_make h hr o1 hm fun hn=>by rw [show (shapeI d.id d.kind d.num d.re d.im).id=d.id from rfl,hg] at hn; cases hn).mono (by omega)
  ·split
   ·unfold deleteV
    split
    ·exact h.mono (by omega)
    ·split
     ·exact h.mono (by omega)
     ·rename_i y hg
      split
      ·exact h.mono (by omega)
      ·obtain ⟨hy,hm,he⟩:=both_get h hg
       exact (ok_make (x:=deadI y) h hr ⟨hy.id,hy.kind,hy.vr,hy.vc,hy.stamp,hy.num⟩ (may_dead hm) fun hn=>by rw [show (deadI y).id=d.id from he,hg] at hn; cases hn).mono (by omega)
   ·exact ok_filter h hd.f hs
theorem do_r (s:State) (d:Deed9):(doV s d).1.r=s.r:=by
 have mk:∀ x,(makeV s x).1.r=s.r:=fun x=>by unfold makeV; split<;>rfl
 unfold doV createV updateV deleteV filterV
 repeat' split
 all_goals first | rfl | exact mk _
theorem do_f {s:State} {d:Deed9} (h:mayP s.f=true):mayP (doV s d).1.f=true:=by
 have mk:∀ x,(makeV s x).1.f=s.f:=fun x=>by unfold makeV; split<;>rfl
 unfold doV createV updateV deleteV filterV
 repeat' split
 all_goals first | exact h | (rw [mk]; exact h) | skip
 rename_i hm _
 simp only [Bool.or_eq_true,not_or,Bool.not_eq_true',Bool.not_eq_false] at hm
 exact hm.1
end
end Go.Proofs.YtidkmoohgadjkaaGreat
namespace Go.Proofs.YtidkmoohgadjkaaGreat
open Go E Pred
noncomputable section
open Classical
def star1:Pred:=.mk 1 ⟨#[]⟩ 0 0 0 []
def itemA:Item:=⟨⟨#[97]⟩,1,1,1,⟨#[]⟩,1,0,0,false⟩
def stateA:State:=⟨1,star1,[itemA],[],⟨⟨1,0,0,0,0,0,0,0⟩,[]⟩,1,1,0⟩
theorem star_ok:star1.Ok:=by
 unfold star1 Pred.Ok
 exact ⟨by decide,by decide,by decide,by decide,by unfold Pred.Oks; trivial⟩
theorem star_size:star1.size≤1000:=by unfold star1; rw [mk_size,sizes_nil]; decide
theorem sok_new {r:Int} {f:Pred} (hf:f.Ok) (hs:f.size≤1000):SOk (newS r f) 0 :=
 ⟨hf,hs,.nil,.nil,by show 0 + 0≤40; decide,fun id h=>rfl,fun i hi=>(by cases hi),fun i hi=>(by cases hi),kt0,ids0,by show (0:Int)≤0∧(0:Int)≤1000; decide,by show (0:Int)≤0∧(0:Int)≤1000000; decide,by show (0:Int)≤0∧(0:Int)≤1000000; decide⟩
theorem createA:createV (newS 1 star1) ⟨#[97]⟩ ⟨#[]⟩ 1 0 0=(stateA,0):=by kernel_rfl
theorem mayA:mayS stateA=true:=by kernel_rfl
theorem itemA_ok:itemA.Ok:=⟨by decide,by decide,by decide,by decide,by decide,by decide⟩
theorem stb_A:StB stateA:=⟨star_ok,star_size,fun i hi=>by rw [List.mem_singleton.1 hi]; exact itemA_ok,fun i hi=>(by cases hi),by decide,by decide,⟨by decide,by decide⟩,fun f hf=>by cases hf⟩
theorem up9:law09_up_s=some true:=by
 have n1:newV 1 star1=(newS 1 star1,0):=by kernel_rfl
 have e1:=lnew_s (r:=1) star_ok star_size
 rw [n1] at e1
 have e2:=lcreate (s:=newS 1 star1) (id:=⟨#[97]⟩) (kind:=⟨#[]⟩) (num:=1) (re:=0) (im:=0) (N:=0) (sok_new star_ok star_size) (by decide) (by decide) (by decide) (by decide) (by decide)
 rw [createA] at e2
 have e3:local_Read_s stateA=some [itemA]:=by rw [lread (by decide)]; rfl
 unfold law09_up_s
 rw [show (Pred.mk 1 ⟨#[]⟩ 0 0 0 [])=star1 from rfl,bndE_n e1,bndE_n e2,bnd_of e3,br_f (by rfl),bnd_of (lmay9_s stb_A),mayA,br_f (by rfl),bnd_of (show atL [itemA] 0=some itemA from rfl)]
 rfl
theorem same0:ref09_Same_s state0 state0=some true:=by
 unfold ref09_Same_s
 have hf:state0.f.Ok:=by unfold state0 Pred.Ok; exact ⟨by decide,by decide,by decide,by decide,by unfold Pred.Oks; trivial⟩
 rw [eqI_self,eqI_self,eqI_self,eqI_self,bnd_of (rsame_s hf),show sameP state0.f state0.f=true from bare_self 0,bnd_of (sameList_s (l:=state0.store) (by decide) fun x hx=>by cases hx),bnd_of (sameList_s (l:=state0.out) (by decide) fun x hx=>by cases hx),bnd_of (alike_s (a:=state0.k) (b:=state0.k) (N:=0) (by decide) kt0.kb),alike_self]
 rfl
theorem new_same {r:Int} {f:Pred} (hf:f.Ok) (hs:f.size≤1000):ref09_Same_s (newV r f).1 (newV r f).1=some true:=by
 unfold newV
 split
 ·rename_i h
  rw [Bool.and_eq_true] at h
  exact same9_s (sok_new hf hs) (by decide) (sameP_refl (mayP_iff.1 h.2).2.2)
 ·exact same0
theorem new_err (r:Int) (f:Pred):0≤(newV r f).2∧(newV r f).2≤10:=by unfold newV; split<;>exact ⟨by simp,by simp⟩
theorem mul01 {a b:Int} (ha:a=0∨a=1) (hb:b=0∨b=1):eqI (wr .i64 (a * b)) 0=true∨(a=1∧b=1):=by
 rcases ha with rfl | rfl
 ·left; rw [Int.zero_mul]; rfl
 ·rcases hb with rfl | rfl
  ·left; rfl
  ·exact .inr ⟨rfl,rfl⟩
theorem small_s {f:Pred} (h:f.Ok):∃ b,law00_Small_s f=some b∧(b=0∨(b=1∧f.size≤60)):=by
 by_cases hs:f.size≤60
 ·exact ⟨1,lsmall_t h hs,.inr ⟨rfl,hs⟩⟩
 ·exact ⟨0,lsmall_f h hs,.inl rfl⟩
theorem eqb_self (b:Bool):(@Bool.rec (fun _=>Bool) b (!b) b)=false:=by cases b<;>rfl
theorem localStarts_s {s:Sit} {r:Int} {f:Pred} (ok:s.Ok) (hf:f.Ok):law09_LocalStarts_s s r f=some true:=by
 obtain ⟨a,ha,h1⟩:=fits_sit ok
 obtain ⟨b,hb,h2⟩:=small_s hf
 unfold law09_LocalStarts_s
 rw [bnd_of up9,bnd_of ha,bnd_of hb]
 rcases mul01 (h1.imp id And.left) (h2.imp id And.left) with h | ⟨rfl,rfl⟩
 ·rw [br_t h]
 ·obtain ⟨-, hst, -, -, -, hk⟩:=h1.resolve_left (by decide)
  have hs:=(h2.resolve_left (by decide)).2
  have sb:=hst.b hk
  rw [br_f (by rfl),bnd_of (state_s ok hst),bnd_of (lmay9_s sb),bnd_of (rmay_s sb),eqb_self,br_f rfl,bnd_of (lpred_s hf (by omega))]
  have e1:=lnew_s (r:=r) hf (by omega)
  have e2:=rnew_s (r:=r) hf (by omega)
  have e3:=new_same (r:=r) hf (by omega)
  have e4:=code_s (new_err r f)
  cases he:errO (newV r f).2 with
  | none =>
   rw [he] at e1 e4
   rw [bndE_n e1,bnd_of (lpred_s hf (by omega)),bnd_of e2,bnd_of e3,bnd_of e4,eqI_self]; rfl
  | some n =>
   rw [he] at e1 e4
   rw [bndE_e e1,bnd_of (lpred_s hf (by omega)),bnd_of e2,bnd_of e3,bnd_of e4,eqI_self]; rfl
theorem may_pf {f:Pred} (h:mayP f=true):sameP f f=true:=sameP_refl (mayP_iff.1 h).2.2
theorem deed_step {s:State} {d:Deed9} {N:Nat} (h:SOk s N) (hN:N + 41≤90000) (hr:1≤s.r∧s.r≤8) (hm:mayP s.f=true) (hd:d.Ok) (hs:d.f.size≤1000) :
  law09_Do_s s d=some (doV s d)∧law09_Want_s s d=some (doV s d)∧ref09_Same_s (doV s d).1 (doV s d).1=some true∧local_Read_s (doV s d).1=some (readV (doV s d).1)∧ref09_Read_s (doV s d).1=some (readV (doV s d).1)∧law00_Same_s (readV (doV s d).1) (readV (doV s d).1)=some 1:=by
 have ho:=ok_do h hr hd hs
 have hl:=ho.le
 refine ⟨do_s h (by omega) hr hd hs,want_s h (by omega) hr hd hs,same9_s ho hN (may_pf (do_f hm)),lread (by omega),rread (by omega),same0_s ?_ fun x hx=>?_⟩
 ·have:(readV (doV s d).1).length≤(doV s d).1.store.length:=List.length_filter_le ..
  omega
 ·exact sameI_real (real_may (ho.is x (List.mem_filter.1 hx).1).2)
theorem localDoes_s {s:Sit} {d:Deed9} (ok:s.Ok) (hd:d.Ok):law09_LocalDoes_s s d=some true:=by
 obtain ⟨a,ha,h1⟩:=fits_sit ok
 obtain ⟨b,hb,h2⟩:=small_s hd.f
 unfold law09_LocalDoes_s
 rw [bnd_of up9,bnd_of ha,bnd_of hb]
 rcases mul01 (h1.imp id And.left) (h2.imp id And.left) with h | ⟨rfl,rfl⟩
 ·rw [br_t h]
 ·obtain ⟨-, hst, -, -, -, hk⟩:=h1.resolve_left (by decide)
  have hs:=(h2.resolve_left (by decide)).2
  have sb:=hst.b hk
  rw [br_f (by rfl),bnd_of (state_s ok hst),bnd_of (rmay_s sb)]
  cases hm:mayS s.st with
  | false=>rfl
  | true =>
   have so:=may_sok hm hst.f hst.store hst.out hk.kt hst.ids
   have mi:=mayS_iff.1 hm
   obtain ⟨e1,e2,e3,e4,e5,e6⟩:=deed_step (d:=d) so (by decide) mi.2.2.2.2.1 mi.1 hd (by omega)
   rw [br_f (by rfl),bnd_of e1,bnd_of e2,bnd_of e3,eqI_self,bnd_of e4,bnd_of e5,bnd_of e6]; rfl
theorem plays_l {d0:Bool} (h0:d0=true):∀ (l:List Deed9) (s:State) (N:Nat),SOk s N→N + 41 * l.length≤80000→1≤s.r∧s.r≤8→mayP s.f=true→(∀ d∈l,d.Ok∧d.f.size≤60)→law09_LocalPlays_l1 d0 l s s=some true
 | [],s,N,_,_,_,_,_=>by rw [law09_LocalPlays_l1,h0]
 | d::l,s,N,h,hN,hr,hm,hl=>by
  rw [List.length_cons] at hN
  obtain ⟨hd,hs⟩:=hl d (List.mem_cons_self ..)
  obtain ⟨e1,e2,e3,e4,e5,e6⟩:=deed_step (d:=d) h (by omega) hr hm hd (by omega)
  have ih:=plays_l h0 l (doV s d).1 (N + 41) (ok_do h hr hd (by omega)) (by omega) (by rw [do_r]; exact hr) (do_f hm) fun x hx=>hl x (List.mem_cons_of_mem _ hx)
  rw [law09_LocalPlays_l1,bnd_of e1,bnd_of e2,bnd_of e3,eqI_self,bnd_of e4,bnd_of e5,bnd_of e6,ih]; rfl
theorem few_l:∀ l:List Deed9,(∀ d∈l,d.Ok)→∃ b,law09_Few_l1 l=some b∧(b=0∨(b=1∧∀ d∈l,d.Ok∧d.f.size≤60))
 | [],_=>⟨1,by rw [law09_Few_l1],.inr ⟨rfl,fun d hd=>by cases hd⟩⟩
 | d::l,h=>by
  have hd:=h d (List.mem_cons_self ..)
  obtain ⟨b,hb,h1⟩:=few_l l fun x hx=>h x (List.mem_cons_of_mem _ hx)
  obtain ⟨c,hc,h2⟩:=small_s hd.f
  rw [law09_Few_l1,bnd_of hc]
  rcases h2 with rfl | ⟨rfl,h2⟩
  ·exact ⟨0,rfl,.inl rfl⟩
  ·refine ⟨b,hb,h1.imp id fun ⟨e,h1⟩=>⟨e,fun x hx=>?_⟩⟩
   rcases List.mem_cons.1 hx with rfl | hx
   ·exact ⟨hd,h2⟩
   ·exact h1 x hx
theorem few_s {l:List Deed9} (h:∀ d∈l,d.Ok):∃ b,law09_Few_s l 100=some b∧(b=0∨(b=1∧l.length≤100∧∀ d∈l,d.Ok∧d.f.size≤60)):=by
 unfold law09_Few_s
 by_cases hl:l.length≤100
 ·obtain ⟨b,hb,h1⟩:=few_l l h
  exact ⟨b,by rw [br_f (ltI_f.2 (by omega)),chk_t (smallL_of (by omega)),hb],h1.imp id fun ⟨e,h1⟩=>⟨e,hl,h1⟩⟩
 ·exact ⟨0,by rw [br_t (ltI_t.2 (by omega))],.inl rfl⟩
theorem new_parts {r:Int} {f:Pred}:(newV r f=(state0,1))∨(newV r f=(newS r f,0)∧(1≤r∧r≤8)∧mayP f=true):=by
 unfold newV
 split
 ·rename_i h
  rw [Bool.and_eq_true,inN_iff] at h
  exact .inr ⟨rfl,h.1,h.2⟩
 ·exact .inl rfl
theorem localPlays_s {r:Int} {f:Pred} {l:List Deed9} (hf:f.Ok) (hl:∀ d∈l,d.Ok):law09_LocalPlays_s r f l=some true:=by
 obtain ⟨a,ha,h1⟩:=small_s hf
 obtain ⟨b,hb,h2⟩:=few_s hl
 unfold law09_LocalPlays_s
 rw [bnd_of up9,bnd_of ha,bnd_of hb]
 rcases mul01 (h1.imp id And.left) (h2.imp id And.left) with h | ⟨rfl,rfl⟩
 ·rw [br_t h]
 ·have hs:=(h1.resolve_left (by decide)).2
  obtain ⟨-, hn,hd⟩:=h2.resolve_left (by decide)
  have e1:=lnew_s (r:=r) hf (by omega)
  have e2:=rnew_s (r:=r) hf (by omega)
  rw [br_f (by rfl),bnd_of (lpred_s hf (by omega))]
  rcases new_parts (r:=r) (f:=f) with e | ⟨e,hr,hm⟩
  ·rw [e] at e1 e2
   rw [bndE_e e1,bnd_of (lpred_s hf (by omega)),bnd_of e2]; rfl
  ·rw [e] at e1 e2
   rw [bndE_n e1,bnd_of (lpred_s hf (by omega)),bnd_of e2,br_f (by rfl),chk_t (smallL_of (by omega))]
   exact plays_l rfl l (newS r f) 0 (sok_new hf (by omega)) (by omega) hr hm hd
end
end Go.Proofs.YtidkmoohgadjkaaGreat
set_option maxHeartbeats 4000000
namespace Go.Proofs.YtidkmoohgadjkaaGreat
open Go E Go.ChangeShapes Go.WideShapes Go.ChangeAt Go.RowKit
theorem cellsTree:Tryz.prog.cellsOf 25=6:=by kernel_rfl
theorem cellsTrees:Tryz.prog.cellsOf 23=1:=by kernel_rfl
abbrev nodeSh (s:Sh):Sh:=.cat (.int .i64) (.cat .str (.cat (.int .i64) (.cat (.flt .f64) (.cat (.flt .f64) (.cat (.sl s) .nil)))))
def treeSh:Nat→Sh
 | 0=>.no 6
 | 1=>nodeSh (.no 6)
 | n + 2=>nodeSh (treeSh n)
theorem tree_size:∀ n,(treeSh n).size=6
 | 0=>rfl
 | 1=>rfl
 | n + 2=>rfl
theorem node_ok {n:Nat} {s:Sh} (hs:s.size=6) (hk:ShOk Tryz.prog n 23 (.sl s)):ShOk Tryz.prog (n + 1) 25 (nodeSh s) :=
 .struct Tryz.underlying25 cellsTree (.cons rfl cellsInt (shInt n) (.cons rfl cellsStr (shStr n) (.cons rfl cellsInt (shInt n) (.cons rfl cellsFlt (shFlt n) (.cons rfl cellsFlt (shFlt n) (.cons rfl cellsTrees hk .nil))))))
theorem shTree:∀ n,ShOk Tryz.prog n 25 (treeSh n)
 | 0=>.zero
 | 1=>node_ok rfl .zero
 | n + 2=>node_ok (tree_size n) (.sl Tryz.underlying23 (by rw [tree_size]; exact cellsTree) (by rw [tree_size]; decide) (shTree n))
theorem rows_of {P:List PC→Prop} {Ok:Pred→Prop} (h:∀ r,P r→∃ p:Pred,Ok p∧r=p.lrow):∀ (l:List (List PC)),(∀ r∈l,P r)→∃ ps:List Pred,(∀ p∈ps,Ok p)∧l=ps.map Pred.lrow
 | [],_=>⟨[],by simp,rfl⟩
 | r::l,hl=>by
  obtain ⟨p,hp,rfl⟩:=h r (hl r (by simp))
  obtain ⟨ps,hps,rfl⟩:=rows_of h l fun r hr=>hl r (by simp [hr])
  exact ⟨p::ps,by simpa using ⟨hp,hps⟩,rfl⟩
theorem node_fits {s:Sh} {l:List PC} (hk:∀ r,Fits s r→∃ p:Pred,p.Ok∧r=p.lrow) (h:Fits (nodeSh s) l):∃ p:Pred,p.Ok∧l=p.lrow:=by
 obtain ⟨_,_,rfl,⟨x0,rfl,w0⟩,_,_,rfl,⟨x1,rfl,w1⟩,_,_,rfl,⟨x2,rfl,w2⟩,_,_,rfl,⟨x3,rfl,w3⟩,_,_,rfl,⟨x4,rfl,w4⟩,_,_,rfl,⟨rs,rfl,w5,w6⟩,rfl⟩:=h
 obtain ⟨ps,h1,rfl⟩:=rows_of (P:=Fits s) (Ok:=Pred.Ok) hk rs w6
 refine ⟨.mk x0 x1 x2 x3 x4 ps,?_,?_⟩
 ·unfold Pred.Ok
  exact ⟨i64_of w0,Nat.le_trans w1 (by decide),i64_of w2,by rw [List.length_map] at w5; exact Nat.le_trans w5 (by decide),Pred.Oks_of h1⟩
 ·rw [Pred.lrow_eq]; simp only [Pred.lrows_eq]; rfl
theorem tree_fits:∀ n {l:List PC},Fits (treeSh n) l→∃ p:Pred,p.Ok∧l=p.lrow
 | 0,l,h=>False.elim h
 | 1,l,h=>node_fits (s:=.no 6) (fun r h=>False.elim h) h
 | n + 2,l,h=>node_fits (fun r h=>tree_fits n h) h
section
variable {H:Type} {enc:TypeId × Value→H} {W:World} {v:Value} {d:DataW H} {ps:List MemPlace} {b0:Nat}
theorem arg_tree (hv:Value.okWide Tryz.prog W .any b0 25 v) (h:DataW.Trod enc Tryz.prog W 0 (fun _=>true) true 25 v d ps):∃ p:Pred,p.Ok∧VA W (zoneOf W) noLoc p.la v:=by
 obtain ⟨n,l,h1,h2⟩:=arg_agg shTree (.inl ⟨_,Tryz.underlying25⟩) hv h
 obtain ⟨p,ok,rfl⟩:=tree_fits n h1
 rw [Pred.lrow_eq] at h2
 exact ⟨p,ok,h2⟩
end
end Go.Proofs.YtidkmoohgadjkaaGreat
set_option maxHeartbeats 4000000
namespace Go.Proofs.YtidkmoohgadjkaaGreat
open Go E Go.ChangeShapes Go.WideShapes Go.ChangeAt Go.RowKit
theorem cellsSit:Tryz.prog.cellsOf 33=21:=by kernel_rfl
def sitSh (n:Nat):Sh:=.cat (.int .i64) (.cat (treeSh (n - 1)) (.cat (.sl rowSh) (.cat (.sl rowSh) (.cat knowSh (.cat (.int .i64) (.cat (.int .i64) (.cat (.int .i64) .nil)))))))
theorem sit_size (n:Nat):(sitSh n).size=21:=by unfold sitSh; simp only [Sh.size,tree_size]; rfl
theorem shSit:∀ n,ShOk Tryz.prog n 33 (sitSh n)
 | 0=>.zero
 | n + 1=>.struct Tryz.underlying33 (by rw [sit_size]; exact cellsSit) (.cons rfl cellsInt (shInt n) (.cons rfl (by rw [show n + 1 - 1=n from rfl,tree_size]; exact cellsTree) (shTree n)
   (.cons (by rw [show n + 1 - 1=n from rfl,tree_size]; rfl) cellsRows (shRows n) (.cons (by rw [show n + 1 - 1=n from rfl,tree_size]; rfl) cellsRows (shRows n) (.cons (by rw [show n + 1 - 1=n from rfl,tree_size]; rfl) cellsKnow (shKnow n)
   (.cons (by rw [show n + 1 - 1=n from rfl,tree_size]; rfl) cellsInt (shInt n) (.cons (by rw [show n + 1 - 1=n from rfl,tree_size]; rfl) cellsInt (shInt n) (.cons (by rw [show n + 1 - 1=n from rfl,tree_size]; rfl) cellsInt (shInt n) .nil))))))))
abbrev Sit.la (s:Sit):A:=.agg [ic s.r,ic s.f.op,.p (.v (.string s.f.text)),ic s.f.n,.p (.v (.float .f64 s.f.re)),.p (.v (.float .f64 s.f.im)),.p (.sl (Pred.lrows s.f.kids)),.p (.sl (s.store.map Item.lrow)),.p (.sl (s.out.map Item.lrow)),
 ic s.k.star.x0,ic s.k.star.x1,ic s.k.star.x2,ic s.k.star.x3,ic s.k.star.x4,ic s.k.star.x5,ic s.k.star.x6,ic s.k.star.x7,.p (.sl (s.k.l.map Frag.row)),ic s.count,ic s.clock,ic s.epoch]
section
variable {H:Type} {enc:TypeId × Value→H} {W:World} {v:Value} {d:DataW H} {ps:List MemPlace} {b0:Nat}
theorem arg_sit (hv:Value.okWide Tryz.prog W .any b0 33 v) (h:DataW.Trod enc Tryz.prog W 0 (fun _=>true) true 33 v d ps):∃ s:Sit,s.Ok∧VA W (zoneOf W) noLoc s.la v:=by
 obtain ⟨n,l,h1,h2⟩:=arg_agg shSit (.inl ⟨_,Tryz.underlying33⟩) hv h
 obtain ⟨_,_,rfl,⟨x0,rfl,w0⟩,_,_,rfl,hf,_,_,rfl,hs,_,_,rfl,ho,_,_,rfl,hk,_,_,rfl,⟨x1,rfl,w1⟩,_,_,rfl,⟨x2,rfl,w2⟩,_,_,rfl,⟨x3,rfl,w3⟩,rfl⟩:=h1
 obtain ⟨p,op,rfl⟩:=tree_fits _ hf
 obtain ⟨xs,hx,rfl⟩:=fits_rows hs
 obtain ⟨ys,hy,rfl⟩:=fits_rows ho
 obtain ⟨k,hi,rfl⟩:=fits_know hk
 rw [Pred.lrow_eq] at h2
 exact ⟨⟨x0,p,xs,ys,k,x1,x2,x3⟩,⟨op,hx,hy,hi⟩,h2⟩
end
end Go.Proofs.YtidkmoohgadjkaaGreat
set_option maxHeartbeats 4000000
namespace Go.Proofs.YtidkmoohgadjkaaGreat
open Go E Go.ChangeShapes Go.WideShapes Go.ChangeAt Go.RowKit
theorem cellsDeed9:Tryz.prog.cellsOf 101=12:=by kernel_rfl
def deed9Sh (n:Nat):Sh:=.cat (.int .i64) (.cat .str (.cat .str (.cat (.int .i64) (.cat (.flt .f64) (.cat (.flt .f64) (.cat (treeSh (n - 1)) .nil))))))
theorem deed9_size (n:Nat):(deed9Sh n).size=12:=by unfold deed9Sh; simp only [Sh.size,tree_size]
theorem shDeed9:∀ n,ShOk Tryz.prog n 101 (deed9Sh n)
 | 0=>.zero
 | n + 1=>.struct Tryz.underlying101 (by rw [deed9_size]; exact cellsDeed9) (.cons rfl cellsInt (shInt n) (.cons rfl cellsStr (shStr n) (.cons rfl cellsStr (shStr n) (.cons rfl cellsInt (shInt n) (.cons rfl cellsFlt (shFlt n) (.cons rfl cellsFlt (shFlt n)
   (.cons rfl (by rw [show n + 1 - 1=n from rfl,tree_size]; exact cellsTree) (shTree n) .nil)))))))
theorem fits_deed9 (n:Nat) {l:List PC} (h:Fits (deed9Sh n) l):∃ d:Deed9,d.Ok∧l=d.row:=by
 obtain ⟨_,_,rfl,⟨x0,rfl,w0⟩,_,_,rfl,⟨x1,rfl,w1⟩,_,_,rfl,⟨x2,rfl,w2⟩,_,_,rfl,⟨x3,rfl,w3⟩,_,_,rfl,⟨x4,rfl,w4⟩,_,_,rfl,⟨x5,rfl,w5⟩,_,_,rfl,hf,rfl⟩:=h
 obtain ⟨p,op,rfl⟩:=tree_fits _ hf
 rw [Pred.lrow_eq]
 exact ⟨⟨x0,x1,x2,x3,x4,x5,p⟩,⟨Nat.le_trans w1 (by decide),Nat.le_trans w2 (by decide),i64_of w3,op⟩,rfl⟩
abbrev Deed9.la (x:Deed9):A:=.agg [ic x.what,.p (.v (.string x.id)),.p (.v (.string x.kind)),ic x.num,.p (.v (.float .f64 x.re)),.p (.v (.float .f64 x.im)),ic x.f.op,.p (.v (.string x.f.text)),ic x.f.n,.p (.v (.float .f64 x.f.re)),.p (.v (.float .f64 x.f.im)),.p (.sl (Pred.lrows x.f.kids))]
def Deeds9Ok (l:List Deed9):Prop:=∀ d∈l,d.Ok
section
variable {H:Type} {enc:TypeId × Value→H} {W:World} {v:Value} {d:DataW H} {ps:List MemPlace} {b0:Nat}
theorem arg_deed9 (hv:Value.okWide Tryz.prog W .any b0 101 v) (h:DataW.Trod enc Tryz.prog W 0 (fun _=>true) true 101 v d ps):∃ x:Deed9,x.Ok∧VA W (zoneOf W) noLoc x.la v:=by
 obtain ⟨n,l,h1,h2⟩:=arg_agg shDeed9 (.inl ⟨_,Tryz.underlying101⟩) hv h
 obtain ⟨x,ok,rfl⟩:=fits_deed9 n h1
 exact ⟨x,ok,h2⟩
def deeds9Sh (n:Nat):Sh:=.sl (deed9Sh (n - 1))
theorem shDeeds9:∀ n,ShOk Tryz.prog n 130 (deeds9Sh n)
 | 0=>.zero
 | n + 1=>.sl Tryz.underlying130 (by show _=(deed9Sh n).size; rw [deed9_size]; exact cellsDeed9) (by show 0 < (deed9Sh n).size; rw [deed9_size]; decide) (shDeed9 n)
theorem arg_deeds9 (hv:Value.okWide Tryz.prog W .any b0 130 v) (h:DataW.Trod enc Tryz.prog W 0 (fun _=>true) true 130 v d ps):∃ l:List Deed9,Deeds9Ok l∧VA W (zoneOf W) noLoc (sl (l.map Deed9.row)) v:=by
 obtain ⟨n,rows,h0,h1,h2⟩:=arg_sl (sl:=deeds9Sh) (sf:=fun n=>deed9Sh (n - 1)) shDeeds9 (fun _=>rfl) Tryz.underlying130 hv h
 obtain ⟨xs,hx,rfl⟩:=list_of (P:=Fits (deed9Sh (n - 1))) (Ok:=Deed9.Ok) (f:=Deed9.row) (fun r h=>fits_deed9 _ h) rows h1
 exact ⟨xs,hx,h2⟩
end
end Go.Proofs.YtidkmoohgadjkaaGreat
namespace Go.Proofs.YtidkmoohgadjkaaGreat
open Go E
theorem law_localStarts {X:Task→Prop} (hX:Closed X) {s:Sit} {r:Int} {f:Pred} (ok:s.Ok) (hf:f.Ok) {Q:A→List Blk→Prop} (hQ:Q (bv true) []):X (.call 9 [s.la,iv r,f.la] [] Q):=law09_LocalStarts_c hX (localStarts_s ok hf) hQ
theorem law_localDoes {X:Task→Prop} (hX:Closed X) {s:Sit} {d:Deed9} (ok:s.Ok) (hd:d.Ok) {Q:A→List Blk→Prop} (hQ:Q (bv true) []):X (.call 12 [s.la,d.la] [] Q):=law09_LocalDoes_c hX (localDoes_s ok hd) hQ
theorem law_localPlays {X:Task→Prop} (hX:Closed X) {r:Int} {f:Pred} {l:List Deed9} (hf:f.Ok) (hl:Deeds9Ok l) {Q:A→List Blk→Prop} (hQ:Q (bv true) []):X (.call 13 [iv r,f.la,sl (l.map Deed9.row)] [] Q):=law09_LocalPlays_c hX (localPlays_s hf hl) hQ
end Go.Proofs.YtidkmoohgadjkaaGreat
