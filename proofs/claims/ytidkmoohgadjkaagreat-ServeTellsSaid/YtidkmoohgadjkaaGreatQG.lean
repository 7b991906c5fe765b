/- Messages and sessions as arguments of laws. The statement ServeTells, out of what its code computes. -/
import Derived.Test.YtidkmoohgadjkaaGreatQF
set_option linter.unusedVariables false
set_option linter.unusedSimpArgs false
set_option maxRecDepth 100000
set_option maxHeartbeats 4000000
namespace Go.Proofs.YtidkmoohgadjkaaGreat
open Go E Go.ChangeShapes Go.WideShapes Go.ChangeAt Go.RowKit
theorem cellsHas:Tryz.prog.cellsOf 74=4:=by kernel_rfl
theorem cellsHass:Tryz.prog.cellsOf 34=1:=by kernel_rfl
theorem cellsLine:Tryz.prog.cellsOf 175=12:=by kernel_rfl
theorem cellsLines:Tryz.prog.cellsOf 35=1:=by kernel_rfl
theorem cellsNote:Tryz.prog.cellsOf 37=24:=by kernel_rfl
abbrev hasSh:Sh:=.cat .str (.cat verSh (.cat (.int .i64) .nil))
theorem shHas:∀ n,ShOk Tryz.prog n 74 hasSh
 | 0=>.zero
 | n + 1=>.struct Tryz.underlying74 cellsHas (.cons rfl cellsStr (shStr n) (.cons rfl cellsVer (shVer n) (.cons rfl cellsInt (shInt n) .nil)))
theorem shHass:∀ n,ShOk Tryz.prog n 34 (.sl hasSh)
 | 0=>.zero
 | n + 1=>.sl Tryz.underlying34 cellsHas (by decide) (shHas n)
abbrev lineSh:Sh:=.cat rowSh (.cat .bool (.cat (.int .i64) (.cat (.int .i64) .nil)))
theorem shLine:∀ n,ShOk Tryz.prog n 175 lineSh
 | 0=>.zero
 | n + 1=>.struct Tryz.underlying175 cellsLine (.cons rfl cellsRow (shRow n) (.cons rfl cellsBool (shBool n) (.cons rfl cellsInt (shInt n) (.cons rfl cellsInt (shInt n) .nil))))
theorem shLines:∀ n,ShOk Tryz.prog n 35 (.sl lineSh)
 | 0=>.zero
 | n + 1=>.sl Tryz.underlying35 cellsLine (by decide) (shLine n)
theorem fits_has {l:List PC} (h:Fits hasSh l):∃ x:Has,x.Ok∧l=x.row:=by
 obtain ⟨_,_,rfl,⟨x0,rfl,w0⟩,_,_,rfl,⟨_,_,rfl,⟨x1,rfl,w1⟩,_,_,rfl,⟨x2,rfl,w2⟩,rfl⟩,_,_,rfl,⟨x3,rfl,w3⟩,rfl⟩:=h
 exact ⟨⟨x0,x1,x2,x3⟩,⟨Nat.le_trans w0 (by decide),i64_of w1,i64_of w2,i64_of w3⟩,rfl⟩
theorem fits_hass {l:List PC} (h:Fits (.sl hasSh) l):∃ xs:List Has,(∀ x∈xs,x.Ok)∧l=[.sl (xs.map Has.row)]:=by
 obtain ⟨rows,rfl,_,hr⟩:=h
 obtain ⟨xs,hx,rfl⟩:=list_of (P:=Fits hasSh) (Ok:=Has.Ok) (f:=Has.row) (fun r h=>fits_has h) rows hr
 exact ⟨xs,hx,rfl⟩
theorem fits_line {l:List PC} (h:Fits lineSh l):∃ x:Line,x.item.Ok∧l=x.row:=by
 obtain ⟨_,_,rfl,hx,_,_,rfl,⟨b,rfl⟩,_,_,rfl,⟨x1,rfl,w1⟩,_,_,rfl,⟨x2,rfl,w2⟩,rfl⟩:=h
 obtain ⟨x,ox,rfl⟩:=fits_row hx
 exact ⟨⟨x,b,x1,x2⟩,ox,rfl⟩
theorem fits_lines {l:List PC} (h:Fits (.sl lineSh) l):∃ xs:List Line,(∀ x∈xs,x.item.Ok)∧l=[.sl (xs.map Line.row)]:=by
 obtain ⟨rows,rfl,_,hr⟩:=h
 obtain ⟨xs,hx,rfl⟩:=list_of (P:=Fits lineSh) (Ok:=fun x:Line=>x.item.Ok) (f:=Line.row) (fun r h=>fits_line h) rows hr
 exact ⟨xs,hx,rfl⟩
structure Note.Ok (x:Note):Prop where
 f:x.f.Ok
 ids:IdsOk x.k
 h:∀ y∈x.have_,y.Ok
 l:∀ y∈x.l,y.item.Ok
def noteSh (n:Nat):Sh:=.cat (.int .i64) (.cat (.int .i64) (.cat (.int .i64) (.cat (.int .i64) (.cat (.int .i64) (.cat (treeSh (n - 1)) (.cat knowSh (.cat (.sl hasSh) (.cat (.int .i64) (.cat (.sl lineSh) (.cat .bool .nil))))))))))
theorem note_size (n:Nat):(noteSh n).size=24:=by unfold noteSh; simp only [Sh.size,tree_size]; rfl
theorem shNote:∀ n,ShOk Tryz.prog n 37 (noteSh n)
 | 0=>.zero
 | n + 1=>.struct Tryz.underlying37 (by rw [note_size]; exact cellsNote) (.cons rfl cellsInt (shInt n) (.cons rfl cellsInt (shInt n) (.cons rfl cellsInt (shInt n) (.cons rfl cellsInt (shInt n) (.cons rfl cellsInt (shInt n)
   (.cons rfl (by rw [show n + 1 - 1=n from rfl,tree_size]; exact cellsTree) (shTree n)
   (.cons (by rw [show n + 1 - 1=n from rfl,tree_size]; rfl) cellsKnow (shKnow n) (.cons (by rw [show n + 1 - 1=n from rfl,tree_size]; rfl) cellsHass (shHass n) (.cons (by rw [show n + 1 - 1=n from rfl,tree_size]; rfl) cellsInt (shInt n)
   (.cons (by rw [show n + 1 - 1=n from rfl,tree_size]; rfl) cellsLines (shLines n) (.cons (by rw [show n + 1 - 1=n from rfl,tree_size]; rfl) cellsBool (shBool n) .nil)))))))))))
abbrev Note.la (x:Note):A:=.agg [ic x.kind,ic x.src,ic x.dst,ic x.sid,ic x.turn,ic x.f.op,.p (.v (.string x.f.text)),ic x.f.n,.p (.v (.float .f64 x.f.re)),.p (.v (.float .f64 x.f.im)),.p (.sl (Pred.lrows x.f.kids)),
 ic x.k.star.x0,ic x.k.star.x1,ic x.k.star.x2,ic x.k.star.x3,ic x.k.star.x4,ic x.k.star.x5,ic x.k.star.x6,ic x.k.star.x7,.p (.sl (x.k.l.map Frag.row)),.p (.sl (x.have_.map Has.row)),ic x.n,.p (.sl (x.l.map Line.row)),.p (.v (.bool x.star))]
section
variable {H:Type} {enc:TypeId × Value→H} {W:World} {v:Value} {d:DataW H} {ps:List MemPlace} {b0:Nat}
theorem arg_note (hv:Value.okWide Tryz.prog W .any b0 37 v) (h:DataW.Trod enc Tryz.prog W 0 (fun _=>true) true 37 v d ps):∃ x:Note,x.Ok∧VA W (zoneOf W) noLoc x.la v:=by
 obtain ⟨n,l,h1,h2⟩:=arg_agg shNote (.inl ⟨_,Tryz.underlying37⟩) hv h
 obtain ⟨_,_,rfl,⟨x0,rfl,w0⟩,_,_,rfl,⟨x1,rfl,w1⟩,_,_,rfl,⟨x2,rfl,w2⟩,_,_,rfl,⟨x3,rfl,w3⟩,_,_,rfl,⟨x4,rfl,w4⟩,_,_,rfl,hf,_,_,rfl,hk,_,_,rfl,hh,_,_,rfl,⟨x5,rfl,w5⟩,_,_,rfl,hl,_,_,rfl,⟨b,rfl⟩,rfl⟩:=h1
 obtain ⟨p,op,rfl⟩:=tree_fits _ hf
 obtain ⟨k,hi,rfl⟩:=fits_know hk
 obtain ⟨hs,oh,rfl⟩:=fits_hass hh
 obtain ⟨ls,ol,rfl⟩:=fits_lines hl
 rw [Pred.lrow_eq] at h2
 exact ⟨⟨x0,x1,x2,x3,x4,p,k,hs,x5,ls,b⟩,⟨op,hi,oh,ol⟩,h2⟩
end
end Go.Proofs.YtidkmoohgadjkaaGreat
namespace Go.Proofs.YtidkmoohgadjkaaGreat
open Go E Pred
noncomputable section
open Classical
def lineE (x:Line):Entry:=⟨x.item,x.goes,x.r,x.c⟩
def noteM (x:Note):Msg:=⟨x.kind,x.src,x.dst,x.sid,x.turn,x.f,x.k,x.have_,x.n,x.l.map lineE,x.star⟩
theorem entries_l:∀ (xs:List Line) (acc:List Entry),acc.length + xs.length≤900000→law00_Entries_l1 xs acc=some (acc++xs.map lineE)
 | [],acc,_=>by rw [law00_Entries_l1]; simp
 | x::xs,acc,h=>by
  rw [List.length_cons] at h
  rw [law00_Entries_l1,bnd_of (show law00_Item_s x.item=some x.item from rfl),chk_t (roomL_of (by omega)),entries_l xs _ (by simp; omega)]
  simp [lineE]
theorem entries_s {l:List Line} (h:l.length≤1000):law00_Entries_s l=some (l.map lineE):=by
 unfold law00_Entries_s
 rw [chk_t (smallL_of (by omega)),entries_l l [] (by simp; omega)]; rfl
theorem msg_s {x:Note} (ok:x.Ok) (hf:x.f.size≤1000) (hl:x.l.length≤1000):law00_Msg_s x=some (noteM x):=by
 unfold law00_Msg_s
 rw [bnd_of (lpred_s ok.f hf),bnd_of (entries_s hl)]; rfl
structure ShortN (x:Note):Prop where
 h:x.have_.length≤60
 l:x.l.length≤60
 f:x.f.size≤60
 k:KB x.k 60
theorem short_s {x:Note} (ok:x.Ok):∃ b,law00_Short_s x=some b∧(b=0∨(b=1∧ShortN x)):=by
 unfold law00_Short_s
 by_cases h1:x.have_.length≤60
 ·by_cases h2:x.l.length≤60
  ·obtain ⟨b,hb,hk⟩:=known_s x.k
   rw [br_f (ltI_f.2 (by omega)),br_f (ltI_f.2 (by omega))]
   by_cases h3:x.f.size≤60
   ·rw [bnd_of (lsmall_t ok.f h3),bnd_of hb]
    rcases hk with rfl | ⟨rfl,hk⟩
    ·exact ⟨_,rfl,.inl rfl⟩
    ·exact ⟨_,rfl,.inr ⟨rfl,⟨h1,h2,h3,hk⟩⟩⟩
   ·rw [bnd_of (lsmall_f ok.f h3),bnd_of hb]
    exact ⟨_,rfl,.inl (by rw [Int.zero_mul]; rfl)⟩
  ·exact ⟨0,by rw [br_f (ltI_f.2 (by omega)),br_t (ltI_t.2 (by omega))],.inl rfl⟩
 ·exact ⟨0,by rw [br_t (ltI_t.2 (by omega))],.inl rfl⟩
theorem note_b {x:Note} (ok:x.Ok) (h:ShortN x):MsgB (noteM x) :=
 ⟨ok.f,by have:=h.f; show x.f.size≤_; omega,h.k.kt.mono (by decide),ok.ids,ok.h,by have:=h.h; show x.have_.length≤_; omega,by have:=h.l; show (x.l.map lineE).length≤_; rw [List.length_map]; omega⟩
theorem serveTells_s {s:Sit} {x:Note} {turn:Int} (ok:s.Ok) (ok2:x.Ok):law12_ServeTells_s s x turn=some true:=by
 obtain ⟨a,ha,h1⟩:=fits_sit ok
 obtain ⟨b,hb,h2⟩:=short_s ok2
 unfold law12_ServeTells_s
 rw [bnd_of up12,bnd_of ha,bnd_of hb]
 rcases mul01 (h1.imp (fun h=>h) And.left) (h2.imp (fun h=>h) And.left) with h | ⟨rfl,rfl⟩
 ·rw [br_t h]
 ·obtain ⟨-, hst, -, -, -, hk⟩:=h1.resolve_left (by decide)
  obtain ⟨-, sn⟩:=h2.resolve_left (by decide)
  have sb:=hst.b hk
  have mb:=note_b ok2 sn
  have sn1:=sn.f
  have sn2:=sn.l
  rw [br_f (by rfl),bnd_of (msg_s ok2 (by omega) (by omega)),bnd_of (smay_s mb),bnd_of (rmay11_s mb),eqb_self,br_f rfl,bnd_of (state_s ok hst),bnd_of (rmay_s sb)]
  cases hm:mayS s.st with
  | false=>rfl
  | true =>
   have so:=may_sok hm hst.f hst.store hst.out hk.kt hst.ids
   obtain ⟨hl,hr⟩:=answer_ans (turn:=turn) so (by decide) mb
   rw [br_f (by rfl),br_t rfl,bnd_of (serve_s (turn:=turn) so (by decide) mb),bnd_of (ranswer_s (turn:=turn) so (by decide) mb),bnd_of (all_s (by omega) hr)]; rfl
theorem law_serveTells {X:Task→Prop} (hX:Closed X) {s:Sit} {x:Note} {turn:Int} (ok:s.Ok) (ok2:x.Ok) {Q:A→List Blk→Prop} (hQ:Q (bv true) []):X (.call 3 [s.la,x.la,iv turn] [] Q):=law12_ServeTells_c hX (serveTells_s ok ok2) hQ
end
end Go.Proofs.YtidkmoohgadjkaaGreat
