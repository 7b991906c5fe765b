/- Which filter is seen in which (layer 5): the document's answer. -/
import Dbgx.Dbg
import Derived.Test.YtaiedakbmmgmaaaContain
set_option linter.unusedVariables false
set_option linter.unusedSimpArgs false
set_option maxRecDepth 100000
set_option maxHeartbeats 4000000
namespace Go.Proofs.Ytaiedakbmmgmaaa
open Go E Pred
def half (o o' : Bool) (ks : List Pred) (P : Pred → Bool) : Bool := (o && ks.all P) || (o' && ks.any P)
def listsB (N : Nat) (p q : Pred) : Bool := half (eqI p.op 9) (eqI p.op 8) p.kids (fun k => seenF N k q) || half (eqI q.op 8) (eqI q.op 9) q.kids (fun k => seenF N p k)
def notB (N : Nat) (p q : Pred) : Bool := eqI p.op 10 && (eqI q.op 10 && (match q.kids, p.kids with | k :: _, m :: _ => seenF N k m | _, _ => false))
theorem not_any_not {α : Type} (l : List α) (P : α → Bool) : (!(l.any fun k => !P k)) = l.all P := by
  induction l with
  | nil => rfl
  | cons a l ih => rw [List.any_cons, List.all_cons, ← ih]; cases P a <;> simp
theorem seenF_eq (N : Nat) (p q : Pred) : seenF (N + 1) p q = (((eqI q.op 1 || eqI p.op 2) || sameP p q) || (listsB N p q || (leafB p q || notB N p q))) := by
  show _ = _
  unfold listsB half notB
  rw [seenF]
  rw [not_any_not, not_any_not]
  generalize (eqI q.op 1 || eqI p.op 2) = a
  generalize sameP p q = b
  generalize leafB p q = c
  generalize (eqI p.op 9 && p.kids.all fun k => seenF N k q) = d
  generalize (eqI q.op 8 && q.kids.all fun k => seenF N p k) = e
  generalize (eqI p.op 8 && p.kids.any fun k => seenF N k q) = f
  generalize (eqI q.op 9 && q.kids.any fun k => seenF N p k) = g
  generalize (eqI p.op 10 && (eqI q.op 10 && (match q.kids, p.kids with | k :: _, m :: _ => seenF N k m | _, _ => false))) = h
  cases a <;> cases b <;> cases c <;> cases d <;> cases e <;> cases f <;> cases g <;> cases h <;> rfl
structure AS where
  a : Bool
  s : Bool
theorem all_step {α : Type} {l : List α} {P : α → Bool} {j : Nat} (h : j < l.length) : (l.take (j + 1)).all P = ((l.take j).all P && P l[j]) := by
  rw [List.take_succ_eq_append_getElem h, List.all_append]; simp
theorem any_step {α : Type} {l : List α} {P : α → Bool} {j : Nat} (h : j < l.length) : (l.take (j + 1)).any P = ((l.take j).any P || P l[j]) := by
  rw [List.take_succ_eq_append_getElem h, List.any_append]; simp
theorem lists_ok {X : Task → Prop} (hX : Closed X) {N : Nat} {p q : Pred} {Q : A → List Blk → Prop} (op : p.Ok) (oq : q.Ok)
    (hkp : ∀ (j : Nat) (hj : j < p.kids.length) (Q' : A → List Blk → Prop), Q' (bv (seenF N p.kids[j] q)) [] → X (.call 78 [p.kids[j].a, q.a] [] Q'))
    (hkq : ∀ (j : Nat) (hj : j < q.kids.length) (Q' : A → List Blk → Prop), Q' (bv (seenF N p q.kids[j])) [] → X (.call 78 [p.a, q.kids[j].a] [] Q'))
    (hQ : Q (bv (listsB N p q)) []) : X (.call 106 [p.a, q.a] [] Q) := by
  have hlp := op.len
  have hlq := oq.len
  unfold listsB at hQ
  refine call_intro hX Try.func106 rfl rfl ?_
  refine merge (G := half (eqI p.op 9) (eqI p.op 8) p.kids (fun k => seenF N k q) = false → X (.rest 106 0 ?c (pad [(2, .one (.ptr 0 0)), (0, .one (.ptr 1 0))] 79) [.box p.cs, .box q.cs] ?K)) (fun tail => ?_) ?_
  rotate_left 2
  · repeat' ((conv => whnf); first | exact hQ | refine ⟨by kernel_rfl, ?_⟩ | refine bct (by assumption) ?_ | refine bcf (by assumption) ?_ | refine bcf (nt (by assumption)) ?_ | refine bct (nf (by assumption)) ?_)
    refine range_ix (fun i (st : AS) => pad [(2, .one (.ptr 0 0)), (0, .one (.ptr 1 0)), (1, bv st.a), (0, bv st.s), (0, iv i)] 75) (fun _ _ => [.box p.cs, .box q.cs]) (fun j st => st.a = (p.kids.take j).all (fun k => seenF N k q) ∧ st.s = (p.kids.take j).any (fun k => seenF N k q)) p.kids.length 0 (Nat.zero_le _) (fun j st _ hj hI ih => ?_) (fun st hI => ?_) 0 ⟨true, false⟩ rfl ⟨rfl, rfl⟩
    · obtain ⟨a, s⟩ := st
      obtain ⟨h1, h2⟩ := hI
      dsimp only at h1 h2
      have q1 : ltI (j : Int) (lenL (rows p.kids)) = true := by rw [len_rows, ltI_t]; omega
      have q2 := lenB_rows hj
      have f1 := all_step (P := fun k => seenF N k q) hj
      have f2 := any_step (P := fun k => seenF N k q) hj
      rw [← h1] at f1
      rw [← h2] at f2
      clear h1 h2
      refine loop_intro hX ?_
      cases hs : seenF N p.kids[j] q <;> (rw [hs] at f1 f2) <;> cases a <;> cases s
      all_goals
        have f1' := f1.symm
        have f2' := f2.symm
        clear f1 f2
        repeat' ((conv => whnf); first | exact hQ | refine ⟨by kernel_rfl, ?_⟩ | refine bct (by assumption) ?_ | refine bcf (by assumption) ?_ | refine bcf (nt (by assumption)) ?_ | refine bct (nf (by assumption)) ?_ | refine row_in (at_rows hj) ?_ | refine known bv (hkp j hj) hs ?_ | (exact ih _ ⟨_, _⟩ (wrS (by omega)) ⟨f1', f2'⟩))
    · obtain ⟨a, s⟩ := st
      obtain ⟨h1, h2⟩ := hI
      dsimp only at h1 h2
      rw [List.take_length] at h1 h2
      have q1 : ltI (p.kids.length : Int) (lenL (rows p.kids)) = false := by rw [len_rows, ltI_f]; omega
      unfold half at hQ tail
      rw [← h1, ← h2] at hQ tail
      clear h1 h2
      refine loop_intro hX ?_
      cases a <;> cases s
      all_goals
        repeat' ((conv => whnf); first | exact hQ | refine ⟨by kernel_rfl, ?_⟩ | refine bct (by assumption) ?_ | refine bcf (by assumption) ?_ | refine bcf (nt (by assumption)) ?_ | refine bct (nf (by assumption)) ?_ | (refine tail.h ?_; simp_all; done) | (refine Qb hQ ?_; simp_all; done) | refine bc (fun _ => ?_) (fun _ => ?_))
  · intro hh
    rw [hh, Bool.false_or] at hQ
    clear hh
    refine rest_intro hX ?_
    repeat' ((conv => whnf); first | exact hQ | refine ⟨by kernel_rfl, ?_⟩ | refine bct (by assumption) ?_ | refine bcf (by assumption) ?_ | refine bcf (nt (by assumption)) ?_ | refine bct (nf (by assumption)) ?_)
    refine range_ix (fun i (st : AS) => pad [(2, .one (.ptr 0 0)), (0, .one (.ptr 1 0)), (1, bv st.a), (0, bv st.s), (2, iv i)] 73) (fun _ _ => [.box p.cs, .box q.cs]) (fun j st => st.a = (q.kids.take j).all (fun k => seenF N p k) ∧ st.s = (q.kids.take j).any (fun k => seenF N p k)) q.kids.length 0 (Nat.zero_le _) (fun j st _ hj hI ih => ?_) (fun st hI => ?_) 0 ⟨true, false⟩ rfl ⟨rfl, rfl⟩
    · obtain ⟨a, s⟩ := st
      obtain ⟨h1, h2⟩ := hI
      dsimp only at h1 h2
      have q1 : ltI (j : Int) (lenL (rows q.kids)) = true := by rw [len_rows, ltI_t]; omega
      have q2 := lenB_rows hj
      have f1 := all_step (P := fun k => seenF N p k) hj
      have f2 := any_step (P := fun k => seenF N p k) hj
      rw [← h1] at f1
      rw [← h2] at f2
      clear h1 h2
      refine loop_intro hX ?_
      cases hs : seenF N p q.kids[j] <;> (rw [hs] at f1 f2) <;> cases a <;> cases s
      all_goals
        have f1' := f1.symm
        have f2' := f2.symm
        clear f1 f2
        repeat' ((conv => whnf); first | exact hQ | refine ⟨by kernel_rfl, ?_⟩ | refine bct (by assumption) ?_ | refine bcf (by assumption) ?_ | refine bcf (nt (by assumption)) ?_ | refine bct (nf (by assumption)) ?_ | refine row_in (at_rows hj) ?_ | refine known bv (hkq j hj) hs ?_ | (exact ih _ ⟨_, _⟩ (wrS (by omega)) ⟨f1', f2'⟩))
    · obtain ⟨a, s⟩ := st
      obtain ⟨h1, h2⟩ := hI
      dsimp only at h1 h2
      rw [List.take_length] at h1 h2
      have q1 : ltI (q.kids.length : Int) (lenL (rows q.kids)) = false := by rw [len_rows, ltI_f]; omega
      unfold half at hQ
      rw [← h1, ← h2] at hQ
      clear h1 h2
      refine loop_intro hX ?_
      cases a <;> cases s
      all_goals
        repeat' ((conv => whnf); first | exact hQ | refine ⟨by kernel_rfl, ?_⟩ | refine bct (by assumption) ?_ | refine bcf (by assumption) ?_ | refine bcf (nt (by assumption)) ?_ | refine bct (nf (by assumption)) ?_ | (refine Qb hQ ?_; simp_all; done) | refine bc (fun _ => ?_) (fun _ => ?_))
end Go.Proofs.Ytaiedakbmmgmaaa
