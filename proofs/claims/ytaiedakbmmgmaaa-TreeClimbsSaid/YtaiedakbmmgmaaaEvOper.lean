/- Soundness of operations within a region. -/
import Derived.Test.YtaiedakbmmgmaaaEvCall5
import Derived.Tactics
set_option linter.unusedVariables false
set_option linter.unusedSimpArgs false
namespace Go.Proofs.Ytaiedakbmmgmaaa.E
open Go
variable {P : Program} {T : List TI} {t : List A} {σ : List Blk} {nx : Nat} {I : Task → Prop}

theorem flatP_ok {w S inj} (v : Value) (h : flat v = true) : VR w S inj (flatP v) v := by
  unfold flatP; rw [h]; exact .p (.v h)
theorem constA_ok {w S inj} (v : Value) : VA w S inj (constA v) v := by
  have one : ∀ v, VA w S inj (.one (flatP v)) v := fun v => by
    cases h : flat v with
    | true => exact .ofc (flatP_ok v h)
    | false => unfold flatP; rw [h]; exact .one .junk
  unfold constA
  split
  · rename_i cs
    cases h : allR flat cs.toList with
    | false => exact .one .junk
    | true =>
      simp only [allR_eq, List.all_eq_true] at h
      rw [mapR_eq]
      have : ∀ l : List Value, (∀ v ∈ l, flat v = true) → F2 (VR w S inj) (l.map flatP) l := fun l => by
        induction l with
        | nil => intro _; exact .nil
        | cons v l ih => intro h; exact .cons (flatP_ok v (h v (by simp))) (ih fun v hv => h v (by simp [hv]))
      have h2 := this _ h
      have : VA w S inj (.agg (cs.toList.map flatP)) (.agg cs.toList.toArray) := .one (.agg h2)
      simpa using this
  · exact one v
theorem opd_ok {w S inj} {a : Act} (h : F2 (VA w S inj) t a.tmps.toList) (x : Operand) : VA w S inj (opd t x) (a.eval x) := by
  cases x with
  | tmp n =>
    change VA w S inj (nth (.one .junk) t n) (a.tmps.getD n undef)
    rw [nth_eq]
    cases ht : t[n]? with
    | none => rw [List.getD_eq_getElem?_getD, ht]; exact .one .junk
    | some x =>
      obtain ⟨v, hv, hr⟩ := h.get ht
      rw [List.getD_eq_getElem?_getD, ht]
      have : a.tmps.getD n undef = v := by simp at hv; simp [Array.getD_eq_getD_getElem?, hv]
      rw [this]; exact hr
  | const v => exact constA_ok v
  | global g => exact .one .junk
  | func f => exact .ofc (.fn (caps := []) (vs := []) .nil)

theorem operC_ok (hT : TOk P T) (hI : CallsOk P I) {o : Oper} {K : Kont} (h : operC T I t σ σ.length o.op K) : StepOk P t σ σ.length o K := by
  unfold operC at h
  split at h
  · rename_i f args ts ho
    unfold calleeF at h
    split at h
    · rename_i g caps hf
      simp only [mapR_eq, appR_eq] at h
      obtain ⟨⟨fn, c, hfn, hb, hname⟩, v, ws, nw, rd, h, hok⟩ := callC_ok hI h
      refine ⟨v, ws, nw, rd, h, fun a fB w S inj next Q hop hfb hi hfr hn => ?_⟩
      have hvf := hop f (by simp [ho, Op.operands, Call.operands])
      rw [hf] at hvf
      have hvf := hvf.cellv (by simp)
      cases hfv : a.eval f with
      | func fv first cap =>
        rw [hfv] at hvf
        cases hvf with
        | fn hcaps =>
          rename_i vs
          have hvs : F2 (VA w S inj) (args.toList.map (opd t) ++ caps.map fun b => A.one (.ptr b 0)) ((args.toList.map a.eval) ++ vs) := by
            refine (evals_ok _ fun x hx => hop x (by simp [ho, Op.operands, Call.operands]; right; simpa using hx)).app (hcaps.map fun b v _ hbv => ?_)
            obtain ⟨ad, rfl, hbv⟩ := hbv
            exact .ofc (.ptr hbv)
          have hc := hok hvs hfb hi (fun b _ hb => by
            rw [look_eq] at hb
            rcases Nat.lt_or_ge b σ.length with h | h
            · exact h
            · exact absurd (by simp [List.getD_eq_getElem?_getD, List.getElem?_eq_none h]) hb) hfr (next := fun v' w' => next (a.put o.dst v') w') hn
          have hrun : (execOp a.eval o).run P w = .ok (.enter g ((args.toList.map a.eval) ++ vs).toArray) w := by
            unfold execOp
            simp [ho, resolve, hfv, Deferred.ofValue, invoke, callFunc, hfn, hb, hname]
            rw [if_neg (by simpa using hname)]
            simp [← Array.toList_map]
          unfold Oper.wp
          rw [hrun, Oper.upon_enter]
          exact hc.mono fun e w' ⟨v', he, hn⟩ => by subst he; exact hn
      | _ => rw [hfv] at hvf; cases hvf
    · rename_i g caps hf
      simp only [mapR_eq, appR_eq] at h
      obtain ⟨⟨fn, c, hfn, hb, hname⟩, v, ws, nw, rd, h, hok⟩ := callC_ok hI h
      refine ⟨v, ws, nw, rd, h, fun a fB w S inj next Q hop hfb hi hfr hn => ?_⟩
      have hvf := hop f (by simp [ho, Op.operands, Call.operands])
      rw [hf] at hvf
      have hvf := hvf.cellv (by simp)
      cases hfv : a.eval f with
      | func fv first cap =>
        rw [hfv] at hvf
        cases hvf with
        | pf hcaps =>
          rename_i vs
          have hvs : F2 (VA w S inj) (args.toList.map (opd t) ++ caps.map fun cs => A.one (.rp cs)) ((args.toList.map a.eval) ++ vs) := by
            refine (evals_ok _ fun x hx => hop x (by simp [ho, Op.operands, Call.operands]; right; simpa using hx)).app (hcaps.map fun b v _ hbv => ?_)
            obtain ⟨g, vals, rfl, h1, h2, h3⟩ := hbv
            exact .ofc (.rp vals h1 h2 h3)
          have hc := hok hvs hfb hi (fun b _ hb => by
            rw [look_eq] at hb
            rcases Nat.lt_or_ge b σ.length with h | h
            · exact h
            · exact absurd (by simp [List.getD_eq_getElem?_getD, List.getElem?_eq_none h]) hb) hfr (next := fun v' w' => next (a.put o.dst v') w') hn
          have hrun : (execOp a.eval o).run P w = .ok (.enter g ((args.toList.map a.eval) ++ vs).toArray) w := by
            unfold execOp
            simp [ho, resolve, hfv, Deferred.ofValue, invoke, callFunc, hfn, hb, hname]
            rw [if_neg (by simpa using hname)]
            simp [← Array.toList_map]
          unfold Oper.wp
          rw [hrun, Oper.upon_enter]
          exact hc.mono fun e w' ⟨v', he, hn⟩ => by subst he; exact hn
      | _ => rw [hfv] at hvf; cases hvf
    · exact h.elim
  · exact stepC_ok hT h

/-! ### The state within a function -/
structure St (m : Nat) (t : List A) (σ : List Blk) (a : Act) (w : World) (S : Zone) (inj : Nat → Loc) : Prop where
  tmps : F2 (VA w S inj) t a.tmps.toList
  inv : Inv w S inj (look σ)
  free : ∀ b, σ.length ≤ b → inj b = .free
  defers : a.defers = []
  le : m ≤ σ.length
/-- from one state to a later one, the first m blocks numbered alike -/
structure Rl (m : Nat) (w : World) (S : Zone) (inj : Nat → Loc) (w' : World) (S' : Zone) (inj' : Nat → Loc) : Prop where
  grow : Grow w S w' S'
  le : ∀ b, b < m → inj b = .free ∨ inj' b = inj b ∨ inj' b = .dead
  free : ∀ b, b < m → inj b = .free → inj' b = .free
theorem Rl.refl {m w S inj} : Rl m w S inj w S inj := ⟨.refl _ _, fun _ _ => .inr (.inl rfl), fun _ _ h => h⟩
theorem Rl.trans {m w S inj w' S' inj' w'' S'' inj''} (h : Rl m w S inj w' S' inj') (h' : Rl m w' S' inj' w'' S'' inj'') : Rl m w S inj w'' S'' inj'' :=
  ⟨h.grow.trans h'.grow, fun b hb => by
    rcases h.le b hb with h1 | h1 | h1
    · exact .inl h1
    · rcases h'.le b hb with h2 | h2 | h2
      · exact .inl (h1 ▸ h2)
      · exact .inr (.inl (h2.trans h1))
      · exact .inr (.inr h2)
    · rcases h'.le b hb with h2 | h2 | h2
      · rw [h1] at h2; cases h2
      · exact .inr (.inr (h2.trans h1))
      · exact .inr (.inr h2), fun b hb h1 => h'.free b hb (h.free b hb h1)⟩
theorem bF_F (b : Blk) (k : Blk → Prop) : bF b k = k b := bF_eq b k
theorem writeF_ok (ws : List (Nat × Blk)) : ∀ {σ : List Blk} {k : List Blk → Prop}, (∀ x, x ∈ ws → x.1 < σ.length) → writeF ws σ k → ∃ σ', k σ' ∧ σ'.length = σ.length ∧ ∀ b, look σ' b = match ws.find? (fun x => x.1 == b) with | some x => x.2 | none => look σ b := by
  induction ws with
  | nil => intro σ k hw h; exact ⟨_, h, rfl, fun b => rfl⟩
  | cons x ws ih =>
    intro σ k hw h
    change bF x.2 (fun b => writeF ws σ fun σ => setF b σ x.1 k) at h
    rw [bF_eq] at h
    obtain ⟨σ', h, hl, hk⟩ := ih (fun y hy => hw y (by simp [hy])) h
    rw [setF_eq] at h
    refine ⟨_, h, by simp [hl], fun b => ?_⟩
    have hx := hw x (by simp)
    rw [List.find?_cons]
    by_cases hb : x.1 = b
    · subst hb
      simp only [beq_self_eq_true]
      rw [look_eq, List.getD_eq_getElem?_getD, List.getElem?_set_self (by omega)]; rfl
    · rw [show (x.1 == b) = false from by simpa using hb]
      simp only
      rw [← hk b, look_eq, look_eq, List.getD_eq_getElem?_getD, List.getElem?_set_ne hb, ← List.getD_eq_getElem?_getD]
theorem applyF_ok {ws : List (Nat × Blk)} {nw : List Blk} {k : List Blk → Prop} (h : applyF σ ws nw k) : ∃ σ', k σ' ∧ σ'.length = σ.length + nw.length ∧ ∀ b, look σ' b = upd (look σ) σ.length ws nw b := by
  unfold applyF at h
  have hw := (bcF h).1
  replace h := (bcF h).2
  simp only [allR_eq, List.all_eq_true, lenR_eq] at hw
  obtain ⟨σ', h, hl, hk⟩ := writeF_ok ws (fun x hx => Nat.le_of_ble_eq_true (hw x hx)) h
  rw [mapF_bF, appF_eq] at h
  refine ⟨_, h, by simp [hl], fun b => ?_⟩
  unfold upd
  rw [look_eq, List.getD_eq_getElem?_getD]
  by_cases hb : σ.length ≤ b ∧ b < σ.length + nw.length
  · rw [if_pos hb, List.getElem?_append_right (by omega), hl, List.getD_eq_getElem?_getD]
  · rw [if_neg hb]
    have := hk b
    rw [look_eq, List.getD_eq_getElem?_getD] at this
    refine Eq.trans ?_ this
    rcases Nat.lt_or_ge b σ'.length with h1 | h1
    · rw [List.getElem?_append_left h1]
    · rw [List.getElem?_append_right h1, List.getElem?_eq_none (by omega), List.getElem?_eq_none h1]
theorem putF_ok {d : Option Nat} {v : A} {k : List A → Prop} (h : putF t d v k) : ∃ t', k t' ∧ ∀ {w S inj v'} {a : Act}, F2 (VA w S inj) t a.tmps.toList → VA w S inj v v' → F2 (VA w S inj) t' (a.put d v').tmps.toList := by
  unfold putF at h
  cases d with
  | none => exact ⟨_, h, fun ht _ => ht⟩
  | some d =>
    simp only [aF_eq, setF_eq] at h
    refine ⟨_, h, fun {w S inj v' a} ht hv => ?_⟩
    have := ht.set hv d
    unfold Act.put
    simpa using this
/-- what the guard looks at is known -/
def GuardOk (ops : List Oper) (t : List A) (o : Oper) (w : World) (S : Zone) (inj : Nat → Loc) (a : Act) : Prop :=
  ∀ g want oj d x, o.guard = some (g, want) → ops[g]? = some oj → oj.dst = some d → t[d]? = some x → ∃ v, a.tmps[d]? = some v ∧ VA w S inj x v
theorem GuardOk.of {ops : List Oper} {o : Oper} {w S inj a} (h : F2 (VA w S inj) t a.tmps.toList) : GuardOk ops t o w S inj a := fun g want oj d x _ _ _ htd => by
  obtain ⟨v, hv, hr⟩ := h.get htd
  exact ⟨v, by simpa using hv, hr⟩
theorem wantedF_ok {ops : List Oper} {o : Oper} {y n : Prop} (h : wantedF ops t o y n) :
    (y ∧ ∀ {w S inj} {a : Act}, GuardOk ops t o w S inj a → Region.wanted o (yielded ops.toArray a.tmps) = true) ∨
    (n ∧ ∀ {w S inj} {a : Act}, GuardOk ops t o w S inj a → Region.wanted o (yielded ops.toArray a.tmps) = false) := by
  unfold wantedF at h
  split at h
  · rename_i hg
    exact .inl ⟨h, fun _ => by unfold Region.wanted; rw [hg]⟩
  · rename_i j want hg
    have hout : (∀ a : Act, yielded ops.toArray a.tmps j = none) → n → _ := fun hy hn => Or.inr (a := (y ∧ ∀ {w S inj} {a : Act}, GuardOk ops t o w S inj a → Region.wanted o (yielded ops.toArray a.tmps) = true)) (b := (n ∧ ∀ {w S inj} {a : Act}, GuardOk ops t o w S inj a → Region.wanted o (yielded ops.toArray a.tmps) = false)) ⟨hn, fun {w S inj a} _ => by
      unfold Region.wanted; rw [hg]; simp only; rw [hy]; cases want <;> rfl⟩
    rw [dropR_eq] at h
    split at h
    · rename_i oj rest hd
      have hj : ops.toArray[j]? = some oj := by
        have := congrArg (·[0]?) hd
        simpa using this
      split at h
      · rename_i d hdst
        have hy : ∀ {w S inj} {a : Act} {x : A}, GuardOk ops t o w S inj a → nth (.one .junk) t d = x → x ≠ .one .junk → ∃ v, a.tmps[d]? = some v ∧ VA w S inj x v := fun {w S inj a x} ht hx hne => by
          rw [nth_eq, List.getD_eq_getElem?_getD] at hx
          cases htd : t[d]? with
          | none => rw [htd] at hx; exact absurd hx.symm hne
          | some x' =>
            rw [htd] at hx
            simp only [Option.getD_some] at hx
            subst hx
            exact ht j want oj d _ hg (by simpa using hj) hdst htd
        split at h
        · rename_i b hx
          have hyb : ∀ {w S inj} {a : Act}, GuardOk ops t o w S inj a → yielded ops.toArray a.tmps j = some b := fun {w S inj a} ht => by
            obtain ⟨v, hv, hr⟩ := hy ht hx (by simp)
            have := hr.flatv.1
            subst this
            unfold yielded; rw [hj]; simp [hdst, hv]
          cases want with
          | true =>
            rcases (bcase_iff _ _ _).1 h with ⟨hb, h⟩ | ⟨hb, h⟩
            · exact .inl ⟨h, fun ht => by unfold Region.wanted; rw [hg]; simp only; rw [hyb ht, hb]; rfl⟩
            · exact .inr ⟨h, fun ht => by unfold Region.wanted; rw [hg]; simp only; rw [hyb ht, hb]; rfl⟩
          | false =>
            rcases (bcase_iff _ _ _).1 h with ⟨hb, h⟩ | ⟨hb, h⟩
            · exact .inr ⟨h, fun ht => by unfold Region.wanted; rw [hg]; simp only; rw [hyb ht, hb]; rfl⟩
            · exact .inl ⟨h, fun ht => by unfold Region.wanted; rw [hg]; simp only; rw [hyb ht, hb]; rfl⟩
        · rename_i hx
          refine .inr ⟨h, fun {w S inj a} ht => ?_⟩
          obtain ⟨v, hv, hr⟩ := hy ht hx (by simp)
          have : ∃ vs : Array Value, v = .tuple vs := by
            cases hr with
            | one hr => cases hr
            | tup hr => exact ⟨_, rfl⟩
          obtain ⟨vs, rfl⟩ := this
          unfold Region.wanted; rw [hg]; simp only
          unfold yielded; rw [hj]; simp [hdst, hv]
        · exact h.elim
      · rename_i hdst
        exact hout (fun a => by unfold yielded; rw [hj]; simp [hdst]) h
    · rename_i hd
      exact hout (fun a => by
        have : ops.toArray[j]? = none := by simpa [List.drop_eq_nil_iff] using hd
        unfold yielded; rw [this]; rfl) h
/-- a region that runs in the order of its text -/
theorem runF_ok (hT : TOk P T) (hI : CallsOk P I) {all : List Oper} {m : Nat} : ∀ (l : List Oper) {t : List A} {σ : List Blk} {tr : Tr} {K : List A → List Blk → Tr → Prop}, m ≤ σ.length → runF T I all l t σ tr K →
    ∃ t' σ' tr', K t' σ' tr' ∧ m ≤ σ'.length ∧ ∀ {a w S inj Q}, St m t σ a w S inj → (∀ a' w' S' inj', St m t' σ' a' w' S' inj' → Rl m w S inj w' S' inj' → Q .normal a' w') → wpList P all.toArray Q l a w
  | [], t, σ, tr, K, hm, h => ⟨t, σ, tr, h, hm, fun {a w S inj Q} hs hq => hq _ _ _ _ hs .refl⟩
  | o :: l, t, σ, tr, K, hm, h => by
    change wantedF all t o _ _ at h
    rcases wantedF_ok h with ⟨h, hw⟩ | ⟨h, hw⟩
    · rw [lenR_eq] at h
      obtain ⟨v, ws, nw, rd, h, hok⟩ := operC_ok hT hI h
      obtain ⟨t', h, ht'⟩ := putF_ok h
      obtain ⟨σ', h, hl, hup⟩ := applyF_ok h
      obtain ⟨t'', σ'', tr'', h, hm', hrest⟩ := runF_ok (m := m) (σ := σ') hT hI l (by omega) h
      refine ⟨t'', σ'', tr'', h, hm', fun {a w S inj Q} hs hq => ?_⟩
      show (if _ then _ else _)
      rw [hw (.of hs.tmps), if_pos rfl]
      refine .inl (hok a (look σ) w S inj _ _ (fun x _ => opd_ok hs.tmps x) (fun _ _ => rfl) hs.inv (fun i hi => ⟨hs.free (σ.length + i) (Nat.le_add_right _ _), by rw [look_eq, List.getD_eq_getElem?_getD, List.getElem?_eq_none (by omega)]; rfl⟩) fun v' w' S' inj' hp => ?_)
      have hfree : ∀ b, σ'.length ≤ b → inj' b = .free := fun b hb => hp.fresh b (hs.free b (by omega)) (.inr (by omega))
      have hst : St m t' σ' (a.put o.dst v') w' S' inj' := by
        refine ⟨ht' (hs.tmps.mono' fun _ _ h => h.grow hp.grow hp.le) hp.val, ?_, hfree, ?_, by omega⟩
        · have := hp.inv
          rwa [show upd (look σ) σ.length ws nw = look σ' from (funext hup).symm] at this
        · have := hs.defers
          unfold Act.put; split <;> exact this
      have hr : Rl m w S inj w' S' inj' := ⟨hp.grow, fun b _ => hp.le b, fun b hb h => hp.fresh b h (.inl (by omega))⟩
      exact hrest hst fun a' w' S2 inj2 hs2 hr2 => hq _ _ _ _ hs2 (hr.trans hr2)
    · obtain ⟨t', h, ht'⟩ := putF_ok h
      obtain ⟨t'', σ'', tr'', h, hm', hrest⟩ := runF_ok hT hI l hm h
      refine ⟨t'', σ'', tr'', h, hm', fun {a w S inj Q} hs hq => ?_⟩
      show (if _ then _ else _)
      rw [hw (.of hs.tmps), if_neg (by simp)]
      refine hrest ⟨ht' hs.tmps (.tup .nil), hs.inv, hs.free, ?_, hs.le⟩ hq
      have := hs.defers
      unfold Act.put; split <;> exact this
end Go.Proofs.Ytaiedakbmmgmaaa.E
