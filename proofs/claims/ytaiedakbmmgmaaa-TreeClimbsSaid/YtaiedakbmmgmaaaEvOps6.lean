/- Soundness of the operations, sixth part: nil and errors, elements, conversions. -/
import Derived.Test.YtaiedakbmmgmaaaEvOps5
set_option linter.unusedVariables false
set_option linter.unusedSimpArgs false
namespace Go.Proofs.Ytaiedakbmmgmaaa.E
open Go
variable {P : Program} {T : List TI} {t : List A} {σ : List Blk} {nx : Nat} {o : Oper} {K : Kont}

theorem unOp_ok {op : UnOp} {s : Nat} {x : Operand} (ho : o.op = .unOp op s x) (h : stepC T t σ nx (.unOp op s x) K) : StepOk P t σ nx o K := by
  have hmem : x ∈ o.op.operands := by simp [ho, Op.operands]
  dsimp only [stepC] at h
  split at h
  · rename_i b hx
    refine ok_val h rfl fun a f w S inj hop hf hi => ?_
    have hv := hop x hmem
    rw [hx] at hv
    unfold execOp; simp [ho, hv.flatv.1, Op.unary]
  · rename_i k n hx
    refine ok_val h rfl fun a f w S inj hop hf hi => ?_
    have hv := hop x hmem
    rw [hx] at hv
    unfold execOp; simp [ho, hv.flatv.1, Op.unary, Op.intArith, wr]
  · rename_i k n hx
    refine ok_val h rfl fun a f w S inj hop hf hi => ?_
    have hv := hop x hmem
    rw [hx] at hv
    unfold execOp; simp [ho, hv.flatv.1, Op.unary, Op.intBits, bitsI]
  · exact h.elim
theorem eqn_pp {s e : Nat} (hD : P.underlying s = some (.pointer e)) (w : World) : (Op.equal s (.pointer none) (.pointer none)).run P w = .ok true w := by
  have key : ∀ d, (Op.equalIn (d + 1) s (.pointer none) (.pointer none)).run P w = .ok true w := fun d => by simp [Op.equalIn, run_underlying hD]
  exact key 9999
theorem eqn_pn {s e : Nat} (hD : P.underlying s = some (.pointer e)) (a : Addr) (w : World) : (Op.equal s (.pointer (some a)) (.pointer none)).run P w = .ok false w := by
  have key : ∀ d, (Op.equalIn (d + 1) s (.pointer (some a)) (.pointer none)).run P w = .ok false w := fun d => by simp [Op.equalIn, run_underlying hD]
  exact key 9999
theorem eqn_ii {s : Nat} {ms} (hD : P.underlying s = some (.interface ms)) (a b : Nat) (k k' : IntKind) (m n : Int) (w : World) (hab : a ≠ b) : (Op.equal s (.iface a (.int k m)) (.iface b (.int k' n))).run P w = .ok false w := by
  have key : ∀ d, (Op.equalIn (d + 1) s (.iface a (.int k m)) (.iface b (.int k' n))).run P w = .ok false w := fun d => by simp [Op.equalIn, run_underlying hD, hab]
  exact key 9999
theorem eqn_is {s a : Nat} {ms} {i : TypeInfo} {k2 : IntKind} (hD : P.underlying s = some (.interface ms)) (hD2 : P.underlying a = some (.int k2)) (hi : P.info? a = some i) (hc : i.comparable = true) (k : IntKind) (m n : Int) (w : World) :
    (Op.equal s (.iface a (.int k m)) (.iface a (.int k n))).run P w = .ok (eqI m n) w := by
  have key : ∀ d, (Op.equalIn (d + 2) s (.iface a (.int k m)) (.iface a (.int k n))).run P w = .ok (eqI m n) w := fun d => by
    simp [Op.equalIn, run_underlying hD, run_underlying hD2, typeInfo, hi, hc, eqI]
  exact key 9998
theorem eqn_in {s : Nat} {ms} (hD : P.underlying s = some (.interface ms)) (a : Nat) (v : Value) (w : World) : (Op.equal s (.iface a v) .nilIface).run P w = .ok false w := by
  have key : ∀ d, (Op.equalIn (d + 1) s (.iface a v) .nilIface).run P w = .ok false w := fun d => by simp [Op.equalIn, run_underlying hD]
  exact key 9999
theorem eqn_ni {s : Nat} {ms} (hD : P.underlying s = some (.interface ms)) (a : Nat) (v : Value) (w : World) : (Op.equal s .nilIface (.iface a v)).run P w = .ok false w := by
  have key : ∀ d, (Op.equalIn (d + 1) s .nilIface (.iface a v)).run P w = .ok false w := fun d => by simp [Op.equalIn, run_underlying hD]
  exact key 9999
theorem eqn_nn {s : Nat} {ms} (hD : P.underlying s = some (.interface ms)) (w : World) : (Op.equal s .nilIface .nilIface).run P w = .ok true w := by
  have key : ∀ d, (Op.equalIn (d + 1) s .nilIface .nilIface).run P w = .ok true w := fun d => by simp [Op.equalIn, run_underlying hD]
  exact key 9999
theorem nilC_ok (hT : TOk P T) {s : Nat} {cst : Bool} {x y : A} {Kb : Bool → List Nat → Prop} (h : nilC T σ (ty T s) cst x y Kb) : ∃ b bs, Kb b bs ∧
    ∀ {w S inj f u u'} (xo yo : Operand), (cst = true → isConst xo = true ∨ isConst yo = true) → Inv w S inj f → (∀ b, b ∈ bs → f b = look σ b) → VA w S inj x u → VA w S inj y u' →
      (do eqGuard .eql s xo yo u u'; binOp .eql s u u').run P w = .ok (.bool b) w ∧ (do eqGuard .neq s xo yo u u'; binOp .neq s u u').run P w = .ok (.bool (!b)) w := by
  have both : ∀ {u u' : Value} {b : Bool} {w : World} (xo yo : Operand), ((u ≠ .nilIface ∨ u' ≠ .nilIface) ∧ ∀ cs, u ≠ .agg cs) → (binOp .eql s u u' = (do pure (.bool (← Op.equal s u u')))) → (binOp .neq s u u' = (do pure (.bool (!(← Op.equal s u u'))))) → (Op.equal s u u').run P w = .ok b w →
      (do eqGuard .eql s xo yo u u'; binOp .eql s u u').run P w = .ok (.bool b) w ∧ (do eqGuard .neq s xo yo u u'; binOp .neq s u u').run P w = .ok (.bool (!b)) w := by
    intro u u' b w xo yo hg hb hb2 he
    exact ⟨guard_run hg (by rw [hb, Sem.run_bind, he]; rfl), guard_run hg (by rw [hb2, Sem.run_bind, he]; rfl)⟩
  unfold nilC at h
  split at h
  · rename_i e hd
    have hD := ((hT s).desc (by rw [hd]; simp)).d
    rw [hd] at hD
    refine ⟨_, _, h, fun {w S inj f u u'} xo yo _ hi hf hu hv => ?_⟩
    obtain ⟨rfl, _⟩ := hu.flatv
    obtain ⟨rfl, _⟩ := hv.flatv
    refine both xo yo ⟨.inl (by simp), by simp⟩ rfl rfl ?_
    exact eqn_pp hD w
  · rename_i e b p hd
    have hD := ((hT s).desc (by rw [hd]; simp)).d
    rw [hd] at hD
    split at h
    · rename_i cs hb
      refine ⟨_, _, h, fun {w S inj f u u'} xo yo _ hi hf hu hv => ?_⟩
      obtain ⟨g, vs, e', hg, _⟩ := hi.box ((hf b (by simp)).trans hb)
      have he := (hu.cellv (by simp)).ptrv hg
      subst he
      obtain ⟨rfl, _⟩ := hv.flatv
      refine both xo yo ⟨.inl (by simp), by simp⟩ rfl rfl ?_
      exact eqn_pn hD _ w
    · exact h.elim
  · rename_i a k m b k' n hd
    have hI := ((hT s).desc (by rw [hd]; simp)).d
    rw [hd] at hI
    obtain ⟨ms, hD⟩ := hI
    rw [bcase_iff] at h
    rcases h with ⟨hab, h⟩ | ⟨hab, h⟩
    · have hab := Nat.eq_of_beq_eq_true hab
      subst hab
      obtain ⟨hk, h3⟩ := bcF h
      simp only [decide_eq_true_eq] at hk
      subst hk
      split at h3
      · rename_i k2 hd2
        have hI2 := (hT a).desc (by rw [hd2]; simp)
        have hD2 := hI2.d
        rw [hd2] at hD2
        obtain ⟨i, zv, hi, _, _, _, _, _, hcmp⟩ := hI2.info
        have hc := hcmp ⟨_, hd2⟩
        refine ⟨_, _, h3, fun {w S inj f u u'} xo yo _ hi' hf hu hv => ?_⟩
        obtain ⟨rfl, _⟩ := hu.flatv
        obtain ⟨rfl, _⟩ := hv.flatv
        refine both xo yo ⟨.inl (by simp), by simp⟩ rfl rfl ?_
        exact eqn_is hD hD2 hi hc k m n w
      · exact h3.elim
    · have hab := Nat.ne_of_beq_eq_false hab
      refine ⟨_, _, h, fun {w S inj f u u'} xo yo _ hi' hf hu hv => ?_⟩
      obtain ⟨rfl, _⟩ := hu.flatv
      obtain ⟨rfl, _⟩ := hv.flatv
      refine both xo yo ⟨.inl (by simp), by simp⟩ rfl rfl ?_
      exact eqn_ii hD a b k k' m n w hab
  · rename_i a m hd
    have hI := ((hT s).desc (by rw [hd]; simp)).d
    rw [hd] at hI
    obtain ⟨ms, hD⟩ := hI
    refine ⟨_, _, h, fun {w S inj f u u'} xo yo _ hi' hf hu hv => ?_⟩
    obtain ⟨rfl, _⟩ := hu.flatv
    obtain ⟨rfl, _⟩ := hv.flatv
    refine both xo yo ⟨.inl (by simp), by simp⟩ rfl rfl ?_
    exact eqn_in hD a m w
  · rename_i a m hd
    have hI := ((hT s).desc (by rw [hd]; simp)).d
    rw [hd] at hI
    obtain ⟨ms, hD⟩ := hI
    refine ⟨_, _, h, fun {w S inj f u u'} xo yo _ hi' hf hu hv => ?_⟩
    obtain ⟨rfl, _⟩ := hu.flatv
    obtain ⟨rfl, _⟩ := hv.flatv
    refine both xo yo ⟨.inr (by simp), by simp⟩ rfl rfl ?_
    exact eqn_ni hD a m w
  · rename_i hd
    have hI := ((hT s).desc (by rw [hd]; simp)).d
    rw [hd] at hI
    obtain ⟨ms, hD⟩ := hI
    obtain ⟨hc, h⟩ := bcF h
    refine ⟨_, _, h, fun {w S inj f u u'} xo yo hco hi' hf hu hv => ?_⟩
    obtain ⟨rfl, _⟩ := hu.flatv
    obtain ⟨rfl, _⟩ := hv.flatv
    have hE := eqn_nn hD w
    have hco := hco hc
    have hg : (eqGuard .eql s xo yo .nilIface .nilIface).run P w = .ok () w := by
      cases xo <;> first | rfl | (cases yo <;> first | rfl | (rcases hco with h | h <;> cases h; done))
    have hg2 : (eqGuard .neq s xo yo .nilIface .nilIface).run P w = .ok () w := by
      cases xo <;> first | rfl | (cases yo <;> first | rfl | (rcases hco with h | h <;> cases h; done))
    have e1 : binOp .eql s .nilIface .nilIface = (do pure (.bool (← Op.equal s .nilIface .nilIface))) := rfl
    have e2 : binOp .neq s .nilIface .nilIface = (do pure (.bool (!(← Op.equal s .nilIface .nilIface)))) := rfl
    exact ⟨by rw [Sem.run_bind, hg, Result.andThen_ok, e1, Sem.run_bind, hE]; rfl, by rw [Sem.run_bind, hg2, Result.andThen_ok, e2, Sem.run_bind, hE]; rfl⟩
  · exact h.elim
theorem binOp_ok (hT : TOk P T) {op : BinOp} {s s' : Nat} {x y : Operand} (ho : o.op = .binOp op s x y s') (h : stepC T t σ nx (.binOp op s x y s') K) : StepOk P t σ nx o K := by
  have hmx : x ∈ o.op.operands := by simp [ho, Op.operands]
  have hmy : y ∈ o.op.operands := by simp [ho, Op.operands]
  have hrun : ∀ {a : Act} {w : World} {v}, (do eqGuard op s x y (a.eval x) (a.eval y); binOp op s (a.eval x) (a.eval y)).run P w = .ok v w → (execOp a.eval o).run P w = .ok (.value v) w := fun {a w v} hr => by
    unfold execOp
    rw [ho]
    show (Sem.run P ((do eqGuard op s x y (a.eval x) (a.eval y); binOp op s (a.eval x) (a.eval y)) >>= fun v => pure (Next.value v)) w) = _
    rw [Sem.run_bind, hr]
    rfl
  have hnil : (match op with
      | .eql => nilC T σ (ty T s) (isConst x || isConst y) (opd t x) (opd t y) fun b bs => K (.one (.p (.v (.bool b)))) [] [] bs
      | .neq => nilC T σ (ty T s) (isConst x || isConst y) (opd t x) (opd t y) fun b bs => K (.one (.p (.v (.bool (!b))))) [] [] bs
      | _ => False) → StepOk P t σ nx o K := by
    intro h
    split at h
    · obtain ⟨b, bs, hk, hr⟩ := nilC_ok hT h
      exact ok_val hk rfl fun a f w S inj hop hf hi => hrun (hr x y (by simp) hi hf (hop x hmx) (hop y hmy)).1
    · obtain ⟨b, bs, hk, hr⟩ := nilC_ok hT h
      exact ok_val hk rfl fun a f w S inj hop hf hi => hrun (hr x y (by simp) hi hf (hop x hmx) (hop y hmy)).2
    · exact h.elim
  dsimp only [stepC] at h
  split at h
  · exact hnil h
  · exact hnil h
  · obtain ⟨v, hk, hfl, hr⟩ := binC_ok hT h
    exact ok_val hk hfl fun a f w S inj hop hf hi => hrun (hr x y (hop x hmx) (hop y hmy))
theorem makeInterface_ok (hT : TOk P T) {s : Nat} {x : Operand} (ho : o.op = .makeInterface s x) (h : stepC T t σ nx (.makeInterface s x) K) : StepOk P t σ nx o K := by
  dsimp only [stepC] at h
  split at h
  · rename_i k k' n hd hx
    have hD := ((hT s).desc (by rw [hd]; simp)).d
    rw [hd] at hD
    refine ok_val h rfl fun a f w S inj hop hf hi => ?_
    have hv := hop x (by simp [ho, Op.operands])
    rw [hx] at hv
    unfold execOp; simp [ho, hv.flatv.1, Instr.makeInterface, run_underlying hD]
  · exact h.elim
theorem asPtrs_ok (l : List A) : ∀ {Kp : List Nat → Prop}, asPtrs l Kp → ∃ bs, Kp bs ∧ ∀ {w S inj vs}, F2 (VA w S inj) l vs → F2 (fun b v => ∃ a, v = .pointer a ∧ (inj b = .dead ∨ ∃ g, inj b = .box g ∧ a = some ⟨g, 0, none⟩)) bs vs := by
  induction l with
  | nil => intro Kp h; exact ⟨[], h, fun hv => by cases hv; exact .nil⟩
  | cons x l ih =>
    intro Kp h
    have h' : (fun x : A => (match x with | .one (.ptr b 0) => asPtrs l (fun bs => Kp (b :: bs)) | _ => False : Prop)) x := h
    clear h
    simp only at h'
    split at h'
    · rename_i b
      obtain ⟨bs, hk, hok⟩ := ih h'
      refine ⟨_, hk, fun hv => ?_⟩
      cases hv with
      | cons hv hvs =>
        have := hv.cellv (by simp)
        cases this with | ptr hb => exact .cons ⟨_, rfl, hb⟩ (hok hvs)
    · exact h'.elim
theorem evals_ok {w S inj} {a : Act} (l : List Operand) (h : ∀ x, x ∈ l → VA w S inj (opd t x) (a.eval x)) : F2 (VA w S inj) (l.map (opd t)) (l.map a.eval) := by
  induction l with
  | nil => exact .nil
  | cons x l ih => exact .cons (h x (by simp)) (ih fun y hy => h y (by simp [hy]))
theorem makeFunc_ok {fn : Fn} {first caps : Array Operand} (ho : o.op = .makeFunc fn first caps) (h : stepC T t σ nx (.makeFunc fn first caps) K) : StepOk P t σ nx o K := by
  dsimp only [stepC] at h
  split at h
  · rename_i f hfst
    obtain ⟨bs, hk, hok⟩ := asPtrs_ok _ h
    refine ok_pure hk fun a f' w S inj hop hf hi => ?_
    have hfst' : first = #[] := by simpa using hfst
    subst hfst'
    have := hok (w := w) (S := S) (inj := inj) (vs := caps.toList.map a.eval) (by rw [mapR_eq]; exact evals_ok _ fun x hx => hop x (by simp [ho, Op.operands]; simpa using hx))
    refine ⟨.func (.func f) #[] (caps.toList.map a.eval).toArray, ?_, .ofc (.fn this)⟩
    unfold execOp; cases caps; simp [ho, Instr.makeFunc]
  · exact h.elim
theorem typeAssert_ok (hT : TOk P T) {x : Operand} {s0 s : Nat} {ok : Bool} (ho : o.op = .typeAssert x s0 s ok) (h : stepC T t σ nx (.typeAssert x s0 s ok) K) : StepOk P t σ nx o K := by
  have hmem : x ∈ o.op.operands := by simp [ho, Op.operands]
  dsimp only [stepC] at h
  split at h
  · rename_i s' k n k' hx hd
    have hI := (hT s).desc (by rw [hd]; simp)
    have hD := hI.d
    rw [hd] at hD
    obtain ⟨hs, h2⟩ := bcF h
    have hs := Nat.eq_of_beq_eq_true hs
    subst hs
    clear h
    split at h2
    · refine ok_val h2 rfl fun a f w S inj hop hf hi => ?_
      have hv := hop x hmem
      rw [hx] at hv
      unfold execOp; simp [ho, hv.flatv.1, Instr.typeAssert, run_underlying hD]
    · refine ok_pure h2 fun a f w S inj hop hf hi => ?_
      have hv := hop x hmem
      rw [hx] at hv
      refine ⟨.tuple #[.int k n, .bool true], by unfold execOp; simp [ho, hv.flatv.1, Instr.typeAssert, run_underlying hD], .tup (vs := [.int k n, .bool true]) (.cons (.one (.p (.v rfl))) (.cons (.one (.p (.v rfl))) .nil))⟩
  · rename_i k hx hd
    have hI := (hT s).desc (by rw [hd]; simp)
    have hD := hI.d
    rw [hd] at hD
    split at h
    · rename_i z hz
      refine ok_pure h fun a f w S inj hop hf hi => ?_
      have hv := hop x hmem
      rw [hx] at hv
      obtain ⟨i, zv, hi', _, _, hzv, hzc, hone, _⟩ := hI.info
      have hz1 := hone (by rw [hd]; rfl)
      rw [hz] at hz1
      injection hz1 with hz1 _
      subst hz1
      refine ⟨.tuple #[z, .bool false], by unfold execOp; simp [ho, hv.flatv.1, Instr.typeAssert, run_underlying hD, zeroValue, typeInfo, hi', hzv], .tup (vs := [z, .bool false]) (.cons (.one (.p (.v (hI.fl z (by rw [hz]; simp))))) (.cons (.one (.p (.v rfl))) .nil))⟩
    · exact h.elim
  · exact h.elim
end Go.Proofs.Ytaiedakbmmgmaaa.E
