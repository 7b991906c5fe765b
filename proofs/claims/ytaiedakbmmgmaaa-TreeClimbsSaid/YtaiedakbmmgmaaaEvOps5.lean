/- Soundness of the operations, fifth part: numbers, texts, comparisons, conversions, elements. -/
import Derived.Test.YtaiedakbmmgmaaaEvOps4
import Derived.Laws.BytesArg
import Derived.Lib.ConvBytes
set_option linter.unusedVariables false
set_option linter.unusedSimpArgs false
namespace Go.Proofs.Ytaiedakbmmgmaaa.E
open Go
variable {P : Program} {T : List TI} {t : List A} {σ : List Blk} {nx : Nat} {o : Oper} {K : Kont}

theorem bcT {b : Bool} {x : Prop} (h : bcase b False x) : b = false ∧ x := by cases b; exact ⟨rfl, h⟩; exact h.elim
/-- a value without an address, out of a run -/
theorem ok_val {v : Value} {rd : List Nat} (hk : K (.one (.p (.v v))) [] [] rd) (hfl : flat v = true)
    (h : ∀ (a : Act) (f : Nat → Blk) (w : World) (S : Zone) (inj : Nat → Loc), (∀ x, x ∈ o.op.operands → VA w S inj (opd t x) (a.eval x)) → (∀ b, b ∈ rd → f b = look σ b) → Inv w S inj f →
      (execOp a.eval o).run P w = .ok (.value v) w) : StepOk P t σ nx o K :=
  ok_pure hk fun a f w S inj hop hf hi => ⟨v, h a f w S inj hop hf hi, .ofv hfl⟩

theorem binInt_ok {op : BinOp} {k : IntKind} {a b : Int} {Kv : Value → Prop} (hop : op ≠ .shl ∧ op ≠ .shr) (h : binInt op k a b Kv) : ∃ v, Kv v ∧ flat v = true ∧ ∀ s w, (binOp op s (.int k a) (.int k b)).run P w = .ok v w := by
  unfold binInt at h
  split at h
  case h_4 => obtain ⟨he, h⟩ := bcT h; exact ⟨_, h, rfl, fun s w => by unfold eqI at he; simp at he; simp [binOp, Op.intDiv, he, wr, tdivI]⟩
  case h_5 => obtain ⟨he, h⟩ := bcT h; exact ⟨_, h, rfl, fun s w => by unfold eqI at he; simp at he; simp [binOp, Op.intDiv, he, tmodI]⟩
  case h_16 => exact h.elim
  all_goals exact ⟨_, h, rfl, fun s w => by simp [binOp, Op.intArith, Op.intBits, Op.intCmp, wr, bitsI, eqI, ltI, leI, bne]⟩
theorem binStr_ok {op : BinOp} {a b : ByteArray} {Kv : Value → Prop} (h : binStr op a b Kv) : ∃ v, Kv v ∧ flat v = true ∧ ∀ s w, (binOp op s (.string a) (.string b)).run P w = .ok v w := by
  unfold binStr at h
  split at h
  case h_1 =>
    obtain ⟨he, h⟩ := bcF h
    unfold catOk at he
    simp only [decide_eq_true_eq] at he
    refine ⟨_, h, rfl, fun s w => ?_⟩
    simp only [binOp, Op.stringOp, catS]
    rw [if_neg (by omega)]
    rfl
  case h_8 => exact h.elim
  all_goals exact ⟨_, h, rfl, fun s w => by simp [binOp, Op.stringOp, eqS_eq, ltS_eq]⟩
theorem floatArith_run {op : BinOp} {k : FloatKind} {a b : Nat} (hop : op = .add ∨ op = .sub ∨ op = .mul) (h : arOk op k a b = true) (w : World) : (Op.floatArith op k a b).run P w = .ok (.float k (arV op k a b)) w := by
  unfold arOk at h
  obtain ⟨r, hr⟩ := Option.isSome_iff_exists.1 h
  rcases hop with rfl | rfl | rfl <;> simp only [] at hr <;> simp [Op.floatArith, arV, hr]
theorem binFlt_ok {op : BinOp} {k : FloatKind} {a b : Nat} {Kv : Value → Prop} (h : binFlt op k a b Kv) : ∃ v, Kv v ∧ flat v = true ∧ ∀ s w, (binOp op s (.float k a) (.float k b)).run P w = .ok v w := by
  unfold binFlt at h
  split at h
  case h_1 => obtain ⟨he, h⟩ := bcF h; exact ⟨_, h, rfl, fun s w => by simp [binOp, floatArith_run (.inl rfl) he]⟩
  case h_2 => obtain ⟨he, h⟩ := bcF h; exact ⟨_, h, rfl, fun s w => by simp [binOp, floatArith_run (.inr (.inl rfl)) he]⟩
  case h_3 => obtain ⟨he, h⟩ := bcF h; exact ⟨_, h, rfl, fun s w => by simp [binOp, floatArith_run (.inr (.inr rfl)) he]⟩
  case h_10 => exact h.elim
  all_goals exact ⟨_, h, rfl, fun s w => by simp [binOp, Op.floatCmp, eqFl, ltFl, gtFl, bne]⟩
theorem cpxEq_run {k : FloatKind} {a b c d : Nat} (w : World) : (Op.complexOp .eql k a b c d).run P w = .ok (.bool (eqFl k a c && eqFl k b d)) w ∧ (Op.complexOp .neq k a b c d).run P w = .ok (.bool (!(eqFl k a c && eqFl k b d))) w := by
  constructor <;> simp [Op.complexOp, Op.Complex.cmp, Op.floatCmp, asBool, eqFl]
theorem binCpx_ok {op : BinOp} {k : FloatKind} {a b c d : Nat} {Kv : Value → Prop} (h : binCpx op k a b c d Kv) : ∃ v, Kv v ∧ flat v = true ∧ ∀ s w, (binOp op s (.complex k a b) (.complex k c d)).run P w = .ok v w := by
  unfold binCpx at h
  split at h
  case h_1 =>
    obtain ⟨he, h⟩ := bcF h
    simp only [Bool.and_eq_true] at he
    exact ⟨_, h, rfl, fun s w => by simp [binOp, Op.complexOp, Op.Complex.arith, floatArith_run (.inl rfl) he.1, floatArith_run (.inl rfl) he.2]⟩
  case h_2 =>
    obtain ⟨he, h⟩ := bcF h
    simp only [Bool.and_eq_true] at he
    exact ⟨_, h, rfl, fun s w => by simp [binOp, Op.complexOp, Op.Complex.arith, floatArith_run (.inr (.inl rfl)) he.1, floatArith_run (.inr (.inl rfl)) he.2]⟩
  case h_3 => exact ⟨_, h, rfl, fun s w => by simp [binOp, cpxEq_run]⟩
  case h_4 => exact ⟨_, h, rfl, fun s w => by simp [binOp, cpxEq_run]⟩
  case h_5 => exact h.elim

theorem eqCell_ok {z : Value} {x y : C} {Kb : Bool → Prop} (h : eqCell z x y Kb) : ∃ b, Kb b ∧ ∀ {w S inj u v}, VR w S inj x u → VR w S inj y v → eqV z u v = some b := by
  unfold eqCell at h
  split at h
  · obtain ⟨he, h2⟩ := bcF h
    simp only [Bool.and_eq_true, decide_eq_true_eq] at he
    obtain ⟨rfl, rfl⟩ := he
    refine ⟨_, h2, fun {w S inj u v} hu hv => ?_⟩
    obtain ⟨rfl, _⟩ := (VA.ofc hu).flatv
    obtain ⟨rfl, _⟩ := (VA.ofc hv).flatv
    simp [eqV, eqI]
  · refine ⟨_, h, fun {w S inj u v} hu hv => ?_⟩
    obtain ⟨rfl, _⟩ := (VA.ofc hu).flatv
    obtain ⟨rfl, _⟩ := (VA.ofc hv).flatv
    simp [eqV, eqS_eq]
  · rename_i a b
    refine ⟨_, h, fun {w S inj u v} hu hv => ?_⟩
    obtain ⟨rfl, _⟩ := (VA.ofc hu).flatv
    obtain ⟨rfl, _⟩ := (VA.ofc hv).flatv
    cases a <;> cases b <;> rfl
  · obtain ⟨he, h2⟩ := bcF h
    simp only [Bool.and_eq_true, decide_eq_true_eq] at he
    obtain ⟨rfl, rfl⟩ := he
    refine ⟨_, h2, fun {w S inj u v} hu hv => ?_⟩
    obtain ⟨rfl, _⟩ := (VA.ofc hu).flatv
    obtain ⟨rfl, _⟩ := (VA.ofc hv).flatv
    simp [eqV, eqFl, Op.floatEq]
  · exact h.elim
theorem eqZ_len : ∀ {z xs ys : List Value} {b : Bool}, eqZ z xs ys = some b → xs.length = z.length ∧ ys.length = z.length
  | [], [], [], _, _ => ⟨rfl, rfl⟩
  | z :: zs, x :: xs, y :: ys, b, h => by
    unfold eqZ at h
    split at h
    · obtain ⟨h1, h2⟩ := eqZ_len h; simp [h1, h2]
    · split at h
      · rename_i h'; simp [h'.1, h'.2]
      · cases h
    · cases h
  | [], _ :: _, _, _, h => by simp [eqZ] at h
  | [], [], _ :: _, _, h => by simp [eqZ] at h
  | _ :: _, [], _, _, h => by simp [eqZ] at h
  | _ :: _, _ :: _, [], _, h => by simp [eqZ] at h
theorem eqCells_ok (zs : List Value) : ∀ {xs ys : List C} {Kb : Bool → Prop}, eqCells zs xs ys Kb → ∃ b, Kb b ∧ ∀ {w S inj us vs}, F2 (VR w S inj) xs us → F2 (VR w S inj) ys vs → eqZ zs us vs = some b := by
  induction zs with
  | nil =>
    intro xs ys Kb h
    cases xs with
    | cons _ _ => exact h.elim
    | nil => cases ys with
      | cons _ _ => exact h.elim
      | nil => exact ⟨true, h, fun hu hv => by cases hu; cases hv; rfl⟩
  | cons z zs ih =>
    intro xs ys Kb h
    cases xs with
    | nil => exact h.elim
    | cons x xs => cases ys with
      | nil => exact h.elim
      | cons y ys =>
        change eqCell z x y (fun b => eqCells zs xs ys fun c => Kb (andB b c)) at h
        obtain ⟨b, h, hb⟩ := eqCell_ok h
        obtain ⟨c, h, hok⟩ := ih h
        refine ⟨andB b c, h, fun hu hv => ?_⟩
        cases hu with | cons hu hus => cases hv with | cons hv hvs =>
        have h2 := hok hus hvs
        cases b with
        | true => simp only [eqZ, hb hu hv, h2, andB, Bool.true_and]
        | false =>
          simp only [eqZ, hb hu hv, andB, Bool.false_and]
          rw [if_pos (eqZ_len h2)]

theorem eqGuard_ok {op : BinOp} {s : Nat} {x y : Operand} {a b : Value} (w : World) (h : (a ≠ .nilIface ∨ b ≠ .nilIface) ∧ (∀ cs, a ≠ .agg cs)) : (eqGuard op s x y a b).run P w = .ok () w := by
  have key : ∀ c : Bool, ((if c = true then pure () else match (generalizing := false) a, b with
      | .nilIface, .nilIface =>
        if (x matches .const _) || (y matches .const _) then pure () else do
        if ← Op.eqGuardIn Op.maxDepth s a b then unsupported (.noEntry "binop/eql: two nil values of an interface type with methods, neither of them the literal nil")
      | .agg _, .agg _ => do
        if !(← program).eqGuardType (← program).depth s then pure () else
        if ← Op.eqGuardIn Op.maxDepth s a b then unsupported (.noEntry "binop/eql: two nil values of an interface type with methods, in a part of a struct or an array")
      | _, _ => pure () : Sem Unit)).run P w = .ok () w := by
    intro c
    cases c
    · simp only [Bool.false_eq_true, if_false]
      split
      · rcases h.1 with h | h <;> exact absurd rfl h
      · exact absurd rfl (h.2 _)
      · rfl
    · rfl
  exact key _
theorem guard_run {op : BinOp} {s : Nat} {x y : Operand} {a b v : Value} {w : World} (ha : (a ≠ .nilIface ∨ b ≠ .nilIface) ∧ (∀ cs, a ≠ .agg cs)) (h : (binOp op s a b).run P w = .ok v w) :
    (do eqGuard op s x y a b; binOp op s a b).run P w = .ok v w := by
  simp only [Sem.run_bind, eqGuard_ok w ha, Result.andThen_ok, h]
theorem equal_bool {s : Nat} (hD : P.underlying s = some .bool) (a b : Bool) (w : World) : (Op.equal s (.bool a) (.bool b)).run P w = .ok (a == b) w := by
  have key : ∀ d, (Op.equalIn (d + 1) s (.bool a) (.bool b)).run P w = .ok (a == b) w := fun d => by simp [Op.equalIn, run_underlying hD]
  exact key 9999
theorem binC_ok (hT : TOk P T) {op : BinOp} {s : Nat} {x y : A} {Ka : A → Prop} (h : binC op (ty T s) x y Ka) : ∃ v, Ka (.one (.p (.v v))) ∧ flat v = true ∧
    ∀ {w S inj u u'} (xo yo : Operand), VA w S inj x u → VA w S inj y u' → (do eqGuard op s xo yo u u'; binOp op s u u').run P w = .ok v w := by
  unfold binC at h
  split at h
  · rename_i k a k' b
    split at h
    · obtain ⟨he, h⟩ := bcT h
      refine ⟨_, h, rfl, fun {w S inj u u'} xo yo hu hv => ?_⟩
      obtain ⟨rfl, _⟩ := hu.flatv
      obtain ⟨rfl, _⟩ := hv.flatv
      unfold ltI at he
      simp only [decide_eq_false_iff_not] at he
      refine guard_run ⟨.inl (by simp), by simp⟩ ?_
      simp only [binOp, Op.shift]
      rw [if_neg he]
      rfl
    · obtain ⟨he, h⟩ := bcT h
      refine ⟨_, h, rfl, fun {w S inj u u'} xo yo hu hv => ?_⟩
      obtain ⟨rfl, _⟩ := hu.flatv
      obtain ⟨rfl, _⟩ := hv.flatv
      unfold ltI at he
      simp only [decide_eq_false_iff_not] at he
      refine guard_run ⟨.inl (by simp), by simp⟩ ?_
      simp only [binOp, Op.shift]
      rw [if_neg he]
      rfl
    · rename_i h1 h2
      obtain ⟨he, h3⟩ := bcF h
      simp only [decide_eq_true_eq] at he
      subst he
      obtain ⟨v, hk, hfl, hr⟩ := binInt_ok (P := P) ⟨h1, h2⟩ h3
      refine ⟨v, hk, hfl, fun {w S inj u u'} xo yo hu hv => ?_⟩
      obtain ⟨rfl, _⟩ := hu.flatv
      obtain ⟨rfl, _⟩ := hv.flatv
      exact guard_run ⟨.inl (by simp), by simp⟩ (hr _ _)
  · rename_i a b
    have key : ∀ {op : BinOp}, (op = .eql ∨ op = .neq) → (ty T s).d = .bool → ∀ {w S inj u u'} (xo yo : Operand), VA w S inj (.one (.p (.v (.bool a)))) u → VA w S inj (.one (.p (.v (.bool b)))) u' →
        (do eqGuard op s xo yo u u'; binOp op s u u').run P w = .ok (.bool (if op = .eql then a == b else !(a == b))) w := by
      intro op hop hd w S inj u u' xo yo hu hv
      obtain ⟨rfl, _⟩ := hu.flatv
      obtain ⟨rfl, _⟩ := hv.flatv
      have hD := ((hT s).desc (by rw [hd]; simp)).d
      rw [hd] at hD
      have hE := equal_bool hD a b w
      rcases hop with rfl | rfl <;> refine guard_run ⟨.inl (by simp), by simp⟩ ?_ <;> simp [binOp, hE]
    split at h
    · rename_i hd
      exact ⟨_, h, rfl, fun {w S inj u u'} xo yo hu hv => by rw [key (.inl rfl) hd xo yo hu hv]; cases a <;> cases b <;> rfl⟩
    · rename_i hd
      exact ⟨_, h, rfl, fun {w S inj u u'} xo yo hu hv => by rw [key (.inr rfl) hd xo yo hu hv]; cases a <;> cases b <;> rfl⟩
    · exact h.elim
  · obtain ⟨v, hk, hfl, hr⟩ := binStr_ok (P := P) h
    refine ⟨v, hk, hfl, fun {w S inj u u'} xo yo hu hv => ?_⟩
    obtain ⟨rfl, _⟩ := hu.flatv
    obtain ⟨rfl, _⟩ := hv.flatv
    exact guard_run ⟨.inl (by simp), by simp⟩ (hr _ _)
  · obtain ⟨he, h3⟩ := bcF h
    simp only [decide_eq_true_eq] at he
    subst he
    obtain ⟨v, hk, hfl, hr⟩ := binFlt_ok (P := P) h3
    refine ⟨v, hk, hfl, fun {w S inj u u'} xo yo hu hv => ?_⟩
    obtain ⟨rfl, _⟩ := hu.flatv
    obtain ⟨rfl, _⟩ := hv.flatv
    exact guard_run ⟨.inl (by simp), by simp⟩ (hr _ _)
  · obtain ⟨he, h3⟩ := bcF h
    simp only [decide_eq_true_eq] at he
    subst he
    obtain ⟨v, hk, hfl, hr⟩ := binCpx_ok (P := P) h3
    refine ⟨v, hk, hfl, fun {w S inj u u'} xo yo hu hv => ?_⟩
    obtain ⟨rfl, _⟩ := hu.flatv
    obtain ⟨rfl, _⟩ := hv.flatv
    exact guard_run ⟨.inl (by simp), by simp⟩ (hr _ _)
  · have key : ∀ {op : BinOp}, (op = .eql ∨ op = .neq) → (ty T s).eq = true → ∀ {w S inj u u' xs ys b} (xo yo : Operand), VA w S inj (.agg xs) u → VA w S inj (.agg ys) u' →
        (∀ {w S inj us vs}, F2 (VR w S inj) xs us → F2 (VR w S inj) ys vs → eqZ (ty T s).z us vs = some b) → (do eqGuard op s xo yo u u'; binOp op s u u').run P w = .ok (.bool (if op = .eql then b else !b)) w := by
      intro op hop heq w S inj u u' xs ys b xo yo hu hv hz
      obtain ⟨us, rfl, hus⟩ := hu.agg'
      obtain ⟨vs, rfl, hvs⟩ := hv.agg'
      rcases hT s with he | hI
      · rw [he] at heq; cases heq
      have hE := hI.eq heq
      have hr := hE.2 us vs b w (hz hus hvs)
      rcases hop with rfl | rfl <;> simp [eqGuard, hE.1, binOp, hr]
    split at h
    · obtain ⟨he, h⟩ := bcF h
      obtain ⟨b, h, hb⟩ := eqCells_ok _ h
      exact ⟨_, h, rfl, fun {w S inj u u'} xo yo hu hv => by simpa using key (.inl rfl) he xo yo hu hv hb⟩
    · obtain ⟨he, h⟩ := bcF h
      obtain ⟨b, h, hb⟩ := eqCells_ok _ h
      exact ⟨_, h, rfl, fun {w S inj u u'} xo yo hu hv => by simpa using key (.inr rfl) he xo yo hu hv hb⟩
    · exact h.elim
  · exact h.elim
end Go.Proofs.Ytaiedakbmmgmaaa.E
