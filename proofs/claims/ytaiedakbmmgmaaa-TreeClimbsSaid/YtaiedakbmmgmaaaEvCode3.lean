/- Soundness of code: the theorem. -/
import Derived.Test.YtaiedakbmmgmaaaEvCode2
import Derived.Scope
set_option linter.unusedVariables false
set_option linter.unusedSimpArgs false
namespace Go.Proofs.Ytaiedakbmmgmaaa.E
open Go
variable {P : Program} {T : List TI} {H : List (Nat × Nat × List Nat)} {KO : List Nat} {t : List A} {σ : List Blk} {nx : Nat} {I : Task → Prop}

def ex : Ex → Exit
  | .normal => .normal
  | .exit i => .exit i
  | .goto l => .goto l
  | .ret => .ret
def CodeOk (P : Program) (m : Nat) (c : Code) (t : List A) (σ : List Blk) (e : Ex) (t' : List A) (σ' : List Blk) : Prop :=
  ∀ (a : Act) (w : World) (S : Zone) (inj : Nat → Loc), St m t σ a w S inj → ∀ Q : Exit → Act → World → Prop, (∀ a' w' S' inj', St m t' σ' a' w' S' inj' → Rl m w S inj w' S' inj' → Q (ex e) a' w') → c.wp P Q a w
def LoopAt (P : Program) (c : Code) (Q : Exit → Act → World → Prop) (a : Act) (w : World) : Prop :=
  ∀ (b : Frame) (k : List Item) (cs : List Frame), ∃ e a' w', Q e a' w' ∧ Arrives P (lone (b.at a (.code c :: .inLoop c :: k)) cs w) b k cs e a' w'
def ScopeAt (P : Program) (body rest : Code) (Q : Exit → Act → World → Prop) (a : Act) (w : World) : Prop :=
  ∀ (b : Frame) (k : List Item) (cs : List Frame), ∃ e a' w', Q e a' w' ∧ Arrives P (lone (b.at a (.code rest :: .inScope body :: k)) cs w) b k cs e a' w'
def LoopOk (P : Program) (m : Nat) (c : Code) (t : List A) (σ : List Blk) (e : Ex) (t' : List A) (σ' : List Blk) : Prop :=
  ∀ (a : Act) (w : World) (S : Zone) (inj : Nat → Loc), St m t σ a w S inj → ∀ Q : Exit → Act → World → Prop, (∀ a' w' S' inj', St m t' σ' a' w' S' inj' → Rl m w S inj w' S' inj' → Q (ex e) a' w') → LoopAt P c Q a w
def ScopeOk (P : Program) (m : Nat) (body rest : Code) (t : List A) (σ : List Blk) (e : Ex) (t' : List A) (σ' : List Blk) : Prop :=
  ∀ (a : Act) (w : World) (S : Zone) (inj : Nat → Loc), St m t σ a w S inj → ∀ Q : Exit → Act → World → Prop, (∀ a' w' S' inj', St m t' σ' a' w' S' inj' → Rl m w S inj w' S' inj' → Q (ex e) a' w') → ScopeAt P body rest Q a w
/-- what a task means -/
def TaskOk (P : Program) : Task → Prop
  | .call f xs σ Q => ∃ r σ', Q r σ' ∧ CallOk P f xs σ r σ'
  | .loop _ m c t σ K => m ≤ σ.length → ∃ e t' σ', K e t' σ' ∧ m ≤ σ'.length ∧ LoopOk P m c t σ e t' σ'
  | .jump _ m body rest t σ K => m ≤ σ.length → ∃ e t' σ', K e t' σ' ∧ m ≤ σ'.length ∧ ScopeOk P m body rest t σ e t' σ'
  | .rest _ m c t σ K => m ≤ σ.length → ∃ e t' σ', K e t' σ' ∧ m ≤ σ'.length ∧ CodeOk P m c t σ e t' σ'

theorem loopAt_of {c : Code} {Q Q1 : Exit → Act → World → Prop} {a : Act} {w : World} (h : c.wp P Q1 a w)
    (hn : ∀ a w, Q1 .normal a w → LoopAt P c Q a w) (he : ∀ e a w, Q1 e a w → e ≠ .normal → Q e a w) : LoopAt P c Q a w := by
  intro b k cs
  obtain ⟨e, a₁, w₁, hq, harr⟩ := h b (.inLoop c :: k) cs
  have hq' := he e a₁ w₁ hq
  cases e with
  | normal =>
    obtain ⟨e₂, a₂, w₂, hq₂, harr₂⟩ := hn _ _ hq b k cs
    exact ⟨e₂, a₂, w₂, hq₂, .of_steps (Steps.trans harr (.one step_inLoop)) harr₂⟩
  | exit id => exact ⟨_, a₁, w₁, hq' (by simp), .pass (x := .inLoop c) rfl (fun _ _ => .inl (by simp)) harr⟩
  | goto l => exact ⟨_, a₁, w₁, hq' (by simp), .pass (x := .inLoop c) rfl (fun _ _ => .inl (by simp)) harr⟩
  | ret => exact ⟨_, a₁, w₁, hq' (by simp), .pass (x := .inLoop c) rfl (fun _ _ => .inl (by simp)) harr⟩
  | panic ch => exact ⟨_, a₁, w₁, hq' (by simp), .pass (x := .inLoop c) rfl (fun _ _ => .inl (by simp)) harr⟩
  | outgrown => exact ⟨_, a₁, w₁, hq' (by simp), .pass (x := .inLoop c) rfl (fun _ _ => .inl (by simp)) harr⟩
theorem wp_loopAt {c : Code} {Q : Exit → Act → World → Prop} {a : Act} {w : World} (h : LoopAt P c Q a w) : (Code.loop c).wp P Q a w := fun b k cs =>
  let ⟨e, a', w', hq, harr⟩ := h b k cs
  ⟨e, a', w', hq, .of_steps (.one step_loop) harr⟩
theorem wp_scopeAt {c : Code} {Q : Exit → Act → World → Prop} {a : Act} {w : World} (h : ScopeAt P c c Q a w) : (Code.scope c).wp P Q a w := fun b k cs =>
  let ⟨e, a', w', hq, harr⟩ := h b k cs
  ⟨e, a', w', hq, .of_steps (.one step_scope) harr⟩
theorem scopeAt_of {body rest : Code} {Q Q1 : Exit → Act → World → Prop} {a : Act} {w : World} (h : rest.wp P Q1 a w)
    (hg : ∀ l a w, Q1 (.goto l) a w → match findLabel body l with | some r => ScopeAt P body r Q a w | none => Q (.goto l) a w)
    (he : ∀ e a w, Q1 e a w → (∀ l, e ≠ .goto l) → Q e a w) : ScopeAt P body rest Q a w := by
  intro b k cs
  obtain ⟨e, a₁, w₁, hq, harr⟩ := h b (.inScope body :: k) cs
  have hq' := he e a₁ w₁ hq
  cases e with
  | normal => exact ⟨_, a₁, w₁, hq' (by simp), Steps.trans harr (.one step_inScope)⟩
  | exit id => exact ⟨_, a₁, w₁, hq' (by simp), fun k' hk => harr k' (by simp [exitTo, hk])⟩
  | goto l =>
    have := hg l _ _ hq
    split at this
    · rename_i r hr
      obtain ⟨e₂, a₂, w₂, hq₂, harr₂⟩ := this b k cs
      exact ⟨e₂, a₂, w₂, hq₂, .of_steps (harr _ (by simp [gotoIn, hr])) harr₂⟩
    · rename_i hr
      exact ⟨_, a₁, w₁, this, fun k' hk => harr k' (by simp [gotoIn, hr, hk])⟩
  | ret => exact ⟨_, a₁, w₁, hq' (by simp), harr⟩
  | panic ch => exact ⟨_, a₁, w₁, hq' (by simp), harr⟩
  | outgrown => exact ⟨_, a₁, w₁, hq' (by simp), harr⟩

theorem jump_ok (hI : ∀ t, I t → TaskOk P t) {f m : Nat} {body rest : Code} {K : Ex → List A → List Blk → Prop}
    (h : ∃ e t1 σ1, jumpK I f m body K e t1 σ1 ∧ m ≤ σ1.length ∧ CodeOk P m rest t σ e t1 σ1) : ∃ e t' σ', K e t' σ' ∧ m ≤ σ'.length ∧ ScopeOk P m body rest t σ e t' σ' := by
  obtain ⟨e, t1, σ1, hj, hm, hc⟩ := h
  have plain : (∀ l, e ≠ .goto l) → K e t1 σ1 → ∃ e t' σ', K e t' σ' ∧ m ≤ σ'.length ∧ ScopeOk P m body rest t σ e t' σ' := fun hne hk =>
    ⟨e, t1, σ1, hk, hm, fun a w S inj hs Q hq => scopeAt_of (hc a w S inj hs (fun e' a' w' => e' = ex e ∧ Q e' a' w') fun a' w' S' inj' hs' hr => ⟨rfl, hq _ _ _ _ hs' hr⟩)
      (fun l a w h => by cases e with | goto l' => exact absurd rfl (hne l') | _ => cases h.1) fun e a w h _ => h.2⟩
  cases e with
  | goto l =>
    change (match findLabel body l with | some rest => I (.jump f m body rest t1 σ1 K) | none => K (.goto l) t1 σ1) at hj
    split at hj
    · rename_i r hr
      obtain ⟨e2, t2, σ2, hk, hm2, hs2⟩ := hI _ hj hm
      refine ⟨e2, t2, σ2, hk, hm2, fun a w S inj hs Q hq => scopeAt_of (hc a w S inj hs (fun e' a' w' => e' = .goto l ∧ ∃ S' inj', St m t1 σ1 a' w' S' inj' ∧ Rl m w S inj w' S' inj') fun a' w' S' inj' hs' hr => ⟨rfl, S', inj', hs', hr⟩) ?_ ?_⟩
      · rintro l' a' w' ⟨hl, S', inj', hs', hr'⟩
        injection hl with hl; subst hl
        rw [hr]
        exact hs2 a' w' S' inj' hs' Q fun a2 w2 S2 inj2 h2 hr2 => hq _ _ _ _ h2 (hr'.trans hr2)
      · rintro e' a' w' ⟨hl, _⟩ hne
        exact absurd hl (hne l)
    · rename_i hr
      refine ⟨.goto l, t1, σ1, hj, hm, fun a w S inj hs Q hq => scopeAt_of (hc a w S inj hs (fun e' a' w' => e' = .goto l ∧ Q e' a' w') fun a' w' S' inj' hs' hr => ⟨rfl, hq _ _ _ _ hs' hr⟩) ?_ ?_⟩
      · rintro l' a' w' ⟨hl, h⟩
        injection hl with hl; subst hl
        rw [hr]; exact h
      · rintro e' a' w' ⟨hl, h⟩ _
        exact h
  | normal => exact plain (by simp) hj
  | exit i => exact plain (by simp) hj
  | ret => exact plain (by simp) hj
theorem loop_ok (hI : ∀ t, I t → TaskOk P t) {f m : Nat} {c : Code} {K : Ex → List A → List Blk → Prop}
    (h : ∃ e t1 σ1, (match e with
      | .normal => headF H f m c t1 σ1 fun t σ => I (.loop f m c t σ K)
      | .exit i => K (.exit i) t1 σ1
      | .goto i => K (.goto i) t1 σ1
      | .ret => K .ret t1 σ1) ∧ m ≤ σ1.length ∧ CodeOk P m c t σ e t1 σ1) : ∃ e t' σ', K e t' σ' ∧ m ≤ σ'.length ∧ LoopOk P m c t σ e t' σ' := by
  obtain ⟨e, t1, σ1, hj, hm, hc⟩ := h
  have plain : e ≠ .normal → K e t1 σ1 → ∃ e t' σ', K e t' σ' ∧ m ≤ σ'.length ∧ LoopOk P m c t σ e t' σ' := fun hne hk =>
    ⟨e, t1, σ1, hk, hm, fun a w S inj hs Q hq => loopAt_of (hc a w S inj hs (fun e' a' w' => e' = ex e ∧ Q e' a' w') fun a' w' S' inj' hs' hr => ⟨rfl, hq _ _ _ _ hs' hr⟩)
      (fun a w h => by cases e with | normal => exact absurd rfl hne | _ => cases h.1) fun e a w h _ => h.2⟩
  cases e with
  | normal =>
    obtain ⟨t2, σ2, h2, hm2, hok⟩ := headF_ok hj
    obtain ⟨e3, t3, σ3, hk, hm3, hs3⟩ := hI _ h2 hm2
    refine ⟨e3, t3, σ3, hk, hm3, fun a w S inj hs Q hq => loopAt_of (hc a w S inj hs (fun e' a' w' => e' = .normal ∧ ∃ S' inj', St m t1 σ1 a' w' S' inj' ∧ Rl m w S inj w' S' inj') fun a' w' S' inj' hs' hr => ⟨rfl, S', inj', hs', hr⟩) ?_ ?_⟩
    · rintro a' w' ⟨_, S', inj', hs', hr'⟩
      obtain ⟨inj2, hs2, hr2⟩ := hok hs'
      exact hs3 a' w' S' inj2 hs2 Q fun a3 w3 S3 inj3 h3 hr3 => hq _ _ _ _ h3 ((hr'.trans hr2).trans hr3)
    · rintro e' a' w' ⟨hl, _⟩ hne
      exact absurd hl hne
  | exit i => exact plain (by simp) hj
  | goto i => exact plain (by simp) hj
  | ret => exact plain (by simp) hj

/-- regions that draw their order -/
def DrawnOk (P : Program) (T : List TI) (I : Task → Prop) : Prop := ∀ (id : Nat) (ops : Array Oper) (m : Nat) (t : List A) (σ : List Blk) (K : List A → List Blk → Prop), m ≤ σ.length →
  runF T I ops.toList ops.toList t σ [] (fun t σ tr => drawOk ops.toList tr = true ∧ K t σ) → ∃ t' σ', K t' σ' ∧ m ≤ σ'.length ∧ CodeOk P m (.region id ops true) t σ .normal t' σ'
theorem ev_ok (hT : TOk P T) (hI : ∀ t, I t → TaskOk P t) (hD : DrawnOk P T I) {f m : Nat} (c : Code) : ∀ {t : List A} {σ : List Blk} {K : Ex → List A → List Blk → Prop}, m ≤ σ.length → ev T H I f m c t σ K →
    ∃ e t' σ', K e t' σ' ∧ m ≤ σ'.length ∧ CodeOk P m c t σ e t' σ' := by
  have hC : CallsOk P I := fun f xs σ Q h => hI _ h
  induction c with
  | skip => intro t σ K hm h; exact ⟨_, _, _, h, hm, fun a w S inj hs Q hq => wp_skip (hq _ _ _ _ hs .refl)⟩
  | label l => intro t σ K hm h; exact ⟨_, _, _, h, hm, fun a w S inj hs Q hq => wp_label (hq _ _ _ _ hs .refl)⟩
  | exit id => intro t σ K hm h; exact ⟨_, _, _, h, hm, fun a w S inj hs Q hq => wp_exit (hq _ _ _ _ hs .refl)⟩
  | goto l => intro t σ K hm h; exact ⟨_, _, _, h, hm, fun a w S inj hs Q hq => wp_goto (hq _ _ _ _ hs .refl)⟩
  | ret => intro t σ K hm h; exact ⟨_, _, _, h, hm, fun a w S inj hs Q hq => wp_ret (hq _ _ _ _ hs .refl)⟩
  | refuse why => intro t σ K hm h; exact h.elim
  | rangeFunc g ps as body iha ihb => intro t σ K hm h; exact h.elim
  | region id ops d =>
    intro t σ K hm h
    cases d with
    | false =>
      change runF T I ops.toList ops.toList t σ [] (fun t σ tr => K .normal t σ) at h
      obtain ⟨t', σ', tr', h, hm', hok⟩ := runF_ok hT hC _ hm h
      exact ⟨_, _, _, h, hm', fun a w S inj hs Q hq => wp_region_list (by simpa using hok hs hq)⟩
    | true =>
      change runF T I ops.toList ops.toList t σ [] (fun t σ tr => drawOk ops.toList tr = true ∧ K .normal t σ) at h
      obtain ⟨t', σ', h, hm', hok⟩ := hD id ops m t σ _ hm h
      exact ⟨_, _, _, h, hm', hok⟩
  | seq x y ihx ihy =>
    intro t σ K hm h
    change ev T H I f m x t σ (fun e t σ => match e with
      | .normal => cutF (gapsOf H f (1000 + firstReg y)) m t σ (ev T H I f m y t σ K) fun t σ => I (.rest f m y t σ K)
      | .exit i => K (.exit i) t σ
      | .goto i => K (.goto i) t σ
      | .ret => K .ret t σ) at h
    obtain ⟨e, t1, σ1, h, hm1, hc⟩ := ihx hm h
    have plain : e ≠ .normal → K e t1 σ1 → ∃ e t' σ', K e t' σ' ∧ m ≤ σ'.length ∧ CodeOk P m (.seq x y) t σ e t' σ' := fun hne hk =>
      ⟨e, t1, σ1, hk, hm1, fun a w S inj hs Q hq => wp_seq (hc a w S inj hs _ fun a' w' S' inj' hs' hr => by
        have := hq _ _ _ _ hs' hr
        cases e with
        | normal => exact absurd rfl hne
        | _ => exact this)⟩
    cases e with
    | normal =>
      change cutF _ m t1 σ1 (ev T H I f m y t1 σ1 K) (fun t σ => I (.rest f m y t σ K)) at h
      unfold cutF at h
      split at h
      · obtain ⟨e2, t2, σ2, h2, hm2, hc2⟩ := ihy hm1 h
        exact ⟨e2, t2, σ2, h2, hm2, fun a w S inj hs Q hq => wp_seq (hc a w S inj hs _ fun a' w' S' inj' hs' hr => hc2 _ _ _ _ hs' Q fun a3 w3 S3 inj3 h3 hr3 => hq _ _ _ _ h3 (hr.trans hr3))⟩
      · obtain ⟨t0, σ0, h, hm0, hok⟩ := headG_ok h
        obtain ⟨e2, t2, σ2, h2, hm2, hc2⟩ := hI _ h hm0
        refine ⟨e2, t2, σ2, h2, hm2, fun a w S inj hs Q hq => wp_seq (hc a w S inj hs _ fun a' w' S' inj' hs' hr => ?_)⟩
        obtain ⟨inj0, hs0, hr0⟩ := hok hs'
        exact hc2 _ _ _ _ hs0 Q fun a3 w3 S3 inj3 h3 hr3 => hq _ _ _ _ h3 ((hr.trans hr0).trans hr3)
    | exit i => exact plain (by simp) h
    | goto i => exact plain (by simp) h
    | ret => exact plain (by simp) h
  | cond c x y ihx ihy =>
    intro t σ K hm h
    change (match opd t c with
      | .one (.p (.v (.bool b))) => bcase b (ev T H I f m x t σ K) (ev T H I f m y t σ K)
      | _ => False) at h
    split at h
    · rename_i b hb
      have hev : ∀ {a w S inj}, St m t σ a w S inj → a.eval c = .bool b := fun {a w S inj} hs => by
        have := opd_ok hs.tmps c
        rw [hb] at this
        exact this.flatv.1
      rcases (bcase_iff _ _ _).1 h with ⟨hb', h⟩ | ⟨hb', h⟩
      · obtain ⟨e, t', σ', h, hm', hc⟩ := ihx hm h
        exact ⟨e, t', σ', h, hm', fun a w S inj hs Q hq => wp_cond (t := true) (by rw [hev hs, hb']) (hc a w S inj hs Q hq)⟩
      · obtain ⟨e, t', σ', h, hm', hc⟩ := ihy hm h
        exact ⟨e, t', σ', h, hm', fun a w S inj hs Q hq => wp_cond (t := false) (by rw [hev hs, hb']) (hc a w S inj hs Q hq)⟩
    · exact h.elim
  | block id x ih =>
    intro t σ K hm h
    change ev T H I f m x t σ (fun e t σ => match e with
      | .exit i => bcase (Nat.beq i id) (K .normal t σ) (K (.exit i) t σ)
      | .normal => K .normal t σ
      | .goto i => K (.goto i) t σ
      | .ret => K .ret t σ) at h
    obtain ⟨e, t1, σ1, h, hm1, hc⟩ := ih hm h
    cases e with
    | normal => exact ⟨_, t1, σ1, h, hm1, fun a w S inj hs Q hq => wp_block (hc a w S inj hs _ fun a' w' S' inj' hs' hr => hq _ _ _ _ hs' hr)⟩
    | goto i => exact ⟨_, t1, σ1, h, hm1, fun a w S inj hs Q hq => wp_block (hc a w S inj hs _ fun a' w' S' inj' hs' hr => hq _ _ _ _ hs' hr)⟩
    | ret => exact ⟨_, t1, σ1, h, hm1, fun a w S inj hs Q hq => wp_block (hc a w S inj hs _ fun a' w' S' inj' hs' hr => hq _ _ _ _ hs' hr)⟩
    | exit i =>
      rcases (bcase_iff _ _ _).1 h with ⟨hi, h2⟩ | ⟨hi, h2⟩
      · have := Nat.eq_of_beq_eq_true hi
        subst this
        exact ⟨_, t1, σ1, h2, hm1, fun a w S inj hs Q hq => wp_block (hc a w S inj hs _ fun a' w' S' inj' hs' hr => by
          have := hq _ _ _ _ hs' hr
          simpa [ex, Exit.inBlock] using this)⟩
      · have := Nat.ne_of_beq_eq_false hi
        exact ⟨_, t1, σ1, h2, hm1, fun a w S inj hs Q hq => wp_block (hc a w S inj hs _ fun a' w' S' inj' hs' hr => by
          have h' := hq _ _ _ _ hs' hr
          simpa [ex, Exit.inBlock, this] using h')⟩
  | loop x ih =>
    intro t σ K hm h
    change headF H f m x t σ (fun t σ => I (.loop f m x t σ K)) at h
    obtain ⟨t1, σ1, h, hm1, hok⟩ := headF_ok h
    obtain ⟨e, t', σ', hk, hm', hl⟩ := hI _ h hm1
    refine ⟨e, t', σ', hk, hm', fun a w S inj hs Q hq => ?_⟩
    obtain ⟨inj1, hs1, hr1⟩ := hok hs
    exact wp_loopAt (hl a w S inj1 hs1 Q fun a' w' S' inj' hs' hr' => hq _ _ _ _ hs' (hr1.trans hr'))
  | scope x ih =>
    intro t σ K hm h
    obtain ⟨e, t', σ', hk, hm', hs'⟩ := jump_ok (rest := x) hI (ih hm h)
    exact ⟨e, t', σ', hk, hm', fun a w S inj hs Q hq => wp_scopeAt (hs' a w S inj hs Q hq)⟩

/-- the evaluator is sound -/
theorem step_ok (hT : TOk P T) (hD : DrawnOk P T (TaskOk P)) {prim : Nat → List A → A → Prop} (hprim : ∀ f xs r, prim f xs r → CallOk P f xs [] r []) {task : Task} (h : Step T H KO (TaskOk P) P prim task) : TaskOk P task := by
  cases task with
  | loop f m c t σ K =>
    intro hm
    exact loop_ok (fun _ h => h) (ev_ok hT (fun _ h => h) hD c hm h)
  | jump f m body rest t σ K =>
    intro hm
    exact jump_ok (fun _ h => h) (ev_ok hT (fun _ h => h) hD rest hm h)
  | rest f m c t σ K =>
    intro hm
    exact ev_ok hT (fun _ h => h) hD c hm h
  | call f xs σ Q =>
    rcases h with ⟨r, hp, rfl, hq⟩ | ⟨fn, c, hf, hb, hname, h⟩ | h
    · exact ⟨r, [], hq, hprim f xs r hp⟩
    rotate_left
    · obtain ⟨ys, ⟨r, σ', hq, hok⟩, hys⟩ := mapF_ok (R := fun a a' => ∀ {w S inj v}, VA w S inj a v → VA w S inj a' v) (fun a k h => nzA_ok h) h
      obtain ⟨r', hq, hr⟩ := nzA_ok hq
      refine ⟨r', σ', hq, hok.1, fun w S inj vs hv hi hfree => (hok.2 w S inj vs (F2.comp (fun h h' => h h') hys hv) hi hfree).mono ?_⟩
      rintro e w' ⟨v, S', inj', he, hd⟩
      exact ⟨v, S', inj', he, hd.grow, hd.le, hd.fresh, hr hd.val, hd.inv⟩
    · unfold bodyC at h
      rw [appF_eq, repR_eq, lenR_eq, lenR_eq] at h
      obtain ⟨e, t', σ', h, hm', hc⟩ := ev_ok hT (fun _ h => h) hD c (Nat.le_refl _) h
      have fin : (ex e = .normal ∨ ex e = .ret) → finC T KO f σ.length fn.results.toList t' σ' Q → TaskOk P (.call f xs σ Q) := fun hx h => by
        obtain ⟨r, σ'', hq, hok⟩ := finC_ok hT h
        refine ⟨r, σ'', hq, ⟨fn, c, hf, hb, hname⟩, fun w S inj vs hv hi hfree => calls_of_wp hf hb ?_⟩
        refine hc _ w S inj ⟨?_, hi, hfree, rfl, Nat.le_refl _⟩ _ fun a' w' S' inj' hs' hr => ?_
        · have : F2 (VA w S inj) (xs ++ List.replicate (fn.ntmps - xs.length) (.one .junk)) (vs ++ List.replicate (fn.ntmps - vs.length) undef) := by
            rw [hv.len]; exact hv.app (.rep (.one .junk) _)
          simpa using this
        · obtain ⟨v, S2, inj2, hres, hr2, hval, hinv, hfr⟩ := hok hs'
          have hrr := hr.trans hr2
          have hdone : Done w S inj σ.length r σ'' v w' S2 inj2 := ⟨hrr.grow, fun b => by
            rcases Nat.lt_or_ge b σ.length with hb | hb
            · exact hrr.le b hb
            · exact .inl (hfree b hb), fun b hb h => by
            rcases h with h | h
            · exact hrr.free b h hb
            · exact hfr b h, hval, hinv⟩
          rcases hx with hx | hx <;> rw [hx] <;> exact ⟨hs'.defers, v, hres, v, S2, inj2, rfl, hdone⟩
      cases e with
      | normal => exact fin (.inl rfl) h
      | ret => exact fin (.inr rfl) h
      | exit i => exact h.elim
      | goto l => exact h.elim
end Go.Proofs.Ytaiedakbmmgmaaa.E
