/- Soundness of code: what is kept; a function's end. -/
import Derived.Test.YtaiedakbmmgmaaaEvOper
set_option linter.unusedVariables false
set_option linter.unusedSimpArgs false
namespace Go.Proofs.Ytaiedakbmmgmaaa.E
open Go
variable {P : Program} {T : List TI} {H : List (Nat × Nat × List Nat)} {KO : List Nat} {t : List A} {σ : List Blk} {nx : Nat} {I : Task → Prop}

theorem Inv.weak {w S S' inj f} (hi : Inv w S inj f) (hs : ∀ g, S g → S' g) (ha : ∀ g, S'.all g → S.all g) (hd : ∀ g, S'.fr g → ¬ S' g) : Inv w S' inj f :=
  ⟨fun b => (hi.live b).zone hs fun hB g hg h => ((hi.live b).blk hB hg).1 (ha g h), hi.sep, fun g h => hi.lt g (ha g h), hd⟩
/-- only the blocks of K are kept, those of bs laid open -/
theorem keep_inv {w S inj} {f : Nat → Blk} {bs K : List Nat} {σ' : List Blk} (hi : Inv w S inj f) (hd : ∀ b, b ∈ bs → f b ≠ .dead) (hK : K.Nodup)
    (hσ : F2 (fun b B' => (b ∈ bs → B' = .dead) ∧ (b ∉ bs → (f b = .dead → B' = .dead) ∧ RenB (fwd K) (f b) B')) K σ') : Inv w (SB S inj bs) (injCe inj bs K) (look σ') :=
  (hand_inv hi hd hK hσ).weak (fun g h => h) (fun g h => h.imp id .inl) fun g hf hs => (hi.kill hd).dj g hf hs
theorem ce_ren {inj bs K} : Ren (fwd K) inj (injCe inj bs K) := fun b i hbi => by
  have := fwd_some hbi
  unfold injCe; rw [this]
  simp only
  by_cases hm : b ∈ bs
  · left; unfold kill; rw [if_pos hm]
  · right; exact kill_ne hm
theorem SB_nil {w S inj inj' f} (hi : Inv w (SB S inj []) inj' f) : Inv w S inj' f :=
  hi.weak (fun g h => by rcases h with h | ⟨b, hb, _⟩; exact h; simp at hb) (fun g h => h.imp .inl id) fun g hf hs => hi.dj g hf (.inl hs)
theorem ce_first {inj bs : _} {m b : Nat} {r : List Nat} (hb : b < m) : injCe inj bs (upTo m ++ r) b = kill inj bs b := by
  unfold injCe
  rw [upTo_eq, List.getElem?_append_left (by simpa using hb)]
  simp [hb]
theorem upTo_nodup (m : Nat) : (upTo m).Nodup := by rw [upTo_eq]; exact List.nodup_range

/-! ### A loop's head -/
theorem keptR_ok (gs : List Nat) : ∀ {w S inj vs}, F2 (VA w S inj) t vs → F2 (VA w S inj) (keptR t gs) vs := by
  induction t generalizing gs with
  | nil => intro w S inj vs h; exact h
  | cons a t ih =>
    intro w S inj vs h
    cases h with
    | cons h hs =>
      cases gs with
      | nil => exact .cons (.one .junk) (ih [] hs)
      | cons g gs =>
        cases g with
        | zero => exact .cons h (ih gs hs)
        | succ n => exact .cons (.one .junk) (ih (n :: gs) hs)
theorem renAs_ok {ρ : Nat → Option Nat} {l : List A} {k : List A → Prop} (h : mapF (renA ρ) l k) : ∃ l', k l' ∧ ∀ {w S inj inj' vs}, Ren ρ inj inj' → F2 (VA w S inj) l vs → F2 (VA w S inj') l' vs := by
  obtain ⟨l', h, hr⟩ := mapF_ex (fun a _ k h => renA_ok h) h
  exact ⟨l', h, fun {w S inj inj' vs} hR hv => hr.ren (R1 := VA w S inj) (R2 := VA w S inj') (fun a b c h1 h2 => h1 hR h2) hv⟩
theorem rootsF_ok {m : Nat} {ts : List A} {k : List Nat → Prop} (h : rootsF m σ ts k) : ∃ r, k (upTo m ++ r) ∧ (upTo m ++ r).Nodup := travF_ok (upTo_nodup m) h
theorem keepF_ok {K : List Nat} {k : List Blk → Prop} (h : keepF K σ k) : ∃ σ', k σ' ∧ F2 (fun b B' => (b ∈ ([] : List Nat) → B' = .dead) ∧ (b ∉ ([] : List Nat) → (look σ b = .dead → B' = .dead) ∧ RenB (fwd K) (look σ b) B')) K σ' := by
  unfold keepF at h
  exact mapF_ex (fun b _ k h => by
    obtain ⟨B', h, h1, h2⟩ := renB_ok h
    exact ⟨B', h, fun hb => by simp at hb, fun _ => ⟨h1, h2⟩⟩) h
theorem handBs_ok {K bs : List Nat} {L : List Nat} {k : List Blk → Prop} (h : mapF (handB K bs σ) L k) : ∃ σ', k σ' ∧ F2 (fun b B' => (b ∈ bs → B' = .dead) ∧ (b ∉ bs → (look σ b = .dead → B' = .dead) ∧ RenB (fwd K) (look σ b) B')) L σ' :=
  mapF_ex (fun b hb k h => by
    unfold handB at h
    cases hm : memN b bs with
    | true => rw [hm] at h; exact ⟨_, h, fun _ => rfl, fun hn => absurd ((memN_iff b bs).1 hm) hn⟩
    | false =>
      rw [hm] at h
      have hn : b ∉ bs := fun hb => by rw [(memN_iff b bs).2 hb] at hm; cases hm
      obtain ⟨B', h, h1, h2⟩ := renB_ok h
      exact ⟨_, h, fun hb => absurd hb hn, fun _ => ⟨h1, h2⟩⟩) h
theorem kill_nil {inj : Nat → Loc} : kill inj [] = inj := by funext b; exact kill_ne (by simp)
theorem free_live {w S inj f} (hi : Inv w S inj f) {b : Nat} (hb : inj b = .free) : f b = .dead := by
  have h1 := hi.live b
  rw [hb] at h1
  cases hB : f b with
  | dead => rfl
  | box cs => rw [hB] at h1; obtain ⟨_, _, _, h, _⟩ := h1; cases h
  | rows k l => rw [hB] at h1; obtain ⟨_, _, h, _⟩ := h1; cases h
  | mp es => rw [hB] at h1; obtain ⟨_, _, _, h, _⟩ := h1; cases h
/-- the state that is kept -/
theorem keep_rl {m : Nat} {w S inj bs} {r : List Nat} (hi : Inv w S inj (look σ)) (hd : ∀ b, b ∈ bs → look σ b ≠ .dead) : Rl m w S inj w (SB S inj bs) (injCe inj bs (upTo m ++ r)) :=
  ⟨SB_grow, fun b hb => by
    rw [ce_first hb]
    by_cases hm : b ∈ bs
    · right; right; unfold kill; rw [if_pos hm]
    · right; left; exact kill_ne hm, fun b hb hf => by
    rw [ce_first hb, kill_ne]
    · exact hf
    · intro hm
      exact hd b hm (free_live hi hf)⟩
theorem headG_ok {gs : List Nat} {m : Nat} {k : List A → List Blk → Prop} (h : headG gs m t σ k) : ∃ t' σ', k t' σ' ∧ m ≤ σ'.length ∧ ∀ {a w S inj}, St m t σ a w S inj → ∃ inj', St m t' σ' a w S inj' ∧ Rl m w S inj w S inj' := by
  unfold headG at h
  rw [mapF_aF] at h
  obtain ⟨r, h, hK⟩ := rootsF_ok h
  obtain ⟨ts', h, hts⟩ := renAs_ok h
  obtain ⟨σ', h, hσ⟩ := keepF_ok h
  have hml : m ≤ σ'.length := by rw [← hσ.len, List.length_append, upTo_eq, List.length_range]; omega
  refine ⟨ts', σ', h, hml, fun {a w S inj} hs => ⟨injCe inj [] (upTo m ++ r), ⟨hts ce_ren (keptR_ok _ hs.tmps), SB_nil (keep_inv hs.inv (by simp) hK hσ), fun b hb => ?_, hs.defers, hml⟩, ?_⟩⟩
  · unfold injCe; rw [List.getElem?_eq_none (by rw [hσ.len]; exact hb)]
  · have := keep_rl (m := m) (r := r) (bs := []) hs.inv (by simp)
    exact ⟨.refl _ _, this.le, this.free⟩
theorem headF_ok {f m : Nat} {c : Code} {k : List A → List Blk → Prop} (h : headF H f m c t σ k) : ∃ t' σ', k t' σ' ∧ m ≤ σ'.length ∧ ∀ {a w S inj}, St m t σ a w S inj → ∃ inj', St m t' σ' a w S inj' ∧ Rl m w S inj w S inj' := headG_ok h

/-! ### A function's end -/
theorem boxLoad_ok (hT : TOk P T) {s b p : Nat} {K : Kont} (h : loadC T σ s (.one (.ptr b p)) K) : ∃ v rd, K v [] [] rd ∧ ∀ {w S inj f u}, Inv w S inj f → f b = look σ b → VR w S inj (.ptr b p) u → ∃ g v', u = .pointer (some ⟨g, p, none⟩) ∧ (loadVar s ⟨g, p, none⟩).run P w = .ok v' w ∧ VA w S inj v v' := by
  unfold loadC at h
  simp only at h
  split at h
  · rename_i cs hb
    have hle := (bcF h).1
    replace h := (bcF h).2
    have hle := Nat.le_of_ble_eq_true hle
    rw [lenR_eq] at hle
    have hlen : (takeR (dropR cs p) (ty T s).sz).length = (ty T s).sz := by simp; omega
    obtain ⟨v, hk, hok⟩ := cellsOf_ok (cellsOf_sz hT h hlen) h
    refine ⟨v, _, hk, fun {w S inj f u} hi hf hv => ?_⟩
    obtain ⟨g, vs, e, hg, hs, hh, hvs⟩ := hi.box (hf.trans hb)
    have he := hv.ptrv hg
    obtain ⟨v', hr, hv'⟩ := hok (g := g) (p := p) (vs := (vs.drop p).take (ty T s).sz) (by rw [takeR_eq, dropR_eq]; exact (hvs.drop _).take _) hlen (fun j u hj => by
      rw [List.getElem?_take] at hj
      split at hj
      · rw [List.getElem?_drop] at hj
        simpa [World.cell?, hh] using hj
      · cases hj)
    exact ⟨g, v', he, hr, hv'⟩
  · exact h.elim
theorem resC_ok (hT : TOk P T) (rs : List ResultVar) : ∀ {k : List A → Prop}, resC T t σ rs k → ∃ l, k l ∧ ∀ {m a w S inj}, St m t σ a w S inj → ∃ vs, (rs.mapM (m := Sem) fun
    | .tmp t => pure (a.tmps.getD t undef)
    | .cell ad s => do loadVar s (← asAddr (a.tmps.getD ad undef))).run P w = .ok vs w ∧ F2 (VA w S inj) l vs := by
  induction rs with
  | nil => intro k h; exact ⟨[], h, fun hs => ⟨[], rfl, .nil⟩⟩
  | cons r rs ih =>
    intro k h
    cases r with
    | tmp x =>
      change resC T t σ rs (fun l => k (nth (.one .junk) t x :: l)) at h
      obtain ⟨l, h, hl⟩ := ih h
      refine ⟨_, h, fun {m a w S inj} hs => ?_⟩
      obtain ⟨vs, hr, hv⟩ := hl hs
      exact ⟨a.tmps.getD x undef :: vs, by rw [List.mapM_cons]; simp only [Sem.run_bind, Sem.run_pure, Result.andThen_ok]; rw [hr]; rfl, .cons (opd_ok hs.tmps (.tmp x)) hv⟩
    | cell x s =>
      change (match nth (.one .junk) t x with
        | .one (.ptr b p) => loadC T σ s (.one (.ptr b p)) fun v _ _ _ => resC T t σ rs fun l => k (v :: l)
        | _ => False) at h
      split at h
      · rename_i b p hx
        obtain ⟨v, rd, h, hld⟩ := boxLoad_ok hT h
        obtain ⟨l, h, hl⟩ := ih h
        refine ⟨_, h, fun {m a w S inj} hs => ?_⟩
        obtain ⟨vs, hr, hv⟩ := hl hs
        have hop := opd_ok hs.tmps (.tmp x)
        change VA w S inj (nth (.one .junk) t x) (a.tmps.getD x undef) at hop
        rw [hx] at hop
        obtain ⟨g, v', hu, hr', hv'⟩ := hld hs.inv rfl (hop.cellv (by simp))
        have ha : (asAddr (a.tmps.getD x undef)).run P w = .ok ⟨g, p, none⟩ w := by rw [hu]; rfl
        exact ⟨v' :: vs, by rw [List.mapM_cons]; simp only [Sem.run_bind, Sem.run_pure, Result.andThen_ok, ha, hr']; rw [hr]; rfl, .cons hv' hv⟩
      · exact h.elim
end Go.Proofs.Ytaiedakbmmgmaaa.E
