/- Soundness of code: a function's end; code; the theorem. -/
import Derived.Test.YtaiedakbmmgmaaaEvCode
set_option linter.unusedVariables false
set_option linter.unusedSimpArgs false
namespace Go.Proofs.Ytaiedakbmmgmaaa.E
open Go
variable {P : Program} {T : List TI} {H : List (Nat × Nat × List Nat)} {KO : List Nat} {t : List A} {σ : List Blk} {nx : Nat} {I : Task → Prop}

theorem frzC_ok {c : C} {K : C → List Nat → Prop} (h : frzC σ c K) : ∃ c' bs, K c' bs ∧ (∀ b, b ∈ bs → look σ b ≠ .dead) ∧
    ∀ {w S inj f v}, Inv w S inj f → (∀ b, b ∈ bs → f b = look σ b) → VR w S inj c v → VR w (SB S inj bs) inj c' v := by
  unfold frzC at h
  split at h
  · obtain ⟨p, bs, h, hnd, hok⟩ := toP_ok h
    exact ⟨_, _, h, hnd, fun hi hf hv => .p (hok hi hf hv)⟩
  · exact ⟨_, _, h, by simp, fun _ _ hv => hv.sub fun _ h => .inl h⟩
theorem frzCs_ok (cs : List C) : ∀ {K : List C → List Nat → Prop}, frzCs σ cs K → ∃ cs' bs, K cs' bs ∧ (∀ b, b ∈ bs → look σ b ≠ .dead) ∧
    ∀ {w S inj f vs}, Inv w S inj f → (∀ b, b ∈ bs → f b = look σ b) → F2 (VR w S inj) cs vs → F2 (VR w (SB S inj bs) inj) cs' vs := by
  induction cs with
  | nil => intro K h; exact ⟨[], [], h, by simp, fun _ _ hv => by cases hv; exact .nil⟩
  | cons c cs ih =>
    intro K h
    change frzC σ c (fun c bs => frzCs σ cs fun cs bs' => K (c :: cs) (appR bs bs')) at h
    obtain ⟨c', bs, h, hnd, hok⟩ := frzC_ok h
    obtain ⟨cs', bs', h, hnd', hok'⟩ := ih h
    rw [appR_eq] at h
    refine ⟨_, _, h, fun b hb => (List.mem_append.1 hb).elim (hnd b) (hnd' b), fun {w S inj f vs} hi hf hv => ?_⟩
    cases hv with
    | cons hv hvs =>
      exact .cons ((hok hi (fun b hb => hf b (by simp [hb])) hv).sub fun _ => SB_app) ((hok' hi (fun b hb => hf b (by simp [hb])) hvs).mono' fun _ _ h => h.sub fun _ => SB_app')
theorem frzA_ok {a : A} {K : A → List Nat → Prop} (h : frzA σ a K) : ∃ a' bs, K a' bs ∧ (∀ b, b ∈ bs → look σ b ≠ .dead) ∧
    ∀ {w S inj f v}, Inv w S inj f → (∀ b, b ∈ bs → f b = look σ b) → VA w S inj a v → VA w (SB S inj bs) inj a' v := by
  unfold frzA at h
  cases a with
  | one c =>
    by_cases hc : c = .junk
    · subst hc
      exact ⟨_, _, h, by simp, fun _ _ _ => .one .junk⟩
    · obtain ⟨c', bs, h, hnd, hok⟩ := frzC_ok h
      exact ⟨_, _, h, hnd, fun hi hf hv => .ofc (hok hi hf (hv.cellv hc))⟩
  | agg cs =>
    obtain ⟨cs', bs, h, hnd, hok⟩ := frzCs_ok cs h
    refine ⟨_, _, h, hnd, fun hi hf hv => ?_⟩
    cases hv with
    | one hv => cases hv with | agg hv => exact .one (.agg (hok hi hf hv))
  | tup l => exact h.elim
theorem frzAs_ok (xs : List A) : ∀ {K : List A → List Nat → Prop}, frzAs σ xs K → ∃ ys bs, K ys bs ∧ (∀ b, b ∈ bs → look σ b ≠ .dead) ∧
    ∀ {w S inj f vs}, Inv w S inj f → (∀ b, b ∈ bs → f b = look σ b) → F2 (VA w S inj) xs vs → F2 (VA w (SB S inj bs) inj) ys vs := by
  induction xs with
  | nil => intro K h; exact ⟨[], [], h, by simp, fun _ _ hv => by cases hv; exact .nil⟩
  | cons c cs ih =>
    intro K h
    change frzA σ c (fun c bs => frzAs σ cs fun cs bs' => K (c :: cs) (appR bs bs')) at h
    obtain ⟨c', bs, h, hnd, hok⟩ := frzA_ok h
    obtain ⟨cs', bs', h, hnd', hok'⟩ := ih h
    rw [appR_eq] at h
    refine ⟨_, _, h, fun b hb => (List.mem_append.1 hb).elim (hnd b) (hnd' b), fun {w S inj f vs} hi hf hv => ?_⟩
    cases hv with
    | cons hv hvs =>
      exact .cons ((hok hi (fun b hb => hf b (by simp [hb])) hv).sub fun _ => SB_app) ((hok' hi (fun b hb => hf b (by simp [hb])) hvs).mono' fun _ _ h => h.sub fun _ => SB_app')
theorem oneR_ok {l : List A} {K : A → Prop} (h : oneR l K) : ∃ r, K r ∧ ∀ {w S inj} {vs : Array Value}, F2 (VA w S inj) l vs.toList → VA w S inj r (if h : vs.size = 1 then vs[0] else .tuple vs) := by
  have tup : bcase (allR plainA l) (K (.tup l)) False → l.length ≠ 1 → ∃ r, K r ∧ ∀ {w S inj} {vs : Array Value}, F2 (VA w S inj) l vs.toList → VA w S inj r (if h : vs.size = 1 then vs[0] else .tuple vs) := fun h hl => by
    have hp := (bcF h).1
    replace h := (bcF h).2
    simp only [allR_eq, List.all_eq_true] at hp
    refine ⟨_, h, fun {w S inj vs} hv => ?_⟩
    have := hv.len
    rw [dif_neg (by simp at this; omega)]
    have : VA w S inj (.tup l) (.tuple vs.toList.toArray) := .tup (hv.mono fun a v ha hva => by
      cases hva with
      | one hva => exact hva
      | tup _ => have := hp _ ha; cases this)
    simpa using this
  unfold oneR at h
  split at h
  · refine ⟨_, h, fun {w S inj vs} hv => ?_⟩
    rename_i a
    cases hvl : vs.toList with
    | nil => rw [hvl] at hv; cases hv
    | cons v rest =>
      rw [hvl] at hv
      cases hv with
      | cons hv hr =>
        cases hr
        have : vs = #[v] := by rw [← Array.toList_inj, hvl]
        subst this
        simpa using hv
  · rename_i hne
    exact tup h (fun hl => by
      match l, hl with
      | [a], _ => exact hne a rfl)

/-- a function's end is sound -/
theorem finC_ok (hT : TOk P T) {f m : Nat} {fn : Func} {Q : A → List Blk → Prop} (h : finC T KO f m fn.results.toList t σ Q) : ∃ r σ', Q r σ' ∧
    ∀ {a w S inj}, St m t σ a w S inj → ∃ v S' inj', (results fn a.tmps).run P w = .ok v w ∧ Rl m w S inj w S' inj' ∧ VA w S' inj' r v ∧ Inv w S' inj' (look σ') ∧ (∀ b, σ'.length ≤ b → inj' b = .free) := by
  unfold finC at h
  obtain ⟨l, h, hl⟩ := resC_ok hT _ h
  have hres : ∀ {a : Act} {w : World} {vs : List Value}, (fn.results.toList.mapM (m := Sem) fun
      | .tmp t => pure (a.tmps.getD t undef)
      | .cell ad s => do loadVar s (← asAddr (a.tmps.getD ad undef))).run P w = .ok vs w → (results fn a.tmps).run P w = .ok (if h : vs.toArray.size = 1 then vs.toArray[0] else .tuple vs.toArray) w := fun {a w vs} hr => by
    unfold results
    rw [Array.mapM_eq_mapM_toList]
    simp only [Sem.run_bind, map_eq_pure_bind, Sem.run_pure]
    erw [hr]
    rfl
  cases hk : memN f KO with
  | false =>
    rw [hk] at h
    obtain ⟨l', bs, h, hnd, hfz⟩ := frzAs_ok l h
    rw [mapF_aF] at h
    obtain ⟨r, h, hK⟩ := rootsF_ok h
    obtain ⟨l'', h, hts⟩ := renAs_ok h
    obtain ⟨σ', h, hσ⟩ := handBs_ok h
    obtain ⟨res, h, ho⟩ := oneR_ok h
    refine ⟨res, σ', h, fun {a w S inj} hs => ?_⟩
    obtain ⟨vs, hr, hv⟩ := hl hs
    refine ⟨_, SB S inj bs, injCe inj bs (upTo m ++ r), hres hr, keep_rl hs.inv hnd, ho ?_, keep_inv hs.inv hnd hK hσ, fun b hb => ?_⟩
    · exact hts ce_ren (hfz hs.inv (fun _ _ => rfl) hv)
    · unfold injCe; rw [List.getElem?_eq_none (by rw [hσ.len]; exact hb)]
  | true =>
    rw [hk] at h
    rw [mapF_aF] at h
    obtain ⟨r, h, hK⟩ := rootsF_ok h
    obtain ⟨l'', h, hts⟩ := renAs_ok h
    obtain ⟨σ', h, hσ⟩ := keepF_ok h
    obtain ⟨res, h, ho⟩ := oneR_ok h
    refine ⟨res, σ', h, fun {a w S inj} hs => ?_⟩
    obtain ⟨vs, hr, hv⟩ := hl hs
    refine ⟨_, SB S inj [], injCe inj [] (upTo m ++ r), hres hr, keep_rl hs.inv (by simp), ho ?_, keep_inv hs.inv (by simp) hK hσ, fun b hb => ?_⟩
    · exact hts ce_ren (hv.mono' fun _ _ h => h.sub fun g h => .inl h)
    · unfold injCe; rw [List.getElem?_eq_none (by rw [hσ.len]; exact hb)]
end Go.Proofs.Ytaiedakbmmgmaaa.E
