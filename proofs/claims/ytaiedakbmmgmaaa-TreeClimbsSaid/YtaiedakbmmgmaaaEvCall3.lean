/- Soundness of calls: the call. -/
import Derived.Test.YtaiedakbmmgmaaaEvCall2
set_option linter.unusedVariables false
set_option linter.unusedSimpArgs false
namespace Go.Proofs.Ytaiedakbmmgmaaa.E
open Go
variable {P : Program} {T : List TI} {t : List A} {σ : List Blk} {nx : Nat} {L : List Nat}

/-- what holds behind a call -/
structure Done (w : World) (S : Zone) (inj : Nat → Loc) (n : Nat) (r : A) (σ' : List Blk) (v : Value) (w' : World) (S' : Zone) (inj' : Nat → Loc) : Prop where
  grow : Grow w S w' S'
  le : Le inj inj'
  fresh : ∀ b, inj b = .free → (b < n ∨ σ'.length ≤ b) → inj' b = .free
  val : VA w' S' inj' r v
  inv : Inv w' S' inj' (look σ')
/-- what is shown of a call -/
def CallOk (P : Program) (f : Nat) (xs : List A) (σ : List Blk) (r : A) (σ' : List Blk) : Prop :=
  (∃ fn c, P.funcs[f]? = some fn ∧ fn.body = some c ∧ (fn.name == "runtime.NumGoroutine") = false) ∧ ∀ (w : World) (S : Zone) (inj : Nat → Loc) (vs : List Value), F2 (VA w S inj) xs vs → Inv w S inj (look σ) → (∀ b, σ.length ≤ b → inj b = .free) →
    Calls P f vs.toArray w fun e w' => ∃ v S' inj', e = .returned v ∧ Done w S inj σ.length r σ' v w' S' inj'

/-- the callee's places -/
noncomputable def injCe (inj : Nat → Loc) (bs L : List Nat) (i : Nat) : Loc := match L[i]? with
  | some b => kill inj bs b
  | none => .free
/-- the caller's places behind the call -/
noncomputable def injCr (inj inj' : Nat → Loc) (bs M : List Nat) (b : Nat) : Loc := match fwd M b with
  | some i => inj' i
  | none => kill inj bs b
/-- what the callee may not touch -/
def zoneCe (S : Zone) (inj : Nat → Loc) (f : Nat → Blk) (bs L : List Nat) : Zone :=
  ⟨(SB S inj bs).s, fun g => S.fr g ∨ ∃ b, f b ≠ .dead ∧ b ∉ L ∧ b ∉ bs ∧ (inj b).blk = some g⟩
theorem BR.zone {w S S' inj loc B} (h : BR w S inj loc B) (hs : ∀ g, S g → S' g) (hn : B ≠ .dead → ∀ g, loc.blk = some g → ¬ S'.all g) : BR w S' inj loc B := by
  cases B with
  | dead => trivial
  | box cs =>
    obtain ⟨g', vs, e, rfl, _, hh, hf⟩ := h
    exact ⟨g', vs, e, rfl, hn (by simp) _ rfl, hh, hf.mono' fun _ _ hv => hv.sub hs⟩
  | rows k l =>
    obtain ⟨v, g', rfl, hr⟩ := h
    refine ⟨v, g', rfl, ?_⟩
    rcases hr with hr | ⟨g'', cap, cur, e, hk, rfl, hv, _, hh, h1, h2, h3, h4, h5⟩
    · exact .inl hr
    · exact .inr ⟨g'', cap, cur, e, hk, rfl, hv, hn (by simp) _ rfl, hh, h1, h2, h3, h4, h5.mono' fun _ _ hp => hp.sub hs⟩
  | mp es =>
    obtain ⟨g', en, cl, rfl, _, hh, hf⟩ := h
    exact ⟨g', en, cl, rfl, hn (by simp) _ rfl, hh, hf.mono' fun _ _ ⟨hk, hv⟩ => ⟨hk, hv.sub hs⟩⟩
theorem RenB.zone {ρ B B'} (h : RenB ρ B B') : RenB ρ B B' := h

/-- what the callee is handed -/
theorem hand_inv {w S inj} {f : Nat → Blk} {bs : List Nat} {σc : List Blk} (hi : Inv w S inj f) (hd : ∀ b, b ∈ bs → f b ≠ .dead) (hL : L.Nodup)
    (hσ : F2 (fun b B' => (b ∈ bs → B' = .dead) ∧ (b ∉ bs → (f b = .dead → B' = .dead) ∧ RenB (fwd L) (f b) B')) L σc) :
    Inv w (zoneCe S inj f bs L) (injCe inj bs L) (look σc) := by
  have hk := hi.kill hd
  have hz : ∀ g, (SB S inj bs) g → (zoneCe S inj f bs L) g := fun g h => h
  have hget : ∀ i, look σc i ≠ .dead → ∃ b, L[i]? = some b ∧ b ∉ bs ∧ f b ≠ .dead ∧ RenB (fwd L) (f b) (look σc i) ∧ injCe inj bs L i = inj b := fun i h => by
    rw [look_eq] at h ⊢
    cases hs : σc[i]? with
    | none => rw [List.getD_eq_getElem?_getD, hs] at h; exact absurd rfl h
    | some B =>
      obtain ⟨b, hb, h1, h2⟩ := hσ.getR hs
      have hB : σc.getD i .dead = B := by rw [List.getD_eq_getElem?_getD, hs]; rfl
      rw [hB] at h ⊢
      have hbs : b ∉ bs := fun hm => h (h1 hm)
      refine ⟨b, hb, hbs, fun hf => h ((h2 hbs).1 hf), (h2 hbs).2, ?_⟩
      unfold injCe; rw [hb]; exact kill_ne hbs
  have hR : Ren (fwd L) inj (injCe inj bs L) := fun b i hbi => by
    have := fwd_some hbi
    unfold injCe; rw [this]
    simp only
    by_cases hm : b ∈ bs
    · left; unfold kill; rw [if_pos hm]
    · right; exact kill_ne hm
  refine ⟨fun i => ?_, fun i i' g h1 h2 h3 h4 => ?_, fun g hg => ?_, fun g hf hs => ?_⟩
  · by_cases h : look σc i = .dead
    · rw [h]; trivial
    · obtain ⟨b, hb, hbs, hfb, hren, hin⟩ := hget i h
      rw [hin]
      refine hren hR ((hi.live b).zone (fun g h => hz g (.inl h)) fun _ g hg hs => ?_)
      rcases hs with hs | hs | ⟨b', h1, h2, h3, h4⟩
      · have := ((hk.live b).blk (by rw [killB_ne hbs]; exact hfb) (by rw [kill_ne hbs]; exact hg)).1
        exact this (.inl hs)
      · exact ((hi.live b).blk hfb hg).1 (.inr hs)
      · have := hi.sep b b' g hfb h1 hg h4
        subst this
        exact h2 (List.mem_of_getElem? hb)
  · obtain ⟨b, hb, hbs, hfb, _, hin⟩ := hget i h1
    obtain ⟨b', hb', hbs', hfb', _, hin'⟩ := hget i' h2
    rw [hin] at h3; rw [hin'] at h4
    have := hi.sep b b' g hfb hfb' h3 h4
    subst this
    exact (List.getElem?_inj (List.getElem?_eq_some_iff.1 hb).1 hL).1 (hb.trans hb'.symm)
  · rcases hg with hg | hg | ⟨b', h1, h2, h3, h4⟩
    · exact hk.lt g (.inl hg)
    · exact hi.lt g (.inr hg)
    · exact ((hi.live b').blk h1 h4).2
  · rcases hf with hf | ⟨b', h1, h2, h3, h4⟩
    · exact hk.dj g hf hs
    · exact ((hk.live b').blk (by rw [killB_ne h3]; exact h1) (by rw [kill_ne h3]; exact h4)).1 (.inl hs)
end Go.Proofs.Ytaiedakbmmgmaaa.E
