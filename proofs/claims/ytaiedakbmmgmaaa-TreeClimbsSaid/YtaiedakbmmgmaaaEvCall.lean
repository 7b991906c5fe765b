/- Soundness of calls: renaming of blocks. -/
import Derived.Test.YtaiedakbmmgmaaaEvOps14
import Derived.Calls
set_option linter.unusedVariables false
set_option linter.unusedSimpArgs false
namespace Go.Proofs.Ytaiedakbmmgmaaa.E
open Go
variable {P : Program} {T : List TI} {t : List A} {σ : List Blk} {nx : Nat}

theorem mapF_ex {α β : Type} {f : α → (β → Prop) → Prop} {R : α → β → Prop} : ∀ {l : List α} {k : List β → Prop}, (∀ a, a ∈ l → ∀ k, f a k → ∃ b, k b ∧ R a b) → mapF f l k → ∃ l', k l' ∧ F2 R l l'
  | [], k, hf, h => ⟨[], h, .nil⟩
  | a :: l, k, hf, h => by
    obtain ⟨b, h1, hr⟩ := hf a (by simp) _ h
    obtain ⟨l', h2, hr'⟩ := mapF_ex (fun a ha => hf a (by simp [ha])) h1
    exact ⟨_, h2, .cons hr hr'⟩
theorem VR.sub {w S S' inj c v} (h : VR w S inj c v) (hs : ∀ g, S g → S' g) : VR w S' inj c v := by
  cases h with
  | p h => exact .p (h.sub hs)
  | own h => exact .own h
  | ptr h => exact .ptr h
  | ep h => exact .ep h
  | rp vals h1 h2 h3 => exact .rp vals (hs _ h1) h2 fun j c hj => (h3 j c hj).sub hs
  | fn h => exact .fn h
  | pf h => exact .pf (h.mono' fun _ _ ⟨g, vals, e, h1, h2, h3⟩ => ⟨g, vals, e, hs _ h1, h2, fun j c hj => (h3 j c hj).sub hs⟩)
  | mp h => exact .mp h
  | junk h => exact .junk h
theorem VA1.sub {w S S' inj c v} (h : VA1 w S inj c v) (hs : ∀ g, S g → S' g) : VA1 w S' inj c v := by
  cases h with
  | one h => exact .one (h.sub hs)
  | agg h => exact .agg (h.mono' fun _ _ h => h.sub hs)
  | junk => exact .junk
theorem VA.sub {w S S' inj c v} (h : VA w S inj c v) (hs : ∀ g, S g → S' g) : VA w S' inj c v := by
  cases h with
  | one h => exact .one (h.sub hs)
  | tup h => exact .tup (h.mono' fun _ _ h => h.sub hs)

theorem F2.ren {α β γ : Type} {R : α → β → Prop} {R1 : α → γ → Prop} {R2 : β → γ → Prop} {l : List α} {m : List β} (h : F2 R l m) (hr : ∀ a b c, R a b → R1 a c → R2 b c) : ∀ {n : List γ}, F2 R1 l n → F2 R2 m n := by
  induction h with
  | nil => intro n hn; cases hn; exact .nil
  | cons hab _ ih =>
    intro n hn
    cases hn with
    | cons h1 h2 => exact .cons (hr _ _ _ hab h1) (ih h2)
/-! ### Renaming -/
/-- the places of the one numbering, in the other -/
def Ren (ρ : Nat → Option Nat) (inj inj' : Nat → Loc) : Prop := ∀ b i, ρ b = some i → inj' i = .dead ∨ inj' i = inj b
def RenC (ρ : Nat → Option Nat) (c c' : C) : Prop := ∀ {w S inj inj' v}, Ren ρ inj inj' → VR w S inj c v → VR w S inj' c' v
def RenA1 (ρ : Nat → Option Nat) (c c' : A) : Prop := ∀ {w S inj inj' v}, Ren ρ inj inj' → VA1 w S inj c v → VA1 w S inj' c' v
def RenA (ρ : Nat → Option Nat) (c c' : A) : Prop := ∀ {w S inj inj' v}, Ren ρ inj inj' → VA w S inj c v → VA w S inj' c' v
theorem renL_ok {ρ : Nat → Option Nat} (l : List Nat) : ∀ {k : Option (List Nat) → Prop},
    (@List.rec Nat (fun _ => (Option (List Nat) → Prop) → Prop) (fun k => k (some [])) (fun b _ ih k => match ρ b with
      | some b => natF b fun b => ih fun o => match o with | some l => k (some (b :: l)) | none => k none
      | none => k none) l) k → ∃ o, k o ∧ ∀ l', o = some l' → F2 (fun b i => ρ b = some i) l l' := by
  induction l with
  | nil => intro k h; exact ⟨_, h, fun l' e => by cases e; exact .nil⟩
  | cons b l ih =>
    intro k h
    cases hb : ρ b with
    | none =>
      simp only [hb] at h
      exact ⟨none, h, fun l' e => by cases e⟩
    | some i =>
      simp only [hb] at h
      rw [natF_eq] at h
      obtain ⟨o, h, ho⟩ := ih h
      cases o with
      | none => exact ⟨none, h, fun l' e => by cases e⟩
      | some l' => exact ⟨_, h, fun l'' e => by cases e; exact .cons hb (ho l' rfl)⟩
theorem renC_ok {ρ : Nat → Option Nat} {c : C} {k : C → Prop} (h : renC ρ c k) : ∃ c', k c' ∧ RenC ρ c c' := by
  unfold renC at h
  cases c with
  | p c => exact ⟨_, h, fun _ hv => by cases hv with | p h => exact .p h⟩
  | rp cs => exact ⟨_, h, fun _ hv => by cases hv with | rp vals h1 h2 h3 => exact .rp vals h1 h2 h3⟩
  | pf f l => exact ⟨_, h, fun _ hv => by cases hv with | pf h1 => exact .pf h1⟩
  | junk => exact ⟨_, h, fun _ hv => .junk hv.oneCell⟩
  | own b =>
    cases hb : ρ b with
    | none => simp only [hb] at h; exact ⟨_, h, fun _ hv => .junk hv.oneCell⟩
    | some i =>
      simp only [hb, natF_eq] at h
      refine ⟨_, h, fun hr hv => ?_⟩
      cases hv with
      | own hv =>
        refine .own ?_
        rcases hr b i hb with e | e
        · exact .inl e
        · rw [e]; exact hv
  | ptr b o =>
    cases hb : ρ b with
    | none => simp only [hb] at h; exact ⟨_, h, fun _ hv => .junk hv.oneCell⟩
    | some i =>
      simp only [hb, natF_eq] at h
      refine ⟨_, h, fun hr hv => ?_⟩
      cases hv with
      | ptr hv =>
        refine .ptr ?_
        rcases hr b i hb with e | e
        · exact .inl e
        · rw [e]; exact hv
  | ep b k j o =>
    cases hb : ρ b with
    | none => simp only [hb] at h; exact ⟨_, h, fun _ hv => .junk hv.oneCell⟩
    | some i =>
      simp only [hb, natF_eq] at h
      refine ⟨_, h, fun hr hv => ?_⟩
      cases hv with
      | ep hv =>
        refine .ep ?_
        rcases hr b i hb with e | e
        · exact .inl e
        · rw [e]; exact hv
  | mp b =>
    cases hb : ρ b with
    | none => simp only [hb] at h; exact ⟨_, h, fun _ hv => .junk hv.oneCell⟩
    | some i =>
      simp only [hb, natF_eq] at h
      refine ⟨_, h, fun hr hv => ?_⟩
      cases hv with
      | mp hv =>
        refine .mp ?_
        rcases hr b i hb with e | e
        · exact .inl e
        · rw [e]; exact hv
  | fn f l =>
    obtain ⟨o, h, ho⟩ := renL_ok l h
    cases o with
    | none => exact ⟨_, h, fun _ hv => .junk hv.oneCell⟩
    | some l' =>
      refine ⟨_, h, fun {w S inj inj' v} hr hv => ?_⟩
      have hl := ho l' rfl
      cases hv with
      | fn hv =>
        refine .fn (hl.ren (fun b i v hb hv => ?_) hv)
        obtain ⟨a, e, hv⟩ := hv
        refine ⟨a, e, ?_⟩
        rcases hr b i hb with e | e
        · exact .inl e
        · rw [e]; exact hv
theorem renA1_ok {ρ : Nat → Option Nat} {a : A} {k : A → Prop} (h : renA1 ρ a k) : ∃ a', k a' ∧ RenA1 ρ a a' := by
  unfold renA1 at h
  cases a with
  | one c =>
    by_cases hc : c = .junk
    · subst hc
      exact ⟨_, h, fun _ _ => .junk⟩
    · obtain ⟨c', h, hr⟩ := renC_ok h
      refine ⟨_, h, fun hR hv => ?_⟩
      cases hv with
      | one hv => exact .one (hr hR hv)
      | junk => exact absurd rfl hc
  | agg l =>
    obtain ⟨l', h, hr⟩ := mapF_ex (fun a _ k h => renC_ok h) h
    refine ⟨_, h, fun {w S inj inj' v} hR hv => ?_⟩
    cases hv with
    | agg hv => exact .agg (hr.ren (R1 := VR w S inj) (R2 := VR w S inj') (fun a b c h1 h2 => h1 hR h2) hv)
  | tup l => exact ⟨_, h, fun _ hv => .junk⟩
theorem renA_ok {ρ : Nat → Option Nat} {a : A} {k : A → Prop} (h : renA ρ a k) : ∃ a', k a' ∧ RenA ρ a a' := by
  unfold renA at h
  cases a with
  | one c =>
    obtain ⟨a', h, hr⟩ := renA1_ok (a := .one c) h
    exact ⟨_, h, fun hR hv => by cases hv with | one hv => exact .one (hr hR hv)⟩
  | agg l =>
    obtain ⟨a', h, hr⟩ := renA1_ok (a := .agg l) h
    exact ⟨_, h, fun hR hv => by cases hv with | one hv => exact .one (hr hR hv)⟩
  | tup l =>
    obtain ⟨l', h, hr⟩ := mapF_ex (fun a _ k h => renA1_ok h) h
    refine ⟨_, h, fun {w S inj inj' v} hR hv => ?_⟩
    cases hv with
    | one hv => cases hv
    | tup hv => exact .tup (hr.ren (R1 := VA1 w S inj) (R2 := VA1 w S inj') (fun a b c h1 h2 => h1 hR h2) hv)
def RenB (ρ : Nat → Option Nat) (B B' : Blk) : Prop := ∀ {w S inj inj' loc}, Ren ρ inj inj' → BR w S inj loc B → BR w S inj' loc B'
theorem renB_ok {ρ : Nat → Option Nat} {B : Blk} {k : Blk → Prop} (h : renB ρ B k) : ∃ B', k B' ∧ (B = .dead → B' = .dead) ∧ RenB ρ B B' := by
  unfold renB at h
  cases B with
  | dead => exact ⟨_, h, fun _ => rfl, fun _ hb => hb⟩
  | rows n l => exact ⟨_, h, fun e => (by cases e), fun _ hb => hb⟩
  | box l =>
    obtain ⟨l', h, hr⟩ := mapF_ex (fun a _ k h => renC_ok h) h
    refine ⟨_, h, fun e => (by cases e), fun {w S inj inj' loc} hR hb => ?_⟩
    obtain ⟨g, vs, e, h1, h2, h3, h4⟩ := hb
    exact ⟨g, vs, e, h1, h2, h3, hr.ren (R1 := VR w S inj) (R2 := VR w S inj') (fun a b c h1 h2 => h1 hR h2) h4⟩
  | mp es =>
    obtain ⟨l', h, hr⟩ := mapF_ex (R := fun (x y : Value × A) => y.1 = x.1 ∧ RenA1 ρ x.2 y.2) (fun a _ k h => by
      obtain ⟨a', h, hr⟩ := renA1_ok h
      exact ⟨_, h, rfl, hr⟩) h
    refine ⟨_, h, fun e => (by cases e), fun hR hb => ?_⟩
    obtain ⟨g, en, cl, h1, h2, h3, h4⟩ := hb
    exact ⟨g, en, cl, h1, h2, h3, hr.ren (fun a b c h1 h2 => ⟨h2.1.trans h1.1.symm, h1.2 hR h2.2⟩) h4⟩
end Go.Proofs.Ytaiedakbmmgmaaa.E
