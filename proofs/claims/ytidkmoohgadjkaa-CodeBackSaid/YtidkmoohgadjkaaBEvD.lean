/- Soundness of calls: renaming of blocks. Soundness of calls: arguments; numberings. Soundness of calls: the call. Soundness of calls: the return. Soundness of calls: all of it. Soundness of operations within a region. -/
import Derived.Test.YtidkmoohgadjkaaBEvC
import Derived.Calls
import Derived.Tactics
set_option linter.unusedVariables false
set_option linter.unusedSimpArgs false
namespace Go.Proofs.Ytidkmoohgadjkaa.E
open Go
variable {P : Program} {T : List TI} {t : List A} {σ : List Blk} {nx : Nat}
theorem mapF_ex {α β : Type} {f : α → (β → Prop) → Prop} {R : α → β → Prop} : ∀ {l : List α} {k : List β → Prop}, (∀ a, a ∈ l → ∀ k, f a k → ∃ b, k b ∧ R a b) → mapF f l k → ∃ l', k l' ∧ F2 R l l'
  | [], k, hf, h => ⟨[], h, .nil⟩
  | a :: l, k, hf, h => by
    obtain ⟨b, h1, hr⟩ := hf a (by simp) _ h
    obtain ⟨l', h2, hr'⟩ := mapF_ex (fun a ha => hf a (by simp [ha])) h1
    exact ⟨_, h2, .cons hr hr'⟩
theorem VR.sub {w S S' inj c v} (h : VR w S inj c v) (hs : ∀ g, S g → S' g) : VR w S' inj c v := by
  cases h with
  | p h => exact .p (h.sub hs)
  | own h => exact .own h
  | ptr h => exact .ptr h
  | ep h => exact .ep h
  | rp vals h1 h2 h3 => exact .rp vals (hs _ h1) h2 fun j c hj => (h3 j c hj).sub hs
  | fn h => exact .fn h
  | pf h => exact .pf (h.mono' fun _ _ ⟨g, vals, e, h1, h2, h3⟩ => ⟨g, vals, e, hs _ h1, h2, fun j c hj => (h3 j c hj).sub hs⟩)
  | mp h => exact .mp h
  | cp h => exact .cp (h.sub hs)
  | junk h => exact .junk h
theorem VA1.sub {w S S' inj c v} (h : VA1 w S inj c v) (hs : ∀ g, S g → S' g) : VA1 w S' inj c v := by
  cases h with
  | one h => exact .one (h.sub hs)
  | agg h => exact .agg (h.mono' fun _ _ h => h.sub hs)
  | junk => exact .junk
theorem VA.sub {w S S' inj c v} (h : VA w S inj c v) (hs : ∀ g, S g → S' g) : VA w S' inj c v := by
  cases h with
  | one h => exact .one (h.sub hs)
  | tup h => exact .tup (h.mono' fun _ _ h => h.sub hs)
theorem F2.ren {α β γ : Type} {R : α → β → Prop} {R1 : α → γ → Prop} {R2 : β → γ → Prop} {l : List α} {m : List β} (h : F2 R l m) (hr : ∀ a b c, R a b → R1 a c → R2 b c) : ∀ {n : List γ}, F2 R1 l n → F2 R2 m n := by
  induction h with
  | nil => intro n hn; cases hn; exact .nil
  | cons hab _ ih =>
    intro n hn
    cases hn with
    | cons h1 h2 => exact .cons (hr _ _ _ hab h1) (ih h2)
def Ren (ρ : Nat → Option Nat) (inj inj' : Nat → Loc) : Prop := ∀ b i, ρ b = some i → inj' i = .dead ∨ inj' i = inj b
def RenC (ρ : Nat → Option Nat) (c c' : C) : Prop := ∀ {w S inj inj' v}, Ren ρ inj inj' → VR w S inj c v → VR w S inj' c' v
def RenA1 (ρ : Nat → Option Nat) (c c' : A) : Prop := ∀ {w S inj inj' v}, Ren ρ inj inj' → VA1 w S inj c v → VA1 w S inj' c' v
def RenA (ρ : Nat → Option Nat) (c c' : A) : Prop := ∀ {w S inj inj' v}, Ren ρ inj inj' → VA w S inj c v → VA w S inj' c' v
theorem renL_ok {ρ : Nat → Option Nat} (l : List Nat) : ∀ {k : Option (List Nat) → Prop},
    (@List.rec Nat (fun _ => (Option (List Nat) → Prop) → Prop) (fun k => k (some [])) (fun b _ ih k => match ρ b with
      | some b => natF b fun b => ih fun o => match o with | some l => k (some (b :: l)) | none => k none
      | none => k none) l) k → ∃ o, k o ∧ ∀ l', o = some l' → F2 (fun b i => ρ b = some i) l l' := by
  induction l with
  | nil => intro k h; exact ⟨_, h, fun l' e => by cases e; exact .nil⟩
  | cons b l ih =>
    intro k h
    cases hb : ρ b with
    | none =>
      simp only [hb] at h
      exact ⟨none, h, fun l' e => by cases e⟩
    | some i =>
      simp only [hb] at h
      rw [natF_eq] at h
      obtain ⟨o, h, ho⟩ := ih h
      cases o with
      | none => exact ⟨none, h, fun l' e => by cases e⟩
      | some l' => exact ⟨_, h, fun l'' e => by cases e; exact .cons hb (ho l' rfl)⟩
theorem renC_ok {ρ : Nat → Option Nat} {c : C} {k : C → Prop} (h : renC ρ c k) : ∃ c', k c' ∧ RenC ρ c c' := by
  unfold renC at h
  cases c with
  | p c => exact ⟨_, h, fun _ hv => by cases hv with | p h => exact .p h⟩
  | rp cs => exact ⟨_, h, fun _ hv => by cases hv with | rp vals h1 h2 h3 => exact .rp vals h1 h2 h3⟩
  | pf f l => exact ⟨_, h, fun _ hv => by cases hv with | pf h1 => exact .pf h1⟩
  | cp r => exact ⟨_, h, fun _ hv => by cases hv with | cp h1 => exact .cp h1⟩
  | junk => exact ⟨_, h, fun _ hv => .junk hv.oneCell⟩
  | own b =>
    cases hb : ρ b with
    | none => simp only [hb] at h; exact ⟨_, h, fun _ hv => .junk hv.oneCell⟩
    | some i =>
      simp only [hb, natF_eq] at h
      refine ⟨_, h, fun hr hv => ?_⟩
      cases hv with
      | own hv =>
        refine .own ?_
        rcases hr b i hb with e | e
        · exact .inl e
        · rw [e]; exact hv
  | ptr b o =>
    cases hb : ρ b with
    | none => simp only [hb] at h; exact ⟨_, h, fun _ hv => .junk hv.oneCell⟩
    | some i =>
      simp only [hb, natF_eq] at h
      refine ⟨_, h, fun hr hv => ?_⟩
      cases hv with
      | ptr hv =>
        refine .ptr ?_
        rcases hr b i hb with e | e
        · exact .inl e
        · rw [e]; exact hv
  | ep b k j o =>
    cases hb : ρ b with
    | none => simp only [hb] at h; exact ⟨_, h, fun _ hv => .junk hv.oneCell⟩
    | some i =>
      simp only [hb, natF_eq] at h
      refine ⟨_, h, fun hr hv => ?_⟩
      cases hv with
      | ep hv =>
        refine .ep ?_
        rcases hr b i hb with e | e
        · exact .inl e
        · rw [e]; exact hv
  | mp b =>
    cases hb : ρ b with
    | none => simp only [hb] at h; exact ⟨_, h, fun _ hv => .junk hv.oneCell⟩
    | some i =>
      simp only [hb, natF_eq] at h
      refine ⟨_, h, fun hr hv => ?_⟩
      cases hv with
      | mp hv =>
        refine .mp ?_
        rcases hr b i hb with e | e
        · exact .inl e
        · rw [e]; exact hv
  | fn f l =>
    obtain ⟨o, h, ho⟩ := renL_ok l h
    cases o with
    | none => exact ⟨_, h, fun _ hv => .junk hv.oneCell⟩
    | some l' =>
      refine ⟨_, h, fun {w S inj inj' v} hr hv => ?_⟩
      have hl := ho l' rfl
      cases hv with
      | fn hv =>
        refine .fn (hl.ren (fun b i v hb hv => ?_) hv)
        obtain ⟨a, e, hv⟩ := hv
        refine ⟨a, e, ?_⟩
        rcases hr b i hb with e | e
        · exact .inl e
        · rw [e]; exact hv
theorem renA1_ok {ρ : Nat → Option Nat} {a : A} {k : A → Prop} (h : renA1 ρ a k) : ∃ a', k a' ∧ RenA1 ρ a a' := by
  unfold renA1 at h
  cases a with
  | one c =>
    by_cases hc : c = .junk
    · subst hc
      exact ⟨_, h, fun _ _ => .junk⟩
    · obtain ⟨c', h, hr⟩ := renC_ok h
      refine ⟨_, h, fun hR hv => ?_⟩
      cases hv with
      | one hv => exact .one (hr hR hv)
      | junk => exact absurd rfl hc
  | agg l =>
    obtain ⟨l', h, hr⟩ := mapF_ex (fun a _ k h => renC_ok h) h
    refine ⟨_, h, fun {w S inj inj' v} hR hv => ?_⟩
    cases hv with
    | agg hv => exact .agg (hr.ren (R1 := VR w S inj) (R2 := VR w S inj') (fun a b c h1 h2 => h1 hR h2) hv)
  | tup l => exact ⟨_, h, fun _ hv => .junk⟩
theorem renA_ok {ρ : Nat → Option Nat} {a : A} {k : A → Prop} (h : renA ρ a k) : ∃ a', k a' ∧ RenA ρ a a' := by
  unfold renA at h
  cases a with
  | one c =>
    obtain ⟨a', h, hr⟩ := renA1_ok (a := .one c) h
    exact ⟨_, h, fun hR hv => by cases hv with | one hv => exact .one (hr hR hv)⟩
  | agg l =>
    obtain ⟨a', h, hr⟩ := renA1_ok (a := .agg l) h
    exact ⟨_, h, fun hR hv => by cases hv with | one hv => exact .one (hr hR hv)⟩
  | tup l =>
    obtain ⟨l', h, hr⟩ := mapF_ex (fun a _ k h => renA1_ok h) h
    refine ⟨_, h, fun {w S inj inj' v} hR hv => ?_⟩
    cases hv with
    | one hv => cases hv
    | tup hv => exact .tup (hr.ren (R1 := VA1 w S inj) (R2 := VA1 w S inj') (fun a b c h1 h2 => h1 hR h2) hv)
def RenB (ρ : Nat → Option Nat) (B B' : Blk) : Prop := ∀ {w S inj inj' loc}, Ren ρ inj inj' → BR w S inj loc B → BR w S inj' loc B'
theorem renB_ok {ρ : Nat → Option Nat} {B : Blk} {k : Blk → Prop} (h : renB ρ B k) : ∃ B', k B' ∧ (B = .dead → B' = .dead) ∧ RenB ρ B B' := by
  unfold renB at h
  cases B with
  | dead => exact ⟨_, h, fun _ => rfl, fun _ hb => hb⟩
  | rows n l => exact ⟨_, h, fun e => (by cases e), fun _ hb => hb⟩
  | box l =>
    obtain ⟨l', h, hr⟩ := mapF_ex (fun a _ k h => renC_ok h) h
    refine ⟨_, h, fun e => (by cases e), fun {w S inj inj' loc} hR hb => ?_⟩
    obtain ⟨g, vs, e, h1, h2, h3, h4⟩ := hb
    exact ⟨g, vs, e, h1, h2, h3, hr.ren (R1 := VR w S inj) (R2 := VR w S inj') (fun a b c h1 h2 => h1 hR h2) h4⟩
  | nest n o n' l => exact ⟨_, h, fun e => (by cases e), fun _ hb => hb⟩
  | hole n o n' i l => exact ⟨_, h, fun e => (by cases e), fun _ hb => hb⟩
  | mp a b es => exact ⟨_, h, fun e => (by cases e), fun _ hb => hb⟩
end Go.Proofs.Ytidkmoohgadjkaa.E
namespace Go.Proofs.Ytidkmoohgadjkaa.E
open Go
variable {P : Program} {T : List TI} {t : List A} {σ : List Blk} {nx : Nat} {L : List Nat}
theorem lend_ok (l : List Nat) : ∀ {K : List (List PC) → List Nat → Prop}, lendF σ l K → ∃ ps bs, K ps bs ∧ (∀ b, b ∈ bs → look σ b ≠ .dead) ∧
    ∀ {w S inj f vs}, Inv w S inj f → (∀ b, b ∈ bs → f b = look σ b) → F2 (fun b v => ∃ a, v = .pointer a ∧ (inj b = .dead ∨ ∃ g, inj b = .box g ∧ a = some ⟨g, 0, none⟩)) l vs → F2 (RpOk w (SB S inj bs)) ps vs := by
  induction l with
  | nil => intro K h; exact ⟨[], [], h, by simp, fun _ _ hv => by cases hv; exact .nil⟩
  | cons b l ih =>
    intro K h
    change (match look σ b with
      | .box cs => toPs σ cs fun ps bs => lendF σ l fun l bs' => K (ps :: l) (b :: appR bs bs')
      | _ => False) at h
    split at h
    · rename_i cs hb
      obtain ⟨ps, bs, h, hpl, hnd, hok⟩ := toPs_ok _ h
      obtain ⟨ps', bs', h, hnd', hok'⟩ := ih h
      rw [appR_eq] at h
      refine ⟨_, _, h, fun b' hb' => ?_, fun {w S inj f vs} hi hf hv => ?_⟩
      · rcases List.mem_cons.1 hb' with rfl | hb'
        · rw [hb]; simp
        · exact (List.mem_append.1 hb').elim (hnd b') (hnd' b')
      · cases hv with
        | cons hv hvs =>
          obtain ⟨a, rfl, hin⟩ := hv
          have hfb : f b = .box cs := (hf b (by simp)).trans hb
          obtain ⟨g, us, e, hg, hng, hh, hus⟩ := hi.box hfb
          have hin := hin.resolve_left (by rw [hg]; simp)
          obtain ⟨g', hg', rfl⟩ := hin
          have : g' = g := by rw [hg] at hg'; injection hg' with hg'; exact hg'.symm
          subst this
          have hps := hok hi (fun b' hb' => hf b' (by simp [hb'])) hus
          refine .cons ⟨g', fun j => us.getD j .nilFunc, rfl, .inr ⟨b, by simp, by rw [hg]; rfl⟩, fun j hj => ?_, fun j c hc => ?_⟩ ((hok' hi (fun b' hb' => hf b' (by simp [hb'])) hvs).mono' fun _ _ ⟨g, vals, e, h1, h2, h3⟩ =>
            have hsub : ∀ g, SB S inj bs' g → SB S inj (b :: (bs ++ bs')) g := fun g h => h.imp id fun ⟨b', hb', e⟩ => ⟨b', by simp [hb'], e⟩
            ⟨g, vals, e, hsub _ h1, h2, fun j c hj => (h3 j c hj).sub hsub⟩)
          · have hj' : j < us.length := by rw [← hps.len]; exact hj
            unfold World.cell?
            simp only [hh, Option.isSome_none, Bool.false_eq_true, if_false]
            rw [Nat.zero_add, List.getElem?_toArray, List.getElem?_eq_getElem hj', List.getD_eq_getElem?_getD, List.getElem?_eq_getElem hj']
            rfl
          · obtain ⟨v, h1, h2⟩ := hps.get hc
            show PR _ _ c (us.getD j .nilFunc)
            rw [List.getD_eq_getElem?_getD, h1]
            exact h2.sub fun g h => h.imp id fun ⟨b', hb', e⟩ => ⟨b', by simp [hb'], e⟩
    · exact h.elim
theorem argC_ok {md : Md} {c : C} {K : C → List Nat → Prop} (h : argC md σ L c K) : ∃ c' bs, K c' bs ∧ (∀ b, b ∈ bs → look σ b ≠ .dead) ∧
    ∀ {w S inj inj' f v}, Inv w S inj f → (∀ b, b ∈ bs → f b = look σ b) → Ren (fwd L) inj inj' → VR w S inj c v → VR w (SB S inj bs) inj' c' v := by
  have gen : renC (fwd L) c (fun c => K c []) → ∃ c' bs, K c' bs ∧ (∀ b, b ∈ bs → look σ b ≠ .dead) ∧
      ∀ {w S inj inj' f v}, Inv w S inj f → (∀ b, b ∈ bs → f b = look σ b) → Ren (fwd L) inj inj' → VR w S inj c v → VR w (SB S inj bs) inj' c' v := fun h => by
    obtain ⟨c', h, hr⟩ := renC_ok h
    exact ⟨_, _, h, by simp, fun hi hf hR hv => (hr hR hv).sub fun _ h => .inl h⟩
  unfold argC at h
  cases c with
  | own b =>
    cases md with
    | mv => exact gen h
    | _ =>
      obtain ⟨p, bs, h, hnd, hok⟩ := toP_ok h
      exact ⟨_, _, h, hnd, fun hi hf _ hv => .p (hok hi hf hv)⟩
  | fn f l =>
    cases md with
    | ld =>
      obtain ⟨ps, bs, h, hnd, hok⟩ := lend_ok _ h
      exact ⟨_, _, h, hnd, fun hi hf _ hv => by cases hv with | fn hv => exact .pf (hok hi hf hv)⟩
    | _ => exact gen h
  | _ => exact gen h
theorem argCs_ok {md : Md} (cs : List C) : ∀ {K : List C → List Nat → Prop}, argCs md σ L cs K → ∃ cs' bs, K cs' bs ∧ (∀ b, b ∈ bs → look σ b ≠ .dead) ∧
    ∀ {w S inj inj' f vs}, Inv w S inj f → (∀ b, b ∈ bs → f b = look σ b) → Ren (fwd L) inj inj' → F2 (VR w S inj) cs vs → F2 (VR w (SB S inj bs) inj') cs' vs := by
  induction cs with
  | nil => intro K h; exact ⟨[], [], h, by simp, fun _ _ _ hv => by cases hv; exact .nil⟩
  | cons c cs ih =>
    intro K h
    change argC md σ L c (fun c bs => argCs md σ L cs fun cs bs' => K (c :: cs) (appR bs bs')) at h
    obtain ⟨c', bs, h, hnd, hok⟩ := argC_ok h
    obtain ⟨cs', bs', h, hnd', hok'⟩ := ih h
    rw [appR_eq] at h
    refine ⟨_, _, h, fun b hb => (List.mem_append.1 hb).elim (hnd b) (hnd' b), fun {w S inj inj' f vs} hi hf hR hv => ?_⟩
    cases hv with
    | cons hv hvs =>
      exact .cons ((hok hi (fun b hb => hf b (by simp [hb])) hR hv).sub fun _ => SB_app) ((hok' hi (fun b hb => hf b (by simp [hb])) hR hvs).mono' fun _ _ h => h.sub fun _ => SB_app')
theorem argA_ok {md : Md} {a : A} {K : A → List Nat → Prop} (h : argA md σ L a K) : ∃ a' bs, K a' bs ∧ (∀ b, b ∈ bs → look σ b ≠ .dead) ∧
    ∀ {w S inj inj' f v}, Inv w S inj f → (∀ b, b ∈ bs → f b = look σ b) → Ren (fwd L) inj inj' → VA w S inj a v → VA w (SB S inj bs) inj' a' v := by
  unfold argA at h
  cases a with
  | one c =>
    by_cases hc : c = .junk
    · subst hc
      exact ⟨_, _, h, by simp, fun _ _ _ _ => .one .junk⟩
    · obtain ⟨c', bs, h, hnd, hok⟩ := argC_ok h
      exact ⟨_, _, h, hnd, fun hi hf hR hv => .ofc (hok hi hf hR (hv.cellv hc))⟩
  | agg cs =>
    obtain ⟨cs', bs, h, hnd, hok⟩ := argCs_ok cs h
    refine ⟨_, _, h, hnd, fun hi hf hR hv => ?_⟩
    cases hv with
    | one hv => cases hv with | agg hv => exact .one (.agg (hok hi hf hR hv))
  | tup l => exact h.elim
theorem argAs_ok {md : Md} (xs : List A) : ∀ {K : List A → List Nat → Prop}, argAs md σ L xs K → ∃ ys bs, K ys bs ∧ (∀ b, b ∈ bs → look σ b ≠ .dead) ∧
    ∀ {w S inj inj' f vs}, Inv w S inj f → (∀ b, b ∈ bs → f b = look σ b) → Ren (fwd L) inj inj' → F2 (VA w S inj) xs vs → F2 (VA w (SB S inj bs) inj') ys vs := by
  induction xs with
  | nil => intro K h; exact ⟨[], [], h, by simp, fun _ _ _ hv => by cases hv; exact .nil⟩
  | cons c cs ih =>
    intro K h
    change argA md σ L c (fun c bs => argAs md σ L cs fun cs bs' => K (c :: cs) (appR bs bs')) at h
    obtain ⟨c', bs, h, hnd, hok⟩ := argA_ok h
    obtain ⟨cs', bs', h, hnd', hok'⟩ := ih h
    rw [appR_eq] at h
    refine ⟨_, _, h, fun b hb => (List.mem_append.1 hb).elim (hnd b) (hnd' b), fun {w S inj inj' f vs} hi hf hR hv => ?_⟩
    cases hv with
    | cons hv hvs =>
      exact .cons ((hok hi (fun b hb => hf b (by simp [hb])) hR hv).sub fun _ => SB_app) ((hok' hi (fun b hb => hf b (by simp [hb])) hR hvs).mono' fun _ _ h => h.sub fun _ => SB_app')
theorem idxN_none (l : List Nat) (b : Nat) : ∀ n, idxN l b n = none → b ∉ l := by
  induction l with
  | nil => intro n h; simp
  | cons a l ih =>
    intro n h
    change @Bool.rec (fun _ => Option Nat) (idxN l b (n + 1)) (some n) (Nat.beq a b) = none at h
    cases hb : Nat.beq a b with
    | true => rw [hb] at h; cases h
    | false =>
      rw [hb] at h
      have h1 := ih _ h
      have h2 := Nat.ne_of_beq_eq_false hb
      simp [h1, Ne.symm h2]
theorem fwd_none {l : List Nat} {b : Nat} (h : fwd l b = none) : b ∉ l := idxN_none l b 0 h
theorem fwd_of {l : List Nat} {b i : Nat} (hl : l.Nodup) (h : l[i]? = some b) : fwd l b = some i := by
  cases hf : fwd l b with
  | none => exact absurd (List.mem_of_getElem? h) (fwd_none hf)
  | some j =>
    have hj := fwd_some hf
    have hlt : j < l.length := (List.getElem?_eq_some_iff.1 hj).1
    rw [(List.getElem?_inj hlt hl).1 (hj.trans h.symm)]
theorem zip_find (L : List Nat) (b : Nat) : ∀ (n : Nat) (out : List Blk), L.length ≤ out.length → (zipR L out).find? (fun x => x.1 == b) = (idxN L b n).map fun i => (b, out.getD (i - n) .dead) := by
  induction L with
  | nil => intro n out h; rfl
  | cons a L ih =>
    intro n out h
    cases out with
    | nil => simp at h
    | cons o out =>
      change ((a, o) :: zipR L out).find? _ = (@Bool.rec (fun _ => Option Nat) (idxN L b (n + 1)) (some n) (Nat.beq a b)).map _
      cases hb : Nat.beq a b with
      | true =>
        have := Nat.eq_of_beq_eq_true hb
        subst this
        simp [List.find?_cons]
      | false =>
        have h2 := Nat.ne_of_beq_eq_false hb
        rw [List.find?_cons, show ((a, o).1 == b) = false from by simpa using h2]
        simp only
        rw [ih (n + 1) out (by simpa using h)]
        cases hi : idxN L b (n + 1) with
        | none => rfl
        | some i =>
          obtain ⟨j, hj, _⟩ := idxN_some _ _ _ _ hi
          simp only [Option.map_some]
          rw [show i - n = (i - (n + 1)) + 1 from by omega]
          simp
theorem upTo_eq (n : Nat) : upTo n = List.range n := by
  induction n with
  | zero => rfl
  | succ n ih =>
    change appR (upTo n) [n] = _
    rw [appR_eq, ih, List.range_succ]
theorem travF_ok {fuel : Nat} : ∀ {todo acc : List Nat} {k : List Nat → Prop}, acc.Nodup → travF σ fuel todo acc k → ∃ r, k (acc ++ r) ∧ (acc ++ r).Nodup := by
  induction fuel with
  | zero => intro todo acc k ha h; exact ⟨[], by rw [List.append_nil]; exact h, by rw [List.append_nil]; exact ha⟩
  | succ n ih =>
    intro todo acc k ha h
    cases todo with
    | nil => exact ⟨[], by rw [List.append_nil]; exact h, by rw [List.append_nil]; exact ha⟩
    | cons b todo =>
      change @Bool.rec (fun _ => Prop) (natF b fun b => appF acc [b] fun acc => travF σ n (appR (refsB (look σ b)) todo) acc k) (travF σ n todo acc k) (memN b acc) at h
      cases hm : memN b acc with
      | true => rw [hm] at h; exact ih ha h
      | false =>
        rw [hm] at h
        simp only [natF_eq, appF_eq] at h
        have hnb : b ∉ acc := fun hb => by rw [(memN_iff b acc).2 hb] at hm; cases hm
        obtain ⟨r, h, hr⟩ := ih (by simpa [List.nodup_append] using ⟨ha, fun a h e => hnb (e ▸ h)⟩) h
        exact ⟨b :: r, by simpa using h, by simpa using hr⟩
end Go.Proofs.Ytidkmoohgadjkaa.E
namespace Go.Proofs.Ytidkmoohgadjkaa.E
open Go
variable {P : Program} {T : List TI} {t : List A} {σ : List Blk} {nx : Nat} {L : List Nat}
structure Done (w : World) (S : Zone) (inj : Nat → Loc) (n : Nat) (r : A) (σ' : List Blk) (v : Value) (w' : World) (S' : Zone) (inj' : Nat → Loc) : Prop where
  grow : Grow w S w' S'
  le : Le inj inj'
  fresh : ∀ b, inj b = .free → (b < n ∨ σ'.length ≤ b) → inj' b = .free
  val : VA w' S' inj' r v
  inv : Inv w' S' inj' (look σ')
def CallOk (P : Program) (f : Nat) (xs : List A) (σ : List Blk) (r : A) (σ' : List Blk) : Prop :=
  (∃ fn c, P.funcs[f]? = some fn ∧ fn.body = some c ∧ (fn.name == "runtime.NumGoroutine") = false) ∧ ∀ (w : World) (S : Zone) (inj : Nat → Loc) (vs : List Value), F2 (VA w S inj) xs vs → Inv w S inj (look σ) → (∀ b, σ.length ≤ b → inj b = .free) →
    Calls P f vs.toArray w fun e w' => ∃ v S' inj', e = .returned v ∧ Done w S inj σ.length r σ' v w' S' inj'
noncomputable def injCe (inj : Nat → Loc) (bs L : List Nat) (i : Nat) : Loc := match L[i]? with
  | some b => kill inj bs b
  | none => .free
noncomputable def injCr (inj inj' : Nat → Loc) (bs M : List Nat) (b : Nat) : Loc := match fwd M b with
  | some i => inj' i
  | none => kill inj bs b
def zoneCe (S : Zone) (inj : Nat → Loc) (f : Nat → Blk) (bs L : List Nat) : Zone :=
  ⟨(SB S inj bs).s, fun g => S.fr g ∨ ∃ b, f b ≠ .dead ∧ b ∉ L ∧ b ∉ bs ∧ (inj b).blk g⟩
theorem RowOk.zone {w S S' k l v g} (hr : RowOk w S k l v g) (hs : ∀ g, S g → S' g) (hn : ∀ x, g = some x → ¬ S'.all x) : RowOk w S' k l v g := by
  rcases hr with hr | ⟨g'', cap, cur, e, hk, rfl, hv, _, hh, h1, h2, h3, h4, h5⟩
  · exact .inl hr
  · exact .inr ⟨g'', cap, cur, e, hk, rfl, hv, hn _ rfl, hh, h1, h2, h3, h4, h5.mono' fun _ _ hp => hp.sub hs⟩
theorem Nest.zone {w S S' k o k' skip l v g fp cap cur e ins} (h : Nest w S k o k' skip l v g fp cap cur e ins) (hs : ∀ g, S g → S' g) (hn : ∀ x, (g = x ∨ fp x) → ¬ S'.all x) : Nest w S' k o k' skip l v g fp cap cur e ins :=
  { h with
    own := hn g (.inl rfl)
    at_ := fun i r hr j c hc => by
      obtain ⟨u, h1, h2, h3, h4⟩ := h.at_ i r hr j c hc
      refine ⟨u, h1, h2, fun hj => (h3 hj).sub hs, fun hj hsk => ?_⟩
      obtain ⟨m, hm, hro⟩ := h4 hj hsk
      exact ⟨m, hm, hro.zone hs fun x hx => hn x (.inr ((h.fpi x).2 ⟨i, (List.getElem?_eq_some_iff.1 hr).1, hsk, hx⟩))⟩ }
theorem BR.zone {w S S' inj loc B} (h : BR w S inj loc B) (hs : ∀ g, S g → S' g) (hn : B ≠ .dead → ∀ g, loc.blk g → ¬ S'.all g) : BR w S' inj loc B := by
  cases B with
  | dead => trivial
  | box cs =>
    obtain ⟨g', vs, e, rfl, _, hh, hf⟩ := h
    exact ⟨g', vs, e, rfl, hn (by simp) _ rfl, hh, hf.mono' fun _ _ hv => hv.sub hs⟩
  | rows k l =>
    obtain ⟨v, g', rfl, hr⟩ := h
    exact ⟨v, g', rfl, hr.zone hs fun x hx => hn (by simp) x hx⟩
  | nest k o k' l =>
    obtain ⟨v, g', fp, rfl, cap, cur, e, ins, hN⟩ := h
    exact ⟨v, g', fp, rfl, cap, cur, e, ins, hN.zone hs fun x hx => hn (by simp) x hx⟩
  | hole k o k' i l =>
    obtain ⟨v, g', fp, rfl, cap, cur, e, ins, hN⟩ := h
    exact ⟨v, g', fp, rfl, cap, cur, e, ins, hN.zone hs fun x hx => hn (by simp) x hx⟩
  | mp a b es =>
    obtain ⟨g', en, cl, rfl, _, hh, hst, hf⟩ := h
    exact ⟨g', en, cl, rfl, hn (by simp) _ rfl, hh, hst, hf.mono' fun _ _ ⟨hk, us, hu, hv⟩ => ⟨hk, us, hu.mono' fun _ _ hp => hp.sub hs, hv⟩⟩
theorem RenB.zone {ρ B B'} (h : RenB ρ B B') : RenB ρ B B' := h
theorem hand_inv {w S inj} {f : Nat → Blk} {bs : List Nat} {σc : List Blk} (hi : Inv w S inj f) (hd : ∀ b, b ∈ bs → f b ≠ .dead) (hL : L.Nodup)
    (hσ : F2 (fun b B' => (b ∈ bs → B' = .dead) ∧ (b ∉ bs → (f b = .dead → B' = .dead) ∧ RenB (fwd L) (f b) B')) L σc) :
    Inv w (zoneCe S inj f bs L) (injCe inj bs L) (look σc) := by
  have hk := hi.kill hd
  have hz : ∀ g, (SB S inj bs) g → (zoneCe S inj f bs L) g := fun g h => h
  have hget : ∀ i, look σc i ≠ .dead → ∃ b, L[i]? = some b ∧ b ∉ bs ∧ f b ≠ .dead ∧ RenB (fwd L) (f b) (look σc i) ∧ injCe inj bs L i = inj b := fun i h => by
    rw [look_eq] at h ⊢
    cases hs : σc[i]? with
    | none => rw [List.getD_eq_getElem?_getD, hs] at h; exact absurd rfl h
    | some B =>
      obtain ⟨b, hb, h1, h2⟩ := hσ.getR hs
      have hB : σc.getD i .dead = B := by rw [List.getD_eq_getElem?_getD, hs]; rfl
      rw [hB] at h ⊢
      have hbs : b ∉ bs := fun hm => h (h1 hm)
      refine ⟨b, hb, hbs, fun hf => h ((h2 hbs).1 hf), (h2 hbs).2, ?_⟩
      unfold injCe; rw [hb]; exact kill_ne hbs
  have hR : Ren (fwd L) inj (injCe inj bs L) := fun b i hbi => by
    have := fwd_some hbi
    unfold injCe; rw [this]
    simp only
    by_cases hm : b ∈ bs
    · left; unfold kill; rw [if_pos hm]
    · right; exact kill_ne hm
  refine ⟨fun i => ?_, fun i i' g h1 h2 h3 h4 => ?_, fun g hg => ?_, fun g hf hs => ?_⟩
  · by_cases h : look σc i = .dead
    · rw [h]; trivial
    · obtain ⟨b, hb, hbs, hfb, hren, hin⟩ := hget i h
      rw [hin]
      refine hren hR ((hi.live b).zone (fun g h => hz g (.inl h)) fun _ g hg hs => ?_)
      rcases hs with hs | hs | ⟨b', h1, h2, h3, h4⟩
      · have := ((hk.live b).blk (by rw [killB_ne hbs]; exact hfb) (by rw [kill_ne hbs]; exact hg)).1
        exact this (.inl hs)
      · exact ((hi.live b).blk hfb hg).1 (.inr hs)
      · have := hi.sep b b' g hfb h1 hg h4
        subst this
        exact h2 (List.mem_of_getElem? hb)
  · obtain ⟨b, hb, hbs, hfb, _, hin⟩ := hget i h1
    obtain ⟨b', hb', hbs', hfb', _, hin'⟩ := hget i' h2
    rw [hin] at h3; rw [hin'] at h4
    have := hi.sep b b' g hfb hfb' h3 h4
    subst this
    exact (List.getElem?_inj (List.getElem?_eq_some_iff.1 hb).1 hL).1 (hb.trans hb'.symm)
  · rcases hg with hg | hg | ⟨b', h1, h2, h3, h4⟩
    · exact hk.lt g (.inl hg)
    · exact hi.lt g (.inr hg)
    · exact ((hi.live b').blk h1 h4).2
  · rcases hf with hf | ⟨b', h1, h2, h3, h4⟩
    · exact hk.dj g hf hs
    · exact ((hk.live b').blk (by rw [killB_ne h3]; exact h1) (by rw [kill_ne h3]; exact h4)).1 (.inl hs)
end Go.Proofs.Ytidkmoohgadjkaa.E
namespace Go.Proofs.Ytidkmoohgadjkaa.E
open Go
variable {P : Program} {T : List TI} {t : List A} {σ : List Blk} {nx : Nat} {L : List Nat}
theorem seq_get (nx n i : Nat) (h : i < n) : (seqFrom nx n)[i]? = some (nx + i) := by
  unfold seqFrom; rw [mapR_eq, upTo_eq]; simp [h]
theorem seq_len (nx n : Nat) : (seqFrom nx n).length = n := by unfold seqFrom; rw [mapR_eq, upTo_eq]; simp
theorem seq_mem {nx n b : Nat} : b ∈ seqFrom nx n ↔ nx ≤ b ∧ b < nx + n := by
  unfold seqFrom; rw [mapR_eq, upTo_eq]; simp
  constructor
  · rintro ⟨a, h, rfl⟩; omega
  · intro h; exact ⟨b - nx, by omega, by omega⟩
theorem seq_nodup (nx n : Nat) : (seqFrom nx n).Nodup := by
  unfold seqFrom; rw [mapR_eq, upTo_eq]
  exact List.pairwise_map.2 (List.Pairwise.imp (fun h e => h (by omega)) List.nodup_range)
theorem back_ok {w S inj} {f : Nat → Blk} {bs : List Nat} {σc' out : List Blk} {r r' : A} {v : Value} {w' : World} {S' : Zone} {inj' : Nat → Loc} {d : Nat}
    (hi : Inv w S inj f) (hd : ∀ b, b ∈ bs → f b ≠ .dead) (hL : L.Nodup) (hLn : ∀ b, b ∈ L → b < nx) (hbn : ∀ b, b ∈ bs → b < nx) (hlen : σc'.length = L.length + d)
    (hD : Done w (zoneCe S inj f bs L) (injCe inj bs L) L.length r σc' v w' S' inj') (hr : RenA (bwd (L ++ seqFrom nx d)) r r')
    (hout : F2 (fun B B' => (B = .dead → B' = .dead) ∧ RenB (bwd (L ++ seqFrom nx d)) B B') σc' out)
    (hfr : ∀ i, i < d → inj (nx + i) = .free ∧ f (nx + i) = .dead) :
    Post w S inj f nx r' (zipR L (out.take L.length) ++ bs.map fun b => (b, .dead)) (out.drop L.length) v w' ⟨S'.s, S.fr⟩ (injCr inj inj' bs (L ++ seqFrom nx d)) := by
  have hk := hi.kill hd
  generalize hM : L ++ seqFrom nx d = M at *
  have hol : out.length = L.length + d := by rw [← hout.len, hlen]
  have hMN : M.Nodup := by
    subst hM
    refine List.nodup_append.2 ⟨hL, seq_nodup _ _, fun a ha b hb e => ?_⟩
    subst e
    have := hLn a ha
    have := (seq_mem.1 hb).1
    omega
  have hMl : M.length = L.length + d := by subst hM; simp [seq_len]
  have hMlt : ∀ i, i < L.length → M[i]? = L[i]? := fun i h => by subst hM; rw [List.getElem?_append_left h]
  have hMge : ∀ i, i < d → M[L.length + i]? = some (nx + i) := fun i h => by
    subst hM; rw [List.getElem?_append_right (by omega), show L.length + i - L.length = i from by omega, seq_get _ _ _ h]
  have hMmem : ∀ b, b ∈ M ↔ b ∈ L ∨ (nx ≤ b ∧ b < nx + d) := fun b => by subst hM; rw [List.mem_append, seq_mem]
  have hU : ∀ b, upd f nx (zipR L (out.take L.length) ++ bs.map fun b => (b, .dead)) (out.drop L.length) b = match fwd M b with | some i => out.getD i .dead | none => killB f bs b := fun b => by
    have hdl : (out.drop L.length).length = d := by simp [hol]
    unfold upd
    rw [hdl]
    by_cases hnew : nx ≤ b ∧ b < nx + d
    · rw [if_pos hnew]
      have : fwd M b = some (L.length + (b - nx)) := fwd_of hMN (by rw [hMge _ (by omega)]; congr 1; omega)
      rw [this]
      simp only [List.getD_eq_getElem?_getD, List.getElem?_drop]
    · rw [if_neg hnew, List.find?_append, zip_find L b 0 _ (by simp [hol])]
      change (match ((fwd L b).map (fun i => (b, (out.take L.length).getD (i - 0) .dead))).or (List.find? (fun x : Nat × Blk => x.1 == b) (bs.map fun b => (b, Blk.dead))) with | some x => x.2 | none => f b) = _
      cases hf : fwd L b with
      | some i =>
        have h1 := fwd_some hf
        have hil := (List.getElem?_eq_some_iff.1 h1).1
        have : fwd M b = some i := fwd_of hMN (by rw [hMlt i hil, h1])
        rw [this]
        simp only [Option.map_some, Option.some_or, Nat.sub_zero, List.getD_eq_getElem?_getD, List.getElem?_take, if_pos hil]
      | none =>
        have h1 := fwd_none hf
        have : fwd M b = none := by
          cases h2 : fwd M b with
          | none => rfl
          | some i =>
            have := List.mem_of_getElem? (fwd_some h2)
            rcases (hMmem b).1 this with h | h
            · exact absurd h h1
            · exact absurd h hnew
        rw [this]
        simp only [Option.map_none, Option.none_or]
        have := congrFun (upd_kill f nx bs) b
        unfold upd at this
        rw [if_neg (by simp)] at this
        exact this
  have hi' : ∀ b i, fwd M b = some i → injCr inj inj' bs M b = inj' i := fun b i h => by unfold injCr; rw [h]
  have hn' : ∀ b, fwd M b = none → injCr inj inj' bs M b = kill inj bs b := fun b h => by unfold injCr; rw [h]
  have hfrz : ∀ b, fwd M b = none → b ∉ L := fun b h hb => fwd_none h ((hMmem b).2 (.inl hb))
  have hfrl : ∀ b g, fwd M b = none → b ∉ bs → f b ≠ .dead → (inj b).blk g → (zoneCe S inj f bs L).fr g := fun b g h1 h2 h3 h4 => .inr ⟨b, h3, hfrz b h1, h2, h4⟩
  have hG : Grow w S w' ⟨S'.s, S.fr⟩ := by
    refine ⟨hD.grow.os, hD.grow.tape, hD.grow.output, hD.grow.size, fun g hg => hD.grow.heap g ?_, fun g hg => hD.grow.sub g (.inl hg), rfl⟩
    rcases hg with hg | hg
    · exact .inl (.inl hg)
    · exact .inr (.inl hg)
  have hR : Ren (bwd M) inj' (injCr inj inj' bs M) := fun i b h => by
    right; exact hi' b i (fwd_of hMN (bwd_some h))
  have hle : Le inj (injCr inj inj' bs M) := fun b => by
    cases hf : fwd M b with
    | none =>
      rw [hn' b hf]; exact kill_le _ _ b
    | some i =>
      rw [hi' b i hf]
      rcases (hMmem b).1 (List.mem_of_getElem? (fwd_some hf)) with hb | hb
      · have h1 : L[i]? = some b := by
          obtain ⟨j, hj⟩ := List.mem_iff_getElem?.1 hb
          have hjl := (List.getElem?_eq_some_iff.1 hj).1
          have := fwd_of hMN (show M[j]? = some b by rw [hMlt j hjl, hj])
          rw [hf] at this; injection this with this; subst this; exact hj
        have h2 := hD.le i
        have h3 : injCe inj bs L i = kill inj bs b := by unfold injCe; rw [h1]
        rw [h3] at h2
        by_cases hbs : b ∈ bs
        · have : kill inj bs b = .dead := by unfold kill; rw [if_pos hbs]
          rw [this] at h2
          rcases h2 with h2 | h2 | h2
          · cases h2
          · exact .inr (.inr (h2.eq (by intro v g fp e; cases e)))
          · exact .inr (.inr h2)
        · rw [kill_ne hbs] at h2; exact h2
      · left
        have := (hfr (b - nx) (by omega)).1
        rwa [show nx + (b - nx) = b from by omega] at this
  refine ⟨hG, hle, fun b hb hbn' => ?_, ?_, ?_⟩
  · have hdl : (out.drop L.length).length = d := by simp [hol]
    rw [hdl] at hbn'
    cases hf : fwd M b with
    | none =>
      rw [hn' b hf]
      by_cases hbs : b ∈ bs
      · exfalso
        have h1 := hi.live b
        rw [hb] at h1
        exact hd b hbs h1.free
      · rw [kill_ne hbs]; exact hb
    | some i =>
      rw [hi' b i hf]
      rcases (hMmem b).1 (List.mem_of_getElem? (fwd_some hf)) with hbL | hbL
      · obtain ⟨j, hj⟩ := List.mem_iff_getElem?.1 hbL
        have hjl := (List.getElem?_eq_some_iff.1 hj).1
        have := fwd_of hMN (show M[j]? = some b by rw [hMlt j hjl, hj])
        rw [hf] at this; injection this with this; subst this
        refine hD.fresh i ?_ (.inl hjl)
        unfold injCe; rw [hj]
        simp only
        have hbs : b ∉ bs := fun hbs => by
          have h1 := hi.live b
          rw [hb] at h1
          exact hd b hbs h1.free
        rw [kill_ne hbs]; exact hb
      · omega
  · exact (hr hR hD.val).sub fun g h => h
  · have hlive : ∀ b, upd f nx (zipR L (out.take L.length) ++ bs.map fun b => (b, .dead)) (out.drop L.length) b ≠ .dead →
        (∃ i, fwd M b = some i ∧ look σc' i ≠ .dead) ∨ (fwd M b = none ∧ b ∉ bs ∧ f b ≠ .dead) := fun b hb => by
      rw [hU b] at hb
      cases hf : fwd M b with
      | none =>
        rw [hf] at hb
        have hbs : b ∉ bs := fun h => hb (killB_dead h)
        simp only [killB_ne hbs] at hb
        exact .inr ⟨rfl, hbs, hb⟩
      | some i =>
        rw [hf] at hb
        refine .inl ⟨i, rfl, fun hl => hb ?_⟩
        simp only
        cases ho : out[i]? with
        | none => rw [List.getD_eq_getElem?_getD, ho]; rfl
        | some B' =>
          obtain ⟨B, hB, h1, _⟩ := hout.getR ho
          rw [List.getD_eq_getElem?_getD, ho]
          refine h1 ?_
          rw [look_eq, List.getD_eq_getElem?_getD, hB] at hl
          exact hl
    refine ⟨fun b => ?_, fun b b' g h1 h2 h3 h4 => ?_, fun g hg => ?_, fun g hf hs => ?_⟩
    · rw [hU b]
      cases hf : fwd M b with
      | none =>
        simp only
        rw [hn' b hf]
        by_cases hbs : b ∈ bs
        · rw [killB_dead hbs]; trivial
        · rw [killB_ne hbs, kill_ne hbs]
          by_cases hfb : f b = .dead
          · rw [hfb]; trivial
          · refine (hi.live b).grow hG hle (fun g hg => hD.grow.heap g (.inr (hfrl b g hf hbs hfb hg))) (fun g hg hs => ?_)
            rcases hs with hs | hs
            · have := hD.inv.dj g (by rw [hD.grow.fr]; exact hfrl b g hf hbs hfb hg)
              exact this hs
            · exact ((hi.live b).blk hfb hg).1 (.inr hs)
      | some i =>
        simp only
        rw [hi' b i hf]
        cases ho : out[i]? with
        | none => rw [List.getD_eq_getElem?_getD, ho]; trivial
        | some B' =>
          obtain ⟨B, hB, h1, hren⟩ := hout.getR ho
          rw [List.getD_eq_getElem?_getD, ho]
          simp only [Option.getD_some]
          have hlive := hD.inv.live i
          rw [look_eq, List.getD_eq_getElem?_getD, hB] at hlive
          simp only [Option.getD_some] at hlive
          refine hren hR (hlive.zone (fun g h => h) fun hnB g hg hs => ?_)
          have := (hlive.blk hnB hg).1
          rcases hs with hs | hs
          · exact this (.inl hs)
          · exact this (.inr (by rw [hD.grow.fr]; exact .inl hs))
    · rcases hlive b h1 with ⟨i, hbi, hli⟩ | ⟨hbn, hbs, hfb⟩ <;> rcases hlive b' h2 with ⟨i', hbi', hli'⟩ | ⟨hbn', hbs', hfb'⟩
      · rw [hi' b i hbi] at h3; rw [hi' b' i' hbi'] at h4
        have := hD.inv.sep i i' g hli hli' h3 h4
        subst this
        have e1 := fwd_some hbi
        have e2 := fwd_some hbi'
        rw [e1] at e2; injection e2
      · rw [hi' b i hbi] at h3; rw [hn' b' hbn', kill_ne hbs'] at h4
        exfalso
        exact ((hD.inv.live i).blk hli h3).1 (.inr (by rw [hD.grow.fr]; exact hfrl b' g hbn' hbs' hfb' h4))
      · rw [hi' b' i' hbi'] at h4; rw [hn' b hbn, kill_ne hbs] at h3
        exfalso
        exact ((hD.inv.live i').blk hli' h4).1 (.inr (by rw [hD.grow.fr]; exact hfrl b g hbn hbs hfb h3))
      · rw [hn' b hbn, kill_ne hbs] at h3; rw [hn' b' hbn', kill_ne hbs'] at h4
        exact hi.sep b b' g hfb hfb' h3 h4
    · rcases hg with hg | hg
      · exact hD.inv.lt g (.inl hg)
      · exact Nat.lt_of_lt_of_le (hi.lt g (.inr hg)) hD.grow.size
    · exact hD.inv.dj g (by rw [hD.grow.fr]; exact .inl hf) hs
end Go.Proofs.Ytidkmoohgadjkaa.E
namespace Go.Proofs.Ytidkmoohgadjkaa.E
open Go
variable {P : Program} {T : List TI} {t : List A} {σ : List Blk} {nx : Nat} {L : List Nat} {I : Task → Prop}
theorem flatC_ok {c : C} (h : flatC c = true) {w S inj v} (hv : VR w S inj c v) {w' S' inj'} : VR w' S' inj' c v := by
  unfold flatC at h
  split at h
  · cases hv with | p hp => cases hp with | v hf => exact .p (.v hf)
  · cases h
theorem flatA1_ok {c : A} (h : flatA1 c = true) {w S inj v} (hv : VA1 w S inj c v) {w' S' inj'} : VA1 w' S' inj' c v := by
  unfold flatA1 at h
  cases hv with
  | one hv => exact .one (flatC_ok h hv)
  | agg hv =>
    simp only [allR_eq, List.all_eq_true] at h
    exact .agg (hv.mono fun c v hc h' => flatC_ok (h c hc) h')
  | junk => cases h
theorem flatA_ok {c : A} (h : flatA c = true) {w S inj v} (hv : VA w S inj c v) {w' S' inj'} : VA w' S' inj' c v := by
  unfold flatA at h
  cases hv with
  | one hv => cases hv with
    | one hv => exact .one (.one (flatC_ok h hv))
    | agg hv =>
      simp only [allR_eq, List.all_eq_true] at h
      exact .one (.agg (hv.mono fun c v hc h' => flatC_ok (h c hc) h'))
    | junk => cases h
  | tup hv =>
    simp only [allR_eq, List.all_eq_true] at h
    exact .tup (hv.mono fun c v hc h' => flatA1_ok (h c hc) h')
theorem flat_back {w S inj} {f : Nat → Blk} {bs : List Nat} {r r' : A} {v : Value} {w' : World} {S' : Zone} {inj' : Nat → Loc}
    (hi : Inv w S inj f) (hd : ∀ b, b ∈ bs → f b ≠ .dead) (hg : Grow w (zoneCe S inj f bs []) w' S') (hv : VA w' S' inj' r v) (hfl : flatA r = true) (hr : RenA (bwd []) r r') :
    Post w S inj f nx r' [] [] v w' S inj := by
  have hG : Grow w S w' S := by
    refine ⟨hg.os, hg.tape, hg.output, hg.size, fun g h => hg.heap g ?_, fun g h => h, rfl⟩
    rcases h with h | h
    · exact .inl (.inl h)
    · exact .inr (.inl h)
  refine ⟨hG, .refl _, fun b hb _ => hb, hr (inj := inj) (fun b i h => by cases bwd_some h) (flatA_ok hfl hv), ?_⟩
  rw [upd_nil]
  refine ⟨fun b => ?_, hi.sep, fun g h => Nat.lt_of_lt_of_le (hi.lt g h) hg.size, hi.dj⟩
  by_cases hfb : f b = .dead
  · rw [hfb]; trivial
  · refine (hi.live b).grow hG (.refl _) (fun g h => hg.heap g ?_) fun g h => ((hi.live b).blk hfb h).1
    by_cases hb : b ∈ bs
    · exact .inl (.inr ⟨b, hb, h⟩)
    · exact .inr (.inr ⟨b, hfb, by simp, hb, h⟩)
def CallsOk (P : Program) (I : Task → Prop) : Prop := ∀ f xs σ Q, I (.call f xs σ Q) → ∃ r σ', Q r σ' ∧ CallOk P f xs σ r σ'
theorem callM_ok (hI : CallsOk P I) {md : Md} {f : Nat} {xs : List A} {K : Kont} (h : callM I md σ nx f xs K) : (∃ fn c, P.funcs[f]? = some fn ∧ fn.body = some c ∧ (fn.name == "runtime.NumGoroutine") = false) ∧ ∃ v ws nw rd, K v ws nw rd ∧
    ∀ {w S inj} {fB : Nat → Blk} {vs : List Value} {next : Value → World → Prop}, F2 (VA w S inj) xs vs → (∀ b, b ∈ rd ++ ws.map Prod.fst → fB b = look σ b) → Inv w S inj fB →
      (∀ b, b ∈ rd → look σ b ≠ .dead → b < nx) →
      (∀ i, i < nw.length → inj (nx + i) = .free ∧ fB (nx + i) = .dead) → (∀ v' w' S' inj', Post w S inj fB nx v ws nw v' w' S' inj' → next v' w') →
      Calls P f vs.toArray w fun e w' => ∃ v', e = .returned v' ∧ next v' w' := by
  unfold callM at h
  obtain ⟨L, h, hL⟩ := travF_ok (acc := []) (by simp) h
  rw [List.nil_append] at h hL
  obtain ⟨ys, bs, h, hnd, hok⟩ := argAs_ok xs h
  have hLn := (bcF h).1
  replace h := (bcF h).2
  simp only [allR_eq, List.all_eq_true] at hLn
  obtain ⟨σc, h, hσ⟩ := mapF_ex (R := fun b B' => (b ∈ bs → B' = .dead) ∧ (b ∉ bs → (look σ b = .dead → B' = .dead) ∧ RenB (fwd L) (look σ b) B')) (fun b hb k h => by
    unfold handB at h
    cases hm : memN b bs with
    | true => rw [hm] at h; exact ⟨_, h, fun _ => rfl, fun hn => absurd ((memN_iff b bs).1 hm) hn⟩
    | false =>
      rw [hm] at h
      have hn : b ∉ bs := fun hb => by rw [(memN_iff b bs).2 hb] at hm; cases hm
      obtain ⟨B', h, h1, h2⟩ := renB_ok h
      exact ⟨_, h, fun hb => absurd hb hn, fun _ => ⟨h1, h2⟩⟩) h
  obtain ⟨r, σc', h, hc⟩ := hI _ _ _ _ h
  have hle := (bcF h).1
  replace h := (bcF h).2
  simp only [lenR_eq, appR_eq] at h hle
  have hle := Nat.le_of_ble_eq_true hle
  obtain ⟨r', h, hr⟩ := renA_ok h
  obtain ⟨out, h, hout⟩ := mapF_ex (R := fun B B' => (B = .dead → B' = .dead) ∧ RenB (bwd (L ++ seqFrom nx (σc'.length - L.length))) B B') (fun B hB k h => by
    obtain ⟨B', h, h1, h2⟩ := renB_ok h
    exact ⟨_, h, h1, h2⟩) h
  have hlc : σc.length = L.length := hσ.len.symm
  have main : ∀ {w S inj} {fB : Nat → Blk} {vs : List Value}, F2 (VA w S inj) xs vs → (∀ b, b ∈ bs → fB b = look σ b) → (∀ b, b ∈ L → fB b = look σ b) → Inv w S inj fB →
      Calls P f vs.toArray w fun e w' => ∃ v S' inj', e = .returned v ∧ Done w (zoneCe S inj fB bs L) (injCe inj bs L) L.length r σc' v w' S' inj' := fun {w S inj fB vs} hv hf1 hf2 hi => by
    have hd : ∀ b, b ∈ bs → fB b ≠ .dead := fun b hb => by rw [hf1 b hb]; exact hnd b hb
    have hin := hand_inv (L := L) (σc := σc) hi hd hL (by
      refine hσ.mono fun b B' hb hbB => ?_
      rw [hf2 b hb]; exact hbB)
    have hR : Ren (fwd L) inj (injCe inj bs L) := fun b i hbi => by
      have := fwd_some hbi
      unfold injCe; rw [this]
      simp only
      by_cases hm : b ∈ bs
      · left; unfold kill; rw [if_pos hm]
      · right; exact kill_ne hm
    have hys := (hok hi hf1 hR hv).mono' fun a b h => h.sub (S' := zoneCe S inj fB bs L) fun g h => h
    have := hc.2 w (zoneCe S inj fB bs L) (injCe inj bs L) vs hys hin (fun b hb => by
      unfold injCe; rw [List.getElem?_eq_none (by omega)])
    rw [hlc] at this
    exact this
  rcases (bcase_iff _ _ _).1 h with ⟨hb, h'⟩ | ⟨hb, h'⟩
  · simp only [Bool.and_eq_true] at hb
    have ho0 : out.length = 0 := Nat.eq_of_beq_eq_true hb.1
    have hs0 : σc'.length = 0 := by rw [hout.len]; exact ho0
    have hL0 : L = [] := List.eq_nil_of_length_eq_zero (by omega)
    subst hL0
    refine ⟨hc.1, _, _, _, _, h', fun {w S inj fB vs next} hv hf hi hbn hfr hn => ?_⟩
    have hf1 : ∀ b, b ∈ bs → fB b = look σ b := fun b hb => hf b (by simp [hb])
    refine (main hv hf1 (by simp) hi).mono fun e w' ⟨v, S', inj', he, hD⟩ => ⟨v, he, hn _ _ _ _ (flat_back hi (fun b hb => by rw [hf1 b hb]; exact hnd b hb) hD.grow hD.val hb.2 ?_)⟩
    rw [hs0] at hr
    exact hr
  · simp only [takeR_eq, dropR_eq, mapR_eq, lenR_eq, appR_eq] at h'
    refine ⟨hc.1, _, _, _, _, h', fun {w S inj fB vs next} hv hf hi hbn hfr hn => ?_⟩
    have hf1 : ∀ b, b ∈ bs → fB b = look σ b := fun b hb => hf b (by simp [hb])
    have hf2 : ∀ b, b ∈ L → fB b = look σ b := fun b hb => hf b (by simp [hb])
    refine (main hv hf1 hf2 hi).mono fun e w' ⟨v, S', inj', he, hD⟩ => ⟨v, he, hn _ _ _ _ (back_ok hi (fun b hb => by rw [hf1 b hb]; exact hnd b hb) hL (fun b hb => Nat.le_of_ble_eq_true (hLn b hb))
      (fun b hb => hbn b (by simp [hb]) (hnd b hb)) (by omega) hD hr hout ?_)⟩
    intro i hi'
    refine hfr i ?_
    rw [List.length_drop, ← hout.len]; exact hi'
theorem callC_ok (hI : CallsOk P I) {f : Nat} {xs : List A} {K : Kont} (h : callC I σ nx f xs K) : (∃ fn c, P.funcs[f]? = some fn ∧ fn.body = some c ∧ (fn.name == "runtime.NumGoroutine") = false) ∧ ∃ v ws nw rd, K v ws nw rd ∧
    ∀ {w S inj} {fB : Nat → Blk} {vs : List Value} {next : Value → World → Prop}, F2 (VA w S inj) xs vs → (∀ b, b ∈ rd ++ ws.map Prod.fst → fB b = look σ b) → Inv w S inj fB →
      (∀ b, b ∈ rd → look σ b ≠ .dead → b < nx) →
      (∀ i, i < nw.length → inj (nx + i) = .free ∧ fB (nx + i) = .dead) → (∀ v' w' S' inj', Post w S inj fB nx v ws nw v' w' S' inj' → next v' w') →
      Calls P f vs.toArray w fun e w' => ∃ v', e = .returned v' ∧ next v' w' := by
  unfold callC at h
  cases hp : plainAs xs with
  | true => rw [hp] at h; exact callM_ok hI h
  | false =>
    rw [hp] at h
    rcases h with h | h | h <;> exact callM_ok hI h
end Go.Proofs.Ytidkmoohgadjkaa.E
namespace Go.Proofs.Ytidkmoohgadjkaa.E
open Go
variable {P : Program} {T : List TI} {t : List A} {σ : List Blk} {nx : Nat} {I : Task → Prop}
theorem flatP_ok {w S inj} (v : Value) (h : flat v = true) : VR w S inj (flatP v) v := by
  unfold flatP; rw [h]; exact .p (.v h)
theorem constA_ok {w S inj} (v : Value) : VA w S inj (constA v) v := by
  have one : ∀ v, VA w S inj (.one (flatP v)) v := fun v => by
    cases h : flat v with
    | true => exact .ofc (flatP_ok v h)
    | false => unfold flatP; rw [h]; exact .one .junk
  unfold constA
  split
  · rename_i cs
    cases h : allR flat cs.toList with
    | false => exact .one .junk
    | true =>
      simp only [allR_eq, List.all_eq_true] at h
      rw [mapR_eq]
      have : ∀ l : List Value, (∀ v ∈ l, flat v = true) → F2 (VR w S inj) (l.map flatP) l := fun l => by
        induction l with
        | nil => intro _; exact .nil
        | cons v l ih => intro h; exact .cons (flatP_ok v (h v (by simp))) (ih fun v hv => h v (by simp [hv]))
      have h2 := this _ h
      have : VA w S inj (.agg (cs.toList.map flatP)) (.agg cs.toList.toArray) := .one (.agg h2)
      simpa using this
  · exact one v
theorem opd_ok {w S inj} {a : Act} (h : F2 (VA w S inj) t a.tmps.toList) (x : Operand) : VA w S inj (opd t x) (a.eval x) := by
  cases x with
  | tmp n =>
    change VA w S inj (nth (.one .junk) t n) (a.tmps.getD n undef)
    rw [nth_eq]
    cases ht : t[n]? with
    | none => rw [List.getD_eq_getElem?_getD, ht]; exact .one .junk
    | some x =>
      obtain ⟨v, hv, hr⟩ := h.get ht
      rw [List.getD_eq_getElem?_getD, ht]
      have : a.tmps.getD n undef = v := by simp at hv; simp [Array.getD_eq_getD_getElem?, hv]
      rw [this]; exact hr
  | const v => exact constA_ok v
  | global g => exact .one .junk
  | func f => exact .ofc (.fn (caps := []) (vs := []) .nil)
theorem operC_ok (hT : TOk P T) (hI : CallsOk P I) {o : Oper} {K : Kont} (h : operC T I t σ σ.length o.op K) : StepOk P t σ σ.length o K := by
  unfold operC at h
  split at h
  · rename_i f args ts ho
    unfold calleeF at h
    split at h
    · rename_i g caps hf
      simp only [mapR_eq, appR_eq] at h
      obtain ⟨⟨fn, c, hfn, hb, hname⟩, v, ws, nw, rd, h, hok⟩ := callC_ok hI h
      refine ⟨v, ws, nw, rd, h, fun a fB w S inj next Q hop hfb hi hfr hn => ?_⟩
      have hvf := hop f (by simp [ho, Op.operands, Call.operands])
      rw [hf] at hvf
      have hvf := hvf.cellv (by simp)
      cases hfv : a.eval f with
      | func fv first cap =>
        rw [hfv] at hvf
        cases hvf with
        | fn hcaps =>
          rename_i vs
          have hvs : F2 (VA w S inj) (args.toList.map (opd t) ++ caps.map fun b => A.one (.ptr b 0)) ((args.toList.map a.eval) ++ vs) := by
            refine (evals_ok _ fun x hx => hop x (by simp [ho, Op.operands, Call.operands]; right; simpa using hx)).app (hcaps.map fun b v _ hbv => ?_)
            obtain ⟨ad, rfl, hbv⟩ := hbv
            exact .ofc (.ptr hbv)
          have hc := hok hvs hfb hi (fun b _ hb => by
            rw [look_eq] at hb
            rcases Nat.lt_or_ge b σ.length with h | h
            · exact h
            · exact absurd (by simp [List.getD_eq_getElem?_getD, List.getElem?_eq_none h]) hb) hfr (next := fun v' w' => next (a.put o.dst v') w') hn
          have hrun : (execOp a.eval o).run P w = .ok (.enter g ((args.toList.map a.eval) ++ vs).toArray) w := by
            unfold execOp
            simp [ho, resolve, hfv, Deferred.ofValue, invoke, callFunc, hfn, hb, hname]
            rw [if_neg (by simpa using hname)]
            simp [← Array.toList_map]
          unfold Oper.wp
          rw [hrun, Oper.upon_enter]
          exact hc.mono fun e w' ⟨v', he, hn⟩ => by subst he; exact hn
      | _ => rw [hfv] at hvf; cases hvf
    · rename_i g caps hf
      simp only [mapR_eq, appR_eq] at h
      obtain ⟨⟨fn, c, hfn, hb, hname⟩, v, ws, nw, rd, h, hok⟩ := callC_ok hI h
      refine ⟨v, ws, nw, rd, h, fun a fB w S inj next Q hop hfb hi hfr hn => ?_⟩
      have hvf := hop f (by simp [ho, Op.operands, Call.operands])
      rw [hf] at hvf
      have hvf := hvf.cellv (by simp)
      cases hfv : a.eval f with
      | func fv first cap =>
        rw [hfv] at hvf
        cases hvf with
        | pf hcaps =>
          rename_i vs
          have hvs : F2 (VA w S inj) (args.toList.map (opd t) ++ caps.map fun cs => A.one (.rp cs)) ((args.toList.map a.eval) ++ vs) := by
            refine (evals_ok _ fun x hx => hop x (by simp [ho, Op.operands, Call.operands]; right; simpa using hx)).app (hcaps.map fun b v _ hbv => ?_)
            obtain ⟨g, vals, rfl, h1, h2, h3⟩ := hbv
            exact .ofc (.rp vals h1 h2 h3)
          have hc := hok hvs hfb hi (fun b _ hb => by
            rw [look_eq] at hb
            rcases Nat.lt_or_ge b σ.length with h | h
            · exact h
            · exact absurd (by simp [List.getD_eq_getElem?_getD, List.getElem?_eq_none h]) hb) hfr (next := fun v' w' => next (a.put o.dst v') w') hn
          have hrun : (execOp a.eval o).run P w = .ok (.enter g ((args.toList.map a.eval) ++ vs).toArray) w := by
            unfold execOp
            simp [ho, resolve, hfv, Deferred.ofValue, invoke, callFunc, hfn, hb, hname]
            rw [if_neg (by simpa using hname)]
            simp [← Array.toList_map]
          unfold Oper.wp
          rw [hrun, Oper.upon_enter]
          exact hc.mono fun e w' ⟨v', he, hn⟩ => by subst he; exact hn
      | _ => rw [hfv] at hvf; cases hvf
    · exact h.elim
  · exact stepC_ok hT h
structure St (m : Nat) (t : List A) (σ : List Blk) (a : Act) (w : World) (S : Zone) (inj : Nat → Loc) : Prop where
  tmps : F2 (VA w S inj) t a.tmps.toList
  inv : Inv w S inj (look σ)
  free : ∀ b, σ.length ≤ b → inj b = .free
  defers : a.defers = []
  le : m ≤ σ.length
structure Rl (m : Nat) (w : World) (S : Zone) (inj : Nat → Loc) (w' : World) (S' : Zone) (inj' : Nat → Loc) : Prop where
  grow : Grow w S w' S'
  le : ∀ b, b < m → inj b = .free ∨ Same (inj b) (inj' b) ∨ inj' b = .dead
  free : ∀ b, b < m → inj b = .free → inj' b = .free
theorem Rl.refl {m w S inj} : Rl m w S inj w S inj := ⟨.refl _ _, fun _ _ => .inr (.inl (.refl _)), fun _ _ h => h⟩
theorem Rl.trans {m w S inj w' S' inj' w'' S'' inj''} (h : Rl m w S inj w' S' inj') (h' : Rl m w' S' inj' w'' S'' inj'') : Rl m w S inj w'' S'' inj'' :=
  ⟨h.grow.trans h'.grow, fun b hb => Le1.trans (h.le b hb) (h'.le b hb), fun b hb h1 => h'.free b hb (h.free b hb h1)⟩
theorem writeF_ok (ws : List (Nat × Blk)) : ∀ {σ : List Blk} {k : List Blk → Prop}, (∀ x, x ∈ ws → x.1 < σ.length) → writeF ws σ k → ∃ σ', k σ' ∧ σ'.length = σ.length ∧ ∀ b, look σ' b = match ws.find? (fun x => x.1 == b) with | some x => x.2 | none => look σ b := by
  induction ws with
  | nil => intro σ k hw h; exact ⟨_, h, rfl, fun b => rfl⟩
  | cons x ws ih =>
    intro σ k hw h
    change bF x.2 (fun b => writeF ws σ fun σ => setF b σ x.1 k) at h
    rw [bF_eq] at h
    obtain ⟨σ', h, hl, hk⟩ := ih (fun y hy => hw y (by simp [hy])) h
    rw [setF_eq] at h
    refine ⟨_, h, by simp [hl], fun b => ?_⟩
    have hx := hw x (by simp)
    rw [List.find?_cons]
    by_cases hb : x.1 = b
    · subst hb
      simp only [beq_self_eq_true]
      rw [look_eq, List.getD_eq_getElem?_getD, List.getElem?_set_self (by omega)]; rfl
    · rw [show (x.1 == b) = false from by simpa using hb]
      simp only
      rw [← hk b, look_eq, look_eq, List.getD_eq_getElem?_getD, List.getElem?_set_ne hb, ← List.getD_eq_getElem?_getD]
theorem applyF_ok {ws : List (Nat × Blk)} {nw : List Blk} {k : List Blk → Prop} (h : applyF σ ws nw k) : ∃ σ', k σ' ∧ σ'.length = σ.length + nw.length ∧ ∀ b, look σ' b = upd (look σ) σ.length ws nw b := by
  unfold applyF at h
  have hw := (bcF h).1
  replace h := (bcF h).2
  simp only [allR_eq, List.all_eq_true, lenR_eq] at hw
  obtain ⟨σ', h, hl, hk⟩ := writeF_ok ws (fun x hx => Nat.le_of_ble_eq_true (hw x hx)) h
  rw [mapF_bF, appF_eq] at h
  refine ⟨_, h, by simp [hl], fun b => ?_⟩
  unfold upd
  rw [look_eq, List.getD_eq_getElem?_getD]
  by_cases hb : σ.length ≤ b ∧ b < σ.length + nw.length
  · rw [if_pos hb, List.getElem?_append_right (by omega), hl, List.getD_eq_getElem?_getD]
  · rw [if_neg hb]
    have := hk b
    rw [look_eq, List.getD_eq_getElem?_getD] at this
    refine Eq.trans ?_ this
    rcases Nat.lt_or_ge b σ'.length with h1 | h1
    · rw [List.getElem?_append_left h1]
    · rw [List.getElem?_append_right h1, List.getElem?_eq_none (by omega), List.getElem?_eq_none h1]
theorem putF_ok {d : Option Nat} {v : A} {k : List A → Prop} (h : putF t d v k) : ∃ t', k t' ∧ ∀ {w S inj v'} {a : Act}, F2 (VA w S inj) t a.tmps.toList → VA w S inj v v' → F2 (VA w S inj) t' (a.put d v').tmps.toList := by
  unfold putF at h
  cases d with
  | none => exact ⟨_, h, fun ht _ => ht⟩
  | some d =>
    simp only [aF_eq, setF_eq] at h
    refine ⟨_, h, fun {w S inj v' a} ht hv => ?_⟩
    have := ht.set hv d
    unfold Act.put
    simpa using this
def GuardOk (ops : List Oper) (t : List A) (o : Oper) (w : World) (S : Zone) (inj : Nat → Loc) (a : Act) : Prop :=
  ∀ g want oj d x, o.guard = some (g, want) → ops[g]? = some oj → oj.dst = some d → t[d]? = some x → ∃ v, a.tmps[d]? = some v ∧ VA w S inj x v
theorem GuardOk.of {ops : List Oper} {o : Oper} {w S inj a} (h : F2 (VA w S inj) t a.tmps.toList) : GuardOk ops t o w S inj a := fun g want oj d x _ _ _ htd => by
  obtain ⟨v, hv, hr⟩ := h.get htd
  exact ⟨v, by simpa using hv, hr⟩
theorem wantedF_ok {ops : List Oper} {o : Oper} {y n : Prop} (h : wantedF ops t o y n) :
    (y ∧ ∀ {w S inj} {a : Act}, GuardOk ops t o w S inj a → Region.wanted o (yielded ops.toArray a.tmps) = true) ∨
    (n ∧ ∀ {w S inj} {a : Act}, GuardOk ops t o w S inj a → Region.wanted o (yielded ops.toArray a.tmps) = false) := by
  unfold wantedF at h
  split at h
  · rename_i hg
    exact .inl ⟨h, fun _ => by unfold Region.wanted; rw [hg]⟩
  · rename_i j want hg
    have hout : (∀ a : Act, yielded ops.toArray a.tmps j = none) → n → _ := fun hy hn => Or.inr (a := (y ∧ ∀ {w S inj} {a : Act}, GuardOk ops t o w S inj a → Region.wanted o (yielded ops.toArray a.tmps) = true)) (b := (n ∧ ∀ {w S inj} {a : Act}, GuardOk ops t o w S inj a → Region.wanted o (yielded ops.toArray a.tmps) = false)) ⟨hn, fun {w S inj a} _ => by
      unfold Region.wanted; rw [hg]; simp only; rw [hy]; cases want <;> rfl⟩
    rw [dropR_eq] at h
    split at h
    · rename_i oj rest hd
      have hj : ops.toArray[j]? = some oj := by
        have := congrArg (·[0]?) hd
        simpa using this
      split at h
      · rename_i d hdst
        have hy : ∀ {w S inj} {a : Act} {x : A}, GuardOk ops t o w S inj a → nth (.one .junk) t d = x → x ≠ .one .junk → ∃ v, a.tmps[d]? = some v ∧ VA w S inj x v := fun {w S inj a x} ht hx hne => by
          rw [nth_eq, List.getD_eq_getElem?_getD] at hx
          cases htd : t[d]? with
          | none => rw [htd] at hx; exact absurd hx.symm hne
          | some x' =>
            rw [htd] at hx
            simp only [Option.getD_some] at hx
            subst hx
            exact ht j want oj d _ hg (by simpa using hj) hdst htd
        split at h
        · rename_i b hx
          have hyb : ∀ {w S inj} {a : Act}, GuardOk ops t o w S inj a → yielded ops.toArray a.tmps j = some b := fun {w S inj a} ht => by
            obtain ⟨v, hv, hr⟩ := hy ht hx (by simp)
            have := hr.flatv.1
            subst this
            unfold yielded; rw [hj]; simp [hdst, hv]
          cases want with
          | true =>
            rcases (bcase_iff _ _ _).1 h with ⟨hb, h⟩ | ⟨hb, h⟩
            · exact .inl ⟨h, fun ht => by unfold Region.wanted; rw [hg]; simp only; rw [hyb ht, hb]; rfl⟩
            · exact .inr ⟨h, fun ht => by unfold Region.wanted; rw [hg]; simp only; rw [hyb ht, hb]; rfl⟩
          | false =>
            rcases (bcase_iff _ _ _).1 h with ⟨hb, h⟩ | ⟨hb, h⟩
            · exact .inr ⟨h, fun ht => by unfold Region.wanted; rw [hg]; simp only; rw [hyb ht, hb]; rfl⟩
            · exact .inl ⟨h, fun ht => by unfold Region.wanted; rw [hg]; simp only; rw [hyb ht, hb]; rfl⟩
        · rename_i hx
          refine .inr ⟨h, fun {w S inj a} ht => ?_⟩
          obtain ⟨v, hv, hr⟩ := hy ht hx (by simp)
          have : ∃ vs : Array Value, v = .tuple vs := by
            cases hr with
            | one hr => cases hr
            | tup hr => exact ⟨_, rfl⟩
          obtain ⟨vs, rfl⟩ := this
          unfold Region.wanted; rw [hg]; simp only
          unfold yielded; rw [hj]; simp [hdst, hv]
        · exact h.elim
      · rename_i hdst
        exact hout (fun a => by unfold yielded; rw [hj]; simp [hdst]) h
    · rename_i hd
      exact hout (fun a => by
        have : ops.toArray[j]? = none := by simpa [List.drop_eq_nil_iff] using hd
        unfold yielded; rw [this]; rfl) h
theorem runF_ok (hT : TOk P T) (hI : CallsOk P I) {all : List Oper} {m : Nat} : ∀ (l : List Oper) {t : List A} {σ : List Blk} {tr : Tr} {K : List A → List Blk → Tr → Prop}, m ≤ σ.length → runF T I all l t σ tr K →
    ∃ t' σ' tr', K t' σ' tr' ∧ m ≤ σ'.length ∧ ∀ {a w S inj Q}, St m t σ a w S inj → (∀ a' w' S' inj', St m t' σ' a' w' S' inj' → Rl m w S inj w' S' inj' → Q .normal a' w') → wpList P all.toArray Q l a w
  | [], t, σ, tr, K, hm, h => ⟨t, σ, tr, h, hm, fun {a w S inj Q} hs hq => hq _ _ _ _ hs .refl⟩
  | o :: l, t, σ, tr, K, hm, h => by
    change wantedF all t o _ _ at h
    rcases wantedF_ok h with ⟨h, hw⟩ | ⟨h, hw⟩
    · rw [lenR_eq] at h
      obtain ⟨v, ws, nw, rd, h, hok⟩ := operC_ok hT hI h
      obtain ⟨t', h, ht'⟩ := putF_ok h
      obtain ⟨σ', h, hl, hup⟩ := applyF_ok h
      obtain ⟨t'', σ'', tr'', h, hm', hrest⟩ := runF_ok (m := m) (σ := σ') hT hI l (by omega) h
      refine ⟨t'', σ'', tr'', h, hm', fun {a w S inj Q} hs hq => ?_⟩
      show (if _ then _ else _)
      rw [hw (.of hs.tmps), if_pos rfl]
      refine .inl (hok a (look σ) w S inj _ _ (fun x _ => opd_ok hs.tmps x) (fun _ _ => rfl) hs.inv (fun i hi => ⟨hs.free (σ.length + i) (Nat.le_add_right _ _), by rw [look_eq, List.getD_eq_getElem?_getD, List.getElem?_eq_none (by omega)]; rfl⟩) fun v' w' S' inj' hp => ?_)
      have hfree : ∀ b, σ'.length ≤ b → inj' b = .free := fun b hb => hp.fresh b (hs.free b (by omega)) (.inr (by omega))
      have hst : St m t' σ' (a.put o.dst v') w' S' inj' := by
        refine ⟨ht' (hs.tmps.mono' fun _ _ h => h.grow hp.grow hp.le) hp.val, ?_, hfree, ?_, by omega⟩
        · have := hp.inv
          rwa [show upd (look σ) σ.length ws nw = look σ' from (funext hup).symm] at this
        · have := hs.defers
          unfold Act.put; split <;> exact this
      have hr : Rl m w S inj w' S' inj' := ⟨hp.grow, fun b _ => hp.le b, fun b hb h => hp.fresh b h (.inl (by omega))⟩
      exact hrest hst fun a' w' S2 inj2 hs2 hr2 => hq _ _ _ _ hs2 (hr.trans hr2)
    · obtain ⟨t', h, ht'⟩ := putF_ok h
      obtain ⟨t'', σ'', tr'', h, hm', hrest⟩ := runF_ok hT hI l hm h
      refine ⟨t'', σ'', tr'', h, hm', fun {a w S inj Q} hs hq => ?_⟩
      show (if _ then _ else _)
      rw [hw (.of hs.tmps), if_neg (by simp)]
      refine hrest ⟨ht' hs.tmps (.tup .nil), hs.inv, hs.free, ?_, hs.le⟩ hq
      have := hs.defers
      unfold Act.put; split <;> exact this
end Go.Proofs.Ytidkmoohgadjkaa.E
