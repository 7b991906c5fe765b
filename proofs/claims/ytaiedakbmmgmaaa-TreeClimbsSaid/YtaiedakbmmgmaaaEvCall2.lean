/- Soundness of calls: arguments; numberings. -/
import Derived.Test.YtaiedakbmmgmaaaEvCall
set_option linter.unusedVariables false
set_option linter.unusedSimpArgs false
namespace Go.Proofs.Ytaiedakbmmgmaaa.E
open Go
variable {P : Program} {T : List TI} {t : List A} {σ : List Blk} {nx : Nat} {L : List Nat}

theorem Ren.mono_kill {ρ inj inj'} (h : Ren ρ inj inj') : Ren ρ inj inj' := h
theorem lend_ok (l : List Nat) : ∀ {K : List (List PC) → List Nat → Prop}, lendF σ l K → ∃ ps bs, K ps bs ∧ (∀ b, b ∈ bs → look σ b ≠ .dead) ∧
    ∀ {w S inj f vs}, Inv w S inj f → (∀ b, b ∈ bs → f b = look σ b) → F2 (fun b v => ∃ a, v = .pointer a ∧ (inj b = .dead ∨ ∃ g, inj b = .box g ∧ a = some ⟨g, 0, none⟩)) l vs → F2 (RpOk w (SB S inj bs)) ps vs := by
  induction l with
  | nil => intro K h; exact ⟨[], [], h, by simp, fun _ _ hv => by cases hv; exact .nil⟩
  | cons b l ih =>
    intro K h
    change (match look σ b with
      | .box cs => toPs σ cs fun ps bs => lendF σ l fun l bs' => K (ps :: l) (b :: appR bs bs')
      | _ => False) at h
    split at h
    · rename_i cs hb
      obtain ⟨ps, bs, h, hpl, hnd, hok⟩ := toPs_ok _ h
      obtain ⟨ps', bs', h, hnd', hok'⟩ := ih h
      rw [appR_eq] at h
      refine ⟨_, _, h, fun b' hb' => ?_, fun {w S inj f vs} hi hf hv => ?_⟩
      · rcases List.mem_cons.1 hb' with rfl | hb'
        · rw [hb]; simp
        · exact (List.mem_append.1 hb').elim (hnd b') (hnd' b')
      · cases hv with
        | cons hv hvs =>
          obtain ⟨a, rfl, hin⟩ := hv
          have hfb : f b = .box cs := (hf b (by simp)).trans hb
          obtain ⟨g, us, e, hg, hng, hh, hus⟩ := hi.box hfb
          have hin := hin.resolve_left (by rw [hg]; simp)
          obtain ⟨g', hg', rfl⟩ := hin
          have : g' = g := by rw [hg] at hg'; injection hg' with hg'; exact hg'.symm
          subst this
          have hps := hok hi (fun b' hb' => hf b' (by simp [hb'])) hus
          refine .cons ⟨g', fun j => us.getD j .nilFunc, rfl, .inr ⟨b, by simp, by rw [hg]; rfl⟩, fun j hj => ?_, fun j c hc => ?_⟩ ((hok' hi (fun b' hb' => hf b' (by simp [hb'])) hvs).mono' fun _ _ ⟨g, vals, e, h1, h2, h3⟩ =>
            have hsub : ∀ g, SB S inj bs' g → SB S inj (b :: (bs ++ bs')) g := fun g h => h.imp id fun ⟨b', hb', e⟩ => ⟨b', by simp [hb'], e⟩
            ⟨g, vals, e, hsub _ h1, h2, fun j c hj => (h3 j c hj).sub hsub⟩)
          · have hj' : j < us.length := by rw [← hps.len]; exact hj
            unfold World.cell?
            simp only [hh, Option.isSome_none, Bool.false_eq_true, if_false]
            rw [Nat.zero_add, List.getElem?_toArray, List.getElem?_eq_getElem hj', List.getD_eq_getElem?_getD, List.getElem?_eq_getElem hj']
            rfl
          · obtain ⟨v, h1, h2⟩ := hps.get hc
            show PR _ _ c (us.getD j .nilFunc)
            rw [List.getD_eq_getElem?_getD, h1]
            exact h2.sub fun g h => h.imp id fun ⟨b', hb', e⟩ => ⟨b', by simp [hb'], e⟩
    · exact h.elim
theorem argC_ok {md : Md} {c : C} {K : C → List Nat → Prop} (h : argC md σ L c K) : ∃ c' bs, K c' bs ∧ (∀ b, b ∈ bs → look σ b ≠ .dead) ∧
    ∀ {w S inj inj' f v}, Inv w S inj f → (∀ b, b ∈ bs → f b = look σ b) → Ren (fwd L) inj inj' → VR w S inj c v → VR w (SB S inj bs) inj' c' v := by
  have gen : renC (fwd L) c (fun c => K c []) → ∃ c' bs, K c' bs ∧ (∀ b, b ∈ bs → look σ b ≠ .dead) ∧
      ∀ {w S inj inj' f v}, Inv w S inj f → (∀ b, b ∈ bs → f b = look σ b) → Ren (fwd L) inj inj' → VR w S inj c v → VR w (SB S inj bs) inj' c' v := fun h => by
    obtain ⟨c', h, hr⟩ := renC_ok h
    exact ⟨_, _, h, by simp, fun hi hf hR hv => (hr hR hv).sub fun _ h => .inl h⟩
  unfold argC at h
  cases c with
  | own b =>
    cases md with
    | mv => exact gen h
    | _ =>
      obtain ⟨p, bs, h, hnd, hok⟩ := toP_ok h
      exact ⟨_, _, h, hnd, fun hi hf _ hv => .p (hok hi hf hv)⟩
  | fn f l =>
    cases md with
    | ld =>
      obtain ⟨ps, bs, h, hnd, hok⟩ := lend_ok _ h
      exact ⟨_, _, h, hnd, fun hi hf _ hv => by cases hv with | fn hv => exact .pf (hok hi hf hv)⟩
    | _ => exact gen h
  | _ => exact gen h
theorem argCs_ok {md : Md} (cs : List C) : ∀ {K : List C → List Nat → Prop}, argCs md σ L cs K → ∃ cs' bs, K cs' bs ∧ (∀ b, b ∈ bs → look σ b ≠ .dead) ∧
    ∀ {w S inj inj' f vs}, Inv w S inj f → (∀ b, b ∈ bs → f b = look σ b) → Ren (fwd L) inj inj' → F2 (VR w S inj) cs vs → F2 (VR w (SB S inj bs) inj') cs' vs := by
  induction cs with
  | nil => intro K h; exact ⟨[], [], h, by simp, fun _ _ _ hv => by cases hv; exact .nil⟩
  | cons c cs ih =>
    intro K h
    change argC md σ L c (fun c bs => argCs md σ L cs fun cs bs' => K (c :: cs) (appR bs bs')) at h
    obtain ⟨c', bs, h, hnd, hok⟩ := argC_ok h
    obtain ⟨cs', bs', h, hnd', hok'⟩ := ih h
    rw [appR_eq] at h
    refine ⟨_, _, h, fun b hb => (List.mem_append.1 hb).elim (hnd b) (hnd' b), fun {w S inj inj' f vs} hi hf hR hv => ?_⟩
    cases hv with
    | cons hv hvs =>
      exact .cons ((hok hi (fun b hb => hf b (by simp [hb])) hR hv).sub fun _ => SB_app) ((hok' hi (fun b hb => hf b (by simp [hb])) hR hvs).mono' fun _ _ h => h.sub fun _ => SB_app')
theorem argA_ok {md : Md} {a : A} {K : A → List Nat → Prop} (h : argA md σ L a K) : ∃ a' bs, K a' bs ∧ (∀ b, b ∈ bs → look σ b ≠ .dead) ∧
    ∀ {w S inj inj' f v}, Inv w S inj f → (∀ b, b ∈ bs → f b = look σ b) → Ren (fwd L) inj inj' → VA w S inj a v → VA w (SB S inj bs) inj' a' v := by
  unfold argA at h
  cases a with
  | one c =>
    by_cases hc : c = .junk
    · subst hc
      exact ⟨_, _, h, by simp, fun _ _ _ _ => .one .junk⟩
    · obtain ⟨c', bs, h, hnd, hok⟩ := argC_ok h
      exact ⟨_, _, h, hnd, fun hi hf hR hv => .ofc (hok hi hf hR (hv.cellv hc))⟩
  | agg cs =>
    obtain ⟨cs', bs, h, hnd, hok⟩ := argCs_ok cs h
    refine ⟨_, _, h, hnd, fun hi hf hR hv => ?_⟩
    cases hv with
    | one hv => cases hv with | agg hv => exact .one (.agg (hok hi hf hR hv))
  | tup l => exact h.elim
theorem argAs_ok {md : Md} (xs : List A) : ∀ {K : List A → List Nat → Prop}, argAs md σ L xs K → ∃ ys bs, K ys bs ∧ (∀ b, b ∈ bs → look σ b ≠ .dead) ∧
    ∀ {w S inj inj' f vs}, Inv w S inj f → (∀ b, b ∈ bs → f b = look σ b) → Ren (fwd L) inj inj' → F2 (VA w S inj) xs vs → F2 (VA w (SB S inj bs) inj') ys vs := by
  induction xs with
  | nil => intro K h; exact ⟨[], [], h, by simp, fun _ _ _ hv => by cases hv; exact .nil⟩
  | cons c cs ih =>
    intro K h
    change argA md σ L c (fun c bs => argAs md σ L cs fun cs bs' => K (c :: cs) (appR bs bs')) at h
    obtain ⟨c', bs, h, hnd, hok⟩ := argA_ok h
    obtain ⟨cs', bs', h, hnd', hok'⟩ := ih h
    rw [appR_eq] at h
    refine ⟨_, _, h, fun b hb => (List.mem_append.1 hb).elim (hnd b) (hnd' b), fun {w S inj inj' f vs} hi hf hR hv => ?_⟩
    cases hv with
    | cons hv hvs =>
      exact .cons ((hok hi (fun b hb => hf b (by simp [hb])) hR hv).sub fun _ => SB_app) ((hok' hi (fun b hb => hf b (by simp [hb])) hR hvs).mono' fun _ _ h => h.sub fun _ => SB_app')

/-! ### Numberings -/
theorem idxN_none (l : List Nat) (b : Nat) : ∀ n, idxN l b n = none → b ∉ l := by
  induction l with
  | nil => intro n h; simp
  | cons a l ih =>
    intro n h
    change @Bool.rec (fun _ => Option Nat) (idxN l b (n + 1)) (some n) (Nat.beq a b) = none at h
    cases hb : Nat.beq a b with
    | true => rw [hb] at h; cases h
    | false =>
      rw [hb] at h
      have h1 := ih _ h
      have h2 := Nat.ne_of_beq_eq_false hb
      simp [h1, Ne.symm h2]
theorem fwd_none {l : List Nat} {b : Nat} (h : fwd l b = none) : b ∉ l := idxN_none l b 0 h
theorem fwd_of {l : List Nat} {b i : Nat} (hl : l.Nodup) (h : l[i]? = some b) : fwd l b = some i := by
  cases hf : fwd l b with
  | none => exact absurd (List.mem_of_getElem? h) (fwd_none hf)
  | some j =>
    have hj := fwd_some hf
    have hlt : j < l.length := (List.getElem?_eq_some_iff.1 hj).1
    rw [(List.getElem?_inj hlt hl).1 (hj.trans h.symm)]
theorem zip_find (L : List Nat) (b : Nat) : ∀ (n : Nat) (out : List Blk), L.length ≤ out.length → (zipR L out).find? (fun x => x.1 == b) = (idxN L b n).map fun i => (b, out.getD (i - n) .dead) := by
  induction L with
  | nil => intro n out h; rfl
  | cons a L ih =>
    intro n out h
    cases out with
    | nil => simp at h
    | cons o out =>
      change ((a, o) :: zipR L out).find? _ = (@Bool.rec (fun _ => Option Nat) (idxN L b (n + 1)) (some n) (Nat.beq a b)).map _
      cases hb : Nat.beq a b with
      | true =>
        have := Nat.eq_of_beq_eq_true hb
        subst this
        simp [List.find?_cons]
      | false =>
        have h2 := Nat.ne_of_beq_eq_false hb
        rw [List.find?_cons, show ((a, o).1 == b) = false from by simpa using h2]
        simp only
        rw [ih (n + 1) out (by simpa using h)]
        cases hi : idxN L b (n + 1) with
        | none => rfl
        | some i =>
          obtain ⟨j, hj, _⟩ := idxN_some _ _ _ _ hi
          simp only [Option.map_some]
          rw [show i - n = (i - (n + 1)) + 1 from by omega]
          simp
theorem upTo_eq (n : Nat) : upTo n = List.range n := by
  induction n with
  | zero => rfl
  | succ n ih =>
    change appR (upTo n) [n] = _
    rw [appR_eq, ih, List.range_succ]
theorem travF_ok {fuel : Nat} : ∀ {todo acc : List Nat} {k : List Nat → Prop}, acc.Nodup → travF σ fuel todo acc k → ∃ r, k (acc ++ r) ∧ (acc ++ r).Nodup := by
  induction fuel with
  | zero => intro todo acc k ha h; exact ⟨[], by rw [List.append_nil]; exact h, by rw [List.append_nil]; exact ha⟩
  | succ n ih =>
    intro todo acc k ha h
    cases todo with
    | nil => exact ⟨[], by rw [List.append_nil]; exact h, by rw [List.append_nil]; exact ha⟩
    | cons b todo =>
      change @Bool.rec (fun _ => Prop) (natF b fun b => appF acc [b] fun acc => travF σ n (appR (refsB (look σ b)) todo) acc k) (travF σ n todo acc k) (memN b acc) at h
      cases hm : memN b acc with
      | true => rw [hm] at h; exact ih ha h
      | false =>
        rw [hm] at h
        simp only [natF_eq, appF_eq] at h
        have hnb : b ∉ acc := fun hb => by rw [(memN_iff b acc).2 hb] at hm; cases hm
        obtain ⟨r, h, hr⟩ := ih (by simpa [List.nodup_append] using ⟨ha, fun a h e => hnb (e ▸ h)⟩) h
        exact ⟨b :: r, by simpa using h, by simpa using hr⟩
end Go.Proofs.Ytaiedakbmmgmaaa.E
