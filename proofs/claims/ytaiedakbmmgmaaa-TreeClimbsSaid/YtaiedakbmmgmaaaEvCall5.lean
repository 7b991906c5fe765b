/- Soundness of calls: all of it. -/
import Derived.Test.YtaiedakbmmgmaaaEvCall4
set_option linter.unusedVariables false
set_option linter.unusedSimpArgs false
namespace Go.Proofs.Ytaiedakbmmgmaaa.E
open Go
variable {P : Program} {T : List TI} {t : List A} {σ : List Blk} {nx : Nat} {L : List Nat} {I : Task → Prop}

theorem flatC_ok {c : C} (h : flatC c = true) {w S inj v} (hv : VR w S inj c v) {w' S' inj'} : VR w' S' inj' c v := by
  unfold flatC at h
  split at h
  · cases hv with | p hp => cases hp with | v hf => exact .p (.v hf)
  · cases h
theorem flatA1_ok {c : A} (h : flatA1 c = true) {w S inj v} (hv : VA1 w S inj c v) {w' S' inj'} : VA1 w' S' inj' c v := by
  unfold flatA1 at h
  cases hv with
  | one hv => exact .one (flatC_ok h hv)
  | agg hv =>
    simp only [allR_eq, List.all_eq_true] at h
    exact .agg (hv.mono fun c v hc h' => flatC_ok (h c hc) h')
  | junk => cases h
theorem flatA_ok {c : A} (h : flatA c = true) {w S inj v} (hv : VA w S inj c v) {w' S' inj'} : VA w' S' inj' c v := by
  unfold flatA at h
  cases hv with
  | one hv => cases hv with
    | one hv => exact .one (.one (flatC_ok h hv))
    | agg hv =>
      simp only [allR_eq, List.all_eq_true] at h
      exact .one (.agg (hv.mono fun c v hc h' => flatC_ok (h c hc) h'))
    | junk => cases h
  | tup hv =>
    simp only [allR_eq, List.all_eq_true] at h
    exact .tup (hv.mono fun c v hc h' => flatA1_ok (h c hc) h')
theorem flat_back {w S inj} {f : Nat → Blk} {bs : List Nat} {r r' : A} {v : Value} {w' : World} {S' : Zone} {inj' : Nat → Loc}
    (hi : Inv w S inj f) (hd : ∀ b, b ∈ bs → f b ≠ .dead) (hg : Grow w (zoneCe S inj f bs []) w' S') (hv : VA w' S' inj' r v) (hfl : flatA r = true) (hr : RenA (bwd []) r r') :
    Post w S inj f nx r' [] [] v w' S inj := by
  have hG : Grow w S w' S := by
    refine ⟨hg.os, hg.tape, hg.output, hg.size, fun g h => hg.heap g ?_, fun g h => h, rfl⟩
    rcases h with h | h
    · exact .inl (.inl h)
    · exact .inr (.inl h)
  refine ⟨hG, .refl _, fun b hb _ => hb, hr (inj := inj) (fun b i h => by cases bwd_some h) (flatA_ok hfl hv), ?_⟩
  rw [upd_nil]
  refine ⟨fun b => ?_, hi.sep, fun g h => Nat.lt_of_lt_of_le (hi.lt g h) hg.size, hi.dj⟩
  by_cases hfb : f b = .dead
  · rw [hfb]; trivial
  · refine (hi.live b).grow hG (.refl _) (fun g h => hg.heap g ?_) fun g h => ((hi.live b).blk hfb h).1
    by_cases hb : b ∈ bs
    · exact .inl (.inr ⟨b, hb, h⟩)
    · exact .inr (.inr ⟨b, hfb, by simp, hb, h⟩)

/-- I's calls are sound -/
def CallsOk (P : Program) (I : Task → Prop) : Prop := ∀ f xs σ Q, I (.call f xs σ Q) → ∃ r σ', Q r σ' ∧ CallOk P f xs σ r σ'
theorem callM_ok (hI : CallsOk P I) {md : Md} {f : Nat} {xs : List A} {K : Kont} (h : callM I md σ nx f xs K) : (∃ fn c, P.funcs[f]? = some fn ∧ fn.body = some c ∧ (fn.name == "runtime.NumGoroutine") = false) ∧ ∃ v ws nw rd, K v ws nw rd ∧
    ∀ {w S inj} {fB : Nat → Blk} {vs : List Value} {next : Value → World → Prop}, F2 (VA w S inj) xs vs → (∀ b, b ∈ rd ++ ws.map Prod.fst → fB b = look σ b) → Inv w S inj fB →
      (∀ b, b ∈ rd → look σ b ≠ .dead → b < nx) →
      (∀ i, i < nw.length → inj (nx + i) = .free ∧ fB (nx + i) = .dead) → (∀ v' w' S' inj', Post w S inj fB nx v ws nw v' w' S' inj' → next v' w') →
      Calls P f vs.toArray w fun e w' => ∃ v', e = .returned v' ∧ next v' w' := by
  unfold callM at h
  obtain ⟨L, h, hL⟩ := travF_ok (acc := []) (by simp) h
  rw [List.nil_append] at h hL
  obtain ⟨ys, bs, h, hnd, hok⟩ := argAs_ok xs h
  have hLn := (bcF h).1
  replace h := (bcF h).2
  simp only [allR_eq, List.all_eq_true] at hLn
  obtain ⟨σc, h, hσ⟩ := mapF_ex (R := fun b B' => (b ∈ bs → B' = .dead) ∧ (b ∉ bs → (look σ b = .dead → B' = .dead) ∧ RenB (fwd L) (look σ b) B')) (fun b hb k h => by
    unfold handB at h
    cases hm : memN b bs with
    | true => rw [hm] at h; exact ⟨_, h, fun _ => rfl, fun hn => absurd ((memN_iff b bs).1 hm) hn⟩
    | false =>
      rw [hm] at h
      have hn : b ∉ bs := fun hb => by rw [(memN_iff b bs).2 hb] at hm; cases hm
      obtain ⟨B', h, h1, h2⟩ := renB_ok h
      exact ⟨_, h, fun hb => absurd hb hn, fun _ => ⟨h1, h2⟩⟩) h
  obtain ⟨r, σc', h, hc⟩ := hI _ _ _ _ h
  have hle := (bcF h).1
  replace h := (bcF h).2
  simp only [lenR_eq, appR_eq] at h hle
  have hle := Nat.le_of_ble_eq_true hle
  obtain ⟨r', h, hr⟩ := renA_ok h
  obtain ⟨out, h, hout⟩ := mapF_ex (R := fun B B' => (B = .dead → B' = .dead) ∧ RenB (bwd (L ++ seqFrom nx (σc'.length - L.length))) B B') (fun B hB k h => by
    obtain ⟨B', h, h1, h2⟩ := renB_ok h
    exact ⟨_, h, h1, h2⟩) h
  have hlc : σc.length = L.length := hσ.len.symm
  -- the call itself
  have main : ∀ {w S inj} {fB : Nat → Blk} {vs : List Value}, F2 (VA w S inj) xs vs → (∀ b, b ∈ bs → fB b = look σ b) → (∀ b, b ∈ L → fB b = look σ b) → Inv w S inj fB →
      Calls P f vs.toArray w fun e w' => ∃ v S' inj', e = .returned v ∧ Done w (zoneCe S inj fB bs L) (injCe inj bs L) L.length r σc' v w' S' inj' := fun {w S inj fB vs} hv hf1 hf2 hi => by
    have hd : ∀ b, b ∈ bs → fB b ≠ .dead := fun b hb => by rw [hf1 b hb]; exact hnd b hb
    have hin := hand_inv (L := L) (σc := σc) hi hd hL (by
      refine hσ.mono fun b B' hb hbB => ?_
      rw [hf2 b hb]; exact hbB)
    have hR : Ren (fwd L) inj (injCe inj bs L) := fun b i hbi => by
      have := fwd_some hbi
      unfold injCe; rw [this]
      simp only
      by_cases hm : b ∈ bs
      · left; unfold kill; rw [if_pos hm]
      · right; exact kill_ne hm
    have hys := (hok hi hf1 hR hv).mono' fun a b h => h.sub (S' := zoneCe S inj fB bs L) fun g h => h
    have := hc.2 w (zoneCe S inj fB bs L) (injCe inj bs L) vs hys hin (fun b hb => by
      unfold injCe; rw [List.getElem?_eq_none (by omega)])
    rw [hlc] at this
    exact this
  rcases (bcase_iff _ _ _).1 h with ⟨hb, h'⟩ | ⟨hb, h'⟩
  · simp only [Bool.and_eq_true] at hb
    have ho0 : out.length = 0 := Nat.eq_of_beq_eq_true hb.1
    have hs0 : σc'.length = 0 := by rw [hout.len]; exact ho0
    have hL0 : L = [] := List.eq_nil_of_length_eq_zero (by omega)
    subst hL0
    refine ⟨hc.1, _, _, _, _, h', fun {w S inj fB vs next} hv hf hi hbn hfr hn => ?_⟩
    have hf1 : ∀ b, b ∈ bs → fB b = look σ b := fun b hb => hf b (by simp [hb])
    refine (main hv hf1 (by simp) hi).mono fun e w' ⟨v, S', inj', he, hD⟩ => ⟨v, he, hn _ _ _ _ (flat_back hi (fun b hb => by rw [hf1 b hb]; exact hnd b hb) hD.grow hD.val hb.2 ?_)⟩
    rw [hs0] at hr
    exact hr
  · simp only [takeR_eq, dropR_eq, mapR_eq, lenR_eq, appR_eq] at h'
    refine ⟨hc.1, _, _, _, _, h', fun {w S inj fB vs next} hv hf hi hbn hfr hn => ?_⟩
    have hf1 : ∀ b, b ∈ bs → fB b = look σ b := fun b hb => hf b (by simp [hb])
    have hf2 : ∀ b, b ∈ L → fB b = look σ b := fun b hb => hf b (by simp [hb])
    refine (main hv hf1 hf2 hi).mono fun e w' ⟨v, S', inj', he, hD⟩ => ⟨v, he, hn _ _ _ _ (back_ok hi (fun b hb => by rw [hf1 b hb]; exact hnd b hb) hL (fun b hb => Nat.le_of_ble_eq_true (hLn b hb))
      (fun b hb => hbn b (by simp [hb]) (hnd b hb)) (by omega) hD hr hout ?_)⟩
    intro i hi'
    refine hfr i ?_
    rw [List.length_drop, ← hout.len]; exact hi'
theorem callC_ok (hI : CallsOk P I) {f : Nat} {xs : List A} {K : Kont} (h : callC I σ nx f xs K) : (∃ fn c, P.funcs[f]? = some fn ∧ fn.body = some c ∧ (fn.name == "runtime.NumGoroutine") = false) ∧ ∃ v ws nw rd, K v ws nw rd ∧
    ∀ {w S inj} {fB : Nat → Blk} {vs : List Value} {next : Value → World → Prop}, F2 (VA w S inj) xs vs → (∀ b, b ∈ rd ++ ws.map Prod.fst → fB b = look σ b) → Inv w S inj fB →
      (∀ b, b ∈ rd → look σ b ≠ .dead → b < nx) →
      (∀ i, i < nw.length → inj (nx + i) = .free ∧ fB (nx + i) = .dead) → (∀ v' w' S' inj', Post w S inj fB nx v ws nw v' w' S' inj' → next v' w') →
      Calls P f vs.toArray w fun e w' => ∃ v', e = .returned v' ∧ next v' w' := by
  unfold callC at h
  cases hp : plainAs xs with
  | true => rw [hp] at h; exact callM_ok hI h
  | false =>
    rw [hp] at h
    rcases h with h | h | h <;> exact callM_ok hI h
end Go.Proofs.Ytaiedakbmmgmaaa.E
