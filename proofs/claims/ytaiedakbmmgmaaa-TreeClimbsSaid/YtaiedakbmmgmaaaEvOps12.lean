/- Soundness of the operations, twelfth part: slices of slices, literals, conversions; all operations together. -/
import Derived.Test.YtaiedakbmmgmaaaEvOps11
set_option linter.unusedVariables false
set_option linter.unusedSimpArgs false
namespace Go.Proofs.Ytaiedakbmmgmaaa.E
open Go
variable {P : Program} {T : List TI} {t : List A} {σ : List Blk} {nx : Nat} {o : Oper} {K : Kont}

theorem lenC_iff {l : List (List PC)} {j : Int} (h : lenC l j = true) : 0 ≤ j ∧ j ≤ (l.length : Int) := by
  unfold lenC at h; simpa using h
theorem rowsIn_len {l : List (List PC)} {a h : Int} (h0 : 0 ≤ a) (h1 : a ≤ h) (h2 : h ≤ (l.length : Int)) : (rowsIn l a h).length = h.toNat - a.toNat := by
  unfold rowsIn; simp; omega
/-- a part of a pure slice -/
theorem PR.part {w S l v} {sz : Nat} (hp : PR w S (.sl l) v) (hr : rowsOk l sz = true) {a h : Int} (h0 : 0 ≤ a) (h1 : a ≤ h) (h2 : h ≤ (l.length : Int)) {base : Option Addr} {cap : Nat} (hv : v = .slice base l.length cap) {m : Nat} (hm : h.toNat ≤ m) (hm2 : m ≤ cap) :
    PR w S (.sl (rowsIn l a h)) (.slice (if m = a.toNat then base else base.map (·.add (a.toNat * sz))) (h.toNat - a.toNat) (m - a.toNat)) := by
  cases hp with
  | @sl _ base' cap' k vals hcap hk hrw hb hc hvv =>
    injection hv with e1 _ e3
    subst e1; subst e3
    have hlen := rowsIn_len h0 h1 h2
    rw [← hlen]
    by_cases he : rowsIn l a h = []
    · rw [he]
      exact .sl (k := 1) (fun _ _ => .nilFunc) (Nat.zero_le _) (by omega) (by simp) (.inl rfl) (fun g o _ i j hi => by simp at hi) (fun i j r c hr => by simp at hr)
    · have hne : a.toNat < h.toNat := by
        have : (rowsIn l a h).length ≠ 0 := fun hx => he (List.eq_nil_of_length_eq_zero hx)
        omega
      have hlne : l ≠ [] := by rintro rfl; simp at h2; omega
      obtain ⟨g, p, rfl, hS⟩ := hb.resolve_left hlne
      have hks : k = sz := by
        have hr' := rowsOk_iff hr
        cases l with
        | nil => exact absurd rfl hlne
        | cons r l => rw [← hrw r (by simp), hr' r (by simp)]
      subst hks
      rw [if_neg (by omega)]
      simp only [Option.map_some, addr_add]
      have hget : ∀ i r, (rowsIn l a h)[i]? = some r → l[a.toNat + i]? = some r := fun i r hi => by
        unfold rowsIn at hi
        rw [List.getElem?_drop, List.getElem?_take] at hi
        split at hi
        · exact hi
        · cases hi
      refine .sl (k := k) (fun i j => vals (a.toNat + i) j) (by omega) hk (fun r hr => ?_) (.inr ⟨g, _, rfl, hS⟩) (fun g' p' e i j hi hj => ?_) (fun i j r c hi hj => hvv _ _ _ _ (hget i r hi) hj)
      · obtain ⟨i, hi⟩ := List.getElem?_of_mem hr
        exact hrw r (List.mem_of_getElem? (hget i r hi))
      · injection e with e; injection e with e1 e2; subst e1; subst e2
        have := hc g p rfl (a.toNat + i) j (by omega) hj
        rw [← this]
        congr 2
        rw [Nat.add_mul]; omega
theorem pRows_ok {c : C} {Kc : List (List PC) → Prop} (h : pRows c Kc) : ∃ l, Kc l ∧ c ≠ .junk ∧ ∀ {w S inj v}, VR w S inj c v → PR w S (.sl l) v := by
  unfold pRows at h
  split at h
  · exact ⟨_, h, by simp, fun hv => by cases hv with | p hp => exact hp⟩
  · refine ⟨_, h, by simp, fun hv => ?_⟩
    rw [hv.nilv]
    exact .sl (k := 1) (fun _ _ => .nilFunc) (Nat.le_refl _) (by omega) (by simp) (.inl rfl) (fun g o _ i j hi => by simp at hi) (fun i j r c hr => by simp at hr)
  · exact h.elim
def OptV (i : Option Int) (v : Option Value) : Prop := (i = none ∧ v = none) ∨ ∃ k n, i = some n ∧ v = some (.int k n)
theorem sliceC_ok (hT : TOk P T) {s e : Nat} {x : Operand} {lo hi mx : Option Operand} {c : C} {a b m : Option Int} (hmx : x ∈ o.op.operands) (hx : opd t x = .one c) (hD : P.underlying s = some (.slice e))
    (hrun : ∀ (ac : Act) (w : World) v, (Instr.sliceAt s (ac.eval x) (lo.map ac.eval) (hi.map ac.eval) (mx.map ac.eval)).run P w = .ok v w → (execOp ac.eval o).run P w = .ok (.value v) w)
    (hla : ∀ {w S inj} {ac : Act}, (∀ x, x ∈ o.op.operands → VA w S inj (opd t x) (ac.eval x)) → ∃ v : Option Value, lo.map ac.eval = v ∧ OptV a v)
    (hlb : ∀ {w S inj} {ac : Act}, (∀ x, x ∈ o.op.operands → VA w S inj (opd t x) (ac.eval x)) → ∃ v : Option Value, hi.map ac.eval = v ∧ OptV b v)
    (hlm : ∀ {w S inj} {ac : Act}, (∀ x, x ∈ o.op.operands → VA w S inj (opd t x) (ac.eval x)) → ∃ v : Option Value, mx.map ac.eval = v ∧ OptV m v)
    (h : sliceC T σ nx e c a b m K) : StepOk P t σ nx o K := by
  have lo_of : ∀ {v : Option Value} {a : Option Int}, OptV a v → (v = none ∧ a.getD 0 = 0) ∨ ∃ k, v = some (.int k (a.getD 0)) := fun {v a} hv => by
    rcases hv with ⟨rfl, rfl⟩ | ⟨k, n, rfl, rfl⟩
    · exact .inl ⟨rfl, rfl⟩
    · exact .inr ⟨k, rfl⟩
  unfold sliceC at h
  have hse := Nat.le_of_ble_eq_true (bcF h).1
  replace h := (bcF h).2
  have hIe := (hT e).known (by omega)
  split at h
  · -- the first part of an owned slice
    rename_i bb hh
    split at h
    · rename_i k l hb
      obtain ⟨hc, h⟩ := bcF h
      simp only [Bool.and_eq_true] at hc
      obtain ⟨hl0, hl1⟩ := lenC_iff hc.1
      refine ⟨_, _, _, _, h, fun ac f w S inj next Q hop hf hi' hfr hn => ?_⟩
      have hfb := (hf bb (by simp)).trans hb
      have hv := hop x hmx
      rw [hx] at hv
      obtain ⟨v0, g0, hg0, hro⟩ := hi'.rows hfb
      have he := (hv.cellv (by simp)).ownv hg0
      obtain ⟨v1, hv1, hc1⟩ := hla hop
      obtain ⟨v2, hv2, hc2⟩ := hlb hop
      obtain ⟨v3, hv3, hc3⟩ := hlm hop
      have hc3 : v3 = none := by rcases hc3 with ⟨_, h⟩ | ⟨_, _, h, _⟩; exact h; cases h
      subst hc3
      obtain ⟨k2, hc2⟩ : ∃ k, v2 = some (.int k hh) := by
        rcases hc2 with ⟨h, _⟩ | ⟨k, n, h1, h2⟩
        · cases h
        · injection h1 with h1; subst h1; exact ⟨k, h2⟩
      subst hc2
      have h00 : inj nx = .free ∧ f nx = .dead := by simpa using hfr 0 (by simp)
      have hbn : bb ≠ nx := by rintro rfl; rw [hfb] at h00; cases h00.2
      have hid := hi'.drop (b := bb)
      have hfree : injAt inj bb .dead nx = .free := by rw [injAt_ne (Ne.symm hbn)]; exact h00.1
      -- the value
      obtain ⟨ad, cap, e0, hcap⟩ : ∃ ad cap, v0 = .slice ad l.length cap ∧ l.length ≤ cap := by
        rcases hro with ⟨rfl, _, ad, rfl⟩ | ⟨g', cap, cur, e', hk0, _, rfl, _, _, hcap, _⟩
        · exact ⟨ad, 0, rfl, Nat.le_refl _⟩
        · exact ⟨_, _, rfl, hcap⟩
      have hbr := bounds_run (P := P) (isSlice := true) (len := l.length) (cap := cap) (lo := v1) (hi := some (.int k2 hh)) (mx := none) (a := 0) (h := hh) (m := cap) w
        (by have := lo_of hc1; simpa using this) (.inr ⟨k2, rfl⟩) (.inl ⟨rfl, rfl⟩) (Int.le_refl _) hl0 (by omega) (Int.le_refl _)
      have hrv : (Instr.sliceAt s (ac.eval x) (lo.map ac.eval) (hi.map ac.eval) (mx.map ac.eval)).run P w = .ok (.slice ad hh.toNat cap) w := by
        rw [hv1, hv2, hv3, he, e0]
        have hsz := hIe.size w
        simp only [Int.toNat_natCast, Int.toNat_zero] at hbr
        by_cases hc0 : cap = 0
        · subst hc0; simp [Instr.sliceAt, Instr.slice, run_underlying hD, hbr, hsz]
        · cases ad with
          | none => simp [Instr.sliceAt, Instr.slice, run_underlying hD, hbr, hsz, hc0]
          | some ad => simp [Instr.sliceAt, Instr.slice, run_underlying hD, hbr, hsz, hc0, Addr.add]
      have hR : RowOk w S k (rowsIn l 0 hh) (.slice ad hh.toNat cap) g0 := by
        have hlen : (rowsIn l 0 hh).length = hh.toNat := by rw [rowsIn_len (Int.le_refl _) hl0 hl1]; simp
        rcases hro with ⟨rfl, rfl, ad', e1⟩ | ⟨g', cap', cur, e', hk0, rfl, e1, hnS, hh', hcap', hmax, hcs, hrl, hfl⟩
        · rw [e1] at e0; injection e0 with e2 _ e3; subst e2; subst e3
          have : hh.toNat = 0 := by simp at hl1; omega
          rw [this]
          exact .inl ⟨by unfold rowsIn; simp, rfl, _, rfl⟩
        · rw [e1] at e0; injection e0 with e2 _ e3; subst e2; subst e3
          refine .inr ⟨g', _, cur, e', hk0, rfl, by rw [hlen], hnS, hh', by rw [hlen]; omega, hmax, hcs, fun r hr => ?_, ?_⟩
          · refine hrl r ?_
            unfold rowsIn at hr
            simp at hr
            exact List.mem_of_mem_take hr
          · have e3 : (rowsIn l 0 hh).flatten = l.flatten.take (hh.toNat * k) := by
              unfold rowsIn
              simp only [Int.toNat_zero, List.drop_zero]
              have h1 : (l.take hh.toNat).flatten.length = hh.toNat * k := by
                rw [flatten_len (fun r hr => hrl r (List.mem_of_mem_take hr)), List.length_take, Nat.min_eq_left (by omega)]
              conv => rhs; rw [← List.take_append_drop hh.toNat l, List.flatten_append, ← h1, List.take_left]
            rw [e3, hlen]
            have := hfl.take (hh.toNat * k)
            rw [List.take_take, Nat.min_eq_left (Nat.mul_le_mul_right _ (by omega))] at this
            exact this
      have hle := injAt_le (l := .row (.slice ad hh.toNat cap) g0) hfree
      refine wp_of_value (hrun ac w _ hrv) (hn _ _ S (injAt (injAt inj bb .dead) nx (.row (.slice ad hh.toNat cap) g0)) ⟨.refl _ _, injAt_dead.trans hle, fun c' hc' hcc => ?_, .ofc (.own (.inr ⟨_, injAt_same⟩)), ?_⟩)
      · rw [injAt_ne (by simp at hcc; omega), injAt_ne (by rintro rfl; rw [hg0] at hc'; cases hc')]; exact hc'
      · have hupd : upd f nx [(bb, .dead)] [.rows k (rowsIn l 0 hh)] = setB (setB f bb .dead) nx (.rows k (rowsIn l 0 hh)) := by
          have := upd_kill_one f nx [bb] (.rows k (rowsIn l 0 hh))
          simp only [List.map_cons, List.map_nil] at this
          rw [this]
          congr 1
          funext c
          by_cases hcb : c = bb
          · subst hcb; rw [killB_dead (by simp), setB_same]
          · rw [killB_ne (by simpa using hcb), setB_ne hcb]
        rw [hupd]
        refine hid.set (.refl _ _) hle (fun _ h => injAt_ne h) injAt_same (fun b' g' hb' hd' hg' => ⟨rfl, ((hid.live b').blk hd' hg').1⟩) ⟨_, _, rfl, hR⟩ (fun _ b' g' hb' hd' hg1 hg2 => ?_) hi'.lt
        have hbb : b' ≠ bb := by rintro rfl; rw [setB_same] at hd'; exact hd' rfl
        rw [setB_ne hbb] at hd'
        rw [injAt_ne hbb] at hg2
        exact hbb (hi'.sep b' bb g' hd' (by rw [hfb]; simp) hg2 (by rw [hg0]; exact hg1))
    · exact h.elim
  · rename_i hne
    obtain ⟨l, h, hcj, hok⟩ := pRows_ok h
    obtain ⟨hc, h⟩ := bcF h
    simp only [Bool.and_eq_true] at hc
    obtain ⟨⟨⟨hc1, hc2⟩, hc3⟩, hc4⟩ := hc
    obtain ⟨hl0, hl1⟩ := lenC_iff hc1
    unfold leI at hc2 hc3
    simp only [decide_eq_true_eq] at hc2 hc3
    -- the value of the slice, whatever the third bound is
    have hval : ∀ {ac : Act} {w : World} {S inj f}, (∀ x, x ∈ o.op.operands → VA w S inj (opd t x) (ac.eval x)) → Inv w S inj f → (∀ mm, m = some mm → mm = b.getD (lenL l) ∧ b.isSome = true) →
        ∃ base cap, ∃ mn : Nat, ac.eval x = .slice base l.length cap ∧ PR w S (.sl l) (.slice base l.length cap) ∧ (b.getD (lenL l)).toNat ≤ mn ∧ mn ≤ cap ∧ (m.isSome = true → mn = (b.getD (lenL l)).toNat) ∧
          (execOp ac.eval o).run P w = .ok (.value (.slice (if mn = (a.getD 0).toNat then base else base.map (·.add ((a.getD 0).toNat * (ty T e).sz))) ((b.getD (lenL l)).toNat - (a.getD 0).toNat) (mn - (a.getD 0).toNat))) w := by
      intro ac w S inj f hop hi' hmm
      have hv := hop x hmx
      rw [hx] at hv
      have hp := hok (hv.cellv hcj)
      obtain ⟨base, cap, he, hcap⟩ := slice_shape hp
      rw [he] at hp
      obtain ⟨v1, hv1, hc1'⟩ := hla hop
      obtain ⟨v2, hv2, hc2'⟩ := hlb hop
      obtain ⟨v3, hv3, hc3'⟩ := hlm hop
      have hsz := hIe.size w
      cases m with
      | none =>
        have hc3 : v3 = none := by rcases hc3' with ⟨_, h⟩ | ⟨_, _, h, _⟩; exact h; cases h
        subst hc3
        have hbr := bounds_run (P := P) (isSlice := true) (len := l.length) (cap := cap) (lo := v1) (hi := v2) (mx := none) (a := a.getD 0) (h := b.getD (lenL l)) (m := cap) w (lo_of hc1')
          (by rcases hc2' with ⟨rfl, rfl⟩ | ⟨k, n, rfl, rfl⟩; exact .inl ⟨rfl, rfl, rfl⟩; exact .inr ⟨k, rfl⟩) (.inl ⟨rfl, rfl⟩) hc2 hc3 (by omega) (Int.le_refl _)
        refine ⟨base, cap, cap, he, hp, by omega, Nat.le_refl _, by simp, hrun ac w _ ?_⟩
        rw [hv1, hv2, hv3, he]
        simp only [Int.toNat_natCast] at hbr
        simp [Instr.sliceAt, Instr.slice, run_underlying hD, hbr, hsz]
      | some mm =>
        obtain ⟨hm1, hm2⟩ := hmm mm rfl
        obtain ⟨k3, hv3'⟩ : ∃ k, v3 = some (.int k mm) := by
          rcases hc3' with ⟨h, _⟩ | ⟨k, n, h1, h2⟩
          · cases h
          · injection h1 with h1; subst h1; exact ⟨k, h2⟩
        subst hv3'
        have hbr := bounds_run (P := P) (isSlice := true) (len := l.length) (cap := cap) (lo := v1) (hi := v2) (mx := some (.int k3 mm)) (a := a.getD 0) (h := b.getD (lenL l)) (m := mm) w (lo_of hc1')
          (by rcases hc2' with ⟨rfl, rfl⟩ | ⟨k, n, rfl, rfl⟩; simp at hm2; exact .inr ⟨k, rfl⟩) (.inr ⟨k3, rfl⟩) hc2 hc3 (by omega) (by omega)
        refine ⟨base, cap, mm.toNat, he, hp, by omega, by omega, fun _ => by rw [hm1], hrun ac w _ ?_⟩
        rw [hv1, hv2, hv3, he]
        simp [Instr.sliceAt, Instr.slice, run_underlying hD, hbr, hsz]
    have hpure : K (.one (.p (.sl (rowsIn l (a.getD 0) (b.getD (lenL l)))))) [] [] [] → (∀ mm, m = some mm → mm = b.getD (lenL l) ∧ b.isSome = true) → StepOk P t σ nx o K := fun hk hmm =>
      ok_pure hk fun ac f w S inj hop hf hi' => by
        obtain ⟨base, cap, mn, he, hp, h1, h2, _, hr⟩ := hval hop hi' hmm
        exact ⟨_, hr, .ofc (.p (hp.part hc4 hc2 hc3 hl1 rfl h1 h2))⟩
    cases m with
    | none => exact hpure h (by simp)
    | some mm =>
      dsimp only at h
      obtain ⟨hm, h⟩ := bcF h
      simp only [Bool.and_eq_true] at hm
      have hm1 : mm = b.getD (lenL l) := by simpa [eqI] using hm.1
      have hmm : ∀ m', some mm = some m' → m' = b.getD (lenL l) ∧ b.isSome = true := fun m' e => by injection e with e; subst e; exact ⟨hm1, hm.2⟩
      rw [bcase_iff] at h
      rcases h with ⟨hah, h⟩ | ⟨_, h⟩
      · have hah : a.getD 0 = b.getD (lenL l) := by simpa [eqI] using hah
        refine ⟨_, _, _, _, h, fun ac f w S inj next Q hop hf hi' hfr hn => ?_⟩
        obtain ⟨base, cap, mn, he, hp, h1, h2, h3, hr⟩ := hval hop hi' hmm
        have h3 := h3 rfl
        rw [hah, h3, Nat.sub_self, if_pos rfl] at hr
        have h00 : inj nx = .free ∧ f nx = .dead := by simpa using hfr 0 (by simp)
        refine wp_of_value hr (hn _ w S (injAt inj nx (.row (.slice base 0 0) none)) ⟨.refl _ _, injAt_le h00.1, fun b hb hb' => ?_, .ofc (.own (.inr ⟨none, by rw [injAt_same]⟩)), ?_⟩)
        · rw [injAt_ne (by simp at hb'; omega)]; exact hb
        · rw [upd_one]; exact hi'.ghost h00.1 rfl ⟨_, _, rfl, .inl ⟨rfl, rfl, base, rfl⟩⟩
      · exact hpure h hmm
theorem slice_ok (hT : TOk P T) {s : Nat} {x : Operand} {lo hi mx : Option Operand} (ho : o.op = .slice s x lo hi mx) (h : stepC T t σ nx (.slice s x lo hi mx) K) : StepOk P t σ nx o K := by
  have hmx : x ∈ o.op.operands := by simp [ho, Op.operands]
  have hml : ∀ y, lo = some y → y ∈ o.op.operands := fun y hy => by subst hy; simp [ho, Op.operands]
  have hmh : ∀ y, hi = some y → y ∈ o.op.operands := fun y hy => by subst hy; simp [ho, Op.operands]
  have hmm : ∀ y, mx = some y → y ∈ o.op.operands := fun y hy => by subst hy; simp [ho, Op.operands]
  dsimp only [stepC] at h
  obtain ⟨a, h, hla⟩ := valI_ok h
  obtain ⟨b, h, hlb⟩ := valI_ok h
  obtain ⟨m, h, hlm⟩ := valI_ok h
  have hrun : ∀ (ac : Act) (w : World) v, (Instr.sliceAt s (ac.eval x) (lo.map ac.eval) (hi.map ac.eval) (mx.map ac.eval)).run P w = .ok v w → (execOp ac.eval o).run P w = .ok (.value v) w := fun ac w v hr => by
    unfold execOp; simp [ho, hr]
  split at h
  · -- a text
    rename_i u hd hx
    have hD := ((hT s).desc (by rw [hd]; simp)).d
    rw [hd] at hD
    split at h
    · obtain ⟨hb, h⟩ := bcF h
      simp only [Bool.and_eq_true] at hb
      obtain ⟨⟨h1, h2⟩, h3⟩ := hb
      unfold inC lenS at h1
      unfold leI at h2 h3
      unfold lenS at h3
      simp only [decide_eq_true_eq] at h1 h2 h3
      refine ok_val h rfl fun ac f w S inj hop hf hi' => ?_
      have hv := hop x hmx
      rw [hx] at hv
      obtain ⟨v1, hv1, hc1⟩ := hla fun y hy => hop y (hml y hy)
      obtain ⟨v2, hv2, hc2⟩ := hlb fun y hy => hop y (hmh y hy)
      obtain ⟨v3, hv3, hc3⟩ := hlm fun y hy => hop y (hmm y hy)
      refine hrun ac w _ ?_
      rw [hv1, hv2, hv3, hv.flatv.1]
      have hc3 : v3 = none := by rcases hc3 with ⟨_, h⟩ | ⟨_, _, h, _⟩; exact h; cases h
      subst hc3
      have hbr := bounds_run (P := P) (isSlice := false) (len := u.size) (cap := u.size) (lo := v1) (hi := v2) (mx := none) (a := a.getD 0) (h := b.getD (lenS u)) (m := u.size) w
        (by rcases hc1 with ⟨rfl, rfl⟩ | ⟨k, n, rfl, rfl⟩; exact .inl ⟨rfl, rfl⟩; exact .inr ⟨k, rfl⟩)
        (by rcases hc2 with ⟨rfl, rfl⟩ | ⟨k, n, rfl, rfl⟩; exact .inl ⟨rfl, rfl, rfl⟩; exact .inr ⟨k, rfl⟩) (.inl ⟨rfl, rfl⟩) h2 (by unfold lenS; exact h3) (by unfold lenS; exact h1.2) (Int.le_refl _)
      simp [Instr.sliceAt, Instr.slice, run_underlying hD, hbr, subS]
    · exact h.elim
  · -- a slice
    rename_i e c hd hx
    have hD := ((hT s).desc (by rw [hd]; simp)).d
    rw [hd] at hD
    exact sliceC_ok hT hmx hx hD hrun (fun hop => hla fun y hy => hop y (hml y hy)) (fun hop => hlb fun y hy => hop y (hmh y hy)) (fun hop => hlm fun y hy => hop y (hmm y hy)) h
  · exact h.elim
end Go.Proofs.Ytaiedakbmmgmaaa.E
