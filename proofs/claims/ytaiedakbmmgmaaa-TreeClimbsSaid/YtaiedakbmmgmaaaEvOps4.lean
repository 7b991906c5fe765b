/- Soundness of the operations, fourth part: owned slices laid open; stores. -/
import Derived.Test.YtaiedakbmmgmaaaEvOps3
set_option linter.unusedVariables false
set_option linter.unusedSimpArgs false
namespace Go.Proofs.Ytaiedakbmmgmaaa.E
open Go
variable {P : Program} {T : List TI} {t : List A} {σ : List Blk} {nx : Nat} {o : Oper} {K : Kont}

/-- what stays, where these owned slices are laid open -/
def SB (S : Zone) (inj : Nat → Loc) (bs : List Nat) : Zone := ⟨fun g => S g ∨ ∃ b, b ∈ bs ∧ (inj b).blk = some g, S.fr⟩
theorem SB_grow {w S inj bs} : Grow w S w (SB S inj bs) := ⟨rfl, rfl, rfl, Nat.le_refl _, fun _ _ => rfl, fun _ h => .inl h, rfl⟩
theorem PR.sub {w S S' c v} (h : PR w S c v) (hs : ∀ g, S g → S' g) : PR w S' c v := by
  induction h with
  | v hf => exact .v hf
  | @sl rows base cap k vals hcap hk hrow hb hc hv ih =>
    exact .sl vals hcap hk hrow (hb.imp id fun ⟨g, o, e, h⟩ => ⟨g, o, e, hs g h⟩) hc ih
/-- an owned slice as a pure one -/
theorem RowOk.pure {w S k l v g} (h : RowOk w S k l v g) {S' : Zone} (hs : ∀ g, S g → S' g) (hg : ∀ g', g = some g' → S' g') : PR w S' (.sl l) v := by
  rcases h with ⟨rfl, rfl, a, rfl⟩ | ⟨g', cap, cur, e, hk, rfl, rfl, _, hh, hcap, hmax, hsz, hrl, hfl⟩
  · exact .sl (k := 1) (fun _ _ => .nilFunc) (Nat.le_refl _) (by omega) (by simp) (.inl rfl) (fun g o _ i j hi => by simp at hi) (fun i j r c hr => by simp at hr)
  · have hb : ∀ {i j : Nat}, i < l.length → j < k → i * k + j < l.length * k ∧ i * k + j < cur.size := fun {i j} hi hj => by
      have : (i + 1) * k ≤ l.length * k := Nat.mul_le_mul_right _ hi
      have := Nat.mul_le_mul_right k hcap
      rw [Nat.add_mul] at *; omega
    refine .sl (k := k) (fun i j => cur.getD (i * k + j) .nilFunc) hcap hk hrl (.inr ⟨g', 0, rfl, hg _ rfl⟩) (fun g o e i j hi hj => ?_) (fun i j r c hr hc => ?_)
    · injection e with e; injection e with e1 e2; subst e1; subst e2
      have := (hb hi hj).2
      rw [Nat.zero_add]
      simp [World.cell?, hh, this]
    · have hi : i < l.length := by
        rcases Nat.lt_or_ge i l.length with h | h
        · exact h
        · rw [List.getElem?_eq_none h] at hr; cases hr
      have hj : j < k := by
        rw [← hrl _ (List.mem_of_getElem? hr)]
        rcases Nat.lt_or_ge j r.length with h | h
        · exact h
        · rw [List.getElem?_eq_none h] at hc; cases hc
      have hf := flatten_get hrl hr hj
      rw [hc] at hf
      obtain ⟨u, hu, hp⟩ := hfl.get hf
      rw [List.getElem?_take, if_pos (hb hi hj).1] at hu
      have : cur.getD (i * k + j) .nilFunc = u := by
        rw [Array.getD_eq_getD_getElem?]
        rw [Array.getElem?_toList] at hu
        rw [hu]; rfl
      rw [this]
      exact hp.sub hs
theorem rowsF_ok {c : C} {Kc : List (List PC) → List Nat → Prop} (h : rowsF σ c Kc) : ∃ l bs, Kc l bs ∧ ∀ {w S inj f v}, Inv w S inj f → (∀ b, b ∈ bs → f b = look σ b) → VR w S inj c v → PR w (SB S inj bs) (.sl l) v := by
  unfold rowsF at h
  split at h
  · refine ⟨_, _, h, fun {w S inj f v} hi hf hv => ?_⟩
    cases hv with | p hp => exact hp.sub fun _ h => .inl h
  · refine ⟨_, _, h, fun {w S inj f v} hi hf hv => ?_⟩
    rw [hv.nilv]
    exact .sl (k := 1) (fun _ _ => .nilFunc) (Nat.le_refl _) (by omega) (by simp) (.inl rfl) (fun g o _ i j hi => by simp at hi) (fun i j r c hr => by simp at hr)
  · rename_i b
    split at h
    · rename_i k l hb
      refine ⟨_, _, h, fun {w S inj f v} hi hf hv => ?_⟩
      obtain ⟨v', g, hg, hr⟩ := hi.rows ((hf b (by simp)).trans hb)
      rw [hv.ownv hg]
      exact hr.pure (fun _ h => .inl h) fun g' e => .inr ⟨b, by simp, by rw [hg]; exact e⟩
    · exact h.elim
  · exact h.elim
theorem nzF_ok {c : PC} {k : PC → Prop} (h : nzF c k) : ∃ c', k c' ∧ ∀ {w S v}, PR w S c v → PR w S c' v := by
  unfold nzF at h
  split at h
  · refine ⟨_, h, fun {w S v} hv => ?_⟩
    have hv' : v = .slice none 0 0 := (VR.p (inj := fun _ => .free) hv).nilv
    subst hv'
    exact .sl (k := 1) (fun _ _ => .nilFunc) (Nat.le_refl _) (by omega) (by simp) (.inl rfl) (fun g o _ i j hi => by simp at hi) (fun i j r c hr => by simp at hr)
  · exact ⟨_, h, fun hv => hv⟩
  · exact ⟨_, h, fun hv => hv⟩
theorem nzC_ok {c : C} {k : C → Prop} (h : nzC c k) : ∃ c', k c' ∧ ∀ {w S inj v}, VR w S inj c v → VR w S inj c' v := by
  unfold nzC at h
  split at h
  · obtain ⟨c', h, hp⟩ := nzF_ok h
    exact ⟨_, h, fun hv => by cases hv with | p hv => exact .p (hp hv)⟩
  · exact ⟨_, h, fun hv => hv⟩
theorem mapF_ok {α β : Type} {f : α → (β → Prop) → Prop} {R : α → β → Prop} (hf : ∀ a k, f a k → ∃ b, k b ∧ R a b) : ∀ {l : List α} {k : List β → Prop}, mapF f l k → ∃ l', k l' ∧ F2 R l l'
  | [], k, h => ⟨[], h, .nil⟩
  | a :: l, k, h => by
    obtain ⟨b, h, hb⟩ := hf a _ h
    obtain ⟨l', h, hl⟩ := mapF_ok hf h
    exact ⟨_, h, .cons hb hl⟩
theorem F2.comp {α β γ : Type} {R : α → β → Prop} {R' : α → γ → Prop} {R'' : β → γ → Prop} (hr : ∀ {a b c}, R a b → R' a c → R'' b c) {l : List α} {m : List β} (h : F2 R l m) : ∀ {n : List γ}, F2 R' l n → F2 R'' m n := by
  induction h with
  | nil => intro n h'; cases h'; exact .nil
  | cons h _ ih => intro n h'; cases h' with | cons h1 h2 => exact .cons (hr h h1) (ih h2)
theorem nzC_junk {k : C → Prop} (h : nzC .junk k) : k .junk := h
theorem nzA1_ok {a : A} {k : A → Prop} (h : nzA1 a k) : ∃ a', k a' ∧ ∀ {w S inj v}, VA1 w S inj a v → VA1 w S inj a' v := by
  unfold nzA1 at h
  split at h
  · rename_i c
    by_cases hj : c = .junk
    · subst hj
      exact ⟨_, nzC_junk h, fun hv => hv⟩
    · obtain ⟨c', h, hp⟩ := nzC_ok h
      exact ⟨_, h, fun hv => by cases hv with | one hv => exact .one (hp hv) | junk => exact absurd rfl hj⟩
  · obtain ⟨l', h, hp⟩ := mapF_ok (R := fun c c' => ∀ {w S inj v}, VR w S inj c v → VR w S inj c' v) (fun a k h => nzC_ok h) h
    exact ⟨_, h, fun hv => by cases hv with | agg hv => exact .agg (F2.comp (fun h h' => h h') hp hv)⟩
  · exact ⟨_, h, fun hv => hv⟩
theorem nzA_ok {a : A} {k : A → Prop} (h : nzA a k) : ∃ a', k a' ∧ ∀ {w S inj v}, VA w S inj a v → VA w S inj a' v := by
  cases a with
  | one c =>
    obtain ⟨a', h, hp⟩ := nzA1_ok (a := .one c) h
    exact ⟨_, h, fun hv => by cases hv with | one hv => exact .one (hp hv)⟩
  | agg l =>
    obtain ⟨a', h, hp⟩ := nzA1_ok (a := .agg l) h
    exact ⟨_, h, fun hv => by cases hv with | one hv => exact .one (hp hv)⟩
  | tup l =>
    obtain ⟨l', h, hp⟩ := mapF_ok (R := fun c c' => ∀ {w S inj v}, VA1 w S inj c v → VA1 w S inj c' v) (fun a k h => nzA1_ok h) h
    exact ⟨_, h, fun hv => by
      cases hv with
      | one hv => cases hv
      | tup hv => exact .tup (F2.comp (fun h h' => h h') hp hv)⟩
theorem toP_ok {c : C} {Kc : PC → List Nat → Prop} (h : toP σ c Kc) : ∃ p bs, Kc p bs ∧ (∀ b, b ∈ bs → look σ b ≠ .dead) ∧ ∀ {w S inj f v}, Inv w S inj f → (∀ b, b ∈ bs → f b = look σ b) → VR w S inj c v → PR w (SB S inj bs) p v := by
  unfold toP at h
  split at h
  · obtain ⟨c', h, hp'⟩ := nzF_ok h
    refine ⟨_, _, h, by simp, fun {w S inj f v} hi hf hv => ?_⟩
    cases hv with | p hp => exact (hp' hp).sub fun _ h => .inl h
  · rename_i b
    split at h
    · rename_i k l hb
      refine ⟨_, _, h, by simp [hb], fun {w S inj f v} hi hf hv => ?_⟩
      obtain ⟨v', g, hg, hr⟩ := hi.rows ((hf b (by simp)).trans hb)
      rw [hv.ownv hg]
      exact hr.pure (fun _ h => .inl h) fun g' e => .inr ⟨b, by simp, by rw [hg]; exact e⟩
    · exact h.elim
  · exact h.elim
theorem SB_app {S inj bs bs' g} : SB S inj bs g → SB S inj (bs ++ bs') g := fun h => h.imp id fun ⟨b, hb, e⟩ => ⟨b, by simp [hb], e⟩
theorem SB_app' {S inj bs bs' g} : SB S inj bs' g → SB S inj (bs ++ bs') g := fun h => h.imp id fun ⟨b, hb, e⟩ => ⟨b, by simp [hb], e⟩
theorem toPs_ok (cs : List C) : ∀ {Kc : List PC → List Nat → Prop}, toPs σ cs Kc → ∃ ps bs, Kc ps bs ∧ ps.length = cs.length ∧ (∀ b, b ∈ bs → look σ b ≠ .dead) ∧ ∀ {w S inj f vs}, Inv w S inj f → (∀ b, b ∈ bs → f b = look σ b) → F2 (VR w S inj) cs vs → F2 (PR w (SB S inj bs)) ps vs := by
  induction cs with
  | nil => intro Kc h; exact ⟨[], [], h, rfl, by simp, fun _ _ hv => by cases hv; exact .nil⟩
  | cons c cs ih =>
    intro Kc h
    change toP σ c (fun c bs => toPs σ cs fun cs bs' => Kc (c :: cs) (appR bs bs')) at h
    obtain ⟨p, bs, h, hnd, hok⟩ := toP_ok h
    obtain ⟨ps, bs', h, hl, hnd', hok'⟩ := ih h
    rw [appR_eq] at h
    refine ⟨_, _, h, by simp [hl], fun b hb => (List.mem_append.1 hb).elim (hnd b) (hnd' b), fun {w S inj f vs} hi hf hv => ?_⟩
    cases hv with
    | cons hv hvs =>
      exact .cons ((hok hi (fun b hb => hf b (by simp [hb])) hv).sub fun _ => SB_app) ((hok' hi (fun b hb => hf b (by simp [hb])) hvs).mono' fun _ _ h => h.sub fun _ => SB_app')

theorem bcF {b : Bool} {x : Prop} (h : bcase b x False) : b = true ∧ x := by cases b; exact h.elim; exact ⟨rfl, h⟩
/-! ### Stores -/
theorem upd_ws {f : Nat → Blk} {nx b : Nat} {B : Blk} {nw : List Blk} (hb : ¬ (nx ≤ b ∧ b < nx + nw.length)) : upd f nx [(b, B)] nw = setB (upd f nx [] nw) b B := by
  funext c
  by_cases h : c = b
  · subst h
    rw [setB_same]
    unfold upd
    rw [if_neg hb]
    simp
  · rw [setB_ne h]
    unfold upd
    by_cases h2 : nx ≤ c ∧ c < nx + nw.length
    · rw [if_pos h2, if_pos h2]
    · rw [if_neg h2, if_neg h2]
      have : ((b, B).1 == c) = false := by simp; exact fun e => h e.symm
      simp [List.find?_cons, this]
theorem upd_get {f : Nat → Blk} {nx b : Nat} {nw : List Blk} (hb : ¬ (nx ≤ b ∧ b < nx + nw.length)) : upd f nx [] nw b = f b := by
  unfold upd; rw [if_neg hb]; rfl
theorem Grow.setRow {w S g cs} (hs : ¬ S.all g) : Grow w S (w.setRow g cs) S := ⟨rfl, rfl, rfl, by simp, fun g' hg' => setRow_other w g g' cs (by rintro rfl; exact hs hg'), fun _ h => h, rfl⟩
/-- one block's row is written -/
theorem Inv.setRow {w S inj f b B g cs} (hi : Inv w S inj f) (hd : f b ≠ .dead) (hg : (inj b).blk = some g) (hB : BR (w.setRow g cs) S inj (inj b) B) : Inv (w.setRow g cs) S inj (setB f b B) := by
  have hs := ((hi.live b).blk hd hg)
  refine hi.set (.setRow hs.1) (.refl _) (fun _ _ => rfl) rfl (fun b' g' hne hd' hg' => ?_) hB (fun _ b' g' hne hd' hg1 hg2 => ?_) (fun g' hg' => by simp; exact hi.lt g' hg')
  · refine ⟨setRow_other w g g' cs ?_, ((hi.live b').blk hd' hg').1⟩
    rintro rfl
    exact hne (hi.sep _ _ _ hd' hd hg' hg)
  · exact hne (hi.sep _ _ _ hd' hd hg2 hg1)
theorem storeVar_run {x : TI} {s : Nat} (hI : InfoOk P s x) {w : World} {g p : Nat} {val : Value} {vs : List Value} (hval : val.cells = vs.toArray) (hl : vs.length = x.sz)
    {cur : Array Value} {e : TypeId} (hh : w.heap[g]? = some (.cells cur e (0, 0))) (hle : p + vs.length ≤ cur.size) (h1 : ∀ v ∈ vs, v.oneCell' = true) :
    (storeVar s ⟨g, p, none⟩ val).run P w = .ok () (w.setRow g (cur.toList.take p ++ vs ++ cur.toList.drop (p + vs.length)).toArray) := by
  have := run_storeCells_at P g p e vs 0 cur w hh (by simpa using hle) h1
  simp only [Nat.add_zero] at this
  simp [storeVar, hval, hI.size, hl, this]
theorem flat_set {α : Type} {k p : Nat} {r ps : List α} : ∀ (l : List (List α)) (i : Nat), (∀ r ∈ l, r.length = k) → l[i]? = some r → p + ps.length ≤ r.length →
    (l.set i (r.take p ++ ps ++ r.drop (p + ps.length))).flatten = l.flatten.take (i * k + p) ++ ps ++ l.flatten.drop (i * k + p + ps.length) := by
  intro l
  induction l with
  | nil => intro i _ h; simp at h
  | cons a l ih =>
    intro i hk h hp
    have ha := hk a (by simp)
    cases i with
    | zero =>
      simp at h; subst h
      simp only [List.set_cons_zero, List.flatten_cons, Nat.zero_mul, Nat.zero_add]
      rw [List.take_append_of_le_length (by omega), List.drop_append_of_le_length hp]
      simp
    | succ i =>
      simp at h
      simp only [List.set_cons_succ, List.flatten_cons]
      rw [ih i (fun r hr => hk r (by simp [hr])) h hp]
      rw [show (i + 1) * k + p = a.length + (i * k + p) from by rw [ha, Nat.add_mul]; omega]
      rw [Nat.add_assoc a.length, List.take_length_add_append, List.drop_length_add_append]
      simp
theorem take_mid {α : Type} (cur us : List α) (X M : Nat) (h1 : X + us.length ≤ M) (h2 : M ≤ cur.length) :
    (cur.take X ++ us ++ cur.drop (X + us.length)).take M = ((cur.take M).take X ++ us) ++ (cur.take M).drop (X + us.length) := by
  have e : (cur.take X ++ us).length = X + us.length := by simp; omega
  rw [List.take_append, List.take_of_length_le (by omega), e, List.drop_take, List.take_take, Nat.min_eq_left (by omega)]
theorem store_ok (hT : TOk P T) {s : Nat} {x y : Operand} (ho : o.op = .store s x y) (h : stepC T t σ nx (.store s x y) K) : StepOk P t σ nx o K := by
  have hmx : x ∈ o.op.operands := by simp [ho, Op.operands]
  have hmy : y ∈ o.op.operands := by simp [ho, Op.operands]
  have hrun : ∀ (a : Act) (w w' : World) (g p : Nat), a.eval x = .pointer (some ⟨g, p, none⟩) → (storeVar s ⟨g, p, none⟩ (a.eval y)).run P w = .ok () w' → (execOp a.eval o).run P w = .ok .skip w' := fun a w w' g p he hr => by
    unfold execOp; simp [ho, he, Instr.storeAt, Instr.sureAddr, hr]
  change storeC T σ nx s (opd t x) (opd t y) K at h
  unfold storeC at h
  obtain ⟨vc, hvc, h⟩ := cellsC_iff h
  obtain ⟨hsz, h⟩ := bcF h
  simp only [Bool.and_eq_true] at hsz
  have hlen := Nat.eq_of_beq_eq_true hsz.1
  rw [lenR_eq] at hlen
  have hsz1 := Nat.le_of_ble_eq_true hsz.2
  have hI := (hT s).known (by omega)
  split at h
  · rename_i b p hx
    split at h
    · rename_i cs hb
      obtain ⟨hle, h⟩ := bcF h
      have hle := Nat.le_of_ble_eq_true hle
      rw [lenR_eq] at hle
      obtain ⟨vs', nw, hk, hl', hok⟩ := ncS_ok _ _ _ h
      refine ⟨_, _, _, _, hk, fun a f w S inj next Q hop hf hi hfr hn => ?_⟩
      have hfb := (hf b (by simp)).trans hb
      obtain ⟨g, vs, e, hg, hs, hh, hvs⟩ := hi.box hfb
      have hv := hop x hmx
      rw [hx] at hv
      have he := (hv.cellv (by simp)).ptrv hg
      obtain ⟨us, hus, hfu⟩ := cells_of (hop y hmy) hvc
      have hul : us.length = (ty T s).sz := by rw [← hfu.len]; exact hlen
      have hvl : vs.length = cs.length := hvs.len.symm
      have hr := storeVar_run hI (w := w) (g := g) (p := p) hus hul hh (by simp; omega) (fun u hu => by
        obtain ⟨i, hi⟩ := List.getElem?_of_mem hu
        obtain ⟨c, _, hc⟩ := hfu.getR hi
        exact hc.oneCell)
      obtain ⟨inj1, hle1, hsame, hvs', hi1⟩ := hok hi hfu hfr
      have hbn : ¬ (nx ≤ b ∧ b < nx + nw.length) := fun hbb => by
        have := (hfr (b - nx) (by omega)).2
        rw [show nx + (b - nx) = b from by omega, hfb] at this
        cases this
      have hg1 : inj1 b = .box g := by rw [hsame b (by omega)]; exact hg
      have hd1 : upd f nx [] nw b = .box cs := by rw [upd_get hbn]; exact hfb
      refine wp_of_skip (hrun a w _ g p he hr) (hn _ _ S inj1 ⟨.setRow hs, hle1, fun c hc hcc => ?_, .tup (vs := []) .nil, ?_⟩)
      · rw [hsame c hcc]; exact hc
      · rw [upd_ws hbn]
        have hG : Grow w S (w.setRow g (vs.toArray.toList.take p ++ us ++ vs.toArray.toList.drop (p + us.length)).toArray) S := .setRow hs
        refine hi1.setRow (by rw [hd1]; simp) (by rw [hg1]; rfl) ?_
        rw [hg1]
        refine ⟨g, vs.take p ++ us ++ vs.drop (p + us.length), e, rfl, hs, by simpa using setRow_heap w g _ _ _ _ hh, ?_⟩
        rw [splice_eq _ _ _ (by omega)]
        have hcl : vs'.length = us.length := by omega
        have hvs1 := hvs.mono' (R' := VR (w.setRow g (vs.toArray.toList.take p ++ us ++ vs.toArray.toList.drop (p + us.length)).toArray) S inj1) fun _ _ h => h.grow hG hle1
        have hvs2 := hvs'.mono' (R' := VR (w.setRow g (vs.toArray.toList.take p ++ us ++ vs.toArray.toList.drop (p + us.length)).toArray) S inj1) fun _ _ h => h.grow hG (.refl _)
        rw [hcl]
        exact ((hvs1.take p).app hvs2).app (hvs1.drop _)
    · exact h.elim
  · rename_i b k i p hx
    split at h
    · rename_i k' l hb
      obtain ⟨hkk, h⟩ := bcF h
      simp only [Bool.and_eq_true] at hkk
      have hk' := Nat.eq_of_beq_eq_true hkk.2
      subst hk'
      obtain ⟨_, hrow⟩ := lenB_some hkk.1
      obtain ⟨ps, bs, h, hpl, _, hok⟩ := toPs_ok _ h
      cases bs with
      | cons _ _ => exact h.elim
      | nil =>
        rw [mapF_pF] at h
        obtain ⟨hle, h⟩ := bcF h
        have hle := Nat.le_of_ble_eq_true hle
        rw [lenR_eq] at hle
        refine ⟨_, _, _, _, h, fun a f w S inj next Q hop hf hi hfr hn => ?_⟩
        have hfb := (hf b (by simp)).trans hb
        obtain ⟨v0, g0, hg0, hro⟩ := hi.rows hfb
        have hv := hop x hmx
        rw [hx] at hv
        obtain ⟨g, n, c, hg, he⟩ := (hv.cellv (by simp)).epv (by rw [hg0]; simp)
        rw [hg0] at hg; injection hg with e1 e2; subst e1; subst e2
        obtain ⟨g', cap, cur, e, hk0, e3, e4, hs, hh, hcap, hmax, hsz', hrl, hfl⟩ := rowOk_cell hro (by rintro rfl; simp at hrow)
        injection e3 with e3; subst e3
        injection e4 with _ e5 e6
        subst e5; subst e6
        have hin : l[i]? = some (rowAt l i) := by simpa using hrow
        have hil : i < l.length := by
          rcases Nat.lt_or_ge i l.length with h | h
          · exact h
          · rw [List.getElem?_eq_none h] at hin; cases hin
        have hrk : (rowAt l i).length = k := hrl _ (List.mem_of_getElem? hin)
        have hbd : i * k + k ≤ l.length * k := by
          have : (i + 1) * k ≤ l.length * k := Nat.mul_le_mul_right _ hil
          rw [Nat.add_mul] at this; omega
        have hcm : l.length * k ≤ c * k := Nat.mul_le_mul_right _ hcap
        obtain ⟨us, hus, hfu⟩ := cells_of (hop y hmy) hvc
        have hul : us.length = (ty T s).sz := by rw [← hfu.len]; exact hlen
        have hpu := hok hi (by simp) hfu
        have hr := storeVar_run hI (w := w) (g := g) (p := i * k + p) hus hul hh (by omega) (fun u hu => by
          obtain ⟨i, hi⟩ := List.getElem?_of_mem hu
          obtain ⟨c, _, hc⟩ := hfu.getR hi
          exact hc.oneCell)
        refine wp_of_skip (hrun a w _ g _ he hr) (hn _ _ S inj ⟨.setRow hs, .refl _, fun c hc hcc => hc, .tup (vs := []) .nil, ?_⟩)
        rw [upd_ws (by simp), upd_nil]
        have hG : Grow w S (w.setRow g (cur.toList.take (i * k + p) ++ us ++ cur.toList.drop (i * k + p + us.length)).toArray) S := .setRow hs
        refine hi.setRow (by rw [hfb]; simp) (by rw [hg0]; rfl) ?_
        rw [hg0]
        have hpsl : ps.length = us.length := by omega
        refine ⟨_, _, rfl, .inr ⟨g, c, (cur.toList.take (i * k + p) ++ us ++ cur.toList.drop (i * k + p + us.length)).toArray, e, hk0, rfl, by rw [show (setRow l i (splice (rowAt l i) p ps)).length = l.length from by unfold setRow; simp], hs, setRow_heap w g _ _ _ _ hh, ?_, hmax, ?_, ?_, ?_⟩⟩
        · unfold setRow; simpa using hcap
        · simp; omega
        · intro r hr
          unfold setRow at hr
          rcases List.mem_or_eq_of_mem_set hr with hr | rfl
          · exact hrl _ hr
          · rw [splice_eq _ _ _ (by omega)]; simp; omega
        · have e1 : (setRow l i (splice (rowAt l i) p ps)).flatten = (l.flatten.take (i * k + p) ++ ps) ++ l.flatten.drop (i * k + p + ps.length) := by
            unfold setRow
            rw [splice_eq _ _ _ (by omega)]
            exact flat_set l i hrl hin (by omega)
          rw [e1]
          have hG' := hfl.mono' (R' := PR (w.setRow g (cur.toList.take (i * k + p) ++ us ++ cur.toList.drop (i * k + p + us.length)).toArray) S) fun _ _ h => h.grow hG
          have hpu' := hpu.mono' (R' := PR (w.setRow g (cur.toList.take (i * k + p) ++ us ++ cur.toList.drop (i * k + p + us.length)).toArray) S) fun _ _ h => (h.sub (S' := S) (fun g h => by rcases h with h | ⟨_, h, _⟩; exact h; simp at h)).grow hG
          have e2 : List.take ((setRow l i (splice (rowAt l i) p ps)).length * k) ((cur.toList.take (i * k + p) ++ us ++ cur.toList.drop (i * k + p + us.length)).toArray).toList
              = ((cur.toList.take (l.length * k)).take (i * k + p) ++ us) ++ (cur.toList.take (l.length * k)).drop (i * k + p + us.length) := by
            rw [show (setRow l i (splice (rowAt l i) p ps)).length = l.length from by unfold setRow; simp]
            exact take_mid _ _ _ _ (by omega) (by simp; omega)
          rw [e2, hpsl]
          exact ((hG'.take _).app hpu').app (hG'.drop _)
    · exact h.elim
  · exact h.elim
end Go.Proofs.Ytaiedakbmmgmaaa.E
