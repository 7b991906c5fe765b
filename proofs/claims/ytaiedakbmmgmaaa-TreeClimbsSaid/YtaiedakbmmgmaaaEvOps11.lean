/- Soundness of the operations, eleventh part: slices of slices, literals, conversions, the builtins; all operations together. -/
import Derived.Test.YtaiedakbmmgmaaaEvOps10
set_option linter.unusedVariables false
set_option linter.unusedSimpArgs false
namespace Go.Proofs.Ytaiedakbmmgmaaa.E
open Go
variable {P : Program} {T : List TI} {t : List A} {σ : List Blk} {nx : Nat} {o : Oper} {K : Kont}

theorem slice_shape {w S l v} (h : PR w S (.sl l) v) : ∃ base cap, v = .slice base l.length cap ∧ l.length ≤ cap := by
  cases h with | sl vals hcap => exact ⟨_, _, rfl, hcap⟩
theorem rowsF_src {x : TI} {c : C} {Kc : List (List PC) → List Nat → Prop} (h : rowsF σ c Kc) : ∃ l bs, Kc l bs ∧ c ≠ .junk ∧
    (rowsOk l x.sz = true → 0 < x.sz → ∀ {w S inj f v}, Inv w S inj f → (∀ b, b ∈ bs → f b = look σ b) → VR w S inj c v → ∃ us, Src P w x.sz l.length v us ∧ F2 (PR w S) l.flatten us) := by
  unfold rowsF at h
  split at h
  · refine ⟨_, _, h, by simp, fun hr hz {w S inj f v} hi hf hv => ?_⟩
    cases hv with | p hp => exact src_sl hp hr hz
  · refine ⟨_, _, h, by simp, fun hr hz {w S inj f v} hi hf hv => ?_⟩
    rw [hv.nilv]
    exact ⟨[], ⟨fun w' => by simp [Builtin.lenOf], by simp [Builtin.firstCells], by simp [Builtin.firstCells], by simp, by simp⟩, .nil⟩
  · rename_i b
    split at h
    · rename_i k l hb
      refine ⟨_, _, h, by simp, fun hr hz {w S inj f v} hi hf hv => ?_⟩
      obtain ⟨v', g, hg, hro⟩ := hi.rows ((hf b (by simp)).trans hb)
      rw [hv.ownv hg]
      rcases hro with ⟨rfl, rfl, ad, rfl⟩ | ⟨g', cap, cur, e', hk0, rfl, rfl, hnS, hh, hcap, hmax, hcs, hrl, hfl⟩
      · exact ⟨[], ⟨fun w' => by simp [Builtin.lenOf], by cases ad <;> simp [Builtin.firstCells, loadCells, loadCellsFrom], by cases ad <;> simp [Builtin.firstCells, loadCells, loadCellsFrom], by simp, by simp⟩, .nil⟩
      · by_cases hl : l = []
        · subst hl
          exact ⟨[], ⟨fun w' => by simp [Builtin.lenOf], by simp [Builtin.firstCells, loadCells, loadCellsFrom], by simp [Builtin.firstCells, loadCells, loadCellsFrom], by simp, by simp⟩, .nil⟩
        · have hkx : k = x.sz := by
            have hr' := rowsOk_iff hr
            cases l with
            | nil => exact absurd rfl hl
            | cons r l => rw [← hrl r (by simp), hr' r (by simp)]
          subst hkx
          have hcell : ∀ j u, (cur.toList.take (l.length * x.sz))[j]? = some u → w.cell? ((⟨g', 0, none⟩ : Addr).add j) = some u := fun j u hj => by
            rw [List.getElem?_take] at hj
            split at hj
            · rw [addr_add, Nat.zero_add]; simpa [World.cell?, hh] using hj
            · cases hj
          have hle : (cur.toList.take (l.length * x.sz)).length = l.length * x.sz := by
            have : l.length * x.sz ≤ cap * x.sz := Nat.mul_le_mul_right _ hcap
            simp; omega
          refine ⟨_, ⟨fun w' => by simp [Builtin.lenOf], run_firstCells_some w _ _ _ _ _ _ hle hcell, run_firstCells_some w.drew _ _ _ _ _ _ hle (by simpa using hcell), hle, fun u hu => ?_⟩, hfl⟩
          obtain ⟨i, hi⟩ := List.getElem?_of_mem hu
          obtain ⟨c, _, hc'⟩ := hfl.getR hi
          exact hc'.one
    · exact h.elim
  · exact h.elim

theorem Inv.mpB {w S inj f b es} (hi : Inv w S inj f) (hb : f b = .mp es) : ∃ g entries clock, inj b = .mp g ∧ ¬ S.all g ∧ w.heap[g]? = some (.map entries clock) ∧ F2 (fun (x : Value × A) (m : MapEntry) => m.key = x.1 ∧ VA1 w S inj x.2 m.val) es entries.toList := by
  have := hi.live b
  rw [hb] at this
  exact this
theorem VR.mpv {w S inj b v g} (h : VR w S inj (.mp b) v) (hb : inj b = .mp g) : v = .map (some g) := by
  cases h with
  | mp h =>
    rcases h with h | ⟨g', h, rfl⟩
    · rw [hb] at h; cases h
    · rw [hb] at h; injection h with h; subst h; rfl
theorem args1 {ar : Array Operand} {c : A} (h : mapR (opd t) ar.toList = [c]) : ∃ x, ar = #[x] ∧ opd t x = c := by
  rw [mapR_eq] at h
  obtain ⟨l⟩ := ar
  match l, h with
  | [x], h => simp at h; exact ⟨x, rfl, h⟩
theorem args2 {ar : Array Operand} {c d : A} (h : mapR (opd t) ar.toList = [c, d]) : ∃ x y, ar = #[x, y] ∧ opd t x = c ∧ opd t y = d := by
  rw [mapR_eq] at h
  obtain ⟨l⟩ := ar
  match l, h with
  | [x, y], h => simp at h; exact ⟨x, y, rfl, h.1, h.2⟩
theorem types1 {ts : Array Nat} {a : Nat} {l : List Nat} (h : ts.toList = a :: l) : ts[0]? = some a := by
  obtain ⟨m⟩ := ts; simp at h; simp [h]
theorem wrap_len (n : Nat) : True := trivial
theorem minMax_ok {f : Int → Int → Int} {xs : List A} {Ka : A → Prop} (h : minMax f xs Ka) : ∃ k a b, xs = [.one (.p (.v (.int k a))), .one (.p (.v (.int k b)))] ∧ Ka (.one (.p (.v (.int k (f a b))))) := by
  unfold minMax at h
  split at h
  · obtain ⟨he, h2⟩ := bcF h
    simp only [decide_eq_true_eq] at he
    subst he
    exact ⟨_, _, _, rfl, h2⟩
  · exact h.elim
theorem builtin_ok (hT : TOk P T) {b : Builtin} {ar : Array Operand} {ts : Array Nat} (ho : o.op = .call { callee := .builtin b, args := ar, argTypes := ts })
    (h : builtinC T σ nx b ts.toList (mapR (opd t) ar.toList) K) : StepOk P t σ nx o K := by
  have hmem : ∀ x, x ∈ ar → x ∈ o.op.operands := fun x hx => by simp [ho, Op.operands, Call.operands, hx]
  have hrun : ∀ (a : Act) (w w' : World) (v' : Value) (f : Array TypeId → TypeId → Array Value → Sem Value), (∀ c, builtin b ts o.type c (ar.map a.eval) = (do pure (.value (← f ts o.type (ar.map a.eval))))) → (f ts o.type (ar.map a.eval)).run P w = .ok v' w' → (execOp a.eval o).run P w = .ok (.value v') w' := fun a w w' v' f hb hr => by
    unfold execOp
    simp only [ho, resolve, invoke, Sem.run_bind, Sem.run_pure, Result.andThen_ok]
    rw [hb]
    simp only [Sem.run_bind, hr, Result.andThen_ok, Sem.run_pure]
  unfold builtinC at h
  split at h
  · -- len of a text, a slice, a map
    rename_i _ _ tt rest c hts hxs
    obtain ⟨x, rfl, hx⟩ := args1 hxs
    have h0 := types1 hts
    split at h
    · rename_i u hd
      have hD := ((hT tt).desc (by rw [hd]; simp)).d
      rw [hd] at hD
      refine ok_val h rfl fun a f w S inj hop hf hi => ?_
      have hv := hop x (hmem x (by simp))
      rw [hx] at hv
      exact hrun a w w _ Builtin.len_ (fun _ => rfl) (by simp [Builtin.len_, h0, hv.flatv.1, run_underlying hD, goInt, lenS])
    · rename_i e hd
      have hD := ((hT tt).desc (by rw [hd]; simp)).d
      rw [hd] at hD
      obtain ⟨_, _, _, hcj, _⟩ := rowsF_src (P := P) (x := TI.none) h
      obtain ⟨l, bs, hk, hok⟩ := rowsF_ok h
      refine ok_val hk rfl fun a f w S inj hop hf hi => ?_
      have hv := hop x (hmem x (by simp))
      rw [hx] at hv
      obtain ⟨base, cap, he, _⟩ := slice_shape (hok hi hf (hv.cellv hcj))
      exact hrun a w w _ Builtin.len_ (fun _ => rfl) (by simp [Builtin.len_, h0, he, run_underlying hD, goInt, lenL])
    · rename_i k e bb hd
      have hD := ((hT tt).desc (by rw [hd]; simp)).d
      rw [hd] at hD
      split at h
      · rename_i es hb
        refine ok_val h rfl fun a f w S inj hop hf hi => ?_
        have hv := hop x (hmem x (by simp))
        rw [hx] at hv
        obtain ⟨g, en, cl, hg, hnS, hh, hfe⟩ := hi.mpB ((hf bb (by simp)).trans hb)
        have he := (hv.cellv (by simp)).mpv hg
        have hl : en.size = es.length := by rw [hfe.len]; simp
        exact hrun a w w _ Builtin.len_ (fun _ => rfl) (by simp [Builtin.len_, h0, he, run_underlying hD, goInt, getObj, Sem.run, hh, hl])
      · exact h.elim
    · exact h.elim
  · -- len of an array
    rename_i _ _ tt rest x0 xs0 hne hts hxs
    have h0 := types1 hts
    split at h
    · rename_i n e hd
      have hD := ((hT tt).desc (by rw [hd]; simp)).d
      rw [hd] at hD
      obtain ⟨l⟩ := ar
      cases l with
      | nil => rw [mapR_eq] at hxs; cases hxs
      | cons y l =>
        refine ok_val h rfl fun a f w S inj hop hf hi => ?_
        refine hrun a w w _ Builtin.len_ (fun _ => rfl) ?_
        have hx0 : ((⟨y :: l⟩ : Array Operand).map a.eval)[0]? = some (a.eval y) := by simp
        generalize (⟨y :: l⟩ : Array Operand).map a.eval = ar' at hx0 ⊢
        generalize a.eval y = v at hx0
        cases v <;> simp [Builtin.len_, h0, hx0, run_underlying hD, goInt]
    · exact h.elim
  · rename_i _ _ tt rest hts hxs
    exact h.elim
  · -- append
    rename_i _ _ tt tt' sc xc hts hxs
    obtain ⟨so, xo, rfl, hso, hxo⟩ := args2 hxs
    split at h
    · rename_i e e' hd hd'
      have hD := ((hT tt).desc (by rw [hd]; simp)).d
      rw [hd] at hD
      have hD' := ((hT tt').desc (by rw [hd']; simp)).d
      rw [hd'] at hD'
      obtain ⟨hee, h2⟩ := bcF h
      have hee := Nat.eq_of_beq_eq_true hee
      subst hee
      clear h
      have hts2 : ts = #[tt, tt'] := by obtain ⟨m⟩ := ts; simp at hts; simp [hts]
      subst hts2
      obtain ⟨l, bs, hk, hcj, hsrc⟩ := rowsF_src (x := ty T e) h2
      by_cases hok : rowsOk l (ty T e).sz = true ∧ 0 < (ty T e).sz
      · exact appendC_ok hT ho hso hxo hcj hD hD' (.inr ⟨e, rfl⟩) (hsrc hok.1 hok.2) hk
      · exfalso
        unfold appendC at hk
        split at hk
        · split at hk
          · obtain ⟨h1, h2⟩ := bcF hk
            obtain ⟨h3, _⟩ := bcF h2
            simp only [Bool.and_eq_true] at h1
            exact hok ⟨h1.1.2, Nat.le_of_ble_eq_true h3⟩
          · exact hk
        · obtain ⟨h1, h2⟩ := bcF hk
          obtain ⟨h3, _⟩ := bcF h2
          simp only [Bool.and_eq_true] at h1
          exact hok ⟨h1.2, Nat.le_of_ble_eq_true h3⟩
        · exact hk
    · rename_i e hd hd'
      have hD := ((hT tt).desc (by rw [hd]; simp)).d
      rw [hd] at hD
      have hD' := ((hT tt').desc (by rw [hd']; simp)).d
      rw [hd'] at hD'
      have hts2 : ts = #[tt, tt'] := by obtain ⟨m⟩ := ts; simp at hts; simp [hts]
      subst hts2
      split at h
      · rename_i u
        have hsrc : rowsOk (bytesS u) (ty T e).sz = true → ∀ {w S inj f v}, Inv w S inj f → (∀ b, b ∈ ([] : List Nat) → f b = look σ b) → VR w S inj (.p (.v (.string u))) v → ∃ us, Src P w (ty T e).sz (bytesS u).length v us ∧ F2 (PR w S) (bytesS u).flatten us := by
          intro hr w S inj f v _ _ hv
          obtain ⟨rfl, _⟩ := (VA.ofc hv).flatv
          have hs := src_str (P := P) (w := w) (S := S) (u := u)
          have hl : (bytesS u).length = u.size := by unfold bytesS; simp
          rw [hl]
          by_cases hu : u.size = 0
          · have he : bytesS u = [] := List.eq_nil_of_length_eq_zero (by rw [hl]; exact hu)
            have h2 := hs.1
            rw [hu] at h2
            have hc : Lib.strCells u = [] := List.eq_nil_of_length_eq_zero (by rw [h2.l])
            rw [hu]
            refine ⟨[], ⟨h2.len, ?_, ?_, by simp, by simp⟩, by rw [he]; exact .nil⟩
            · simp [Builtin.firstCells]
            · simp [Builtin.firstCells]
          · have h1 : (ty T e).sz = 1 := by
              have := rowsOk_iff hr
              cases hb : bytesS u with
              | nil => rw [hb] at hl; simp at hl; omega
              | cons r l =>
                have h3 := this r (by rw [hb]; simp)
                unfold bytesS at hb
                cases hd2 : u.data.toList with
                | nil => rw [hd2] at hb; cases hb
                | cons b l2 => rw [hd2] at hb; injection hb with hb _; subst hb; simpa using h3.symm
            rw [h1]
            exact ⟨_, hs.1, hs.2⟩
        by_cases hok : rowsOk (bytesS u) (ty T e).sz = true
        · exact appendC_ok hT ho hso hxo (by simp) hD hD' (.inl rfl) (hsrc hok) h
        · exfalso
          unfold appendC at h
          split at h
          · split at h
            · obtain ⟨h1, h2⟩ := bcF h
              simp only [Bool.and_eq_true] at h1
              exact hok h1.1.2
            · exact h
          · obtain ⟨h1, h2⟩ := bcF h
            simp only [Bool.and_eq_true] at h1
            exact hok h1.2
          · exact h
      · exact h.elim
    · exact h.elim
  · -- max
    obtain ⟨k, a, b, hxs, h2⟩ := minMax_ok h
    obtain ⟨x, y, rfl, hx, hy⟩ := args2 hxs
    refine ok_val h2 rfl fun ac f w S inj hop hf hi => ?_
    have hv := hop x (hmem x (by simp))
    have hv' := hop y (hmem y (by simp))
    rw [hx] at hv
    rw [hy] at hv'
    exact hrun ac w w _ Builtin.max_ (fun _ => rfl) (by simp [Builtin.max_, hv.flatv.1, hv'.flatv.1, Builtin.max2, maxI])
  · obtain ⟨k, a, b, hxs, h2⟩ := minMax_ok h
    obtain ⟨x, y, rfl, hx, hy⟩ := args2 hxs
    refine ok_val h2 rfl fun ac f w S inj hop hf hi => ?_
    have hv := hop x (hmem x (by simp))
    have hv' := hop y (hmem y (by simp))
    rw [hx] at hv
    rw [hy] at hv'
    exact hrun ac w w _ Builtin.min_ (fun _ => rfl) (by simp [Builtin.min_, hv.flatv.1, hv'.flatv.1, Builtin.min2, minI])
  · rename_i _ _ _ k a b hxs
    obtain ⟨x, rfl, hx⟩ := args1 hxs
    refine ok_val h rfl fun ac f w S inj hop hf hi => ?_
    have hv := hop x (hmem x (by simp))
    rw [hx] at hv
    exact hrun ac w w _ Builtin.real_ (fun _ => rfl) (by rw [show Array.map ac.eval #[x] = #[ac.eval x] from by simp, hv.flatv.1]; rfl)
  · rename_i _ _ _ k a b hxs
    obtain ⟨x, rfl, hx⟩ := args1 hxs
    refine ok_val h rfl fun ac f w S inj hop hf hi => ?_
    have hv := hop x (hmem x (by simp))
    rw [hx] at hv
    exact hrun ac w w _ Builtin.imag_ (fun _ => rfl) (by rw [show Array.map ac.eval #[x] = #[ac.eval x] from by simp, hv.flatv.1]; rfl)
  · rename_i _ _ _ k a k' b hxs
    obtain ⟨x, y, rfl, hx, hy⟩ := args2 hxs
    obtain ⟨he, h⟩ := bcF h
    simp only [decide_eq_true_eq] at he
    refine ok_val h rfl fun ac f w S inj hop hf hi => ?_
    have hv := hop x (hmem x (by simp))
    have hv' := hop y (hmem y (by simp))
    rw [hx] at hv
    rw [hy] at hv'
    exact hrun ac w w _ Builtin.complex_ (fun _ => rfl) (by
      rw [show Array.map ac.eval #[x, y] = #[ac.eval x, ac.eval y] from by simp, hv.flatv.1, hv'.flatv.1]
      show (if k = k' then pure (.complex k a b) else stuck "complex: parts of different kinds" : Sem Value).run P w = _
      rw [if_pos he]; rfl)
  · exact h.elim

theorem valI_ok {x : Option Operand} {Ki : Option Int → Prop} (h : valI t x Ki) : ∃ i, Ki i ∧ ∀ {w S inj} {a : Act}, (∀ y, x = some y → VA w S inj (opd t y) (a.eval y)) → ∃ v : Option Value, x.map a.eval = v ∧ ((i = none ∧ v = none) ∨ ∃ k n, i = some n ∧ v = some (.int k n)) := by
  cases x with
  | none => exact ⟨none, h, fun {w S inj a} _ => ⟨none, rfl, .inl ⟨rfl, rfl⟩⟩⟩
  | some x =>
    dsimp only [valI] at h
    split at h
    · rename_i k n hx
      refine ⟨some n, h, fun {w S inj a} hv => ⟨_, rfl, .inr ⟨k, n, rfl, ?_⟩⟩⟩
      have := hv x rfl
      rw [hx] at this
      simp [this.flatv.1]
    · exact h.elim
/-- the bounds of a slice of a slice -/
theorem bounds_run {isSlice : Bool} {len cap : Nat} {lo hi mx : Option Value} {a h m : Int} (w : World)
    (hlo : (lo = none ∧ a = 0) ∨ ∃ k, lo = some (.int k a)) (hhi : (hi = none ∧ h = len ∧ mx = none) ∨ ∃ k, hi = some (.int k h)) (hmx : (mx = none ∧ m = cap) ∨ ∃ k, mx = some (.int k m))
    (h0 : 0 ≤ a) (h1 : a ≤ h) (h2 : h ≤ m) (h3 : m ≤ cap) : (Instr.sliceBounds isSlice len cap lo hi mx).run P w = .ok (a.toNat, h.toNat, m.toNat) w := by
  have sb : ∀ (k : IntKind) (i : Int) (y : Nat) (c : BoundsCode), 0 ≤ i → i ≤ y → (Instr.sliceBound (.int k i) y c).run P w = .ok i.toNat w := fun k i y c hi0 hi1 => run_sliceBound w k i y c hi0 hi1
  have e1 : (m.toNat : Int) = m := by omega
  have e2 : (h.toNat : Int) = h := by omega
  rcases hmx with ⟨rfl, rfl⟩ | ⟨km, rfl⟩ <;> rcases hhi with ⟨rfl, rfl, hh⟩ | ⟨kh, rfl⟩ <;> rcases hlo with ⟨rfl, rfl⟩ | ⟨kl, rfl⟩ <;> try (cases hh; done)
  all_goals
    simp only [Instr.sliceBounds, Sem.run_bind, Sem.run_pure, Result.andThen_ok, Option.isSome_none, Option.isSome_some, Int.toNat_natCast]
    repeat (first
      | rw [sb _ _ _ _ (by omega) (by omega)]
      | rw [Result.andThen_ok]
      | rw [Int.toNat_natCast])
    try rfl
end Go.Proofs.Ytaiedakbmmgmaaa.E
