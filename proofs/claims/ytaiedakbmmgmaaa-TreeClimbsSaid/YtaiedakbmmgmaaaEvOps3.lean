/- Soundness of the operations, third part: loads, stores, elements. -/
import Derived.Test.YtaiedakbmmgmaaaEvOps2
set_option linter.unusedVariables false
set_option linter.unusedSimpArgs false
namespace Go.Proofs.Ytaiedakbmmgmaaa.E
open Go
variable {P : Program} {T : List TI} {t : List A} {σ : List Blk} {nx : Nat} {o : Oper} {K : Kont}

theorem InfoOk.agg {P t x} (h : InfoOk P t x) (w : World) : (Go.isAgg t).run P w = .ok (Go.Proofs.Ytaiedakbmmgmaaa.E.isAgg x.d) w := by
  have hd := h.d
  have hk := h.kn
  unfold Go.isAgg
  cases hx : x.d <;> rw [hx] at hd hk <;> simp only [DescOk] at hd
  case struct fs => obtain ⟨fields, hu, _⟩ := hd; simp [run_underlying hu, isAgg]
  case iface => obtain ⟨ms, hu⟩ := hd; simp [run_underlying hu, isAgg]
  case other => exact absurd rfl hk
  all_goals simp [run_underlying hd, isAgg]
theorem addr_add0 (g p j : Nat) : (⟨g, p, none⟩ : Addr).add j = ⟨g, p + j, none⟩ := addr_add g p j
theorem loadVar_run {x : TI} {s : Nat} (hI : InfoOk P s x) {w : World} {g p : Nat} {vs : List Value} (hlen : vs.length = x.sz)
    (hc : ∀ j u, vs[j]? = some u → w.cell? ⟨g, p + j, none⟩ = some u) :
    (isAgg x.d = true → (loadVar s ⟨g, p, none⟩).run P w = .ok (.agg vs.toArray) w) ∧ (isAgg x.d = false → ∀ u, vs = [u] → (loadVar s ⟨g, p, none⟩).run P w = .ok u w) := by
  constructor
  · intro ha
    have hl : (loadCells ⟨g, p, none⟩ vs.length).run P w = .ok vs.toArray w :=
      run_loadCells_list (P := P) w ⟨g, p, none⟩ vs (fun j v hv => by rw [addr_add]; exact hc j v hv)
    rw [hlen] at hl
    simp [loadVar, hI.agg, hI.size, ha, hl]
  · intro ha u hu
    subst hu
    have := hc 0 u rfl
    simp only [Nat.add_zero] at this
    simp [loadVar, hI.agg, ha, this]
/-- what a load yields -/
theorem cellsOf_ok {x : TI} {s : Nat} (hI : InfoOk P s x) {cs : List C} {Kc : A → Prop} (h : cellsOf (isAgg x.d) cs Kc) : ∃ v, Kc v ∧
    ∀ {w S inj g p vs}, F2 (VR w S inj) cs vs → cs.length = x.sz → (∀ j u, vs[j]? = some u → w.cell? ⟨g, p + j, none⟩ = some u) →
      ∃ v', (loadVar s ⟨g, p, none⟩).run P w = .ok v' w ∧ VA w S inj v v' := by
  cases ha : isAgg x.d with
  | true =>
    rw [ha] at h
    refine ⟨_, h, fun {w S inj g p vs} hf hl hc => ⟨_, (loadVar_run hI (by rw [← hf.len, hl]) hc).1 ha, .one (.agg hf)⟩⟩
  | false =>
    rw [ha] at h
    have h' : (fun cs : List C => (match cs with | [c] => Kc (.one c) | _ => False : Prop)) cs := h
    clear h
    simp only at h'
    split at h'
    · rename_i c
      refine ⟨_, h', fun {w S inj g p vs} hf hl hc => ?_⟩
      cases hf with
      | cons hv hn =>
        cases hn
        exact ⟨_, (loadVar_run hI (by simpa using hl) hc).2 ha _ rfl, .ofc hv⟩
    · exact h'.elim
theorem cellsOf_sz {T : List TI} {s : Nat} (hT : TOk P T) {cs : List C} {Kc : A → Prop} (h : cellsOf (isAgg (ty T s).d) cs Kc) (hl : cs.length = (ty T s).sz) : InfoOk P s (ty T s) := by
  rcases hT s with he | hI
  · rw [he] at h hl
    simp [TI.none] at hl
    subst hl
    exact h.elim
  · exact hI
theorem rowOk_cell {w S k l v g} (h : RowOk w S k l v g) (hne : l ≠ []) : ∃ g' cap cur e, 0 < k ∧ g = some g' ∧ v = .slice (some ⟨g', 0, none⟩) l.length cap ∧ ¬ S.all g' ∧ w.heap[g']? = some (.cells cur e (0, 0)) ∧ l.length ≤ cap ∧ cap ≤ maxLen ∧ cur.size = cap * k ∧
    (∀ r ∈ l, r.length = k) ∧ F2 (PR w S) l.flatten (cur.toList.take (l.length * k)) := by
  rcases h with ⟨h, _⟩ | h
  · exact absurd h hne
  · exact h
theorem flatten_get {α : Type} {l : List (List α)} {k : Nat} (hk : ∀ r ∈ l, r.length = k) : ∀ {i j : Nat} {r : List α}, l[i]? = some r → j < k → l.flatten[i * k + j]? = r[j]? := by
  induction l with
  | nil => intro i j r h; simp at h
  | cons a l ih =>
    intro i j r h hj
    have ha := hk a (by simp)
    cases i with
    | zero =>
      simp at h; subst h
      rw [List.flatten_cons, Nat.zero_mul, Nat.zero_add, List.getElem?_append_left (by omega)]
    | succ i =>
      simp at h
      rw [List.flatten_cons, List.getElem?_append_right (by rw [ha, Nat.add_mul]; omega), ha, show (i + 1) * k + j - k = i * k + j from by rw [Nat.add_mul]; omega]
      exact ih (fun r hr => hk r (by simp [hr])) h hj
theorem flatten_len {α : Type} {l : List (List α)} {k : Nat} (hk : ∀ r ∈ l, r.length = k) : l.flatten.length = l.length * k := by
  induction l with
  | nil => simp
  | cons a l ih => rw [List.flatten_cons, List.length_append, ih (fun r hr => hk r (by simp [hr])), hk a (by simp), List.length_cons, Nat.add_mul]; omega
theorem lenB_some {l : List (List PC)} {j : Int} (h : lenB l j = true) : 0 ≤ j ∧ l[j.toNat]? = some (rowAt l j) := by
  unfold lenB at h
  unfold rowAt
  simp at h
  refine ⟨h.1, ?_⟩
  rw [List.getElem?_eq_getElem (by omega), List.getD_eq_getElem?_getD, List.getElem?_eq_getElem (by omega)]
  rfl

theorem range_get {n i j : Nat} (h : (List.range n)[i]? = some j) : i < n ∧ j = i := by
  obtain ⟨h1, h2⟩ := List.getElem?_eq_some_iff.1 h
  simp at h1 h2
  exact ⟨h1, h2.symm⟩
theorem load_ok (hT : TOk P T) {s : Nat} {x : Operand} (ho : o.op = .load s x) (h : stepC T t σ nx (.load s x) K) : StepOk P t σ nx o K := by
  have hmem : x ∈ o.op.operands := by simp [ho, Op.operands]
  have hrun : ∀ (a : Act) (w : World) (g p : Nat) v', a.eval x = .pointer (some ⟨g, p, none⟩) → (loadVar s ⟨g, p, none⟩).run P w = .ok v' w → (execOp a.eval o).run P w = .ok (.value v') w := fun a w g p v' he hr => by
    unfold execOp; simp [ho, he, Instr.loadAt, Instr.sureAddr, hr]
  change loadC T σ s (opd t x) K at h
  unfold loadC at h
  split at h
  · rename_i b p hx
    split at h
    · rename_i cs hb
      rw [bcase_iff] at h
      rcases h with ⟨hle, h⟩ | ⟨_, h⟩
      · have hle := Nat.le_of_ble_eq_true hle
        rw [lenR_eq] at hle
        have hlen : (takeR (dropR cs p) (ty T s).sz).length = (ty T s).sz := by simp; omega
        obtain ⟨v, hk, hok⟩ := cellsOf_ok (cellsOf_sz hT h hlen) h
        refine ok_pure hk fun a f w S inj hop hf hi => ?_
        have hv := hop x hmem
        rw [hx] at hv
        obtain ⟨g, vs, e, hg, hs, hh, hvs⟩ := hi.box ((hf b (by simp)).trans hb)
        have he := (hv.cellv (by simp)).ptrv hg
        obtain ⟨v', hr, hv'⟩ := hok (g := g) (p := p) (vs := (vs.drop p).take (ty T s).sz) (by rw [takeR_eq, dropR_eq]; exact (hvs.drop _).take _) hlen (fun j u hj => by
          rw [List.getElem?_take] at hj
          split at hj
          · rw [List.getElem?_drop] at hj
            simpa [World.cell?, hh] using hj
          · cases hj)
        exact ⟨v', hrun a w g p v' he hr, hv'⟩
      · exact h.elim
    · exact h.elim
  · rename_i cs hx
    rw [bcase_iff] at h
    rcases h with ⟨hle, h⟩ | ⟨_, h⟩
    · have hle := Nat.le_of_ble_eq_true hle
      rw [lenR_eq] at hle
      have hlen : (mapR C.p (takeR cs (ty T s).sz)).length = (ty T s).sz := by simp; omega
      obtain ⟨v, hk, hok⟩ := cellsOf_ok (cellsOf_sz hT h hlen) h
      refine ok_pure hk fun a f w S inj hop hf hi => ?_
      have hv := hop x hmem
      rw [hx] at hv
      generalize he : a.eval x = u at hv
      have hv := hv.cellv (by simp)
      cases hv with
      | @rp _ g p vals hg hc hp =>
        obtain ⟨v', hr, hv'⟩ := hok (w := w) (S := S) (inj := inj) (g := g) (p := p) (vs := (List.range (ty T s).sz).map vals) (F2.of_get (by simp; omega) (fun i a b ha hb => by
            rw [mapR_eq, takeR_eq, List.getElem?_map, Option.map_eq_some_iff] at ha
            rw [List.getElem?_map, Option.map_eq_some_iff] at hb
            obtain ⟨c, hc', rfl⟩ := ha
            obtain ⟨i', hi', rfl⟩ := hb
            obtain ⟨hi1, hi2⟩ := range_get hi'
            subst hi2
            rw [List.getElem?_take, if_pos hi1] at hc'
            exact .p (hp _ c hc'))) hlen (fun j u hj => by
          rw [List.getElem?_map, Option.map_eq_some_iff] at hj
          obtain ⟨j', hj1, rfl⟩ := hj
          obtain ⟨hj2, hj3⟩ := range_get hj1
          subst hj3
          exact hc _ (by omega))
        exact ⟨v', hrun a w g p v' he hr, hv'⟩
    · exact h.elim
  · rename_i b k i p hx
    split at h
    · rename_i k' l hb
      rw [bcase_iff] at h
      rcases h with ⟨hkk, h⟩ | ⟨_, h⟩
      · simp only [Bool.and_eq_true] at hkk
        have hk' := Nat.eq_of_beq_eq_true hkk.2
        subst hk'
        obtain ⟨_, hrow⟩ := lenB_some hkk.1
        rw [mapF_pF, bcase_iff] at h
        rcases h with ⟨hle, h⟩ | ⟨_, h⟩
        · have hle := Nat.le_of_ble_eq_true hle
          rw [lenR_eq] at hle
          have hlen : (mapR C.p (takeR (dropR (rowAt l i) p) (ty T s).sz)).length = (ty T s).sz := by simp; omega
          obtain ⟨v, hk, hok⟩ := cellsOf_ok (cellsOf_sz hT h hlen) h
          refine ok_pure hk fun a f w S inj hop hf hi => ?_
          have hv := hop x hmem
          rw [hx] at hv
          obtain ⟨v0, g0, hg0, hro⟩ := hi.rows ((hf b (by simp)).trans hb)
          obtain ⟨g, n, c, hg, he⟩ := (hv.cellv (by simp)).epv (by rw [hg0]; simp)
          rw [hg0] at hg; injection hg with e1 e2; subst e1; subst e2
          obtain ⟨g', cap, cur, e, hk0, e3, e4, hs, hh, hcap, hmax, hsz, hrl, hfl⟩ := rowOk_cell hro (by rintro rfl; simp at hrow)
          injection e3 with e3; subst e3
          have hin : l[i]? = some (rowAt l i) := by simpa using hrow
          have hil : i < l.length := by
            rcases Nat.lt_or_ge i l.length with h | h
            · exact h
            · rw [List.getElem?_eq_none h] at hin; cases hin
          have hrk : (rowAt l i).length = k := hrl _ (List.mem_of_getElem? hin)
          have hbound : ∀ j, j < k → i * k + j < l.length * k := fun j hj => by
            have : (i + 1) * k ≤ l.length * k := Nat.mul_le_mul_right _ hil
            rw [Nat.add_mul] at this; omega
          obtain ⟨v', hr, hv'⟩ := hok (w := w) (S := S) (inj := inj) (g := g) (p := i * k + p) (vs := (cur.toList.drop (i * k + p)).take (ty T s).sz) (F2.of_get (by
              rw [hlen]; simp
              have : l.length * k ≤ cap * k := Nat.mul_le_mul_right _ hcap
              have := hbound (k - 1) (by omega)
              omega) (fun j a b ha hb' => by
              rw [mapR_eq, takeR_eq, dropR_eq, List.getElem?_map, Option.map_eq_some_iff] at ha
              obtain ⟨c', hc', rfl⟩ := ha
              rw [List.getElem?_take] at hc' hb'
              split at hc'
              · rename_i hj
                rw [if_pos hj] at hb'
                rw [List.getElem?_drop] at hc' hb'
                have hfg := flatten_get hrl hin (j := p + j) (by omega)
                rw [hc'] at hfg
                obtain ⟨u, hu, hpr⟩ := hfl.get hfg
                rw [List.getElem?_take, if_pos (hbound _ (by omega))] at hu
                rw [← Nat.add_assoc] at hu
                rw [hu] at hb'; injection hb' with hb'; subst hb'
                exact .p hpr
              · cases hc')) hlen (fun j u hj => by
              rw [List.getElem?_take] at hj
              split at hj
              · rw [List.getElem?_drop] at hj
                simpa [World.cell?, hh] using hj
              · cases hj)
          exact ⟨v', hrun a w g _ v' he hr, hv'⟩
        · exact h.elim
      · exact h.elim
    · exact h.elim
  · exact h.elim
end Go.Proofs.Ytaiedakbmmgmaaa.E
