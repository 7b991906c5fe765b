/- Soundness of the operations, seventh part: elements and parts. -/
import Derived.Test.YtaiedakbmmgmaaaEvOps6
set_option linter.unusedVariables false
set_option linter.unusedSimpArgs false
namespace Go.Proofs.Ytaiedakbmmgmaaa.E
open Go
variable {P : Program} {T : List TI} {t : List A} {σ : List Blk} {nx : Nat} {o : Oper} {K : Kont}

theorem cellsOf_agg {cs : List C} {Kc : A → Prop} (h : cellsOf true cs Kc) : Kc (.agg cs) := h
theorem cellsOf_one {cs : List C} {Kc : A → Prop} (h : cellsOf false cs Kc) : ∃ c, cs = [c] ∧ Kc (.one c) := by
  have h' : (fun cs : List C => (match cs with | [c] => Kc (.one c) | _ => False : Prop)) cs := h
  clear h
  simp only at h'
  split at h'
  · exact ⟨_, rfl, h'⟩
  · exact h'.elim
theorem partOf_ok {x : TI} {s off : Nat} (hI : InfoOk P s x) {cs : List C} {Kc : A → Prop} (h : cellsOf (isAgg x.d) (takeR (dropR cs off) x.sz) Kc) (hle : off + x.sz ≤ cs.length) :
    ∃ v, Kc v ∧ ∀ {w S inj vs}, F2 (VR w S inj) cs vs → ∃ v', (part s vs.toArray off).run P w = .ok v' w ∧ VA w S inj v v' := by
  rw [takeR_eq, dropR_eq] at h
  cases ha : isAgg x.d with
  | true =>
    rw [ha] at h
    refine ⟨_, cellsOf_agg h, fun {w S inj vs} hf => ⟨.agg ((vs.drop off).take x.sz).toArray, ?_, .one (.agg ((hf.drop off).take _))⟩⟩
    simp [part, hI.agg, ha, hI.size, List.extract_eq_take_drop, Nat.add_sub_cancel_left]
  | false =>
    rw [ha] at h
    obtain ⟨c, hc, hk⟩ := cellsOf_one h
    refine ⟨_, hk, fun {w S inj vs} hf => ?_⟩
    have h0 : cs[off]? = some c := by
      have := congrArg (·[0]?) hc
      rw [List.getElem?_take] at this
      split at this
      · rw [List.getElem?_drop] at this; simpa using this
      · simp at this
    obtain ⟨v, hv, hr⟩ := hf.get h0
    refine ⟨v, ?_, .ofc hr⟩
    simp [part, hI.agg, ha, hv]
theorem index_ok (hT : TOk P T) {s : Nat} {x i : Operand} (ho : o.op = .index s x i) (h : stepC T t σ nx (.index s x i) K) : StepOk P t σ nx o K := by
  have hmx : x ∈ o.op.operands := by simp [ho, Op.operands]
  have hmi : i ∈ o.op.operands := by simp [ho, Op.operands]
  dsimp only [stepC] at h
  split at h
  · rename_i k j hi0
    split at h
    · rename_i n e cs hd hx
      have hI := (hT s).desc (by rw [hd]; simp)
      have hD := hI.d
      rw [hd] at hD
      obtain ⟨hb, h⟩ := bcF h
      simp only [Bool.and_eq_true] at hb
      have hin := hb.1
      unfold inB at hin
      simp only [decide_eq_true_eq] at hin
      have hle := Nat.le_of_ble_eq_true hb.2
      rw [lenR_eq] at hle
      have hoff : j.toNat * (ty T e).sz + (ty T e).sz ≤ cs.length := by
        have : (j.toNat + 1) * (ty T e).sz ≤ n * (ty T e).sz := Nat.mul_le_mul_right _ (by omega)
        rw [Nat.add_mul] at this; omega
      have hIe : InfoOk P e (ty T e) := cellsOf_sz hT h (by simp; omega)
      obtain ⟨v, hk, hok⟩ := partOf_ok hIe h hoff
      refine ok_pure hk fun a f w S inj hop hf hi => ?_
      have hv := hop x hmx
      have hvi := hop i hmi
      rw [hx] at hv
      rw [hi0] at hvi
      obtain ⟨vs, hve, hvs⟩ := hv.agg'
      obtain ⟨v', hr, hv'⟩ := hok hvs
      refine ⟨v', ?_, hv'⟩
      unfold execOp; simp [ho, hve, hvi.flatv.1, Instr.index, asIntOf, run_underlying hD, hin, hIe.size, hr]
    · rename_i u hd hx
      have hD := ((hT s).desc (by rw [hd]; simp)).d
      rw [hd] at hD
      obtain ⟨hb, h⟩ := bcF h
      unfold inB at hb
      simp only [decide_eq_true_eq] at hb
      refine ok_val h rfl fun a f w S inj hop hf hi => ?_
      have hv := hop x hmx
      have hvi := hop i hmi
      rw [hx] at hv
      rw [hi0] at hvi
      have hlt : j.toNat < u.size := by omega
      unfold execOp; simp [ho, hv.flatv.1, hvi.flatv.1, Instr.index, asIntOf, run_underlying hD, hb.1, atS, hlt]
      rfl
    · exact h.elim
  · exact h.elim
theorem field_ok (hT : TOk P T) {s i : Nat} {x : Operand} (ho : o.op = .field s x i) (h : stepC T t σ nx (.field s x i) K) : StepOk P t σ nx o K := by
  dsimp only [stepC] at h
  split at h
  · rename_i oo n cs fs hp hx hd
    have hI := (hT s).desc (by rw [hd]; simp)
    obtain ⟨fields, fd, hu, hf', h1, h2, r, h3⟩ := partAt_struct hd hp hI rfl
    split at h
    · rename_i q f' r' hr
      rw [dropR_eq, h3] at hr
      injection hr with hr _
      injection hr with _ hr
      subst hr
      obtain ⟨hle, h⟩ := bcF h
      have hle := Nat.le_of_ble_eq_true hle
      rw [lenR_eq] at hle
      subst h2
      have hIe : InfoOk P fd.type (ty T fd.type) := cellsOf_sz hT h (by simp; omega)
      obtain ⟨v, hk, hok⟩ := partOf_ok hIe h hle
      refine ok_pure hk fun a f w S inj hop hf hi => ?_
      have hv := hop x (by simp [ho, Op.operands])
      rw [hx] at hv
      obtain ⟨vs, hve, hvs⟩ := hv.agg'
      obtain ⟨v', hr, hv'⟩ := hok hvs
      refine ⟨v', ?_, hv'⟩
      unfold execOp; simp [ho, hve, Instr.field, run_underlying hu, hf', asAgg, h1, hr]
    · exact h.elim
  · exact h.elim
theorem indexAddr_ok (hT : TOk P T) {s : Nat} {x i : Operand} (ho : o.op = .indexAddr s x i) (h : stepC T t σ nx (.indexAddr s x i) K) : StepOk P t σ nx o K := by
  have hmx : x ∈ o.op.operands := by simp [ho, Op.operands]
  have hmi : i ∈ o.op.operands := by simp [ho, Op.operands]
  dsimp only [stepC] at h
  split at h
  · rename_i k j hi0
    split at h
    · rename_i n e b p hd hx
      have hD := ((hT s).desc (by rw [hd]; simp)).d
      rw [hd] at hD
      split at h
      · rename_i cs hb
        obtain ⟨hbb, h⟩ := bcF h
        simp only [Bool.and_eq_true] at hbb
        have hin := hbb.1
        unfold inB at hin
        simp only [decide_eq_true_eq] at hin
        have hIe := (hT e).known (by have := Nat.le_of_ble_eq_true hbb.2; omega)
        refine ok_pure h fun a f w S inj hop hf hi => ?_
        have hv := hop x hmx
        have hvi := hop i hmi
        rw [hx] at hv
        rw [hi0] at hvi
        obtain ⟨g, vs, e', hg, _⟩ := hi.box ((hf b (by simp)).trans hb)
        have he := (hv.cellv (by simp)).ptrv hg
        refine ⟨.pointer (some ⟨g, p + j.toNat * (ty T e).sz, none⟩), ?_, .ofc (.ptr (.inr ⟨g, hg, rfl⟩))⟩
        unfold execOp; simp [ho, he, hvi.flatv.1, Instr.indexAt, asIntOf, run_underlying hD, Instr.sureAddr, hin, hIe.size, addr_add]
      · exact h.elim
    · rename_i e b hd hx
      have hD := ((hT s).desc (by rw [hd]; simp)).d
      rw [hd] at hD
      split at h
      · rename_i k' l hb
        obtain ⟨hbb, h⟩ := bcF h
        simp only [Bool.and_eq_true] at hbb
        have hk' := Nat.eq_of_beq_eq_true hbb.2
        obtain ⟨hj0, hrow⟩ := lenB_some hbb.1
        refine ok_pure h fun a f w S inj hop hf hi => ?_
        have hv := hop x hmx
        have hvi := hop i hmi
        rw [hx] at hv
        rw [hi0] at hvi
        obtain ⟨v0, g0, hg0, hro⟩ := hi.rows ((hf b (by simp)).trans hb)
        obtain ⟨g', cap, cur, e', hk0, e3, e4, hs, hh, hcap, hmax, hsz', hrl, hfl⟩ := rowOk_cell hro (by rintro rfl; simp at hrow)
        subst e3; subst e4
        have hve := (hv.cellv (by simp)).ownv hg0
        have hIe := (hT e).known (by rw [← hk']; omega)
        have hjl : j < (l.length : Int) := by
          have := hbb.1
          unfold lenB at this
          simp at this
          exact this.2
        refine ⟨.pointer (some ⟨g', j.toNat * k' + 0, none⟩), ?_, .ofc (.ep (.inr ⟨g', _, _, hg0, rfl⟩))⟩
        unfold execOp; simp [ho, hve, hvi.flatv.1, Instr.indexAt, asIntOf, run_underlying hD, hj0, hjl, hIe.size, addr_add, hk']
      · exact h.elim
    · rename_i e l hd hx
      have hD := ((hT s).desc (by rw [hd]; simp)).d
      rw [hd] at hD
      obtain ⟨hbb, h⟩ := bcF h
      obtain ⟨hj0, hrow⟩ := lenB_some hbb
      rw [mapF_pF] at h
      obtain ⟨hrl, h⟩ := bcF h
      have hrl := Nat.eq_of_beq_eq_true hrl
      rw [lenR_eq] at hrl
      have hjl : j < (l.length : Int) := by
        unfold lenB at hbb
        simp at hbb
        exact hbb.2
      refine ok_pure h fun a f w S inj hop hf hi => ?_
      have hv := hop x hmx
      have hvi := hop i hmi
      rw [hx] at hv
      rw [hi0] at hvi
      generalize he : a.eval x = u at hv
      have hv := hv.cellv (by simp)
      cases hv with | p hp =>
      cases hp with
      | @sl _ base cap k2 vals hcap hk2 hrw hbs hc hvv =>
        rcases hbs with rfl | ⟨g, p, rfl, hS⟩
        · simp at hrow
        have hk3 : k2 = (ty T e).sz := by rw [← hrl]; exact (hrw _ (List.mem_of_getElem? hrow)).symm
        subst hk3
        have hIe := (hT e).known (by omega)
        refine ⟨.pointer (some ⟨g, p + j.toNat * (ty T e).sz, none⟩), ?_, .ofc (.rp (fun m => vals j.toNat m) hS (fun m hm => hc g p rfl _ m (by omega) (by omega)) (fun m c hm => hvv _ m _ c hrow hm))⟩
        unfold execOp; simp [ho, he, hvi.flatv.1, Instr.indexAt, asIntOf, run_underlying hD, hj0, hjl, hIe.size, addr_add]
    · exact h.elim
  · exact h.elim

/-! ### Parts laid into cells -/
theorem setfold (off : Nat) : ∀ (us : List Value) (i : Nat) (cells : List Value), off + i + us.length ≤ cells.length →
    (us.zipIdx i).foldl (fun (cs : Array Value) x => cs.setIfInBounds (off + x.2) x.1) cells.toArray = (cells.take (off + i) ++ us ++ cells.drop (off + i + us.length)).toArray
  | [], i, cells, h => by simp
  | u :: us, i, cells, h => by
    simp at h
    rw [List.zipIdx_cons, List.foldl_cons]
    have := setfold off us (i + 1) (cells.set (off + i) u) (by simp; omega)
    simp only [List.setIfInBounds_toArray]
    rw [this]
    congr 1
    have e1 : (cells.set (off + i) u).take (off + (i + 1)) = cells.take (off + i) ++ [u] := by
      rw [← Nat.add_assoc, List.take_succ_eq_append_getElem (by simp; omega), List.take_set_of_le (Nat.le_refl _)]
      simp
    rw [e1, List.drop_set_of_lt (by omega)]
    simp [Nat.add_assoc, Nat.add_comm, Nat.add_left_comm]
theorem fill_one {place : Nat → Option (Nat × Nat)} {cells us : List Value} {i off n : Nat} {v : Value} {rest : List (Nat × Value)} (hp : place i = some (off, n)) (hv : v.cells = us.toArray) (hn : us.length = n) (hle : off + n ≤ cells.length) :
    Instr.fill place cells.toArray ((i, v) :: rest) = Instr.fill place (cells.take off ++ us ++ cells.drop (off + us.length)).toArray rest := by
  have hsf := setfold off us 0 cells (by omega)
  simp only [Nat.add_zero] at hsf
  simp only [Instr.fill, hp, hv]
  rw [if_neg (by simp; omega)]
  have e : us.toArray.zipIdx.foldl (fun (cs : Array Value) x => cs.setIfInBounds (off + x.2) x.1) cells.toArray = (us.zipIdx 0).foldl (fun (cs : Array Value) x => cs.setIfInBounds (off + x.2) x.1) cells.toArray := by simp
  rw [← hsf, ← e]
theorem fillF_ok {at_ place : Nat → Option (Nat × Nat)} (hpl : ∀ i q, at_ i = some q → place i = some q) (ps : List (Nat × A)) : ∀ {cs : List C} {Kc : List C → Prop}, fillF at_ ps cs Kc → ∃ cs', Kc cs' ∧ cs'.length = cs.length ∧
    ∀ {w S inj pvs vs}, F2 (fun (p : Nat × A) (q : Nat × Value) => p.1 = q.1 ∧ VA w S inj p.2 q.2) ps pvs → F2 (VR w S inj) cs vs → ∃ vs' : List Value, Instr.fill place vs.toArray pvs = some vs'.toArray ∧ F2 (VR w S inj) cs' vs' := by
  induction ps with
  | nil => intro cs Kc h; exact ⟨cs, h, rfl, fun {w S inj pvs vs} hp hv => by cases hp; exact ⟨vs, rfl, hv⟩⟩
  | cons p ps ih =>
    intro cs Kc h
    have h' : (fun q : Option (Nat × Nat) => (match q with
      | some (o, n) => cellsC p.2 fun pc => bcase (Nat.beq (lenR pc) n && Nat.ble (o + n) (lenR cs)) (fillF at_ ps (splice cs o pc) Kc) False
      | none => False : Prop)) (at_ p.1) := h
    cases hq : at_ p.1 with
    | none => rw [hq] at h'; exact h'.elim
    | some q =>
      obtain ⟨oo, n⟩ := q
      rw [hq] at h'
      obtain ⟨pc, hpc, h2⟩ := cellsC_iff h'
      obtain ⟨hb, h2⟩ := bcF h2
      simp only [Bool.and_eq_true] at hb
      have hn := Nat.eq_of_beq_eq_true hb.1
      have hle := Nat.le_of_ble_eq_true hb.2
      rw [lenR_eq] at hn hle
      obtain ⟨cs', hk, hl, hok⟩ := ih h2
      rw [splice_eq _ _ _ (by omega)] at hl hok
      refine ⟨cs', hk, by rw [hl]; simp; omega, fun {w S inj pvs vs} hp hv => ?_⟩
      cases hp with
      | @cons _ q _ pvs hpq hps =>
        obtain ⟨i, v⟩ := q
        obtain ⟨hi, hv2⟩ := hpq
        simp only at hi hv2
        obtain ⟨us, hus, hfu⟩ := cells_of hv2 hpc
        rw [fill_one (by rw [← hi]; exact hpl _ _ hq) hus (by rw [← hfu.len]; exact hn) (by rw [← hv.len]; exact hle)]
        have hul : us.length = pc.length := hfu.len.symm
        exact hok hps (by rw [← hul]; exact ((hv.take oo).app hfu).app (hv.drop _))
theorem partsOf {w S inj} {a : Act} (l : List (Nat × Operand)) (h : ∀ x, x ∈ l.map Prod.snd → VA w S inj (opd t x) (a.eval x)) :
    F2 (fun (p : Nat × A) (q : Nat × Value) => p.1 = q.1 ∧ VA w S inj p.2 q.2) (l.map fun p => (p.1, opd t p.2)) (l.map fun p => (p.1, a.eval p.2)) := by
  induction l with
  | nil => exact .nil
  | cons x l ih => exact .cons ⟨rfl, h _ (by simp)⟩ (ih fun y hy => h y (by simp at hy ⊢; exact .inr hy))
theorem zeroC_ok {s : Nat} (hI : InfoOk P s (ty T s)) {w S inj} : F2 (VR w S inj) (zeroC T s) (ty T s).z := by
  rw [zeroC, mapR_eq]
  refine F2.of_get (by simp) fun i a b ha hb => ?_
  rw [List.getElem?_map, Option.map_eq_some_iff] at ha
  obtain ⟨x, hx, rfl⟩ := ha
  rw [hx] at hb; injection hb with hb; subst hb
  exact .p (.v (hI.fl x (List.mem_of_getElem? hx)))
theorem mapM_sizes {T : List TI} (hT : TOk P T) (w : World) : ∀ (fs : List Field), (∀ f ∈ fs, knownD (ty T f.type).d = true) →
    (fs.mapM fun f => (do pure (f.offset, ← sizeOf f.type) : Sem (Nat × Nat))).run P w = .ok (fs.map fun f => (f.offset, (ty T f.type).sz)) w
  | [], _ => rfl
  | f :: fs, h => by
    have hI := (hT f.type).desc (fun e => by have := h f (by simp); rw [e] at this; cases this)
    simp only [List.mapM_cons, Sem.run_bind, hI.size, Result.andThen_ok, Sem.run_pure, mapM_sizes hT w fs (fun g hg => h g (by simp [hg])), List.map_cons]
theorem build_ok (hT : TOk P T) {s : Nat} {ps : Array (Nat × Operand)} (ho : o.op = .build s ps) (h : stepC T t σ nx (.build s ps) K) : StepOk P t σ nx o K := by
  dsimp only [stepC] at h
  obtain ⟨hkn, h⟩ := bcF h
  have hops : ∀ {a : Act} {w S inj}, (∀ x, x ∈ o.op.operands → VA w S inj (opd t x) (a.eval x)) → F2 (fun (p : Nat × A) (q : Nat × Value) => p.1 = q.1 ∧ VA w S inj p.2 q.2) (mapR (fun p => (p.1, opd t p.2)) ps.toList) (ps.toList.map fun p => (p.1, a.eval p.2)) := fun {a w S inj} hop => by
    rw [mapR_eq]
    exact partsOf _ fun x hx => hop x (by simpa [ho, Op.operands] using hx)
  unfold knownB at hkn
  split at hkn
  · rename_i fs hd
    have hI := (hT s).desc (by rw [hd]; simp)
    have hD := hI.d
    rw [hd] at hD
    obtain ⟨fields, hu, hm⟩ := hD
    rw [allR_eq, List.all_eq_true] at hkn
    have hpl : ∀ i q, partAt T s i = some q → (fun i => (fields.map fun f => (f.offset, (ty T f.type).sz))[i]?) i = some q := fun i q hq => by
      obtain ⟨oo, n⟩ := q
      obtain ⟨fields', fd, hu', hf', h1, h2, _⟩ := partAt_struct hd hq hI rfl
      rw [hu] at hu'; injection hu' with hu'; injection hu' with hu'; subst hu'
      simp [hf', h1, h2]
    obtain ⟨cs', hk, hl, hok⟩ := fillF_ok hpl _ h
    refine ok_pure hk fun a f w S inj hop hf hi => ?_
    obtain ⟨vs', hfill, hvs'⟩ := hok (hops hop) (zeroC_ok hI)
    obtain ⟨i, zv, hi', _, _, hz, hc, _⟩ := hI.info
    have hms := mapM_sizes hT w fields.toList (fun f hf => hkn (f.offset, f.type) (by rw [← hm]; exact List.mem_map.2 ⟨f, hf, rfl⟩))
    refine ⟨.agg vs'.toArray, ?_, .one (.agg hvs')⟩
    unfold execOp
    simp only [ho, Instr.build, Sem.run_bind, zeroValue, typeInfo, run_program, Result.andThen_ok, hi', hz, Sem.run_pure, run_underlying hu]
    rw [Array.mapM_eq_mapM_toList]
    simp only [Sem.run_map, hms, Result.andThen_ok]
    rw [← hc] at hfill
    simp only [Array.toArray_toList] at hfill
    have e : (fun i : Nat => (List.map (fun f => (f.offset, (ty T f.type).sz)) fields.toList).toArray[i]?) = (fun i : Nat => (fields.map fun f => (f.offset, (ty T f.type).sz))[i]?) := by
      funext i; simp
    rw [Array.toList_map, e, hfill]
    rfl
  · rename_i n e hd
    have hI := (hT s).desc (by rw [hd]; simp)
    have hD := hI.d
    rw [hd] at hD
    have hIe := (hT e).desc (fun he => by rw [he] at hkn; cases hkn)
    have hpl : ∀ i q, partAt T s i = some q → (fun i => some (i * (ty T e).sz, (ty T e).sz)) i = some q := fun i q hq => by
      unfold partAt at hq; rw [hd] at hq; exact hq
    obtain ⟨cs', hk, hl, hok⟩ := fillF_ok hpl _ h
    refine ok_pure hk fun a f w S inj hop hf hi => ?_
    obtain ⟨vs', hfill, hvs'⟩ := hok (hops hop) (zeroC_ok hI)
    obtain ⟨i, zv, hi', _, _, hz, hc, _⟩ := hI.info
    refine ⟨.agg vs'.toArray, ?_, .one (.agg hvs')⟩
    rw [← hc] at hfill
    simp only [Array.toArray_toList] at hfill
    unfold execOp
    simp [ho, Instr.build, zeroValue, typeInfo, hi', hz, run_underlying hD, hIe.size, hfill]
  · cases hkn
end Go.Proofs.Ytaiedakbmmgmaaa.E
