/- Soundness of the operations, last part: literals, conversions; all operations together. -/
import Derived.Test.YtjapbanelfcjhaaEvOps12
import Derived.Laws.Cover2
import Derived.Laws.FloatArith
set_option linter.unusedVariables false
set_option linter.unusedSimpArgs false
namespace Go.Proofs.Ytjapbanelfcjhaa.E
open Go
variable {P : Program} {T : List TI} {t : List A} {σ : List Blk} {nx : Nat} {o : Oper} {K : Kont}

theorem chunk_spec (k : Nat) : ∀ (n : Nat) (ps : List PC), ps.length = n * k → (chunk k n ps).length = n ∧ (chunk k n ps).flatten = ps ∧ ∀ r ∈ chunk k n ps, r.length = k
  | 0, ps, h => by
    have : ps = [] := List.eq_nil_of_length_eq_zero (by simpa using h)
    subst this
    exact ⟨rfl, rfl, fun r hr => by cases hr⟩
  | n + 1, ps, h => by
    have e : chunk k (n + 1) ps = takeR ps k :: chunk k n (dropR ps k) := rfl
    rw [Nat.add_mul] at h
    obtain ⟨h1, h2, h3⟩ := chunk_spec k n (ps.drop k) (by simp; omega)
    rw [e, takeR_eq, dropR_eq]
    refine ⟨by simp [h1], by simp [h2], fun r hr => ?_⟩
    rcases List.mem_cons.1 hr with rfl | hr
    · simp; omega
    · exact h3 r hr
theorem F2_rep {α β : Type} {R : α → β → Prop} {l : List α} {m : List β} (h : F2 R l m) : ∀ n, F2 R (List.replicate n l).flatten (List.replicate n m).flatten
  | 0 => .nil
  | n + 1 => by simp only [List.replicate_succ, List.flatten_cons]; exact h.app (F2_rep h n)
theorem buildSlice_ok (hT : TOk P T) {s n : Nat} {ps : Array (Nat × Operand)} (ho : o.op = .buildSlice s n ps) (h : stepC T t σ nx (.buildSlice s n ps) K) : StepOk P t σ nx o K := by
  dsimp only [stepC] at h
  split at h
  · rename_i e hd
    have hD := ((hT s).desc (by rw [hd]; simp)).d
    rw [hd] at hD
    obtain ⟨cs', h, hl, hok⟩ := fillF_ok (place := fun i => some (i * (ty T e).sz, (ty T e).sz)) (fun i q hq => hq) _ h
    obtain ⟨qs, bs, h, hql, hnd, hokp⟩ := toPs_ok _ h
    have hb := (bcF h).1
    replace h := (bcF h).2
    simp only [Bool.and_eq_true] at hb
    have hb1 := Nat.le_of_ble_eq_true hb.1
    have hb2 := Nat.le_of_ble_eq_true hb.2
    have hI := (hT e).known (by omega)
    obtain ⟨i, zv, hi', hs1, hs2, hz, hzc, _⟩ := hI.info
    rw [mapR_eq] at h
    have hzl : (ty T e).z.length = (ty T e).sz := hI.z
    have hcl : cs'.length = n * (ty T e).sz := by
      rw [hl, flatR_eq, repR_eq, flatten_len (k := (ty T e).sz)]
      · simp
      · intro r hr
        rw [List.eq_of_mem_replicate hr, zeroC, mapR_eq, List.length_map]; exact hzl
    obtain ⟨hc1, hc2, hc3⟩ := chunk_spec (ty T e).sz n qs (by rw [hql]; exact hcl)
    refine new_rows h fun a w S inj f hop hi hf => ?_
    have hzs : F2 (VR w S inj) (flatR (repR (zeroC T e) n)) (List.replicate n (ty T e).z).flatten := by
      rw [flatR_eq, repR_eq]
      exact F2_rep (zeroC_ok hI) n
    have hops : F2 (fun (p : Nat × A) (q : Nat × Value) => p.1 = q.1 ∧ VA w S inj p.2 q.2) (mapR (fun p => (p.1, opd t p.2)) ps.toList) (ps.toList.map fun p => (p.1, a.eval p.2)) := by
      rw [mapR_eq]
      exact partsOf _ fun x hx => hop x (by simpa [ho, Op.operands] using hx)
    obtain ⟨vs', hfill, hvs'⟩ := hok hops hzs
    have hvl : vs'.length = n * (ty T e).sz := by rw [← hvs'.len]; exact hcl
    have hpr := hokp hi (fun b hb => hf b (by simp [hb])) hvs'
    refine ⟨fun b hb => by rw [hf b (by simp [hb])]; exact hnd b hb, w, vs'.toArray, e, n, n, fun _ _ => rfl, rfl, rfl, rfl, rfl, ?_, hb2, hc1.symm, Nat.le_refl _, ?_, by simpa using hvl, hc3, ?_⟩
    · have hmc := madeCells_flat (ty T e).z (by omega) n
      have hmade : ((Array.range (n * (ty T e).sz)).map fun j => zv.cells[j % zv.cells.size]!) = (List.replicate n (ty T e).z).flatten.toArray := by
        apply Array.ext'
        rw [← hmc, hzl, ← hzc]
        simp [madeCells]
      have hne : n * (ty T e).sz = 0 → n = 0 := fun h => by
        rcases Nat.mul_eq_zero.1 h with h | h
        · exact h
        · omega
      have hle : ¬ (2 ^ 24 < n * (ty T e).sz) := by omega
      have hle' : ¬ (16777216 < n * (ty T e).sz) := by omega
      unfold execOp
      simp only [ho, Instr.buildSlice, Sem.run_bind, run_underlying hD, Result.andThen_ok, hI.size]
      rw [if_neg (by omega)]
      by_cases h0 : n * (ty T e).sz = 0
      · have hn0 := hne h0
        subst hn0
        have hr : ∀ f : Nat → Value, Array.map f (Array.range 0) = #[] := by simp
        have hm : (Array.map (fun p : Nat × Operand => (p.1, a.eval p.2)) ps).toList = ps.toList.map fun p => (p.1, a.eval p.2) := by simp
        simp only [Nat.zero_mul, if_true, Sem.run_bind, Sem.run_pure, Result.andThen_ok]
        have hfill' : Instr.fill (fun i => some (i * (ty T e).sz, (ty T e).sz)) #[] (ps.toList.map fun p => (p.1, a.eval p.2)) = some vs'.toArray := by simpa using hfill
        rw [hm, hr]
        simp only [hfill']
        rfl
      · simp only [h0, if_false, Sem.run_bind, zeroValue, typeInfo, run_program, Result.andThen_ok, hi', hz, Sem.run_pure]
        rw [hmade]
        have hm : (Array.map (fun p : Nat × Operand => (p.1, a.eval p.2)) ps).toList = ps.toList.map fun p => (p.1, a.eval p.2) := by simp
        rw [hm]
        simp only [hfill]
        rfl
    · simp only [maxLen]
      have : n ≤ n * (ty T e).sz := Nat.le_mul_of_pos_right _ hb2
      omega
    · rw [hc2, ← hvl, List.take_length]
      exact hpr
  · exact h.elim

theorem convert_ok (hT : TOk P T) {s d : Nat} {x : Operand} (ho : o.op = .convert s d x) (h : stepC T t σ nx (.convert s d x) K) : StepOk P t σ nx o K := by
  dsimp only [stepC, convC] at h
  have hk := (bcF h).1
  replace h := (bcF h).2
  have hs : ∃ u, P.underlying s = some u := by
    have hd := ((hT s).desc (by rintro h; rw [h] at hk; cases hk)).d
    generalize (ty T s).d = y at hd hk
    cases y <;> first | exact ⟨_, hd⟩ | exact ⟨_, hd.choose_spec.1⟩ | exact ⟨_, hd.choose_spec⟩ | cases hk
  obtain ⟨u, hs⟩ := hs
  have hss : (P.underlying s).isSome = true := by rw [hs]; rfl
  split at h
  · rename_i _ k k' n hdd hx
    have hD := ((hT d).desc (by rw [hdd]; simp)).d
    rw [hdd] at hD
    have hik : P.intKind d = k := by unfold Program.intKind; rw [hD]
    refine ok_val h rfl fun a f w S inj hop hf hi => ?_
    have hv := hop x (by simp [ho, Op.operands])
    rw [hx] at hv
    have := run_convert_int (P := P) w s d k' n hss (by rw [hik]; exact hD)
    unfold execOp; simp [ho, hv.flatv.1, this, hik, wr]
  · rename_i _ k k' n hdd hx
    have hD := ((hT d).desc (by rw [hdd]; simp)).d
    rw [hdd] at hD
    refine ok_val h rfl fun a f w S inj hop hf hi => ?_
    have hv := hop x (by simp [ho, Op.operands])
    rw [hx] at hv
    have := run_convert_int_float (P := P) w s d k' k n hss hD
    unfold execOp; simp [ho, hv.flatv.1, this, ofI, floatOfInt]
  · rename_i _ k s' b hdd hx
    have hD := ((hT d).desc (by rw [hdd]; simp)).d
    rw [hdd] at hD
    have hb := (bcF h).1
    replace h := (bcF h).2
    refine ok_val h rfl fun a f w S inj hop hf hi => ?_
    have hv := hop x (by simp [ho, Op.operands])
    rw [hx] at hv
    have hq : floatToIntVal s' b k = some (toIV s' b) := by
      unfold toIOk at hb
      unfold floatToIntVal toIV
      split at hb
      · rename_i m hm
        simp only [decide_eq_true_eq] at hb
        simp [hm, hb.1, hb.2]
      · cases hb
    have := run_convert_float_int (P := P) w s d s' k b _ hss hD hq
    unfold execOp; simp [ho, hv.flatv.1, this]
  · rename_i u' hdd hsd hx
    have hD := ((hT d).desc (by rw [hdd]; simp)).d
    rw [hdd] at hD
    have hD' := ((hT s).desc (by rw [hsd]; simp)).d
    rw [hsd] at hD'
    refine ok_val h rfl fun a f w S inj hop hf hi => ?_
    have hv := hop x (by simp [ho, Op.operands])
    rw [hx] at hv
    unfold execOp; simp [ho, hv.flatv.1, convert, run_underlying hD, run_underlying hD']
  · exact h.elim
end Go.Proofs.Ytjapbanelfcjhaa.E
