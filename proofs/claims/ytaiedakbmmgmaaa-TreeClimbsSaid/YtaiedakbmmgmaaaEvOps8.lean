/- Soundness of the operations, eighth part: rows that are made, appended to, cut; conversions; the builtins. -/
import Derived.Test.YtaiedakbmmgmaaaEvOps7
import Derived.Laws.MakeOwn
set_option linter.unusedVariables false
set_option linter.unusedSimpArgs false
namespace Go.Proofs.Ytaiedakbmmgmaaa.E
open Go
variable {P : Program} {T : List TI} {t : List A} {σ : List Blk} {nx : Nat} {o : Oper} {K : Kont}

/-! ### Blocks that are given up -/
open Classical in
noncomputable def kill (inj : Nat → Loc) (bs : List Nat) (b : Nat) : Loc := if b ∈ bs then .dead else inj b
open Classical in
noncomputable def killB (f : Nat → Blk) (bs : List Nat) (b : Nat) : Blk := if b ∈ bs then .dead else f b
theorem kill_le (inj : Nat → Loc) (bs : List Nat) : Le inj (kill inj bs) := fun b => by
  unfold kill; split
  · exact .inr (.inr rfl)
  · exact .inr (.inl rfl)
theorem kill_ne {inj : Nat → Loc} {bs : List Nat} {b : Nat} (h : b ∉ bs) : kill inj bs b = inj b := by unfold kill; rw [if_neg h]
theorem killB_ne {f : Nat → Blk} {bs : List Nat} {b : Nat} (h : b ∉ bs) : killB f bs b = f b := by unfold killB; rw [if_neg h]
theorem killB_dead {f : Nat → Blk} {bs : List Nat} {b : Nat} (h : b ∈ bs) : killB f bs b = .dead := by unfold killB; rw [if_pos h]
theorem upd_kill (f : Nat → Blk) (nx : Nat) (bs : List Nat) : upd f nx (bs.map fun b => (b, .dead)) [] = killB f bs := by
  funext b
  unfold upd killB
  rw [if_neg (by simp)]
  split
  · rename_i x hx
    have h1 := List.mem_of_find?_eq_some hx
    have h2 := List.find?_some hx
    obtain ⟨c, hc, rfl⟩ := List.mem_map.1 h1
    simp at h2
    subst h2
    rw [if_pos hc]
  · rename_i hx
    rw [if_neg]
    intro hb
    have := List.find?_eq_none.1 hx (b, .dead) (List.mem_map.2 ⟨b, hb, rfl⟩)
    simp at this
theorem upd_kill_one (f : Nat → Blk) (nx : Nat) (bs : List Nat) (B : Blk) : upd f nx (bs.map fun b => (b, .dead)) [B] = setB (killB f bs) nx B := by
  funext b
  by_cases h : b = nx
  · subst h; rw [setB_same]; unfold upd; simp
  · rw [setB_ne h, ← upd_kill f nx bs]
    unfold upd
    rw [if_neg (by simp; omega), if_neg (by simp)]
/-- blocks given up: what they own may stay from here on -/
theorem Inv.kill {w S inj f bs} (hi : Inv w S inj f) (hd : ∀ b, b ∈ bs → f b ≠ .dead) : Inv w (SB S inj bs) (kill inj bs) (killB f bs) := by
  refine ⟨fun b => ?_, fun b b' g h1 h2 h3 h4 => ?_, fun g hg => ?_, fun g hf hs => ?_⟩
  · by_cases h : b ∈ bs
    · rw [killB_dead h]; trivial
    · rw [killB_ne h, kill_ne h]
      by_cases hdb : f b = .dead
      · rw [hdb]; trivial
      · refine (hi.live b).grow SB_grow (kill_le _ _) (fun _ _ => rfl) (fun g hg hs => ?_)
        rcases hs with (hs | ⟨b', hb', hg'⟩) | hs
        · exact ((hi.live b).blk hdb hg).1 (.inl hs)
        · have := hi.sep b b' g hdb (hd b' hb') hg hg'
          subst this; exact h hb'
        · exact ((hi.live b).blk hdb hg).1 (.inr hs)
  · have n1 : b ∉ bs := fun h => h1 (killB_dead h)
    have n2 : b' ∉ bs := fun h => h2 (killB_dead h)
    rw [killB_ne n1] at h1; rw [killB_ne n2] at h2; rw [kill_ne n1] at h3; rw [kill_ne n2] at h4
    exact hi.sep _ _ _ h1 h2 h3 h4
  · rcases hg with (hg | ⟨b', hb', hg'⟩) | hg
    · exact hi.lt g (.inl hg)
    · exact ((hi.live b').blk (hd b' hb') hg').2
    · exact hi.lt g (.inr hg)
  · rcases hs with hs | ⟨b', hb', hg'⟩
    · exact hi.dj g hf hs
    · exact ((hi.live b').blk (hd b' hb') hg').1 (.inr hf)
/-- one block is given up, and what it owned is free to be written -/
theorem Inv.drop {w S inj f b} (hi : Inv w S inj f) : Inv w S (injAt inj b .dead) (setB f b .dead) :=
  hi.set (.refl _ _) injAt_dead (fun _ h => injAt_ne h) injAt_same (fun b' g hne hd hg => ⟨rfl, ((hi.live b').blk hd hg).1⟩) trivial (fun h => absurd rfl h) hi.lt
/-- a new row, made in the world, the blocks bs laid open -/
theorem new_rows {k : Nat} {l : List (List PC)} {bs rd : List Nat} (hk : K (.one (.own nx)) (bs.map fun b => (b, .dead)) [.rows k l] rd)
    (hrun : ∀ (a : Act) (w : World) (S inj f), (∀ x, x ∈ o.op.operands → VA w S inj (opd t x) (a.eval x)) → Inv w S inj f → (∀ b, b ∈ rd ++ bs → f b = look σ b) → (∀ b, b ∈ bs → f b ≠ .dead) ∧
      ∃ (w0 : World) (cur : Array Value) (e : TypeId) (n cap : Nat), (∀ g, g < w.heap.size → w0.heap[g]? = w.heap[g]?) ∧ w0.heap.size = w.heap.size ∧ w0.os = w.os ∧ w0.tape = w.tape ∧ w0.output = w.output ∧
        (execOp a.eval o).run P w = .ok (.value (.slice (some ⟨w.heap.size, 0, none⟩) n cap)) (w0.alloc (.cells cur e)) ∧
        0 < k ∧ n = l.length ∧ n ≤ cap ∧ cap ≤ maxLen ∧ cur.size = cap * k ∧ (∀ r ∈ l, r.length = k) ∧ F2 (PR w (SB S inj bs)) l.flatten (cur.toList.take (n * k))) : StepOk P t σ nx o K := by
  refine ⟨_, _, _, _, hk, fun a f w S inj next Q hop hf hi hfr hn => ?_⟩
  obtain ⟨hnd, w0, cur, e, n, cap, h0, hsz, hos, htp, hout, hr, hk0, hnl, hcap, hmax, hcs, hrl, hfl⟩ := hrun a w S inj f hop hi (fun b hb => hf b (by
    simp at hb ⊢
    rcases hb with hb | hb
    · exact .inl hb
    · exact .inr hb))
  have h00 := hfr 0 (by simp)
  have hnx : nx ∉ bs := fun hb => hnd nx hb h00.2
  have hik := hi.kill hnd
  have hfree : kill inj bs nx = .free := by rw [kill_ne hnx]; exact h00.1
  have hG0 : Grow w (SB S inj bs) (w0.alloc (.cells cur e)) (SB S inj bs) :=
    ⟨hos, htp, hout, by simp; omega, fun g hg => by rw [hao _ _ _ (by rw [hsz]; exact hik.lt g hg), h0 g (hik.lt g hg)], fun _ h => h, rfl⟩
  have hle := injAt_le (l := .row (.slice (some ⟨w.heap.size, 0, none⟩) n cap) (some w.heap.size)) hfree
  refine wp_of_value hr (hn _ _ (SB S inj bs) (injAt (kill inj bs) nx (.row (.slice (some ⟨w.heap.size, 0, none⟩) n cap) (some w.heap.size))) ⟨?_, (kill_le _ _).trans hle, fun b hb hbb => ?_, .ofc (.own (.inr ⟨_, injAt_same⟩)), ?_⟩)
  · exact ⟨hos, htp, hout, by simp; omega, fun g hg => by rw [hao _ _ _ (by rw [hsz]; exact hi.lt g hg), h0 g (hi.lt g hg)], fun _ h => .inl h, rfl⟩
  · rw [injAt_ne (by simp at hbb; omega)]
    by_cases hbm : b ∈ bs
    · exfalso
      have hl := hi.live b
      have hd := hnd b hbm
      rw [hb] at hl
      cases hB : f b with
      | dead => exact hd hB
      | box cs => rw [hB] at hl; obtain ⟨_, _, _, h, _⟩ := hl; cases h
      | rows k l => rw [hB] at hl; obtain ⟨_, _, h, _⟩ := hl; cases h
      | mp es => rw [hB] at hl; obtain ⟨_, _, _, h, _⟩ := hl; cases h
    · rw [kill_ne hbm]; exact hb
  · rw [upd_kill_one]
    refine hik.set hG0 hle (fun _ h => injAt_ne h) injAt_same (fun b g hb hd hg => ?_) ?_ (fun _ b g hb hd hg1 hg2 => ?_) (fun g hg => by simp; have := hik.lt g hg; omega)
    · obtain ⟨h1, h2⟩ := (hik.live b).blk hd hg
      exact ⟨by rw [hao _ _ _ (by rw [hsz]; exact h2), h0 g h2], h1⟩
    · refine ⟨_, _, rfl, .inr ⟨w.heap.size, cap, cur, e, hk0, rfl, by rw [hnl], fun hs => absurd (hik.lt _ hs) (by omega), by rw [← hsz]; exact han w0 _, by rw [← hnl]; exact hcap, hmax, hcs, hrl, ?_⟩⟩
      rw [← hnl]
      exact hfl.mono' fun _ _ h => h.grow hG0
    · injection hg1 with hg1
      have := ((hik.live b).blk hd hg2).2
      omega

/-! ### make, buildSlice -/
theorem rep_flat (z : List Value) (n : Nat) {w S} (hfl : ∀ v ∈ z, flat v = true) : F2 (PR w S) (List.replicate n (z.map PC.v)).flatten (List.replicate n z).flatten := by
  induction n with
  | zero => exact .nil
  | succ n ih =>
    simp only [List.replicate_succ, List.flatten_cons]
    refine .app (F2.of_get (by simp) fun i a b ha hb => ?_) ih
    rw [List.getElem?_map, Option.map_eq_some_iff] at ha
    obtain ⟨x, hx, rfl⟩ := ha
    rw [hx] at hb; injection hb with hb; subst hb
    exact .v (hfl x (List.mem_of_getElem? hx))
theorem madeCells_flat (z : List Value) (hz : 0 < z.length) : ∀ n, (madeCells z.toArray (n * z.length)).toList = (List.replicate n z).flatten := by
  intro n
  apply List.ext_getElem?
  intro i
  simp only [madeCells, Array.toList_map, Array.toList_range, List.getElem?_map]
  by_cases h : i < n * z.length
  · rw [List.getElem?_range h]
    have hr : (List.replicate n z)[i / z.length]? = some z := by
      rw [List.getElem?_replicate, if_pos (Nat.div_lt_of_lt_mul (by rw [Nat.mul_comm]; exact h))]
    have := flatten_get (k := z.length) (fun r hr => by rw [List.eq_of_mem_replicate hr]) hr (Nat.mod_lt i hz)
    rw [show i / z.length * z.length + i % z.length = i from by rw [Nat.mul_comm]; exact Nat.div_add_mod i _] at this
    rw [this]
    have hm := Nat.mod_lt i hz
    simp [getElem!_def, hm]
  · rw [List.getElem?_eq_none (by simp; omega), List.getElem?_eq_none (by simp; omega)]
    rfl
theorem makeSlice_ok (hT : TOk P T) {s : Nat} {n c : Operand} (ho : o.op = .makeSlice s n c) (h : stepC T t σ nx (.makeSlice s n c) K) : StepOk P t σ nx o K := by
  dsimp only [stepC] at h
  split at h
  · rename_i e m m' hd hn hc
    have hD := ((hT s).desc (by rw [hd]; simp)).d
    rw [hd] at hD
    obtain ⟨hb, h2⟩ := bcF h
    simp only [Bool.and_eq_true] at hb
    obtain ⟨⟨hmm, hrm⟩, hsz⟩ := hb
    have hmm : m = m' := by simpa [eqI] using hmm
    subst hmm
    unfold roomN at hrm
    simp only [decide_eq_true_eq] at hrm
    have hsz := Nat.le_of_ble_eq_true hsz
    have hI := (hT e).known (by omega)
    obtain ⟨i, zv, hi', hs1, hs2, hz, hzc, _⟩ := hI.info
    refine new_rows (bs := []) h2 fun a w S inj f hop hi hf => ⟨by simp, w, madeCells zv.cells (m.toNat * (ty T e).sz), e, m.toNat, m.toNat, fun _ _ => rfl, rfl, rfl, rfl, rfl, ?_, hsz, ?_, Nat.le_refl _, by simp only [maxLen]; omega, size_madeCells _ _, ?_, ?_⟩
    · have hvn := hop n (by simp [ho, Op.operands])
      have hvc := hop c (by simp [ho, Op.operands])
      rw [hn] at hvn
      rw [hc] at hvc
      have hr := run_make (P := P) w s e i zv hD hi' hz .i64 .i64 m m (by omega) (Int.le_refl _) (by rw [hs2, Int.mul_comm]; omega) (by omega)
      rw [hs1] at hr
      unfold execOp
      simp only [ho, Sem.run_bind, hvn.flatv.1, hvc.flatv.1, hr, Result.andThen_ok, Sem.run_pure]
    · simp [repRow]
    · intro r hr
      unfold repRow at hr
      rw [List.eq_of_mem_replicate hr, mapR_eq, List.length_map]
      exact hI.z
    · have hz0 := hI.z
      have := madeCells_flat (ty T e).z (by omega) m.toNat
      rw [← hzc] at this
      simp only [Array.toArray_toList] at this
      rw [hzc] at this
      rw [← hz0, this, List.take_of_length_le (by simp)]
      unfold repRow
      rw [mapR_eq]
      exact rep_flat _ _ hI.fl
  · exact h.elim
end Go.Proofs.Ytaiedakbmmgmaaa.E
