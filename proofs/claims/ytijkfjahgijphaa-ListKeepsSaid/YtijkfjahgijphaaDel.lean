/- slices.Delete of one item: its contract. -/
import Derived.Test.YtijkfjahgijphaaIns2
set_option linter.unusedVariables false
set_option linter.unusedSimpArgs false
namespace Go.Proofs.Ytijkfjahgijphaa.E
open Go Go.Lib Go.RowKit
theorem run_clear_row {P : Program} (w : World) (t elem ty : TypeId) (z : Value) {k : Nat} (ht : P.underlying t = some (.slice elem)) (hv : ∀ w, (zeroValue elem).run P w = .ok z w) (hz : z.cells.size = k) (h1 : ∀ v ∈ z.cells.toList, v.oneCell' = true) (g o n c : Nat) (hn : 0 < n)
    (cur : Array Value) (e : TypeId) (hh : w.heap[g]? = some (.cells cur e (0, 0))) (hle : o + n * k ≤ cur.size) :
    (Builtin.clear_ #[t] ty #[.slice (some ⟨g, o, none⟩) n c]).run P w = .ok (.tuple #[]) (w.setRow g (cur.toList.take o ++ (Builtin.zeroCells z.cells n).toList ++ cur.toList.drop (o + n * k)).toArray) := by
  have hl : (Builtin.zeroCells z.cells n).toList.length = n * k := by rw [Array.length_toList, size_zeroCells, hz]
  have hst := run_storeCells_at P g o e (Builtin.zeroCells z.cells n).toList 0 cur w hh (by rw [hl]; simpa using hle) (fun v hv => by
    have hv : v ∈ Builtin.zeroCells z.cells n := by simpa using hv
    obtain ⟨j, hj⟩ := Array.getElem?_of_mem hv
    obtain ⟨hj1, rfl⟩ := Array.getElem?_eq_some_iff.1 hj
    rw [size_zeroCells] at hj1
    have hp : 0 < z.cells.size := Nat.pos_of_ne_zero fun h0 => by rw [h0] at hj1; simp at hj1
    refine h1 _ ?_
    simp only [Builtin.zeroCells, Array.getElem_map, Array.getElem_range]
    rw [getElem!_pos z.cells (j % z.cells.size) (Nat.mod_lt _ hp)]
    simp)
  simp only [Nat.add_zero, hl] at hst
  obtain ⟨m, rfl⟩ : ∃ m, n = m + 1 := ⟨n - 1, by omega⟩
  simp [Builtin.clear_, run_underlying ht, hv, hst]
theorem step_append_run {P : Program} {ops : Array Oper} {o : Oper} {a : Act} {w : World} {K : Act → World → Prop} {Q : Exit → Act → World → Prop} {E : Prop}
    (hg : o.guard = none) (d x : Operand) (dT sT : TypeId) (hop : o.op = Op.call { callee := Callee.builtin Builtin.append, args := #[d, x], argTypes := #[dT, sT] })
    (v u : Value) (hd : a.eval d = v) (hx : a.eval x = u) {v' : Value} {w' : World} (hr : (Builtin.append_ #[dT, sT] o.type #[v, u]).run P w = .ok v' w') (hK : K (a.put o.dst v') w') :
    if Region.wanted o (yielded ops a.tmps) = true then Oper.wp P o a w K Q else E := by
  have hw : Region.wanted o (yielded ops a.tmps) = true := by simp [Region.wanted, hg]
  rw [if_pos hw]
  unfold Oper.wp
  simp only [execOp, hop, resolve, invoke, builtin, Sem.run_bind, Sem.run_pure, Result.andThen_ok, List.map_toArray, List.map_cons, List.map_nil, hd, hx, hr]
  exact hK
set_option maxHeartbeats 4000000 in
set_option maxRecDepth 100000 in
theorem del_one (g i m c : Nat) (cur : Array Value) (e : TypeId) (w : World) (hc : i + 1 + m ≤ c) (hc63 : c ≤ 9223372036854775807) (hg : w.heap[g]? = some (.cells cur e (0, 0))) (hcs : cur.size = c * 8)
    (h1 : ∀ v ∈ cur.toList.take ((i + 1 + m) * 8), v.oneCell' = true) :
    Calls Try.prog 102 #[.slice (some ⟨g, 0, none⟩) (i + 1 + m) c, .int .i64 i, .int .i64 ((i : Int) + 1)] w fun x w' => x = .returned (.slice (some ⟨g, 0, none⟩) (i + m) c) ∧
      ∃ (w1 : World) (R1 : Array Value) (rest : List Value), rest.length = (c - (i + m)) * 8 ∧ w1.heap = w.heap ∧ w1.os = w.os ∧ w1.tape = w.tape ∧ w1.output = w.output ∧ w' = (w1.setRow g R1).setRow g (cur.toList.take (i * 8) ++ (cur.toList.take ((i + 1 + m) * 8)).drop ((i + 1) * 8) ++ rest).toArray := by
  have hI := (T_ok 66).known (of_decide_eq_true (by kernel_rfl))
  have h8 : (ty T 66).sz = 8 := by kernel_rfl
  obtain ⟨M, hM⟩ : ∃ M, M = (cur.toList.take ((i + 1 + m) * 8)).drop ((i + 1) * 8) := ⟨_, rfl⟩
  have lM : M.length = m * 8 := by rw [hM, List.length_drop, List.length_take, Array.length_toList (xs := cur), hcs]; omega
  have hM1 : ∀ v ∈ M, v.oneCell' = true := fun v hv => h1 v (by rw [hM] at hv; exact List.mem_of_mem_drop hv)
  obtain ⟨Ad, hAd, hsrc⟩ : ∃ Ad : Addr, (if c = i + 1 then (⟨g, 0, none⟩ : Addr) else ⟨g, (i + 1) * 8, none⟩) = Ad ∧ ∀ (W : World), W.heap = w.heap → Src Try.prog W 8 m (.slice (some Ad) m (c - (i + 1))) M := by
    refine ⟨_, rfl, fun W hW => ?_⟩
    have hcell : ∀ (W : World), W.heap = w.heap → ∀ j v, M[j]? = some v → W.cell? ((if c = i + 1 then (⟨g, 0, none⟩ : Addr) else ⟨g, (i + 1) * 8, none⟩).add j) = some v := fun W hW j v hj => by
      by_cases h : c = i + 1
      · have h0 : M = [] := List.eq_nil_of_length_eq_zero (by rw [lM]; omega)
        rw [h0] at hj; simp at hj
      · rw [if_neg h, addr_add, World.cell?, hW, hg]
        rw [hM, List.getElem?_drop, List.getElem?_take] at hj
        split at hj
        · simpa using hj
        · cases hj
    exact ⟨fun w' => by simp [Builtin.lenOf], run_firstCells_some W _ _ _ _ _ _ lM (hcell W hW), run_firstCells_some W.drew _ _ _ _ _ _ lM (hcell W.drew hW), lM, hM1⟩
  obtain ⟨R1, hR1⟩ : ∃ R1 : Array Value, R1 = (cur.toList.take (i * 8) ++ M ++ cur.toList.drop (i * 8 + m * 8)).toArray := ⟨_, rfl⟩
  have hap := append_room (ty := 40) (x := ty T 66) Try.underlying40 Try.underlying40 (.inr ⟨_, rfl⟩) hI (hsrc w.drew rfl) (g := g) (n := i) (cap := c) (cur := cur) (e' := e) hg (by omega) (by
    show i * 8 + _ ≤ _
    rw [lM, hcs]; omega)
  simp only [h8, lM] at hap
  rw [← hR1] at hap
  obtain ⟨i0, z, hi0, hzs, hzb, hz0, hzc, _⟩ := hI.info
  have hzl : z.cells.size = 8 := by
    have := hI.z
    rw [← Array.length_toList, hzc]; rfl
  obtain ⟨R2, hR2⟩ : ∃ R2 : Array Value, R2 = (R1.toList.take ((i + m) * 8) ++ (Builtin.zeroCells z.cells 1).toList ++ R1.toList.drop ((i + m) * 8 + 1 * 8)).toArray := ⟨_, rfl⟩
  have sR1 : R1.size = c * 8 := by
    rw [hR1, List.size_toArray, List.length_append, List.length_append, lM, List.length_drop, List.length_take, Array.length_toList (xs := cur), hcs]; omega
  have hzv : ∀ w, (zeroValue 66).run Try.prog w = .ok z w := fun w => by simp [zeroValue, typeInfo, hi0, hz0]
  have hcl : ∀ (W : World), W.heap = (w.setRow g R1).heap → (Builtin.clear_ #[40] 0 #[.slice (some ⟨g, (i + m) * 8, none⟩) 1 (c - (i + m))]).run Try.prog W = .ok (.tuple #[]) (W.setRow g R2) := fun W hW => by
    rw [hR2]
    exact run_clear_row W _ _ _ z Try.underlying40 hzv hzl (by rw [hzc]; exact fun v hv => flat_one (hI.fl v hv)) g ((i + m) * 8) 1 _ (by omega) R1 e (by rw [hW]; exact setRow_heap _ _ _ _ _ _ hg) (by rw [sR1]; omega)
  have eR2 : R2 = (cur.toList.take (i * 8) ++ M ++ ((Builtin.zeroCells z.cells 1).toList ++ R1.toList.drop ((i + m) * 8 + 1 * 8))).toArray := by
    rw [hR2]
    congr 1
    have hl : (cur.toList.take (i * 8) ++ M).length = (i + m) * 8 := by
      rw [List.length_append, lM, List.length_take, Array.length_toList (xs := cur), hcs]; omega
    have : R1.toList.take ((i + m) * 8) = cur.toList.take (i * 8) ++ M := by
      rw [hR1, List.toList_toArray, ← hl, List.take_left]
    rw [this]; simp
  have lR : ((Builtin.zeroCells z.cells 1).toList ++ R1.toList.drop ((i + m) * 8 + 1 * 8)).length = (c - (i + m)) * 8 := by
    rw [List.length_append, Array.length_toList, size_zeroCells, hzl, List.length_drop, Array.length_toList (xs := R1), sR1]; omega
  have hres : Hold (R2 = (cur.toList.take (i * 8) ++ M ++ ((Builtin.zeroCells z.cells 1).toList ++ R1.toList.drop ((i + m) * 8 + 1 * 8))).toArray) := ⟨eR2⟩
  have lR' : Hold (((Builtin.zeroCells z.cells 1).toList ++ R1.toList.drop ((i + m) * 8 + 1 * 8)).length = (c - (i + m)) * 8) := ⟨lR⟩
  have hc1 := hcl (w.drew.setRow g R1) rfl
  have hc2 := hcl (w.drew.setRow g R1).drew rfl
  have h9 : c ≤ 9223372036854775807 := hc63
  have hn1 : ¬ ((i : Int) = (i : Int) + 1) := by omega
  have hb1 : (i : Int) + 1 ≤ ((i + 1 + m : Nat) : Int) := by omega
  have hb2 : ((i + 1 + m : Nat) : Int) ≤ (c : Int) := by omega
  have ht : ((i : Int) + 1).toNat = i + 1 := by omega
  have hic : i ≤ c := by omega
  have hi1 : (i : Int) ≤ (i : Int) + 1 := by omega
  have hi2 : i + 1 ≤ c := by omega
  have hcim : ¬ (c = i + m) := by omega
  have hle1 : (i : Int) + (m : Int) ≤ (i : Int) + 1 + (m : Int) := by omega
  have hle2 : (i : Int) + 1 + (m : Int) ≤ (c : Int) := by omega
  have hsub : i + 1 + m - (i + m) = 1 := by omega
  have h0i : (0 : Int) ≤ (i : Int) + 1 := by omega
  have hbm : (i : Int) + 1 ≤ (i : Int) + 1 + (m : Int) := by omega
  rw [← hM]
  clear hI hM hsrc hR1 hR2 hcl hzl hzc hz0 hzv hi0 hzs hzb sR1 eR2 lR hM1 h1 lM h8
  by_cases hce : c = i + 1
  · rw [if_pos hce] at hAd
    subst hAd
    subst hce
    obtain rfl : m = 0 := by omega
    rw [Nat.sub_self] at hap
    simp only [Nat.add_zero, Nat.add_sub_cancel_left] at hap hc1 hc2 hres lR' hb1 hb2 hbm hcim hle1 hle2 hsub ⊢
    go_enter Try.func102, Try.ntmps102
    go_wp2
    go_region_law (refine step_append_run rfl _ _ 40 40 rfl _ _ (by simp [Act.eval, Act.put]) (by simp [Act.eval, Act.put]) hap ?_)
    go_wp2
    go_ret
    exact ⟨rfl, w.drew, R1, _, lR'.h, rfl, rfl, rfl, rfl, by rw [← hres.h]⟩
  · rw [if_neg hce] at hAd
    subst hAd
    go_enter Try.func102, Try.ntmps102
    go_wp2
    go_region_law (refine step_append_run rfl _ _ 40 40 rfl _ _ (by simp [Act.eval, Act.put]) (by simp [Act.eval, Act.put]) hap ?_)
    go_wp2
    go_ret
    exact ⟨rfl, w.drew, R1, _, lR'.h, rfl, rfl, rfl, rfl, by rw [← hres.h]⟩
end Go.Proofs.Ytijkfjahgijphaa.E
