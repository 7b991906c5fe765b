/- slices.Grow of nil: its contract. -/
import Derived.Test.YtijkfjahgijphaaKDel2
import Derived.Test.YtijkfjahgijphaaKTypes
set_option linter.unusedVariables false
set_option linter.unusedSimpArgs false
namespace Go.Proofs.Ytijkfjahgijphaa.E
open Go Go.Lib Go.RowKit
set_option maxHeartbeats 4000000 in
set_option maxRecDepth 100000 in
theorem grow_some (n : Nat) (w : World) (h0 : 0 < n) (hn : n ≤ 10000000) : Calls Try.prog 152 #[.slice none 0 0, .int .i64 n] w fun x w' => ∃ (G : Nat) (R0 : Array Value), G ≤ maxLen ∧ R0.size = G * 9 ∧ x = .returned (.slice (some ⟨w.heap.size, 0, none⟩) 0 G) ∧
    ∃ w1 : World, w1.heap = w.heap ∧ w1.os = w.os ∧ w1.tape = w.tape ∧ w1.output = w.output ∧ w' = w1.alloc (.cells R0 141) := by
  have hI := (T_ok 141).known (of_decide_eq_true (by kernel_rfl))
  have h9 : (ty T 141).sz = 9 := by kernel_rfl
  obtain ⟨i0, z, hi0, hzs, hzb, hz0, hzc, _⟩ := hI.info
  rw [h9] at hzs
  have hzl : z.cells.size = 9 := by
    have := hI.z
    rw [← Array.length_toList, hzc, this, h9]
  have hzb : i0.bytes ≤ 1000 := by rw [hzb]; exact of_decide_eq_true (by kernel_rfl)
  have hold : (Builtin.firstCells i0.size 0 (.slice none 0 0)).run Try.prog w.drew = .ok ([] : List Value).toArray w.drew := by
    simp [Builtin.firstCells]
  have hbb : (0 + n) * i0.bytes ≤ 140737488355328 := by
    have := Nat.mul_le_mul (show 0 + n ≤ 10000000 by omega) hzb
    omega
  obtain ⟨G, hG⟩ : ∃ G, G = grownCap w (0 + n) 0 141 := ⟨_, rfl⟩
  have hGn : 0 + n ≤ G := by rw [hG]; exact grownCap_ge w _ _ _
  have hG63 : G ≤ maxLen := by rw [hG]; exact grownCap_le_maxLen w (0 + n) 0 _ (by unfold maxLen; omega)
  obtain ⟨R0, hR0⟩ : ∃ R0 : Array Value, R0 = ([] : List Value).toArray ++ Builtin.zeroCells z.cells n ++ Builtin.zeroCells z.cells (G - (0 + n)) := ⟨_, rfl⟩
  have hrz : ∀ ty, (Builtin.append_ #[29, 3] ty #[.slice none 0 0, .int .i64 n]).run Try.prog w = .ok (.slice (some ⟨w.heap.size, 0, none⟩) (0 + n) G) (w.drew.alloc (.cells R0 141)) := fun ty => by
    have h := Lib.run_append_grow_zeros w 29 3 ty 141 i0 z .i64 .i64 Try.underlying29 Try.underlying3 hi0 hz0 none 0 0 [] hold n (by omega) (by omega) (by omega) (by omega)
      (by have := Nat.mul_le_mul_right i0.bytes (show n ≤ 0 + n by omega); omega) (growslice_fits (by omega) hbb)
    rw [← hG] at h
    rw [hR0]
    exact h
  have sR0 : Hold (R0.size = G * 9) := ⟨by
    rw [hR0, Array.size_append, Array.size_append, size_zeroCells, size_zeroCells, hzl]
    simp; omega⟩
  rw [Nat.zero_add] at hrz hGn
  have hpos : ¬ ((n : Int) < 0) := by omega
  have hp2 : (0 : Int) < (n : Int) := by omega
  have hG6 : G ≤ 9223372036854775807 := hG63
  clear hR0 hG hold hbb hzl hzs hzb hz0 hzc hi0 hI h9 hG63
  go_enter Try.func152, Try.ntmps152
  go_wp2_with (at_builtin; refine Lib.wpList_append_run _ rfl _ _ _ _ rfl _ _ rfl rfl _ _ (hrz _) ?_)
  go_ret
  first | exact ⟨G, R0, hG6, sR0.h, rfl, w.drew, rfl, rfl, rfl, rfl, rfl⟩ | exact ⟨G, hG6, R0, sR0.h, rfl, w.drew, rfl, rfl, rfl, rfl, rfl⟩
set_option maxHeartbeats 4000000 in
set_option maxRecDepth 100000 in
theorem grow_none (w : World) : Calls Try.prog 152 #[.slice none 0 0, .int .i64 0] w fun x w' => x = .returned (.slice none 0 0) ∧ w' = w := by
  go_enter Try.func152, Try.ntmps152
  go_wp2
  go_ret
  exact ⟨rfl, rfl⟩
set_option maxRecDepth 100000 in
theorem grow_callOk {n : Int} (h0 : 0 ≤ n) (hn : n ≤ 10000000) : CallOk Try.prog 152 [.one (.p (.v (.slice none 0 0))), iv n] [] (.one (.own 0)) [.rows 9 []] := by
  refine ⟨⟨_, _, Try.func152, rfl, rfl⟩, fun w S inj vs hv hI hfree => ?_⟩
  cases hv with
  | cons h1 hv =>
  cases hv with
  | cons h2 hv =>
  cases hv
  have e1 := h1.flatv.1
  have e2 := h2.flatv.1
  subst e1 e2
  obtain ⟨n, rfl⟩ := Int.eq_ofNat_of_zero_le h0
  by_cases hz : n = 0
  · subst hz
    refine (grow_none w).mono ?_
    rintro e' w' ⟨rfl, rfl⟩
    obtain ⟨inj', hd⟩ := fin_own (n := 0) (k := 9) (l := []) hI rfl hfree (.refl _ _) (.inl ⟨rfl, rfl, none, rfl⟩)
    exact ⟨_, S, inj', rfl, hd⟩
  · refine (grow_some n w (by omega) (by omega)).mono ?_
    rintro e' w' ⟨G, R0, hGm, hs, rfl, w1, hw1, hos, htape, hout, rfl⟩
    have hz : w1.heap.size = w.heap.size := by rw [hw1]
    have hG : Grow w S (w1.alloc (.cells R0 141)) S := ⟨hos, htape, hout, by simp [hz], fun g' hg' => by rw [hao _ _ _ (by rw [hz]; exact hI.lt g' hg'), hw1], fun _ h => h, rfl⟩
    have hh1 : (w1.alloc (.cells R0 141)).heap[w.heap.size]? = some (.cells R0 141 (0, 0)) := by have := han w1 (.cells R0 141); rwa [hz] at this
    obtain ⟨inj', hd⟩ := fin_own (n := 0) (k := 9) (l := []) hI rfl hfree hG (.inr ⟨w.heap.size, G, R0, _, by decide, rfl, rfl, fun h => absurd (hI.lt _ h) (by omega), hh1, by simp, hGm, hs, by simp, by simpa using F2.nil⟩)
    exact ⟨_, S, inj', rfl, hd⟩
end Go.Proofs.Ytijkfjahgijphaa.E
namespace Go.Proofs.Ytijkfjahgijphaa
open Go E
def grow_s (n : Int) : Option (List Frag) := chk (decide (0 ≤ n ∧ n ≤ 10000000)) (some [])
theorem grow_c {X : Task → Prop} (hX : Closed X) {n : Int} {r : List Frag} {Q : A → List Blk → Prop} (h : grow_s n = some r) (hQ : Q (.one (.own 0)) [.rows 9 (r.map Frag.row)]) :
    X (.call 152 [.one (.p (.v (.slice Option.none 0 0))), iv n] [] Q) := by
  unfold grow_s at h
  obtain ⟨d, h⟩ := chk_some h
  injection h with h; subst h
  obtain ⟨h0, h1⟩ := of_decide_eq_true d
  exact prim_call hX (grow_callOk h0 h1) hQ
theorem slice_ok {α : Type} {f : α → List PC} {l : List α} {a b : Int} {sz : Nat} (h : (leI 0 a && (leI a b && leI b (l.length : Int))) = true) (hf : ∀ x, (f x).length = sz) : (lenC (l.map f) b && leI 0 a && leI a b && rowsOk (l.map f) sz) = true := by
  rw [Bool.and_eq_true, Bool.and_eq_true, leI_t, leI_t, leI_t] at h
  rw [rowsOk_map hf, Bool.and_true, leI_t.2 h.1, leI_t.2 h.2.1, Bool.and_true, Bool.and_true]
  unfold lenC; simp; omega
theorem br_case {α : Type} {c : Bool} {x y : Option α} {r : α} {G : Prop} (h : br c x y = some r) (ht : c = true → x = some r → G) (hf : c = false → y = some r → G) : G := by
  cases c
  · exact hf rfl h
  · exact ht rfl h
abbrev slrw {α : Type} (f : α → List PC) (l : List α) : List PC := [.sl (l.map f)]
end Go.Proofs.Ytijkfjahgijphaa
