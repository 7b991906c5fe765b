/- slices.Insert at rows of eight cells (items): its contract, walked. -/
import Derived.Lib.AppendZerosOnto
import Derived.Lib.Overlaps
import Derived.Shelf.RegionOpenPlain
import Derived.WalkKit
import Derived.WalkSpells
import Derived.Deep.RegionLaw
import Derived.Lib.Walk
import Derived.Laws.NewBlocks
import Derived.Test.YtijkfjahgijphaaBase
set_option linter.unusedVariables false
set_option linter.unusedSimpArgs false
namespace Go.Proofs.Ytijkfjahgijphaa
open Go E Go.Lib Go.RowKit
theorem run_copy_row {P : Program} (w : World) (dT sT ty elem : TypeId) {k : Nat} (g o dLen dCap : Nat) (a : Addr) (sLen sCap n : Nat) (cs : List Value) (cur : Array Value) (e : TypeId)
    (hu : P.underlying dT = some (.slice elem)) (hs : ∀ w, (Go.sizeOf elem).run P w = .ok k w) (hmin : Nat.min sLen dLen = n) (hn : cs.length = n * k)
    (hsrc : ∀ j v, cs[j]? = some v → w.cell? (a.add j) = some v) (hh : w.heap[g]? = some (.cells cur e (0, 0))) (hle : o + cs.length ≤ cur.size) (h1 : ∀ v ∈ cs, v.oneCell' = true) :
    (Builtin.copy_ #[dT, sT] ty #[.slice (some ⟨g, o, none⟩) dLen dCap, .slice (some a) sLen sCap]).run P w = .ok (goInt n) (w.setRow g (cur.toList.take o ++ cs ++ cur.toList.drop (o + cs.length)).toArray) := by
  have hl := run_loadCells_list (P := P) w a cs hsrc
  have hst := run_storeCells_at P g o e cs 0 cur w hh (by simpa using hle) h1
  simp only [Nat.add_zero] at hst
  simp [Builtin.copy_, run_underlying hu, Builtin.lenOf, Builtin.firstCells, hs, hmin, ← hn, hl, hst]
theorem wpList_copy_runI' (w : World) {P : Program} {ops : Array Oper} {rest : List Oper} {o : Oper} {a : Act} {Q : Exit → Act → World → Prop} (hgd : o.guard = none) (d s : Operand) (t t' : TypeId)
    (ho : o.op = .call { callee := .builtin .copy, args := #[d, s], argTypes := #[t, t'] }) (v u : Value) (hd : a.eval d = v) (hs : a.eval s = u) {v' : Value} {w' : World}
    (hr : (Builtin.copy_ #[t, t'] o.type #[v, u]).run P w = .ok v' w') (h : wpList P ops Q rest (a.put o.dst v') w') : wpList P ops Q (o :: rest) a w := by
  refine wpList_plain hgd fun _ hK => ?_
  have hK := hK _ _ h
  unfold Oper.wp execOp
  simp only [ho, resolve, invoke, builtin, Sem.run_bind, Sem.run_pure, Result.andThen_ok, List.map_toArray, List.map_cons, List.map_nil, hd, hs, hr]
  exact hK
theorem step_copy_runI' {P : Program} {ops : Array Oper} {o : Oper} {a : Act} {w : World} {K : Act → World → Prop} {Q : Exit → Act → World → Prop} {E : Prop}
    (hg : o.guard = none) (d x : Operand) (dT sT : TypeId) (hop : o.op = Op.call { callee := Callee.builtin Builtin.copy, args := #[d, x], argTypes := #[dT, sT] })
    (v u : Value) (hd : a.eval d = v) (hx : a.eval x = u) {v' : Value} {w' : World} (hr : (Builtin.copy_ #[dT, sT] o.type #[v, u]).run P w = .ok v' w') (hK : K (a.put o.dst v') w') :
    if Region.wanted o (yielded ops a.tmps) = true then Oper.wp P o a w K Q else E := by
  have hw : Region.wanted o (yielded ops a.tmps) = true := by simp [Region.wanted, hg]
  rw [if_pos hw]
  unfold Oper.wp
  simp [execOp, hop, resolve, invoke, builtin, hd, hx, hr, Result.andThen]
  exact hK
theorem size_item : ∀ w, (Go.sizeOf 66).run Try.prog w = .ok 8 w := ((T_ok 66).known (of_decide_eq_true (by kernel_rfl))).size
set_option maxHeartbeats 4000000 in
set_option maxRecDepth 100000 in
/-- there is room, and it isn't the end: in place -/
theorem ins_shift (g n c i vb vc : Nat) (cur new : Array Value) (e e2 : TypeId) (w : World) (hi : i < n) (hroom : n + 1 ≤ c) (hc63 : c ≤ 9223372036854775807) (hvb : vb ≠ g)
    (hg : w.heap[g]? = some (.cells cur e (0, 0))) (hv : w.heap[vb]? = some (.cells new e2 (0, 0))) (hcs : cur.size = c * 8) (hnew : 8 ≤ new.size)
    (h1 : ∀ v ∈ cur.toList.take (n * 8), v.oneCell' = true) (h2 : ∀ v ∈ new.toList.take 8, v.oneCell' = true) :
    Calls Try.prog 101 #[.slice (some ⟨g, 0, none⟩) n c, .int .i64 i, .slice (some ⟨vb, 0, none⟩) 1 vc] w fun x w' => x = .returned (.slice (some ⟨g, 0, none⟩) (n + 1) c) ∧
      ∃ w1 : World, w1.heap = w.heap ∧ w1.os = w.os ∧ w1.tape = w.tape ∧ w1.output = w.output ∧ w' = (w1.setRow g (cur.toList.take ((i + 1) * 8) ++ (cur.toList.take (n * 8)).drop (i * 8) ++ cur.toList.drop ((n + 1) * 8)).toArray).setRow g
        (cur.toList.take (i * 8) ++ new.toList.take 8 ++ ((cur.toList.take (n * 8)).drop (i * 8) ++ cur.toList.drop ((n + 1) * 8))).toArray := by
  have hw1 : IntKind.i64.wrap ((i : Int) + (1 : Int)) = (i : Int) + (1 : Int) := by rw [IntKind.wrap_i64]; omega
  have hz2 : ¬ ((i : Int) = (n : Int)) := by omega
  have hb1 : (0 : Int) ≤ (i : Int) + (1 : Int) := by omega
  have hin : i ≤ n := by omega
  have htn : ((i : Int) + (1 : Int)).toNat = i + 1 := by omega
  have hb2 : ¬ (c = i + 1) := by omega
  have hb3 : (i : Int) ≤ (n : Int) + (1 : Int) := by omega
  have hb4 : ¬ (c = i) := by omega
  go_enter Try.func101, Try.ntmps101
  have hov : ∀ (ad : Addr) lb cb, ad.block = g → (callFunc 146 #[.slice (some ⟨vb, 0, none⟩) 1 vc, .slice (some ad) lb cb]).run Try.prog w = .ok (.value (.bool false)) w := fun ad lb cb had => by
    rw [run_callFunc_extern Try.func146 (by kernel_rfl) (by kernel_rfl) (by kernel_rfl) (e := Extern.SlicesOverlaps.overlaps #[40, 40] #[4]) (by kernel_rfl),
      Lib.run_overlaps_apart w 40 4 66 Try.underlying40 8 size_item ⟨vb, 0, none⟩ ad 1 vc lb cb (by rw [had]; exact hvb) e2 e new.size cur.size (by simp [World.shape?, hv]) (by simp [World.shape?, had, hg]) (by rw [hcs]; omega) (by simp [World.frozen?, hv]) (by simp [World.frozen?, hv])]
    rfl
  have hd2 : (((cur.toList.take (n * 8)).drop (i * 8)).length) = (n - i) * 8 := by rw [List.length_drop, List.length_take, Array.length_toList, Nat.sub_mul]; omega
  have hcp1 : ∀ (W : World) ty dc sc, W.heap = w.heap → (Builtin.copy_ #[40, 40] ty #[.slice (some ⟨g, (i + 1) * 8, none⟩) (n - i) dc, .slice (some ⟨g, i * 8, none⟩) (n + 1 - i) sc]).run Try.prog W = .ok (goInt (n - i : Nat)) (W.setRow g (cur.toList.take ((i + 1) * 8) ++ (cur.toList.take (n * 8)).drop (i * 8) ++ cur.toList.drop ((n + 1) * 8)).toArray) := fun W ty dc sc hW => by
    have := run_copy_row (P := Try.prog) (ty := ty) W 40 40 66 g ((i + 1) * 8) (n - i) dc ⟨g, i * 8, none⟩ (n + 1 - i) sc (n - i) ((cur.toList.take (n * 8)).drop (i * 8)) cur e Try.underlying40 size_item (by simp only [Nat.min_def]; split <;> omega) hd2 (fun j v hj => by
        rw [addr_add, World.cell?, hW, hg]
        rw [List.getElem?_drop, List.getElem?_take] at hj
        split at hj
        · simpa using hj
        · cases hj) (by rw [hW]; exact hg) (by rw [hd2, hcs, ← Nat.add_mul]; exact Nat.mul_le_mul_right _ (by omega)) (fun v hv => h1 v (List.mem_of_mem_drop hv))
    rw [this]
    congr 4
    rw [hd2, ← Nat.add_mul]
    congr 2
    omega
  obtain ⟨R1, hR1⟩ : ∃ R1, R1 = (cur.toList.take ((i + 1) * 8) ++ (cur.toList.take (n * 8)).drop (i * 8) ++ cur.toList.drop ((n + 1) * 8)).toArray := ⟨_, rfl⟩
  obtain ⟨R2, hR2⟩ : ∃ R2, R2 = (cur.toList.take (i * 8) ++ new.toList.take 8 ++ ((cur.toList.take (n * 8)).drop (i * 8) ++ cur.toList.drop ((n + 1) * 8))).toArray := ⟨_, rfl⟩
  have hcp2 : ∀ (W : World) ty dc sc, W.heap = (w.setRow g R1).heap → (Builtin.copy_ #[40, 40] ty #[.slice (some ⟨g, i * 8, none⟩) (n + 1 - i) dc, .slice (some ⟨vb, 0, none⟩) 1 sc]).run Try.prog W = .ok (goInt (1 : Nat)) (W.setRow g R2) := fun W ty dc sc hW => by
    have hsz : R1.size = cur.size := by
      rw [hR1, List.size_toArray, List.length_append, List.length_append, hd2, List.length_take, List.length_drop, Array.length_toList, hcs, Nat.sub_mul, Nat.add_mul, Nat.add_mul]
      have := Nat.mul_le_mul_right 8 hroom
      have := Nat.mul_le_mul_right 8 hin
      omega
    have := run_copy_row (P := Try.prog) (ty := ty) W 40 40 66 g (i * 8) (n + 1 - i) dc ⟨vb, 0, none⟩ 1 sc 1 (new.toList.take 8) R1 e Try.underlying40 size_item (by simp only [Nat.min_def]; split <;> omega) (by rw [List.length_take, Array.length_toList]; omega) (fun j v hj => by
        rw [addr_add, World.cell?, hW, setRow_other w g vb _ hvb, hv]
        rw [List.getElem?_take] at hj
        split at hj
        · simpa using hj
        · cases hj) (by rw [hW]; exact setRow_heap w g _ _ _ _ hg) (by rw [List.length_take, Array.length_toList, hsz, hcs]; have := Nat.mul_le_mul_right 8 hroom; omega) h2
    rw [this]
    congr 2
    rw [hR2, hR1]
    congr 1
    have hl8 : (List.take 8 new.toList).length = 8 := by rw [List.length_take, Array.length_toList]; omega
    have hlt : (List.take ((i + 1) * 8) cur.toList).length = (i + 1) * 8 := by rw [List.length_take, Array.length_toList]; omega
    rw [hl8, List.append_assoc, List.append_assoc, List.take_append_of_le_length (by rw [hlt]; omega), List.take_take, Nat.min_eq_left (by omega), show i * 8 + 8 = (i + 1) * 8 by omega, List.drop_append_of_le_length (by rw [hlt]; omega), List.drop_of_length_le (by rw [hlt]; omega), List.nil_append, List.append_assoc]
  rw [← hR1] at hcp1
  rw [← hR1, ← hR2]
  have hcpD := fun ty dc sc => hcp1 w.drew ty dc sc rfl
  have hcpE := fun ty dc sc => hcp2 (w.drew.setRow g R1) ty dc sc rfl
  have hcpF := fun ty dc sc => hcp2 (w.drew.setRow g R1).drew ty dc sc rfl
  clear hd2 hR1 hR2 hcp1 hcp2
  go_wp2
  go_region
  go_wp2
  go_ret
  exact ⟨rfl, w.drew, rfl, rfl, rfl, rfl, rfl⟩
theorem list_mid {α : Type} {A V Z D Y : List α} {a v d : Nat} (ha : A.length = a) (hv : V.length = v) (hZ : v + d = Z.length) (hd : D.length = d) :
    (A ++ Z ++ Y).take a ++ V ++ (A ++ Z ++ Y).drop (a + v) = A ++ V ++ Z.drop v ++ Y ∧ (A ++ V ++ Z.drop v ++ Y).take (a + v) ++ D ++ (A ++ V ++ Z.drop v ++ Y).drop (a + v + d) = A ++ V ++ D ++ Y := by
  subst ha; subst hv; subst hd
  constructor
  · have h : A ++ Z ++ Y = A ++ (Z ++ Y) := by simp
    rw [h, List.take_left, ← List.drop_drop, List.drop_left, List.drop_append_of_le_length (by omega)]
    simp
  · have h : A ++ V ++ Z.drop V.length ++ Y = (A ++ V) ++ (Z.drop V.length ++ Y) := by simp
    have hl : A.length + V.length = (A ++ V).length := by simp
    have hz : (Z.drop V.length).length = D.length := by rw [List.length_drop]; omega
    rw [h, hl, List.take_left, ← List.drop_drop, List.drop_left, ← hz, List.drop_left]
theorem heap_alloc_new (w : World) (o : Obj) : (w.alloc o).heap[w.heap.size]? = some o := han w o
theorem heap_alloc_old (w : World) (o : Obj) {k : Nat} (hk : k < w.heap.size) : (w.alloc o).heap[k]? = w.heap[k]? := hao w o k hk
set_option maxHeartbeats 4000000 in
set_option maxRecDepth 100000 in
/-- there is no room, and it isn't the end: a new row -/
theorem ins_grow (g n c i vb vc : Nat) (cur new : Array Value) (e e2 : TypeId) (w : World) (hi : i < n) (hnc : n ≤ c) (hroom : c < n + 1) (hbig : n ≤ 1000000)
    (hg : w.heap[g]? = some (.cells cur e (0, 0))) (hv : w.heap[vb]? = some (.cells new e2 (0, 0))) (hcs : cur.size = c * 8) (hnew : 8 ≤ new.size)
    (h1 : ∀ v ∈ cur.toList.take (n * 8), v.oneCell' = true) (h2 : ∀ v ∈ new.toList.take 8, v.oneCell' = true) :
    Calls Try.prog 101 #[.slice (some ⟨g, 0, none⟩) n c, .int .i64 i, .slice (some ⟨vb, 0, none⟩) 1 vc] w fun x w' => ∃ (G : Nat) (R0 R1 : Array Value) (rest : List Value), n + 1 ≤ G ∧ G ≤ maxLen ∧ rest.length = (G - (n + 1)) * 8 ∧ x = .returned (.slice (some ⟨w.heap.size, 0, none⟩) (n + 1) G) ∧
      ∃ w1 : World, w1.heap = w.heap ∧ w1.os = w.os ∧ w1.tape = w.tape ∧ w1.output = w.output ∧ w' = ((w1.alloc (.cells R0 66)).setRow w.heap.size R1).setRow w.heap.size
        (cur.toList.take (i * 8) ++ new.toList.take 8 ++ (cur.toList.take (n * 8)).drop (i * 8) ++ rest).toArray := by
  have hI := (T_ok 66).known (of_decide_eq_true (by kernel_rfl))
  obtain ⟨i0, z, hi0, hzs, hzb, hz0, hzc, _⟩ := hI.info
  have hzs : i0.size = 8 := hzs
  have hzl : z.cells.size = 8 := by
    have := hI.z
    rw [← Array.length_toList, hzc]; rfl
  have hzb : i0.bytes ≤ 1000 := by rw [hzb]; exact of_decide_eq_true (by kernel_rfl)
  have hbb : (n + 1) * i0.bytes ≤ 140737488355328 := by
    have := Nat.mul_le_mul (show n + 1 ≤ 1000001 by omega) hzb
    omega
  have hkk : (n : Int) + (1 : Int) - (i : Int) = ((n + 1 - i : Nat) : Int) := by omega
  have hik : i + (n + 1 - i) = n + 1 := by omega
  have hold : (Builtin.firstCells i0.size i (.slice (some ⟨g, 0, none⟩) i c)).run Try.prog w.drew = .ok (cur.toList.take (i * 8)).toArray w.drew := by
    rw [hzs]
    exact run_firstCells_some w.drew 8 i ⟨g, 0, none⟩ i c (cur.toList.take (i * 8)) (by rw [List.length_take, Array.length_toList]; omega) (fun j v hj => by
      rw [addr_add, Nat.zero_add, World.cell?_drew, World.cell?, hg]
      rw [List.getElem?_take] at hj
      split at hj
      · simpa using hj
      · cases hj)
  obtain ⟨G, hG⟩ : ∃ G, G = grownCap w (n + 1) c 66 := ⟨_, rfl⟩
  have hGn : n + 1 ≤ G := by rw [hG]; exact grownCap_ge w _ _ _
  have hG63 : G ≤ maxLen := by rw [hG]; exact grownCap_le_maxLen w (n + 1) c _ (by unfold maxLen; omega)
  obtain ⟨R0, hR0⟩ : ∃ R0 : Array Value, R0 = (cur.toList.take (i * 8)).toArray ++ Builtin.zeroCells z.cells (n + 1 - i) ++ Builtin.zeroCells z.cells (G - (n + 1)) := ⟨_, rfl⟩
  have hrz : ∀ ty, (Builtin.append_ #[40, 3] ty #[.slice (some ⟨g, 0, none⟩) i c, .int .i64 ((n : Int) + (1 : Int) - (i : Int))]).run Try.prog w = .ok (.slice (some ⟨w.heap.size, 0, none⟩) (n + 1) G) (w.drew.alloc (.cells R0 66)) := fun ty => by
    have h := Lib.run_append_grow_zeros w 40 3 ty 66 i0 z .i64 .i64 Try.underlying40 Try.underlying3 hi0 hz0 (some ⟨g, 0, none⟩) i c (cur.toList.take (i * 8)) hold (n + 1 - i) (by omega) (by omega) (by omega) (by omega)
      (by have := Nat.mul_le_mul_right i0.bytes (show n + 1 - i ≤ n + 1 by omega); omega) (by rw [hik]; exact growslice_fits hroom hbb)
    rw [hik, ← hG] at h
    rw [hkk, hR0]
    exact h
  obtain ⟨A, hA⟩ : ∃ A, A = cur.toList.take (i * 8) := ⟨_, rfl⟩
  obtain ⟨V, hV⟩ : ∃ V, V = new.toList.take 8 := ⟨_, rfl⟩
  obtain ⟨D, hD⟩ : ∃ D, D = (cur.toList.take (n * 8)).drop (i * 8) := ⟨_, rfl⟩
  obtain ⟨Z, hZ⟩ : ∃ Z, Z = (Builtin.zeroCells z.cells (n + 1 - i)).toList := ⟨_, rfl⟩
  obtain ⟨Y, hY⟩ : ∃ Y, Y = (Builtin.zeroCells z.cells (G - (n + 1))).toList := ⟨_, rfl⟩
  have lA : A.length = i * 8 := by rw [hA, List.length_take, Array.length_toList]; omega
  have lV : V.length = 8 := by rw [hV, List.length_take, Array.length_toList]; omega
  have lD : D.length = (n - i) * 8 := by rw [hD, List.length_drop, List.length_take, Array.length_toList, Nat.sub_mul]; omega
  have lZ : 8 + (n - i) * 8 = Z.length := by rw [hZ, Array.length_toList, size_zeroCells, hzl]; omega
  have lY : Y.length = (G - (n + 1)) * 8 := by rw [hY, Array.length_toList, size_zeroCells, hzl]
  have eR0 : R0.toList = A ++ Z ++ Y := by rw [hR0, hA, hZ, hY]; simp
  obtain ⟨m1, m2⟩ := list_mid (A := A) (V := V) (Z := Z) (D := D) (Y := Y) lA lV lZ lD
  have sR0 : R0.size = G * 8 := by
    rw [← Array.length_toList, eR0, List.length_append, List.length_append, lA, ← lZ, lY, Nat.sub_mul, Nat.sub_mul]
    have := Nat.mul_le_mul_right 8 hGn
    omega
  obtain ⟨R1, hR1⟩ : ∃ R1 : Array Value, R1 = (A ++ V ++ Z.drop 8 ++ Y).toArray := ⟨_, rfl⟩
  have sR1 : R1.size = G * 8 := by
    rw [hR1, List.size_toArray, List.length_append, List.length_append, List.length_append, lA, lV, List.length_drop, ← lZ, lY, Nat.sub_mul, Nat.sub_mul]
    have := Nat.mul_le_mul_right 8 hGn
    omega
  obtain ⟨R2, hR2⟩ : ∃ R2 : Array Value, R2 = (A ++ V ++ D ++ Y).toArray := ⟨_, rfl⟩
  have hgw : g < w.heap.size := (Array.getElem?_eq_some_iff.1 hg).1
  have hvw : vb < w.heap.size := (Array.getElem?_eq_some_iff.1 hv).1
  have hcpA : ∀ (W : World) ty dc sc, W.heap = (w.alloc (.cells R0 66)).heap → (Builtin.copy_ #[40, 40] ty #[.slice (some ⟨w.heap.size, i * 8, none⟩) (n + 1 - i) dc, .slice (some ⟨vb, 0, none⟩) 1 sc]).run Try.prog W = .ok (goInt (1 : Nat)) (W.setRow w.heap.size R1) := fun W ty dc sc hW => by
    have := run_copy_row (P := Try.prog) (ty := ty) W 40 40 66 w.heap.size (i * 8) (n + 1 - i) dc ⟨vb, 0, none⟩ 1 sc 1 V R0 66 Try.underlying40 size_item (by simp only [Nat.min_def]; split <;> omega) (by rw [lV]) (fun j v hj => by
        rw [addr_add, World.cell?, hW, heap_alloc_old _ _ hvw, hv]
        rw [hV, List.getElem?_take] at hj
        split at hj
        · simpa using hj
        · cases hj) (by rw [hW]; exact heap_alloc_new _ _) (by rw [lV, sR0]; have := Nat.mul_le_mul_right 8 hGn; omega) (by rw [hV]; exact h2)
    rw [this, eR0, lV, m1, hR1]
  have hcpB : ∀ (W : World) ty dc sc, W.heap = ((w.alloc (.cells R0 66)).setRow w.heap.size R1).heap → (Builtin.copy_ #[40, 40] ty #[.slice (some ⟨w.heap.size, (i + 1) * 8, none⟩) (n - i) dc, .slice (some ⟨g, i * 8, none⟩) (n - i) sc]).run Try.prog W = .ok (goInt (n - i : Nat)) (W.setRow w.heap.size R2) := fun W ty dc sc hW => by
    have := run_copy_row (P := Try.prog) (ty := ty) W 40 40 66 w.heap.size ((i + 1) * 8) (n - i) dc ⟨g, i * 8, none⟩ (n - i) sc (n - i) D R1 66 Try.underlying40 size_item (by simp) lD (fun j v hj => by
        rw [addr_add, World.cell?, hW, setRow_other _ _ _ _ (Nat.ne_of_lt hgw), heap_alloc_old _ _ hgw, hg]
        rw [hD, List.getElem?_drop, List.getElem?_take] at hj
        split at hj
        · simpa using hj
        · cases hj) (by rw [hW]; exact setRow_heap _ _ _ _ _ _ (heap_alloc_new _ _)) (by rw [lD, sR1, ← Nat.add_mul]; exact Nat.mul_le_mul_right 8 (by omega)) (by rw [hD]; exact fun v hv => h1 v (List.mem_of_mem_drop hv))
    rw [this, lD, show (i + 1) * 8 = i * 8 + 8 by omega, hR1, List.toList_toArray, m2, hR2]
  have hres : Hold (R2 = (A ++ V ++ D ++ Y).toArray) := ⟨hR2⟩
  have hcA1 := fun ty dc sc => hcpA (w.drew.alloc (.cells R0 66)) ty dc sc rfl
  have hcA2 := fun ty dc sc => hcpA (w.alloc (.cells R0 66)).drew ty dc sc rfl
  have hcB1 := fun ty dc sc => hcpB (((w.alloc (.cells R0 66)).drew.setRow w.heap.size R1).drew) ty dc sc rfl
  have hcB2 := fun ty dc sc => hcpB (((w.drew.alloc (.cells R0 66)).setRow w.heap.size R1).drew) ty dc sc rfl
  have hz2 : ¬ ((i : Int) = (n : Int)) := by omega
  have hz3 : (c : Int) < (n : Int) + (1 : Int) := by omega
  have hw1 : IntKind.i64.wrap ((i : Int) + (1 : Int)) = (i : Int) + (1 : Int) := by rw [IntKind.wrap_i64]; omega
  have hb1 : (0 : Int) ≤ (i : Int) + (1 : Int) := by omega
  have hin : i ≤ n := by omega
  have htn : ((i : Int) + (1 : Int)).toNat = i + 1 := by omega
  have hb3 : (i : Int) ≤ (n : Int) := by omega
  have hGi : ¬ (G = i) := by omega
  have hGim : ¬ (G = i + 1) := by omega
  have hci : ¬ (c = i) := by omega
  have hG6 : G ≤ 9223372036854775807 := hG63
  rw [← hA, ← hV, ← hD]
  clear hR0 hR1 hR2 hA hV hD hZ hY hcpA hcpB hkk hik hold hG sR0 sR1 m1 m2 eR0 hI hi0 hzs hzl hzb hz0 hzc hbb hG63
  go_enter Try.func101, Try.ntmps101
  go_wp2_with (first
    | (at_builtin; refine Lib.wpList_append_run _ rfl _ _ _ _ rfl _ _ rfl rfl _ _ (hrz _) ?_)
    | (at_builtin; refine wpList_copy_runI' _ rfl _ _ 40 40 rfl _ _ rfl rfl (hcA1 _ _ _) ?_)
    | (at_builtin; refine wpList_copy_runI' _ rfl _ _ 40 40 rfl _ _ rfl rfl (hcA2 _ _ _) ?_))
  go_region
  go_wp2
  go_ret
  exact ⟨G, R0, R1, Y, hGn, hG6, lY, rfl, w.drew.drew, rfl, rfl, rfl, rfl, by rw [← hres.h]; rfl⟩
set_option maxHeartbeats 4000000 in
set_option maxRecDepth 100000 in
/-- at the end: append -/
theorem ins_end (n c vc : Nat) (base : Option Addr) (vb : Nat) (w w2 : World) (v2 : Value)
    (hr : (Builtin.append_ #[40, 40] 40 #[.slice base n c, .slice (some ⟨vb, 0, none⟩) 1 vc]).run Try.prog w = .ok v2 w2) :
    Calls Try.prog 101 #[.slice base n c, .int .i64 n, .slice (some ⟨vb, 0, none⟩) 1 vc] w fun x w' => x = .returned v2 ∧ w' = w2 := by
  go_enter Try.func101, Try.ntmps101
  cases base with
  | none =>
    go_wp2_with (at_builtin; refine Lib.wpList_append_run _ rfl _ _ _ _ rfl _ _ rfl rfl _ _ hr ?_)
    all_goals (go_ret; exact ⟨rfl, rfl⟩)
  | some a =>
    obtain ⟨ab, ao, asp⟩ := a
    go_wp2_with (at_builtin; refine Lib.wpList_append_run _ rfl _ _ _ _ rfl _ _ rfl rfl _ _ hr ?_)
    all_goals (go_ret; exact ⟨rfl, rfl⟩)
end Go.Proofs.Ytijkfjahgijphaa
