/- Soundness of the operations, ninth part: append, slices of slices, literals, conversions, the other builtins. -/
import Derived.Test.YtaiedakbmmgmaaaEvOps8
import Derived.Lib.AppendStr
set_option linter.unusedVariables false
set_option linter.unusedSimpArgs false
namespace Go.Proofs.Ytaiedakbmmgmaaa.E
open Go
variable {P : Program} {T : List TI} {t : List A} {σ : List Blk} {nx : Nat} {o : Oper} {K : Kont}

/-! ### append -/
/-- what is appended: m elements, these cells, in this world and where an order has been drawn -/
structure Src (P : Program) (w : World) (size m : Nat) (x : Value) (news : List Value) : Prop where
  len : ∀ w', (Builtin.lenOf x).run P w' = .ok m w'
  cells : (Builtin.firstCells size m x).run P w = .ok news.toArray w
  cells' : (Builtin.firstCells size m x).run P w.drew = .ok news.toArray w.drew
  l : news.length = m * size
  one : ∀ u ∈ news, u.oneCell' = true
theorem append_room {s s' ty e : Nat} {x : TI} (ht : P.underlying s = some (.slice e)) {d' : TypeDesc} (ht' : P.underlying s' = some d') (hd' : d' = .string ∨ ∃ e2, d' = .slice e2) (hI : InfoOk P e x) {w : World} {m : Nat} {u : Value} {news : List Value}
    (hs : Src P w x.sz m u news) {g n cap : Nat} {cur : Array Value} {e' : TypeId} (hg : w.heap[g]? = some (.cells cur e' (0, 0))) (hroom : n + m ≤ cap) (hfit : n * x.sz + news.length ≤ cur.size) :
    (Builtin.append_ #[s, s'] ty #[.slice (some ⟨g, 0, none⟩) n cap, u]).run P w = .ok (.slice (some ⟨g, 0, none⟩) (n + m) cap) (w.setRow g (cur.toList.take (n * x.sz) ++ news ++ cur.toList.drop (n * x.sz + news.length)).toArray) := by
  have hst := run_storeCells_at P g (n * x.sz) e' news 0 cur w hg (by simpa using hfit) hs.one
  simp only [Nat.add_zero] at hst
  rcases hd' with rfl | ⟨e2, rfl⟩ <;> simp [Builtin.append_, run_underlying ht, run_underlying ht', hI.size, hs.len, hroom, hs.cells, addr_add, hst]
theorem append_none {s s' ty e : Nat} {x : TI} (ht : P.underlying s = some (.slice e)) {d' : TypeDesc} (ht' : P.underlying s' = some d') (hd' : d' = .string ∨ ∃ e2, d' = .slice e2) (hI : InfoOk P e x) {w : World} {u : Value}
    (hs : Src P w x.sz 0 u []) {base : Option Addr} {n cap : Nat} (hroom : n ≤ cap) :
    (Builtin.append_ #[s, s'] ty #[.slice base n cap, u]).run P w = .ok (.slice base n cap) w := by
  have h1 := hs.cells
  rcases hd' with rfl | ⟨e2, rfl⟩ <;> cases base <;> simp [Builtin.append_, run_underlying ht, run_underlying ht', hI.size, hs.len, hroom, h1, storeCells]
theorem append_grow {s s' ty e : Nat} {x : TI} (ht : P.underlying s = some (.slice e)) {d' : TypeDesc} (ht' : P.underlying s' = some d') (hd' : d' = .string ∨ ∃ e2, d' = .slice e2) (hI : InfoOk P e x) {w : World} {m : Nat} {u : Value} {news : List Value}
    (hs : Src P w x.sz m u news) {base : Option Addr} {n cap : Nat} {olds : List Value} (ho : (Builtin.firstCells x.sz n (.slice base n cap)).run P w.drew = .ok olds.toArray w.drew) (hno : cap < n + m) (hb : (n + m) * x.bytes ≤ 140737488355328) (hm : n + m ≤ 140737488355328) :
    ∃ zs : List Value, zs.length = (grownCap w (n + m) cap e - (n + m)) * x.sz ∧ (Builtin.append_ #[s, s'] ty #[.slice base n cap, u]).run P w =
      .ok (.slice (some ⟨w.heap.size, 0, none⟩) (n + m) (grownCap w (n + m) cap e)) (w.drew.alloc (.cells (olds ++ news ++ zs).toArray e)) := by
  obtain ⟨i, zv, hi', hs1, hs2, hz, hzc, _⟩ := hI.info
  have hzl : zv.cells.size = x.sz := by rw [← hI.z, ← hzc]; simp
  refine ⟨(Builtin.zeroCells zv.cells (grownCap w (n + m) cap e - (n + m))).toList, by simp [size_zeroCells, hzl], ?_⟩
  have hn : ¬ (n + m ≤ cap) := by omega
  have h63' : ¬ (9223372036854775807 < ((n : Int) + (m : Int))) := by omega
  have h48' : ¬ (281474976710656 < Builtin.nextslicecap (n + m) cap * i.bytes) := by
    have := growslice_fits (bytes := x.bytes) hno hb
    rw [hs2]; omega
  have hsz := hI.size
  simp [sizeOf, typeInfo, hi'] at hsz
  rcases hd' with rfl | ⟨e2, rfl⟩
  all_goals
    simp [Builtin.append_, run_underlying ht, run_underlying ht', sizeOf, typeInfo, zeroValue, hi', hz, hs.len, hn, h63', h48', Question.forced, hs1, ho, hs.cells', newRow, grownCap]
    congr 2
    apply Array.ext'
    simp [List.append_assoc]
/-- a pure slice as what is appended -/
theorem src_sl {w S l v} {x : TI} (h : PR w S (.sl l) v) (hk : rowsOk l x.sz = true) (hsz : 0 < x.sz) : ∃ news : List Value, Src P w x.sz l.length v news ∧ F2 (PR w S) l.flatten news := by
  cases h with
  | @sl _ base cap k vals hcap hk2 hrw hb hc hv =>
    have hrow : ∀ r ∈ l, r.length = x.sz := by
      intro r hr
      unfold rowsOk at hk
      simp at hk
      exact hk r hr
    by_cases hl : l = []
    · subst hl
      refine ⟨[], ⟨fun w' => by simp [Builtin.lenOf], ?_, ?_, by simp, by simp⟩, .nil⟩
      · cases base <;> simp [Builtin.firstCells, loadCells, loadCellsFrom]
      · cases base <;> simp [Builtin.firstCells, loadCells, loadCellsFrom]
    · obtain ⟨g, p, rfl, hS⟩ := hb.resolve_left hl
      have hkx : k = x.sz := by
        cases l with
        | nil => exact absurd rfl hl
        | cons r l => rw [← hrw r (by simp), hrow r (by simp)]
      subst hkx
      have hdm : ∀ {j}, j < l.length * x.sz → j / x.sz < l.length ∧ j % x.sz < x.sz ∧ j / x.sz * x.sz + j % x.sz = j := fun {j} hj =>
        ⟨Nat.div_lt_of_lt_mul (by rw [Nat.mul_comm]; exact hj), Nat.mod_lt _ hsz, by rw [Nat.mul_comm]; exact Nat.div_add_mod j _⟩
      have hcell : ∀ j v', ((List.range (l.length * x.sz)).map fun j => vals (j / x.sz) (j % x.sz))[j]? = some v' → w.cell? ((⟨g, p, none⟩ : Addr).add j) = some v' := by
        intro j v' hj
        rw [List.getElem?_map, Option.map_eq_some_iff] at hj
        obtain ⟨j', hj', rfl⟩ := hj
        obtain ⟨hj1, hj2⟩ := range_get hj'
        subst hj2
        obtain ⟨h1, h2, h3⟩ := hdm hj1
        rw [addr_add]
        have := hc g p rfl _ _ h1 h2
        rwa [Nat.add_assoc, h3] at this
      have hf2 : F2 (PR w S) l.flatten ((List.range (l.length * x.sz)).map fun j => vals (j / x.sz) (j % x.sz)) := by
        refine F2.of_get (by simp [flatten_len hrow]) fun j a b ha hb => ?_
        rw [List.getElem?_map, Option.map_eq_some_iff] at hb
        obtain ⟨j', hj', rfl⟩ := hb
        obtain ⟨hj1, hj2⟩ := range_get hj'
        subst hj2
        obtain ⟨h1, h2, h3⟩ := hdm hj1
        have hr : l[j' / x.sz]? = some (l[j' / x.sz]'h1) := List.getElem?_eq_getElem h1
        have := flatten_get hrow hr h2
        rw [h3, ha] at this
        exact hv _ _ _ _ hr this.symm
      refine ⟨(List.range (l.length * x.sz)).map fun j => vals (j / x.sz) (j % x.sz), ⟨fun w' => by simp [Builtin.lenOf], run_firstCells_some w _ _ _ _ _ _ (by simp) hcell, run_firstCells_some w.drew _ _ _ _ _ _ (by simp) (by simpa using hcell), by simp, fun u hu => ?_⟩, hf2⟩
      obtain ⟨i, hi⟩ := List.getElem?_of_mem hu
      obtain ⟨c, _, hc'⟩ := hf2.getR hi
      exact hc'.one
theorem src_str {w S} {u : ByteArray} : Src P w 1 u.size (.string u) (Lib.strCells u) ∧ F2 (PR w S) (bytesS u).flatten (Lib.strCells u) := by
  refine ⟨⟨fun w' => by simp [Builtin.lenOf], Lib.run_firstCells_string w 1 u, Lib.run_firstCells_string w.drew 1 u, by simp [Lib.strCells_length], Lib.strCells_oneCell u⟩, ?_⟩
  unfold bytesS Lib.strCells
  generalize u.data.toList = l
  induction l with
  | nil => exact .nil
  | cons b l ih => exact .cons (.v rfl) ih
end Go.Proofs.Ytaiedakbmmgmaaa.E
