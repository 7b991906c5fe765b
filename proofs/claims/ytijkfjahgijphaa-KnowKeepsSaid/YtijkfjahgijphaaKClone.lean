/- slices.Clone, at rows of any size: its contract in the kit's library, told of slices as lists. -/
import Derived.Shelf.SlicesE.Clone
import Derived.Ground.SlgnProg
import Derived.Test.YtijkfjahgijphaaKBase
import Derived.Test.YtijkfjahgijphaaKTab
set_option linter.unusedVariables false
set_option linter.unusedSimpArgs false
namespace Go.Proofs.Ytijkfjahgijphaa
open Go E Go.Shelf Go.Lib Go.RowKit
section
variable {P : Program} {ρ : Ren}
theorem clone_empty (L : SlLaysE0.n41 P ρ) (i0 : TypeInfo) (z : Value) (size bytes : Nat) (hi : P.info? (ρ.t 23) = some i0) (hz0 : i0.zero = some z) (hz1 : i0.size = size) (hz2 : i0.bytes = bytes) (hzs : z.cells.size = size) (hsz : 0 < size)
    (z23 : ∀ w, (Go.sizeOf (ρ.t 23)).run P w = .ok size w) (a : Addr) (c : Nat) (w : World) : Calls P (ρ.f 41) #[.slice (some a) 0 c] w fun e w' => ∃ v', e = .returned v' ∧ w'.ownsRow w.heap.size (ρ.t 23) size v' 0 [] ∧ Below w.heap.size w w' := by
  have mixed := L.mixed; have t4 := L.t4; have a4 := L.a4; have z4 := L.z4; have v4 := L.v4; have t22 := L.t22; have a22 := L.a22; have z22 := L.z22; have v22 := L.v22
  have q22 : ∀ (w : World) (a : Option Addr) (n c n' c' : Nat), (binOp .eql (ρ.t 22) (.slice a n c) (.slice none n' c')).run P w = .ok (.bool a.isNone) w := fun w a n c n' c' => Lib.run_eql_slice_nil w _ _ a n c n' c' L.t22
  have u22 : ∀ w, Sem.run P (underlying (ρ.t 22)) w = .ok (TypeDesc.slice (ρ.t 23)) w := run_underlying t22
  obtain ⟨_, _, FG⟩ := L.f41
  go_enter FG, SlBodyN.n41_ntmps ρ
  go_wp2_with (at_builtin; refine wpList_append_own _ rfl _ _ (ρ.t 22) rfl w.heap.size (ρ.t 23) i0 z size bytes t22 hi hz0 hz1 hz2 hzs hsz _ _ _ rfl (World.ownsRow_made w #[] 0 (Nat.le_refl _) (Nat.zero_le _) (by simp)) a 0 c [] rfl ?qc1 ?qc2 ?qc3 ?qc4 ?qc5 ?qc6 ?_)
  case qc1 => simp
  case qc2 => intro j u hj; simp at hj
  case qc3 => intro u hu; cases hu
  case qc4 => exact Nat.zero_le _
  case qc5 => simp
  case qc6 => simp
  intro v' w1 hown hgrow hnil
  go_wp2
  go_ret
  refine ⟨v', rfl, by simpa using hown, ?_⟩
  exact ((Below.refl _ w).alloc (Nat.le_refl _) _).grown hgrow (by simp) (by intro k hk; simp [Value.ownBlock] at hk; omega)
theorem flat_len (n sz : Nat) (vals : Nat → Nat → Value) : (((List.range n).map fun i => (List.range sz).map fun j => vals i j).flatten).length = n * sz := by
  have key : ∀ n, (List.map (fun _ => sz) (List.range n)).sum = n * sz := by
    intro n
    induction n with
    | zero => simp
    | succ n ih => rw [List.range_succ, List.map_append, List.sum_append, ih]; simp [Nat.succ_mul]
  simpa [List.length_flatten, Function.comp_def] using key n
theorem flat_get {sz : Nat} {vals : Nat → Nat → Value} : ∀ (n k0 : Nat) {j : Nat} {u : Value}, (((List.range n).map fun i => (List.range sz).map fun j => vals (k0 + i) j).flatten)[j]? = some u → ∃ i j', i < n ∧ j' < sz ∧ j = i * sz + j' ∧ u = vals (k0 + i) j' := by
  intro n
  induction n with
  | zero => intro k0 j u h; simp at h
  | succ n ih =>
    intro k0 j u h
    rw [List.range_succ_eq_map, List.map_cons, List.flatten_cons, List.map_map] at h
    have e : (List.range n).map ((fun i => (List.range sz).map fun j => vals (k0 + i) j) ∘ Nat.succ) = (List.range n).map fun i => (List.range sz).map fun j => vals (k0 + 1 + i) j := by
      refine List.map_congr_left fun i _ => ?_
      simp only [Function.comp, Nat.succ_eq_add_one]
      rw [show k0 + (i + 1) = k0 + 1 + i by omega]
    rw [e] at h
    by_cases hj : j < sz
    · rw [List.getElem?_append_left (by simpa using hj)] at h
      simp only [List.getElem?_map, List.getElem?_range hj, Option.map_some] at h
      injection h with h
      exact ⟨0, j, by omega, hj, by omega, h.symm⟩
    · rw [List.getElem?_append_right (by simpa using hj)] at h
      simp only [List.length_map, List.length_range] at h
      obtain ⟨i, j', hi, hj', e1, e2⟩ := ih (k0 + 1) h
      exact ⟨i + 1, j', by omega, hj', by rw [Nat.succ_mul]; omega, by rw [e2, show k0 + 1 + i = k0 + (i + 1) by omega]⟩
theorem flat_cell {w : World} {g o n sz : Nat} {vals : Nat → Nat → Value} (h : ∀ i j, i < n → j < sz → w.cell? ⟨g, o + i * sz + j, none⟩ = some (vals i j)) {j : Nat} {u : Value} (hj : (((List.range n).map fun i => (List.range sz).map fun j => vals i j).flatten)[j]? = some u) : w.cell? ⟨g, o + j, none⟩ = some u := by
  obtain ⟨i, j', hi, hj', e1, e2⟩ := flat_get (vals := vals) n 0 (by simpa using hj)
  rw [Nat.zero_add] at e2
  rw [e2, ← h i j' hi hj', e1, Nat.add_assoc]
theorem f2_flat {R : PC → Value → Prop} {sz : Nat} {vals : Nat → Nat → Value} : ∀ {rows : List (List PC)} (k0 : Nat), (∀ r ∈ rows, r.length = sz) → (∀ i j r c, rows[i]? = some r → r[j]? = some c → R c (vals (k0 + i) j)) →
    F2 R rows.flatten ((List.range rows.length).map fun i => (List.range sz).map fun j => vals (k0 + i) j).flatten
  | [], _, _, _ => .nil
  | r :: rows, k0, hr, hv => by
    have h1 : F2 R r ((List.range sz).map fun j => vals (k0 + 0) j) := by
      have hl := hr r (List.mem_cons_self ..)
      refine F2.of_get (by simp [hl]) fun j c u hc hu => ?_
      have hj : j < sz := by have := (List.getElem?_eq_some_iff.1 hc).1; omega
      simp only [List.getElem?_map, List.getElem?_range hj, Option.map_some] at hu
      injection hu with hu; subst hu
      exact hv 0 j r c rfl hc
    have h2 := f2_flat (R := R) (sz := sz) (vals := vals) (rows := rows) (k0 + 1) (fun x hx => hr x (List.mem_cons_of_mem _ hx)) (fun i j r' c h h' => by
      have := hv (i + 1) j r' c (by simpa using h) h'
      rwa [show k0 + (i + 1) = k0 + 1 + i by omega] at this)
    rw [List.flatten_cons, List.length_cons, List.range_succ_eq_map, List.map_cons, List.flatten_cons]
    refine h1.app ?_
    rw [List.map_map]
    have e : (List.range rows.length).map ((fun i => (List.range sz).map fun j => vals (k0 + i) j) ∘ Nat.succ) = (List.range rows.length).map fun i => (List.range sz).map fun j => vals (k0 + 1 + i) j := by
      refine List.map_congr_left fun i _ => ?_
      simp only [Function.comp, Nat.succ_eq_add_one]
      rw [show k0 + (i + 1) = k0 + 1 + i by omega]
    rw [e]; exact h2
theorem own_row {w w' : World} {S : Zone} {e : TypeId} {size n : Nat} {v : Value} {xs : List Value} {l : List (List PC)} (hlt : ∀ g, S.all g → g < w.heap.size) (h : w'.ownsRow w.heap.size e size v n xs) (hl : l.length = n) (hr : ∀ r ∈ l, r.length = size) (hsz : 0 < size) (hf : F2 (PR w' S) l.flatten xs) :
    ∃ a c g, v = .slice a n c ∧ RowOk w' S size l v g ∧ ∀ g', g = some g' → w.heap.size ≤ g' := by
  obtain ⟨hx, ⟨rfl, rfl⟩ | ⟨g, cap, cur, rfl, hb, hh, hn, hm, hs, ht⟩⟩ := h
  · exact ⟨_, _, none, rfl, .inl ⟨List.eq_nil_of_length_eq_zero hl, rfl, _, rfl⟩, fun _ h => by cases h⟩
  · refine ⟨_, _, some g, rfl, .inr ⟨g, cap, cur, e, hsz, rfl, by rw [hl], fun hg => by have := hlt g hg; omega, hh, by omega, hm, hs, hr, ?_⟩, fun g' h => by injection h with h; omega⟩
    rw [hl, ht]; exact hf
theorem below_grow {w w' : World} {S : Zone} (hlt : ∀ g, S.all g → g < w.heap.size) (h : Below w.heap.size w w') : Grow w S w' S :=
  ⟨h.os, h.tape, h.output, h.size, fun g hg => h.block g (hlt g hg), fun _ h => h, rfl⟩
theorem clone_callOk (L : SlLaysE0.n41 P ρ) {fn : Func} {c : Code} (hfn : P.funcs[ρ.f 41]? = some fn) (hb : fn.body = some c) (hname : (fn.name == "runtime.NumGoroutine") = false)
    (i0 : TypeInfo) (z : Value) (size bytes : Nat) (hi : P.info? (ρ.t 23) = some i0) (hz0 : i0.zero = some z) (hz1 : i0.size = size) (hz2 : i0.bytes = bytes) (hzs : z.cells.size = size) (hsz : 0 < size) (z23 : ∀ w, (Go.sizeOf (ρ.t 23)).run P w = .ok size w)
    {l : List (List PC)} (hl : ∀ r ∈ l, r.length = size) (hn : l.length ≤ maxLen) (hbig : l.length * bytes ≤ 140737488355328) : CallOk P (ρ.f 41) [.one (.p (.sl l))] [] (.one (.own 0)) [.rows size l] := by
  refine ⟨⟨fn, c, hfn, hb, hname⟩, fun w S inj vs hv hI hfree => ?_⟩
  have hfr : ∀ b, inj b = .free := fun b => hfree b (Nat.zero_le b)
  cases hv with
  | cons h1 hr =>
    cases hr
    have hp := h1.cellv (by simp)
    cases hp with
    | p hp =>
      have fin : ∀ (w' : World) (a : Option Addr) (n c' : Nat) (g : Option Nat), Grow w S w' S → RowOk w' S size l (.slice a n c') g → (∀ g', g = some g' → w.heap.size ≤ g') → Done w S inj 0 (.one (.own 0)) [.rows size l] (.slice a n c') w' S (injAt inj 0 (.row (.slice a n c') g)) := fun w' a n c' g hG hR hg => by
        have hle := injAt_le (l := .row (.slice a n c') g) (hfr 0)
        refine ⟨hG, hle, fun b hb' h => ?_, .ofc (.own (.inr ⟨g, by rw [injAt_same]; rfl⟩)), ?_⟩
        · rw [injAt_ne (by rcases h with h | h <;> simp at h; omega)]; exact hb'
        · have e : E.look [Blk.rows size l] = setB (E.look []) 0 (.rows size l) := by
            funext b
            unfold setB
            split
            · next h => subst h; rfl
            · next h => rw [look_eq, look_eq]; cases b with | zero => exact absurd rfl h | succ b => rfl
          rw [e]
          have hd : ∀ b, E.look ([] : List Blk) b = .dead := fun b => by rw [look_eq]; rfl
          exact hI.set hG hle (fun _ h => injAt_ne h) injAt_same (fun b g' _ h _ => absurd (hd b) h) ⟨_, _, rfl, hR⟩ (fun _ b g' _ h _ _ => absurd (hd b) h) (fun g' h => Nat.lt_of_lt_of_le (hI.lt g' h) hG.size)
      cases hp with
      | @sl _ base cap k vals hcap hk hrow hbase hc hvals =>
        cases base with
        | none =>
          have hl0 : l = [] := by
            rcases hbase with h | ⟨g, o, h, _⟩
            · exact h
            · cases h
          refine (AnyE.slices_Clone_nil L l.length cap w).mono ?_
          rintro e w' ⟨rfl, rfl⟩
          exact ⟨_, S, _, rfl, fin w' none 0 0 none (.refl _ _) (.inl ⟨hl0, rfl, _, rfl⟩) fun _ h => by cases h⟩
        | some a =>
          by_cases hl0 : l = []
          · subst hl0
            refine (clone_empty L i0 z size bytes hi hz0 hz1 hz2 hzs hsz z23 a cap w).mono ?_
            rintro e w' ⟨v', rfl, hown, hbel⟩
            obtain ⟨a', c', g, rfl, hR, hg⟩ := own_row (S := S) (l := []) hI.lt hown rfl hl hsz .nil
            exact ⟨_, S, _, rfl, fin w' a' 0 c' g (below_grow hI.lt hbel) hR hg⟩
          · obtain ⟨g0, o, ha, hS⟩ : ∃ g o, some a = some (⟨g, o, none⟩ : Addr) ∧ S g := by
              rcases hbase with h | h
              · exact absurd h hl0
              · exact h
            injection ha with ha; subst ha
            have hks : k = size := by
              obtain ⟨r, hr⟩ : ∃ r, r ∈ l := by cases l with | nil => exact absurd rfl hl0 | cons r l => exact ⟨r, List.mem_cons_self ..⟩
              exact (hrow r hr).symm.trans (hl r hr)
            subst hks
            have hF := f2_flat (R := PR w S) (vals := vals) (rows := l) 0 hl (fun i j r c h h' => by rw [Nat.zero_add]; exact hvals i j r c h h')
            simp only [Nat.zero_add] at hF
            refine (AnyE.slices_Clone L i0 z k bytes hi hz0 hz1 hz2 hzs hsz z23 g0 o l.length cap _ w (flat_len _ _ vals) hn hbig (fun j u hj => ?_) (fun u hu => ?_)).mono ?_
            · exact flat_cell (fun i j hi hj => hc g0 o rfl i j hi hj) hj
            · obtain ⟨j, hj⟩ := List.getElem?_of_mem hu
              obtain ⟨c, _, hpc⟩ := hF.getR hj
              exact hpc.one
            · rintro e w' ⟨v', rfl, hown, _, hbel⟩
              have hG := below_grow (S := S) hI.lt hbel
              obtain ⟨a', c', g, rfl, hR, hg⟩ := own_row (S := S) (l := l) hI.lt hown rfl hl hsz (hF.mono' fun _ _ h => h.grow hG)
              exact ⟨_, S, _, rfl, fin w' a' _ c' g hG hR hg⟩
theorem clone_of (L : SlLaysE0.n41 P ρ) {fn : Func} {c : Code} (hfn : P.funcs[ρ.f 41]? = some fn) (hb : fn.body = some c) (hname : (fn.name == "runtime.NumGoroutine") = false) {x : TI} (hI : InfoOk P (ρ.t 23) x) (hx : 0 < x.sz)
    {l : List (List PC)} (hl : rowsOk l x.sz = true) (hn : l.length ≤ 1000000) (hby : x.bytes ≤ 100000000) : CallOk P (ρ.f 41) [.one (.p (.sl l))] [] (.one (.own 0)) [.rows x.sz l] := by
  obtain ⟨i, zv, h1, h2, h3, h4, h5, _⟩ := hI.info
  have hzs : zv.cells.size = x.sz := by rw [← hI.z, ← h5, Array.length_toList]
  refine clone_callOk L hfn hb hname i zv x.sz x.bytes h1 h4 h2 h3 hzs hx hI.size (rowsOk_iff hl) (by unfold maxLen; omega) ?_
  have := Nat.mul_le_mul hn hby
  omega
end
def cloneFs : List (Nat × Nat) := [(130, 1), (100, 8), (118, 9)]
def clone130_ren : Go.Shelf.Ren := ⟨fun | 41 => 130 | n => n, fun | 22 => 139 | 23 => 9 | 4 => 4 | n => n, fun | n => n⟩
theorem clone130 : SlLaysE0.n41 Try.prog clone130_ren := {
  mixed := by kernel_rfl
  f41 := ⟨Try.f130.name, by decide, Try.func130.trans (congrArg some (by kernel_rfl))⟩
  t4 := Try.underlying4
  a4 := Try.isAgg4
  z4 := Try.sizeOf4
  v4 := Try.zeroValue4
  t22 := Try.underlying139
  a22 := Try.isAgg139
  z22 := Try.sizeOf139
  v22 := Try.zeroValue139 }
theorem clone130_ok {l : List (List PC)} (hl : rowsOk l 1 = true) (hn : l.length ≤ 1000000) : CallOk Try.prog 130 [.one (.p (.sl l))] [] (.one (.own 0)) [.rows 1 l] :=
  clone_of clone130 Try.func130 rfl rfl (x := ty T 9) ((T_ok 9).known (of_decide_eq_true (by kernel_rfl))) (of_decide_eq_true (by kernel_rfl)) hl hn (of_decide_eq_true (by kernel_rfl))
def clone100_ren : Go.Shelf.Ren := ⟨fun | 41 => 100 | n => n, fun | 22 => 40 | 23 => 66 | 4 => 4 | n => n, fun | n => n⟩
theorem clone100 : SlLaysE0.n41 Try.prog clone100_ren := {
  mixed := by kernel_rfl
  f41 := ⟨Try.f100.name, by decide, Try.func100.trans (congrArg some (by kernel_rfl))⟩
  t4 := Try.underlying4
  a4 := Try.isAgg4
  z4 := Try.sizeOf4
  v4 := Try.zeroValue4
  t22 := Try.underlying40
  a22 := Try.isAgg40
  z22 := Try.sizeOf40
  v22 := Try.zeroValue40 }
theorem clone100_ok {l : List (List PC)} (hl : rowsOk l 8 = true) (hn : l.length ≤ 1000000) : CallOk Try.prog 100 [.one (.p (.sl l))] [] (.one (.own 0)) [.rows 8 l] :=
  clone_of clone100 Try.func100 rfl rfl (x := ty T 66) ((T_ok 66).known (of_decide_eq_true (by kernel_rfl))) (of_decide_eq_true (by kernel_rfl)) hl hn (of_decide_eq_true (by kernel_rfl))
def clone118_ren : Go.Shelf.Ren := ⟨fun | 41 => 118 | n => n, fun | 22 => 29 | 23 => 141 | 4 => 4 | n => n, fun | n => n⟩
theorem clone118 : SlLaysE0.n41 Try.prog clone118_ren := {
  mixed := by kernel_rfl
  f41 := ⟨Try.f118.name, by decide, Try.func118.trans (congrArg some (by kernel_rfl))⟩
  t4 := Try.underlying4
  a4 := Try.isAgg4
  z4 := Try.sizeOf4
  v4 := Try.zeroValue4
  t22 := Try.underlying29
  a22 := Try.isAgg29
  z22 := Try.sizeOf29
  v22 := Try.zeroValue29 }
theorem clone118_ok {l : List (List PC)} (hl : rowsOk l 9 = true) (hn : l.length ≤ 1000000) : CallOk Try.prog 118 [.one (.p (.sl l))] [] (.one (.own 0)) [.rows 9 l] :=
  clone_of clone118 Try.func118 rfl rfl (x := ty T 141) ((T_ok 141).known (of_decide_eq_true (by kernel_rfl))) (of_decide_eq_true (by kernel_rfl)) hl hn (of_decide_eq_true (by kernel_rfl))
theorem clone_ok {f k : Nat} (h : (f, k) ∈ cloneFs) {l : List (List PC)} (hl : rowsOk l k = true) (hn : l.length ≤ 1000000) : CallOk Try.prog f [.one (.p (.sl l))] [] (.one (.own 0)) [.rows k l] := by
  simp only [cloneFs, List.mem_cons, List.not_mem_nil, or_false, Prod.mk.injEq] at h
  rcases h with ⟨rfl, rfl⟩ | ⟨rfl, rfl⟩ | ⟨rfl, rfl⟩
  · exact clone130_ok hl hn
  · exact clone100_ok hl hn
  · exact clone118_ok hl hn
theorem clone_call {X : Task → Prop} (hX : Closed X) {f k : Nat} (hf : (f, k) ∈ cloneFs) {l : List (List PC)} {Q : A → List Blk → Prop} (hl : rowsOk l k = true) (hn : l.length ≤ 1000000) (hQ : Q (.one (.own 0)) [.rows k l]) : X (.call f [sl l] [] Q) := prim_call hX (clone_ok hf hl hn) hQ
end Go.Proofs.Ytijkfjahgijphaa
