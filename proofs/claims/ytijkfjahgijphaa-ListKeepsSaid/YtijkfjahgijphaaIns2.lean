/- slices.Insert at items, told of slices as lists: its contract. -/
import Derived.Test.YtijkfjahgijphaaIns
set_option linter.unusedVariables false
set_option linter.unusedSimpArgs false
set_option maxRecDepth 100000
set_option maxHeartbeats 4000000
namespace Go.Proofs.Ytijkfjahgijphaa.E
open Go Go.Lib Go.RowKit
noncomputable section
open Classical
/-- all that was handed over is gone, a slice is new -/
theorem fin_own {w w' : World} {S : Zone} {inj : Nat → Loc} {σ : List Blk} {n k : Nat} {l : List (List PC)} {ad : Option Addr} {m c : Nat} {g : Option Nat} (hI : Inv w S inj (look σ)) (hn : σ.length = n) (hfree : ∀ b, n ≤ b → inj b = .free)
    (hG : Grow w S w' S) (hR : RowOk w' S k l (.slice ad m c) g) : ∃ inj', Done w S inj n (.one (.own n)) (List.replicate n .dead ++ [.rows k l]) (.slice ad m c) w' S inj' := by
  refine ⟨fun b => if b = n then .row (.slice ad m c) g else if inj b = .free then .free else .dead, hG, fun b => ?_, fun b hb hc => ?_, .ofc (.own (.inr ⟨g, ?_⟩)), fun b => ?_, fun b b' g' hb hb' h1 h2 => ?_, fun g' hg' => Nat.lt_of_lt_of_le (hI.lt g' hg') hG.size, hI.dj⟩
  · by_cases hf : inj b = .free
    · exact .inl hf
    · refine .inr (.inr ?_)
      have : b ≠ n := by rintro rfl; exact hf (hfree b (Nat.le_refl _))
      simp [this, hf]
  · have : b ≠ n := by rintro rfl; simp only [List.length_append, List.length_replicate, List.length_singleton] at hc; omega
    simp [this, hb]
  · simp [Loc.val]
  · by_cases hb : b = n
    · subst hb
      have : look (List.replicate b .dead ++ [.rows k l]) b = .rows k l := by rw [look_eq]; simp [List.getD_eq_getElem?_getD]
      rw [this]
      exact ⟨_, _, by simp, hR⟩
    · have : look (List.replicate n .dead ++ [.rows k l]) b = .dead := by
        rw [look_eq, List.getD_eq_getElem?_getD]
        by_cases h : b < n
        · rw [List.getElem?_append_left (by simpa using h)]; simp [h]
        · rw [List.getElem?_append_right (by simp; omega)]
          rw [List.getElem?_eq_none (by simp; omega)]; rfl
      rw [this]; trivial
  · have key : ∀ b, look (List.replicate n .dead ++ [.rows k l]) b ≠ .dead → b = n := fun b hb => Classical.byContradiction fun h => hb (by
        rw [look_eq, List.getD_eq_getElem?_getD]
        by_cases h' : b < n
        · rw [List.getElem?_append_left (by simpa using h')]; simp [h']
        · rw [List.getElem?_append_right (by simp; omega)]
          rw [List.getElem?_eq_none (by simp; omega)]; rfl)
    rw [key b hb, key b' hb']
theorem flat_take {l : List (List PC)} {k : Nat} (hl : ∀ r ∈ l, r.length = k) (i : Nat) : (l.take i).flatten = l.flatten.take (i * k) ∧ (l.drop i).flatten = l.flatten.drop (i * k) := by
  induction l generalizing i with
  | nil => simp
  | cons r l ih =>
    have hr := hl r (by simp)
    cases i with
    | zero => simp
    | succ i =>
      obtain ⟨h1, h2⟩ := ih (fun r hr => hl r (by simp [hr])) i
      have e : (i + 1) * k = r.length + i * k := by rw [hr, Nat.succ_mul]; omega
      rw [List.take_succ_cons, List.drop_succ_cons, List.flatten_cons, List.flatten_cons, h1, h2, e]
      constructor
      · rw [List.take_append, List.take_of_length_le (show r.length ≤ r.length + i * k by omega), Nat.add_sub_cancel_left]
      · rw [List.drop_append, List.drop_of_length_le (show r.length ≤ r.length + i * k by omega), Nat.add_sub_cancel_left]; rfl
theorem ins_rows {l : List (List PC)} {x : List PC} {i : Nat} (hl : ∀ r ∈ l, r.length = 8) (hi : i ≤ l.length) : (l.take i ++ x :: l.drop i).flatten = l.flatten.take (i * 8) ++ x ++ l.flatten.drop (i * 8) := by
  obtain ⟨h1, h2⟩ := flat_take hl i
  rw [List.flatten_append, List.flatten_cons, h1, h2]; simp
theorem ins_len {l : List (List PC)} {x : List PC} {i : Nat} (hi : i ≤ l.length) : (l.take i ++ x :: l.drop i).length = l.length + 1 := by simp; omega
theorem ins_8 {l : List (List PC)} {x : List PC} {i : Nat} (hl : ∀ r ∈ l, r.length = 8) (hx : x.length = 8) : ∀ r ∈ l.take i ++ x :: l.drop i, r.length = 8 := by
  intro r hr
  rcases List.mem_append.1 hr with hr | hr
  · exact hl r (List.mem_of_mem_take hr)
  · rcases List.mem_cons.1 hr with rfl | hr
    · exact hx
    · exact hl r (List.mem_of_mem_drop hr)
/-- a row that holds what is inserted -/
theorem ins_rowOk {w' : World} {S : Zone} {l : List (List PC)} {x : List PC} {i g cap : Nat} {e : TypeId} {A V D Y : List Value} (hl : ∀ r ∈ l, r.length = 8) (hx : x.length = 8) (hi : i ≤ l.length) (hS : ¬ S.all g) (hg : w'.heap[g]? = some (.cells (A ++ V ++ D ++ Y).toArray e (0, 0)))
    (hc : l.length + 1 ≤ cap) (hm : cap ≤ maxLen) (hsz : (A ++ V ++ D ++ Y).length = cap * 8) (hA : F2 (PR w' S) (l.flatten.take (i * 8)) A) (hV : F2 (PR w' S) x V) (hD : F2 (PR w' S) (l.flatten.drop (i * 8)) D) :
    RowOk w' S 8 (l.take i ++ x :: l.drop i) (.slice (some ⟨g, 0, none⟩) (l.length + 1) cap) (some g) := by
  refine .inr ⟨g, cap, _, e, by decide, rfl, by rw [ins_len hi], hS, hg, by rw [ins_len hi]; exact hc, hm, by simpa using hsz, ins_8 hl hx, ?_⟩
  rw [ins_len hi, ins_rows hl hi]
  have hh : F2 (PR w' S) (l.flatten.take (i * 8) ++ x ++ l.flatten.drop (i * 8)) (A ++ V ++ D) := (hA.app hV).app hD
  have hlen : (A ++ V ++ D).length = (l.length + 1) * 8 := by
    rw [← hh.len, List.length_append, List.length_append, hx, List.length_take, List.length_drop]
    have : l.flatten.length = l.length * 8 := flatten_len hl
    have := Nat.mul_le_mul_right 8 hi
    omega
  rw [show (A ++ V ++ D ++ Y).toArray.toList = (A ++ V ++ D) ++ Y by simp, ← hlen, List.take_left]
  exact hh
theorem insert_callOk {l : List (List PC)} {x : List PC} {i : Nat} (hl : ∀ r ∈ l, r.length = 8) (hx : x.length = 8) (hi : i ≤ l.length) (hn : l.length ≤ 1000000) :
    CallOk Try.prog 101 [.one (.own 0), iv i, .one (.own 1)] [.rows 8 l, .rows 8 [x]] (.one (.own 2)) [.dead, .dead, .rows 8 (l.take i ++ x :: l.drop i)] := by
  refine ⟨⟨_, _, Try.func101, rfl, rfl⟩, fun w S inj vs hv hI hfree => ?_⟩
  have hIt := (T_ok 66).known (of_decide_eq_true (by kernel_rfl))
  cases hv with
  | cons h0 hv =>
  cases hv with
  | cons h1 hv =>
  cases hv with
  | cons h2 hv =>
  cases hv
  obtain ⟨v0, g0, hg0, hro0⟩ := hI.rows (b := 0) (k := 8) (l := l) rfl
  obtain ⟨v1, g1, hg1, hro1⟩ := hI.rows (b := 1) (k := 8) (l := [x]) rfl
  have e0 := (h0.cellv (by simp)).ownv hg0
  have e1 := h1.flatv.1
  have e2 := (h2.cellv (by simp)).ownv hg1
  subst e0 e1 e2
  rcases hro1 with ⟨h, _⟩ | ⟨vb, vc, new, en, _, rfl, rfl, hnS, hnh, hnc, hnm, hns, _, hnf⟩
  · cases h
  have hnew : 8 ≤ new.size := by rw [hns]; simp at hnc; omega
  have hV : F2 (PR w S) x (new.toList.take 8) := by simpa using hnf
  have hV1 : ∀ v ∈ new.toList.take 8, v.oneCell' = true := fun v hv => by
    obtain ⟨j, hj⟩ := List.getElem?_of_mem hv
    obtain ⟨c, _, hc⟩ := hV.getR hj
    exact hc.one
  have hvw : vb < w.heap.size := (Array.getElem?_eq_some_iff.1 hnh).1
  have fin : ∀ {w' : World} {cap g : Nat}, Grow w S w' S → RowOk w' S 8 (l.take i ++ x :: l.drop i) (.slice (some ⟨g, 0, none⟩) (l.length + 1) cap) (some g) →
      ∃ v S' inj', (Ending.returned (.slice (some ⟨g, 0, none⟩) (l.length + 1) cap) : Ending) = .returned v ∧ Done w S inj 2 (.one (.own 2)) [.dead, .dead, .rows 8 (l.take i ++ x :: l.drop i)] v w' S' inj' := fun hG hR => by
    obtain ⟨inj', hd⟩ := fin_own (n := 2) hI rfl hfree hG hR
    exact ⟨_, S, inj', rfl, hd⟩
  have hsrc : Src Try.prog w 8 1 (.slice (some ⟨vb, 0, none⟩) 1 vc) (new.toList.take 8) := by
    have hc : ∀ j v, (new.toList.take 8)[j]? = some v → w.cell? ((⟨vb, 0, none⟩ : Addr).add j) = some v := fun j v hj => by
      rw [addr_add, Nat.zero_add, World.cell?, hnh]
      rw [List.getElem?_take] at hj
      split at hj
      · simpa using hj
      · cases hj
    have hl8 : (new.toList.take 8).length = 1 * 8 := by rw [List.length_take, Array.length_toList]; omega
    exact ⟨fun w' => by simp [Builtin.lenOf], run_firstCells_some w _ _ _ _ _ _ hl8 hc, run_firstCells_some w.drew _ _ _ _ _ _ hl8 (by simpa using hc), hl8, hV1⟩
  have h8 : (ty T 66).sz = 8 := by kernel_rfl
  have hbytes : (ty T 66).bytes ≤ 1000 := of_decide_eq_true (by kernel_rfl)
  have hroom : ∀ m, m ≤ 1000001 → m * (ty T 66).bytes ≤ 140737488355328 := fun m hm => by have := Nat.mul_le_mul hm hbytes; omega
  rcases hro0 with ⟨rfl, rfl, ad, rfl⟩ | ⟨g, cap, cur, e, _, rfl, rfl, hS, hh, hcap, hmax, hcs, _, hf⟩
  · -- nothing is there
    obtain rfl : i = 0 := by simpa using hi
    have ho0 : (Builtin.firstCells 8 0 (.slice ad 0 0)).run Try.prog w.drew = .ok ([] : List Value).toArray w.drew := by
      cases ad <;> simp [Builtin.firstCells, loadCells, loadCellsFrom]
    obtain ⟨zs, hzl, hr⟩ := append_grow (ty := 40) (x := ty T 66) Try.underlying40 Try.underlying40 (.inr ⟨_, rfl⟩) hIt hsrc ho0 (by omega) (hroom _ (by omega)) (by omega)
    simp only [h8] at hr hzl
    refine (ins_end 0 0 vc ad vb w _ _ hr).mono ?_
    rintro e' w' ⟨rfl, rfl⟩
    have hge := grownCap_ge w (0 + 1) 0 66
    have hgm := grownCap_le_maxLen w (0 + 1) 0 66 (by simp only [maxLen]; omega)
    have hG : Grow w S (w.drew.alloc (.cells ([] ++ new.toList.take 8 ++ zs).toArray 66)) S := ⟨rfl, rfl, rfl, by simp, fun g' hg' => hao w.drew _ g' (hI.lt g' hg'), fun _ h => h, rfl⟩
    refine fin hG (ins_rowOk (A := []) (V := new.toList.take 8) (D := []) (Y := zs) hl hx hi (fun h => absurd (hI.lt _ h) (by omega)) (e := 66) ?_ (by simpa using hge) hgm ?_ .nil (hV.mono' fun _ _ h => h.grow hG) .nil)
    · have := han w.drew (.cells ([] ++ new.toList.take 8 ++ zs).toArray 66)
      simpa using this
    · rw [List.append_nil, List.nil_append, List.length_append, hsrc.l, hzl, ← Nat.add_mul]; congr 1; omega
  · have hne : vb ≠ g := by
      rintro rfl
      have := hI.sep 0 1 vb (by intro h; cases h) (by intro h; cases h) (by rw [hg0]; rfl) (by rw [hg1]; rfl)
      cases this
    have hgw : g < w.heap.size := (Array.getElem?_eq_some_iff.1 hh).1
    have hnc' : l.length * 8 ≤ cap * 8 := Nat.mul_le_mul_right 8 hcap
    have hold : (cur.toList.take (l.length * 8)).length = l.length * 8 := by rw [List.length_take, Array.length_toList (xs := cur)]; omega
    have hC1 : ∀ v ∈ cur.toList.take (l.length * 8), v.oneCell' = true := fun v hv => by
      obtain ⟨j, hj⟩ := List.getElem?_of_mem hv
      obtain ⟨c, _, hc⟩ := hf.getR hj
      exact hc.one
    have hil : i * 8 ≤ l.length * 8 := Nat.mul_le_mul_right 8 hi
    have hA : F2 (PR w S) (l.flatten.take (i * 8)) (cur.toList.take (i * 8)) := by
      have := hf.take (i * 8)
      rwa [List.take_take, Nat.min_eq_left hil] at this
    have hD := hf.drop (i * 8)
    by_cases hend : i = l.length
    · -- at the end
      subst hend
      have hDe : F2 (PR w S) (l.flatten.drop (l.length * 8)) [] := by
        have e1 : l.flatten.length = l.length * 8 := flatten_len hl
        rw [← e1, List.drop_length]; exact .nil
      by_cases hm : l.length + 1 ≤ cap
      · have hr := append_room (ty := 40) (x := ty T 66) Try.underlying40 Try.underlying40 (.inr ⟨_, rfl⟩) hIt hsrc hh hm (by
          show l.length * 8 + _ ≤ _
          rw [hsrc.l, hcs]; have := Nat.mul_le_mul_right 8 hm; omega)
        simp only [h8] at hr
        refine (ins_end l.length cap vc _ vb w _ _ hr).mono ?_
        rintro e' w' ⟨rfl, rfl⟩
        have hG : Grow w S (w.setRow g (cur.toList.take (l.length * 8) ++ new.toList.take 8 ++ cur.toList.drop (l.length * 8 + (new.toList.take 8).length)).toArray) S := .setRow hS
        refine fin hG (ins_rowOk (A := cur.toList.take (l.length * 8)) (V := new.toList.take 8) (D := []) (Y := cur.toList.drop (l.length * 8 + (new.toList.take 8).length)) hl hx hi hS (e := e) ?_ hm hmax ?_ (hA.mono' fun _ _ h => h.grow hG) (hV.mono' fun _ _ h => h.grow hG) (hDe.mono' fun _ _ h => h.grow hG))
        · refine (setRow_heap w g cur _ e (0, 0) hh).trans ?_
          rw [List.append_nil]
        · rw [List.append_nil, List.length_append, List.length_append, hsrc.l, List.length_drop, hold, Array.length_toList (xs := cur), hcs]
          have := Nat.mul_le_mul_right 8 hm; omega
      · have ho0 : (Builtin.firstCells 8 l.length (.slice (some ⟨g, 0, none⟩) l.length cap)).run Try.prog w.drew = .ok (cur.toList.take (l.length * 8)).toArray w.drew := by
          refine run_firstCells_some w.drew _ _ _ _ _ _ hold (fun j v hj => ?_)
          rw [List.getElem?_take] at hj
          split at hj
          · rw [addr_add, Nat.zero_add, World.cell?_drew]
            simpa [World.cell?, hh] using hj
          · cases hj
        obtain ⟨zs, hzl, hr⟩ := append_grow (ty := 40) (x := ty T 66) Try.underlying40 Try.underlying40 (.inr ⟨_, rfl⟩) hIt hsrc ho0 (by omega) (hroom _ (by omega)) (by omega)
        simp only [h8] at hr hzl
        refine (ins_end l.length cap vc _ vb w _ _ hr).mono ?_
        rintro e' w' ⟨rfl, rfl⟩
        have hge := grownCap_ge w (l.length + 1) cap 66
        have hgm := grownCap_le_maxLen w (l.length + 1) cap 66 (by simp only [maxLen]; omega)
        have hG : Grow w S (w.drew.alloc (.cells (cur.toList.take (l.length * 8) ++ new.toList.take 8 ++ zs).toArray 66)) S := ⟨rfl, rfl, rfl, by simp, fun g' hg' => hao w.drew _ g' (hI.lt g' hg'), fun _ h => h, rfl⟩
        refine fin hG (ins_rowOk (A := cur.toList.take (l.length * 8)) (V := new.toList.take 8) (D := []) (Y := zs) hl hx hi (fun h => absurd (hI.lt _ h) (by omega)) (e := 66) ?_ hge hgm ?_ (hA.mono' fun _ _ h => h.grow hG) (hV.mono' fun _ _ h => h.grow hG) (hDe.mono' fun _ _ h => h.grow hG))
        · have := han w.drew (.cells (cur.toList.take (l.length * 8) ++ new.toList.take 8 ++ zs).toArray 66)
          simpa using this
        · rw [List.append_nil, List.length_append, List.length_append, hold, hsrc.l, hzl, ← Nat.add_mul, ← Nat.add_mul]; congr 1; omega
    · have hi' : i < l.length := by omega
      by_cases hm : l.length + 1 ≤ cap
      · -- in place
        refine (ins_shift g l.length cap i vb vc cur new e en w hi' hm hmax hne hh hnh hcs hnew hC1 hV1).mono ?_
        rintro e' w' ⟨rfl, w1, hw1, hos, htape, hout, rfl⟩
        have hG1 : Grow w S w1 S := ⟨hos, htape, hout, by rw [hw1]; exact Nat.le_refl _, fun g' _ => by rw [hw1], fun _ h => h, rfl⟩
        have hh1 : w1.heap[g]? = some (.cells cur e (0, 0)) := by rw [hw1]; exact hh
        have hh2 := setRow_heap w1 g cur (cur.toList.take ((i + 1) * 8) ++ (cur.toList.take (l.length * 8)).drop (i * 8) ++ cur.toList.drop ((l.length + 1) * 8)).toArray e (0, 0) hh1
        have hG := (hG1.trans (.setRow hS)).trans (Grow.setRow (w := w1.setRow g (cur.toList.take ((i + 1) * 8) ++ (cur.toList.take (l.length * 8)).drop (i * 8) ++ cur.toList.drop ((l.length + 1) * 8)).toArray) (cs := (cur.toList.take (i * 8) ++ new.toList.take 8 ++ ((cur.toList.take (l.length * 8)).drop (i * 8) ++ cur.toList.drop ((l.length + 1) * 8))).toArray) hS)
        refine fin hG (ins_rowOk (A := cur.toList.take (i * 8)) (V := new.toList.take 8) (D := (cur.toList.take (l.length * 8)).drop (i * 8)) (Y := cur.toList.drop ((l.length + 1) * 8)) hl hx hi hS (e := e) ?_ hm hmax ?_ (hA.mono' fun _ _ h => h.grow hG) (hV.mono' fun _ _ h => h.grow hG) (hD.mono' fun _ _ h => h.grow hG))
        · refine (setRow_heap _ g _ _ e (0, 0) hh2).trans ?_
          rw [List.append_assoc (cur.toList.take (i * 8) ++ new.toList.take 8)]
        · rw [List.length_append, List.length_append, List.length_append, hsrc.l, List.length_drop, List.length_drop, hold, List.length_take, Array.length_toList (xs := cur), hcs]
          have := Nat.mul_le_mul_right 8 hm; omega
      · -- a new row
        refine (ins_grow g l.length cap i vb vc cur new e en w hi' hcap (by omega) hn hh hnh hcs hnew hC1 hV1).mono ?_
        rintro e' w' ⟨G, R0, R1, rest, hGn, hGm, hrl, rfl, w1, hw1, hos, htape, hout, rfl⟩
        have hz : w1.heap.size = w.heap.size := by rw [hw1]
        have hnS' : ¬ S.all w.heap.size := fun h => absurd (hI.lt _ h) (by omega)
        have hG1 : Grow w S (w1.alloc (.cells R0 66)) S := ⟨hos, htape, hout, by simp [hz], fun g' hg' => by rw [hao _ _ _ (by rw [hz]; exact hI.lt g' hg'), hw1], fun _ h => h, rfl⟩
        have hh1 : (w1.alloc (.cells R0 66)).heap[w.heap.size]? = some (.cells R0 66 (0, 0)) := by have := han w1 (.cells R0 66); rwa [hz] at this
        have hh2 := setRow_heap _ w.heap.size _ R1 _ (0, 0) hh1
        have hG := (hG1.trans (.setRow (cs := R1) hnS')).trans (Grow.setRow (w := (w1.alloc (.cells R0 66)).setRow w.heap.size R1) (cs := (cur.toList.take (i * 8) ++ new.toList.take 8 ++ (cur.toList.take (l.length * 8)).drop (i * 8) ++ rest).toArray) hnS')
        refine fin hG (ins_rowOk (A := cur.toList.take (i * 8)) (V := new.toList.take 8) (D := (cur.toList.take (l.length * 8)).drop (i * 8)) (Y := rest) hl hx hi hnS' (e := 66) ?_ hGn hGm ?_ (hA.mono' fun _ _ h => h.grow hG) (hV.mono' fun _ _ h => h.grow hG) (hD.mono' fun _ _ h => h.grow hG))
        · exact setRow_heap _ w.heap.size _ _ _ (0, 0) hh2
        · rw [List.length_append, List.length_append, List.length_append, hsrc.l, List.length_drop, hold, List.length_take, Array.length_toList (xs := cur), hrl, Nat.sub_mul]
          have := Nat.mul_le_mul_right 8 hGn; omega
end
end Go.Proofs.Ytijkfjahgijphaa.E
