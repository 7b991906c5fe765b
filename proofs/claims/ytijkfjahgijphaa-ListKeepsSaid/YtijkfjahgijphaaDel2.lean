/- slices.Insert and slices.Delete at items, told of slices as lists: as decomp.py asks for them. -/
import Derived.Test.YtijkfjahgijphaaDel
import Derived.Test.YtijkfjahgijphaaSpec
import Derived.Test.YtijkfjahgijphaaItem
set_option linter.unusedVariables false
set_option linter.unusedSimpArgs false
set_option maxRecDepth 100000
set_option maxHeartbeats 4000000
namespace Go.Proofs.Ytijkfjahgijphaa.E
open Go Go.Lib Go.RowKit
theorem delete_callOk {l : List (List PC)} {i : Nat} (hl : ∀ r ∈ l, r.length = 8) (hi : i < l.length) (hn : l.length ≤ 1000000) :
    CallOk Try.prog 102 [.one (.own 0), iv i, iv ((i : Int) + 1)] [.rows 8 l] (.one (.own 1)) [.dead, .rows 8 (l.take i ++ l.drop (i + 1))] := by
  refine ⟨⟨_, _, Try.func102, rfl, rfl⟩, fun w S inj vs hv hI hfree => ?_⟩
  cases hv with
  | cons h0 hv =>
  cases hv with
  | cons h1 hv =>
  cases hv with
  | cons h2 hv =>
  cases hv
  obtain ⟨v0, g0, hg0, hro0⟩ := hI.rows (b := 0) (k := 8) (l := l) rfl
  have e0 := (h0.cellv (by simp)).ownv hg0
  have e1 := h1.flatv.1
  have e2 := h2.flatv.1
  subst e0 e1 e2
  rcases hro0 with ⟨rfl, _⟩ | ⟨g, cap, cur, e, _, rfl, rfl, hS, hh, hcap, hmax, hcs, _, hf⟩
  · simp at hi
  obtain ⟨m, hm⟩ : ∃ m, l.length = i + 1 + m := ⟨l.length - (i + 1), by omega⟩
  have hC1 : ∀ v ∈ cur.toList.take ((i + 1 + m) * 8), v.oneCell' = true := fun v hv => by
    rw [← hm] at hv
    obtain ⟨j, hj⟩ := List.getElem?_of_mem hv
    obtain ⟨c, _, hc⟩ := hf.getR hj
    exact hc.one
  rw [hm] at hcap ⊢
  rw [hm] at hf
  refine (del_one g i m cap cur e w hcap hmax hh hcs hC1).mono ?_
  rintro e' w' ⟨rfl, w1, R1, rest, hrl, hw1, hos, htape, hout, rfl⟩
  have hG1 : Grow w S w1 S := ⟨hos, htape, hout, by rw [hw1]; exact Nat.le_refl _, fun g' _ => by rw [hw1], fun _ h => h, rfl⟩
  have hh1 : w1.heap[g]? = some (.cells cur e (0, 0)) := by rw [hw1]; exact hh
  have hh2 := setRow_heap w1 g cur R1 e (0, 0) hh1
  have hG := (hG1.trans (.setRow (cs := R1) hS)).trans (Grow.setRow (w := w1.setRow g R1) (cs := (cur.toList.take (i * 8) ++ (cur.toList.take ((i + 1 + m) * 8)).drop ((i + 1) * 8) ++ rest).toArray) hS)
  obtain ⟨f1, _⟩ := flat_take hl i
  obtain ⟨_, f2⟩ := flat_take hl (i + 1)
  have hlen : (l.take i ++ l.drop (i + 1)).length = i + m := by rw [List.length_append, List.length_take, List.length_drop]; omega
  have hF : F2 (PR w S) (l.take i ++ l.drop (i + 1)).flatten (cur.toList.take (i * 8) ++ (cur.toList.take ((i + 1 + m) * 8)).drop ((i + 1) * 8)) := by
    rw [List.flatten_append, f1, f2]
    refine F2.app ?_ (hf.drop _)
    have := hf.take (i * 8)
    rwa [List.take_take, Nat.min_eq_left (by omega)] at this
  have hR : RowOk ((w1.setRow g R1).setRow g (cur.toList.take (i * 8) ++ (cur.toList.take ((i + 1 + m) * 8)).drop ((i + 1) * 8) ++ rest).toArray) S 8 (l.take i ++ l.drop (i + 1)) (.slice (some ⟨g, 0, none⟩) (i + m) cap) (some g) := by
    refine .inr ⟨g, cap, _, e, by decide, rfl, by rw [hlen], hS, setRow_heap _ g _ _ e (0, 0) hh2, by rw [hlen]; omega, hmax, ?_, fun r hr => ?_, ?_⟩
    · have := hF.len
      rw [List.size_toArray, List.length_append, ← hF.len, flatten_len (k := 8) (fun r hr => ?_), hlen, hrl, Nat.sub_mul]
      · have := Nat.mul_le_mul_right 8 (show i + m ≤ cap by omega); omega
      · rcases List.mem_append.1 hr with hr | hr
        · exact hl r (List.mem_of_mem_take hr)
        · exact hl r (List.mem_of_mem_drop hr)
    · rcases List.mem_append.1 hr with hr | hr
      · exact hl r (List.mem_of_mem_take hr)
      · exact hl r (List.mem_of_mem_drop hr)
    · have hl8 : (cur.toList.take (i * 8) ++ (cur.toList.take ((i + 1 + m) * 8)).drop ((i + 1) * 8)).length = (l.take i ++ l.drop (i + 1)).length * 8 := by
        rw [← hF.len]
        exact flatten_len (k := 8) (fun r hr => by
          rcases List.mem_append.1 hr with hr | hr
          · exact hl r (List.mem_of_mem_take hr)
          · exact hl r (List.mem_of_mem_drop hr))
      rw [List.toList_toArray, ← hl8, List.take_left]
      exact hF.mono' fun _ _ h => h.grow hG
  obtain ⟨inj', hd⟩ := fin_own (n := 1) hI rfl hfree hG hR
  exact ⟨_, S, inj', rfl, hd⟩
end Go.Proofs.Ytijkfjahgijphaa.E
namespace Go.Proofs.Ytijkfjahgijphaa
open Go E
def ins_s (l : List Item) (i : Int) (x : Item) : Option (List Item) := chk (decide (0 ≤ i ∧ i ≤ (l.length : Int) ∧ l.length ≤ 1000000)) (some (l.take i.toNat ++ x :: l.drop i.toNat))
theorem ins_c {X : Task → Prop} (hX : Closed X) {l r : List Item} {i : Int} {x : Item} {Q : A → List Blk → Prop} (h : ins_s l i x = some r) (hQ : Q (.one (.own 2)) [.dead, .dead, .rows 8 (r.map Item.row)]) :
    X (.call 101 [.one (.own 0), iv i, .one (.own 1)] [.rows 8 (l.map Item.row), .rows 8 [x.row]] Q) := by
  unfold ins_s at h
  obtain ⟨d, h⟩ := chk_some h
  injection h with h; subst h
  obtain ⟨h0, h1, h2⟩ := of_decide_eq_true d
  obtain ⟨n, rfl⟩ := Int.eq_ofNat_of_zero_le h0
  have hc := insert_callOk (l := l.map Item.row) (x := x.row) (i := n) (fun r hr => by obtain ⟨y, _, rfl⟩ := List.mem_map.1 hr; rfl) rfl (by rw [List.length_map]; omega) (by rw [List.length_map]; exact h2)
  rw [Int.toNat_natCast, List.map_append, List.map_cons, List.map_take, List.map_drop] at hQ
  exact prim_call hX hc hQ
def del_s (l : List Item) (i : Int) : Option (List Item) := chk (decide (0 ≤ i ∧ i < (l.length : Int) ∧ l.length ≤ 1000000)) (some (l.take i.toNat ++ l.drop (i.toNat + 1)))
theorem del_c {X : Task → Prop} (hX : Closed X) {l r : List Item} {i : Int} {Q : A → List Blk → Prop} (h : del_s l i = some r) (hQ : Q (.one (.own 1)) [.dead, .rows 8 (r.map Item.row)]) :
    X (.call 102 [.one (.own 0), iv i, iv (wr .i64 (i + 1))] [.rows 8 (l.map Item.row)] Q) := by
  unfold del_s at h
  obtain ⟨d, h⟩ := chk_some h
  injection h with h; subst h
  obtain ⟨h0, h1, h2⟩ := of_decide_eq_true d
  obtain ⟨n, rfl⟩ := Int.eq_ofNat_of_zero_le h0
  have hc := delete_callOk (l := l.map Item.row) (i := n) (fun r hr => by obtain ⟨y, _, rfl⟩ := List.mem_map.1 hr; rfl) (by rw [List.length_map]; omega) (by rw [List.length_map]; exact h2)
  rw [Int.toNat_natCast, List.map_append, List.map_take, List.map_drop] at hQ
  rw [wr64 (by omega) (by omega)]
  exact prim_call hX hc hQ
end Go.Proofs.Ytijkfjahgijphaa
