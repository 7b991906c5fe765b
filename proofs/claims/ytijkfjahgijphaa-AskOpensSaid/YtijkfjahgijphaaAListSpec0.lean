/- Lists of items (layer 8), the document's functions: their answers, out of what their code computes. -/
import Derived.Test.YtijkfjahgijphaaAH0
import Derived.Test.YtijkfjahgijphaaAKnowSpec2
set_option linter.unusedVariables false
set_option linter.unusedSimpArgs false
set_option maxRecDepth 100000
namespace Go.Proofs.Ytijkfjahgijphaa
open Go E Pred
noncomputable section
open Classical
def risesG : Item → List Item → Bool
  | _, [] => true
  | p, x :: xs => !(ltS x.id p.id || eqS x.id p.id) && risesG x xs
def risesB : List Item → Bool
  | [] => true
  | x :: xs => risesG x xs
theorem rises_l : ∀ (xs : List Item) (p : Item) (pre l : List Item) (fl : Nat), l = pre ++ p :: xs → l.length ≤ 1000000 → xs.length + 1 ≤ fl → ref06_Rises_l1 l fl ((pre.length : Int) + 1) = some (risesG p xs)
  | [], p, pre, l, fl, hl, hn, hf => by
    obtain ⟨fl, rfl⟩ : ∃ n, fl = n + 1 := ⟨fl - 1, by simp at hf; omega⟩
    rw [ref06_Rises_l1, br_f (by rw [ltI_f, hl]; simp)]; rfl
  | x :: xs, p, pre, l, fl, hl, hn, hf => by
    obtain ⟨fl, rfl⟩ : ∃ n, fl = n + 1 := ⟨fl - 1, by simp at hf; omega⟩
    have hlen : l.length = pre.length + (xs.length + 2) := by rw [hl]; simp
    have a1 : atL l ((pre.length : Int) + 1) = some x := by
      have := at_app (pre ++ [p]) x xs
      rw [List.length_append, List.append_assoc] at this
      rw [hl]; exact this
    have a0 : atL l (wr .i64 ((pre.length : Int) + 1 - 1)) = some p := by
      rw [wr64 (by omega) (by omega), show (pre.length : Int) + 1 - 1 = pre.length by omega, hl]; exact at_app pre p (x :: xs)
    rw [ref06_Rises_l1, br_t (by rw [ltI_t]; omega), bnd_of a1, bnd_of a0, risesG]
    cases (ltS x.id p.id || eqS x.id p.id) with
    | true => rfl
    | false =>
      rw [br_f rfl, wr64 (by omega) (by omega)]
      have := rises_l xs x (pre ++ [p]) l fl (by rw [hl]; simp) hn (by simp at hf ⊢; omega)
      rw [List.length_append] at this
      exact this
theorem rises_s {l : List Item} (h : l.length ≤ 999990) : ref06_Rises_s l = some (risesB l) := by
  unfold ref06_Rises_s
  match l, h with
  | [], _ => rfl
  | x :: xs, h => exact rises_l xs x [] (x :: xs) fuelN rfl (by omega) (by unfold fuelN; simp at h; omega)
def mayListB (l : List Item) : Bool := l.all mayI && risesB l
theorem mayList_l {l : List Item} (hl : l.length ≤ 999990) : ∀ xs : List Item, (∀ x ∈ xs, x.Ok) → ref06_MayList_l1 l xs = some (xs.all mayI && risesB l)
  | [], _ => by rw [ref06_MayList_l1, bnd_of (rises_s hl)]; rfl
  | x :: xs, h => by
    have e : ref01_May_s x = some (mayI x) := by unfold ref01_May_s; rw [chk_t (decide_eq_true (h x (List.mem_cons_self ..)))]
    rw [ref06_MayList_l1, bnd_of e, mayList_l hl xs fun y hy => h y (List.mem_cons_of_mem _ hy), List.all_cons]
    cases mayI x <;> rfl
theorem mayList_s {l : List Item} (hl : l.length ≤ 999990) (h : ∀ x ∈ l, x.Ok) : ref06_MayList_s l = some (mayListB l) := by
  unfold ref06_MayList_s; rw [chk_t (smallL_of (by omega)), mayList_l hl l h]; rfl
def item0' : Item := ⟨⟨#[]⟩, 0, 0, 0, ⟨#[]⟩, 0, 0, 0, false⟩
def getI (id : ByteArray) : List Item → Item × Bool
  | [] => (item0', false)
  | x :: xs => if eqS x.id id then (x, true) else getI id xs
theorem get_l (id : ByteArray) : ∀ l : List Item, ref06_Get_l1 id l = some (getI id l)
  | [] => by rw [ref06_Get_l1]; rfl
  | x :: xs => by rw [ref06_Get_l1, get_l id xs, getI]; cases eqS x.id id <;> rfl
theorem get_s {l : List Item} {id : ByteArray} (h : l.length ≤ 1000000000) : ref06_Get_s l id = some (getI id l) := by
  unfold ref06_Get_s; rw [chk_t (smallL_of h), get_l]
theorem items_l : ∀ (xs acc : List Item), acc.length + xs.length ≤ 999990 → law00_Items_l1 xs acc = some (acc ++ xs)
  | [], acc, _ => by rw [law00_Items_l1, List.append_nil]
  | i :: xs, acc, h => by
    rw [List.length_cons] at h
    rw [law00_Items_l1, bnd_of (show law00_Item_s i = some i from rfl), chk_t (roomL_of (by omega)), items_l xs _ (by rw [List.length_append]; simp; omega), List.append_assoc]; rfl
theorem items_s {l : List Item} (h : l.length ≤ 999990) : law00_Items_s l = some l := by
  unfold law00_Items_s; rw [chk_t (smallL_of (by omega)), items_l l [] (by simp; omega)]; rfl
end
end Go.Proofs.Ytijkfjahgijphaa
