/- What a call's arguments read as, as the evaluator's values. -/
import Derived.Test.YtaiedakbmmgmaaaEvCall3
import Derived.Deep.Slices
set_option linter.unusedVariables false
set_option linter.unusedSimpArgs false
namespace Go.Proofs.Ytaiedakbmmgmaaa.E
open Go Go.Deep Go.ChangeShapes Go.WideShapes

/-- the shape of a type without pointers: of a struct, or an array, the parts one behind the other -/
inductive Sh where
  | int (k : IntKind)
  | bool
  | str
  | flt (k : FloatKind)
  | sl (e : Sh)
  | nil
  | cat (a b : Sh)
  | no (n : Nat)
def Sh.size : Sh → Nat
  | .nil => 0
  | .no n => n
  | .cat a b => a.size + b.size
  | _ => 1
def repS (s : Sh) : Nat → Sh
  | 0 => .nil
  | n + 1 => .cat s (repS s n)
def Fits : Sh → List PC → Prop
  | .int k, cs => ∃ n, cs = [.v (.int k n)] ∧ (Lit.int k n).wf = true
  | .bool, cs => ∃ b, cs = [.v (.bool b)]
  | .str, cs => ∃ s : ByteArray, cs = [.v (.string s)] ∧ s.size ≤ maxLen
  | .flt k, cs => ∃ b, cs = [.v (.float k b)] ∧ (Lit.float k b).wf = true
  | .sl e, cs => ∃ rows, cs = [.sl rows] ∧ rows.length ≤ maxLen ∧ ∀ r ∈ rows, Fits e r
  | .nil, cs => cs = []
  | .no _, _ => False
  | .cat a b, cs => ∃ x y, cs = x ++ y ∧ Fits a x ∧ Fits b y
theorem Fits.len : ∀ {s : Sh} {cs : List PC}, Fits s cs → cs.length = s.size
  | .int _, _, ⟨_, rfl, _⟩ => rfl
  | .bool, _, ⟨_, rfl⟩ => rfl
  | .str, _, ⟨_, rfl, _⟩ => rfl
  | .flt _, _, ⟨_, rfl, _⟩ => rfl
  | .sl _, _, ⟨_, rfl, _⟩ => rfl
  | .no _, _, h => h.elim
  | .nil, _, h => by rw [show _ = [] from h]; rfl
  | .cat a b, _, ⟨x, y, rfl, h1, h2⟩ => by rw [List.length_append, h1.len, h2.len]; rfl
mutual
/-- the shape of a type, as far as so many steps into it go -/
inductive ShOk (P : Program) : Nat → Nat → Sh → Prop
  | zero {t s} : ShOk P 0 t s
  | int {n t k} : P.underlying t = some (.int k) → ShOk P n t (.int k)
  | bool {n t} : P.underlying t = some .bool → ShOk P n t .bool
  | str {n t} : P.underlying t = some .string → ShOk P n t .str
  | flt {n t k} : P.underlying t = some (.float k) → ShOk P n t (.flt k)
  | sl {n t e s} : P.underlying t = some (.slice e) → P.cellsOf e = s.size → 0 < s.size → ShOk P n e s → ShOk P (n + 1) t (.sl s)
  | struct {n t fs s} : P.underlying t = some (.struct fs) → P.cellsOf t = s.size → ShFs P n 0 fs.toList s → ShOk P (n + 1) t s
  | arr {n t k e s s'} : P.underlying t = some (.array k e) → P.cellsOf e = s.size → P.cellsOf t = k * s.size → ShOk P n e s → s' = repS s k → ShOk P (n + 1) t s'
inductive ShFs (P : Program) : Nat → Nat → List Field → Sh → Prop
  | nil {n off} : ShFs P n off [] .nil
  | cons {n off f fs a b} : f.offset = off → P.cellsOf f.type = a.size → ShOk P n f.type a → ShFs P n (off + a.size) fs b → ShFs P n off (f :: fs) (.cat a b)
end
section
variable {H : Type} {enc : TypeId × Value → H} {P : Program} {w : World} {base : Nat} {spare : Nat → Bool} {held : Bool} {S : Zone}
theorem trod_float {t fuel : Nat} {cs : List Value} {x : DataW H × List MemPlace} {k : FloatKind} (ht : P.underlying t = some (.float k)) (h : DataW.trod enc P w base spare held fuel t cs = some x) : ∃ n, cs = [.float k n] ∧ (Lit.float k n).wf = true := by
  cases fuel with
  | zero => simp [DataW.trod] at h
  | succ n =>
    unfold DataW.trod at h
    rw [ht] at h
    split at h <;> simp_all
theorem trod_array' {t fuel e n : Nat} {cs : List Value} {x : DataW H × List MemPlace} (ht : P.underlying t = some (.array n e)) (h : DataW.trod enc P w base spare held fuel t cs = some x) :
    cs.length = P.cellsOf t ∧ ∃ m, fuel = m + 1 ∧ ∀ i, i < n → ∃ y, DataW.trod enc P w base spare held m e ((cs.drop (i * P.cellsOf e)).take (P.cellsOf e)) = some y := by
  cases fuel with
  | zero => simp [DataW.trod] at h
  | succ m =>
    unfold DataW.trod at h
    rw [ht] at h
    simp only at h
    split at h
    · rename_i hl
      refine ⟨hl, m, rfl, fun i hi => ?_⟩
      obtain ⟨xs, hxs, _⟩ := Option.map_eq_some_iff.1 h
      have h1 := mapM_some_get hxs i i (by simp [hi])
      have hl' := mapM_some_length hxs
      rw [List.length_range] at hl'
      rw [List.getElem?_eq_getElem (by omega)] at h1
      exact ⟨_, h1⟩
    · cases h
theorem F2.app_inv {α β : Type} {R : α → β → Prop} {l : List α} {m m' : List β} : F2 R l (m ++ m') → ∃ a b, l = a ++ b ∧ F2 R a m ∧ F2 R b m' := by
  induction m generalizing l with
  | nil => intro h; exact ⟨[], l, rfl, .nil, h⟩
  | cons x m ih =>
    intro h
    cases h with
    | cons hx hr =>
      obtain ⟨a, b, rfl, h1, h2⟩ := ih hr
      exact ⟨_ :: a, b, rfl, .cons hx h1, h2⟩
theorem fields_read {n : Nat} {cs : List Value} (ih : ∀ {t : Nat} {s : Sh} {cs : List Value} {x : DataW H × List MemPlace}, ShOk P n t s → DataW.trod enc P w base spare held n t cs = some x → ∃ pcs, Fits s pcs ∧ F2 (PR w S) pcs cs) :
    ∀ (fl : List Field) {off : Nat} {s : Sh}, ShFs P n off fl s → (∀ f ∈ fl, ∃ x, DataW.trod enc P w base spare held n f.type ((cs.drop f.offset).take (P.cellsOf f.type)) = some x) →
      ∃ pcs, Fits s pcs ∧ F2 (PR w S) pcs ((cs.drop off).take s.size)
  | [], off, s, h, hx => by cases h; exact ⟨[], rfl, by simp [Sh.size]; exact .nil⟩
  | f :: fl, off, s, h, hx => by
    cases h with
    | cons hoff hc ha hr =>
      rename_i a b
      obtain ⟨x, hx1⟩ := hx f (by simp)
      rw [hoff, hc] at hx1
      obtain ⟨p1, hf1, hr1⟩ := ih ha hx1
      obtain ⟨p2, hf2, hr2⟩ := fields_read ih fl hr fun g hg => hx g (by simp [hg])
      refine ⟨p1 ++ p2, ⟨p1, p2, rfl, hf1, hf2⟩, ?_⟩
      rw [show (Sh.cat a b).size = a.size + b.size from rfl, List.take_add, List.drop_drop]
      exact hr1.app hr2
theorem items_read {n e : Nat} {se : Sh} {cs : List Value} (hc : P.cellsOf e = se.size) (he : ShOk P n e se) (ih : ∀ {t : Nat} {s : Sh} {cs : List Value} {x : DataW H × List MemPlace}, ShOk P n t s → DataW.trod enc P w base spare held n t cs = some x → ∃ pcs, Fits s pcs ∧ F2 (PR w S) pcs cs) :
    ∀ (m s : Nat), (∀ i, s ≤ i → i < s + m → ∃ y, DataW.trod enc P w base spare held n e ((cs.drop (i * P.cellsOf e)).take (P.cellsOf e)) = some y) →
      ∃ pcs, Fits (repS se m) pcs ∧ F2 (PR w S) pcs ((cs.drop (s * se.size)).take (m * se.size))
  | 0, s, hx => ⟨[], rfl, by simp; exact .nil⟩
  | m + 1, s, hx => by
    obtain ⟨x, hx1⟩ := hx s (by omega) (by omega)
    rw [hc] at hx1
    obtain ⟨p1, hf1, hr1⟩ := ih he hx1
    obtain ⟨p2, hf2, hr2⟩ := items_read hc he ih m (s + 1) fun i h1 h2 => hx i (by omega) (by omega)
    refine ⟨p1 ++ p2, ⟨p1, p2, rfl, hf1, hf2⟩, ?_⟩
    rw [Nat.succ_mul, Nat.add_comm (m * se.size), List.take_add, List.drop_drop, ← Nat.succ_mul]
    exact hr1.app hr2
theorem read_ok (hS : ∀ g, g < w.heap.size → S.s g) : ∀ (fuel : Nat) {t : Nat} {s : Sh} {cs : List Value} {x : DataW H × List MemPlace}, ShOk P fuel t s → DataW.trod enc P w base spare held fuel t cs = some x → ∃ pcs, Fits s pcs ∧ F2 (PR w S) pcs cs
  | 0, t, s, cs, x, hs, h => by simp [DataW.trod] at h
  | n + 1, t, s, cs, x, hs, h => by
    cases hs with
    | int hu => obtain ⟨m, rfl, _, hw⟩ := DataW.trod_int hu h; exact ⟨_, ⟨m, rfl, hw⟩, .cons (.v rfl) .nil⟩
    | bool hu => obtain ⟨m, rfl, _⟩ := DataW.trod_bool hu h; exact ⟨_, ⟨m, rfl⟩, .cons (.v rfl) .nil⟩
    | str hu => obtain ⟨m, rfl, _, hw⟩ := DataW.trod_string hu h; exact ⟨_, ⟨m, rfl, hw⟩, .cons (.v rfl) .nil⟩
    | flt hu => obtain ⟨m, rfl, hw⟩ := trod_float hu h; exact ⟨_, ⟨m, rfl, hw⟩, .cons (.v rfl) .nil⟩
    | struct hu hc hf =>
      rename_i fs
      obtain ⟨xs, m, hm, _, hl, hxl, hx⟩ := DataW.trod_struct hu h
      injection hm with hm; subst hm
      obtain ⟨pcs, h1, h2⟩ := fields_read (S := S) (cs := cs) (fun a b => read_ok hS n a b) fs.toList hf fun f hf' => by
        obtain ⟨i, hi, he⟩ := List.getElem_of_mem hf'
        have h1 : fs[i]? = some f := by rw [Array.getElem?_eq_getElem (by simpa using hi)]; simpa using he
        have := hx i f h1
        rw [List.getElem?_eq_getElem (by rw [hxl]; simpa using hi)] at this
        exact ⟨_, this⟩
      refine ⟨pcs, h1, ?_⟩
      rw [List.drop_zero, ← hc, ← hl, List.take_length] at h2
      exact h2
    | arr hu hce hct he hs' =>
      rename_i k e se
      subst hs'
      obtain ⟨hl, m, hm, hx⟩ := trod_array' hu h
      injection hm with hm; subst hm
      obtain ⟨pcs, h1, h2⟩ := items_read (S := S) (cs := cs) hce he (fun a b => read_ok hS n a b) k 0 fun i _ hi => hx i (by omega)
      refine ⟨pcs, h1, ?_⟩
      rw [Nat.zero_mul, List.drop_zero, ← hct, ← hl, List.take_length] at h2
      exact h2
    | sl hu hc hpos he =>
      rename_i e se
      rcases DataW.trod_slice hu h with ⟨rfl, _⟩ | ⟨a, len, cap, elems, rest, m, hm, rfl, _, _, hlc, hcm, hlen, hel, _, _⟩
      · exact ⟨_, ⟨[], rfl, Nat.zero_le _, by simp⟩, .cons (.sl (k := 1) (fun _ _ => .nilFunc) (Nat.le_refl _) (by omega) (by simp) (.inl rfl) (fun g o _ i j hi => by simp at hi) (fun i j r c hr => by simp at hr)) .nil⟩
      · injection hm with hm; subst hm
        obtain ⟨R, hR⟩ := choose_lt (α := List PC × List Value) (n := len) (p := fun i p => Fits se p.1 ∧ F2 (PR w S) p.1 p.2 ∧ w.cells? base (a.add (i * se.size)) se.size = some p.2) (fun i hi => by
          have h1 := hel i hi
          rw [List.getElem?_eq_getElem (by omega)] at h1
          obtain ⟨cs', h2, h3⟩ := Option.bind_eq_some_iff.1 h1
          obtain ⟨pcs, h4, h5⟩ := read_ok hS n he h3
          rw [hc] at h2
          exact ⟨(pcs, cs'), h4, h5, h2⟩)
        have hcell : ∀ i j, i < len → j < se.size → w.cell? ((a.add (i * se.size)).add j) = (R i).2[j]? := fun i j hi hj => (World.cells?_some (hR i hi).2.2).2.2 j hj
        have hRl : ∀ i, i < len → (R i).2.length = se.size := fun i hi => (World.cells?_some (hR i hi).2.2).2.1
        have hspot : 0 < len → a = ⟨a.block, a.off, none⟩ ∧ a.block < w.heap.size := fun h0 => by
          have h1 := hcell 0 0 h0 hpos
          rw [Nat.zero_mul] at h1
          have h2 : (a.add 0).add 0 = a := by simp [Addr.add]
          rw [h2, List.getElem?_eq_getElem (by rw [hRl 0 h0]; exact hpos)] at h1
          unfold World.cell? at h1
          split at h1
          · rename_i c t r hh
            split at h1
            · cases h1
            · rename_i hs
              refine ⟨?_, (Array.getElem?_eq_some_iff.1 hh).1⟩
              cases a with | mk b o s => cases s with | none => rfl | some s => exact absurd rfl hs
          · cases h1
        have hadd : ∀ (g o n : Nat), (⟨g, o, none⟩ : Addr).add n = ⟨g, o + n, none⟩ := fun g o n => by unfold Addr.add; split <;> simp_all
        have hrl : ((List.range len).map fun i => (R i).1).length = len := by simp
        refine ⟨[.sl ((List.range len).map fun i => (R i).1)], ⟨_, rfl, by rw [hrl]; omega, fun r hr => ?_⟩, .cons ?_ .nil⟩
        · obtain ⟨i, hi, rfl⟩ := List.mem_map.1 hr
          exact (hR i (List.mem_range.1 hi)).1
        · have key := @PR.sl w S ((List.range len).map fun i => (R i).1) (some a) cap se.size (fun i j => ((R i).2).getD j .nilFunc) (by rw [hrl]; exact hlc) hpos
            (fun r hr => by obtain ⟨i, hi, rfl⟩ := List.mem_map.1 hr; exact (hR i (List.mem_range.1 hi)).1.len)
            (by
              rcases Nat.eq_zero_or_pos len with h0 | h0
              · left; rw [h0]; rfl
              · right; exact ⟨_, _, congrArg some (hspot h0).1, hS _ (hspot h0).2⟩)
            (fun g o ha i j hi hj => by
              rw [hrl] at hi
              injection ha with ha
              have h1 := hcell i j hi hj
              rw [ha, hadd, hadd] at h1
              rw [h1, List.getD_eq_getElem?_getD, List.getElem?_eq_getElem (by rw [hRl i hi]; exact hj)]; rfl)
            (fun i j r c hr hc' => by
              have hi : i < len := by
                have := (List.getElem?_eq_some_iff.1 hr).1
                rw [hrl] at this; exact this
              rw [List.getElem?_map, List.getElem?_range hi] at hr
              injection hr with hr; subst hr
              obtain ⟨v, h1, h2⟩ := (hR i hi).2.1.get hc'
              rw [List.getD_eq_getElem?_getD, h1]; exact h2)
          rw [hrl] at key
          exact key
end
end Go.Proofs.Ytaiedakbmmgmaaa.E
