/- Filters made plain (layer 4): what is told to be the same, and both answers, without the program. -/
import Derived.Test.YtijkfjahgijphaaPredLaw
import Derived.Test.YtijkfjahgijphaaEval
import Derived.Test.YtijkfjahgijphaaContain
set_option linter.unusedVariables false
set_option linter.unusedSimpArgs false
set_option maxRecDepth 100000
namespace Go.Proofs.Ytijkfjahgijphaa
open Go E Pred
theorem signed_add (s : Bool) (m a b : Nat) : Ieee.signed s m (a + b) = Ieee.signed s m a * ((2 ^ b : Nat) : Int) := by
  rw [signed0 s m (a + b), signed0 s m a, Nat.pow_add, Int.natCast_mul, Int.mul_assoc]
theorem order_nums {s t : Bool} {m n : Nat} {i j : Int} : (Ieee.Datum.order (.number s m i) (.number t n j) == some .eq) = true ↔ ∃ e, e ≤ i ∧ e ≤ j ∧ Ieee.signed s m (i - e).toNat = Ieee.signed t n (j - e).toNat := by
  rw [order_num]
  constructor
  · intro h
    refine ⟨min i j, Int.min_le_left .., Int.min_le_right .., ?_⟩
    have h := eq_of_beq h
    simpa using h
  · rintro ⟨e, h1, h2, h⟩
    have e1 : (i - e).toNat = (i - min i j).toNat + (min i j - e).toNat := by omega
    have e2 : (j - e).toNat = (j - min i j).toNat + (min i j - e).toNat := by omega
    rw [e1, e2, signed_add, signed_add] at h
    have h := Int.eq_of_mul_eq_mul_right (by have := Nat.two_pow_pos (min i j - e).toNat; omega) h
    rw [h]; simp
theorem order_up {s t : Bool} {m n : Nat} {i j e : Int} (h1 : e ≤ i) (h2 : e ≤ j) (h : Ieee.signed s m (i - e).toNat = Ieee.signed t n (j - e).toNat) {f : Int} (hf : f ≤ e) : Ieee.signed s m (i - f).toNat = Ieee.signed t n (j - f).toNat := by
  have e1 : (i - f).toNat = (i - e).toNat + (e - f).toNat := by omega
  have e2 : (j - f).toNat = (j - e).toNat + (e - f).toNat := by omega
  rw [e1, e2, signed_add, signed_add, h]
theorem eqFl_cases {x y : Nat} (h : eqFl .f64 x y = true) : (∃ s, Ieee.double.read x = .infinity s ∧ Ieee.double.read y = .infinity s) ∨ ∃ s m i t n j, Ieee.double.read x = .number s m i ∧ Ieee.double.read y = .number t n j := by
  have h' : (Ieee.Datum.order (Ieee.double.read x) (Ieee.double.read y) == some .eq) = true := h
  cases hx : Ieee.double.read x with
  | nan s f => rw [hx] at h'; cases h'
  | infinity s =>
    cases hy : Ieee.double.read y with
    | nan t f => rw [hx, hy] at h'; cases s <;> cases h'
    | infinity t => rw [hx, hy] at h'; exact .inl ⟨s, rfl, by cases s <;> cases t <;> first | rfl | cases h'⟩
    | number t n j => rw [hx, hy] at h'; cases s <;> cases h'
  | number s m i =>
    cases hy : Ieee.double.read y with
    | nan t f => rw [hx, hy] at h'; cases h'
    | infinity t => rw [hx, hy] at h'; cases t <;> cases h'
    | number t n j => exact .inr ⟨s, m, i, t, n, j, rfl, rfl⟩
theorem eqFl_symm {x y : Nat} (h : eqFl .f64 x y = true) : eqFl .f64 y x = true := by
  have h' : (Ieee.Datum.order (Ieee.double.read x) (Ieee.double.read y) == some .eq) = true := h
  show (Ieee.Datum.order (Ieee.double.read y) (Ieee.double.read x) == some .eq) = true
  rcases eqFl_cases h with ⟨s, h1, h2⟩ | ⟨s, m, i, t, n, j, h1, h2⟩
  · rw [h1, h2]; cases s <;> rfl
  · rw [h1, h2, order_nums] at h'
    rw [h1, h2, order_nums]
    obtain ⟨e, a, b, c⟩ := h'
    exact ⟨e, b, a, c.symm⟩
theorem eqFl_trans {x y z : Nat} (h : eqFl .f64 x y = true) (g : eqFl .f64 y z = true) : eqFl .f64 x z = true := by
  have h' : (Ieee.Datum.order (Ieee.double.read x) (Ieee.double.read y) == some .eq) = true := h
  have g' : (Ieee.Datum.order (Ieee.double.read y) (Ieee.double.read z) == some .eq) = true := g
  show (Ieee.Datum.order (Ieee.double.read x) (Ieee.double.read z) == some .eq) = true
  rcases eqFl_cases h with ⟨s, h1, h2⟩ | ⟨s, m, i, t, n, j, h1, h2⟩
  · rcases eqFl_cases g with ⟨s', g1, g2⟩ | ⟨s', m, i, t, n, j, g1, g2⟩
    · rw [h2] at g1; cases g1; rw [h1, g2]; cases s <;> rfl
    · rw [h2] at g1; cases g1
  · rcases eqFl_cases g with ⟨s', g1, g2⟩ | ⟨s', m', i', u, o, k, g1, g2⟩
    · rw [h2] at g1; cases g1
    · rw [h2] at g1; cases g1
      rw [h1, h2, order_nums] at h'
      rw [h2, g2, order_nums] at g'
      rw [h1, g2, order_nums]
      obtain ⟨e, a1, a2, a3⟩ := h'
      obtain ⟨f, b1, b2, b3⟩ := g'
      exact ⟨min e f, by omega, by omega, (order_up a1 a2 a3 (by omega)).trans (order_up b1 b2 b3 (by omega))⟩
theorem sameP_iff (p q : Pred) : sameP p q = true ↔ p.op = q.op ∧ bytesOf p.text = bytesOf q.text ∧ p.n = q.n ∧ (eqFl .f64 p.re q.re = true ∧ eqFl .f64 p.im q.im = true) ∧ sameL p.kids q.kids = true := by
  rw [sameP_eq]; simp only [Bool.and_eq_true, eqI_t, eqS_iff]
theorem sameL_nil : sameL [] [] = true := by rw [sameL]
theorem sameL_cons (a b : Pred) (l m : List Pred) : sameL (a :: l) (b :: m) = (sameP a b && sameL l m) := by rw [sameL]
theorem sameL_no1 (a : Pred) (l : List Pred) : sameL (a :: l) [] = false := sameL_len (by simp)
theorem sameL_no2 (a : Pred) (l : List Pred) : sameL [] (a :: l) = false := sameL_len (by simp)
mutual
theorem sameP_symm : ∀ {p q : Pred}, sameP p q = true → sameP q p = true
  | .mk o t n x y ks, .mk o' t' n' x' y' ks', h => by
    rw [sameP_iff] at h ⊢
    exact ⟨h.1.symm, h.2.1.symm, h.2.2.1.symm, ⟨eqFl_symm h.2.2.2.1.1, eqFl_symm h.2.2.2.1.2⟩, sameL_symm (l := ks) (m := ks') h.2.2.2.2⟩
theorem sameL_symm : ∀ {l m : List Pred}, sameL l m = true → sameL m l = true
  | [], [], _ => sameL_nil
  | a :: l, b :: m, h => by
    rw [sameL_cons, Bool.and_eq_true] at h ⊢
    exact ⟨sameP_symm (p := a) (q := b) h.1, sameL_symm (l := l) (m := m) h.2⟩
  | [], b :: m, h => by rw [sameL_no2] at h; cases h
  | a :: l, [], h => by rw [sameL_no1] at h; cases h
end
mutual
theorem sameP_trans : ∀ {p q r : Pred}, sameP p q = true → sameP q r = true → sameP p r = true
  | .mk o t n x y ks, .mk o' t' n' x' y' ks', .mk o2 t2 n2 x2 y2 ks2, h, g => by
    rw [sameP_iff] at h g ⊢
    exact ⟨h.1.trans g.1, h.2.1.trans g.2.1, h.2.2.1.trans g.2.2.1, ⟨eqFl_trans h.2.2.2.1.1 g.2.2.2.1.1, eqFl_trans h.2.2.2.1.2 g.2.2.2.1.2⟩, sameL_trans (l := ks) (m := ks') (r := ks2) h.2.2.2.2 g.2.2.2.2⟩
theorem sameL_trans : ∀ {l m r : List Pred}, sameL l m = true → sameL m r = true → sameL l r = true
  | [], [], [], _, _ => sameL_nil
  | a :: l, b :: m, c :: r, h, g => by
    rw [sameL_cons, Bool.and_eq_true] at h g ⊢
    exact ⟨sameP_trans (p := a) (q := b) (r := c) h.1 g.1, sameL_trans (l := l) (m := m) (r := r) h.2 g.2⟩
  | [], b :: m, _, h, _ => by rw [sameL_no2] at h; cases h
  | a :: l, [], _, h, _ => by rw [sameL_no1] at h; cases h
  | [], [], c :: r, _, g => by rw [sameL_no2] at g; cases g
  | a :: l, b :: m, [], _, g => by rw [sameL_no1] at g; cases g
end
theorem sameL_app : ∀ {a b c d : List Pred}, sameL a b = true → sameL c d = true → sameL (a ++ c) (b ++ d) = true
  | [], [], _, _, _, h => h
  | x :: a, y :: b, c, d, g, h => by
    rw [sameL_cons, Bool.and_eq_true] at g
    show sameL (x :: (a ++ c)) (y :: (b ++ d)) = true
    rw [sameL_cons, g.1, sameL_app g.2 h]; rfl
  | [], b :: m, _, _, h, _ => by rw [sameL_no2] at h; cases h
  | a :: l, [], _, _, h, _ => by rw [sameL_no1] at h; cases h
theorem sameL_any {P Q : Pred → Bool} (hPQ : ∀ p q, sameP p q = true → P p = Q q) : ∀ {l m : List Pred}, sameL l m = true → l.any P = m.any Q
  | [], [], _ => rfl
  | x :: a, y :: b, g => by
    rw [sameL_cons, Bool.and_eq_true] at g
    rw [List.any_cons, List.any_cons, hPQ x y g.1, sameL_any hPQ g.2]
  | [], b :: m, h => by rw [sameL_no2] at h; cases h
  | a :: l, [], h => by rw [sameL_no1] at h; cases h
theorem sameP_congr {a b c d : Pred} (h : sameP a b = true) (g : sameP c d = true) : sameP a c = sameP b d := by
  cases e : sameP b d with
  | true => exact sameP_trans h (sameP_trans e (sameP_symm g))
  | false =>
    cases e2 : sameP a c with
    | false => rfl
    | true => rw [sameP_trans (sameP_symm h) (sameP_trans e2 g)] at e; cases e
theorem sameP_op {a b : Pred} (h : sameP a b = true) : a.op = b.op := ((sameP_iff a b).1 h).1
theorem sameP_kids {a b : Pred} (h : sameP a b = true) : sameL a.kids b.kids = true := ((sameP_iff a b).1 h).2.2.2.2
/-! ### the program's answer -/
abbrev bare (o : Int) (ks : List Pred) : Pred := .mk o ⟨#[]⟩ 0 0 0 ks
def addP (none : Int) (acc : List Pred) (k : Pred) : List Pred := if !eqI k.op none && !(acc.any fun o => sameP k o) then acc ++ [k] else acc
def endP (o none whole : Int) : List Pred → Pred
  | [] => bare none []
  | [k] => if eqI k.op whole then bare whole [] else k
  | acc => if acc.any fun k => eqI k.op whole then bare whole [] else bare o acc
def flatP (o : Int) : List Pred → List Pred
  | [] => []
  | k :: ks => (if eqI k.op o then k.kids else [k]) ++ flatP o ks
def notV : List Pred → Pred
  | [] => bare 10 []
  | k :: _ => if eqI k.op 1 then bare 2 [] else if eqI k.op 2 then bare 1 [] else if eqI k.op 10 then (match k.kids with | [] => bare 10 [k] | m :: _ => m) else bare 10 [k]
mutual
def plainP : Pred → Pred
  | .mk o t n x y ks => if eqI o 9 then endP 9 2 1 ((flatP 9 (plainL ks)).foldl (addP 2) []) else if eqI o 8 then endP 8 1 2 ((flatP 8 (plainL ks)).foldl (addP 1) []) else if eqI o 10 then notV (plainL ks) else .mk o t n x y []
def plainL : List Pred → List Pred
  | [] => []
  | k :: ks => plainP k :: plainL ks
end
theorem plainP_eq (p : Pred) : plainP p = (if eqI p.op 9 then endP 9 2 1 ((flatP 9 (plainL p.kids)).foldl (addP 2) []) else if eqI p.op 8 then endP 8 1 2 ((flatP 8 (plainL p.kids)).foldl (addP 1) []) else if eqI p.op 10 then notV (plainL p.kids) else .mk p.op p.text p.n p.re p.im []) := by cases p; rw [plainP]; rfl
theorem plainL_eq (l : List Pred) : plainL l = l.map plainP := by induction l with | nil => rw [plainL]; rfl | cons a l ih => rw [plainL, ih]; rfl
/-! ### the document's answer -/
/-- the list once more: none as soon as one tells all -/
def keepR (none : Int) (pre : List Pred) : List Pred → List Pred → Option (List Pred)
  | [], out => some out
  | k :: ks, out => if eqI k.op (3 - none) then Option.none else keepR none (pre ++ [k]) ks (if !(pre.any fun x => sameP x k) && !eqI k.op none then out ++ [k] else out)
def endR (p : Pred) (none : Int) : Option (List Pred) → Pred
  | Option.none => bare (3 - none) []
  | some [] => bare none []
  | some [k] => k
  | some out => .mk p.op p.text p.n p.re p.im out
def notR (p : Pred) : List Pred → Pred
  | [k] => if eqI k.op 1 || eqI k.op 2 then bare (3 - k.op) [] else if eqI k.op 10 then (match k.kids with | [] => bare 10 [] | m :: _ => m) else .mk p.op p.text p.n p.re p.im [k]
  | _ => .mk p.op p.text p.n p.re p.im []
mutual
def rplainP : Pred → Pred
  | .mk o t n x y ks => if eqI o 10 then notR (.mk o t n x y []) (rplainL ks) else if eqI o 9 then endR (.mk o t n x y []) 2 (keepR 2 [] (flatP 9 (rplainL ks)) []) else if eqI o 8 then endR (.mk o t n x y []) 1 (keepR 1 [] (flatP 8 (rplainL ks)) []) else .mk o t n x y []
def rplainL : List Pred → List Pred
  | [] => []
  | k :: ks => rplainP k :: rplainL ks
end
theorem rplainP_eq (p : Pred) : rplainP p = (if eqI p.op 10 then notR (.mk p.op p.text p.n p.re p.im []) (rplainL p.kids) else if eqI p.op 9 then endR (.mk p.op p.text p.n p.re p.im []) 2 (keepR 2 [] (flatP 9 (rplainL p.kids)) []) else if eqI p.op 8 then endR (.mk p.op p.text p.n p.re p.im []) 1 (keepR 1 [] (flatP 8 (rplainL p.kids)) []) else .mk p.op p.text p.n p.re p.im []) := by cases p; rw [rplainP]; rfl
theorem rplainL_eq (l : List Pred) : rplainL l = l.map rplainP := by induction l with | nil => rw [rplainL]; rfl | cons a l ih => rw [rplainL, ih]; rfl
/-! ### both are the same -/
theorem flatP_same {o : Int} : ∀ {l m : List Pred}, sameL l m = true → sameL (flatP o l) (flatP o m) = true
  | [], [], _ => sameL_nil
  | x :: a, y :: b, g => by
    rw [sameL_cons, Bool.and_eq_true] at g
    rw [flatP, flatP]
    refine sameL_app ?_ (flatP_same g.2)
    rw [sameP_op g.1]
    split
    · exact sameP_kids g.1
    · rw [sameL_cons, g.1, sameL_nil]; rfl
  | [], b :: m, h => by rw [sameL_no2] at h; cases h
  | a :: l, [], h => by rw [sameL_no1] at h; cases h
theorem keepR_same {none : Int} : ∀ {l m pre pre' out out' : List Pred}, sameL l m = true → sameL pre pre' = true → sameL out out' = true → (keepR none pre l out = Option.none ∧ keepR none pre' m out' = Option.none) ∨ ∃ a b, keepR none pre l out = some a ∧ keepR none pre' m out' = some b ∧ sameL a b = true
  | [], [], _, _, out, out', _, _, h => .inr ⟨out, out', rfl, rfl, h⟩
  | x :: a, y :: b, pre, pre', out, out', g, hp, ho => by
    rw [sameL_cons, Bool.and_eq_true] at g
    rw [keepR, keepR, sameP_op g.1]
    split
    · exact .inl ⟨rfl, rfl⟩
    · refine keepR_same g.2 (sameL_app hp (by rw [sameL_cons, g.1, sameL_nil]; rfl)) ?_
      rw [sameL_any (P := fun z => sameP z x) (Q := fun z => sameP z y) (fun p q h => sameP_congr h g.1) hp]
      split
      · exact sameL_app ho (by rw [sameL_cons, g.1, sameL_nil]; rfl)
      · exact ho
  | [], b :: m, _, _, _, _, h, _, _ => by rw [sameL_no2] at h; cases h
  | a :: l, [], _, _, _, _, h, _, _ => by rw [sameL_no1] at h; cases h
theorem add_sub {none : Int} {acc : List Pred} {k x : Pred} (h : x ∈ acc) : x ∈ addP none acc k := by
  unfold addP; split
  · exact List.mem_append_left _ h
  · exact h
theorem add_in {none : Int} {acc : List Pred} {k x : Pred} (h : x ∈ addP none acc k) : x ∈ acc ∨ x = k := by
  unfold addP at h; split at h
  · rcases List.mem_append.1 h with h | h
    · exact .inl h
    · exact .inr (List.mem_singleton.1 h)
  · exact .inl h
theorem add_has {none : Int} {acc : List Pred} {k : Pred} (hs : sameP k k = true) (hk : k.op ≠ none) : ∃ o ∈ addP none acc k, sameP k o = true := by
  unfold addP
  cases ha : acc.any fun o => sameP k o with
  | true =>
    obtain ⟨o, ho, h⟩ := List.any_eq_true.1 ha
    exact ⟨o, by simpa using ho, h⟩
  | false => exact ⟨k, by simp [eqI_f.2 hk], hs⟩
theorem fold_sub {none : Int} : ∀ {l acc : List Pred} {x : Pred}, x ∈ acc → x ∈ l.foldl (addP none) acc
  | [], _, _, h => h
  | k :: l, acc, x, h => fold_sub (l := l) (add_sub h)
theorem fold_in {none : Int} : ∀ {l acc : List Pred} {x : Pred}, x ∈ l.foldl (addP none) acc → x ∈ acc ∨ x ∈ l
  | [], _, _, h => .inl h
  | k :: l, acc, x, h => by
    rcases fold_in (l := l) h with h | h
    · rcases add_in h with h | rfl
      · exact .inl h
      · exact .inr (List.mem_cons_self ..)
    · exact .inr (List.mem_cons_of_mem _ h)
/-- on one list both are the same -/
theorem keep_fold {none : Int} (hn : none = 1 ∨ none = 2) : ∀ {l pre acc : List Pred}, (∀ k ∈ l, sameP k k = true) → (∀ x ∈ pre, x.op ≠ none → ∃ o ∈ acc, sameP x o = true) → (∀ o ∈ acc, o ∈ pre) → (∀ o ∈ acc, o.op ≠ 3 - none) →
    (keepR none pre l acc = some (l.foldl (addP none) acc) ∧ ∀ o ∈ l.foldl (addP none) acc, o.op ≠ 3 - none) ∨ (keepR none pre l acc = Option.none ∧ ∃ o ∈ l.foldl (addP none) acc, o.op = 3 - none)
  | [], _, acc, _, _, _, hw => .inl ⟨rfl, hw⟩
  | k :: l, pre, acc, hs, hpre, hacc, hw => by
    rw [keepR, List.foldl_cons]
    have hk := hs k (List.mem_cons_self ..)
    by_cases hwk : k.op = 3 - none
    · right
      rw [if_pos (eqI_t.2 hwk)]
      refine ⟨rfl, ?_⟩
      obtain ⟨o, ho, h⟩ := add_has (none := none) (acc := acc) hk (by omega)
      exact ⟨o, fold_sub ho, by rw [← sameP_op h]; exact hwk⟩
    · rw [if_neg (by rw [eqI_f.2 hwk]; simp)]
      have e : (if !(pre.any fun x => sameP x k) && !eqI k.op none then acc ++ [k] else acc) = addP none acc k := by
        unfold addP
        cases hno : eqI k.op none with
        | true => simp
        | false =>
          have : (pre.any fun x => sameP x k) = acc.any fun o => sameP k o := by
            cases ha : acc.any fun o => sameP k o with
            | true =>
              obtain ⟨o, ho, h⟩ := List.any_eq_true.1 ha
              exact List.any_eq_true.2 ⟨o, hacc o ho, sameP_symm h⟩
            | false =>
              refine List.any_eq_false.2 fun x hx h => ?_
              obtain ⟨o, ho, h2⟩ := hpre x hx (by rw [sameP_op h]; exact eqI_f.1 hno)
              exact absurd (sameP_trans (sameP_symm h) h2) (List.any_eq_false.1 ha o ho)
          rw [this, Bool.and_comm]
      rw [e]
      refine keep_fold hn (fun x hx => hs x (List.mem_cons_of_mem _ hx)) (fun x hx hxo => ?_) (fun o ho => ?_) (fun o ho => ?_)
      · rcases List.mem_append.1 hx with hx | hx
        · obtain ⟨o, ho, h⟩ := hpre x hx hxo
          exact ⟨o, add_sub ho, h⟩
        · rw [List.mem_singleton.1 hx] at hxo ⊢
          exact add_has hk hxo
      · rcases add_in ho with h | rfl
        · exact List.mem_append_left _ (hacc o h)
        · exact List.mem_append_right _ (List.mem_singleton.2 rfl)
      · rcases add_in ho with h | rfl
        · exact hw o h
        · exact hwk
theorem eqFl_zero : eqFl .f64 0 0 = true := by kernel_rfl
theorem bare_self (o : Int) : sameP (bare o []) (bare o []) = true := (sameP_iff _ _).2 ⟨rfl, rfl, rfl, ⟨eqFl_zero, eqFl_zero⟩, sameL_nil⟩
theorem sameL_self : ∀ {l : List Pred}, (∀ k ∈ l, sameP k k = true) → sameL l l = true
  | [], _ => sameL_nil
  | a :: l, h => by rw [sameL_cons, h a (List.mem_cons_self ..), sameL_self fun k hk => h k (List.mem_cons_of_mem _ hk)]; rfl
/-- what a filter that tells no text, no number and no place is like -/
structure Plainly (p : Pred) : Prop where
  text : bytesOf p.text = bytesOf ⟨#[]⟩
  n : p.n = 0
  re : eqFl .f64 p.re 0 = true
  im : eqFl .f64 p.im 0 = true
theorem plainly_same {p : Pred} (h : Plainly p) {ks ms : List Pred} (hk : sameL ks ms = true) : sameP (bare p.op ks) (.mk p.op p.text p.n p.re p.im ms) = true :=
  (sameP_iff _ _).2 ⟨rfl, h.text.symm, h.n.symm, ⟨eqFl_symm h.re, eqFl_symm h.im⟩, hk⟩
theorem end_same {p : Pred} (h : Plainly p) {none : Int} (hn : none = 1 ∨ none = 2) {l : List Pred} (hl : ∀ k ∈ l, sameP k k = true) : sameP (endP p.op none (3 - none) (l.foldl (addP none) [])) (endR p none (keepR none [] l [])) = true := by
  have hin : ∀ k ∈ l.foldl (addP none) [], sameP k k = true := fun k hk => by
    rcases fold_in hk with h | h
    · cases h
    · exact hl k h
  rcases keep_fold hn (l := l) (pre := []) (acc := []) hl (fun x hx => nomatch hx) (fun o ho => nomatch ho) (fun o ho => nomatch ho) with ⟨e, hw⟩ | ⟨e, o, ho, hw⟩
  · rw [e]
    generalize l.foldl (addP none) [] = F at *
    match F, hin, hw with
    | [], _, _ => exact bare_self none
    | [k], hin, hw =>
      show sameP (if eqI k.op (3 - none) then _ else k) k = true
      rw [if_neg (by rw [eqI_f.2 (hw k (List.mem_singleton.2 rfl))]; simp)]
      exact hin k (List.mem_singleton.2 rfl)
    | a :: b :: m, hin, hw =>
      show sameP (if ((a :: b :: m).any fun k => eqI k.op (3 - none)) = true then _ else bare p.op (a :: b :: m)) (.mk p.op p.text p.n p.re p.im (a :: b :: m)) = true
      rw [if_neg (by rw [List.any_eq_false.2 fun x hx => by rw [eqI_f.2 (hw x hx)]; simp]; simp)]
      exact plainly_same h (sameL_self hin)
  · rw [e]
    generalize l.foldl (addP none) [] = F at *
    match F, ho with
    | [k], ho =>
      have hk := List.mem_singleton.1 ho
      show sameP (if eqI k.op (3 - none) then _ else k) (bare (3 - none) []) = true
      rw [← hk, if_pos (eqI_t.2 hw)]
      exact bare_self _
    | a :: b :: m, ho =>
      show sameP (if ((a :: b :: m).any fun k => eqI k.op (3 - none)) = true then _ else bare p.op (a :: b :: m)) (bare (3 - none) []) = true
      rw [if_pos (List.any_eq_true.2 ⟨o, ho, eqI_t.2 hw⟩)]
      exact bare_self _
theorem end_keep {p : Pred} {none : Int} {a b : List Pred} (h : sameL a b = true) (hp : sameP p p = true) : sameP (endR p none (some a)) (endR p none (some b)) = true := by
  match a, b, h with
  | [], [], _ => exact bare_self none
  | [x], [y], h => rw [sameL_cons, sameL_nil, Bool.and_true] at h; exact h
  | x :: y :: l, x' :: y' :: m, h =>
    have := (sameP_iff p p).1 hp
    exact (sameP_iff _ _).2 ⟨rfl, rfl, rfl, this.2.2.2.1, h⟩
  | [], b :: m, h => rw [sameL_no2] at h; cases h
  | a :: l, [], h => rw [sameL_no1] at h; cases h
  | [x], y :: z :: m, h => rw [sameL_cons, sameL_no2, Bool.and_false] at h; cases h
  | x :: y :: l, [z], h => rw [sameL_cons, sameL_no1, Bool.and_false] at h; cases h
/-! ### what is plain may be, is no larger, no deeper -/
theorem fitsL_of : ∀ {l : List Pred}, (∀ k ∈ l, fitsP k = true) → fitsL l = true
  | [], _ => fitsL_nil
  | a :: l, h => by
    have := fitsL_app [a] l
    rw [List.singleton_append] at this
    rw [this, fitsL_of fun k hk => h k (List.mem_cons_of_mem _ hk), Bool.and_true, fitsL, fitsL_nil, h a (List.mem_cons_self ..)]; rfl
theorem fits_kids {p : Pred} (h : fitsP p = true) : fitsL p.kids = true := by rw [fitsP_eq, Bool.and_eq_true] at h; exact h.2
theorem sizes_cons (a : Pred) (l : List Pred) : sizes (a :: l) = a.size + sizes l := by
  have := sizes_app [a] l; rw [sizes_one] at this; exact this
theorem depths_cons (a : Pred) (l : List Pred) : depths (a :: l) = max a.depth (depths l) := by
  have := depths_app [a] l; rw [depths_one] at this; exact this
theorem flat_nice (o : Int) : ∀ {l : List Pred}, fitsL l = true → fitsL (flatP o l) = true ∧ sizes (flatP o l) ≤ sizes l ∧ depths (flatP o l) ≤ depths l
  | [], h => ⟨by rw [flatP]; exact fitsL_nil, Nat.le_refl _, Nat.le_refl _⟩
  | k :: l, h => by
    have h1 := fitsL_mem h (List.mem_cons_self ..)
    obtain ⟨h2, h3, h4⟩ := flat_nice o (l := l) (fitsL_of fun x hx => fitsL_mem h (List.mem_cons_of_mem _ hx))
    rw [flatP, fitsL_app, sizes_app, depths_app, sizes_cons, depths_cons]
    have s1 := size_eq k
    have d1 := depth_eq k
    split
    · exact ⟨by rw [fits_kids h1, h2]; rfl, by omega, by omega⟩
    · rw [sizes_one, depths_one]
      exact ⟨by rw [fitsL_of (l := [k]) (fun x hx => by rw [List.mem_singleton.1 hx]; exact h1), h2]; rfl, by omega, by omega⟩
theorem add_nice {none : Int} {acc : List Pred} {k : Pred} : sizes (addP none acc k) ≤ sizes acc + k.size ∧ depths (addP none acc k) ≤ max (depths acc) k.depth := by
  unfold addP; split
  · rw [sizes_app, depths_app, sizes_one, depths_one]; exact ⟨Nat.le_refl _, Nat.le_refl _⟩
  · exact ⟨by omega, by omega⟩
theorem fold_nice {none : Int} : ∀ {l acc : List Pred}, sizes (l.foldl (addP none) acc) ≤ sizes acc + sizes l ∧ depths (l.foldl (addP none) acc) ≤ max (depths acc) (depths l)
  | [], acc => ⟨by rw [List.foldl_nil]; omega, by rw [List.foldl_nil]; omega⟩
  | k :: l, acc => by
    have h1 := add_nice (none := none) (acc := acc) (k := k)
    have h2 := fold_nice (none := none) (l := l) (acc := addP none acc k)
    rw [List.foldl_cons, sizes_cons, depths_cons]
    exact ⟨by omega, by omega⟩
theorem bare_fits {o : Int} (h : o = 1 ∨ o = 2) : fitsP (bare o []) = true ∧ (bare o []).size = 1 ∧ (bare o []).depth = 1 :=
  ⟨by rw [mk_fits, part_one h, fitsL_nil]; rfl, by rw [mk_size, sizes_nil], by rw [mk_depth, depths_nil]⟩
theorem end_nice {o none : Int} (ho : o = 8 ∨ o = 9) (hn : none = 1 ∨ none = 2) : ∀ {F : List Pred}, fitsL F = true → fitsP (endP o none (3 - none) F) = true ∧ (endP o none (3 - none) F).size ≤ sizes F + 1 ∧ (endP o none (3 - none) F).depth ≤ depths F + 1
  | [], _ => by
    obtain ⟨a, b, c⟩ := bare_fits hn
    exact ⟨a, by show (bare none []).size ≤ _; omega, by show (bare none []).depth ≤ _; omega⟩
  | [k], h => by
    obtain ⟨a, b, c⟩ := bare_fits (o := 3 - none) (by omega)
    have hk := fitsL_mem h (List.mem_cons_self ..)
    rw [sizes_one, depths_one, show endP o none (3 - none) [k] = if eqI k.op (3 - none) then bare (3 - none) [] else k from rfl]
    split
    · exact ⟨a, by omega, by omega⟩
    · exact ⟨hk, by omega, by omega⟩
  | x :: y :: l, h => by
    obtain ⟨a, b, c⟩ := bare_fits (o := 3 - none) (by omega)
    show fitsP (if _ then _ else _) = true ∧ Pred.size (if _ then _ else _) ≤ _ ∧ Pred.depth (if _ then _ else _) ≤ _
    split
    · exact ⟨a, by omega, by omega⟩
    · exact ⟨by rw [mk_fits, part_89 ho, h]; rfl, by rw [mk_size]; omega, by rw [mk_depth]; omega⟩
theorem plain_list_nice {o none : Int} (ho : o = 8 ∨ o = 9) (hn : none = 1 ∨ none = 2) {l : List Pred} (h : fitsL l = true) : fitsP (endP o none (3 - none) ((flatP o l).foldl (addP none) [])) = true ∧ (endP o none (3 - none) ((flatP o l).foldl (addP none) [])).size ≤ sizes l + 1 ∧ (endP o none (3 - none) ((flatP o l).foldl (addP none) [])).depth ≤ depths l + 1 := by
  obtain ⟨f1, f2, f3⟩ := flat_nice o h
  have g := fold_nice (none := none) (l := flatP o l) (acc := [])
  rw [sizes_nil, depths_nil] at g
  obtain ⟨e1, e2, e3⟩ := end_nice ho hn (F := (flatP o l).foldl (addP none) []) (fitsL_of fun k hk => by
    rcases fold_in hk with h | h
    · cases h
    · exact fitsL_mem f1 h)
  exact ⟨e1, by omega, by omega⟩
theorem part_leaf {o : Int} {t : ByteArray} {n : Int} {x y : Nat} {ks : List Pred} (h : partB o t n x y ks = true) (h8 : o ≠ 8) (h9 : o ≠ 9) (h10 : o ≠ 10) : ks = [] := by
  have key : eqI (lenL (rows ks)) 0 = true := by
    unfold partB at h
    rcases r10 o with rfl | rfl | rfl | rfl | rfl | rfl | rfl | rfl | rfl | rfl | ⟨n1, n2, n3, n4, n5, n6, n7, n8, n9, n10⟩
    rotate_right
    · simp [*] at h
    all_goals first | contradiction | (simp at h; simp [h])
  rw [eqI_t, len_rows] at key
  exact List.eq_nil_of_length_eq_zero (by omega)
theorem notV_one (k : Pred) : notV [k] = if eqI k.op 1 then bare 2 [] else if eqI k.op 2 then bare 1 [] else if eqI k.op 10 then (match k.kids with | [] => bare 10 [k] | m :: _ => m) else bare 10 [k] := rfl
theorem notR_one (p k : Pred) : notR p [k] = if eqI k.op 1 || eqI k.op 2 then bare (3 - k.op) [] else if eqI k.op 10 then (match k.kids with | [] => bare 10 [] | m :: _ => m) else .mk p.op p.text p.n p.re p.im [k] := rfl
mutual
theorem plain_nice : ∀ {p : Pred}, fitsP p = true → fitsP (plainP p) = true ∧ (plainP p).size ≤ p.size ∧ (plainP p).depth ≤ p.depth
  | .mk o t n x y ks, h => by
    have hk := fits_kids h
    obtain ⟨l1, l2, l3⟩ := plainL_nice (l := ks) hk
    rw [plainP, mk_size, mk_depth]
    by_cases h9 : o = 9
    · rw [if_pos (eqI_t.2 h9)]
      have := plain_list_nice (o := 9) (none := 2) (.inr rfl) (.inr rfl) l1
      rw [show (3 : Int) - 2 = 1 by rfl] at this
      exact ⟨this.1, by omega, by omega⟩
    · rw [if_neg (by rw [eqI_f.2 h9]; simp)]
      by_cases h8 : o = 8
      · rw [if_pos (eqI_t.2 h8)]
        have := plain_list_nice (o := 8) (none := 1) (.inl rfl) (.inl rfl) l1
        rw [show (3 : Int) - 1 = 2 by rfl] at this
        exact ⟨this.1, by omega, by omega⟩
      · rw [if_neg (by rw [eqI_f.2 h8]; simp)]
        by_cases h10 : o = 10
        · rw [if_pos (eqI_t.2 h10)]
          obtain ⟨m, hm⟩ := fits_ten h h10
          have hm : ks = [m] := hm
          subst hm
          rw [plainL, plainL] at l1 l2 l3 ⊢
          have f1 := fitsL_mem l1 (List.mem_cons_self ..)
          rw [sizes_one, sizes_one] at l2
          rw [depths_one, depths_one] at l3
          rw [sizes_one, depths_one]
          generalize plainP m = k at *
          obtain ⟨a1, b1, c1⟩ := bare_fits (o := 1) (.inl rfl)
          obtain ⟨a2, b2, c2⟩ := bare_fits (o := 2) (.inr rfl)
          rw [notV_one]
          split
          · exact ⟨a2, by omega, by omega⟩
          · split
            · exact ⟨a1, by omega, by omega⟩
            · split
              · next hx =>
                obtain ⟨z, hz⟩ := fits_ten f1 (eqI_t.1 hx)
                have s1 := size_eq k
                have d1 := depth_eq k
                have fz := fits_kids f1
                rw [hz] at s1 d1 fz ⊢
                rw [sizes_one] at s1
                rw [depths_one] at d1
                exact ⟨fitsL_mem fz (List.mem_cons_self ..), by show z.size ≤ _; omega, by show z.depth ≤ _; omega⟩
              · exact ⟨by rw [mk_fits, part_ten, fitsL_of (l := [k]) (fun x hx => by rw [List.mem_singleton.1 hx]; exact f1)]; rfl, by rw [mk_size, sizes_one]; omega, by rw [mk_depth, depths_one]; omega⟩
        · rw [if_neg (by rw [eqI_f.2 h10]; simp)]
          have hp : partB o t n x y ks = true := by rw [mk_fits, Bool.and_eq_true] at h; exact h.1
          have := part_leaf hp h8 h9 h10
          subst this
          exact ⟨h, by rw [mk_size]; exact Nat.le_refl _, by rw [mk_depth]; exact Nat.le_refl _⟩
theorem plainL_nice : ∀ {l : List Pred}, fitsL l = true → fitsL (plainL l) = true ∧ sizes (plainL l) ≤ sizes l ∧ depths (plainL l) ≤ depths l
  | [], h => by rw [plainL]; exact ⟨h, Nat.le_refl _, Nat.le_refl _⟩
  | k :: l, h => by
    obtain ⟨a1, a2, a3⟩ := plain_nice (p := k) (fitsL_mem h (List.mem_cons_self ..))
    obtain ⟨b1, b2, b3⟩ := plainL_nice (l := l) (fitsL_of fun x hx => fitsL_mem h (List.mem_cons_of_mem _ hx))
    rw [plainL, sizes_cons, depths_cons, sizes_cons, depths_cons]
    exact ⟨fitsL_of fun x hx => by
      rcases List.mem_cons.1 hx with rfl | hx
      · exact a1
      · exact fitsL_mem b1 hx, by omega, by omega⟩
end
theorem part_plainly {o : Int} {t : ByteArray} {n : Int} {x y : Nat} {ks : List Pred} (h : partB o t n x y ks = true) (ho : o = 8 ∨ o = 9 ∨ o = 10) : Plainly (.mk o t n x y []) := by
  have key : eqS t ⟨#[]⟩ = true ∧ eqI n 0 = true ∧ eqFl .f64 x 0 = true ∧ eqFl .f64 y 0 = true := by
    unfold partB at h
    rcases ho with rfl | rfl | rfl <;> (simp at h; simp [h])
  exact ⟨(eqS_iff _ _).1 key.1, eqI_t.1 key.2.1, key.2.2.1, key.2.2.2⟩
theorem fits_self_leaf {o : Int} {t : ByteArray} {n : Int} {x y : Nat} {ks : List Pred} (h : partB o t n x y ks = true) : sameP (.mk o t n x y []) (.mk o t n x y []) = true := by
  have := part_self h
  rw [Bool.and_eq_true] at this
  exact (sameP_iff _ _).2 ⟨rfl, rfl, rfl, this, sameL_nil⟩
theorem list_same {p : Pred} (hp : Plainly p) (hps : sameP p p = true) {none : Int} (hn : none = 1 ∨ none = 2) {l m : List Pred} (hs : sameL l m = true) (hf : fitsL l = true) : sameP (endP p.op none (3 - none) ((flatP p.op l).foldl (addP none) [])) (endR p none (keepR none [] (flatP p.op m) [])) = true := by
  have f1 := (flat_nice p.op hf).1
  refine sameP_trans (end_same hp hn fun k hk => sameP_refl (fitsL_mem f1 hk)) ?_
  rcases keepR_same (none := none) (flatP_same (o := p.op) hs) sameL_nil sameL_nil with ⟨e1, e2⟩ | ⟨a, b, e1, e2, e3⟩
  · rw [e1, e2]; exact bare_self _
  · rw [e1, e2]; exact end_keep e3 hps
mutual
theorem plain_same : ∀ {p : Pred}, fitsP p = true → sameP (plainP p) (rplainP p) = true
  | .mk o t n x y ks, h => by
    have hk := fits_kids h
    obtain ⟨l1, l2, l3⟩ := plainL_nice (l := ks) hk
    have ls := plainL_same (l := ks) hk
    have hp : partB o t n x y ks = true := by rw [mk_fits, Bool.and_eq_true] at h; exact h.1
    have hself := fits_self_leaf hp
    rw [plainP, rplainP]
    by_cases h9 : o = 9
    · subst h9
      rw [if_pos (eqI_t.2 rfl), if_neg (by decide), if_pos (eqI_t.2 rfl)]
      exact list_same (part_plainly hp (.inr (.inl rfl))) hself (.inr rfl) ls l1
    · rw [if_neg (by rw [eqI_f.2 h9]; simp)]
      by_cases h8 : o = 8
      · subst h8
        rw [if_pos (eqI_t.2 rfl), if_neg (by decide), if_neg (by decide), if_pos (eqI_t.2 rfl)]
        exact list_same (part_plainly hp (.inl rfl)) hself (.inl rfl) ls l1
      · rw [if_neg (by rw [eqI_f.2 h8]; simp)]
        by_cases h10 : o = 10
        · subst h10
          rw [if_pos (eqI_t.2 rfl), if_pos (eqI_t.2 rfl)]
          obtain ⟨m, hm⟩ := fits_ten h rfl
          have hm : ks = [m] := hm
          subst hm
          rw [plainL, plainL] at l1 ls ⊢
          rw [rplainL, rplainL] at ls ⊢
          rw [sameL_cons, sameL_nil, Bool.and_true] at ls
          have f1 := fitsL_mem l1 (List.mem_cons_self ..)
          generalize plainP m = k at *
          generalize rplainP m = k' at *
          have ho := sameP_op ls
          rw [notV_one, notR_one, ← ho]
          by_cases o1 : k.op = 1
          · rw [if_pos (eqI_t.2 o1), if_pos (by rw [o1]; rfl), o1]
            exact bare_self _
          · rw [if_neg (by rw [eqI_f.2 o1]; simp)]
            by_cases o2 : k.op = 2
            · rw [if_pos (eqI_t.2 o2), if_pos (by rw [o2]; rfl), o2]
              exact bare_self _
            · rw [if_neg (show ¬ eqI k.op 2 = true by rw [eqI_f.2 o2]; simp), if_neg (show ¬ (eqI k.op 1 || eqI k.op 2) = true by rw [eqI_f.2 o1, eqI_f.2 o2]; simp)]
              by_cases o10 : k.op = 10
              · rw [if_pos (eqI_t.2 o10), if_pos (eqI_t.2 o10)]
                obtain ⟨z, hz⟩ := fits_ten f1 o10
                have hkk := sameP_kids ls
                rw [hz] at hkk ⊢
                match hk2 : k'.kids, hkk with
                | [], hkk => rw [sameL_no1] at hkk; cases hkk
                | z' :: _, hkk => rw [sameL_cons, Bool.and_eq_true] at hkk; exact hkk.1
              · have hx : ¬ eqI k.op 10 = true := by rw [eqI_f.2 o10]; simp
                rw [if_neg hx, if_neg hx]
                exact plainly_same (part_plainly hp (.inr (.inr rfl))) (by rw [sameL_cons, ls, sameL_nil]; rfl)
        · rw [if_neg (by rw [eqI_f.2 h10]; simp), if_neg (by rw [eqI_f.2 h10]; simp), if_neg (by rw [eqI_f.2 h9]; simp), if_neg (by rw [eqI_f.2 h8]; simp)]
          exact hself
theorem plainL_same : ∀ {l : List Pred}, fitsL l = true → sameL (plainL l) (rplainL l) = true
  | [], h => by rw [plainL, rplainL]; exact sameL_nil
  | k :: l, h => by
    rw [plainL, rplainL, sameL_cons, plain_same (p := k) (fitsL_mem h (List.mem_cons_self ..)), plainL_same (l := l) (fitsL_of fun x hx => fitsL_mem h (List.mem_cons_of_mem _ hx))]; rfl
end
theorem flatP_app (o : Int) : ∀ (l m : List Pred), flatP o (l ++ m) = flatP o l ++ flatP o m
  | [], m => rfl
  | a :: l, m => by rw [List.cons_append, flatP, flatP, flatP_app o l m, List.append_assoc]
theorem fold_flat {none o : Int} {l : List Pred} {j : Nat} (h : j < l.length) : (flatP o (l.take (j + 1))).foldl (addP none) [] = (if eqI l[j].op o then l[j].kids else [l[j]]).foldl (addP none) ((flatP o (l.take j)).foldl (addP none) []) := by
  rw [List.take_succ_eq_append_getElem h, flatP_app, List.foldl_append]
  congr 1
  rw [flatP, flatP, List.append_nil]
theorem fold_one {none : Int} {l acc : List Pred} {i : Nat} (h : i < l.length) : (l.take (i + 1)).foldl (addP none) acc = addP none ((l.take i).foldl (addP none) acc) l[i] := by
  rw [List.take_succ_eq_append_getElem h, List.foldl_append, List.foldl_cons, List.foldl_nil]
theorem end_whole {o none whole : Int} : ∀ {F : List Pred}, (F.any fun k => eqI k.op whole) = true → endP o none whole F = bare whole []
  | [], h => by cases h
  | [k], h => by
    have h' : (eqI k.op whole || false) = true := h
    rw [Bool.or_false] at h'
    rw [show endP o none whole [k] = if eqI k.op whole then bare whole [] else k from rfl, if_pos h']
  | x :: y :: l, h => by
    show (if _ then _ else _) = _
    rw [if_pos h]
theorem end_none {o none whole : Int} {F : List Pred} (h : F.length = 0) : endP o none whole F = bare none [] := by
  rw [List.eq_nil_of_length_eq_zero h]; rfl
theorem end_one {o none whole : Int} : ∀ {F : List Pred} (hl : F.length = 1), (F.any fun k => eqI k.op whole) = false → endP o none whole F = F[0]
  | [k], _, h => by
    have h' : (eqI k.op whole || false) = false := h
    rw [Bool.or_false] at h'
    rw [show endP o none whole [k] = if eqI k.op whole then bare whole [] else k from rfl, if_neg (by rw [h']; simp)]; rfl
theorem end_many {o none whole : Int} : ∀ {F : List Pred}, 1 < F.length → (F.any fun k => eqI k.op whole) = false → endP o none whole F = bare o F
  | [k], hl, _ => by simp at hl
  | [], hl, _ => by simp at hl
  | x :: y :: l, _, h => by
    show (if _ then _ else _) = _
    rw [if_neg (by rw [h]; simp)]
theorem part_within {o : Int} {t : ByteArray} {n : Int} {x y : Nat} {ks : List Pred} (h : partB o t n x y ks = true) : (1 ≤ o ∧ o ≤ 10) ∧ t.size ≤ 8 ∧ (-8000000 ≤ n ∧ n ≤ 8000000) := by
  have key : (eqS t ⟨#[]⟩ = true ∨ lettersB t 0 = true) ∧ (eqI n 0 = true ∨ (leI (-1000000) n = true ∧ leI n 1000000 = true) ∨ (leI 0 n = true ∧ leI n 8000000 = true)) ∧ (1 ≤ o ∧ o ≤ 10) := by
    unfold partB nearP at h
    rcases r10 o with rfl | rfl | rfl | rfl | rfl | rfl | rfl | rfl | rfl | rfl | ⟨n1, n2, n3, n4, n5, n6, n7, n8, n9, n10⟩
    rotate_right
    · simp [*] at h
    all_goals
      simp at h
      simp [h]
  obtain ⟨h1, h2, h3⟩ := key
  refine ⟨h3, ?_, ?_⟩
  · rcases h1 with h1 | h1
    · rw [eqS_nil] at h1
      have := of_decide_eq_true h1
      omega
    · unfold lettersB at h1
      simp only [Bool.and_eq_true, Bool.not_eq_true', ltI_f, lenS_def] at h1
      omega
  · rcases h2 with h2 | ⟨h2, h4⟩ | ⟨h2, h4⟩
    · rw [eqI_t] at h2; omega
    · rw [leI_t] at h2 h4; omega
    · rw [leI_t] at h2 h4; omega
mutual
theorem ok_of_fits : ∀ {p : Pred}, fitsP p = true → p.size ≤ 1000 → p.Ok
  | .mk o t n x y ks, h, hs => by
    have hp : partB o t n x y ks = true := by rw [mk_fits, Bool.and_eq_true] at h; exact h.1
    obtain ⟨h1, h2, h3⟩ := part_within hp
    rw [mk_size] at hs
    have := len_sizes ks
    rw [Pred.Ok]
    exact ⟨by omega, by omega, by omega, by omega, oks_of_fits (l := ks) (fits_kids h) (by omega)⟩
theorem oks_of_fits : ∀ {l : List Pred}, fitsL l = true → sizes l ≤ 1000 → Pred.Oks l
  | [], _, _ => by rw [Pred.Oks]; trivial
  | k :: l, h, hs => by
    rw [sizes_cons] at hs
    rw [Pred.Oks]
    exact ⟨ok_of_fits (p := k) (fitsL_mem h (List.mem_cons_self ..)) (by omega), oks_of_fits (l := l) (fitsL_of fun x hx => fitsL_mem h (List.mem_cons_of_mem _ hx)) (by omega)⟩
end
end Go.Proofs.Ytijkfjahgijphaa
