/- The statements of layer 5, walked. -/
import Derived.Test.YtijkfjahgijphaaContain3
set_option linter.unusedVariables false
set_option linter.unusedSimpArgs false
set_option maxRecDepth 100000
set_option maxHeartbeats 4000000
namespace Go.Proofs.Ytijkfjahgijphaa
open Go E Pred
/-! ### how far down is no matter -/
theorem seenF_fuel : ∀ (N M : Nat) {p q : Pred}, p.size + q.size ≤ N → p.size + q.size ≤ M → seenF N p q = seenF M p q
  | 0, _, p, _, h, _ => absurd h (by have := size_pos p; omega)
  | _ + 1, 0, p, _, _, h => absurd h (by have := size_pos p; omega)
  | N + 1, M + 1, p, q, h1, h2 => by
    have hp : ∀ k ∈ p.kids, seenF N k q = seenF M k q := fun k hk => seenF_fuel N M (by have := size_mem hk; have := size_eq p; omega) (by have := size_mem hk; have := size_eq p; omega)
    have hq : ∀ k ∈ q.kids, seenF N p k = seenF M p k := fun k hk => seenF_fuel N M (by have := size_mem hk; have := size_eq q; omega) (by have := size_mem hk; have := size_eq q; omega)
    have hn : notB N p q = notB M p q := by
      unfold notB
      match hk : q.kids, hm : p.kids with
      | [], _ => rfl
      | _ :: _, [] => rfl
      | k :: _, m :: _ =>
        have a1 := size_mem (l := q.kids) (k := k) (by rw [hk]; simp)
        have a2 := size_mem (l := p.kids) (k := m) (by rw [hm]; simp)
        have a3 := size_eq q
        have a4 := size_eq p
        simp only
        rw [seenF_fuel N M (p := k) (q := m) (by omega) (by omega)]
    have ha : ∀ {l : List Pred} {f g : Pred → Bool}, (∀ k ∈ l, f k = g k) → l.all f = l.all g := fun {l f g} h => by
      rw [Bool.eq_iff_iff, List.all_eq_true, List.all_eq_true]
      exact ⟨fun h' k hk => h k hk ▸ h' k hk, fun h' k hk => (h k hk).symm ▸ h' k hk⟩
    have hb : ∀ {l : List Pred} {f g : Pred → Bool}, (∀ k ∈ l, f k = g k) → l.any f = l.any g := fun {l f g} h => by
      rw [Bool.eq_iff_iff, List.any_eq_true, List.any_eq_true]
      exact ⟨fun ⟨k, hk, h'⟩ => ⟨k, hk, h k hk ▸ h'⟩, fun ⟨k, hk, h'⟩ => ⟨k, hk, (h k hk).symm ▸ h'⟩⟩
    rw [seenF_eq, seenF_eq, hn]
    unfold listsB half
    rw [ha hp, hb hp, ha hq, hb hq]
/-! ### what is seen is so -/
theorem eqFl_wh {a b : Nat} {v w : Int} (ha : Wh a v) (hb : Wh b w) (h : eqFl .f64 a b = true) : v = w := by
  obtain ⟨s, m, i, hr, hi, hs⟩ := ha
  have := (eq_wh hr hi hb).1.1 h
  rw [hs] at this
  exact Int.eq_of_mul_eq_mul_right (by have := Nat.two_pow_pos (-i).toNat; omega) this
theorem near_same {a b c d : Nat} {x y : Nat} {n : Int} (h1 : placeB a b = true) (h2 : placeB c d = true) (h3 : (eqFl .f64 a c && eqFl .f64 b d) = true) : nearB x y a b n = nearB x y c d n := by
  rw [Bool.and_eq_true] at h3
  obtain ⟨⟨w1, _⟩, ⟨w2, _⟩⟩ := placeB_ok h1
  obtain ⟨⟨w3, _⟩, ⟨w4, _⟩⟩ := placeB_ok h2
  have e1 := eqFl_wh w1 w3 h3.1
  have e2 := eqFl_wh w2 w4 h3.2
  rw [nearB_eq2, nearB_eq2]
  cases hp : placeB x y with
  | false => rw [far_f1 hp, far_f1 hp]
  | true => rw [far_true hp h1, far_true hp h2, e1, e2]
theorem place_of_fits {p : Pred} (h : fitsP p = true) (ho : p.op = 7) : placeB p.re p.im = true := by
  rw [fitsP_eq, Bool.and_eq_true, ho] at h
  have h1 := h.1
  unfold partB nearP at h1
  simp at h1
  exact h1.2.1.1
theorem eqS_of_eq {s t : ByteArray} (h : eqS s t = true) : s = t := by
  rw [eqS_iff] at h
  unfold bytesOf at h
  exact ByteArray.ext (Array.toList_inj.1 h)
theorem sameL_has : ∀ (N : Nat) {l m : List Pred} {x : Item}, sizes l ≤ N → fitsL l = true → fitsL m = true → sameL l m = true → hasAll l x = hasAll m x ∧ hasAny l x = hasAny m x ∧ hasNot l x = hasNot m x
  | _, [], [], _, _, _, _, _ => ⟨rfl, rfl, rfl⟩
  | _, [], _ :: _, _, _, _, _, h => by rw [sameL] at h; cases h
  | _, _ :: _, [], _, _, _, _, h => by rw [sameL] at h; cases h
  | 0, k :: ks, _ :: _, _, h, _, _, _ => absurd h (by rw [Pred.sizes]; have := size_pos k; omega)
  | N + 1, k :: ks, m :: ms, x, h, f1, f2, hs => by
    rw [Pred.sizes] at h
    rw [fitsL, Bool.and_eq_true] at f1 f2
    rw [sameL, Bool.and_eq_true] at hs
    have g1 := f1.1
    have g2 := f2.1
    rw [fitsP_eq, Bool.and_eq_true] at g1 g2
    have hs1 := hs.1
    rw [sameP_eq] at hs1
    simp only [Bool.and_eq_true] at hs1
    obtain ⟨e1, e2, e3, e4, e5⟩ := hs1
    have hk := size_eq k
    have r1 := sameL_has N (l := k.kids) (m := m.kids) (x := x) (by omega) g1.2 g2.2 e5
    have r2 := sameL_has N (l := ks) (m := ms) (x := x) (by have := size_pos k; omega) f1.2 f2.2 hs.2
    have hkm : hasP k x = hasP m x := by
      rw [hasP_eq, hasP_eq]
      unfold has0
      rw [eqI_t] at e1 e3
      have e2' := eqS_of_eq e2
      rw [r1.1, r1.2.1, r1.2.2, e1, e2', e3]
      by_cases h7 : m.op = 7
      · simp only [h7]
        have := near_same (x := x.re) (y := x.im) (n := m.n) (place_of_fits f1.1 (e1.trans h7)) (place_of_fits f2.1 h7) (by rw [Bool.and_eq_true]; exact e4)
        simp [this]
      · simp only [h7, if_false]
    refine ⟨by rw [hasAll, hasAll, hkm, r2.1], by rw [hasAny, hasAny, hkm, r2.2.1], by rw [hasNot, hasNot, hkm]⟩
theorem sameP_has {p q : Pred} {x : Item} (f1 : fitsP p = true) (f2 : fitsP q = true) (h : sameP p q = true) : hasP p x = hasP q x := by
  have := (sameL_has (p.size) (l := [p]) (m := [q]) (x := x) (by rw [sizes_one]; exact Nat.le_refl _) (by rw [fitsL, fitsL_nil, f1]; rfl) (by rw [fitsL, fitsL_nil, f2]; rfl) (by rw [sameL, h, sameL]; rfl)).2.1
  simpa [hasAny] using this
theorem leaf_has {p q : Pred} {x : Item} (f1 : fitsP p = true) (f2 : fitsP q = true) (h : leafB p q = true) (hp : hasP p x = true) : hasP q x = true := by
  unfold leafB at h
  rw [Bool.and_eq_true, eqI_t] at h
  obtain ⟨ho, h⟩ := h
  rw [hasP_eq] at hp ⊢
  unfold has0 at hp ⊢
  rw [← ho]
  by_cases h5 : p.op = 5
  · simp only [h5] at h hp ⊢
    simp [leI, ltI] at h hp ⊢
    omega
  · by_cases h6 : p.op = 6
    · simp only [h6] at h hp ⊢
      simp [leI, ltI] at h hp ⊢
      omega
    · by_cases h4 : p.op = 4
      · simp only [h4] at h hp ⊢
        simp at h hp ⊢
        unfold prefB at h hp ⊢
        rw [List.isPrefixOf_iff_prefix] at h hp ⊢
        exact h.trans hp
      · by_cases h7 : p.op = 7
        · simp only [h7] at h hp ⊢
          simp only [Int.reduceEq, if_false, if_true, Bool.and_eq_true] at h hp ⊢
          have e := near_same (x := x.re) (y := x.im) (n := p.n) (place_of_fits f1 h7) (place_of_fits f2 (ho ▸ h7)) (by rw [Bool.and_eq_true]; exact h.1)
          rw [e, nearB_eq2, Bool.and_eq_true, leI_t, leI_t] at hp
          have h2 := leI_t.1 h.2
          rw [nearB_eq2, Bool.and_eq_true, leI_t, leI_t]
          omega
        · simp only [h5, h6, h4, h7, if_false] at h
          cases h
theorem seen_has : ∀ (N : Nat) {p q : Pred} {x : Item}, fitsP p = true → fitsP q = true → seenF N p q = true → hasP p x = true → hasP q x = true
  | 0, _, _, _, _, _, h, _ => by cases h
  | N + 1, p, q, x, f1, f2, h, hp => by
    rw [seenF_eq] at h
    simp only [Bool.or_eq_true] at h
    have k1 : ∀ k ∈ p.kids, fitsP k = true := fun k hk => by rw [fitsP_eq, Bool.and_eq_true] at f1; exact fitsL_mem f1.2 hk
    have k2 : ∀ k ∈ q.kids, fitsP k = true := fun k hk => by rw [fitsP_eq, Bool.and_eq_true] at f2; exact fitsL_mem f2.2 hk
    rcases h with ((h | h) | h) | (h | (h | h))
    · rw [eqI_t] at h; rw [hasP_eq]; unfold has0; simp [h]
    · rw [eqI_t] at h; rw [hasP_eq] at hp; unfold has0 at hp; simp [h] at hp
    · rw [← sameP_has f1 f2 h]; exact hp
    · unfold listsB half at h
      simp only [Bool.or_eq_true, Bool.and_eq_true, eqI_t, List.all_eq_true, List.any_eq_true] at h
      rcases h with (⟨ho, h⟩ | ⟨ho, k, hk, h⟩) | (⟨ho, h⟩ | ⟨ho, k, hk, h⟩)
      · rw [hasP_eq] at hp; unfold has0 at hp; simp [ho, hasAny_eq] at hp
        obtain ⟨k, hk, hkx⟩ := hp
        exact seen_has N (k1 k hk) f2 (h k hk) hkx
      · rw [hasP_eq] at hp; unfold has0 at hp; simp [ho, hasAll_eq] at hp
        exact seen_has N (k1 k hk) f2 h (hp k hk)
      · rw [hasP_eq]; unfold has0; simp [ho, hasAll_eq]
        exact fun k hk => seen_has N f1 (k2 k hk) (h k hk) hp
      · rw [hasP_eq]; unfold has0; simp [ho, hasAny_eq]
        exact ⟨k, hk, seen_has N f1 (k2 k hk) h hp⟩
    · exact leaf_has f1 f2 h hp
    · unfold notB at h
      simp only [Bool.and_eq_true, eqI_t] at h
      obtain ⟨o1, o2, h⟩ := h
      obtain ⟨k, hk⟩ := fits_ten f2 o2
      obtain ⟨m, hm⟩ := fits_ten f1 o1
      simp only [hk, hm] at h
      have e1 : hasP p x = !hasP m x := by rw [hasP_eq]; unfold has0; simp [o1, hm, hasNot]
      have e2 : hasP q x = !hasP k x := by rw [hasP_eq]; unfold has0; simp [o2, hk, hasNot]
      rw [e1] at hp
      rw [e2]
      cases hkx : hasP k x with
      | false => rfl
      | true =>
        have := seen_has N (x := x) (k2 k (by rw [hk]; simp)) (k1 m (by rw [hm]; simp)) h hkx
        rw [this] at hp; cases hp
/-! ### the walks -/
def lessP (n : Int) : Pred := .mk 5 ⟨#[]⟩ n 0 0 []
theorem less_ok (n : Int) (h : -10 ≤ n ∧ n ≤ 10) (o : Int) (ho : -10 ≤ o ∧ o ≤ 10) : (Pred.mk o ⟨#[]⟩ n 0 0 []).Ok := by
  unfold Pred.Ok Pred.Oks; exact ⟨by omega, by decide, by omega, by decide, trivial⟩
theorem part_num {o n : Int} (h : o = 5 ∨ o = 6) (hn : -10 ≤ n ∧ n ≤ 10) : partB o ⟨#[]⟩ n 0 0 [] = true := by
  unfold partB
  have e1 : eqS ⟨#[]⟩ ⟨#[]⟩ = true := eqS_refl _
  have e2 : (eqFl .f64 0 0) = true := by kernel_rfl
  have e3 : leI (-1000000) n = true := leI_t.2 (by omega)
  have e4 : leI n 1000000 = true := leI_t.2 (by omega)
  rcases h with rfl | rfl <;> simp [e1, e2, e3, e4, len_rows] <;> rfl
theorem may_num {o n : Int} (h : o = 5 ∨ o = 6) (hn : -10 ≤ n ∧ n ≤ 10) : mayP (.mk o ⟨#[]⟩ n 0 0 []) = true := by
  rw [mayP_iff, mk_size, mk_depth, mk_fits, part_num h hn, sizes_nil, depths_nil, fitsL_nil]; decide
section
variable {X : Task → Prop} (hX : Closed X) {Q : A → List Blk → Prop}
include hX
end
theorem seenF_pos {N : Nat} (h : 0 < N) (p q : Pred) : seenF N p q = (((eqI q.op 1 || eqI p.op 2) || sameP p q) || (listsB (N - 1) p q || (leafB p q || notB (N - 1) p q))) := by
  cases N with
  | zero => cases h
  | succ N => exact seenF_eq N p q
theorem in_less1 : inP (.mk 5 ⟨#[]⟩ 3 0 0 []) (.mk 5 ⟨#[]⟩ 5 0 0 []) = true := by
  unfold inP
  rw [may_num (.inl rfl) (by decide), may_num (.inl rfl) (by decide), seenF_pos (by have := size_pos (Pred.mk 5 ⟨#[]⟩ 3 0 0 []); omega)]
  have : leafB (.mk 5 ⟨#[]⟩ 3 0 0 []) (.mk 5 ⟨#[]⟩ 5 0 0 []) = true := by kernel_rfl
  rw [this]; simp
theorem in_less2 : inP (.mk 5 ⟨#[]⟩ 3 0 0 []) (.mk 6 ⟨#[]⟩ 1 0 0 []) = false := by
  unfold inP
  rw [may_num (.inl rfl) (by decide), may_num (.inr rfl) (by decide), seenF_pos (by have := size_pos (Pred.mk 5 ⟨#[]⟩ 3 0 0 []); omega), sameP_eq]
  rfl
theorem inP_has {p q : Pred} {x : Item} (h : inP p q = true) (hp : hasP p x = true) : hasP q x = true := by
  unfold inP at h
  simp only [Bool.and_eq_true] at h
  exact seen_has _ (mayP_iff.1 h.1).2.2 (mayP_iff.1 h.2.1).2.2 h.2.2 hp
theorem inP_refl {p : Pred} (h : mayP p = true) : inP p p = true := by
  unfold inP
  rw [h, seenF_pos (by have := size_pos p; omega), sameP_refl (mayP_iff.1 h).2.2]; simp
theorem inP_star {p : Pred} (h : mayP p = true) : inP p (.mk 1 ⟨#[]⟩ 0 0 0 []) = true := by
  unfold inP
  rw [h, may_star, seenF_pos (by have := size_pos p; omega)]
  rfl
theorem inP_none {p : Pred} (h : mayP p = true) : inP (.mk 2 ⟨#[]⟩ 0 0 0 []) p = true := by
  unfold inP
  rw [h, may_none, seenF_pos (by have := size_pos p; omega)]
  simp [Pred.op, eqI]
theorem inP_both {p q r : Pred} (h : inP p q = true) (hm : mayP (.mk 8 ⟨#[]⟩ 0 0 0 [p, r]) = true) : inP (.mk 8 ⟨#[]⟩ 0 0 0 [p, r]) q = true := by
  unfold inP at h ⊢
  simp only [Bool.and_eq_true] at h
  obtain ⟨h1, h2, h3⟩ := h
  have hs : (Pred.mk 8 ⟨#[]⟩ 0 0 0 [p, r]).size = p.size + r.size + 1 := by rw [mk_size, Pred.sizes, sizes_one]
  rw [hm, h2, seenF_pos (by omega)]
  have hl : listsB ((Pred.mk 8 ⟨#[]⟩ 0 0 0 [p, r]).size + q.size - 1) (.mk 8 ⟨#[]⟩ 0 0 0 [p, r]) q = true := by
    unfold listsB half
    have e : seenF ((Pred.mk 8 ⟨#[]⟩ 0 0 0 [p, r]).size + q.size - 1) p q = true := by rw [← h3]; exact seenF_fuel _ _ (by omega) (Nat.le_refl _)
    simp only [Pred.op, Pred.kids, List.any_cons, List.all_cons, e]
    simp [eqI]
  rw [hl]; simp
theorem inP_some {p q r : Pred} (h : inP p q = true) (hm : mayP (.mk 9 ⟨#[]⟩ 0 0 0 [r, q]) = true) : inP p (.mk 9 ⟨#[]⟩ 0 0 0 [r, q]) = true := by
  unfold inP at h ⊢
  simp only [Bool.and_eq_true] at h
  obtain ⟨h1, h2, h3⟩ := h
  have hs : (Pred.mk 9 ⟨#[]⟩ 0 0 0 [r, q]).size = r.size + q.size + 1 := by rw [mk_size, Pred.sizes, sizes_one]
  rw [hm, h1, seenF_pos (by omega)]
  have hl : listsB (p.size + (Pred.mk 9 ⟨#[]⟩ 0 0 0 [r, q]).size - 1) p (.mk 9 ⟨#[]⟩ 0 0 0 [r, q]) = true := by
    unfold listsB half
    have e : seenF (p.size + (Pred.mk 9 ⟨#[]⟩ 0 0 0 [r, q]).size - 1) p q = true := by rw [← h3]; exact seenF_fuel _ _ (by omega) (Nat.le_refl _)
    simp only [Pred.op, Pred.kids, List.any_cons, List.all_cons, e]
    simp [eqI]
  rw [hl]; simp
end Go.Proofs.Ytijkfjahgijphaa
