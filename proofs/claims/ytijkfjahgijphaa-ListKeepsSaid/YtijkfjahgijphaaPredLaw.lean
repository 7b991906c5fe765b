/- The statements of layer 3, walked. -/
import Derived.Test.YtijkfjahgijphaaPred2
set_option linter.unusedVariables false
set_option linter.unusedSimpArgs false
set_option maxRecDepth 100000
set_option maxHeartbeats 4000000
namespace Go.Proofs.Ytijkfjahgijphaa
open Go E Pred
theorem brec_self3 (b : Bool) : (@Bool.rec (fun _ => Bool) (!b) b b) = true := by cases b <;> rfl
theorem rows_nil : rows [] = [] := by rw [rows_eq]; rfl
theorem rows_one (p : Pred) : rows [p] = [[ip p.op, .v (.string p.text), ip p.n, .v (.complex .f64 p.re p.im), .sl (rows p.kids)]] := by rw [rows_eq]; simp only [List.map_cons, List.map_nil, row_eq]
theorem rows_two (p q : Pred) : rows [p, q] = [[ip p.op, .v (.string p.text), ip p.n, .v (.complex .f64 p.re p.im), .sl (rows p.kids)], [ip q.op, .v (.string q.text), ip q.n, .v (.complex .f64 q.re q.im), .sl (rows q.kids)]] := by rw [rows_eq]; simp only [List.map_cons, List.map_nil, row_eq]
/-- a filter's cells, its list of kids as it stands -/
abbrev pagg (o : Int) (t : ByteArray) (n : Int) (x y : Nat) (r : List (List PC)) : A := .agg [ic o, .p (.v (.string t)), ic n, .p (.v (.complex .f64 x y)), .p (.sl r)]
section
variable {X : Task → Prop} (hX : Closed X) {o : Int} {t : ByteArray} {n : Int} {x y : Nat} {r : List (List PC)} {Q : A → List Blk → Prop}
include hX
theorem may_as {ks : List Pred} (hr : rows ks = r) (ok : (Pred.mk o t n x y ks).Ok) {b : Bool} (hb : mayP (.mk o t n x y ks) = b) (hQ : Q (bv b) []) : X (.call 39 [pagg o t n x y r] [] Q) := by
  subst hr; subst hb; exact may_pred_ok hX (p := .mk o t n x y ks) ok hQ
theorem size_as {ks : List Pred} (hr : rows ks = r) {b : Nat} (h : b ≤ 1000) (hb : (Pred.mk o t n x y ks).size = b) (hQ : Q (iv (b : Int)) []) : X (.call 40 [pagg o t n x y r] [] Q) := by
  subst hr; subst hb; exact psize_ok hX _ (p := .mk o t n x y ks) (Nat.le_refl _) h hQ
theorem depth_as {ks : List Pred} (hr : rows ks = r) {b : Nat} (h : (Pred.mk o t n x y ks).size ≤ 1000) (hb : (Pred.mk o t n x y ks).depth = b) (hQ : Q (iv (b : Int)) []) : X (.call 41 [pagg o t n x y r] [] Q) := by
  subst hr; subst hb; exact pdepth_ok hX _ (p := .mk o t n x y ks) (Nat.le_refl _) h hQ
theorem same_as {p : Pred} {ks : List Pred} (hr : rows ks = r) (ok : p.Ok) {b : Bool} (hb : sameP p (.mk o t n x y ks) = b) (hQ : Q (bv b) []) : X (.call 42 [p.a, pagg o t n x y r] [] Q) := by
  subst hr; subst hb; exact psame_ok hX _ (p := p) (q := .mk o t n x y ks) (Nat.le_refl _) ok hQ
end
theorem leaf_ok (o : Int) (h : -10 ≤ o ∧ o ≤ 10) : (Pred.mk o ⟨#[]⟩ 0 0 0 []).Ok := by
  unfold Pred.Ok Pred.Oks; exact ⟨by omega, by decide, by decide, by decide, trivial⟩
theorem mk_size (o : Int) (t : ByteArray) (n : Int) (x y : Nat) (ks : List Pred) : (Pred.mk o t n x y ks).size = sizes ks + 1 := size_eq _
theorem mk_depth (o : Int) (t : ByteArray) (n : Int) (x y : Nat) (ks : List Pred) : (Pred.mk o t n x y ks).depth = depths ks + 1 := depth_eq _
theorem mk_fits (o : Int) (t : ByteArray) (n : Int) (x y : Nat) (ks : List Pred) : fitsP (Pred.mk o t n x y ks) = (partB o t n x y ks && fitsL ks) := fitsP_eq _
theorem part_one {o : Int} (h : o = 1 ∨ o = 2) : partB o ⟨#[]⟩ 0 0 0 [] = true := by
  unfold partB
  have e1 : eqS ⟨#[]⟩ ⟨#[]⟩ = true := eqS_refl _
  have e2 : (eqFl .f64 0 0) = true := by kernel_rfl
  rw [if_pos h, e1, e2, len_rows]; rfl
theorem part_ten (a : Pred) : partB 10 ⟨#[]⟩ 0 0 0 [a] = true := by
  unfold partB
  have e1 : eqS ⟨#[]⟩ ⟨#[]⟩ = true := eqS_refl _
  have e2 : (eqFl .f64 0 0) = true := by kernel_rfl
  simp [e1, e2, len_rows]; simp [eqI]
theorem part_89 {o : Int} (h : o = 8 ∨ o = 9) (ks : List Pred) : partB o ⟨#[]⟩ 0 0 0 ks = true := by
  unfold partB
  have e1 : eqS ⟨#[]⟩ ⟨#[]⟩ = true := eqS_refl _
  have e2 : (eqFl .f64 0 0) = true := by kernel_rfl
  rcases h with rfl | rfl <;> simp [e1, e2, eqI]
theorem may_star : mayP (.mk 1 ⟨#[]⟩ 0 0 0 []) = true := by
  unfold mayP; rw [mk_size, mk_depth, mk_fits, part_one (.inl rfl), sizes_nil, depths_nil, fitsL_nil]; rfl
theorem may_none : mayP (.mk 2 ⟨#[]⟩ 0 0 0 []) = true := by
  unfold mayP; rw [mk_size, mk_depth, mk_fits, part_one (.inr rfl), sizes_nil, depths_nil, fitsL_nil]; rfl
theorem may_not0 : mayP (.mk 10 ⟨#[]⟩ 0 0 0 []) = false := by
  have : partB 10 ⟨#[]⟩ 0 0 0 [] = false := by
    unfold partB; simp [len_rows, eqI]
  unfold mayP; rw [mk_fits, this]; simp
theorem sameL_size : ∀ (N : Nat) {l m : List Pred}, sizes l ≤ N → sameL l m = true → sizes l = sizes m
  | _, [], [], _, _ => rfl
  | 0, k :: ks, _, h, _ => absurd h (by rw [Pred.sizes]; have := size_pos k; omega)
  | N + 1, k :: ks, m :: ms, h, hs => by
    rw [Pred.sizes] at h ⊢
    rw [Pred.sizes]
    rw [sameL, Bool.and_eq_true] at hs
    have hk := size_pos k
    have h1 : k.size = m.size := by
      have h2 := hs.1
      rw [sameP_eq] at h2
      simp only [Bool.and_eq_true] at h2
      have := sameL_size N (l := k.kids) (m := m.kids) (by have := size_eq k; omega) h2.2.2.2.2
      rw [size_eq k, size_eq m, this]
    have h2 := sameL_size N (l := ks) (m := ms) (by omega) hs.2
    omega
  | N + 1, [], _ :: _, _, hs => by rw [sameL] at hs; cases hs
  | N + 1, _ :: _, [], _, hs => by rw [sameL] at hs; cases hs
  | 0, [], _ :: _, _, hs => by rw [sameL] at hs; cases hs
theorem sameP_size {p q : Pred} (h : sameP p q = true) : p.size = q.size := by
  rw [sameP_eq] at h
  simp only [Bool.and_eq_true] at h
  rw [size_eq p, size_eq q, sameL_size _ (Nat.le_refl _) h.2.2.2.2]
theorem eqFl_self {x y : Nat} (h : eqFl .f64 x y = true) : eqFl .f64 x x = true := by
  have h' : (Ieee.Datum.order (Ieee.double.read x) (Ieee.double.read y) == some .eq) = true := h
  show (Ieee.Datum.order (Ieee.double.read x) (Ieee.double.read x) == some .eq) = true
  cases hx : Ieee.double.read x with
  | nan s f => rw [hx] at h'; cases h'
  | infinity s => cases s <;> rfl
  | number s m i => rw [order_num]; simp
theorem part_self {o : Int} {t : ByteArray} {n : Int} {x y : Nat} {ks : List Pred} (h : partB o t n x y ks = true) : (eqFl .f64 x x && eqFl .f64 y y) = true := by
  have key : (eqFl .f64 x 0 && eqFl .f64 y 0) = true ∨ placeB x y = true := by
    unfold partB nearP at h
    rcases r10 o with rfl | rfl | rfl | rfl | rfl | rfl | rfl | rfl | rfl | rfl | ⟨n1, n2, n3, n4, n5, n6, n7, n8, n9, n10⟩
    rotate_right
    · simp [*] at h
    all_goals
      simp at h
      simp [h]
  rcases key with h | h
  · rw [Bool.and_eq_true] at h ⊢
    exact ⟨eqFl_self h.1, eqFl_self h.2⟩
  · obtain ⟨⟨w1, _⟩, ⟨w2, _⟩⟩ := placeB_ok h
    rw [w1.self, w2.self]; rfl
theorem sameL_refl : ∀ (N : Nat) {l : List Pred}, sizes l ≤ N → fitsL l = true → sameL l l = true
  | _, [], _, _ => by rw [sameL]
  | 0, k :: ks, h, _ => absurd h (by rw [Pred.sizes]; have := size_pos k; omega)
  | N + 1, k :: ks, h, hs => by
    rw [Pred.sizes] at h
    rw [fitsL, Bool.and_eq_true] at hs
    have hk := size_eq k
    have hf := hs.1
    rw [fitsP_eq, Bool.and_eq_true] at hf
    have h1 := sameL_refl N (l := k.kids) (by omega) hf.2
    have h2 := sameL_refl N (l := ks) (by omega) hs.2
    rw [sameL, h2, sameP_eq, h1, part_self hf.1, eqS_refl]
    simp [eqI]
theorem sameP_refl {p : Pred} (h : fitsP p = true) : sameP p p = true := by
  rw [fitsP_eq, Bool.and_eq_true] at h
  rw [sameP_eq, sameL_refl _ (Nat.le_refl _) h.2, part_self h.1, eqS_refl]
  simp [eqI]
theorem mayP_iff {p : Pred} : mayP p = true ↔ p.size ≤ 30 ∧ p.depth ≤ 6 ∧ fitsP p = true := by
  unfold mayP; simp only [Bool.and_eq_true, decide_eq_true_eq]
theorem mayP_kid {p : Pred} (h : mayP p = true) {k : Pred} (hk : k ∈ p.kids) : mayP k = true := by
  rw [mayP_iff] at h ⊢
  obtain ⟨h1, h2, h3⟩ := h
  rw [fitsP_eq, Bool.and_eq_true] at h3
  have := size_mem hk
  have := depth_mem hk
  have := size_eq p
  have := depth_eq p
  exact ⟨by omega, by omega, fitsL_mem h3.2 hk⟩
theorem not_ok {p : Pred} (ok : p.Ok) : (Pred.mk 10 ⟨#[]⟩ 0 0 0 [p]).Ok := by
  unfold Pred.Ok; exact ⟨by omega, by decide, by decide, by simp, Oks_of fun k hk => by rw [List.mem_singleton.1 hk]; exact ok⟩
theorem two_ok {o : Int} (h : -10 ≤ o ∧ o ≤ 10) {p q : Pred} (op : p.Ok) (oq : q.Ok) : (Pred.mk o ⟨#[]⟩ 0 0 0 [p, q]).Ok := by
  unfold Pred.Ok; exact ⟨by omega, by decide, by decide, by simp, Oks_of fun k hk => by
    rcases List.mem_cons.1 hk with rfl | hk
    · exact op
    · rw [List.mem_singleton.1 hk]; exact oq⟩
theorem not_may {p : Pred} (h : mayP p = true) : mayP (Pred.mk 10 ⟨#[]⟩ 0 0 0 [p]) = (decide (p.size < 30) && decide (p.depth < 6)) := by
  rw [mayP_iff] at h
  unfold mayP
  rw [mk_size, mk_depth, mk_fits, part_ten, sizes_one, depths_one, show fitsL [p] = true by rw [fitsL, fitsL_nil, h.2.2]; rfl]
  simp only [Bool.and_true]
  congr 1 <;> exact decide_eq_decide.2 (by omega)
theorem two_may {o : Int} (ho : o = 8 ∨ o = 9) {p q : Pred} (hp : mayP p = true) (hq : mayP q = true) : mayP (Pred.mk o ⟨#[]⟩ 0 0 0 [p, q]) = (decide (p.size + q.size < 30) && decide (max p.depth q.depth < 6)) := by
  rw [mayP_iff] at hp hq
  unfold mayP
  rw [mk_size, mk_depth, mk_fits, part_89 ho, show sizes [p, q] = p.size + q.size by rw [Pred.sizes, sizes_one], show depths [p, q] = max p.depth q.depth by rw [Pred.depths, depths_one], show fitsL [p, q] = true by rw [fitsL, fitsL, fitsL_nil, hp.2.2, hq.2.2]; rfl]
  simp only [Bool.and_true]
  congr 1 <;> exact decide_eq_decide.2 (by omega)
theorem sel1 {a b : Bool} (h : a = true) : (@Bool.rec (fun _ => Bool) b (!b) (a && b)) = false := by subst h; cases b <;> rfl
theorem sel2 {a b : Bool} (h : a = false) : (@Bool.rec (fun _ => Bool) false (!false) (a && b)) = false := by subst h; rfl
end Go.Proofs.Ytijkfjahgijphaa
