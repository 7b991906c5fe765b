/- The statements of layer 2, walked. -/
import Derived.Test.YtaiedakbmmgmaaaItem
set_option linter.unusedVariables false
set_option linter.unusedSimpArgs false
set_option maxRecDepth 100000
namespace Go.Proofs.Ytaiedakbmmgmaaa
open Go E
abbrev z0 (n : Int) : Item := ⟨⟨#[]⟩, 0, 0, n, ⟨#[]⟩, 0, 0, 0, false⟩
theorem up2_ok {X : Task → Prop} (hX : Closed X) {Q : A → List Blk → Prop} (hQ : Q (bv true) []) : X (.call 15 [] [] Q) := by
  refine call_intro hX Try.func15 rfl rfl ?_
  have q1 : compareV (z0 3) (z0 2) = 1 := by kernel_rfl
  have q2 : lettersB ⟨#[97]⟩ 1 = true := by kernel_rfl
  have q3 : sameI (z0 0) (z0 0) = true := by kernel_rfl
  repeat' ((conv => whnf); first | exact hQ | refine ⟨by kernel_rfl, ?_⟩ | (refine compare_ok (a := z0 3) (b := z0 2) hX ?_; rw [q1]) | (refine name_ok hX (by decide) ?_; rw [q2]) | (refine same_ok (a := z0 0) (b := z0 0) hX ?_; rw [q3]))
theorem beq_selfB (b : Bool) : boolEq b b = true := by rw [boolEq_eq]; simp
theorem brec_self (b : Bool) : (@Bool.rec (fun _ => Bool) (!b) b b) = true := by cases b <;> rfl
theorem law_itemTells {X : Task → Prop} (hX : Closed X) {s : ByteArray} {a b : Item} (hs : s.size ≤ 9223372036854775807) (oa : a.Ok) (ob : b.Ok) {Q : A → List Blk → Prop} (hQ : Q (bv true) []) : X (.call 3 [sv s, a.la, b.la] [] Q) := by
  refine call_intro hX Try.func3 rfl rfl ?_
  have q1 : eqI (compareV a b) (compareV a b) = true := by simp [eqI]
  repeat' ((conv => whnf); first
    | exact Qb hQ (brec_self _).symm
    | refine ⟨by kernel_rfl, ?_⟩ | refine up2_ok hX ?_ | refine item_ok hX ?_ | refine name_ok hX hs ?_ | refine rname_ok hX hs ?_ | refine may_item_ok hX oa ?_ | refine rmay_item_ok hX oa ?_ | refine compare_ok hX ?_ | refine rcompare_ok hX ?_ | refine same_ok hX ?_ | refine rsame_ok hX ?_
    | refine bct (brec_self _) ?_ | refine bct (by assumption) ?_)
theorem compareV_neg (a b : Item) : compareV b a = - compareV a b := by
  unfold compareV behindB ltI eqI
  rcases tri a.stamp b.stamp with ⟨h1, h2, h3, h4⟩ | h1 | ⟨h1, h2, h3, h4⟩ <;> rcases tri a.vr b.vr with ⟨g1, g2, g3, g4⟩ | g1 | ⟨g1, g2, g3, g4⟩ <;> rcases tri a.vc b.vc with ⟨k1, k2, k3, k4⟩ | k1 | ⟨k1, k2, k3, k4⟩ <;> simp [*]
theorem compareV_cases (a b : Item) : compareV a b = -1 ∨ compareV a b = 0 ∨ compareV a b = 1 := by
  unfold compareV; split
  · simp
  · split <;> simp
theorem compareV_zero (a b : Item) : eqI (compareV a b) 0 = (eqI a.stamp b.stamp && (eqI a.vr b.vr && eqI a.vc b.vc)) := by
  unfold compareV behindB ltI eqI
  rcases tri a.stamp b.stamp with ⟨h1, h2, h3, h4⟩ | h1 | ⟨h1, h2, h3, h4⟩ <;> rcases tri a.vr b.vr with ⟨g1, g2, g3, g4⟩ | g1 | ⟨g1, g2, g3, g4⟩ <;> rcases tri a.vc b.vc with ⟨k1, k2, k3, k4⟩ | k1 | ⟨k1, k2, k3, k4⟩ <;> simp [*]
/-- a lexical order -/
theorem compareV_lex (a b : Item) : (compareV a b = 1 ↔ b.stamp < a.stamp ∨ (a.stamp = b.stamp ∧ (b.vr < a.vr ∨ (a.vr = b.vr ∧ b.vc < a.vc)))) := by
  unfold compareV behindB ltI eqI
  rcases tri a.stamp b.stamp with ⟨h1, h2, h3, h4⟩ | h1 | ⟨h1, h2, h3, h4⟩ <;> rcases tri a.vr b.vr with ⟨g1, g2, g3, g4⟩ | g1 | ⟨g1, g2, g3, g4⟩ <;> rcases tri a.vc b.vc with ⟨k1, k2, k3, k4⟩ | k1 | ⟨k1, k2, k3, k4⟩ <;> simp [*]
theorem compareV_eq0 (a b : Item) : compareV a b = 0 ↔ a.stamp = b.stamp ∧ a.vr = b.vr ∧ a.vc = b.vc := by
  have := compareV_zero a b
  rw [Bool.eq_iff_iff] at this
  simpa [eqI] using this
theorem compareV_trans {a b c : Item} (h1 : 0 ≤ compareV a b) (h2 : 0 ≤ compareV b c) : maxI (compareV a b) (compareV b c) ≤ compareV a c := by
  have l1 := compareV_lex a b
  have l2 := compareV_lex b c
  have l3 := compareV_lex a c
  have z1 := compareV_eq0 a b
  have z2 := compareV_eq0 b c
  have z3 := compareV_eq0 a c
  have c1 := compareV_cases a b
  have c2 := compareV_cases b c
  have c3 := compareV_cases a c
  unfold maxI
  split <;> omega
theorem sameI_refl {a : Item} (h : mayI a = true) : sameI a a = true := by
  unfold mayI at h
  simp only [Bool.and_eq_true] at h
  obtain ⟨_, _, _, hp⟩ := h
  obtain ⟨⟨w1, _⟩, ⟨w2, _⟩⟩ := placeB_ok hp
  unfold sameI
  rw [w1.self, w2.self, eqS_refl, eqS_refl, beq_selfB]
  simp [eqI]
set_option maxHeartbeats 4000000 in
theorem law_itemOrders {X : Task → Prop} (hX : Closed X) {a b c : Item} (oa : a.Ok) (ob : b.Ok) (oc : c.Ok) {Q : A → List Blk → Prop} (hQ : Q (bv true) []) : X (.call 4 [a.la, b.la, c.la] [] Q) := by
  refine call_intro hX Try.func4 rfl rfl ?_
  have c1 := compareV_cases a b
  have q1 : eqI (compareV a b) (wr .i64 (0 - compareV b a)) = true := by rw [compareV_neg a b, wr64 (by omega) (by omega)]; simp [eqI]
  have q2 := compareV_zero a b
  have q4 : ∀ b : Bool, (@Bool.rec (fun _ => Bool) b (!b) b) = false := fun b => by cases b <;> rfl
  have q3 : leI 0 (compareV a b) = true → leI 0 (compareV b c) = true → ltI (compareV a c) (maxI (compareV a b) (compareV b c)) = false := fun h1 h2 => by
    rw [leI_t] at h1 h2; rw [ltI_f]; exact compareV_trans h1 h2
  have q5 : mayI a = true → lettersB a.id 1 = true := fun h => by unfold mayI at h; simp only [Bool.and_eq_true] at h; exact h.1.1
  have q6 : eqI a.stamp b.stamp = true → (@Bool.rec (fun _ => Bool) (andB (eqI a.vr b.vr) (andB (eqI a.vc b.vc) true)) (!(andB (eqI a.vr b.vr) (andB (eqI a.vc b.vc) true))) (eqI (compareV a b) 0)) = false := fun h => by
    rw [q2, h]
    have : (true && (eqI a.vr b.vr && eqI a.vc b.vc)) = andB (eqI a.vr b.vr) (andB (eqI a.vc b.vc) true) := by unfold andB; simp
    rw [this]; exact q4 _
  have q7 : eqI a.stamp b.stamp = false → (@Bool.rec (fun _ => Bool) false (!false) (eqI (compareV a b) 0)) = false := fun h => by
    rw [q2, h]; rfl
  cases hm : mayI a
  all_goals
    repeat' ((conv => whnf); first
      | exact hQ
      | exact Qb hQ (sameI_refl (by assumption)).symm
      | refine ⟨by kernel_rfl, ?_⟩ | refine up2_ok hX ?_ | refine item_ok hX ?_ | refine name_ok hX oa.id ?_ | (refine may_item_ok hX oa ?_; rw [hm]) | refine compare_ok hX ?_ | refine same_ok hX ?_
      | refine bct (by assumption) ?_ | refine bcf (by assumption) ?_ | refine bcf (nt (by assumption)) ?_ | refine bct (nf (by assumption)) ?_
      | refine bcf (q6 (by assumption)) ?_ | refine bcf (q7 (by assumption)) ?_ | refine bcf (q3 (by assumption) (by assumption)) ?_ | refine bct (q5 (by assumption)) ?_
      | refine bc (fun _ => ?_) (fun _ => ?_))
end Go.Proofs.Ytaiedakbmmgmaaa
