/- slices.Insert at items, told of slices as lists: its contract. -/
import Derived.Test.YtijkfjahgijphaaKIns
set_option linter.unusedVariables false
set_option linter.unusedSimpArgs false
set_option maxRecDepth 100000
set_option maxHeartbeats 4000000
namespace Go.Proofs.Ytijkfjahgijphaa.E
open Go Go.Lib Go.RowKit
noncomputable section
open Classical
theorem fin_own {w w' : World} {S : Zone} {inj : Nat → Loc} {σ : List Blk} {n k : Nat} {l : List (List PC)} {ad : Option Addr} {m c : Nat} {g : Option Nat} (hI : Inv w S inj (look σ)) (hn : σ.length = n) (hfree : ∀ b, n ≤ b → inj b = .free)
    (hG : Grow w S w' S) (hR : RowOk w' S k l (.slice ad m c) g) : ∃ inj', Done w S inj n (.one (.own n)) (List.replicate n .dead ++ [.rows k l]) (.slice ad m c) w' S inj' := by
  refine ⟨fun b => if b = n then .row (.slice ad m c) g else if inj b = .free then .free else .dead, hG, fun b => ?_, fun b hb hc => ?_, .ofc (.own (.inr ⟨g, ?_⟩)), fun b => ?_, fun b b' g' hb hb' h1 h2 => ?_, fun g' hg' => Nat.lt_of_lt_of_le (hI.lt g' hg') hG.size, hI.dj⟩
  · by_cases hf : inj b = .free
    · exact .inl hf
    · refine .inr (.inr ?_)
      have : b ≠ n := by rintro rfl; exact hf (hfree b (Nat.le_refl _))
      simp [this, hf]
  · have : b ≠ n := by rintro rfl; simp only [List.length_append, List.length_replicate, List.length_singleton] at hc; omega
    simp [this, hb]
  · simp [Loc.val]
  · by_cases hb : b = n
    · subst hb
      have : look (List.replicate b .dead ++ [.rows k l]) b = .rows k l := by rw [look_eq]; simp [List.getD_eq_getElem?_getD]
      rw [this]
      exact ⟨_, _, by simp, hR⟩
    · have : look (List.replicate n .dead ++ [.rows k l]) b = .dead := by
        rw [look_eq, List.getD_eq_getElem?_getD]
        by_cases h : b < n
        · rw [List.getElem?_append_left (by simpa using h)]; simp [h]
        · rw [List.getElem?_append_right (by simp; omega)]
          rw [List.getElem?_eq_none (by simp; omega)]; rfl
      rw [this]; trivial
  · have key : ∀ b, look (List.replicate n .dead ++ [.rows k l]) b ≠ .dead → b = n := fun b hb => Classical.byContradiction fun h => hb (by
        rw [look_eq, List.getD_eq_getElem?_getD]
        by_cases h' : b < n
        · rw [List.getElem?_append_left (by simpa using h')]; simp [h']
        · rw [List.getElem?_append_right (by simp; omega)]
          rw [List.getElem?_eq_none (by simp; omega)]; rfl)
    rw [key b hb, key b' hb']
end
end Go.Proofs.Ytijkfjahgijphaa.E
