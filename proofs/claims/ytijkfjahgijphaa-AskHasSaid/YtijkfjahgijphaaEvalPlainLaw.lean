/- The statement EvalPlain, out of what its code computes. -/
import Derived.Test.YtijkfjahgijphaaL4
import Derived.Test.YtijkfjahgijphaaPlainHas
set_option linter.unusedVariables false
set_option linter.unusedSimpArgs false
set_option maxRecDepth 100000
namespace Go.Proofs.Ytijkfjahgijphaa
open Go E Pred
noncomputable section
open Classical
theorem lsmall_t {p : Pred} (h : p.Ok) (hs : p.size ≤ 60) : law00_Small_s p = some 1 := by unfold law00_Small_s; rw [chk_t (decide_eq_true h), if_pos hs]
theorem lsmall_f {p : Pred} (h : p.Ok) (hs : ¬ p.size ≤ 60) : law00_Small_s p = some 0 := by unfold law00_Small_s; rw [chk_t (decide_eq_true h), if_neg hs]
theorem lpred_s {p : Pred} (h : p.Ok) (hs : p.size ≤ 1000) : law00_Pred_s p = some p := by unfold law00_Pred_s; rw [chk_t (decide_eq_true hs), chk_t (decide_eq_true h)]
theorem may_s {p : Pred} (h : p.Ok) : pred_May_s p = some (mayP p) := by unfold pred_May_s; rw [chk_t (decide_eq_true h)]
theorem size_s {p : Pred} (h : p.size ≤ 1000) : pred_Size_s p = some (p.size : Int) := by unfold pred_Size_s; rw [chk_t (decide_eq_true h)]
theorem depth_s {p : Pred} (h : p.size ≤ 1000) : pred_Depth_s p = some (p.depth : Int) := by unfold pred_Depth_s; rw [chk_t (decide_eq_true h)]
theorem psame_s {p q : Pred} (h : p.Ok) : pred_Same_s p q = some (sameP p q) := by unfold pred_Same_s; rw [chk_t (decide_eq_true h)]
theorem has_s {p : Pred} {x : Item} (h : p.Ok) (hx : x.Ok) : eval_Has_s p x = some (hasP p x) := by unfold eval_Has_s; rw [chk_t (decide_eq_true h), chk_t (decide_eq_true hx)]
theorem plain_s {p : Pred} (h : p.size ≤ 61) (hf : fitsP p = true) : eval_Plain_s p = some (plainP p) := by unfold eval_Plain_s; rw [chk_t (decide_eq_true h), chk_t (decide_eq_true hf)]
theorem notP_ok {p : Pred} (h : p.Ok) : (bare 10 [p]).Ok := by
  rw [Pred.Ok, Pred.Oks, Pred.Oks]
  exact ⟨by decide, by decide, by decide, by simp, h, trivial⟩
theorem evalPlain_s {p : Pred} {x : Item} (op : p.Ok) (ox : x.Ok) : law04_EvalPlain_s p x = some true := by
  unfold law04_EvalPlain_s
  rw [bnd_of (show up4_s = some true from rfl)]
  by_cases hs : p.size ≤ 60
  · rw [bnd_of (lsmall_t op hs), br_f (by rfl), bnd_of (lpred_s op (by omega)), bnd_of (show law00_Item_s x = some x from rfl), bnd_of (may_s op)]
    cases hm : mayP p with
    | false => rfl
    | true =>
      have hm3 := (mayP_iff.1 hm)
      have hf := hm3.2.2
      obtain ⟨n1, n2, n3⟩ := plain_nice hf
      have oq := ok_of_fits n1 (by omega)
      rw [br_f (by rfl), bnd_of (plain_s (by omega) hf), bnd_of (may_s oq), may_plain hm, br_f (by rfl), bnd_of (size_s (by omega)), bnd_of (size_s (by omega)), br_f (by rw [ltI_f]; omega),
        bnd_of (depth_s (by omega)), bnd_of (depth_s (by omega)), br_f (by rw [ltI_f]; omega), bnd_of (plain_s (by omega) n1), plain_twice hf, bnd_of (psame_s oq), plain_self hf, br_f (by rfl), br_t rfl,
        bnd_of (has_s oq ox), plain_has x hf, bnd_of (has_s op ox), beq_self, br_t rfl, bnd_of (has_s (notP_ok op) ox), bnd_of (has_s op ox), has_not (p := bare 10 [p]) (k := p) (ks := []) rfl rfl x]
      cases hasP p x <;> rfl
  · rw [bnd_of (lsmall_f op hs), br_t (by rfl)]
theorem law_evalPlain {X : Task → Prop} (hX : Closed X) {p : Pred} {x : Item} (op : p.Ok) (ox : x.Ok) {Q : A → List Blk → Prop} (hQ : Q (bv true) []) : X (.call 7 [p.la, x.la] [] Q) := law04_EvalPlain_c hX (evalPlain_s op ox) hQ
end
end Go.Proofs.Ytijkfjahgijphaa
