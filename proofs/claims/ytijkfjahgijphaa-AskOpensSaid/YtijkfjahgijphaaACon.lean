/- The contracts that were proved by hand, as decomp.py asks for them. -/
import Derived.Test.YtijkfjahgijphaaATypes
import Derived.Test.YtijkfjahgijphaaAContain3
import Derived.Test.YtijkfjahgijphaaAPlain
set_option linter.unusedVariables false
namespace Go.Proofs.Ytijkfjahgijphaa
open Go E Pred
noncomputable section
open Classical
theorem eq8_b {a b : V8} {v : Bool} (h : eq8 a b = v) : andB (eqI a.x0 b.x0) (andB (eqI a.x1 b.x1) (andB (eqI a.x2 b.x2) (andB (eqI a.x3 b.x3) (andB (eqI a.x4 b.x4) (andB (eqI a.x5 b.x5) (andB (eqI a.x6 b.x6) (andB (eqI a.x7 b.x7) true))))))) = v := h
def ref06_Count_s (a : V8) (b : Int) : Option Int := some (V8.at a b)
theorem ref06_Count_c {X : Task → Prop} (hX : Closed X) {a : V8} {b : Int} {r : Int} {Q : A → List Blk → Prop} (h : ref06_Count_s a b = some r) (hQ : Q (iv r) []) : X (.call 129 [.agg [ic a.x0, ic a.x1, ic a.x2, ic a.x3, ic a.x4, ic a.x5, ic a.x6, ic a.x7], iv b] [] Q) := by
  unfold ref06_Count_s at h
  injection h with h
  subst h
  exact count_ok hX hQ
def ref06_HasVec_s (a : V8) (b : Ver) : Option Bool := some (hasV a b.r b.c)
theorem ref06_HasVec_c {X : Task → Prop} (hX : Closed X) {a : V8} {b : Ver} {r : Bool} {Q : A → List Blk → Prop} (h : ref06_HasVec_s a b = some r) (hQ : Q (.one (.p (.v (.bool r)))) []) : X (.call 122 [.agg [ic a.x0, ic a.x1, ic a.x2, ic a.x3, ic a.x4, ic a.x5, ic a.x6, ic a.x7], .agg [ic b.r, ic b.c]] [] Q) := by
  unfold ref06_HasVec_s at h
  injection h with h
  subst h
  exact hasVec_ok hX hQ
def ref06_MayVec_s (a : V8) : Option Bool := some (mayV a)
theorem ref06_MayVec_c {X : Task → Prop} (hX : Closed X) {a : V8} {r : Bool} {Q : A → List Blk → Prop} (h : ref06_MayVec_s a = some r) (hQ : Q (.one (.p (.v (.bool r)))) []) : X (.call 128 [.agg [ic a.x0, ic a.x1, ic a.x2, ic a.x3, ic a.x4, ic a.x5, ic a.x6, ic a.x7]] [] Q) := by
  unfold ref06_MayVec_s at h
  injection h with h
  subst h
  exact mayVec_ok hX hQ
def ref06_Max_s (a : V8) (b : V8) : Option V8 := some (maxV a b)
theorem ref06_Max_c {X : Task → Prop} (hX : Closed X) {a : V8} {b : V8} {r : V8} {Q : A → List Blk → Prop} (h : ref06_Max_s a b = some r) (hQ : Q (.agg [ic r.x0, ic r.x1, ic r.x2, ic r.x3, ic r.x4, ic r.x5, ic r.x6, ic r.x7]) []) : X (.call 110 [.agg [ic a.x0, ic a.x1, ic a.x2, ic a.x3, ic a.x4, ic a.x5, ic a.x6, ic a.x7], .agg [ic b.x0, ic b.x1, ic b.x2, ic b.x3, ic b.x4, ic b.x5, ic b.x6, ic b.x7]] [] Q) := by
  unfold ref06_Max_s at h
  injection h with h
  subst h
  exact refMax_ok hX hQ
def ref01_Name_s (a : ByteArray) : Option Bool := chk (decide (a.size ≤ 9223372036854775807)) (some (lettersB a 1))
theorem ref01_Name_c {X : Task → Prop} (hX : Closed X) {a : ByteArray} {r : Bool} {Q : A → List Blk → Prop} (h : ref01_Name_s a = some r) (hQ : Q (.one (.p (.v (.bool r)))) []) : X (.call 104 [.one (.p (.v (.string a)))] [] Q) := by
  unfold ref01_Name_s at h
  obtain ⟨d1, h⟩ := chk_some h
  have c1 := of_decide_eq_true d1
  injection h with h
  subst h
  exact rname_ok hX c1 hQ
def ref01_May_s (a : Item) : Option Bool := chk (decide (a.Ok)) (some (mayI a))
theorem ref01_May_c {X : Task → Prop} (hX : Closed X) {a : Item} {r : Bool} {Q : A → List Blk → Prop} (h : ref01_May_s a = some r) (hQ : Q (.one (.p (.v (.bool r)))) []) : X (.call 59 [.agg [.p (.v (.string a.id)), ic a.vr, ic a.vc, ic a.stamp, .p (.v (.string a.kind)), ic a.num, .p (.v (.complex .f64 a.re a.im)), .p (.v (.bool a.dead))]] [] Q) := by
  unfold ref01_May_s at h
  obtain ⟨d1, h⟩ := chk_some h
  have c1 := of_decide_eq_true d1
  injection h with h
  subst h
  exact rmay_item_ok hX c1 hQ
def ref01_Same_s (a : Item) (b : Item) : Option Bool := some (sameI a b)
theorem ref01_Same_c {X : Task → Prop} (hX : Closed X) {a : Item} {b : Item} {r : Bool} {Q : A → List Blk → Prop} (h : ref01_Same_s a b = some r) (hQ : Q (.one (.p (.v (.bool r)))) []) : X (.call 51 [.agg [.p (.v (.string a.id)), ic a.vr, ic a.vc, ic a.stamp, .p (.v (.string a.kind)), ic a.num, .p (.v (.complex .f64 a.re a.im)), .p (.v (.bool a.dead))], .agg [.p (.v (.string b.id)), ic b.vr, ic b.vc, ic b.stamp, .p (.v (.string b.kind)), ic b.num, .p (.v (.complex .f64 b.re b.im)), .p (.v (.bool b.dead))]] [] Q) := by
  unfold ref01_Same_s at h
  injection h with h
  subst h
  exact rsame_ok hX hQ
def law00_Item_s (a : Item) : Option Item := some (a)
theorem law00_Item_c {X : Task → Prop} (hX : Closed X) {a : Item} {r : Item} {Q : A → List Blk → Prop} (h : law00_Item_s a = some r) (hQ : Q (.agg [.p (.v (.string r.id)), ic r.vr, ic r.vc, ic r.stamp, .p (.v (.string r.kind)), ic r.num, .p (.v (.complex .f64 r.re r.im)), .p (.v (.bool r.dead))]) []) : X (.call 32 [.agg [.p (.v (.string a.id)), ic a.vr, ic a.vc, ic a.stamp, .p (.v (.string a.kind)), ic a.num, .p (.v (.float .f64 a.re)), .p (.v (.float .f64 a.im)), .p (.v (.bool a.dead))]] [] Q) := by
  unfold law00_Item_s at h
  injection h with h
  subst h
  exact item_ok hX hQ
def law00_Small_s (a : Pred) : Option Int := chk (decide (a.Ok)) (some (if a.size ≤ 60 then 1 else 0))
theorem law00_Small_c {X : Task → Prop} (hX : Closed X) {a : Pred} {r : Int} {Q : A → List Blk → Prop} (h : law00_Small_s a = some r) (hQ : Q (iv r) []) : X (.call 30 [.agg [ic a.op, .p (.v (.string a.text)), ic a.n, .p (.v (.float .f64 a.re)), .p (.v (.float .f64 a.im)), .p (.sl (Pred.lrows a.kids))]] [] Q) := by
  unfold law00_Small_s at h
  obtain ⟨d1, h⟩ := chk_some h
  have c1 := of_decide_eq_true d1
  injection h with h
  subst h
  exact small_ok hX c1 hQ
def law00_Pred_s (a : Pred) : Option Pred := chk (decide (a.size ≤ 1000)) (chk (decide (a.Ok)) (some (a)))
theorem law00_Pred_c {X : Task → Prop} (hX : Closed X) {a : Pred} {r : Pred} {Q : A → List Blk → Prop} (h : law00_Pred_s a = some r) (hQ : Q (.agg [ic r.op, .p (.v (.string r.text)), ic r.n, .p (.v (.complex .f64 r.re r.im)), .p (.sl (Pred.rows r.kids))]) []) : X (.call 31 [.agg [ic a.op, .p (.v (.string a.text)), ic a.n, .p (.v (.float .f64 a.re)), .p (.v (.float .f64 a.im)), .p (.sl (Pred.lrows a.kids))]] [] Q) := by
  unfold law00_Pred_s at h
  obtain ⟨d1, h⟩ := chk_some h
  have c1 := of_decide_eq_true d1
  obtain ⟨d2, h⟩ := chk_some h
  have c2 := of_decide_eq_true d2
  injection h with h
  subst h
  exact lpred_ok hX _ (Nat.le_refl _) c1 c2 hQ
def ref03_Same_s (a : Pred) (b : Pred) : Option Bool := chk (decide (a.Ok)) (some (sameP a b))
theorem ref03_Same_c {X : Task → Prop} (hX : Closed X) {a : Pred} {b : Pred} {r : Bool} {Q : A → List Blk → Prop} (h : ref03_Same_s a b = some r) (hQ : Q (.one (.p (.v (.bool r)))) []) : X (.call 36 [.agg [ic a.op, .p (.v (.string a.text)), ic a.n, .p (.v (.complex .f64 a.re a.im)), .p (.sl (Pred.rows a.kids))], .agg [ic b.op, .p (.v (.string b.text)), ic b.n, .p (.v (.complex .f64 b.re b.im)), .p (.sl (Pred.rows b.kids))]] [] Q) := by
  unfold ref03_Same_s at h
  obtain ⟨d1, h⟩ := chk_some h
  have c1 := of_decide_eq_true d1
  injection h with h
  subst h
  exact rsame_pred_ok hX _ (Nat.le_refl _) c1 hQ
def ref03_May_s (a : Pred) : Option Bool := chk (decide (a.size ≤ 1000)) (chk (decide (a.Ok)) (some (mayP a)))
theorem ref03_May_c {X : Task → Prop} (hX : Closed X) {a : Pred} {r : Bool} {Q : A → List Blk → Prop} (h : ref03_May_s a = some r) (hQ : Q (.one (.p (.v (.bool r)))) []) : X (.call 35 [.agg [ic a.op, .p (.v (.string a.text)), ic a.n, .p (.v (.complex .f64 a.re a.im)), .p (.sl (Pred.rows a.kids))]] [] Q) := by
  unfold ref03_May_s at h
  obtain ⟨d1, h⟩ := chk_some h
  have c1 := of_decide_eq_true d1
  obtain ⟨d2, h⟩ := chk_some h
  have c2 := of_decide_eq_true d2
  injection h with h
  subst h
  exact rmay_pred_ok hX c1 c2 hQ
def ref03_Has_s (a : Pred) (b : Item) : Option Bool := chk (decide (a.Ok)) (chk (decide (b.Ok)) (some (hasP a b)))
theorem ref03_Has_c {X : Task → Prop} (hX : Closed X) {a : Pred} {b : Item} {r : Bool} {Q : A → List Blk → Prop} (h : ref03_Has_s a b = some r) (hQ : Q (.one (.p (.v (.bool r)))) []) : X (.call 34 [.agg [ic a.op, .p (.v (.string a.text)), ic a.n, .p (.v (.complex .f64 a.re a.im)), .p (.sl (Pred.rows a.kids))], .agg [.p (.v (.string b.id)), ic b.vr, ic b.vc, ic b.stamp, .p (.v (.string b.kind)), ic b.num, .p (.v (.complex .f64 b.re b.im)), .p (.v (.bool b.dead))]] [] Q) := by
  unfold ref03_Has_s at h
  obtain ⟨d1, h⟩ := chk_some h
  have c1 := of_decide_eq_true d1
  obtain ⟨d2, h⟩ := chk_some h
  have c2 := of_decide_eq_true d2
  injection h with h
  subst h
  exact rhas_ok hX _ (Nat.le_refl _) c1 c2 hQ
end
end Go.Proofs.Ytijkfjahgijphaa
