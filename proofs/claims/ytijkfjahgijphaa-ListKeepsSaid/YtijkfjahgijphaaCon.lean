/- The contracts that were proved by hand, as decomp.py asks for them. -/
import Derived.Test.YtijkfjahgijphaaTypes
import Derived.Test.YtijkfjahgijphaaContain3
import Derived.Test.YtijkfjahgijphaaPlain
set_option linter.unusedVariables false
namespace Go.Proofs.Ytijkfjahgijphaa
open Go E Pred
noncomputable section
open Classical
def ref06_Count_s (a : V8) (b : Int) : Option Int := some (V8.at a b)
theorem ref06_Count_c {X : Task → Prop} (hX : Closed X) {a : V8} {b : Int} {r : Int} {Q : A → List Blk → Prop} (h : ref06_Count_s a b = some r) (hQ : Q (iv r) []) : X (.call 129 [.agg [ic a.x0, ic a.x1, ic a.x2, ic a.x3, ic a.x4, ic a.x5, ic a.x6, ic a.x7], iv b] [] Q) := by
  unfold ref06_Count_s at h
  injection h with h
  subst h
  exact count_ok hX hQ
def ref06_HasVec_s (a : V8) (b : Ver) : Option Bool := some (hasV a b.r b.c)
theorem ref06_HasVec_c {X : Task → Prop} (hX : Closed X) {a : V8} {b : Ver} {r : Bool} {Q : A → List Blk → Prop} (h : ref06_HasVec_s a b = some r) (hQ : Q (.one (.p (.v (.bool r)))) []) : X (.call 122 [.agg [ic a.x0, ic a.x1, ic a.x2, ic a.x3, ic a.x4, ic a.x5, ic a.x6, ic a.x7], .agg [ic b.r, ic b.c]] [] Q) := by
  unfold ref06_HasVec_s at h
  injection h with h
  subst h
  exact hasVec_ok hX hQ
def ref06_WithVec_s (a : V8) (b : Ver) : Option V8 := some (withV a b.r b.c)
theorem ref06_WithVec_c {X : Task → Prop} (hX : Closed X) {a : V8} {b : Ver} {r : V8} {Q : A → List Blk → Prop} (h : ref06_WithVec_s a b = some r) (hQ : Q (.agg [ic r.x0, ic r.x1, ic r.x2, ic r.x3, ic r.x4, ic r.x5, ic r.x6, ic r.x7]) []) : X (.call 119 [.agg [ic a.x0, ic a.x1, ic a.x2, ic a.x3, ic a.x4, ic a.x5, ic a.x6, ic a.x7], .agg [ic b.r, ic b.c]] [] Q) := by
  unfold ref06_WithVec_s at h
  injection h with h
  subst h
  exact withVec_ok hX hQ
def ref06_InVec_s (a : V8) (b : V8) : Option Bool := some (inV a b)
def ref06_MayVec_s (a : V8) : Option Bool := some (mayV a)
theorem ref06_MayVec_c {X : Task → Prop} (hX : Closed X) {a : V8} {r : Bool} {Q : A → List Blk → Prop} (h : ref06_MayVec_s a = some r) (hQ : Q (.one (.p (.v (.bool r)))) []) : X (.call 128 [.agg [ic a.x0, ic a.x1, ic a.x2, ic a.x3, ic a.x4, ic a.x5, ic a.x6, ic a.x7]] [] Q) := by
  unfold ref06_MayVec_s at h
  injection h with h
  subst h
  exact mayVec_ok hX hQ
def ref06_Max_s (a : V8) (b : V8) : Option V8 := some (maxV a b)
theorem ref06_Max_c {X : Task → Prop} (hX : Closed X) {a : V8} {b : V8} {r : V8} {Q : A → List Blk → Prop} (h : ref06_Max_s a b = some r) (hQ : Q (.agg [ic r.x0, ic r.x1, ic r.x2, ic r.x3, ic r.x4, ic r.x5, ic r.x6, ic r.x7]) []) : X (.call 110 [.agg [ic a.x0, ic a.x1, ic a.x2, ic a.x3, ic a.x4, ic a.x5, ic a.x6, ic a.x7], .agg [ic b.x0, ic b.x1, ic b.x2, ic b.x3, ic b.x4, ic b.x5, ic b.x6, ic b.x7]] [] Q) := by
  unfold ref06_Max_s at h
  injection h with h
  subst h
  exact refMax_ok hX hQ
def vec_Has_s (a : V8) (b : Ver) : Option Bool := some (hasV a b.r b.c)
theorem vec_Has_c {X : Task → Prop} (hX : Closed X) {a : V8} {b : Ver} {r : Bool} {Q : A → List Blk → Prop} (h : vec_Has_s a b = some r) (hQ : Q (.one (.p (.v (.bool r)))) []) : X (.call 120 [.agg [ic a.x0, ic a.x1, ic a.x2, ic a.x3, ic a.x4, ic a.x5, ic a.x6, ic a.x7], .agg [ic b.r, ic b.c]] [] Q) := by
  unfold vec_Has_s at h
  injection h with h
  subst h
  exact vhas_ok hX hQ
def vec_With_s (a : V8) (b : Ver) : Option V8 := some (withV a b.r b.c)
theorem vec_With_c {X : Task → Prop} (hX : Closed X) {a : V8} {b : Ver} {r : V8} {Q : A → List Blk → Prop} (h : vec_With_s a b = some r) (hQ : Q (.agg [ic r.x0, ic r.x1, ic r.x2, ic r.x3, ic r.x4, ic r.x5, ic r.x6, ic r.x7]) []) : X (.call 117 [.agg [ic a.x0, ic a.x1, ic a.x2, ic a.x3, ic a.x4, ic a.x5, ic a.x6, ic a.x7], .agg [ic b.r, ic b.c]] [] Q) := by
  unfold vec_With_s at h
  injection h with h
  subst h
  exact vwith_ok hX hQ
def vec_Max_s (a : V8) (b : V8) : Option V8 := some (maxV a b)
theorem vec_Max_c {X : Task → Prop} (hX : Closed X) {a : V8} {b : V8} {r : V8} {Q : A → List Blk → Prop} (h : vec_Max_s a b = some r) (hQ : Q (.agg [ic r.x0, ic r.x1, ic r.x2, ic r.x3, ic r.x4, ic r.x5, ic r.x6, ic r.x7]) []) : X (.call 108 [.agg [ic a.x0, ic a.x1, ic a.x2, ic a.x3, ic a.x4, ic a.x5, ic a.x6, ic a.x7], .agg [ic b.x0, ic b.x1, ic b.x2, ic b.x3, ic b.x4, ic b.x5, ic b.x6, ic b.x7]] [] Q) := by
  unfold vec_Max_s at h
  injection h with h
  subst h
  exact vmax_ok hX hQ
def vec_In_s (a : V8) (b : V8) : Option Bool := some (inV a b)
def vec_May_s (a : V8) : Option Bool := some (mayV a)
theorem vec_May_c {X : Task → Prop} (hX : Closed X) {a : V8} {r : Bool} {Q : A → List Blk → Prop} (h : vec_May_s a = some r) (hQ : Q (.one (.p (.v (.bool r)))) []) : X (.call 124 [.agg [ic a.x0, ic a.x1, ic a.x2, ic a.x3, ic a.x4, ic a.x5, ic a.x6, ic a.x7]] [] Q) := by
  unfold vec_May_s at h
  injection h with h
  subst h
  exact vmay_ok hX hQ
def place_May_s (a1 a2 : Nat) : Option Bool := some (placeB a1 a2)
theorem place_May_c {X : Task → Prop} (hX : Closed X) {a1 a2 : Nat} {r : Bool} {Q : A → List Blk → Prop} (h : place_May_s a1 a2 = some r) (hQ : Q (.one (.p (.v (.bool r)))) []) : X (.call 142 [cv a1 a2] [] Q) := by
  unfold place_May_s at h
  injection h with h
  subst h
  exact place_may_ok hX hQ
def ref01_Place_s (a1 a2 : Nat) : Option Bool := some (placeB a1 a2)
theorem ref01_Place_c {X : Task → Prop} (hX : Closed X) {a1 a2 : Nat} {r : Bool} {Q : A → List Blk → Prop} (h : ref01_Place_s a1 a2 = some r) (hQ : Q (.one (.p (.v (.bool r)))) []) : X (.call 107 [cv a1 a2] [] Q) := by
  unfold ref01_Place_s at h
  injection h with h
  subst h
  exact ref_place_ok hX hQ
def ref01_Ver_s (a : Ver) : Option Bool := some (verB a.r a.c)
theorem ref01_Ver_c {X : Task → Prop} (hX : Closed X) {a : Ver} {r : Bool} {Q : A → List Blk → Prop} (h : ref01_Ver_s a = some r) (hQ : Q (.one (.p (.v (.bool r)))) []) : X (.call 106 [.agg [ic a.r, ic a.c]] [] Q) := by
  unfold ref01_Ver_s at h
  injection h with h
  subst h
  exact rver_ok hX hQ
def item_Name_s (a : ByteArray) : Option Bool := chk (decide (a.size ≤ 9223372036854775807)) (some (lettersB a 1))
theorem item_Name_c {X : Task → Prop} (hX : Closed X) {a : ByteArray} {r : Bool} {Q : A → List Blk → Prop} (h : item_Name_s a = some r) (hQ : Q (.one (.p (.v (.bool r)))) []) : X (.call 126 [.one (.p (.v (.string a)))] [] Q) := by
  unfold item_Name_s at h
  obtain ⟨d1, h⟩ := chk_some h
  have c1 := of_decide_eq_true d1
  injection h with h
  subst h
  exact name_ok hX c1 hQ
def ref01_Name_s (a : ByteArray) : Option Bool := chk (decide (a.size ≤ 9223372036854775807)) (some (lettersB a 1))
theorem ref01_Name_c {X : Task → Prop} (hX : Closed X) {a : ByteArray} {r : Bool} {Q : A → List Blk → Prop} (h : ref01_Name_s a = some r) (hQ : Q (.one (.p (.v (.bool r)))) []) : X (.call 104 [.one (.p (.v (.string a)))] [] Q) := by
  unfold ref01_Name_s at h
  obtain ⟨d1, h⟩ := chk_some h
  have c1 := of_decide_eq_true d1
  injection h with h
  subst h
  exact rname_ok hX c1 hQ
def ref01_Text_s (a : ByteArray) : Option Bool := chk (decide (a.size ≤ 9223372036854775807)) (some (lettersB a 0))
theorem ref01_Text_c {X : Task → Prop} (hX : Closed X) {a : ByteArray} {r : Bool} {Q : A → List Blk → Prop} (h : ref01_Text_s a = some r) (hQ : Q (.one (.p (.v (.bool r)))) []) : X (.call 105 [.one (.p (.v (.string a)))] [] Q) := by
  unfold ref01_Text_s at h
  obtain ⟨d1, h⟩ := chk_some h
  have c1 := of_decide_eq_true d1
  injection h with h
  subst h
  exact rtext_ok hX c1 hQ
def item_May_s (a : Item) : Option Bool := chk (decide (a.Ok)) (some (mayI a))
theorem item_May_c {X : Task → Prop} (hX : Closed X) {a : Item} {r : Bool} {Q : A → List Blk → Prop} (h : item_May_s a = some r) (hQ : Q (.one (.p (.v (.bool r)))) []) : X (.call 97 [.agg [.p (.v (.string a.id)), ic a.vr, ic a.vc, ic a.stamp, .p (.v (.string a.kind)), ic a.num, .p (.v (.complex .f64 a.re a.im)), .p (.v (.bool a.dead))]] [] Q) := by
  unfold item_May_s at h
  obtain ⟨d1, h⟩ := chk_some h
  have c1 := of_decide_eq_true d1
  injection h with h
  subst h
  exact may_item_ok hX c1 hQ
def ref01_May_s (a : Item) : Option Bool := chk (decide (a.Ok)) (some (mayI a))
theorem ref01_May_c {X : Task → Prop} (hX : Closed X) {a : Item} {r : Bool} {Q : A → List Blk → Prop} (h : ref01_May_s a = some r) (hQ : Q (.one (.p (.v (.bool r)))) []) : X (.call 59 [.agg [.p (.v (.string a.id)), ic a.vr, ic a.vc, ic a.stamp, .p (.v (.string a.kind)), ic a.num, .p (.v (.complex .f64 a.re a.im)), .p (.v (.bool a.dead))]] [] Q) := by
  unfold ref01_May_s at h
  obtain ⟨d1, h⟩ := chk_some h
  have c1 := of_decide_eq_true d1
  injection h with h
  subst h
  exact rmay_item_ok hX c1 hQ
def item_Compare_s (a : Item) (b : Item) : Option Int := some (compareV a b)
theorem item_Compare_c {X : Task → Prop} (hX : Closed X) {a : Item} {b : Item} {r : Int} {Q : A → List Blk → Prop} (h : item_Compare_s a b = some r) (hQ : Q (iv r) []) : X (.call 103 [.agg [.p (.v (.string a.id)), ic a.vr, ic a.vc, ic a.stamp, .p (.v (.string a.kind)), ic a.num, .p (.v (.complex .f64 a.re a.im)), .p (.v (.bool a.dead))], .agg [.p (.v (.string b.id)), ic b.vr, ic b.vc, ic b.stamp, .p (.v (.string b.kind)), ic b.num, .p (.v (.complex .f64 b.re b.im)), .p (.v (.bool b.dead))]] [] Q) := by
  unfold item_Compare_s at h
  injection h with h
  subst h
  exact compare_ok hX hQ
def ref01_Behind_s (a : Item) (b : Item) : Option Bool := some (behindB a b)
theorem ref01_Behind_c {X : Task → Prop} (hX : Closed X) {a : Item} {b : Item} {r : Bool} {Q : A → List Blk → Prop} (h : ref01_Behind_s a b = some r) (hQ : Q (.one (.p (.v (.bool r)))) []) : X (.call 60 [.agg [.p (.v (.string a.id)), ic a.vr, ic a.vc, ic a.stamp, .p (.v (.string a.kind)), ic a.num, .p (.v (.complex .f64 a.re a.im)), .p (.v (.bool a.dead))], .agg [.p (.v (.string b.id)), ic b.vr, ic b.vc, ic b.stamp, .p (.v (.string b.kind)), ic b.num, .p (.v (.complex .f64 b.re b.im)), .p (.v (.bool b.dead))]] [] Q) := by
  unfold ref01_Behind_s at h
  injection h with h
  subst h
  exact behind_ok hX hQ
def ref01_Compare_s (a : Item) (b : Item) : Option Int := some (compareV a b)
def item_Same_s (a : Item) (b : Item) : Option Bool := some (sameI a b)
def ref01_Same_s (a : Item) (b : Item) : Option Bool := some (sameI a b)
theorem ref01_Same_c {X : Task → Prop} (hX : Closed X) {a : Item} {b : Item} {r : Bool} {Q : A → List Blk → Prop} (h : ref01_Same_s a b = some r) (hQ : Q (.one (.p (.v (.bool r)))) []) : X (.call 51 [.agg [.p (.v (.string a.id)), ic a.vr, ic a.vc, ic a.stamp, .p (.v (.string a.kind)), ic a.num, .p (.v (.complex .f64 a.re a.im)), .p (.v (.bool a.dead))], .agg [.p (.v (.string b.id)), ic b.vr, ic b.vc, ic b.stamp, .p (.v (.string b.kind)), ic b.num, .p (.v (.complex .f64 b.re b.im)), .p (.v (.bool b.dead))]] [] Q) := by
  unfold ref01_Same_s at h
  injection h with h
  subst h
  exact rsame_ok hX hQ
def law00_Item_s (a : Item) : Option Item := some (a)
theorem law00_Item_c {X : Task → Prop} (hX : Closed X) {a : Item} {r : Item} {Q : A → List Blk → Prop} (h : law00_Item_s a = some r) (hQ : Q (.agg [.p (.v (.string r.id)), ic r.vr, ic r.vc, ic r.stamp, .p (.v (.string r.kind)), ic r.num, .p (.v (.complex .f64 r.re r.im)), .p (.v (.bool r.dead))]) []) : X (.call 32 [.agg [.p (.v (.string a.id)), ic a.vr, ic a.vc, ic a.stamp, .p (.v (.string a.kind)), ic a.num, .p (.v (.float .f64 a.re)), .p (.v (.float .f64 a.im)), .p (.v (.bool a.dead))]] [] Q) := by
  unfold law00_Item_s at h
  injection h with h
  subst h
  exact item_ok hX hQ
def law00_Small_s (a : Pred) : Option Int := chk (decide (a.Ok)) (some (if a.size ≤ 60 then 1 else 0))
theorem law00_Small_c {X : Task → Prop} (hX : Closed X) {a : Pred} {r : Int} {Q : A → List Blk → Prop} (h : law00_Small_s a = some r) (hQ : Q (iv r) []) : X (.call 30 [.agg [ic a.op, .p (.v (.string a.text)), ic a.n, .p (.v (.float .f64 a.re)), .p (.v (.float .f64 a.im)), .p (.sl (Pred.lrows a.kids))]] [] Q) := by
  unfold law00_Small_s at h
  obtain ⟨d1, h⟩ := chk_some h
  have c1 := of_decide_eq_true d1
  injection h with h
  subst h
  exact small_ok hX c1 hQ
def law00_Pred_s (a : Pred) : Option Pred := chk (decide (a.size ≤ 1000)) (chk (decide (a.Ok)) (some (a)))
theorem law00_Pred_c {X : Task → Prop} (hX : Closed X) {a : Pred} {r : Pred} {Q : A → List Blk → Prop} (h : law00_Pred_s a = some r) (hQ : Q (.agg [ic r.op, .p (.v (.string r.text)), ic r.n, .p (.v (.complex .f64 r.re r.im)), .p (.sl (Pred.rows r.kids))]) []) : X (.call 31 [.agg [ic a.op, .p (.v (.string a.text)), ic a.n, .p (.v (.float .f64 a.re)), .p (.v (.float .f64 a.im)), .p (.sl (Pred.lrows a.kids))]] [] Q) := by
  unfold law00_Pred_s at h
  obtain ⟨d1, h⟩ := chk_some h
  have c1 := of_decide_eq_true d1
  obtain ⟨d2, h⟩ := chk_some h
  have c2 := of_decide_eq_true d2
  injection h with h
  subst h
  exact lpred_ok hX _ (Nat.le_refl _) c1 c2 hQ
def pred_Size_s (a : Pred) : Option Int := chk (decide (a.size ≤ 1000)) (some ((a.size : Int)))
theorem pred_Size_c {X : Task → Prop} (hX : Closed X) {a : Pred} {r : Int} {Q : A → List Blk → Prop} (h : pred_Size_s a = some r) (hQ : Q (iv r) []) : X (.call 40 [.agg [ic a.op, .p (.v (.string a.text)), ic a.n, .p (.v (.complex .f64 a.re a.im)), .p (.sl (Pred.rows a.kids))]] [] Q) := by
  unfold pred_Size_s at h
  obtain ⟨d1, h⟩ := chk_some h
  have c1 := of_decide_eq_true d1
  injection h with h
  subst h
  exact psize_ok hX _ (Nat.le_refl _) c1 hQ
def ref03_Size_s (a : Pred) : Option Int := chk (decide (a.size ≤ 1000)) (some ((a.size : Int)))
theorem ref03_Size_c {X : Task → Prop} (hX : Closed X) {a : Pred} {r : Int} {Q : A → List Blk → Prop} (h : ref03_Size_s a = some r) (hQ : Q (iv r) []) : X (.call 92 [.agg [ic a.op, .p (.v (.string a.text)), ic a.n, .p (.v (.complex .f64 a.re a.im)), .p (.sl (Pred.rows a.kids))]] [] Q) := by
  unfold ref03_Size_s at h
  obtain ⟨d1, h⟩ := chk_some h
  have c1 := of_decide_eq_true d1
  injection h with h
  subst h
  exact rsize_ok hX _ (Nat.le_refl _) c1 hQ
def pred_Depth_s (a : Pred) : Option Int := chk (decide (a.size ≤ 1000)) (some ((a.depth : Int)))
theorem pred_Depth_c {X : Task → Prop} (hX : Closed X) {a : Pred} {r : Int} {Q : A → List Blk → Prop} (h : pred_Depth_s a = some r) (hQ : Q (iv r) []) : X (.call 41 [.agg [ic a.op, .p (.v (.string a.text)), ic a.n, .p (.v (.complex .f64 a.re a.im)), .p (.sl (Pred.rows a.kids))]] [] Q) := by
  unfold pred_Depth_s at h
  obtain ⟨d1, h⟩ := chk_some h
  have c1 := of_decide_eq_true d1
  injection h with h
  subst h
  exact pdepth_ok hX _ (Nat.le_refl _) c1 hQ
def ref03_Depth_s (a : Pred) : Option Int := chk (decide (a.size ≤ 1000)) (some ((a.depth : Int)))
theorem ref03_Depth_c {X : Task → Prop} (hX : Closed X) {a : Pred} {r : Int} {Q : A → List Blk → Prop} (h : ref03_Depth_s a = some r) (hQ : Q (iv r) []) : X (.call 93 [.agg [ic a.op, .p (.v (.string a.text)), ic a.n, .p (.v (.complex .f64 a.re a.im)), .p (.sl (Pred.rows a.kids))]] [] Q) := by
  unfold ref03_Depth_s at h
  obtain ⟨d1, h⟩ := chk_some h
  have c1 := of_decide_eq_true d1
  injection h with h
  subst h
  exact rdepth_ok hX _ (Nat.le_refl _) c1 hQ
def pred_Same_s (a : Pred) (b : Pred) : Option Bool := chk (decide (a.Ok)) (some (sameP a b))
theorem pred_Same_c {X : Task → Prop} (hX : Closed X) {a : Pred} {b : Pred} {r : Bool} {Q : A → List Blk → Prop} (h : pred_Same_s a b = some r) (hQ : Q (.one (.p (.v (.bool r)))) []) : X (.call 42 [.agg [ic a.op, .p (.v (.string a.text)), ic a.n, .p (.v (.complex .f64 a.re a.im)), .p (.sl (Pred.rows a.kids))], .agg [ic b.op, .p (.v (.string b.text)), ic b.n, .p (.v (.complex .f64 b.re b.im)), .p (.sl (Pred.rows b.kids))]] [] Q) := by
  unfold pred_Same_s at h
  obtain ⟨d1, h⟩ := chk_some h
  have c1 := of_decide_eq_true d1
  injection h with h
  subst h
  exact psame_ok hX _ (Nat.le_refl _) c1 hQ
def ref03_Same_s (a : Pred) (b : Pred) : Option Bool := chk (decide (a.Ok)) (some (sameP a b))
theorem ref03_Same_c {X : Task → Prop} (hX : Closed X) {a : Pred} {b : Pred} {r : Bool} {Q : A → List Blk → Prop} (h : ref03_Same_s a b = some r) (hQ : Q (.one (.p (.v (.bool r)))) []) : X (.call 36 [.agg [ic a.op, .p (.v (.string a.text)), ic a.n, .p (.v (.complex .f64 a.re a.im)), .p (.sl (Pred.rows a.kids))], .agg [ic b.op, .p (.v (.string b.text)), ic b.n, .p (.v (.complex .f64 b.re b.im)), .p (.sl (Pred.rows b.kids))]] [] Q) := by
  unfold ref03_Same_s at h
  obtain ⟨d1, h⟩ := chk_some h
  have c1 := of_decide_eq_true d1
  injection h with h
  subst h
  exact rsame_pred_ok hX _ (Nat.le_refl _) c1 hQ
def pred_May_s (a : Pred) : Option Bool := chk (decide (a.Ok)) (some (mayP a))
theorem pred_May_c {X : Task → Prop} (hX : Closed X) {a : Pred} {r : Bool} {Q : A → List Blk → Prop} (h : pred_May_s a = some r) (hQ : Q (.one (.p (.v (.bool r)))) []) : X (.call 39 [.agg [ic a.op, .p (.v (.string a.text)), ic a.n, .p (.v (.complex .f64 a.re a.im)), .p (.sl (Pred.rows a.kids))]] [] Q) := by
  unfold pred_May_s at h
  obtain ⟨d1, h⟩ := chk_some h
  have c1 := of_decide_eq_true d1
  injection h with h
  subst h
  exact may_pred_ok hX c1 hQ
def ref03_May_s (a : Pred) : Option Bool := chk (decide (a.size ≤ 1000)) (chk (decide (a.Ok)) (some (mayP a)))
theorem ref03_May_c {X : Task → Prop} (hX : Closed X) {a : Pred} {r : Bool} {Q : A → List Blk → Prop} (h : ref03_May_s a = some r) (hQ : Q (.one (.p (.v (.bool r)))) []) : X (.call 35 [.agg [ic a.op, .p (.v (.string a.text)), ic a.n, .p (.v (.complex .f64 a.re a.im)), .p (.sl (Pred.rows a.kids))]] [] Q) := by
  unfold ref03_May_s at h
  obtain ⟨d1, h⟩ := chk_some h
  have c1 := of_decide_eq_true d1
  obtain ⟨d2, h⟩ := chk_some h
  have c2 := of_decide_eq_true d2
  injection h with h
  subst h
  exact rmay_pred_ok hX c1 c2 hQ
def eval_Has_s (a : Pred) (b : Item) : Option Bool := chk (decide (a.Ok)) (chk (decide (b.Ok)) (some (hasP a b)))
theorem eval_Has_c {X : Task → Prop} (hX : Closed X) {a : Pred} {b : Item} {r : Bool} {Q : A → List Blk → Prop} (h : eval_Has_s a b = some r) (hQ : Q (.one (.p (.v (.bool r)))) []) : X (.call 33 [.agg [ic a.op, .p (.v (.string a.text)), ic a.n, .p (.v (.complex .f64 a.re a.im)), .p (.sl (Pred.rows a.kids))], .agg [.p (.v (.string b.id)), ic b.vr, ic b.vc, ic b.stamp, .p (.v (.string b.kind)), ic b.num, .p (.v (.complex .f64 b.re b.im)), .p (.v (.bool b.dead))]] [] Q) := by
  unfold eval_Has_s at h
  obtain ⟨d1, h⟩ := chk_some h
  have c1 := of_decide_eq_true d1
  obtain ⟨d2, h⟩ := chk_some h
  have c2 := of_decide_eq_true d2
  injection h with h
  subst h
  exact has_ok hX _ (Nat.le_refl _) c1 c2 hQ
def ref03_Has_s (a : Pred) (b : Item) : Option Bool := chk (decide (a.Ok)) (chk (decide (b.Ok)) (some (hasP a b)))
theorem ref03_Has_c {X : Task → Prop} (hX : Closed X) {a : Pred} {b : Item} {r : Bool} {Q : A → List Blk → Prop} (h : ref03_Has_s a b = some r) (hQ : Q (.one (.p (.v (.bool r)))) []) : X (.call 34 [.agg [ic a.op, .p (.v (.string a.text)), ic a.n, .p (.v (.complex .f64 a.re a.im)), .p (.sl (Pred.rows a.kids))], .agg [.p (.v (.string b.id)), ic b.vr, ic b.vc, ic b.stamp, .p (.v (.string b.kind)), ic b.num, .p (.v (.complex .f64 b.re b.im)), .p (.v (.bool b.dead))]] [] Q) := by
  unfold ref03_Has_s at h
  obtain ⟨d1, h⟩ := chk_some h
  have c1 := of_decide_eq_true d1
  obtain ⟨d2, h⟩ := chk_some h
  have c2 := of_decide_eq_true d2
  injection h with h
  subst h
  exact rhas_ok hX _ (Nat.le_refl _) c1 c2 hQ
def contain_In_s (a : Pred) (b : Pred) : Option Bool := chk (decide (a.Ok)) (chk (decide (b.Ok)) (some (inP a b)))
def ref03_In_s (a : Pred) (b : Pred) : Option Bool := chk (decide (a.Ok)) (chk (decide (b.Ok)) (chk (decide (a.size ≤ 1000)) (chk (decide (b.size ≤ 1000)) (some (inP a b)))))
def eval_Plain_s (a : Pred) : Option Pred := chk (decide (a.size ≤ 61)) (chk (decide (fitsP a = true)) (some (plainP a)))
theorem eval_Plain_c {X : Task → Prop} (hX : Closed X) {a : Pred} {r : Pred} {Q : A → List Blk → Prop} (h : eval_Plain_s a = some r) (hQ : Q (.agg [ic r.op, .p (.v (.string r.text)), ic r.n, .p (.v (.complex .f64 r.re r.im)), .p (.sl (Pred.rows r.kids))]) []) : X (.call 37 [.agg [ic a.op, .p (.v (.string a.text)), ic a.n, .p (.v (.complex .f64 a.re a.im)), .p (.sl (Pred.rows a.kids))]] [] Q) := by
  unfold eval_Plain_s at h
  obtain ⟨d1, h⟩ := chk_some h
  have c1 := of_decide_eq_true d1
  obtain ⟨d2, h⟩ := chk_some h
  have c2 := of_decide_eq_true d2
  injection h with h
  subst h
  exact plain_ok hX _ (Nat.le_refl _) c1 c2 hQ
end
end Go.Proofs.Ytijkfjahgijphaa
