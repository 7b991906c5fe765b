/- The contracts that were proved by hand, as decomp.py asks for them. -/
import Derived.Test.YtijkfjahgijphaaKTypes
import Derived.Test.YtijkfjahgijphaaKContain3
import Derived.Test.YtijkfjahgijphaaKPlain
set_option linter.unusedVariables false
namespace Go.Proofs.Ytijkfjahgijphaa
open Go E Pred
noncomputable section
open Classical
theorem eq8_b {a b : V8} {v : Bool} (h : eq8 a b = v) : andB (eqI a.x0 b.x0) (andB (eqI a.x1 b.x1) (andB (eqI a.x2 b.x2) (andB (eqI a.x3 b.x3) (andB (eqI a.x4 b.x4) (andB (eqI a.x5 b.x5) (andB (eqI a.x6 b.x6) (andB (eqI a.x7 b.x7) true))))))) = v := h
def ref06_HasVec_s (a : V8) (b : Ver) : Option Bool := some (hasV a b.r b.c)
theorem ref06_HasVec_c {X : Task → Prop} (hX : Closed X) {a : V8} {b : Ver} {r : Bool} {Q : A → List Blk → Prop} (h : ref06_HasVec_s a b = some r) (hQ : Q (.one (.p (.v (.bool r)))) []) : X (.call 122 [.agg [ic a.x0, ic a.x1, ic a.x2, ic a.x3, ic a.x4, ic a.x5, ic a.x6, ic a.x7], .agg [ic b.r, ic b.c]] [] Q) := by
  unfold ref06_HasVec_s at h
  injection h with h
  subst h
  exact hasVec_ok hX hQ
def ref06_WithVec_s (a : V8) (b : Ver) : Option V8 := some (withV a b.r b.c)
theorem ref06_WithVec_c {X : Task → Prop} (hX : Closed X) {a : V8} {b : Ver} {r : V8} {Q : A → List Blk → Prop} (h : ref06_WithVec_s a b = some r) (hQ : Q (.agg [ic r.x0, ic r.x1, ic r.x2, ic r.x3, ic r.x4, ic r.x5, ic r.x6, ic r.x7]) []) : X (.call 119 [.agg [ic a.x0, ic a.x1, ic a.x2, ic a.x3, ic a.x4, ic a.x5, ic a.x6, ic a.x7], .agg [ic b.r, ic b.c]] [] Q) := by
  unfold ref06_WithVec_s at h
  injection h with h
  subst h
  exact withVec_ok hX hQ
def ref06_MayVec_s (a : V8) : Option Bool := some (mayV a)
theorem ref06_MayVec_c {X : Task → Prop} (hX : Closed X) {a : V8} {r : Bool} {Q : A → List Blk → Prop} (h : ref06_MayVec_s a = some r) (hQ : Q (.one (.p (.v (.bool r)))) []) : X (.call 128 [.agg [ic a.x0, ic a.x1, ic a.x2, ic a.x3, ic a.x4, ic a.x5, ic a.x6, ic a.x7]] [] Q) := by
  unfold ref06_MayVec_s at h
  injection h with h
  subst h
  exact mayVec_ok hX hQ
def ref06_Max_s (a : V8) (b : V8) : Option V8 := some (maxV a b)
theorem ref06_Max_c {X : Task → Prop} (hX : Closed X) {a : V8} {b : V8} {r : V8} {Q : A → List Blk → Prop} (h : ref06_Max_s a b = some r) (hQ : Q (.agg [ic r.x0, ic r.x1, ic r.x2, ic r.x3, ic r.x4, ic r.x5, ic r.x6, ic r.x7]) []) : X (.call 110 [.agg [ic a.x0, ic a.x1, ic a.x2, ic a.x3, ic a.x4, ic a.x5, ic a.x6, ic a.x7], .agg [ic b.x0, ic b.x1, ic b.x2, ic b.x3, ic b.x4, ic b.x5, ic b.x6, ic b.x7]] [] Q) := by
  unfold ref06_Max_s at h
  injection h with h
  subst h
  exact refMax_ok hX hQ
def vec_Has_s (a : V8) (b : Ver) : Option Bool := some (hasV a b.r b.c)
theorem vec_Has_c {X : Task → Prop} (hX : Closed X) {a : V8} {b : Ver} {r : Bool} {Q : A → List Blk → Prop} (h : vec_Has_s a b = some r) (hQ : Q (.one (.p (.v (.bool r)))) []) : X (.call 120 [.agg [ic a.x0, ic a.x1, ic a.x2, ic a.x3, ic a.x4, ic a.x5, ic a.x6, ic a.x7], .agg [ic b.r, ic b.c]] [] Q) := by
  unfold vec_Has_s at h
  injection h with h
  subst h
  exact vhas_ok hX hQ
def vec_With_s (a : V8) (b : Ver) : Option V8 := some (withV a b.r b.c)
theorem vec_With_c {X : Task → Prop} (hX : Closed X) {a : V8} {b : Ver} {r : V8} {Q : A → List Blk → Prop} (h : vec_With_s a b = some r) (hQ : Q (.agg [ic r.x0, ic r.x1, ic r.x2, ic r.x3, ic r.x4, ic r.x5, ic r.x6, ic r.x7]) []) : X (.call 117 [.agg [ic a.x0, ic a.x1, ic a.x2, ic a.x3, ic a.x4, ic a.x5, ic a.x6, ic a.x7], .agg [ic b.r, ic b.c]] [] Q) := by
  unfold vec_With_s at h
  injection h with h
  subst h
  exact vwith_ok hX hQ
def vec_Max_s (a : V8) (b : V8) : Option V8 := some (maxV a b)
theorem vec_Max_c {X : Task → Prop} (hX : Closed X) {a : V8} {b : V8} {r : V8} {Q : A → List Blk → Prop} (h : vec_Max_s a b = some r) (hQ : Q (.agg [ic r.x0, ic r.x1, ic r.x2, ic r.x3, ic r.x4, ic r.x5, ic r.x6, ic r.x7]) []) : X (.call 108 [.agg [ic a.x0, ic a.x1, ic a.x2, ic a.x3, ic a.x4, ic a.x5, ic a.x6, ic a.x7], .agg [ic b.x0, ic b.x1, ic b.x2, ic b.x3, ic b.x4, ic b.x5, ic b.x6, ic b.x7]] [] Q) := by
  unfold vec_Max_s at h
  injection h with h
  subst h
  exact vmax_ok hX hQ
def vec_May_s (a : V8) : Option Bool := some (mayV a)
theorem vec_May_c {X : Task → Prop} (hX : Closed X) {a : V8} {r : Bool} {Q : A → List Blk → Prop} (h : vec_May_s a = some r) (hQ : Q (.one (.p (.v (.bool r)))) []) : X (.call 124 [.agg [ic a.x0, ic a.x1, ic a.x2, ic a.x3, ic a.x4, ic a.x5, ic a.x6, ic a.x7]] [] Q) := by
  unfold vec_May_s at h
  injection h with h
  subst h
  exact vmay_ok hX hQ
def item_Name_s (a : ByteArray) : Option Bool := chk (decide (a.size ≤ 9223372036854775807)) (some (lettersB a 1))
theorem item_Name_c {X : Task → Prop} (hX : Closed X) {a : ByteArray} {r : Bool} {Q : A → List Blk → Prop} (h : item_Name_s a = some r) (hQ : Q (.one (.p (.v (.bool r)))) []) : X (.call 126 [.one (.p (.v (.string a)))] [] Q) := by
  unfold item_Name_s at h
  obtain ⟨d1, h⟩ := chk_some h
  have c1 := of_decide_eq_true d1
  injection h with h
  subst h
  exact name_ok hX c1 hQ
def ref01_Name_s (a : ByteArray) : Option Bool := chk (decide (a.size ≤ 9223372036854775807)) (some (lettersB a 1))
theorem ref01_Name_c {X : Task → Prop} (hX : Closed X) {a : ByteArray} {r : Bool} {Q : A → List Blk → Prop} (h : ref01_Name_s a = some r) (hQ : Q (.one (.p (.v (.bool r)))) []) : X (.call 104 [.one (.p (.v (.string a)))] [] Q) := by
  unfold ref01_Name_s at h
  obtain ⟨d1, h⟩ := chk_some h
  have c1 := of_decide_eq_true d1
  injection h with h
  subst h
  exact rname_ok hX c1 hQ
end
end Go.Proofs.Ytijkfjahgijphaa
