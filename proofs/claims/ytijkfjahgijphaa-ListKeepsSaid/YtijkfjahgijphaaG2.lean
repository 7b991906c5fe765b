/- Layer 8, the program's. Written by decomp.py. -/
import Derived.Test.YtijkfjahgijphaaCon
import Derived.Test.YtijkfjahgijphaaDel2
import Derived.Test.YtijkfjahgijphaaKeys
import Derived.Test.YtijkfjahgijphaaGrow
import Derived.Test.YtijkfjahgijphaaLoops
set_option linter.unusedVariables false
set_option linter.unusedSimpArgs false
set_option maxRecDepth 100000
set_option maxHeartbeats 0
namespace Go.Proofs.Ytijkfjahgijphaa
open Go E
noncomputable section
open Pred
def list_May_l1 (p0 : List Item) : List Item → Int → Option (Bool)
  | [], v1 =>
    some true
  | x1e :: xs1, v1 =>
    (bnd (item_May_s x1e) fun y2 =>
      (br (!y2)
        (some false)
        (br (ltI 0 v1)
          (bnd (atL p0 (wr .i64 (v1 - 1))) fun x6 =>
            (br (!ltS x6.id x1e.id)
              (some false)
              (list_May_l1 p0 xs1 (v1 + 1) )))
          (list_May_l1 p0 xs1 (v1 + 1) ))))
def list_May_s (p0 : List Item) : Option (Bool) :=
  (chk (smallL p0)
    ((list_May_l1 p0) p0 0 ))
theorem list_May_c {X : Task → Prop} (hX : Closed X) {p0 : List Item} {r : Bool} {Q : A → List Blk → Prop} (h : list_May_s p0 = some r) (hQ : Q (.one (.p (.v (.bool r)))) []) : X (.call 46 [.one (.p (.sl (p0.map Item.row)))] [] Q) := by
  unfold list_May_s at h
  refine call_intro hX Try.func46 rfl rfl ?_
  obtain ⟨hs1, h⟩ := chk_some h
  (repeat ((conv => whnf); first | refine ⟨by kernel_rfl, ?_⟩ | refine eqv_to (map_len _) ?_)); (conv => whnf)
  refine loop_list0 (fun (v1 : Int) => pad [(0, .one (.p (.sl (p0.map Item.row)))), (4, .one (.p (.sl (p0.map Item.row)))), (0, iv (p0.length : Int)), (0, iv v1)] 23) (fun (v1 : Int) => []) _ p0 (fun pre1 x1e xs1 v1  hl1 hi1 h ih1 => ?_) (fun v1  hi1 h => ?_)  h
  · rw [list_May_l1] at h
    have am1 := at_mid hl1 hi1
    refine loop_intro hX ?_
    replace h := bnd_some h
    obtain ⟨y2, e3, h⟩ := h
    (repeat ((conv => whnf); first | refine ⟨by kernel_rfl, ?_⟩ | refine bct (lt_mid hl1 hi1) ?_ | refine bct (at_in am1) ?_ | refine bct (andt (at_in am1) rfl) ?_ | refine row_in (at_row am1) ?_ | refine bct (andt (at_in (at_nat am1)) rfl) ?_ | refine row_in (at_row (at_nat am1)) ?_)); (conv => whnf)
    refine item_May_c hX e3 ?_
    (repeat ((conv => whnf); first | refine ⟨by kernel_rfl, ?_⟩)); (conv => whnf)
    refine br_some h (fun c4 g => ?_) (fun c4 g => ?_)
    · replace h := g
      clear g
      (repeat ((conv => whnf); first | refine ⟨by kernel_rfl, ?_⟩ | refine bct c4 ?_)); (conv => whnf)
      exact ret_some (f := fun y => .one (.p (.v (.bool y)))) (g := fun y => []) h hQ
    · replace h := g
      clear g
      (repeat ((conv => whnf); first | refine ⟨by kernel_rfl, ?_⟩ | refine bcf c4 ?_)); (conv => whnf)
      refine br_some h (fun c5 g => ?_) (fun c5 g => ?_)
      · replace h := g
        clear g
        replace h := bnd_some h
        obtain ⟨x6, a7, h⟩ := h
        (repeat ((conv => whnf); first | refine ⟨by kernel_rfl, ?_⟩ | refine bct c5 ?_ | refine bct (at_in a7) ?_ | refine bct (andt (at_in a7) rfl) ?_ | refine row_in (at_row a7) ?_ | refine bct (andt (at_in (at_nat a7)) rfl) ?_ | refine row_in (at_row (at_nat a7)) ?_ | refine bcf c4 ?_)); (conv => whnf)
        refine br_some h (fun c8 g => ?_) (fun c8 g => ?_)
        · replace h := g
          clear g
          (repeat ((conv => whnf); first | refine ⟨by kernel_rfl, ?_⟩ | refine bct c8 ?_)); (conv => whnf)
          exact ret_some (f := fun y => .one (.p (.v (.bool y)))) (g := fun y => []) h hQ
        · replace h := g
          clear g
          (repeat ((conv => whnf); first | refine ⟨by kernel_rfl, ?_⟩ | refine bcf c8 ?_)); (conv => whnf)
          exact ih1 _  (wrL hs1 hl1 hi1) h
      · replace h := g
        clear g
        (repeat ((conv => whnf); first | refine ⟨by kernel_rfl, ?_⟩ | refine bcf c5 ?_ | refine bcf c4 ?_)); (conv => whnf)
        exact ih1 _  (wrL hs1 hl1 hi1) h
  · rw [list_May_l1] at h
    refine loop_intro hX ?_
    (repeat ((conv => whnf); first | refine ⟨by kernel_rfl, ?_⟩ | refine bcf (lt_end hi1) ?_)); (conv => whnf)
    exact ret_some (f := fun y => .one (.p (.v (.bool y)))) (g := fun y => []) h hQ
def list_find_l1 (p0 : List Item) (p1 : ByteArray) : Nat → Int → Int → Option (Int × Bool)
  | 0, _, _ => none
  | fl1 + 1, v1, v2 =>
    (br (ltI v2 v1)
      (bnd (atL p0 (wr .i64 (shrI .u64 (wr .u64 (wr .i64 (v2 + v1))) 1))) fun x4 =>
        (br (!eqS x4.id x4.id)
          (br (!eqS p1 p1)
            (list_find_l1 p0 p1 fl1 (wr .i64 (shrI .u64 (wr .u64 (wr .i64 (v2 + v1))) 1)) v2)
            (list_find_l1 p0 p1 fl1 v1 (wr .i64 ((wr .i64 (shrI .u64 (wr .u64 (wr .i64 (v2 + v1))) 1)) + 1))))
          (br (!eqS p1 p1)
            (list_find_l1 p0 p1 fl1 (wr .i64 (shrI .u64 (wr .u64 (wr .i64 (v2 + v1))) 1)) v2)
            (br (ltS x4.id p1)
              (list_find_l1 p0 p1 fl1 v1 (wr .i64 ((wr .i64 (shrI .u64 (wr .u64 (wr .i64 (v2 + v1))) 1)) + 1)))
              (br (!(ltS x4.id p1 || eqS x4.id p1))
                (list_find_l1 p0 p1 fl1 (wr .i64 (shrI .u64 (wr .u64 (wr .i64 (v2 + v1))) 1)) v2)
                (list_find_l1 p0 p1 fl1 (wr .i64 (shrI .u64 (wr .u64 (wr .i64 (v2 + v1))) 1)) v2))))))
      (br (ltI v2 (p0.length : Int))
        (bnd (atL p0 v2) fun x12 =>
          (br (!eqS x12.id x12.id)
            (br (!eqS p1 p1)
              (some (v2, true))
              (some (v2, false)))
            (br (!eqS p1 p1)
              (some (v2, false))
              (br (ltS x12.id p1)
                (some (v2, false))
                (br (!(ltS x12.id p1 || eqS x12.id p1))
                  (some (v2, false))
                  (some (v2, true)))))))
        (some (v2, false))))
def list_find_s (p0 : List Item) (p1 : ByteArray) : Option (Int × Bool) :=
  ((list_find_l1 p0 p1) fuelN (p0.length : Int) 0)
theorem list_find_c {X : Task → Prop} (hX : Closed X) {p0 : List Item} {p1 : ByteArray} {r : Int × Bool} {Q : A → List Blk → Prop} (h : list_find_s p0 p1 = some r) (hQ : Q (.tup [iv r.1, .one (.p (.v (.bool r.2)))]) []) : X (.call 98 [.one (.p (.sl (p0.map Item.row))), .one (.p (.v (.string p1)))] [] Q) := by
  unfold list_find_s at h
  refine call_intro hX Try.func98 rfl rfl ?_
  (repeat ((conv => whnf); first | refine ⟨by kernel_rfl, ?_⟩)); (conv => whnf)
  refine call_intro hX Try.func143 rfl rfl ?_
  (repeat ((conv => whnf); first | refine ⟨by kernel_rfl, ?_⟩ | refine eqv_to (map_len _) ?_)); (conv => whnf)
  refine loop_fuel2 (fun (v1 : Int) (v2 : Int) => pad [(0, .one (.p (.sl (p0.map Item.row)))), (0, .one (.p (.v (.string p1)))), (0, .one (.fn 144 [])), (5, iv (p0.length : Int)), (0, iv v2), (0, iv v1)] 38) (fun (v1 : Int) (v2 : Int) => []) _ (fun _ _ h => ?_) (fun fl1 v1 v2 h ih1 => ?_) fuelN (p0.length : Int) 0 h
  · rw [list_find_l1] at h
    cases h
  · rw [list_find_l1] at h
    refine loop_intro hX ?_
    (repeat ((conv => whnf); first | refine ⟨by kernel_rfl, ?_⟩)); (conv => whnf)
    refine br_some h (fun c3 g => ?_) (fun c3 g => ?_)
    · replace h := g
      clear g
      replace h := bnd_some h
      obtain ⟨x4, a5, h⟩ := h
      (repeat ((conv => whnf); first | refine ⟨by kernel_rfl, ?_⟩ | refine bct c3 ?_ | refine bct (at_in a5) ?_ | refine bct (andt (at_in a5) rfl) ?_ | refine row_in (at_row a5) ?_ | refine bct (andt (at_in (at_nat a5)) rfl) ?_ | refine row_in (at_row (at_nat a5)) ?_)); (conv => whnf)
      refine call_intro hX Try.func144 rfl rfl ?_
      (repeat ((conv => whnf); first | refine ⟨by kernel_rfl, ?_⟩)); (conv => whnf)
      refine call_intro hX Try.func145 rfl rfl ?_
      (repeat ((conv => whnf); first | refine ⟨by kernel_rfl, ?_⟩)); (conv => whnf)
      refine call_intro hX Try.func166 rfl rfl ?_
      (repeat ((conv => whnf); first | refine ⟨by kernel_rfl, ?_⟩)); (conv => whnf)
      refine call_intro hX Try.func166 rfl rfl ?_
      (repeat ((conv => whnf); first | refine ⟨by kernel_rfl, ?_⟩)); (conv => whnf)
      refine br_some h (fun c6 g => ?_) (fun c6 g => ?_)
      · replace h := g
        clear g
        (repeat ((conv => whnf); first | refine ⟨by kernel_rfl, ?_⟩ | refine bct c6 ?_)); (conv => whnf)
        refine br_some h (fun c7 g => ?_) (fun c7 g => ?_)
        · replace h := g
          clear g
          (repeat ((conv => whnf); first | refine ⟨by kernel_rfl, ?_⟩ | refine bct c7 ?_)); (conv => whnf)
          exact ih1 (wr .i64 (shrI .u64 (wr .u64 (wr .i64 (v2 + v1))) 1)) v2 h
        · replace h := g
          clear g
          (repeat ((conv => whnf); first | refine ⟨by kernel_rfl, ?_⟩ | refine bcf c7 ?_)); (conv => whnf)
          exact ih1 v1 (wr .i64 ((wr .i64 (shrI .u64 (wr .u64 (wr .i64 (v2 + v1))) 1)) + 1)) h
      · replace h := g
        clear g
        (repeat ((conv => whnf); first | refine ⟨by kernel_rfl, ?_⟩ | refine bcf c6 ?_)); (conv => whnf)
        refine br_some h (fun c8 g => ?_) (fun c8 g => ?_)
        · replace h := g
          clear g
          (repeat ((conv => whnf); first | refine ⟨by kernel_rfl, ?_⟩ | refine bct c8 ?_)); (conv => whnf)
          exact ih1 (wr .i64 (shrI .u64 (wr .u64 (wr .i64 (v2 + v1))) 1)) v2 h
        · replace h := g
          clear g
          (repeat ((conv => whnf); first | refine ⟨by kernel_rfl, ?_⟩ | refine bcf c8 ?_)); (conv => whnf)
          refine br_some h (fun c9 g => ?_) (fun c9 g => ?_)
          · replace h := g
            clear g
            (repeat ((conv => whnf); first | refine ⟨by kernel_rfl, ?_⟩ | refine bct c9 ?_)); (conv => whnf)
            exact ih1 v1 (wr .i64 ((wr .i64 (shrI .u64 (wr .u64 (wr .i64 (v2 + v1))) 1)) + 1)) h
          · replace h := g
            clear g
            (repeat ((conv => whnf); first | refine ⟨by kernel_rfl, ?_⟩ | refine bcf c9 ?_)); (conv => whnf)
            refine br_some h (fun c10 g => ?_) (fun c10 g => ?_)
            · replace h := g
              clear g
              (repeat ((conv => whnf); first | refine ⟨by kernel_rfl, ?_⟩ | refine bct c10 ?_)); (conv => whnf)
              exact ih1 (wr .i64 (shrI .u64 (wr .u64 (wr .i64 (v2 + v1))) 1)) v2 h
            · replace h := g
              clear g
              (repeat ((conv => whnf); first | refine ⟨by kernel_rfl, ?_⟩ | refine bcf c10 ?_)); (conv => whnf)
              exact ih1 (wr .i64 (shrI .u64 (wr .u64 (wr .i64 (v2 + v1))) 1)) v2 h
    · replace h := g
      clear g
      (repeat ((conv => whnf); first | refine ⟨by kernel_rfl, ?_⟩ | refine bcf c3 ?_)); (conv => whnf)
      refine br_some h (fun c11 g => ?_) (fun c11 g => ?_)
      · replace h := g
        clear g
        replace h := bnd_some h
        obtain ⟨x12, a13, h⟩ := h
        (repeat ((conv => whnf); first | refine ⟨by kernel_rfl, ?_⟩ | refine bct c11 ?_ | refine bct (at_in a13) ?_ | refine bct (andt (at_in a13) rfl) ?_ | refine row_in (at_row a13) ?_ | refine bct (andt (at_in (at_nat a13)) rfl) ?_ | refine row_in (at_row (at_nat a13)) ?_)); (conv => whnf)
        refine call_intro hX Try.func144 rfl rfl ?_
        (repeat ((conv => whnf); first | refine ⟨by kernel_rfl, ?_⟩)); (conv => whnf)
        refine call_intro hX Try.func145 rfl rfl ?_
        (repeat ((conv => whnf); first | refine ⟨by kernel_rfl, ?_⟩)); (conv => whnf)
        refine call_intro hX Try.func166 rfl rfl ?_
        (repeat ((conv => whnf); first | refine ⟨by kernel_rfl, ?_⟩)); (conv => whnf)
        refine call_intro hX Try.func166 rfl rfl ?_
        (repeat ((conv => whnf); first | refine ⟨by kernel_rfl, ?_⟩)); (conv => whnf)
        refine br_some h (fun c14 g => ?_) (fun c14 g => ?_)
        · replace h := g
          clear g
          (repeat ((conv => whnf); first | refine ⟨by kernel_rfl, ?_⟩ | refine bct c14 ?_)); (conv => whnf)
          refine br_some h (fun c15 g => ?_) (fun c15 g => ?_)
          · replace h := g
            clear g
            (repeat ((conv => whnf); first | refine ⟨by kernel_rfl, ?_⟩ | refine bct c15 ?_ | refine bct c11 ?_)); (conv => whnf)
            exact ret_some (f := fun y => .tup [iv y.1, .one (.p (.v (.bool y.2)))]) (g := fun y => []) h hQ
          · replace h := g
            clear g
            (repeat ((conv => whnf); first | refine ⟨by kernel_rfl, ?_⟩ | refine bcf c15 ?_ | refine bct c11 ?_)); (conv => whnf)
            exact ret_some (f := fun y => .tup [iv y.1, .one (.p (.v (.bool y.2)))]) (g := fun y => []) h hQ
        · replace h := g
          clear g
          (repeat ((conv => whnf); first | refine ⟨by kernel_rfl, ?_⟩ | refine bcf c14 ?_)); (conv => whnf)
          refine br_some h (fun c16 g => ?_) (fun c16 g => ?_)
          · replace h := g
            clear g
            (repeat ((conv => whnf); first | refine ⟨by kernel_rfl, ?_⟩ | refine bct c16 ?_ | refine bct c11 ?_)); (conv => whnf)
            exact ret_some (f := fun y => .tup [iv y.1, .one (.p (.v (.bool y.2)))]) (g := fun y => []) h hQ
          · replace h := g
            clear g
            (repeat ((conv => whnf); first | refine ⟨by kernel_rfl, ?_⟩ | refine bcf c16 ?_)); (conv => whnf)
            refine br_some h (fun c17 g => ?_) (fun c17 g => ?_)
            · replace h := g
              clear g
              (repeat ((conv => whnf); first | refine ⟨by kernel_rfl, ?_⟩ | refine bct c17 ?_ | refine bct c11 ?_)); (conv => whnf)
              exact ret_some (f := fun y => .tup [iv y.1, .one (.p (.v (.bool y.2)))]) (g := fun y => []) h hQ
            · replace h := g
              clear g
              (repeat ((conv => whnf); first | refine ⟨by kernel_rfl, ?_⟩ | refine bcf c17 ?_)); (conv => whnf)
              refine br_some h (fun c18 g => ?_) (fun c18 g => ?_)
              · replace h := g
                clear g
                (repeat ((conv => whnf); first | refine ⟨by kernel_rfl, ?_⟩ | refine bct c18 ?_ | refine bct c11 ?_)); (conv => whnf)
                exact ret_some (f := fun y => .tup [iv y.1, .one (.p (.v (.bool y.2)))]) (g := fun y => []) h hQ
              · replace h := g
                clear g
                (repeat ((conv => whnf); first | refine ⟨by kernel_rfl, ?_⟩ | refine bcf c18 ?_ | refine bct c11 ?_)); (conv => whnf)
                exact ret_some (f := fun y => .tup [iv y.1, .one (.p (.v (.bool y.2)))]) (g := fun y => []) h hQ
      · replace h := g
        clear g
        (repeat ((conv => whnf); first | refine ⟨by kernel_rfl, ?_⟩ | refine bcf c11 ?_)); (conv => whnf)
        exact ret_some (f := fun y => .tup [iv y.1, .one (.p (.v (.bool y.2)))]) (g := fun y => []) h hQ
def list_Get_s (p0 : List Item) (p1 : ByteArray) : Option (Item × Bool) :=
  (bnd (list_find_s p0 p1) fun y1 =>
    (br y1.2
      (bnd (atL p0 y1.1) fun x4 =>
        some (x4, true))
      (some ((Item.mk ⟨#[]⟩ 0 0 0 ⟨#[]⟩ 0 0 0 false), false))))
theorem list_Get_c {X : Task → Prop} (hX : Closed X) {p0 : List Item} {p1 : ByteArray} {r : Item × Bool} {Q : A → List Blk → Prop} (h : list_Get_s p0 p1 = some r) (hQ : Q (.tup [.agg [.p (.v (.string r.1.id)), ic r.1.vr, ic r.1.vc, ic r.1.stamp, .p (.v (.string r.1.kind)), ic r.1.num, .p (.v (.complex .f64 r.1.re r.1.im)), .p (.v (.bool r.1.dead))], .one (.p (.v (.bool r.2)))]) []) : X (.call 49 [.one (.p (.sl (p0.map Item.row))), .one (.p (.v (.string p1)))] [] Q) := by
  unfold list_Get_s at h
  refine call_intro hX Try.func49 rfl rfl ?_
  replace h := bnd_some h
  obtain ⟨y1, e2, h⟩ := h
  (repeat ((conv => whnf); first | refine ⟨by kernel_rfl, ?_⟩)); (conv => whnf)
  refine list_find_c hX e2 ?_
  (repeat ((conv => whnf); first | refine ⟨by kernel_rfl, ?_⟩)); (conv => whnf)
  refine br_some h (fun c3 g => ?_) (fun c3 g => ?_)
  · replace h := g
    clear g
    replace h := bnd_some h
    obtain ⟨x4, a5, h⟩ := h
    (repeat ((conv => whnf); first | refine ⟨by kernel_rfl, ?_⟩ | refine bct c3 ?_ | refine bct (at_in a5) ?_ | refine bct (andt (at_in a5) rfl) ?_ | refine row_in (at_row a5) ?_ | refine bct (andt (at_in (at_nat a5)) rfl) ?_ | refine row_in (at_row (at_nat a5)) ?_)); (conv => whnf)
    exact ret_some (f := fun y => .tup [.agg [.p (.v (.string y.1.id)), ic y.1.vr, ic y.1.vc, ic y.1.stamp, .p (.v (.string y.1.kind)), ic y.1.num, .p (.v (.complex .f64 y.1.re y.1.im)), .p (.v (.bool y.1.dead))], .one (.p (.v (.bool y.2)))]) (g := fun y => []) h hQ
  · replace h := g
    clear g
    (repeat ((conv => whnf); first | refine ⟨by kernel_rfl, ?_⟩ | refine bcf c3 ?_)); (conv => whnf)
    exact ret_some (f := fun y => .tup [.agg [.p (.v (.string y.1.id)), ic y.1.vr, ic y.1.vc, ic y.1.stamp, .p (.v (.string y.1.kind)), ic y.1.num, .p (.v (.complex .f64 y.1.re y.1.im)), .p (.v (.bool y.1.dead))], .one (.p (.v (.bool y.2)))]) (g := fun y => []) h hQ
def list_Put_s (p0 : List Item) (p1 : Item) : Option ((List Item)) :=
  (bnd (list_find_s p0 p1.id) fun y1 =>
    (bnd (clone_s p0) fun y3 =>
      (br y1.2
        (bnd (atL y3 y1.1) fun x6 =>
          some (y3.set y1.1.toNat p1))
        (bnd (ins_s y3 y1.1 p1) fun y8 =>
          some y8))))
theorem list_Put_c {X : Task → Prop} (hX : Closed X) {p0 : List Item} {p1 : Item} {r : (List Item)} {Q : A → List Blk → Prop} (h : list_Put_s p0 p1 = some r) (hQ : Q (.one (.p (.sl (r.map Item.row)))) []) : X (.call 53 [.one (.p (.sl (p0.map Item.row))), .agg [.p (.v (.string p1.id)), ic p1.vr, ic p1.vc, ic p1.stamp, .p (.v (.string p1.kind)), ic p1.num, .p (.v (.complex .f64 p1.re p1.im)), .p (.v (.bool p1.dead))]] [] Q) := by
  unfold list_Put_s at h
  refine call_nz hX ?_
  conv => whnf
  refine call_intro hX Try.func53 rfl rfl ?_
  replace h := bnd_some h
  obtain ⟨y1, e2, h⟩ := h
  (repeat ((conv => whnf); first | refine ⟨by kernel_rfl, ?_⟩)); (conv => whnf)
  refine list_find_c hX e2 ?_
  replace h := bnd_some h
  obtain ⟨y3, e4, h⟩ := h
  (repeat ((conv => whnf); first | refine ⟨by kernel_rfl, ?_⟩)); (conv => whnf)
  refine clone_c (f := Item.row) (k := 8) (fun _ => rfl) (by decide) hX e4 ?_
  (repeat ((conv => whnf); first | refine ⟨by kernel_rfl, ?_⟩)); (conv => whnf)
  refine br_some h (fun c5 g => ?_) (fun c5 g => ?_)
  · replace h := g
    clear g
    replace h := bnd_some h
    obtain ⟨x6, a7, h⟩ := h
    (repeat ((conv => whnf); first | refine ⟨by kernel_rfl, ?_⟩ | refine bct c5 ?_ | refine bct (at_in a7) ?_ | refine bct (andt (at_in a7) rfl) ?_ | refine row_in (at_row a7) ?_ | refine bct (andt (at_in (at_nat a7)) rfl) ?_ | refine row_in (at_row (at_nat a7)) ?_ | refine eqv_to (set_map (f := Item.row) y3 y1.1.toNat p1) ?_)); (conv => whnf)
    exact ret_some (f := fun y => .one (.p (.sl (y.map Item.row)))) (g := fun y => []) h hQ
  · replace h := g
    clear g
    replace h := bnd_some h
    obtain ⟨y8, e9, h⟩ := h
    (repeat ((conv => whnf); first | refine ⟨by kernel_rfl, ?_⟩ | refine bcf c5 ?_)); (conv => whnf)
    refine Or.inr (Or.inr ?_)
    conv => whnf
    refine ins_c hX (l := y3) (i := y1.1) (x := p1) e9 ?_
    (repeat ((conv => whnf); first | refine ⟨by kernel_rfl, ?_⟩)); (conv => whnf)
    exact ret_some (f := fun y => .one (.p (.sl (y.map Item.row)))) (g := fun y => []) h hQ
def list_Drop_s (p0 : List Item) (p1 : ByteArray) : Option ((List Item)) :=
  (bnd (clone_s p0) fun y1 =>
    (bnd (list_find_s p0 p1) fun y3 =>
      (br y3.2
        (bnd (del_s y1 y3.1) fun y6 =>
          some y6)
        (some y1))))
theorem list_Drop_c {X : Task → Prop} (hX : Closed X) {p0 : List Item} {p1 : ByteArray} {r : (List Item)} {Q : A → List Blk → Prop} (h : list_Drop_s p0 p1 = some r) (hQ : Q (.one (.p (.sl (r.map Item.row)))) []) : X (.call 55 [.one (.p (.sl (p0.map Item.row))), .one (.p (.v (.string p1)))] [] Q) := by
  unfold list_Drop_s at h
  refine call_nz hX ?_
  conv => whnf
  refine call_intro hX Try.func55 rfl rfl ?_
  replace h := bnd_some h
  obtain ⟨y1, e2, h⟩ := h
  (repeat ((conv => whnf); first | refine ⟨by kernel_rfl, ?_⟩)); (conv => whnf)
  refine clone_c (f := Item.row) (k := 8) (fun _ => rfl) (by decide) hX e2 ?_
  replace h := bnd_some h
  obtain ⟨y3, e4, h⟩ := h
  (repeat ((conv => whnf); first | refine ⟨by kernel_rfl, ?_⟩)); (conv => whnf)
  refine list_find_c hX e4 ?_
  (repeat ((conv => whnf); first | refine ⟨by kernel_rfl, ?_⟩)); (conv => whnf)
  refine br_some h (fun c5 g => ?_) (fun c5 g => ?_)
  · replace h := g
    clear g
    replace h := bnd_some h
    obtain ⟨y6, e7, h⟩ := h
    (repeat ((conv => whnf); first | refine ⟨by kernel_rfl, ?_⟩ | refine bct c5 ?_)); (conv => whnf)
    refine Or.inr (Or.inr ?_)
    conv => whnf
    refine del_c hX (l := y1) (i := y3.1) e7 ?_
    (repeat ((conv => whnf); first | refine ⟨by kernel_rfl, ?_⟩)); (conv => whnf)
    exact ret_some (f := fun y => .one (.p (.sl (y.map Item.row)))) (g := fun y => []) h hQ
  · replace h := g
    clear g
    (repeat ((conv => whnf); first | refine ⟨by kernel_rfl, ?_⟩ | refine bcf c5 ?_)); (conv => whnf)
    exact ret_some (f := fun y => .one (.p (.sl (y.map Item.row)))) (g := fun y => []) h hQ
def list_Both_l1 : Nat → (List Item) → (List Item) → (List Item) → Option ((List Item))
  | 0, _, _, _ => none
  | fl1 + 1, v1, v2, v3 =>
    (br (ltI 0 (v1.length : Int))
      (br (ltI 0 (v3.length : Int))
        (bnd (atL v1 0) fun x6 =>
          (bnd (atL v3 0) fun x8 =>
            (br (ltS x6.id x8.id)
              (chk (roomL v2.length 1)
                (chk (leI 1 (v1.length : Int))
                  (list_Both_l1 fl1 (v1.drop 1) (v2 ++ [x6]) v3)))
              (br (!(ltS x6.id x8.id || eqS x6.id x8.id))
                (chk (roomL v2.length 1)
                  (chk (leI 1 (v3.length : Int))
                    (list_Both_l1 fl1 v1 (v2 ++ [x8]) (v3.drop 1))))
                (bnd (item_Compare_s x8 x6) fun y16 =>
                  (br (ltI 0 y16)
                    (chk (leI 1 (v1.length : Int))
                      (list_Both_l1 fl1 (v1.drop 1) v2 v3))
                    (chk (leI 1 (v3.length : Int))
                      (list_Both_l1 fl1 v1 v2 (v3.drop 1)))))))))
        (chk (roomL v2.length v1.length)
          (chk (roomL (v2 ++ v1).length v3.length)
            (some ((v2 ++ v1) ++ v3)))))
      (chk (roomL v2.length v1.length)
        (chk (roomL (v2 ++ v1).length v3.length)
          (some ((v2 ++ v1) ++ v3)))))
def list_Both_s (p0 : List Item) (p1 : List Item) : Option ((List Item)) :=
  ((list_Both_l1) fuelN p0 ([] : List Item) p1)
theorem list_Both_c {X : Task → Prop} (hX : Closed X) {p0 : List Item} {p1 : List Item} {r : (List Item)} {Q : A → List Blk → Prop} (h : list_Both_s p0 p1 = some r) (hQ : Q (.one (.p (.sl (r.map Item.row)))) []) : X (.call 57 [.one (.p (.sl (p0.map Item.row))), .one (.p (.sl (p1.map Item.row)))] [] Q) := by
  unfold list_Both_s at h
  refine call_nz hX ?_
  conv => whnf
  refine call_intro hX Try.func57 rfl rfl ?_
  (repeat ((conv => whnf); first | refine ⟨by kernel_rfl, ?_⟩)); (conv => whnf)
  refine loop_k hX [8] ?_
  conv => whnf
  refine loop_fuel3 (fun (v1 : List Item) (v2 : List Item) (v3 : List Item) => pad [(0, .one (.p (.sl (v1.map Item.row)))), (0, .one (.p (.sl (v3.map Item.row)))), (3, .one (.own 0))] 62) (fun (v1 : List Item) (v2 : List Item) (v3 : List Item) => [.rows 8 (v2.map Item.row)]) _ (fun _ _ _ h => ?_) (fun fl1 v1 v2 v3 h ih1 => ?_) fuelN p0 ([] : List Item) p1 h
  · rw [list_Both_l1] at h
    cases h
  · rw [list_Both_l1] at h
    refine loop_intro hX ?_
    (repeat ((conv => whnf); first | refine ⟨by kernel_rfl, ?_⟩ | refine eqv_to (map_len _) ?_)); (conv => whnf)
    refine br_some h (fun c4 g => ?_) (fun c4 g => ?_)
    · replace h := g
      clear g
      (repeat ((conv => whnf); first | refine ⟨by kernel_rfl, ?_⟩ | refine bct c4 ?_ | refine eqv_to (map_len _) ?_)); (conv => whnf)
      refine br_some h (fun c5 g => ?_) (fun c5 g => ?_)
      · replace h := g
        clear g
        replace h := bnd_some h
        obtain ⟨x6, a7, h⟩ := h
        replace h := bnd_some h
        obtain ⟨x8, a9, h⟩ := h
        (repeat ((conv => whnf); first | refine ⟨by kernel_rfl, ?_⟩ | refine bct c5 ?_ | refine bct (at_in a7) ?_ | refine bct (andt (at_in a7) rfl) ?_ | refine row_in (at_row a7) ?_ | refine bct (andt (at_in (at_nat a7)) rfl) ?_ | refine row_in (at_row (at_nat a7)) ?_ | refine bct (at_in a9) ?_ | refine bct (andt (at_in a9) rfl) ?_ | refine row_in (at_row a9) ?_ | refine bct (andt (at_in (at_nat a9)) rfl) ?_ | refine row_in (at_row (at_nat a9)) ?_)); (conv => whnf)
        refine br_some h (fun c10 g => ?_) (fun c10 g => ?_)
        · replace h := g
          clear g
          replace h := chk_some h
          obtain ⟨c11, h⟩ := h
          replace h := chk_some h
          obtain ⟨c12, h⟩ := h
          (repeat ((conv => whnf); first | refine ⟨by kernel_rfl, ?_⟩ | refine bct c10 ?_ | refine bct (at_in a7) ?_ | refine bct (andt (at_in a7) rfl) ?_ | refine row_in (at_row a7) ?_ | refine bct (andt (at_in (at_nat a7)) rfl) ?_ | refine row_in (at_row (at_nat a7)) ?_ | refine bct (room_map c11 rfl rfl rfl rfl) ?_ | refine eqv_to (cat_one (f := Item.row) v2 x6) ?_ | refine bct (drop_ok (f := Item.row) 1 (sz := 8) c12 (fun _ => rfl)) ?_ | refine eqv_to (in_drop (f := Item.row) v1 1) ?_)); (conv => whnf)
          exact ih1 (v1.drop 1) (v2 ++ [x6]) v3 h
        · replace h := g
          clear g
          (repeat ((conv => whnf); first | refine ⟨by kernel_rfl, ?_⟩ | refine bcf c10 ?_ | refine bct (at_in a7) ?_ | refine bct (andt (at_in a7) rfl) ?_ | refine row_in (at_row a7) ?_ | refine bct (andt (at_in (at_nat a7)) rfl) ?_ | refine row_in (at_row (at_nat a7)) ?_ | refine bct (at_in a9) ?_ | refine bct (andt (at_in a9) rfl) ?_ | refine row_in (at_row a9) ?_ | refine bct (andt (at_in (at_nat a9)) rfl) ?_ | refine row_in (at_row (at_nat a9)) ?_)); (conv => whnf)
          refine br_some h (fun c13 g => ?_) (fun c13 g => ?_)
          · replace h := g
            clear g
            replace h := chk_some h
            obtain ⟨c14, h⟩ := h
            replace h := chk_some h
            obtain ⟨c15, h⟩ := h
            (repeat ((conv => whnf); first | refine ⟨by kernel_rfl, ?_⟩ | refine bct c13 ?_ | refine bct (at_in a9) ?_ | refine bct (andt (at_in a9) rfl) ?_ | refine row_in (at_row a9) ?_ | refine bct (andt (at_in (at_nat a9)) rfl) ?_ | refine row_in (at_row (at_nat a9)) ?_ | refine bct (room_map c14 rfl rfl rfl rfl) ?_ | refine eqv_to (cat_one (f := Item.row) v2 x8) ?_ | refine bct (drop_ok (f := Item.row) 1 (sz := 8) c15 (fun _ => rfl)) ?_ | refine eqv_to (in_drop (f := Item.row) v3 1) ?_)); (conv => whnf)
            exact ih1 v1 (v2 ++ [x8]) (v3.drop 1) h
          · replace h := g
            clear g
            replace h := bnd_some h
            obtain ⟨y16, e17, h⟩ := h
            (repeat ((conv => whnf); first | refine ⟨by kernel_rfl, ?_⟩ | refine bcf c13 ?_ | refine bct (at_in a9) ?_ | refine bct (andt (at_in a9) rfl) ?_ | refine row_in (at_row a9) ?_ | refine bct (andt (at_in (at_nat a9)) rfl) ?_ | refine row_in (at_row (at_nat a9)) ?_ | refine bct (at_in a7) ?_ | refine bct (andt (at_in a7) rfl) ?_ | refine row_in (at_row a7) ?_ | refine bct (andt (at_in (at_nat a7)) rfl) ?_ | refine row_in (at_row (at_nat a7)) ?_)); (conv => whnf)
            refine item_Compare_c hX e17 ?_
            (repeat ((conv => whnf); first | refine ⟨by kernel_rfl, ?_⟩)); (conv => whnf)
            refine br_some h (fun c18 g => ?_) (fun c18 g => ?_)
            · replace h := g
              clear g
              replace h := chk_some h
              obtain ⟨c19, h⟩ := h
              (repeat ((conv => whnf); first | refine ⟨by kernel_rfl, ?_⟩ | refine bct c18 ?_ | refine bct (drop_ok (f := Item.row) 1 (sz := 8) c19 (fun _ => rfl)) ?_ | refine eqv_to (in_drop (f := Item.row) v1 1) ?_)); (conv => whnf)
              exact ih1 (v1.drop 1) v2 v3 h
            · replace h := g
              clear g
              replace h := chk_some h
              obtain ⟨c20, h⟩ := h
              (repeat ((conv => whnf); first | refine ⟨by kernel_rfl, ?_⟩ | refine bcf c18 ?_ | refine bct (drop_ok (f := Item.row) 1 (sz := 8) c20 (fun _ => rfl)) ?_ | refine eqv_to (in_drop (f := Item.row) v3 1) ?_)); (conv => whnf)
              exact ih1 v1 v2 (v3.drop 1) h
      · replace h := g
        clear g
        replace h := chk_some h
        obtain ⟨c21, h⟩ := h
        replace h := chk_some h
        obtain ⟨c22, h⟩ := h
        (repeat ((conv => whnf); first | refine ⟨by kernel_rfl, ?_⟩ | refine bcf c5 ?_ | refine bct (room_map c21 (List.length_map ..) rfl (rowsOk_map (f := Item.row) (sz := 8) (fun _ => rfl) _) rfl) ?_ | refine eqv_to (cat_map (f := Item.row) v2 _) ?_ | refine bct (room_map c22 (List.length_map ..) rfl (rowsOk_map (f := Item.row) (sz := 8) (fun _ => rfl) _) rfl) ?_ | refine eqv_to (cat_map (f := Item.row) (v2 ++ v1) _) ?_)); (conv => whnf)
        exact ret_some (f := fun y => .one (.p (.sl (y.map Item.row)))) (g := fun y => []) h hQ
    · replace h := g
      clear g
      replace h := chk_some h
      obtain ⟨c23, h⟩ := h
      replace h := chk_some h
      obtain ⟨c24, h⟩ := h
      (repeat ((conv => whnf); first | refine ⟨by kernel_rfl, ?_⟩ | refine bcf c4 ?_ | refine bct (room_map c23 (List.length_map ..) rfl (rowsOk_map (f := Item.row) (sz := 8) (fun _ => rfl) _) rfl) ?_ | refine eqv_to (cat_map (f := Item.row) v2 _) ?_ | refine bct (room_map c24 (List.length_map ..) rfl (rowsOk_map (f := Item.row) (sz := 8) (fun _ => rfl) _) rfl) ?_ | refine eqv_to (cat_map (f := Item.row) (v2 ++ v1) _) ?_)); (conv => whnf)
      exact ret_some (f := fun y => .one (.p (.sl (y.map Item.row)))) (g := fun y => []) h hQ
end
end Go.Proofs.Ytijkfjahgijphaa
