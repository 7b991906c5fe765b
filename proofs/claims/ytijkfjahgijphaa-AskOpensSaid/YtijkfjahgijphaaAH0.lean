/- What the statements hand in. Written by decomp.py. -/
import Derived.Test.YtijkfjahgijphaaAG1b
import Derived.Test.YtijkfjahgijphaaALoops
set_option linter.unusedVariables false
set_option linter.unusedSimpArgs false
set_option maxRecDepth 100000
set_option maxHeartbeats 0
namespace Go.Proofs.Ytijkfjahgijphaa
open Go E
noncomputable section
open Pred
def law00_Items_l1 : List Item → (List Item) → Option ((List Item))
  | [], v2 =>
    some v2
  | x1e :: xs1, v2 =>
    (bnd (law00_Item_s x1e) fun y3 =>
      (chk (roomL v2.length 1)
        (law00_Items_l1 xs1  (v2 ++ [y3]))))
def law00_Items_s (p0 : List Item) : Option ((List Item)) :=
  (chk (smallL p0)
    ((law00_Items_l1) p0 ([] : List Item)))
theorem law00_Items_c {X : Task → Prop} (hX : Closed X) {p0 : List Item} {r : (List Item)} {Q : A → List Blk → Prop} (h : law00_Items_s p0 = some r) (hQ : Q (.one (.p (.sl (r.map Item.row)))) []) : X (.call 45 [.one (.p (.sl (p0.map Item.lrow)))] [] Q) := by
  unfold law00_Items_s at h
  refine call_nz hX ?_
  conv => whnf
  refine call_intro hX Try.func45 rfl rfl ?_
  obtain ⟨hs1, h⟩ := chk_some h
  (repeat ((conv => whnf); first | refine ⟨by kernel_rfl, ?_⟩)); (conv => whnf)
  refine loop_k hX [8] ?_
  conv => whnf
  refine loop_lisx1 (fun (v1 : Int) (v2 : List Item) => pad [(0, .one (.p (.sl (p0.map Item.lrow)))), (2, .one (.own 0)), (0, iv v1)] 15) (fun (v1 : Int) (v2 : List Item) => [.rows 8 (v2.map Item.row)]) _ p0 (fun pre1 x1e xs1 v1 v2 hl1 hi1 h ih1 => ?_) (fun v1 v2 hi1 h => ?_) ([] : List Item) h
  · rw [law00_Items_l1] at h
    have am1 := at_mid hl1 hi1
    refine loop_intro hX ?_
    replace h := bnd_some h
    obtain ⟨y3, e4, h⟩ := h
    (repeat ((conv => whnf); first | refine ⟨by kernel_rfl, ?_⟩ | refine eqv_to (map_len _) ?_ | refine bct (lt_mid hl1 hi1) ?_ | refine bct (at_in am1) ?_ | refine bct (andt (at_in am1) rfl) ?_ | refine row_in (at_row am1) ?_ | refine bct (andt (at_in (at_nat am1)) rfl) ?_ | refine row_in (at_row (at_nat am1)) ?_)); (conv => whnf)
    refine law00_Item_c hX e4 ?_
    replace h := chk_some h
    obtain ⟨c5, h⟩ := h
    (repeat ((conv => whnf); first | refine ⟨by kernel_rfl, ?_⟩ | refine bct (room_map c5 rfl rfl rfl rfl) ?_ | refine eqv_to (cat_one (f := Item.row) v2 y3) ?_)); (conv => whnf)
    exact ih1 _ (v2 ++ [y3]) (wrL hs1 hl1 hi1) h
  · rw [law00_Items_l1] at h
    refine loop_intro hX ?_
    (repeat ((conv => whnf); first | refine ⟨by kernel_rfl, ?_⟩ | refine eqv_to (map_len _) ?_ | refine bcf (lt_end hi1) ?_)); (conv => whnf)
    exact ret_some (f := fun y => .one (.p (.sl (y.map Item.row)))) (g := fun y => []) h hQ
def law00_Known_l1 : List Frag → Option (Int)
  | [] =>
    some 1
  | x1e :: xs1 =>
    (br (ltI 60 (x1e.ids.length : Int))
      (some 0)
      (law00_Known_l1 xs1  ))
def law00_Known_s (p0 : Know) : Option (Int) :=
  (br (ltI 30 (p0.l.length : Int))
    (some 0)
    (chk (smallL p0.l)
      ((law00_Known_l1) p0.l )))
theorem law00_Known_c {X : Task → Prop} (hX : Closed X) {p0 : Know} {r : Int} {Q : A → List Blk → Prop} (h : law00_Known_s p0 = some r) (hQ : Q (iv r) []) : X (.call 62 [.agg [ic p0.star.x0, ic p0.star.x1, ic p0.star.x2, ic p0.star.x3, ic p0.star.x4, ic p0.star.x5, ic p0.star.x6, ic p0.star.x7, .p (.sl (p0.l.map Frag.row))]] [] Q) := by
  unfold law00_Known_s at h
  refine call_intro hX Try.func62 rfl rfl ?_
  (repeat ((conv => whnf); first | refine ⟨by kernel_rfl, ?_⟩ | refine eqv_to (map_len _) ?_)); (conv => whnf)
  refine br_some h (fun c1 g => ?_) (fun c1 g => ?_)
  · replace h := g
    clear g
    (repeat ((conv => whnf); first | refine ⟨by kernel_rfl, ?_⟩ | refine bct c1 ?_)); (conv => whnf)
    exact ret_some (f := fun y => iv y) (g := fun y => []) h hQ
  · replace h := g
    clear g
    obtain ⟨hs1, h⟩ := chk_some h
    (repeat ((conv => whnf); first | refine ⟨by kernel_rfl, ?_⟩ | refine bcf c1 ?_)); (conv => whnf)
    refine loop_lisx0 (fun (v2 : Int) => pad [(1, .one (.ptr 0 0)), (1, iv v2)] 19) (fun (v2 : Int) => [.box [ic p0.star.x0, ic p0.star.x1, ic p0.star.x2, ic p0.star.x3, ic p0.star.x4, ic p0.star.x5, ic p0.star.x6, ic p0.star.x7, .p (.sl (p0.l.map Frag.row))]]) _ p0.l (fun pre1 x1e xs1 v2  hl1 hi1 h ih1 => ?_) (fun v2  hi1 h => ?_)  h
    · rw [law00_Known_l1] at h
      have am1 := at_mid hl1 hi1
      refine loop_intro hX ?_
      (repeat ((conv => whnf); first | refine ⟨by kernel_rfl, ?_⟩ | refine eqv_to (map_len _) ?_ | refine bct (lt_mid hl1 hi1) ?_ | refine bct (at_in am1) ?_ | refine bct (andt (at_in am1) rfl) ?_ | refine row_in (at_row am1) ?_ | refine bct (andt (at_in (at_nat am1)) rfl) ?_ | refine row_in (at_row (at_nat am1)) ?_)); (conv => whnf)
      refine br_some h (fun c3 g => ?_) (fun c3 g => ?_)
      · replace h := g
        clear g
        (repeat ((conv => whnf); first | refine ⟨by kernel_rfl, ?_⟩ | refine bct c3 ?_)); (conv => whnf)
        exact ret_some (f := fun y => iv y) (g := fun y => []) h hQ
      · replace h := g
        clear g
        (repeat ((conv => whnf); first | refine ⟨by kernel_rfl, ?_⟩ | refine bcf c3 ?_)); (conv => whnf)
        exact ih1 _  (wrL hs1 hl1 hi1) h
    · rw [law00_Known_l1] at h
      refine loop_intro hX ?_
      (repeat ((conv => whnf); first | refine ⟨by kernel_rfl, ?_⟩ | refine eqv_to (map_len _) ?_ | refine bcf (lt_end hi1) ?_)); (conv => whnf)
      exact ret_some (f := fun y => iv y) (g := fun y => []) h hQ
def law00_Fits_s (p0 : Sit) : Option (Int) :=
  (br (ltI 60 (p0.store.length : Int))
    (some 0)
    (br (ltI 60 (p0.out.length : Int))
      (some 0)
      (bnd (law00_Small_s p0.f) fun y3 =>
        (bnd (law00_Known_s p0.k) fun y5 =>
          some (wr .i64 (y3 * y5))))))
theorem law00_Fits_c {X : Task → Prop} (hX : Closed X) {p0 : Sit} {r : Int} {Q : A → List Blk → Prop} (h : law00_Fits_s p0 = some r) (hQ : Q (iv r) []) : X (.call 14 [.agg [ic p0.r, ic p0.f.op, .p (.v (.string p0.f.text)), ic p0.f.n, .p (.v (.float .f64 p0.f.re)), .p (.v (.float .f64 p0.f.im)), .p (.sl (Pred.lrows p0.f.kids)), .p (.sl (p0.store.map Item.lrow)), .p (.sl (p0.out.map Item.lrow)), ic p0.k.star.x0, ic p0.k.star.x1, ic p0.k.star.x2, ic p0.k.star.x3, ic p0.k.star.x4, ic p0.k.star.x5, ic p0.k.star.x6, ic p0.k.star.x7, .p (.sl (p0.k.l.map Frag.row)), ic p0.count, ic p0.clock, ic p0.epoch]] [] Q) := by
  unfold law00_Fits_s at h
  refine call_intro hX Try.func14 rfl rfl ?_
  (repeat ((conv => whnf); first | refine ⟨by kernel_rfl, ?_⟩ | refine eqv_to (map_len _) ?_)); (conv => whnf)
  refine br_some h (fun c1 g => ?_) (fun c1 g => ?_)
  · replace h := g
    clear g
    (repeat ((conv => whnf); first | refine ⟨by kernel_rfl, ?_⟩ | refine bct c1 ?_)); (conv => whnf)
    exact ret_some (f := fun y => iv y) (g := fun y => []) h hQ
  · replace h := g
    clear g
    (repeat ((conv => whnf); first | refine ⟨by kernel_rfl, ?_⟩ | refine bcf c1 ?_ | refine eqv_to (map_len _) ?_)); (conv => whnf)
    refine br_some h (fun c2 g => ?_) (fun c2 g => ?_)
    · replace h := g
      clear g
      (repeat ((conv => whnf); first | refine ⟨by kernel_rfl, ?_⟩ | refine bct c2 ?_)); (conv => whnf)
      exact ret_some (f := fun y => iv y) (g := fun y => []) h hQ
    · replace h := g
      clear g
      replace h := bnd_some h
      obtain ⟨y3, e4, h⟩ := h
      (repeat ((conv => whnf); first | refine ⟨by kernel_rfl, ?_⟩ | refine bcf c2 ?_)); (conv => whnf)
      refine law00_Small_c hX e4 ?_
      replace h := bnd_some h
      obtain ⟨y5, e6, h⟩ := h
      (repeat ((conv => whnf); first | refine ⟨by kernel_rfl, ?_⟩)); (conv => whnf)
      refine law00_Known_c hX e6 ?_
      (repeat ((conv => whnf); first | refine ⟨by kernel_rfl, ?_⟩)); (conv => whnf)
      exact ret_some (f := fun y => iv y) (g := fun y => []) h hQ
def law00_State_s (p0 : Sit) : Option (State) :=
  (bnd (law00_Pred_s p0.f) fun y1 =>
    (bnd (law00_Items_s p0.store) fun y3 =>
      (bnd (law00_Items_s p0.out) fun y5 =>
        some (State.mk p0.r y1 y3 y5 p0.k p0.count p0.clock p0.epoch))))
theorem law00_State_c {X : Task → Prop} (hX : Closed X) {p0 : Sit} {r : State} {Q : A → List Blk → Prop} (h : law00_State_s p0 = some r) (hQ : Q (.agg [ic r.r, ic r.f.op, .p (.v (.string r.f.text)), ic r.f.n, .p (.v (.complex .f64 r.f.re r.f.im)), .p (.sl (Pred.rows r.f.kids)), .p (.sl (r.store.map Item.row)), .p (.sl (r.out.map Item.row)), ic r.k.star.x0, ic r.k.star.x1, ic r.k.star.x2, ic r.k.star.x3, ic r.k.star.x4, ic r.k.star.x5, ic r.k.star.x6, ic r.k.star.x7, .p (.sl (r.k.l.map Frag.row)), ic r.count, ic r.clock, ic r.epoch]) []) : X (.call 15 [.agg [ic p0.r, ic p0.f.op, .p (.v (.string p0.f.text)), ic p0.f.n, .p (.v (.float .f64 p0.f.re)), .p (.v (.float .f64 p0.f.im)), .p (.sl (Pred.lrows p0.f.kids)), .p (.sl (p0.store.map Item.lrow)), .p (.sl (p0.out.map Item.lrow)), ic p0.k.star.x0, ic p0.k.star.x1, ic p0.k.star.x2, ic p0.k.star.x3, ic p0.k.star.x4, ic p0.k.star.x5, ic p0.k.star.x6, ic p0.k.star.x7, .p (.sl (p0.k.l.map Frag.row)), ic p0.count, ic p0.clock, ic p0.epoch]] [] Q) := by
  unfold law00_State_s at h
  refine call_nz hX ?_
  conv => whnf
  refine call_intro hX Try.func15 rfl rfl ?_
  replace h := bnd_some h
  obtain ⟨y1, e2, h⟩ := h
  (repeat ((conv => whnf); first | refine ⟨by kernel_rfl, ?_⟩)); (conv => whnf)
  refine law00_Pred_c hX e2 ?_
  replace h := bnd_some h
  obtain ⟨y3, e4, h⟩ := h
  (repeat ((conv => whnf); first | refine ⟨by kernel_rfl, ?_⟩)); (conv => whnf)
  refine law00_Items_c hX e4 ?_
  replace h := bnd_some h
  obtain ⟨y5, e6, h⟩ := h
  (repeat ((conv => whnf); first | refine ⟨by kernel_rfl, ?_⟩)); (conv => whnf)
  refine law00_Items_c hX e6 ?_
  (repeat ((conv => whnf); first | refine ⟨by kernel_rfl, ?_⟩)); (conv => whnf)
  exact ret_some (f := fun y => .agg [ic y.r, ic y.f.op, .p (.v (.string y.f.text)), ic y.f.n, .p (.v (.complex .f64 y.f.re y.f.im)), .p (.sl (Pred.rows y.f.kids)), .p (.sl (y.store.map Item.row)), .p (.sl (y.out.map Item.row)), ic y.k.star.x0, ic y.k.star.x1, ic y.k.star.x2, ic y.k.star.x3, ic y.k.star.x4, ic y.k.star.x5, ic y.k.star.x6, ic y.k.star.x7, .p (.sl (y.k.l.map Frag.row)), ic y.count, ic y.clock, ic y.epoch]) (g := fun y => []) h hQ
end
end Go.Proofs.Ytijkfjahgijphaa
