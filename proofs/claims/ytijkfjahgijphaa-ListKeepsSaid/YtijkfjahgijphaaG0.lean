/- The document's filters made plain. Written by decomp.py. -/
import Derived.Test.YtijkfjahgijphaaCon
import Derived.Test.YtijkfjahgijphaaLoops
set_option linter.unusedVariables false
set_option linter.unusedSimpArgs false
set_option maxRecDepth 100000
set_option maxHeartbeats 0
namespace Go.Proofs.Ytijkfjahgijphaa
open Go E
noncomputable section
def ref03_Plain_l7 (v6 : Int) (v8 : List Pred) (v13 : List Pred) (x6e : Pred) (v12 : Int) (k6 : (List Pred) → Option (Pred)) : Nat → Bool → Int → Option (Pred)
  | 0, _, _ => none
  | fl7 + 1, v14, v15 =>
    (br (ltI v15 v12)
      (bnd (atL v8 v15) fun x17 =>
        (bnd (ref03_Same_s x17 x6e) fun y19 =>
          (br v14
            (ref03_Plain_l7 v6 v8 v13 x6e v12 k6 fl7 true (wr .i64 (v15 + 1)))
            (ref03_Plain_l7 v6 v8 v13 x6e v12 k6 fl7 y19 (wr .i64 (v15 + 1))))))
      (br (eqI x6e.op (wr .i64 (3 - v6)))
        (some (Pred.mk (wr .i64 (3 - v6)) ⟨#[]⟩ 0 0 0 ([] : List Pred)))
        (br (!v14)
          (br (!eqI x6e.op v6)
            (chk (roomL v13.length 1)
              (k6 (v13 ++ [x6e])))
            (k6 v13))
          (k6 v13))))
def ref03_Plain_l6 (p0 : Pred) (v6 : Int) (v8 : List Pred) : List Pred → Int → (List Pred) → Option (Pred)
  | [], v12, v13 =>
    (br (eqI (v13.length : Int) 0)
      (some (Pred.mk v6 ⟨#[]⟩ 0 0 0 ([] : List Pred)))
      (br (eqI (v13.length : Int) 1)
        (bnd (atL v13 0) fun x28 =>
          some x28)
        (some (Pred.mk p0.op p0.text p0.n p0.re p0.im v13))))
  | x6e :: xs6, v12, v13 =>
    ((ref03_Plain_l7 v6 v8 v13 x6e v12 (fun w0 => ref03_Plain_l6 p0 v6 v8 xs6 (v12 + 1) w0)) fuelN false 0)
def ref03_Plain_l5 (p0 : Pred) (v6 : Int) : List Pred → (List Pred) → Option (Pred)
  | [], v8 =>
    (chk (smallL v8)
      ((ref03_Plain_l6 p0 v6 v8) v8 0 ([] : List Pred)))
  | x5e :: xs5, v8 =>
    (br (eqI x5e.op p0.op)
      (chk (roomL v8.length x5e.kids.length)
        (ref03_Plain_l5 p0 v6 xs5  (v8 ++ x5e.kids)))
      (chk (roomL v8.length 1)
        (ref03_Plain_l5 p0 v6 xs5  (v8 ++ [x5e]))))
def ref03_Plain_j4 (p0 : Pred) (v2 : List Pred) (v6 : Int) : Option (Pred) :=
  (chk (smallL v2)
    ((ref03_Plain_l5 p0 v6) v2 ([] : List Pred)))
def ref03_Plain_j3 (p0 : Pred) (v2 : List Pred) : Option (Pred) :=
  (br (eqI p0.op 9)
    (ref03_Plain_j4 p0 v2 2)
    (ref03_Plain_j4 p0 v2 1))
def ref03_Plain_j2 (p0 : Pred) (v2 : List Pred) : Option (Pred) :=
  (br (!eqI p0.op 8)
    (br (!eqI p0.op 9)
      (some (Pred.mk p0.op p0.text p0.n p0.re p0.im ([] : List Pred)))
      (ref03_Plain_j3 p0 v2 ))
    (ref03_Plain_j3 p0 v2 ))
def ref03_Plain_l1 (p0 : Pred) (rc : Pred → Option Pred) : List Pred → (List Pred) → Option (Pred)
  | [], v2 =>
    (br (eqI p0.op 10)
      (br (eqI (v2.length : Int) 1)
        (bnd (atL v2 0) fun x35 =>
          (br (eqI x35.op 1)
            (some (Pred.mk (wr .i64 (3 - x35.op)) ⟨#[]⟩ 0 0 0 ([] : List Pred)))
            (br (eqI x35.op 2)
              (some (Pred.mk (wr .i64 (3 - x35.op)) ⟨#[]⟩ 0 0 0 ([] : List Pred)))
              (br (eqI x35.op 10)
                (bnd (atL x35.kids 0) fun x40 =>
                  some x40)
                (some (Pred.mk p0.op p0.text p0.n p0.re p0.im v2))))))
        (ref03_Plain_j2 p0 v2 ))
      (ref03_Plain_j2 p0 v2 ))
  | x1e :: xs1, v2 =>
    (bnd (rc x1e) fun y3 =>
      (chk (roomL v2.length 1)
        (ref03_Plain_l1 p0 rc xs1  (v2 ++ [y3]))))
def ref03_Plain_b (rc : Pred → Option Pred) (p0 : Pred) : Option (Pred) :=
  (chk (smallL p0.kids)
    ((ref03_Plain_l1 p0 rc) p0.kids ([] : List Pred)))
def ref03_Plain_s : Nat → Pred → Option Pred
  | 0 => fun _ => none
  | n + 1 => ref03_Plain_b (ref03_Plain_s n)
theorem ref03_Plain_c {X : Task → Prop} (hX : Closed X) : ∀ (n : Nat) {p0 : Pred} {r : Pred} {Q : A → List Blk → Prop} (h : ref03_Plain_s n p0 = some r) (hQ : Q (.agg [ic r.op, .p (.v (.string r.text)), ic r.n, .p (.v (.complex .f64 r.re r.im)), .p (.sl (Pred.rows r.kids))]) []), X (.call 38 [.agg [ic p0.op, .p (.v (.string p0.text)), ic p0.n, .p (.v (.complex .f64 p0.re p0.im)), .p (.sl (Pred.rows p0.kids))]] [] Q) := by
  intro n
  induction n with
  | zero => intro p0 r Q h; cases h
  | succ n ih =>
    intro p0 r Q h hQ
    replace h : ref03_Plain_b (ref03_Plain_s n) p0 = some r := h
    generalize ref03_Plain_s n = rc at ih h
    unfold ref03_Plain_b at h
    refine call_nz hX ?_
    conv => whnf
    refine call_intro hX Try.func38 rfl rfl ?_
    obtain ⟨hs1, h⟩ := chk_some h
    (repeat ((conv => whnf); first | refine ⟨by kernel_rfl, ?_⟩)); (conv => whnf)
    refine loop_k hX [0, 5] ?_
    conv => whnf
    refine loop_lisx1 (fun (v1 : Int) (v2 : List Pred) => pad [(1, .one (.ptr 0 0)), (0, .one (.ptr 1 0)), (0, .one (.ptr 3 0)), (0, .one (.own 4)), (0, iv v1)] 176) (fun (v1 : Int) (v2 : List Pred) => [.box [ic p0.op, .p (.v (.string p0.text)), ic p0.n, .p (.v (.complex .f64 p0.re p0.im)), .p (.sl (Pred.rows p0.kids))], .box [ic 0, .p (.v (.string ⟨#[]⟩)), ic 0, .p (.v (.complex .f64 0 0)), .own 2], .rows 0 [], .box [ic p0.op, .p (.v (.string p0.text)), ic p0.n, .p (.v (.complex .f64 p0.re p0.im)), .p (.v (.slice Option.none 0 0))], .rows 5 (Pred.rows v2)]) _ p0.kids (fun pre1 x1e xs1 v1 v2 hl1 hi1 h ih1 => ?_) (fun v1 v2 hi1 h => ?_) ([] : List Pred) h
    · rw [ref03_Plain_l1] at h
      have am1 := at_mid hl1 hi1
      refine loop_intro hX ?_
      replace h := bnd_some h
      obtain ⟨y3, e4, h⟩ := h
      (repeat ((conv => whnf); first | refine ⟨by kernel_rfl, ?_⟩ | refine eqv_to (Pred.pmap_len _) ?_ | refine bct (lt_mid hl1 hi1) ?_ | refine bct (Pred.pat_in am1) ?_ | refine bct (andt (Pred.pat_in am1) rfl) ?_ | refine row_in (Pred.pat_row am1) ?_ | refine bct (andt (Pred.pat_in (at_nat am1)) rfl) ?_ | refine row_in (Pred.pat_row (at_nat am1)) ?_)); (conv => whnf)
      refine ih e4 ?_
      replace h := chk_some h
      obtain ⟨c5, h⟩ := h
      (repeat ((conv => whnf); first | refine ⟨by kernel_rfl, ?_⟩ | refine bct (Pred.proom_map c5 rfl rfl rfl rfl) ?_ | refine eqv_to (Pred.pcat_one v2 y3) ?_)); (conv => whnf)
      exact ih1 _ (v2 ++ [y3]) (wrL hs1 hl1 hi1) h
    · rw [ref03_Plain_l1] at h
      refine loop_intro hX ?_
      apply join0 (X := X) (r := r) (pad [(1, .one (.ptr 0 0)), (0, .one (.ptr 1 0)), (0, .one (.ptr 3 0)), (0, .one (.own 4))] 177) ([.box [ic p0.op, .p (.v (.string p0.text)), ic p0.n, .p (.v (.complex .f64 p0.re p0.im)), .p (.sl (Pred.rows p0.kids))], .box [ic 0, .p (.v (.string ⟨#[]⟩)), ic 0, .p (.v (.complex .f64 0 0)), .own 2], .rows 0 [], .box [ic p0.op, .p (.v (.string p0.text)), ic p0.n, .p (.v (.complex .f64 p0.re p0.im)), .p (.v (.slice Option.none 0 0))], .rows 5 (Pred.rows v2)])
      · intro tl2
        (repeat ((conv => whnf); first | refine ⟨by kernel_rfl, ?_⟩ | refine eqv_to (Pred.pmap_len _) ?_ | refine bcf (lt_end hi1) ?_)); (conv => whnf)
        refine br_some h (fun c33 g => ?_) (fun c33 g => ?_)
        · replace h := g
          clear g
          (repeat ((conv => whnf); first | refine ⟨by kernel_rfl, ?_⟩ | refine bct c33 ?_ | refine eqv_to (Pred.pmap_len _) ?_)); (conv => whnf)
          refine br_some h (fun c34 g => ?_) (fun c34 g => ?_)
          · replace h := g
            clear g
            replace h := bnd_some h
            obtain ⟨x35, a36, h⟩ := h
            (repeat ((conv => whnf); first | refine ⟨by kernel_rfl, ?_⟩ | refine bct c34 ?_ | refine bct (Pred.pat_in a36) ?_ | refine bct (andt (Pred.pat_in a36) rfl) ?_ | refine row_in (Pred.pat_row a36) ?_ | refine bct (andt (Pred.pat_in (at_nat a36)) rfl) ?_ | refine row_in (Pred.pat_row (at_nat a36)) ?_)); (conv => whnf)
            refine br_some h (fun c37 g => ?_) (fun c37 g => ?_)
            · replace h := g
              clear g
              (repeat ((conv => whnf); first | refine ⟨by kernel_rfl, ?_⟩ | refine bct c37 ?_)); (conv => whnf)
              exact ret_some (f := fun y => .agg [ic y.op, .p (.v (.string y.text)), ic y.n, .p (.v (.complex .f64 y.re y.im)), .p (.sl (Pred.rows y.kids))]) (g := fun y => []) h hQ
            · replace h := g
              clear g
              (repeat ((conv => whnf); first | refine ⟨by kernel_rfl, ?_⟩ | refine bcf c37 ?_)); (conv => whnf)
              refine br_some h (fun c38 g => ?_) (fun c38 g => ?_)
              · replace h := g
                clear g
                (repeat ((conv => whnf); first | refine ⟨by kernel_rfl, ?_⟩ | refine bct c38 ?_)); (conv => whnf)
                exact ret_some (f := fun y => .agg [ic y.op, .p (.v (.string y.text)), ic y.n, .p (.v (.complex .f64 y.re y.im)), .p (.sl (Pred.rows y.kids))]) (g := fun y => []) h hQ
              · replace h := g
                clear g
                (repeat ((conv => whnf); first | refine ⟨by kernel_rfl, ?_⟩ | refine bcf c38 ?_)); (conv => whnf)
                refine br_some h (fun c39 g => ?_) (fun c39 g => ?_)
                · replace h := g
                  clear g
                  replace h := bnd_some h
                  obtain ⟨x40, a41, h⟩ := h
                  (repeat ((conv => whnf); first | refine ⟨by kernel_rfl, ?_⟩ | refine bct c39 ?_ | refine bct (Pred.pat_in a41) ?_ | refine bct (andt (Pred.pat_in a41) rfl) ?_ | refine row_in (Pred.pat_row a41) ?_ | refine bct (andt (Pred.pat_in (at_nat a41)) rfl) ?_ | refine row_in (Pred.pat_row (at_nat a41)) ?_)); (conv => whnf)
                  exact ret_some (f := fun y => .agg [ic y.op, .p (.v (.string y.text)), ic y.n, .p (.v (.complex .f64 y.re y.im)), .p (.sl (Pred.rows y.kids))]) (g := fun y => []) h hQ
                · replace h := g
                  clear g
                  (repeat ((conv => whnf); first | refine ⟨by kernel_rfl, ?_⟩ | refine bcf c39 ?_)); (conv => whnf)
                  exact ret_some (f := fun y => .agg [ic y.op, .p (.v (.string y.text)), ic y.n, .p (.v (.complex .f64 y.re y.im)), .p (.sl (Pred.rows y.kids))]) (g := fun y => []) h hQ
          · replace h := g
            clear g
            (repeat ((conv => whnf); first | refine ⟨by kernel_rfl, ?_⟩ | refine bcf c34 ?_)); (conv => whnf)
            exact tl2.h  h
        · replace h := g
          clear g
          (repeat ((conv => whnf); first | refine ⟨by kernel_rfl, ?_⟩ | refine bcf c33 ?_)); (conv => whnf)
          exact tl2.h  h
      · intro h
        unfold ref03_Plain_j2 at h
        refine rest_intro hX ?_
        apply join0 (X := X) (r := r) (pad [(1, .one (.ptr 0 0)), (0, .one (.ptr 1 0)), (0, .one (.ptr 3 0)), (0, .one (.own 4))] 177) ([.box [ic p0.op, .p (.v (.string p0.text)), ic p0.n, .p (.v (.complex .f64 p0.re p0.im)), .p (.sl (Pred.rows p0.kids))], .box [ic 0, .p (.v (.string ⟨#[]⟩)), ic 0, .p (.v (.complex .f64 0 0)), .own 2], .rows 0 [], .box [ic p0.op, .p (.v (.string p0.text)), ic p0.n, .p (.v (.complex .f64 p0.re p0.im)), .p (.v (.slice Option.none 0 0))], .rows 5 (Pred.rows v2)])
        · intro tl3
          (repeat ((conv => whnf); first | refine ⟨by kernel_rfl, ?_⟩)); (conv => whnf)
          refine br_some h (fun c31 g => ?_) (fun c31 g => ?_)
          · replace h := g
            clear g
            (repeat ((conv => whnf); first | refine ⟨by kernel_rfl, ?_⟩ | refine bct c31 ?_)); (conv => whnf)
            refine br_some h (fun c32 g => ?_) (fun c32 g => ?_)
            · replace h := g
              clear g
              (repeat ((conv => whnf); first | refine ⟨by kernel_rfl, ?_⟩ | refine bct c32 ?_)); (conv => whnf)
              exact ret_some (f := fun y => .agg [ic y.op, .p (.v (.string y.text)), ic y.n, .p (.v (.complex .f64 y.re y.im)), .p (.sl (Pred.rows y.kids))]) (g := fun y => []) h hQ
            · replace h := g
              clear g
              (repeat ((conv => whnf); first | refine ⟨by kernel_rfl, ?_⟩ | refine bcf c32 ?_)); (conv => whnf)
              exact tl3.h  h
          · replace h := g
            clear g
            (repeat ((conv => whnf); first | refine ⟨by kernel_rfl, ?_⟩ | refine bcf c31 ?_)); (conv => whnf)
            exact tl3.h  h
        · intro h
          unfold ref03_Plain_j3 at h
          refine rest_intro hX ?_
          apply join1 (X := X) (r := r) (fun (v6 : Int) => pad [(1, .one (.ptr 0 0)), (0, .one (.ptr 1 0)), (0, .one (.ptr 3 0)), (0, .one (.own 4)), (2, iv v6)] 174) (fun (v6 : Int) => [.box [ic p0.op, .p (.v (.string p0.text)), ic p0.n, .p (.v (.complex .f64 p0.re p0.im)), .p (.sl (Pred.rows p0.kids))], .box [ic 0, .p (.v (.string ⟨#[]⟩)), ic 0, .p (.v (.complex .f64 0 0)), .own 2], .rows 0 [], .box [ic p0.op, .p (.v (.string p0.text)), ic p0.n, .p (.v (.complex .f64 p0.re p0.im)), .p (.v (.slice Option.none 0 0))], .rows 5 (Pred.rows v2)])
          · intro tl4
            (repeat ((conv => whnf); first | refine ⟨by kernel_rfl, ?_⟩)); (conv => whnf)
            refine br_some h (fun c30 g => ?_) (fun c30 g => ?_)
            · replace h := g
              clear g
              (repeat ((conv => whnf); first | refine ⟨by kernel_rfl, ?_⟩ | refine bct c30 ?_)); (conv => whnf)
              exact tl4.h 2 h
            · replace h := g
              clear g
              (repeat ((conv => whnf); first | refine ⟨by kernel_rfl, ?_⟩ | refine bcf c30 ?_)); (conv => whnf)
              exact tl4.h 1 h
          · intro v6 h
            unfold ref03_Plain_j4 at h
            refine rest_intro hX ?_
            obtain ⟨hs5, h⟩ := chk_some h
            (repeat ((conv => whnf); first | refine ⟨by kernel_rfl, ?_⟩)); (conv => whnf)
            refine loop_k hX [0, 5] ?_
            conv => whnf
            refine loop_lisx1 (fun (v7 : Int) (v8 : List Pred) => pad [(1, .one (.ptr 0 0)), (0, .one (.ptr 1 0)), (0, .one (.ptr 3 0)), (0, .one (.own 4)), (2, iv v6), (0, .one (.own 5)), (0, iv v7)] 172) (fun (v7 : Int) (v8 : List Pred) => [.box [ic p0.op, .p (.v (.string p0.text)), ic p0.n, .p (.v (.complex .f64 p0.re p0.im)), .p (.sl (Pred.rows p0.kids))], .box [ic 0, .p (.v (.string ⟨#[]⟩)), ic 0, .p (.v (.complex .f64 0 0)), .own 2], .rows 0 [], .box [ic p0.op, .p (.v (.string p0.text)), ic p0.n, .p (.v (.complex .f64 p0.re p0.im)), .p (.v (.slice Option.none 0 0))], .rows 5 (Pred.rows v2), .rows 5 (Pred.rows v8)]) _ v2 (fun pre5 x5e xs5 v7 v8 hl5 hi5 h ih5 => ?_) (fun v7 v8 hi5 h => ?_) ([] : List Pred) h
            · rw [ref03_Plain_l5] at h
              have am5 := at_mid hl5 hi5
              refine loop_intro hX ?_
              (repeat ((conv => whnf); first | refine ⟨by kernel_rfl, ?_⟩ | refine eqv_to (Pred.pmap_len _) ?_ | refine bct (lt_mid hl5 hi5) ?_ | refine bct (Pred.pat_in am5) ?_ | refine bct (andt (Pred.pat_in am5) rfl) ?_ | refine row_in (Pred.pat_row am5) ?_ | refine bct (andt (Pred.pat_in (at_nat am5)) rfl) ?_ | refine row_in (Pred.pat_row (at_nat am5)) ?_)); (conv => whnf)
              refine br_some h (fun c9 g => ?_) (fun c9 g => ?_)
              · replace h := g
                clear g
                replace h := chk_some h
                obtain ⟨c10, h⟩ := h
                (repeat ((conv => whnf); first | refine ⟨by kernel_rfl, ?_⟩ | refine bct c9 ?_ | refine bct (Pred.pat_in am5) ?_ | refine bct (andt (Pred.pat_in am5) rfl) ?_ | refine row_in (Pred.pat_row am5) ?_ | refine bct (andt (Pred.pat_in (at_nat am5)) rfl) ?_ | refine row_in (Pred.pat_row (at_nat am5)) ?_ | refine bct (Pred.proom_map c10 (Pred.rows_len _) rfl (Pred.prowsOk_map rfl _) rfl) ?_ | refine eqv_to (Pred.pcat_map v8 _) ?_)); (conv => whnf)
                exact ih5 _ (v8 ++ x5e.kids) (wrL hs5 hl5 hi5) h
              · replace h := g
                clear g
                replace h := chk_some h
                obtain ⟨c11, h⟩ := h
                (repeat ((conv => whnf); first | refine ⟨by kernel_rfl, ?_⟩ | refine bcf c9 ?_ | refine bct (Pred.pat_in am5) ?_ | refine bct (andt (Pred.pat_in am5) rfl) ?_ | refine row_in (Pred.pat_row am5) ?_ | refine bct (andt (Pred.pat_in (at_nat am5)) rfl) ?_ | refine row_in (Pred.pat_row (at_nat am5)) ?_ | refine bct (Pred.proom_map c11 rfl rfl rfl rfl) ?_ | refine eqv_to (Pred.pcat_one v8 x5e) ?_)); (conv => whnf)
                exact ih5 _ (v8 ++ [x5e]) (wrL hs5 hl5 hi5) h
            · rw [ref03_Plain_l5] at h
              refine loop_intro hX ?_
              obtain ⟨hs6, h⟩ := chk_some h
              (repeat ((conv => whnf); first | refine ⟨by kernel_rfl, ?_⟩ | refine eqv_to (Pred.pmap_len _) ?_ | refine bcf (lt_end hi5) ?_)); (conv => whnf)
              refine loop_nc hX ?_
              conv => whnf
              refine loop_k hX [0, 5] ?_
              conv => whnf
              refine loop_list1 (fun (v12 : Int) (v13 : List Pred) => pad [(2, .one (.ptr 0 0)), (0, .one (.ptr 2 0)), (3, iv v6), (0, .one (.own 4)), (1, iv v12)] 171) (fun (v12 : Int) (v13 : List Pred) => [.box [ic 0, .p (.v (.string ⟨#[]⟩)), ic 0, .p (.v (.complex .f64 0 0)), .own 1], .rows 0 [], .box [ic p0.op, .p (.v (.string p0.text)), ic p0.n, .p (.v (.complex .f64 p0.re p0.im)), .own 3], .rows 5 (Pred.rows v13), .rows 5 (Pred.rows v8)]) _ v8 (fun pre6 x6e xs6 v12 v13 hl6 hi6 h ih6 => ?_) (fun v12 v13 hi6 h => ?_) ([] : List Pred) h
              · rw [ref03_Plain_l6] at h
                have am6 := at_mid hl6 hi6
                refine loop_intro hX ?_
                (repeat ((conv => whnf); first | refine ⟨by kernel_rfl, ?_⟩ | refine eqv_to (Pred.pmap_len _) ?_ | refine bct (lt_mid hl6 hi6) ?_)); (conv => whnf)
                refine loop_fuel2 (fun (v14 : Bool) (v15 : Int) => pad [(2, .one (.ptr 0 0)), (0, .one (.ptr 2 0)), (3, iv v6), (0, .one (.own 4)), (1, iv v12), (0, .one (.p (.v (.bool v14)))), (0, iv v15)] 169) (fun (v14 : Bool) (v15 : Int) => [.box [ic 0, .p (.v (.string ⟨#[]⟩)), ic 0, .p (.v (.complex .f64 0 0)), .own 1], .rows 0 [], .box [ic p0.op, .p (.v (.string p0.text)), ic p0.n, .p (.v (.complex .f64 p0.re p0.im)), .own 3], .rows 5 (Pred.rows v13), .rows 5 (Pred.rows v8)]) _ (fun _ _ h => ?_) (fun fl7 v14 v15 h ih7 => ?_) fuelN false 0 h
                · rw [ref03_Plain_l7] at h
                  cases h
                · rw [ref03_Plain_l7] at h
                  refine loop_intro hX ?_
                  (repeat ((conv => whnf); first | refine ⟨by kernel_rfl, ?_⟩)); (conv => whnf)
                  refine br_some h (fun c16 g => ?_) (fun c16 g => ?_)
                  · replace h := g
                    clear g
                    replace h := bnd_some h
                    obtain ⟨x17, a18, h⟩ := h
                    replace h := bnd_some h
                    obtain ⟨y19, e20, h⟩ := h
                    (repeat ((conv => whnf); first | refine ⟨by kernel_rfl, ?_⟩ | refine bct c16 ?_ | refine bct (Pred.pat_in a18) ?_ | refine bct (andt (Pred.pat_in a18) rfl) ?_ | refine row_in (Pred.pat_row a18) ?_ | refine bct (andt (Pred.pat_in (at_nat a18)) rfl) ?_ | refine row_in (Pred.pat_row (at_nat a18)) ?_ | refine bct (Pred.pat_in am6) ?_ | refine bct (andt (Pred.pat_in am6) rfl) ?_ | refine row_in (Pred.pat_row am6) ?_ | refine bct (andt (Pred.pat_in (at_nat am6)) rfl) ?_ | refine row_in (Pred.pat_row (at_nat am6)) ?_)); (conv => whnf)
                    refine ref03_Same_c hX e20 ?_
                    (repeat ((conv => whnf); first | refine ⟨by kernel_rfl, ?_⟩)); (conv => whnf)
                    refine br_some h (fun c21 g => ?_) (fun c21 g => ?_)
                    · replace h := g
                      clear g
                      (repeat ((conv => whnf); first | refine ⟨by kernel_rfl, ?_⟩ | refine bct c21 ?_)); (conv => whnf)
                      exact ih7 true (wr .i64 (v15 + 1)) h
                    · replace h := g
                      clear g
                      (repeat ((conv => whnf); first | refine ⟨by kernel_rfl, ?_⟩ | refine bcf c21 ?_)); (conv => whnf)
                      exact ih7 y19 (wr .i64 (v15 + 1)) h
                  · replace h := g
                    clear g
                    (repeat ((conv => whnf); first | refine ⟨by kernel_rfl, ?_⟩ | refine bcf c16 ?_ | refine bct (Pred.pat_in am6) ?_ | refine bct (andt (Pred.pat_in am6) rfl) ?_ | refine row_in (Pred.pat_row am6) ?_ | refine bct (andt (Pred.pat_in (at_nat am6)) rfl) ?_ | refine row_in (Pred.pat_row (at_nat am6)) ?_)); (conv => whnf)
                    refine br_some h (fun c22 g => ?_) (fun c22 g => ?_)
                    · replace h := g
                      clear g
                      (repeat ((conv => whnf); first | refine ⟨by kernel_rfl, ?_⟩ | refine bct c22 ?_)); (conv => whnf)
                      exact ret_some (f := fun y => .agg [ic y.op, .p (.v (.string y.text)), ic y.n, .p (.v (.complex .f64 y.re y.im)), .p (.sl (Pred.rows y.kids))]) (g := fun y => []) h hQ
                    · replace h := g
                      clear g
                      (repeat ((conv => whnf); first | refine ⟨by kernel_rfl, ?_⟩ | refine bcf c22 ?_)); (conv => whnf)
                      refine br_some h (fun c23 g => ?_) (fun c23 g => ?_)
                      · replace h := g
                        clear g
                        (repeat ((conv => whnf); first | refine ⟨by kernel_rfl, ?_⟩ | refine bct c23 ?_ | refine bct (Pred.pat_in am6) ?_ | refine bct (andt (Pred.pat_in am6) rfl) ?_ | refine row_in (Pred.pat_row am6) ?_ | refine bct (andt (Pred.pat_in (at_nat am6)) rfl) ?_ | refine row_in (Pred.pat_row (at_nat am6)) ?_)); (conv => whnf)
                        refine br_some h (fun c24 g => ?_) (fun c24 g => ?_)
                        · replace h := g
                          clear g
                          replace h := chk_some h
                          obtain ⟨c25, h⟩ := h
                          (repeat ((conv => whnf); first | refine ⟨by kernel_rfl, ?_⟩ | refine bct c24 ?_ | refine bct (Pred.pat_in am6) ?_ | refine bct (andt (Pred.pat_in am6) rfl) ?_ | refine row_in (Pred.pat_row am6) ?_ | refine bct (andt (Pred.pat_in (at_nat am6)) rfl) ?_ | refine row_in (Pred.pat_row (at_nat am6)) ?_ | refine bct (Pred.proom_map c25 rfl rfl rfl rfl) ?_ | refine eqv_to (Pred.pcat_one v13 x6e) ?_)); (conv => whnf)
                          exact ih6 _ (v13 ++ [x6e]) (wrL hs6 hl6 hi6) h
                        · replace h := g
                          clear g
                          (repeat ((conv => whnf); first | refine ⟨by kernel_rfl, ?_⟩ | refine bcf c24 ?_)); (conv => whnf)
                          exact ih6 _ v13 (wrL hs6 hl6 hi6) h
                      · replace h := g
                        clear g
                        (repeat ((conv => whnf); first | refine ⟨by kernel_rfl, ?_⟩ | refine bcf c23 ?_)); (conv => whnf)
                        exact ih6 _ v13 (wrL hs6 hl6 hi6) h
              · rw [ref03_Plain_l6] at h
                refine loop_intro hX ?_
                (repeat ((conv => whnf); first | refine ⟨by kernel_rfl, ?_⟩ | refine eqv_to (Pred.pmap_len _) ?_ | refine bcf (lt_end hi6) ?_)); (conv => whnf)
                refine br_some h (fun c26 g => ?_) (fun c26 g => ?_)
                · replace h := g
                  clear g
                  (repeat ((conv => whnf); first | refine ⟨by kernel_rfl, ?_⟩ | refine bct c26 ?_)); (conv => whnf)
                  exact ret_some (f := fun y => .agg [ic y.op, .p (.v (.string y.text)), ic y.n, .p (.v (.complex .f64 y.re y.im)), .p (.sl (Pred.rows y.kids))]) (g := fun y => []) h hQ
                · replace h := g
                  clear g
                  (repeat ((conv => whnf); first | refine ⟨by kernel_rfl, ?_⟩ | refine bcf c26 ?_ | refine eqv_to (Pred.pmap_len _) ?_)); (conv => whnf)
                  refine br_some h (fun c27 g => ?_) (fun c27 g => ?_)
                  · replace h := g
                    clear g
                    replace h := bnd_some h
                    obtain ⟨x28, a29, h⟩ := h
                    (repeat ((conv => whnf); first | refine ⟨by kernel_rfl, ?_⟩ | refine bct c27 ?_ | refine bct (Pred.pat_in a29) ?_ | refine bct (andt (Pred.pat_in a29) rfl) ?_ | refine row_in (Pred.pat_row a29) ?_ | refine bct (andt (Pred.pat_in (at_nat a29)) rfl) ?_ | refine row_in (Pred.pat_row (at_nat a29)) ?_)); (conv => whnf)
                    exact ret_some (f := fun y => .agg [ic y.op, .p (.v (.string y.text)), ic y.n, .p (.v (.complex .f64 y.re y.im)), .p (.sl (Pred.rows y.kids))]) (g := fun y => []) h hQ
                  · replace h := g
                    clear g
                    (repeat ((conv => whnf); first | refine ⟨by kernel_rfl, ?_⟩ | refine bcf c27 ?_)); (conv => whnf)
                    exact ret_some (f := fun y => .agg [ic y.op, .p (.v (.string y.text)), ic y.n, .p (.v (.complex .f64 y.re y.im)), .p (.sl (Pred.rows y.kids))]) (g := fun y => []) h hQ
end
end Go.Proofs.Ytijkfjahgijphaa
