/- Layers 6 to 8, the document's. Written by decomp.py. -/
import Derived.Test.YtijkfjahgijphaaKCon
import Derived.Test.YtijkfjahgijphaaKLoops
set_option linter.unusedVariables false
set_option linter.unusedSimpArgs false
set_option maxRecDepth 100000
set_option maxHeartbeats 0
namespace Go.Proofs.Ytijkfjahgijphaa
open Go E
noncomputable section
open Pred
def ref06_Among_l1 (p1 : ByteArray) : List ByteArray → Option (Bool)
  | [] =>
    some false
  | x1e :: xs1 =>
    (br (eqS x1e p1)
      (some true)
      (ref06_Among_l1 p1 xs1  ))
def ref06_Among_s (p0 : List ByteArray) (p1 : ByteArray) : Option (Bool) :=
  (chk (smallL p0)
    ((ref06_Among_l1 p1) p0 ))
theorem ref06_Among_c {X : Task → Prop} (hX : Closed X) {p0 : List ByteArray} {p1 : ByteArray} {r : Bool} {Q : A → List Blk → Prop} (h : ref06_Among_s p0 p1 = some r) (hQ : Q (.one (.p (.v (.bool r)))) []) : X (.call 123 [.one (.p (.sl (p0.map srw))), .one (.p (.v (.string p1)))] [] Q) := by
  unfold ref06_Among_s at h
  refine call_intro hX Try.func123 rfl rfl ?_
  obtain ⟨hs1, h⟩ := chk_some h
  (repeat ((conv => whnf); first | refine ⟨by kernel_rfl, ?_⟩)); (conv => whnf)
  refine loop_lisx0 (fun (v1 : Int) => pad [(0, .one (.p (.sl (p0.map srw)))), (0, .one (.p (.v (.string p1)))), (3, iv v1)] 12) (fun (v1 : Int) => []) _ p0 (fun pre1 x1e xs1 v1  hl1 hi1 h ih1 => ?_) (fun v1  hi1 h => ?_)  h
  · rw [ref06_Among_l1] at h
    have am1 := at_mid hl1 hi1
    refine loop_intro hX ?_
    (repeat ((conv => whnf); first | refine ⟨by kernel_rfl, ?_⟩ | refine eqv_to (map_len _) ?_ | refine bct (lt_mid hl1 hi1) ?_ | refine bct (at_in am1) ?_ | refine bct (andt (at_in am1) rfl) ?_ | refine row_in (at_row am1) ?_ | refine bct (andt (at_in (at_nat am1)) rfl) ?_ | refine row_in (at_row (at_nat am1)) ?_)); (conv => whnf)
    refine br_some h (fun c2 g => ?_) (fun c2 g => ?_)
    · replace h := g
      clear g
      (repeat ((conv => whnf); first | refine ⟨by kernel_rfl, ?_⟩ | refine bct c2 ?_)); (conv => whnf)
      exact ret_some (f := fun y => .one (.p (.v (.bool y)))) (g := fun y => []) h hQ
    · replace h := g
      clear g
      (repeat ((conv => whnf); first | refine ⟨by kernel_rfl, ?_⟩ | refine bcf c2 ?_)); (conv => whnf)
      exact ih1 _  (wrL hs1 hl1 hi1) h
  · rw [ref06_Among_l1] at h
    refine loop_intro hX ?_
    (repeat ((conv => whnf); first | refine ⟨by kernel_rfl, ?_⟩ | refine eqv_to (map_len _) ?_ | refine bcf (lt_end hi1) ?_)); (conv => whnf)
    exact ret_some (f := fun y => .one (.p (.v (.bool y)))) (g := fun y => []) h hQ
def ref06_Has_l1 (p1 : ByteArray) (p2 : Ver) : List Frag → Option (Bool)
  | [] =>
    some false
  | x1e :: xs1 =>
    (bnd (ref06_Among_s x1e.ids p1) fun y5 =>
      (br y5
        (bnd (ref06_HasVec_s x1e.vec p2) fun y8 =>
          (br y8
            (some true)
            (ref06_Has_l1 p1 p2 xs1  )))
        (ref06_Has_l1 p1 p2 xs1  )))
def ref06_Has_s (p0 : Know) (p1 : ByteArray) (p2 : Ver) : Option (Bool) :=
  (bnd (ref06_HasVec_s p0.star p2) fun y1 =>
    (br y1
      (some true)
      (chk (smallL p0.l)
        ((ref06_Has_l1 p1 p2) p0.l ))))
theorem ref06_Has_c {X : Task → Prop} (hX : Closed X) {p0 : Know} {p1 : ByteArray} {p2 : Ver} {r : Bool} {Q : A → List Blk → Prop} (h : ref06_Has_s p0 p1 p2 = some r) (hQ : Q (.one (.p (.v (.bool r)))) []) : X (.call 75 [.agg [ic p0.star.x0, ic p0.star.x1, ic p0.star.x2, ic p0.star.x3, ic p0.star.x4, ic p0.star.x5, ic p0.star.x6, ic p0.star.x7, .p (.sl (p0.l.map Frag.row))], .one (.p (.v (.string p1))), .agg [ic p2.r, ic p2.c]] [] Q) := by
  unfold ref06_Has_s at h
  refine call_intro hX Try.func75 rfl rfl ?_
  replace h := bnd_some h
  obtain ⟨y1, e2, h⟩ := h
  (repeat ((conv => whnf); first | refine ⟨by kernel_rfl, ?_⟩)); (conv => whnf)
  refine ref06_HasVec_c hX e2 ?_
  (repeat ((conv => whnf); first | refine ⟨by kernel_rfl, ?_⟩)); (conv => whnf)
  refine br_some h (fun c3 g => ?_) (fun c3 g => ?_)
  · replace h := g
    clear g
    (repeat ((conv => whnf); first | refine ⟨by kernel_rfl, ?_⟩ | refine bct c3 ?_)); (conv => whnf)
    exact ret_some (f := fun y => .one (.p (.v (.bool y)))) (g := fun y => []) h hQ
  · replace h := g
    clear g
    obtain ⟨hs1, h⟩ := chk_some h
    (repeat ((conv => whnf); first | refine ⟨by kernel_rfl, ?_⟩ | refine bcf c3 ?_)); (conv => whnf)
    refine loop_lisx0 (fun (v4 : Int) => pad [(1, .one (.p (.v (.string p1)))), (1, .one (.ptr 0 0)), (1, .one (.ptr 1 0)), (1, iv v4)] 29) (fun (v4 : Int) => [.box [ic p0.star.x0, ic p0.star.x1, ic p0.star.x2, ic p0.star.x3, ic p0.star.x4, ic p0.star.x5, ic p0.star.x6, ic p0.star.x7, .p (.sl (p0.l.map Frag.row))], .box [ic p2.r, ic p2.c]]) _ p0.l (fun pre1 x1e xs1 v4  hl1 hi1 h ih1 => ?_) (fun v4  hi1 h => ?_)  h
    · rw [ref06_Has_l1] at h
      have am1 := at_mid hl1 hi1
      refine loop_intro hX ?_
      replace h := bnd_some h
      obtain ⟨y5, e6, h⟩ := h
      (repeat ((conv => whnf); first | refine ⟨by kernel_rfl, ?_⟩ | refine eqv_to (map_len _) ?_ | refine bct (lt_mid hl1 hi1) ?_ | refine bct (at_in am1) ?_ | refine bct (andt (at_in am1) rfl) ?_ | refine row_in (at_row am1) ?_ | refine bct (andt (at_in (at_nat am1)) rfl) ?_ | refine row_in (at_row (at_nat am1)) ?_)); (conv => whnf)
      refine ref06_Among_c hX e6 ?_
      (repeat ((conv => whnf); first | refine ⟨by kernel_rfl, ?_⟩)); (conv => whnf)
      refine br_some h (fun c7 g => ?_) (fun c7 g => ?_)
      · replace h := g
        clear g
        replace h := bnd_some h
        obtain ⟨y8, e9, h⟩ := h
        (repeat ((conv => whnf); first | refine ⟨by kernel_rfl, ?_⟩ | refine bct c7 ?_ | refine bct (at_in am1) ?_ | refine bct (andt (at_in am1) rfl) ?_ | refine row_in (at_row am1) ?_ | refine bct (andt (at_in (at_nat am1)) rfl) ?_ | refine row_in (at_row (at_nat am1)) ?_)); (conv => whnf)
        refine ref06_HasVec_c hX e9 ?_
        (repeat ((conv => whnf); first | refine ⟨by kernel_rfl, ?_⟩ | refine bct c7 ?_)); (conv => whnf)
        refine br_some h (fun c10 g => ?_) (fun c10 g => ?_)
        · replace h := g
          clear g
          (repeat ((conv => whnf); first | refine ⟨by kernel_rfl, ?_⟩ | refine bct c10 ?_)); (conv => whnf)
          exact ret_some (f := fun y => .one (.p (.v (.bool y)))) (g := fun y => []) h hQ
        · replace h := g
          clear g
          (repeat ((conv => whnf); first | refine ⟨by kernel_rfl, ?_⟩ | refine bcf c10 ?_)); (conv => whnf)
          exact ih1 _  (wrL hs1 hl1 hi1) h
      · replace h := g
        clear g
        (repeat ((conv => whnf); first | refine ⟨by kernel_rfl, ?_⟩ | refine bcf c7 ?_)); (conv => whnf)
        exact ih1 _  (wrL hs1 hl1 hi1) h
    · rw [ref06_Has_l1] at h
      refine loop_intro hX ?_
      (repeat ((conv => whnf); first | refine ⟨by kernel_rfl, ?_⟩ | refine eqv_to (map_len _) ?_ | refine bcf (lt_end hi1) ?_)); (conv => whnf)
      exact ret_some (f := fun y => .one (.p (.v (.bool y)))) (g := fun y => []) h hQ
def ref06_insert_j2 (p1 : ByteArray) (x1e : ByteArray) (k1 : Bool → (List ByteArray) → Option ((List ByteArray))) (v4 : Bool) (v5 : List ByteArray) : Option ((List ByteArray)) :=
  (br (!eqS x1e p1)
    (chk (roomL v5.length 1)
      (k1 v4 (v5 ++ [x1e])))
    (k1 v4 v5))
def ref06_insert_l1 (p1 : ByteArray) : List ByteArray → Bool → (List ByteArray) → Option ((List ByteArray))
  | [], v1, v3 =>
    (br (!v1)
      (chk (roomL v3.length 1)
        (some (v3 ++ [p1])))
      (some v3))
  | x1e :: xs1, v1, v3 =>
    (br (!v1)
      (br (ltS p1 x1e || eqS p1 x1e)
        (chk (roomL v3.length 1)
          (ref06_insert_j2 p1 x1e (fun w0 w1 => ref06_insert_l1 p1 xs1  w0 w1) true (v3 ++ [p1])))
        (ref06_insert_j2 p1 x1e (fun w0 w1 => ref06_insert_l1 p1 xs1  w0 w1) v1 v3))
      (ref06_insert_j2 p1 x1e (fun w0 w1 => ref06_insert_l1 p1 xs1  w0 w1) v1 v3))
def ref06_insert_s (p0 : List ByteArray) (p1 : ByteArray) : Option ((List ByteArray)) :=
  (chk (smallL p0)
    ((ref06_insert_l1 p1) p0 false ([] : List ByteArray)))
theorem ref06_insert_c {X : Task → Prop} (hX : Closed X) {p0 : List ByteArray} {p1 : ByteArray} {r : (List ByteArray)} {Q : A → List Blk → Prop} (h : ref06_insert_s p0 p1 = some r) (hQ : Q (.one (.own 0)) [.rows 1 (r.map srw)]) : X (.call 159 [.one (.p (.sl (p0.map srw))), .one (.p (.v (.string p1)))] [] Q) := by
  unfold ref06_insert_s at h
  refine call_intro hX Try.func159 rfl rfl ?_
  obtain ⟨hs1, h⟩ := chk_some h
  (repeat ((conv => whnf); first | refine ⟨by kernel_rfl, ?_⟩)); (conv => whnf)
  refine loop_k hX [1] ?_
  conv => whnf
  refine loop_lisx2 (fun (v2 : Int) (v1 : Bool) (v3 : List ByteArray) => pad [(0, .one (.p (.sl (p0.map srw)))), (0, .one (.p (.v (.string p1)))), (3, .one (.own 0)), (0, .one (.p (.v (.bool v1)))), (0, iv v2)] 40) (fun (v2 : Int) (v1 : Bool) (v3 : List ByteArray) => [.rows 1 (v3.map srw)]) _ p0 (fun pre1 x1e xs1 v2 v1 v3 hl1 hi1 h ih1 => ?_) (fun v2 v1 v3 hi1 h => ?_) false ([] : List ByteArray) h
  · rw [ref06_insert_l1] at h
    have am1 := at_mid hl1 hi1
    refine loop_intro hX ?_
    apply join2 (X := X) (r := r) (fun (v4 : Bool) (v5 : List ByteArray) => pad [(0, .one (.p (.sl (p0.map srw)))), (0, .one (.p (.v (.string p1)))), (3, .one (.own 0)), (0, .one (.p (.v (.bool v4)))), (0, iv v2)] 40) (fun (v4 : Bool) (v5 : List ByteArray) => [.rows 1 (v5.map srw)])
    · intro tl2
      (repeat ((conv => whnf); first | refine ⟨by kernel_rfl, ?_⟩ | refine eqv_to (map_len _) ?_ | refine bct (lt_mid hl1 hi1) ?_)); (conv => whnf)
      refine br_some h (fun c8 g => ?_) (fun c8 g => ?_)
      · replace h := g
        clear g
        (repeat ((conv => whnf); first | refine ⟨by kernel_rfl, ?_⟩ | refine bct c8 ?_ | refine bct (at_in am1) ?_ | refine bct (andt (at_in am1) rfl) ?_ | refine row_in (at_row am1) ?_ | refine bct (andt (at_in (at_nat am1)) rfl) ?_ | refine row_in (at_row (at_nat am1)) ?_)); (conv => whnf)
        refine br_some h (fun c9 g => ?_) (fun c9 g => ?_)
        · replace h := g
          clear g
          replace h := chk_some h
          obtain ⟨c10, h⟩ := h
          (repeat ((conv => whnf); first | refine ⟨by kernel_rfl, ?_⟩ | refine bct c9 ?_ | refine bct (room_map c10 rfl rfl rfl rfl) ?_ | refine eqv_to (cat_one (f := srw) v3 p1) ?_)); (conv => whnf)
          exact tl2.h true (v3 ++ [p1]) h
        · replace h := g
          clear g
          (repeat ((conv => whnf); first | refine ⟨by kernel_rfl, ?_⟩ | refine bcf c9 ?_)); (conv => whnf)
          exact tl2.h v1 v3 h
      · replace h := g
        clear g
        (repeat ((conv => whnf); first | refine ⟨by kernel_rfl, ?_⟩ | refine bcf c8 ?_)); (conv => whnf)
        exact tl2.h v1 v3 h
    · intro v4 v5 h
      unfold ref06_insert_j2 at h
      refine rest_intro hX ?_
      (repeat ((conv => whnf); first | refine ⟨by kernel_rfl, ?_⟩ | refine bct (at_in am1) ?_ | refine bct (andt (at_in am1) rfl) ?_ | refine row_in (at_row am1) ?_ | refine bct (andt (at_in (at_nat am1)) rfl) ?_ | refine row_in (at_row (at_nat am1)) ?_)); (conv => whnf)
      refine br_some h (fun c6 g => ?_) (fun c6 g => ?_)
      · replace h := g
        clear g
        replace h := chk_some h
        obtain ⟨c7, h⟩ := h
        (repeat ((conv => whnf); first | refine ⟨by kernel_rfl, ?_⟩ | refine bct c6 ?_ | refine bct (at_in am1) ?_ | refine bct (andt (at_in am1) rfl) ?_ | refine row_in (at_row am1) ?_ | refine bct (andt (at_in (at_nat am1)) rfl) ?_ | refine row_in (at_row (at_nat am1)) ?_ | refine bct (room_map c7 rfl rfl rfl rfl) ?_ | refine eqv_to (cat_one (f := srw) v5 x1e) ?_)); (conv => whnf)
        exact ih1 _ v4 (v5 ++ [x1e]) (wrL hs1 hl1 hi1) h
      · replace h := g
        clear g
        (repeat ((conv => whnf); first | refine ⟨by kernel_rfl, ?_⟩ | refine bcf c6 ?_)); (conv => whnf)
        exact ih1 _ v4 v5 (wrL hs1 hl1 hi1) h
  · rw [ref06_insert_l1] at h
    refine loop_intro hX ?_
    (repeat ((conv => whnf); first | refine ⟨by kernel_rfl, ?_⟩ | refine eqv_to (map_len _) ?_ | refine bcf (lt_end hi1) ?_)); (conv => whnf)
    refine br_some h (fun c11 g => ?_) (fun c11 g => ?_)
    · replace h := g
      clear g
      replace h := chk_some h
      obtain ⟨c12, h⟩ := h
      (repeat ((conv => whnf); first | refine ⟨by kernel_rfl, ?_⟩ | refine bct c11 ?_ | refine bct (room_map c12 rfl rfl rfl rfl) ?_ | refine eqv_to (cat_one (f := srw) v3 p1) ?_)); (conv => whnf)
      exact ret_some (f := fun y => .one (.own 0)) (g := fun y => [.rows 1 (y.map srw)]) h hQ
    · replace h := g
      clear g
      (repeat ((conv => whnf); first | refine ⟨by kernel_rfl, ?_⟩ | refine bcf c11 ?_)); (conv => whnf)
      exact ret_some (f := fun y => .one (.own 0)) (g := fun y => [.rows 1 (y.map srw)]) h hQ
def ref06_Names_l2 (k1 : (List ByteArray) → Option ((List ByteArray))) : List ByteArray → (List ByteArray) → Option ((List ByteArray))
  | [], v4 =>
    (k1 v4)
  | x2e :: xs2, v4 =>
    (bnd (ref06_insert_s v4 x2e) fun y5 =>
      (ref06_Names_l2 k1 xs2  y5))
def ref06_Names_l1 : List Frag → (List ByteArray) → Option ((List ByteArray))
  | [], v2 =>
    some v2
  | x1e :: xs1, v2 =>
    (chk (smallL x1e.ids)
      ((ref06_Names_l2 (fun w0 => ref06_Names_l1 xs1  w0)) x1e.ids v2))
def ref06_Names_s (p0 : Know) : Option ((List ByteArray)) :=
  (chk (smallL p0.l)
    ((ref06_Names_l1) p0.l ([] : List ByteArray)))
theorem ref06_Names_c {X : Task → Prop} (hX : Closed X) {p0 : Know} {r : (List ByteArray)} {Q : A → List Blk → Prop} (h : ref06_Names_s p0 = some r) (hQ : Q (.one (.p (.sl (r.map srw)))) []) : X (.call 115 [.agg [ic p0.star.x0, ic p0.star.x1, ic p0.star.x2, ic p0.star.x3, ic p0.star.x4, ic p0.star.x5, ic p0.star.x6, ic p0.star.x7, .p (.sl (p0.l.map Frag.row))]] [] Q) := by
  unfold ref06_Names_s at h
  refine call_nz hX ?_
  conv => whnf
  refine call_intro hX Try.func115 rfl rfl ?_
  obtain ⟨hs1, h⟩ := chk_some h
  (repeat ((conv => whnf); first | refine ⟨by kernel_rfl, ?_⟩)); (conv => whnf)
  refine loop_k hX [1] ?_
  conv => whnf
  refine loop_lisx1 (fun (v1 : Int) (v2 : List ByteArray) => pad [(1, .one (.ptr 0 0)), (1, .one (.own 1)), (0, iv v1)] 31) (fun (v1 : Int) (v2 : List ByteArray) => [.box [ic p0.star.x0, ic p0.star.x1, ic p0.star.x2, ic p0.star.x3, ic p0.star.x4, ic p0.star.x5, ic p0.star.x6, ic p0.star.x7, .p (.sl (p0.l.map Frag.row))], .rows 1 (v2.map srw)]) _ p0.l (fun pre1 x1e xs1 v1 v2 hl1 hi1 h ih1 => ?_) (fun v1 v2 hi1 h => ?_) ([] : List ByteArray) h
  · rw [ref06_Names_l1] at h
    have am1 := at_mid hl1 hi1
    refine loop_intro hX ?_
    obtain ⟨hs2, h⟩ := chk_some h
    (repeat ((conv => whnf); first | refine ⟨by kernel_rfl, ?_⟩ | refine eqv_to (map_len _) ?_ | refine bct (lt_mid hl1 hi1) ?_)); (conv => whnf)
    refine loop_lisx1 (fun (v3 : Int) (v4 : List ByteArray) => pad [(1, .one (.ptr 0 0)), (1, .one (.own 1)), (0, iv v1), (0, iv v3)] 30) (fun (v3 : Int) (v4 : List ByteArray) => [.box [ic p0.star.x0, ic p0.star.x1, ic p0.star.x2, ic p0.star.x3, ic p0.star.x4, ic p0.star.x5, ic p0.star.x6, ic p0.star.x7, .p (.sl (p0.l.map Frag.row))], .rows 1 (v4.map srw)]) _ x1e.ids (fun pre2 x2e xs2 v3 v4 hl2 hi2 h ih2 => ?_) (fun v3 v4 hi2 h => ?_) v2 h
    · rw [ref06_Names_l2] at h
      have am2 := at_mid hl2 hi2
      refine loop_intro hX ?_
      replace h := bnd_some h
      obtain ⟨y5, e6, h⟩ := h
      (repeat ((conv => whnf); first | refine ⟨by kernel_rfl, ?_⟩ | refine bct (at_in am1) ?_ | refine bct (andt (at_in am1) rfl) ?_ | refine row_in (at_row am1) ?_ | refine bct (andt (at_in (at_nat am1)) rfl) ?_ | refine row_in (at_row (at_nat am1)) ?_ | refine eqv_to (map_len _) ?_ | refine bct (lt_mid hl2 hi2) ?_ | refine bct (at_in am2) ?_ | refine bct (andt (at_in am2) rfl) ?_ | refine row_in (at_row am2) ?_ | refine bct (andt (at_in (at_nat am2)) rfl) ?_ | refine row_in (at_row (at_nat am2)) ?_)); (conv => whnf)
      refine Or.inl ?_
      conv => whnf
      refine ref06_insert_c hX e6 ?_
      (repeat ((conv => whnf); first | refine ⟨by kernel_rfl, ?_⟩)); (conv => whnf)
      exact ih2 _ y5 (wrL hs2 hl2 hi2) h
    · rw [ref06_Names_l2] at h
      refine loop_intro hX ?_
      (repeat ((conv => whnf); first | refine ⟨by kernel_rfl, ?_⟩ | refine bct (at_in am1) ?_ | refine bct (andt (at_in am1) rfl) ?_ | refine row_in (at_row am1) ?_ | refine bct (andt (at_in (at_nat am1)) rfl) ?_ | refine row_in (at_row (at_nat am1)) ?_ | refine eqv_to (map_len _) ?_ | refine bcf (lt_end hi2) ?_)); (conv => whnf)
      exact ih1 _ v4 (wrL hs1 hl1 hi1) h
  · rw [ref06_Names_l1] at h
    refine loop_intro hX ?_
    (repeat ((conv => whnf); first | refine ⟨by kernel_rfl, ?_⟩ | refine eqv_to (map_len _) ?_ | refine bcf (lt_end hi1) ?_)); (conv => whnf)
    exact ret_some (f := fun y => .one (.p (.sl (y.map srw)))) (g := fun y => []) h hQ
def ref06_beyond_j9 (v15 : Int) (v16 : Int) (v17 : Int) (v18 : Int) (v19 : Int) (v20 : Int) (v21 : Int) (v22 : Int) : Option (V8) :=
  some (V8.mk v15 v16 v17 v18 v19 v20 v21 v22)
def ref06_beyond_j8 (p0 : Know) (v9 : Int) (v15 : Int) (v16 : Int) (v17 : Int) (v18 : Int) (v19 : Int) (v20 : Int) (v21 : Int) : Option (V8) :=
  (br (leI v9 p0.star.x7)
    (ref06_beyond_j9 v15 v16 v17 v18 v19 v20 v21 0)
    (ref06_beyond_j9 v15 v16 v17 v18 v19 v20 v21 v9))
def ref06_beyond_j7 (p0 : Know) (v8 : Int) (v9 : Int) (v15 : Int) (v16 : Int) (v17 : Int) (v18 : Int) (v19 : Int) (v20 : Int) : Option (V8) :=
  (br (leI v8 p0.star.x6)
    (ref06_beyond_j8 p0 v9 v15 v16 v17 v18 v19 v20 0)
    (ref06_beyond_j8 p0 v9 v15 v16 v17 v18 v19 v20 v8))
def ref06_beyond_j6 (p0 : Know) (v7 : Int) (v8 : Int) (v9 : Int) (v15 : Int) (v16 : Int) (v17 : Int) (v18 : Int) (v19 : Int) : Option (V8) :=
  (br (leI v7 p0.star.x5)
    (ref06_beyond_j7 p0 v8 v9 v15 v16 v17 v18 v19 0)
    (ref06_beyond_j7 p0 v8 v9 v15 v16 v17 v18 v19 v7))
def ref06_beyond_j5 (p0 : Know) (v6 : Int) (v7 : Int) (v8 : Int) (v9 : Int) (v15 : Int) (v16 : Int) (v17 : Int) (v18 : Int) : Option (V8) :=
  (br (leI v6 p0.star.x4)
    (ref06_beyond_j6 p0 v7 v8 v9 v15 v16 v17 v18 0)
    (ref06_beyond_j6 p0 v7 v8 v9 v15 v16 v17 v18 v6))
def ref06_beyond_j4 (p0 : Know) (v5 : Int) (v6 : Int) (v7 : Int) (v8 : Int) (v9 : Int) (v15 : Int) (v16 : Int) (v17 : Int) : Option (V8) :=
  (br (leI v5 p0.star.x3)
    (ref06_beyond_j5 p0 v6 v7 v8 v9 v15 v16 v17 0)
    (ref06_beyond_j5 p0 v6 v7 v8 v9 v15 v16 v17 v5))
def ref06_beyond_j3 (p0 : Know) (v4 : Int) (v5 : Int) (v6 : Int) (v7 : Int) (v8 : Int) (v9 : Int) (v15 : Int) (v16 : Int) : Option (V8) :=
  (br (leI v4 p0.star.x2)
    (ref06_beyond_j4 p0 v5 v6 v7 v8 v9 v15 v16 0)
    (ref06_beyond_j4 p0 v5 v6 v7 v8 v9 v15 v16 v4))
def ref06_beyond_j2 (p0 : Know) (v3 : Int) (v4 : Int) (v5 : Int) (v6 : Int) (v7 : Int) (v8 : Int) (v9 : Int) (v15 : Int) : Option (V8) :=
  (br (leI v3 p0.star.x1)
    (ref06_beyond_j3 p0 v4 v5 v6 v7 v8 v9 v15 0)
    (ref06_beyond_j3 p0 v4 v5 v6 v7 v8 v9 v15 v3))
def ref06_beyond_l1 (p0 : Know) (p1 : ByteArray) : List Frag → Int → Int → Int → Int → Int → Int → Int → Int → Option (V8)
  | [], v2, v3, v4, v5, v6, v7, v8, v9 =>
    (br (leI v2 p0.star.x0)
      (ref06_beyond_j2 p0 v3 v4 v5 v6 v7 v8 v9 0)
      (ref06_beyond_j2 p0 v3 v4 v5 v6 v7 v8 v9 v2))
  | x1e :: xs1, v2, v3, v4, v5, v6, v7, v8, v9 =>
    (bnd (ref06_Among_s x1e.ids p1) fun y10 =>
      (br y10
        (bnd (ref06_Max_s (V8.mk v2 v3 v4 v5 v6 v7 v8 v9) x1e.vec) fun y13 =>
          (ref06_beyond_l1 p0 p1 xs1  y13.x0 y13.x1 y13.x2 y13.x3 y13.x4 y13.x5 y13.x6 y13.x7))
        (ref06_beyond_l1 p0 p1 xs1  v2 v3 v4 v5 v6 v7 v8 v9)))
def ref06_beyond_s (p0 : Know) (p1 : ByteArray) : Option (V8) :=
  (chk (smallL p0.l)
    ((ref06_beyond_l1 p0 p1) p0.l 0 0 0 0 0 0 0 0))
theorem ref06_beyond_c {X : Task → Prop} (hX : Closed X) {p0 : Know} {p1 : ByteArray} {r : V8} {Q : A → List Blk → Prop} (h : ref06_beyond_s p0 p1 = some r) (hQ : Q (.agg [ic r.x0, ic r.x1, ic r.x2, ic r.x3, ic r.x4, ic r.x5, ic r.x6, ic r.x7]) []) : X (.call 116 [.agg [ic p0.star.x0, ic p0.star.x1, ic p0.star.x2, ic p0.star.x3, ic p0.star.x4, ic p0.star.x5, ic p0.star.x6, ic p0.star.x7, .p (.sl (p0.l.map Frag.row))], .one (.p (.v (.string p1)))] [] Q) := by
  unfold ref06_beyond_s at h
  refine call_intro hX Try.func116 rfl rfl ?_
  obtain ⟨hs1, h⟩ := chk_some h
  (repeat ((conv => whnf); first | refine ⟨by kernel_rfl, ?_⟩)); (conv => whnf)
  refine loop_lisx8 (fun (v1 : Int) (v2 : Int) (v3 : Int) (v4 : Int) (v5 : Int) (v6 : Int) (v7 : Int) (v8 : Int) (v9 : Int) => pad [(1, .one (.p (.v (.string p1)))), (0, .one (.ptr 0 0)), (1, .one (.ptr 1 0)), (0, .one (.ptr 2 0)), (0, iv v1)] 39) (fun (v1 : Int) (v2 : Int) (v3 : Int) (v4 : Int) (v5 : Int) (v6 : Int) (v7 : Int) (v8 : Int) (v9 : Int) => [.box [ic p0.star.x0, ic p0.star.x1, ic p0.star.x2, ic p0.star.x3, ic p0.star.x4, ic p0.star.x5, ic p0.star.x6, ic p0.star.x7, .p (.sl (p0.l.map Frag.row))], .box [ic 0, ic 0, ic 0, ic 0, ic 0, ic 0, ic 0, ic 0], .box [ic v2, ic v3, ic v4, ic v5, ic v6, ic v7, ic v8, ic v9]]) _ p0.l (fun pre1 x1e xs1 v1 v2 v3 v4 v5 v6 v7 v8 v9 hl1 hi1 h ih1 => ?_) (fun v1 v2 v3 v4 v5 v6 v7 v8 v9 hi1 h => ?_) 0 0 0 0 0 0 0 0 h
  · rw [ref06_beyond_l1] at h
    have am1 := at_mid hl1 hi1
    refine loop_intro hX ?_
    replace h := bnd_some h
    obtain ⟨y10, e11, h⟩ := h
    (repeat ((conv => whnf); first | refine ⟨by kernel_rfl, ?_⟩ | refine eqv_to (map_len _) ?_ | refine bct (lt_mid hl1 hi1) ?_ | refine bct (at_in am1) ?_ | refine bct (andt (at_in am1) rfl) ?_ | refine row_in (at_row am1) ?_ | refine bct (andt (at_in (at_nat am1)) rfl) ?_ | refine row_in (at_row (at_nat am1)) ?_)); (conv => whnf)
    refine ref06_Among_c hX e11 ?_
    (repeat ((conv => whnf); first | refine ⟨by kernel_rfl, ?_⟩)); (conv => whnf)
    refine br_some h (fun c12 g => ?_) (fun c12 g => ?_)
    · replace h := g
      clear g
      replace h := bnd_some h
      obtain ⟨y13, e14, h⟩ := h
      (repeat ((conv => whnf); first | refine ⟨by kernel_rfl, ?_⟩ | refine bct c12 ?_ | refine bct (at_in am1) ?_ | refine bct (andt (at_in am1) rfl) ?_ | refine row_in (at_row am1) ?_ | refine bct (andt (at_in (at_nat am1)) rfl) ?_ | refine row_in (at_row (at_nat am1)) ?_)); (conv => whnf)
      refine ref06_Max_c hX e14 ?_
      (repeat ((conv => whnf); first | refine ⟨by kernel_rfl, ?_⟩)); (conv => whnf)
      exact ih1 _ y13.x0 y13.x1 y13.x2 y13.x3 y13.x4 y13.x5 y13.x6 y13.x7 (wrL hs1 hl1 hi1) h
    · replace h := g
      clear g
      (repeat ((conv => whnf); first | refine ⟨by kernel_rfl, ?_⟩ | refine bcf c12 ?_)); (conv => whnf)
      exact ih1 _ v2 v3 v4 v5 v6 v7 v8 v9 (wrL hs1 hl1 hi1) h
  · rw [ref06_beyond_l1] at h
    refine loop_intro hX ?_
    (repeat ((conv => whnf); first | refine ⟨by kernel_rfl, ?_⟩ | refine eqv_to (map_len _) ?_ | refine bcf (lt_end hi1) ?_)); (conv => whnf)
    refine loop_intro hX ?_
    apply join1 (X := X) (r := r) (fun (v15 : Int) => pad [(2, .one (.ptr 0 0)), (1, .one (.ptr 1 0)), (0, .one (.ptr 2 0)), (1, iv 0)] 38) (fun (v15 : Int) => [.box [ic p0.star.x0, ic p0.star.x1, ic p0.star.x2, ic p0.star.x3, ic p0.star.x4, ic p0.star.x5, ic p0.star.x6, ic p0.star.x7, .p (.sl (p0.l.map Frag.row))], .box [ic 0, ic 0, ic 0, ic 0, ic 0, ic 0, ic 0, ic 0], .box [ic v15, ic v3, ic v4, ic v5, ic v6, ic v7, ic v8, ic v9]])
    · intro tl2
      (repeat ((conv => whnf); first | refine ⟨by kernel_rfl, ?_⟩)); (conv => whnf)
      refine br_some h (fun c30 g => ?_) (fun c30 g => ?_)
      · replace h := g
        clear g
        (repeat ((conv => whnf); first | refine ⟨by kernel_rfl, ?_⟩ | refine bct c30 ?_)); (conv => whnf)
        exact tl2.h 0 h
      · replace h := g
        clear g
        (repeat ((conv => whnf); first | refine ⟨by kernel_rfl, ?_⟩ | refine bcf c30 ?_)); (conv => whnf)
        exact tl2.h v2 h
    · intro v15 h
      unfold ref06_beyond_j2 at h
      refine rest_intro hX ?_
      (repeat ((conv => whnf); first | refine ⟨by kernel_rfl, ?_⟩)); (conv => whnf)
      refine loop_intro hX ?_
      apply join1 (X := X) (r := r) (fun (v16 : Int) => pad [(2, .one (.ptr 0 0)), (1, .one (.ptr 1 0)), (0, .one (.ptr 2 0)), (1, iv 1)] 38) (fun (v16 : Int) => [.box [ic p0.star.x0, ic p0.star.x1, ic p0.star.x2, ic p0.star.x3, ic p0.star.x4, ic p0.star.x5, ic p0.star.x6, ic p0.star.x7, .p (.sl (p0.l.map Frag.row))], .box [ic 0, ic 0, ic 0, ic 0, ic 0, ic 0, ic 0, ic 0], .box [ic v15, ic v16, ic v4, ic v5, ic v6, ic v7, ic v8, ic v9]])
      · intro tl3
        (repeat ((conv => whnf); first | refine ⟨by kernel_rfl, ?_⟩)); (conv => whnf)
        refine br_some h (fun c29 g => ?_) (fun c29 g => ?_)
        · replace h := g
          clear g
          (repeat ((conv => whnf); first | refine ⟨by kernel_rfl, ?_⟩ | refine bct c29 ?_)); (conv => whnf)
          exact tl3.h 0 h
        · replace h := g
          clear g
          (repeat ((conv => whnf); first | refine ⟨by kernel_rfl, ?_⟩ | refine bcf c29 ?_)); (conv => whnf)
          exact tl3.h v3 h
      · intro v16 h
        unfold ref06_beyond_j3 at h
        refine rest_intro hX ?_
        (repeat ((conv => whnf); first | refine ⟨by kernel_rfl, ?_⟩)); (conv => whnf)
        refine loop_intro hX ?_
        apply join1 (X := X) (r := r) (fun (v17 : Int) => pad [(2, .one (.ptr 0 0)), (1, .one (.ptr 1 0)), (0, .one (.ptr 2 0)), (1, iv 2)] 38) (fun (v17 : Int) => [.box [ic p0.star.x0, ic p0.star.x1, ic p0.star.x2, ic p0.star.x3, ic p0.star.x4, ic p0.star.x5, ic p0.star.x6, ic p0.star.x7, .p (.sl (p0.l.map Frag.row))], .box [ic 0, ic 0, ic 0, ic 0, ic 0, ic 0, ic 0, ic 0], .box [ic v15, ic v16, ic v17, ic v5, ic v6, ic v7, ic v8, ic v9]])
        · intro tl4
          (repeat ((conv => whnf); first | refine ⟨by kernel_rfl, ?_⟩)); (conv => whnf)
          refine br_some h (fun c28 g => ?_) (fun c28 g => ?_)
          · replace h := g
            clear g
            (repeat ((conv => whnf); first | refine ⟨by kernel_rfl, ?_⟩ | refine bct c28 ?_)); (conv => whnf)
            exact tl4.h 0 h
          · replace h := g
            clear g
            (repeat ((conv => whnf); first | refine ⟨by kernel_rfl, ?_⟩ | refine bcf c28 ?_)); (conv => whnf)
            exact tl4.h v4 h
        · intro v17 h
          unfold ref06_beyond_j4 at h
          refine rest_intro hX ?_
          (repeat ((conv => whnf); first | refine ⟨by kernel_rfl, ?_⟩)); (conv => whnf)
          refine loop_intro hX ?_
          apply join1 (X := X) (r := r) (fun (v18 : Int) => pad [(2, .one (.ptr 0 0)), (1, .one (.ptr 1 0)), (0, .one (.ptr 2 0)), (1, iv 3)] 38) (fun (v18 : Int) => [.box [ic p0.star.x0, ic p0.star.x1, ic p0.star.x2, ic p0.star.x3, ic p0.star.x4, ic p0.star.x5, ic p0.star.x6, ic p0.star.x7, .p (.sl (p0.l.map Frag.row))], .box [ic 0, ic 0, ic 0, ic 0, ic 0, ic 0, ic 0, ic 0], .box [ic v15, ic v16, ic v17, ic v18, ic v6, ic v7, ic v8, ic v9]])
          · intro tl5
            (repeat ((conv => whnf); first | refine ⟨by kernel_rfl, ?_⟩)); (conv => whnf)
            refine br_some h (fun c27 g => ?_) (fun c27 g => ?_)
            · replace h := g
              clear g
              (repeat ((conv => whnf); first | refine ⟨by kernel_rfl, ?_⟩ | refine bct c27 ?_)); (conv => whnf)
              exact tl5.h 0 h
            · replace h := g
              clear g
              (repeat ((conv => whnf); first | refine ⟨by kernel_rfl, ?_⟩ | refine bcf c27 ?_)); (conv => whnf)
              exact tl5.h v5 h
          · intro v18 h
            unfold ref06_beyond_j5 at h
            refine rest_intro hX ?_
            (repeat ((conv => whnf); first | refine ⟨by kernel_rfl, ?_⟩)); (conv => whnf)
            refine loop_intro hX ?_
            apply join1 (X := X) (r := r) (fun (v19 : Int) => pad [(2, .one (.ptr 0 0)), (1, .one (.ptr 1 0)), (0, .one (.ptr 2 0)), (1, iv 4)] 38) (fun (v19 : Int) => [.box [ic p0.star.x0, ic p0.star.x1, ic p0.star.x2, ic p0.star.x3, ic p0.star.x4, ic p0.star.x5, ic p0.star.x6, ic p0.star.x7, .p (.sl (p0.l.map Frag.row))], .box [ic 0, ic 0, ic 0, ic 0, ic 0, ic 0, ic 0, ic 0], .box [ic v15, ic v16, ic v17, ic v18, ic v19, ic v7, ic v8, ic v9]])
            · intro tl6
              (repeat ((conv => whnf); first | refine ⟨by kernel_rfl, ?_⟩)); (conv => whnf)
              refine br_some h (fun c26 g => ?_) (fun c26 g => ?_)
              · replace h := g
                clear g
                (repeat ((conv => whnf); first | refine ⟨by kernel_rfl, ?_⟩ | refine bct c26 ?_)); (conv => whnf)
                exact tl6.h 0 h
              · replace h := g
                clear g
                (repeat ((conv => whnf); first | refine ⟨by kernel_rfl, ?_⟩ | refine bcf c26 ?_)); (conv => whnf)
                exact tl6.h v6 h
            · intro v19 h
              unfold ref06_beyond_j6 at h
              refine rest_intro hX ?_
              (repeat ((conv => whnf); first | refine ⟨by kernel_rfl, ?_⟩)); (conv => whnf)
              refine loop_intro hX ?_
              apply join1 (X := X) (r := r) (fun (v20 : Int) => pad [(2, .one (.ptr 0 0)), (1, .one (.ptr 1 0)), (0, .one (.ptr 2 0)), (1, iv 5)] 38) (fun (v20 : Int) => [.box [ic p0.star.x0, ic p0.star.x1, ic p0.star.x2, ic p0.star.x3, ic p0.star.x4, ic p0.star.x5, ic p0.star.x6, ic p0.star.x7, .p (.sl (p0.l.map Frag.row))], .box [ic 0, ic 0, ic 0, ic 0, ic 0, ic 0, ic 0, ic 0], .box [ic v15, ic v16, ic v17, ic v18, ic v19, ic v20, ic v8, ic v9]])
              · intro tl7
                (repeat ((conv => whnf); first | refine ⟨by kernel_rfl, ?_⟩)); (conv => whnf)
                refine br_some h (fun c25 g => ?_) (fun c25 g => ?_)
                · replace h := g
                  clear g
                  (repeat ((conv => whnf); first | refine ⟨by kernel_rfl, ?_⟩ | refine bct c25 ?_)); (conv => whnf)
                  exact tl7.h 0 h
                · replace h := g
                  clear g
                  (repeat ((conv => whnf); first | refine ⟨by kernel_rfl, ?_⟩ | refine bcf c25 ?_)); (conv => whnf)
                  exact tl7.h v7 h
              · intro v20 h
                unfold ref06_beyond_j7 at h
                refine rest_intro hX ?_
                (repeat ((conv => whnf); first | refine ⟨by kernel_rfl, ?_⟩)); (conv => whnf)
                refine loop_intro hX ?_
                apply join1 (X := X) (r := r) (fun (v21 : Int) => pad [(2, .one (.ptr 0 0)), (1, .one (.ptr 1 0)), (0, .one (.ptr 2 0)), (1, iv 6)] 38) (fun (v21 : Int) => [.box [ic p0.star.x0, ic p0.star.x1, ic p0.star.x2, ic p0.star.x3, ic p0.star.x4, ic p0.star.x5, ic p0.star.x6, ic p0.star.x7, .p (.sl (p0.l.map Frag.row))], .box [ic 0, ic 0, ic 0, ic 0, ic 0, ic 0, ic 0, ic 0], .box [ic v15, ic v16, ic v17, ic v18, ic v19, ic v20, ic v21, ic v9]])
                · intro tl8
                  (repeat ((conv => whnf); first | refine ⟨by kernel_rfl, ?_⟩)); (conv => whnf)
                  refine br_some h (fun c24 g => ?_) (fun c24 g => ?_)
                  · replace h := g
                    clear g
                    (repeat ((conv => whnf); first | refine ⟨by kernel_rfl, ?_⟩ | refine bct c24 ?_)); (conv => whnf)
                    exact tl8.h 0 h
                  · replace h := g
                    clear g
                    (repeat ((conv => whnf); first | refine ⟨by kernel_rfl, ?_⟩ | refine bcf c24 ?_)); (conv => whnf)
                    exact tl8.h v8 h
                · intro v21 h
                  unfold ref06_beyond_j8 at h
                  refine rest_intro hX ?_
                  (repeat ((conv => whnf); first | refine ⟨by kernel_rfl, ?_⟩)); (conv => whnf)
                  refine loop_intro hX ?_
                  apply join1 (X := X) (r := r) (fun (v22 : Int) => pad [(2, .one (.ptr 0 0)), (1, .one (.ptr 1 0)), (0, .one (.ptr 2 0)), (1, iv 7)] 38) (fun (v22 : Int) => [.box [ic p0.star.x0, ic p0.star.x1, ic p0.star.x2, ic p0.star.x3, ic p0.star.x4, ic p0.star.x5, ic p0.star.x6, ic p0.star.x7, .p (.sl (p0.l.map Frag.row))], .box [ic 0, ic 0, ic 0, ic 0, ic 0, ic 0, ic 0, ic 0], .box [ic v15, ic v16, ic v17, ic v18, ic v19, ic v20, ic v21, ic v22]])
                  · intro tl9
                    (repeat ((conv => whnf); first | refine ⟨by kernel_rfl, ?_⟩)); (conv => whnf)
                    refine br_some h (fun c23 g => ?_) (fun c23 g => ?_)
                    · replace h := g
                      clear g
                      (repeat ((conv => whnf); first | refine ⟨by kernel_rfl, ?_⟩ | refine bct c23 ?_)); (conv => whnf)
                      exact tl9.h 0 h
                    · replace h := g
                      clear g
                      (repeat ((conv => whnf); first | refine ⟨by kernel_rfl, ?_⟩ | refine bcf c23 ?_)); (conv => whnf)
                      exact tl9.h v9 h
                  · intro v22 h
                    unfold ref06_beyond_j9 at h
                    refine rest_intro hX ?_
                    (repeat ((conv => whnf); first | refine ⟨by kernel_rfl, ?_⟩)); (conv => whnf)
                    refine loop_intro hX ?_
                    (repeat ((conv => whnf); first | refine ⟨by kernel_rfl, ?_⟩)); (conv => whnf)
                    exact ret_some (f := fun y => .agg [ic y.x0, ic y.x1, ic y.x2, ic y.x3, ic y.x4, ic y.x5, ic y.x6, ic y.x7]) (g := fun y => []) h hQ
def ref06_Plain_j3 (v12 : List Frag) (x2e : ByteArray) (y13 : V8) (k2 : (List Frag) → Option (Know)) (v16 : Int) : Option (Know) :=
  (br (eqI v16 (v12.length : Int))
    (chk (roomL v12.length 1)
      (bnd (atL (v12 ++ [(Frag.mk ([] : List ByteArray) y13)]) v16) fun x20 =>
        (chk (roomL x20.ids.length 1)
          (k2 ((v12 ++ [(Frag.mk ([] : List ByteArray) y13)]).set v16.toNat (Frag.mk (x20.ids ++ [x2e]) x20.vec))))))
    (bnd (atL v12 v16) fun x23 =>
      (chk (roomL x23.ids.length 1)
        (k2 (v12.set v16.toNat (Frag.mk (x23.ids ++ [x2e]) x23.vec))))))
def ref06_Plain_l4 (v12 : List Frag) (x2e : ByteArray) (y13 : V8) (k2 : (List Frag) → Option (Know)) : List Frag → Int → Option (Know)
  | [], v26 =>
    (ref06_Plain_j3 v12 x2e y13 k2 v26)
  | x4e :: xs4, v26 =>
    (br (!(eq8 x4e.vec y13))
      (ref06_Plain_l4 v12 x2e y13 k2 xs4 (v26 + 1) )
      (ref06_Plain_j3 v12 x2e y13 k2 v26))
def ref06_Plain_l2 (p0 : Know) : List ByteArray → (List Frag) → Option (Know)
  | [], v12 =>
    some (Know.mk p0.star v12)
  | x2e :: xs2, v12 =>
    (bnd (ref06_beyond_s p0 x2e) fun y13 =>
      (br (eq8 y13 (V8.mk 0 0 0 0 0 0 0 0))
        (ref06_Plain_l2 p0 xs2  v12)
        (chk (smallL v12)
          ((ref06_Plain_l4 v12 x2e y13 (fun w0 => ref06_Plain_l2 p0 xs2  w0)) v12 0 ))))
def ref06_Plain_l1 (p0 : Know) : List ByteArray → Option (Know)
  | [] =>
    some (Know.mk p0.star [])
  | x1e :: xs1 =>
    (bnd (ref06_beyond_s p0 x1e) fun y6 =>
      (br (eq8 y6 (V8.mk 0 0 0 0 0 0 0 0))
        (ref06_Plain_l1 p0 xs1  )
        (chk (roomL 0 1)
          ((ref06_Plain_l2 p0) xs1 [(Frag.mk [x1e] y6)]))))
def ref06_Plain_s (p0 : Know) : Option (Know) :=
  (bnd (ref06_Names_s p0) fun y1 =>
    (chk (smallL y1)
      ((ref06_Plain_l1 p0) y1 )))
theorem ref06_Plain_c {X : Task → Prop} (hX : Closed X) {p0 : Know} {r : Know} {Q : A → List Blk → Prop} (h : ref06_Plain_s p0 = some r) (hQ : Q (.agg [ic r.star.x0, ic r.star.x1, ic r.star.x2, ic r.star.x3, ic r.star.x4, ic r.star.x5, ic r.star.x6, ic r.star.x7, .p (.sl (r.l.map Frag.row))]) []) : X (.call 69 [.agg [ic p0.star.x0, ic p0.star.x1, ic p0.star.x2, ic p0.star.x3, ic p0.star.x4, ic p0.star.x5, ic p0.star.x6, ic p0.star.x7, .p (.sl (p0.l.map Frag.row))]] [] Q) := by
  unfold ref06_Plain_s at h
  refine call_nz hX ?_
  conv => whnf
  refine call_intro hX Try.func69 rfl rfl ?_
  replace h := bnd_some h
  obtain ⟨y1, e2, h⟩ := h
  (repeat ((conv => whnf); first | refine ⟨by kernel_rfl, ?_⟩)); (conv => whnf)
  refine ref06_Names_c hX e2 ?_
  obtain ⟨hs1, h⟩ := chk_some h
  (repeat ((conv => whnf); first | refine ⟨by kernel_rfl, ?_⟩)); (conv => whnf)
  refine loop_nc hX ?_
  conv => whnf
  refine loop_lisx0 (fun (v5 : Int) => pad [(1, .one (.ptr 0 0)), (0, .one (.ptr 1 0)), (0, .one (.ptr 3 0)), (0, .one (.p (.sl (y1.map srw)))), (0, iv v5)] 69) (fun (v5 : Int) => [.box [ic p0.star.x0, ic p0.star.x1, ic p0.star.x2, ic p0.star.x3, ic p0.star.x4, ic p0.star.x5, ic p0.star.x6, ic p0.star.x7, .p (.sl (p0.l.map Frag.row))], .box [ic 0, ic 0, ic 0, ic 0, ic 0, ic 0, ic 0, ic 0, .own 2], .rows 0 [], .box [ic p0.star.x0, ic p0.star.x1, ic p0.star.x2, ic p0.star.x3, ic p0.star.x4, ic p0.star.x5, ic p0.star.x6, ic p0.star.x7, .own 4], .rows 0 []]) _ y1 (fun pre1 x1e xs1 v5  hl1 hi1 h ih1 => ?_) (fun v5  hi1 h => ?_)  h
  · rw [ref06_Plain_l1] at h
    have am1 := at_mid hl1 hi1
    refine loop_intro hX ?_
    replace h := bnd_some h
    obtain ⟨y6, e7, h⟩ := h
    (repeat ((conv => whnf); first | refine ⟨by kernel_rfl, ?_⟩ | refine eqv_to (map_len _) ?_ | refine bct (lt_mid hl1 hi1) ?_ | refine bct (at_in am1) ?_ | refine bct (andt (at_in am1) rfl) ?_ | refine row_in (at_row am1) ?_ | refine bct (andt (at_in (at_nat am1)) rfl) ?_ | refine row_in (at_row (at_nat am1)) ?_)); (conv => whnf)
    refine ref06_beyond_c hX e7 ?_
    (repeat ((conv => whnf); first | refine ⟨by kernel_rfl, ?_⟩)); (conv => whnf)
    refine br_some h (fun c8 g => ?_) (fun c8 g => ?_)
    · replace h := g
      clear g
      (repeat ((conv => whnf); first | refine ⟨by kernel_rfl, ?_⟩ | with_reducible refine bct (eq8_b c8) ?_ | refine bct c8 ?_)); (conv => whnf)
      exact ih1 _  (wrL hs1 hl1 hi1) h
    · replace h := g
      clear g
      (repeat ((conv => whnf); first | refine ⟨by kernel_rfl, ?_⟩ | with_reducible refine bcf (eq8_b c8) ?_ | refine bcf c8 ?_)); (conv => whnf)
      refine loop_intro hX ?_
      (repeat ((conv => whnf); first | refine ⟨by kernel_rfl, ?_⟩ | refine eqv_to (b := 0) rfl ?_)); (conv => whnf)
      refine rest_intro hX ?_
      replace h := chk_some h
      obtain ⟨c10, h⟩ := h
      have hs2 := hs1
      (repeat ((conv => whnf); first | refine ⟨by kernel_rfl, ?_⟩ | refine eqv_to (b := 0) rfl ?_ | refine Two.r ?_ | refine bct (by rfl) ?_ | refine bct (by decide) ?_ | refine bct (at_in am1) ?_ | refine bct (andt (at_in am1) rfl) ?_ | refine row_in (at_row am1) ?_ | refine bct (andt (at_in (at_nat am1)) rfl) ?_ | refine row_in (at_row (at_nat am1)) ?_ | refine bct (room_zero c10 rfl rfl rfl rfl) ?_ | refine eqv_to (nil_one (f := srw) x1e) ?_ | refine eqv_to (b := ([(Frag.mk [x1e] y6)].map Frag.row)) rfl ?_)); (conv => whnf)
      refine loop_nc hX ?_
      conv => whnf
      refine loop_lisz1 (fun (v11 : Int) (v12 : List Frag) => pad [(1, .one (.ptr 0 0)), (0, .one (.ptr 1 0)), (0, .one (.ptr 3 0)), (0, .one (.p (.sl (y1.map srw)))), (0, iv v11)] 69) (fun (v11 : Int) (v12 : List Frag) => [.box [ic p0.star.x0, ic p0.star.x1, ic p0.star.x2, ic p0.star.x3, ic p0.star.x4, ic p0.star.x5, ic p0.star.x6, ic p0.star.x7, .p (.sl (p0.l.map Frag.row))], .box [ic 0, ic 0, ic 0, ic 0, ic 0, ic 0, ic 0, ic 0, .own 2], .rows 0 [], .box [ic p0.star.x0, ic p0.star.x1, ic p0.star.x2, ic p0.star.x3, ic p0.star.x4, ic p0.star.x5, ic p0.star.x6, ic p0.star.x7, .own 4], .nest 9 0 1 (v12.map Frag.row)]) _ y1 _ xs1 _ (next_cut hl1) (next_len hs1 hl1 hi1) (fun pre2 x2e xs2 v11 v12 hl2 hi2 h ih2 => ?_) (fun v11 v12 hi2 h => ?_) [(Frag.mk [x1e] y6)] h
      · rw [ref06_Plain_l2] at h
        have am2 := at_mid hl2 hi2
        refine loop_intro hX ?_
        replace h := bnd_some h
        obtain ⟨y13, e14, h⟩ := h
        (repeat ((conv => whnf); first | refine ⟨by kernel_rfl, ?_⟩ | refine eqv_to (map_len _) ?_ | refine bct (lt_mid hl2 hi2) ?_ | refine bct (at_in am2) ?_ | refine bct (andt (at_in am2) rfl) ?_ | refine row_in (at_row am2) ?_ | refine bct (andt (at_in (at_nat am2)) rfl) ?_ | refine row_in (at_row (at_nat am2)) ?_)); (conv => whnf)
        refine ref06_beyond_c hX e14 ?_
        (repeat ((conv => whnf); first | refine ⟨by kernel_rfl, ?_⟩)); (conv => whnf)
        refine br_some h (fun c15 g => ?_) (fun c15 g => ?_)
        · replace h := g
          clear g
          (repeat ((conv => whnf); first | refine ⟨by kernel_rfl, ?_⟩ | with_reducible refine bct (eq8_b c15) ?_ | refine bct c15 ?_)); (conv => whnf)
          exact ih2 _ v12 (wrL hs2 hl2 hi2) h
        · replace h := g
          clear g
          apply join1 (X := X) (r := r) (fun (v16 : Int) => pad [(1, .one (.ptr 0 0)), (0, .one (.ptr 1 0)), (0, .one (.ptr 3 0)), (0, .one (.p (.sl (y1.map srw)))), (0, iv v11), (0, .one (.ptr 5 0)), (0, iv v16)] 67) (fun (v16 : Int) => [.box [ic p0.star.x0, ic p0.star.x1, ic p0.star.x2, ic p0.star.x3, ic p0.star.x4, ic p0.star.x5, ic p0.star.x6, ic p0.star.x7, .p (.sl (p0.l.map Frag.row))], .box [ic 0, ic 0, ic 0, ic 0, ic 0, ic 0, ic 0, ic 0, .own 2], .rows 0 [], .box [ic p0.star.x0, ic p0.star.x1, ic p0.star.x2, ic p0.star.x3, ic p0.star.x4, ic p0.star.x5, ic p0.star.x6, ic p0.star.x7, .own 4], .nest 9 0 1 (v12.map Frag.row), .box [ic y13.x0, ic y13.x1, ic y13.x2, ic y13.x3, ic y13.x4, ic y13.x5, ic y13.x6, ic y13.x7]])
          · intro tl3
            obtain ⟨hs4, h⟩ := chk_some h
            (repeat ((conv => whnf); first | refine ⟨by kernel_rfl, ?_⟩ | with_reducible refine bcf (eq8_b c15) ?_ | refine bcf c15 ?_)); (conv => whnf)
            refine loop_list0 (fun (v26 : Int) => pad [(1, .one (.ptr 0 0)), (0, .one (.ptr 1 0)), (0, .one (.ptr 3 0)), (0, .one (.p (.sl (y1.map srw)))), (0, iv v11), (0, .one (.ptr 5 0)), (0, iv v26)] 67) (fun (v26 : Int) => [.box [ic p0.star.x0, ic p0.star.x1, ic p0.star.x2, ic p0.star.x3, ic p0.star.x4, ic p0.star.x5, ic p0.star.x6, ic p0.star.x7, .p (.sl (p0.l.map Frag.row))], .box [ic 0, ic 0, ic 0, ic 0, ic 0, ic 0, ic 0, ic 0, .own 2], .rows 0 [], .box [ic p0.star.x0, ic p0.star.x1, ic p0.star.x2, ic p0.star.x3, ic p0.star.x4, ic p0.star.x5, ic p0.star.x6, ic p0.star.x7, .own 4], .nest 9 0 1 (v12.map Frag.row), .box [ic y13.x0, ic y13.x1, ic y13.x2, ic y13.x3, ic y13.x4, ic y13.x5, ic y13.x6, ic y13.x7]]) _ v12 (fun pre4 x4e xs4 v26  hl4 hi4 h ih4 => ?_) (fun v26  hi4 h => ?_)  h
            · rw [ref06_Plain_l4] at h
              have am4 := at_mid hl4 hi4
              refine loop_intro hX ?_
              (repeat ((conv => whnf); first | refine ⟨by kernel_rfl, ?_⟩ | refine eqv_to (map_len _) ?_ | refine bct (lt_mid hl4 hi4) ?_ | refine bct (at_in am4) ?_ | refine bct (andt (at_in am4) rfl) ?_ | refine row_in (at_row am4) ?_ | refine bct (andt (at_in (at_nat am4)) rfl) ?_ | refine row_in (at_row (at_nat am4)) ?_ | refine bct (and3 (at_in (at_nat am4)) rfl rfl) ?_ | refine bct (andt rfl rfl) ?_)); (conv => whnf)
              refine br_some h (fun c27 g => ?_) (fun c27 g => ?_)
              · replace h := g
                clear g
                (repeat ((conv => whnf); first | refine ⟨by kernel_rfl, ?_⟩ | refine bct c27 ?_)); (conv => whnf)
                exact ih4 _  (wrL hs4 hl4 hi4) h
              · replace h := g
                clear g
                (repeat ((conv => whnf); first | refine ⟨by kernel_rfl, ?_⟩ | refine bcf c27 ?_)); (conv => whnf)
                exact tl3.h v26 h
            · rw [ref06_Plain_l4] at h
              refine loop_intro hX ?_
              (repeat ((conv => whnf); first | refine ⟨by kernel_rfl, ?_⟩ | refine eqv_to (map_len _) ?_ | refine bcf (lt_end hi4) ?_)); (conv => whnf)
              exact tl3.h v26 h
          · intro v16 h
            unfold ref06_Plain_j3 at h
            refine rest_intro hX ?_
            (repeat ((conv => whnf); first | refine ⟨by kernel_rfl, ?_⟩ | refine eqv_to (map_len _) ?_)); (conv => whnf)
            refine br_some h (fun c17 g => ?_) (fun c17 g => ?_)
            · replace h := g
              clear g
              replace h := chk_some h
              obtain ⟨c19, h⟩ := h
              replace h := bnd_some h
              obtain ⟨x20, a21, h⟩ := h
              replace h := chk_some h
              obtain ⟨c22, h⟩ := h
              (repeat ((conv => whnf); first | refine ⟨by kernel_rfl, ?_⟩ | refine bct c17 ?_ | refine Two.r ?_ | refine bct (room_nest c19 rfl rfl rfl) ?_ | refine eqv_to (cat_one (f := Frag.row) v12 (Frag.mk ([] : List ByteArray) y13)) ?_ | refine bct (at_in a21) ?_ | refine bct (andt (at_in a21) rfl) ?_ | refine row_in (at_row a21) ?_ | refine bct (andt (at_in (at_nat a21)) rfl) ?_ | refine row_in (at_row (at_nat a21)) ?_ | refine bct (and3 (at_in (at_nat a21)) rfl rfl) ?_ | refine bct (and3 (at_in a21) rfl rfl) ?_ | refine bct (at_in am2) ?_ | refine bct (andt (at_in am2) rfl) ?_ | refine row_in (at_row am2) ?_ | refine bct (andt (at_in (at_nat am2)) rfl) ?_ | refine row_in (at_row (at_nat am2)) ?_ | refine bct (room_map c22 rfl rfl rfl rfl) ?_ | refine eqv_to (cat_one (f := srw) x20.ids x2e) ?_ | refine bct (and4 (at_in (at_nat a21)) rfl rfl (natbeq_self _)) ?_ | refine bct (and4 (at_in a21) rfl rfl (natbeq_self _)) ?_ | refine eqv_to (set_map (f := Frag.row) (v12 ++ [(Frag.mk ([] : List ByteArray) y13)]) v16.toNat (Frag.mk (x20.ids ++ [x2e]) x20.vec)) ?_)); (conv => whnf)
              exact ih2 _ ((v12 ++ [(Frag.mk ([] : List ByteArray) y13)]).set v16.toNat (Frag.mk (x20.ids ++ [x2e]) x20.vec)) (wrL hs2 hl2 hi2) h
            · replace h := g
              clear g
              replace h := bnd_some h
              obtain ⟨x23, a24, h⟩ := h
              replace h := chk_some h
              obtain ⟨c25, h⟩ := h
              (repeat ((conv => whnf); first | refine ⟨by kernel_rfl, ?_⟩ | refine bcf c17 ?_ | refine bct (at_in a24) ?_ | refine bct (andt (at_in a24) rfl) ?_ | refine row_in (at_row a24) ?_ | refine bct (andt (at_in (at_nat a24)) rfl) ?_ | refine row_in (at_row (at_nat a24)) ?_ | refine bct (and3 (at_in (at_nat a24)) rfl rfl) ?_ | refine bct (and3 (at_in a24) rfl rfl) ?_ | refine bct (at_in am2) ?_ | refine bct (andt (at_in am2) rfl) ?_ | refine row_in (at_row am2) ?_ | refine bct (andt (at_in (at_nat am2)) rfl) ?_ | refine row_in (at_row (at_nat am2)) ?_ | refine bct (room_map c25 rfl rfl rfl rfl) ?_ | refine eqv_to (cat_one (f := srw) x23.ids x2e) ?_ | refine bct (and4 (at_in (at_nat a24)) rfl rfl (natbeq_self _)) ?_ | refine bct (and4 (at_in a24) rfl rfl (natbeq_self _)) ?_ | refine eqv_to (set_map (f := Frag.row) v12 v16.toNat (Frag.mk (x23.ids ++ [x2e]) x23.vec)) ?_)); (conv => whnf)
              exact ih2 _ (v12.set v16.toNat (Frag.mk (x23.ids ++ [x2e]) x23.vec)) (wrL hs2 hl2 hi2) h
      · rw [ref06_Plain_l2] at h
        refine loop_intro hX ?_
        (repeat ((conv => whnf); first | refine ⟨by kernel_rfl, ?_⟩ | refine eqv_to (map_len _) ?_ | refine bcf (lt_end hi2) ?_)); (conv => whnf)
        exact ret_some (f := fun y => .agg [ic y.star.x0, ic y.star.x1, ic y.star.x2, ic y.star.x3, ic y.star.x4, ic y.star.x5, ic y.star.x6, ic y.star.x7, .p (.sl (y.l.map Frag.row))]) (g := fun y => []) h hQ
  · rw [ref06_Plain_l1] at h
    refine loop_intro hX ?_
    (repeat ((conv => whnf); first | refine ⟨by kernel_rfl, ?_⟩ | refine eqv_to (map_len _) ?_ | refine bcf (lt_end hi1) ?_)); (conv => whnf)
    exact ret_some (f := fun y => .agg [ic y.star.x0, ic y.star.x1, ic y.star.x2, ic y.star.x3, ic y.star.x4, ic y.star.x5, ic y.star.x6, ic y.star.x7, .p (.sl (y.l.map Frag.row))]) (g := fun y => []) h hQ
def ref06_Alike_l2 (x4 : Frag) (k1 : Option (Bool)) : List ByteArray → Int → Option (Bool)
  | [], v8 =>
    (k1 )
  | x2e :: xs2, v8 =>
    (bnd (atL x4.ids v8) fun x9 =>
      (br (!eqS x2e x9)
        (some false)
        (ref06_Alike_l2 x4 k1 xs2 (v8 + 1) )))
def ref06_Alike_l1 (p1 : Know) : List Frag → Int → Option (Bool)
  | [], v3 =>
    some true
  | x1e :: xs1, v3 =>
    (bnd (atL p1.l v3) fun x4 =>
      (br (!(eq8 x1e.vec x4.vec))
        (some false)
        (br (!eqI (x1e.ids.length : Int) (x4.ids.length : Int))
          (some false)
          (chk (smallL x1e.ids)
            ((ref06_Alike_l2 x4 (ref06_Alike_l1 p1 xs1 (v3 + 1))) x1e.ids 0 )))))
def ref06_Alike_s (p0 : Know) (p1 : Know) : Option (Bool) :=
  (br (!(eq8 p0.star p1.star))
    (some false)
    (br (!eqI (p0.l.length : Int) (p1.l.length : Int))
      (some false)
      (chk (smallL p0.l)
        ((ref06_Alike_l1 p1) p0.l 0 ))))
theorem ref06_Alike_c {X : Task → Prop} (hX : Closed X) {p0 : Know} {p1 : Know} {r : Bool} {Q : A → List Blk → Prop} (h : ref06_Alike_s p0 p1 = some r) (hQ : Q (.one (.p (.v (.bool r)))) []) : X (.call 63 [.agg [ic p0.star.x0, ic p0.star.x1, ic p0.star.x2, ic p0.star.x3, ic p0.star.x4, ic p0.star.x5, ic p0.star.x6, ic p0.star.x7, .p (.sl (p0.l.map Frag.row))], .agg [ic p1.star.x0, ic p1.star.x1, ic p1.star.x2, ic p1.star.x3, ic p1.star.x4, ic p1.star.x5, ic p1.star.x6, ic p1.star.x7, .p (.sl (p1.l.map Frag.row))]] [] Q) := by
  unfold ref06_Alike_s at h
  refine call_intro hX Try.func63 rfl rfl ?_
  (repeat ((conv => whnf); first | refine ⟨by kernel_rfl, ?_⟩)); (conv => whnf)
  refine br_some h (fun c1 g => ?_) (fun c1 g => ?_)
  · replace h := g
    clear g
    (repeat ((conv => whnf); first | refine ⟨by kernel_rfl, ?_⟩ | refine bct c1 ?_)); (conv => whnf)
    exact ret_some (f := fun y => .one (.p (.v (.bool y)))) (g := fun y => []) h hQ
  · replace h := g
    clear g
    (repeat ((conv => whnf); first | refine ⟨by kernel_rfl, ?_⟩ | refine bcf c1 ?_ | refine eqv_to (map_len _) ?_)); (conv => whnf)
    refine br_some h (fun c2 g => ?_) (fun c2 g => ?_)
    · replace h := g
      clear g
      (repeat ((conv => whnf); first | refine ⟨by kernel_rfl, ?_⟩ | refine bct c2 ?_)); (conv => whnf)
      exact ret_some (f := fun y => .one (.p (.v (.bool y)))) (g := fun y => []) h hQ
    · replace h := g
      clear g
      obtain ⟨hs1, h⟩ := chk_some h
      (repeat ((conv => whnf); first | refine ⟨by kernel_rfl, ?_⟩ | refine bcf c2 ?_)); (conv => whnf)
      refine loop_list0 (fun (v3 : Int) => pad [(2, .one (.ptr 0 0)), (0, .one (.ptr 1 0)), (1, iv v3)] 82) (fun (v3 : Int) => [.box [ic p0.star.x0, ic p0.star.x1, ic p0.star.x2, ic p0.star.x3, ic p0.star.x4, ic p0.star.x5, ic p0.star.x6, ic p0.star.x7, .p (.sl (p0.l.map Frag.row))], .box [ic p1.star.x0, ic p1.star.x1, ic p1.star.x2, ic p1.star.x3, ic p1.star.x4, ic p1.star.x5, ic p1.star.x6, ic p1.star.x7, .p (.sl (p1.l.map Frag.row))]]) _ p0.l (fun pre1 x1e xs1 v3  hl1 hi1 h ih1 => ?_) (fun v3  hi1 h => ?_)  h
      · rw [ref06_Alike_l1] at h
        have am1 := at_mid hl1 hi1
        refine loop_intro hX ?_
        replace h := bnd_some h
        obtain ⟨x4, a5, h⟩ := h
        (repeat ((conv => whnf); first | refine ⟨by kernel_rfl, ?_⟩ | refine eqv_to (map_len _) ?_ | refine bct (lt_mid hl1 hi1) ?_ | refine bct (at_in am1) ?_ | refine bct (andt (at_in am1) rfl) ?_ | refine row_in (at_row am1) ?_ | refine bct (andt (at_in (at_nat am1)) rfl) ?_ | refine row_in (at_row (at_nat am1)) ?_ | refine bct (at_in a5) ?_ | refine bct (andt (at_in a5) rfl) ?_ | refine row_in (at_row a5) ?_ | refine bct (andt (at_in (at_nat a5)) rfl) ?_ | refine row_in (at_row (at_nat a5)) ?_)); (conv => whnf)
        refine br_some h (fun c6 g => ?_) (fun c6 g => ?_)
        · replace h := g
          clear g
          (repeat ((conv => whnf); first | refine ⟨by kernel_rfl, ?_⟩ | refine bct c6 ?_)); (conv => whnf)
          exact ret_some (f := fun y => .one (.p (.v (.bool y)))) (g := fun y => []) h hQ
        · replace h := g
          clear g
          (repeat ((conv => whnf); first | refine ⟨by kernel_rfl, ?_⟩ | refine bcf c6 ?_ | refine bct (at_in am1) ?_ | refine bct (andt (at_in am1) rfl) ?_ | refine row_in (at_row am1) ?_ | refine bct (andt (at_in (at_nat am1)) rfl) ?_ | refine row_in (at_row (at_nat am1)) ?_ | refine eqv_to (map_len _) ?_ | refine bct (at_in a5) ?_ | refine bct (andt (at_in a5) rfl) ?_ | refine row_in (at_row a5) ?_ | refine bct (andt (at_in (at_nat a5)) rfl) ?_ | refine row_in (at_row (at_nat a5)) ?_)); (conv => whnf)
          refine br_some h (fun c7 g => ?_) (fun c7 g => ?_)
          · replace h := g
            clear g
            (repeat ((conv => whnf); first | refine ⟨by kernel_rfl, ?_⟩ | refine bct c7 ?_)); (conv => whnf)
            exact ret_some (f := fun y => .one (.p (.v (.bool y)))) (g := fun y => []) h hQ
          · replace h := g
            clear g
            obtain ⟨hs2, h⟩ := chk_some h
            (repeat ((conv => whnf); first | refine ⟨by kernel_rfl, ?_⟩ | refine bcf c7 ?_)); (conv => whnf)
            refine loop_list0 (fun (v8 : Int) => pad [(2, .one (.ptr 0 0)), (0, .one (.ptr 1 0)), (1, iv v3), (0, iv v8)] 81) (fun (v8 : Int) => [.box [ic p0.star.x0, ic p0.star.x1, ic p0.star.x2, ic p0.star.x3, ic p0.star.x4, ic p0.star.x5, ic p0.star.x6, ic p0.star.x7, .p (.sl (p0.l.map Frag.row))], .box [ic p1.star.x0, ic p1.star.x1, ic p1.star.x2, ic p1.star.x3, ic p1.star.x4, ic p1.star.x5, ic p1.star.x6, ic p1.star.x7, .p (.sl (p1.l.map Frag.row))]]) _ x1e.ids (fun pre2 x2e xs2 v8  hl2 hi2 h ih2 => ?_) (fun v8  hi2 h => ?_)  h
            · rw [ref06_Alike_l2] at h
              have am2 := at_mid hl2 hi2
              refine loop_intro hX ?_
              replace h := bnd_some h
              obtain ⟨x9, a10, h⟩ := h
              (repeat ((conv => whnf); first | refine ⟨by kernel_rfl, ?_⟩ | refine bct (at_in am1) ?_ | refine bct (andt (at_in am1) rfl) ?_ | refine row_in (at_row am1) ?_ | refine bct (andt (at_in (at_nat am1)) rfl) ?_ | refine row_in (at_row (at_nat am1)) ?_ | refine eqv_to (map_len _) ?_ | refine bct (lt_mid hl2 hi2) ?_ | refine bct (at_in am2) ?_ | refine bct (andt (at_in am2) rfl) ?_ | refine row_in (at_row am2) ?_ | refine bct (andt (at_in (at_nat am2)) rfl) ?_ | refine row_in (at_row (at_nat am2)) ?_ | refine bct (at_in a5) ?_ | refine bct (andt (at_in a5) rfl) ?_ | refine row_in (at_row a5) ?_ | refine bct (andt (at_in (at_nat a5)) rfl) ?_ | refine row_in (at_row (at_nat a5)) ?_ | refine bct (at_in a10) ?_ | refine bct (andt (at_in a10) rfl) ?_ | refine row_in (at_row a10) ?_ | refine bct (andt (at_in (at_nat a10)) rfl) ?_ | refine row_in (at_row (at_nat a10)) ?_)); (conv => whnf)
              refine br_some h (fun c11 g => ?_) (fun c11 g => ?_)
              · replace h := g
                clear g
                (repeat ((conv => whnf); first | refine ⟨by kernel_rfl, ?_⟩ | refine bct c11 ?_)); (conv => whnf)
                exact ret_some (f := fun y => .one (.p (.v (.bool y)))) (g := fun y => []) h hQ
              · replace h := g
                clear g
                (repeat ((conv => whnf); first | refine ⟨by kernel_rfl, ?_⟩ | refine bcf c11 ?_)); (conv => whnf)
                exact ih2 _  (wrL hs2 hl2 hi2) h
            · rw [ref06_Alike_l2] at h
              refine loop_intro hX ?_
              (repeat ((conv => whnf); first | refine ⟨by kernel_rfl, ?_⟩ | refine bct (at_in am1) ?_ | refine bct (andt (at_in am1) rfl) ?_ | refine row_in (at_row am1) ?_ | refine bct (andt (at_in (at_nat am1)) rfl) ?_ | refine row_in (at_row (at_nat am1)) ?_ | refine eqv_to (map_len _) ?_ | refine bcf (lt_end hi2) ?_)); (conv => whnf)
              exact ih1 _  (wrL hs1 hl1 hi1) h
      · rw [ref06_Alike_l1] at h
        refine loop_intro hX ?_
        (repeat ((conv => whnf); first | refine ⟨by kernel_rfl, ?_⟩ | refine eqv_to (map_len _) ?_ | refine bcf (lt_end hi1) ?_)); (conv => whnf)
        exact ret_some (f := fun y => .one (.p (.v (.bool y)))) (g := fun y => []) h hQ
def ref06_May_l2 (k1 : Option (Bool)) : List ByteArray → Option (Bool)
  | [] =>
    (k1 )
  | x2e :: xs2 =>
    (bnd (ref01_Name_s x2e) fun y14 =>
      (br (!y14)
        (some false)
        (ref06_May_l2 k1 xs2  )))
def ref06_May_l1 : List Frag → Option (Bool)
  | [] =>
    some true
  | x1e :: xs1 =>
    (bnd (ref06_MayVec_s x1e.vec) fun y10 =>
      (br (!y10)
        (some false)
        (chk (smallL x1e.ids)
          ((ref06_May_l2 (ref06_May_l1 xs1 )) x1e.ids ))))
def ref06_May_s (p0 : Know) : Option (Bool) :=
  (bnd (ref06_Plain_s p0) fun y1 =>
    (bnd (ref06_Alike_s p0 y1) fun y3 =>
      (bnd (ref06_MayVec_s p0.star) fun y5 =>
        (br (!y3)
          (some false)
          (br (!y5)
            (some false)
            (chk (smallL p0.l)
              ((ref06_May_l1) p0.l )))))))
theorem ref06_May_c {X : Task → Prop} (hX : Closed X) {p0 : Know} {r : Bool} {Q : A → List Blk → Prop} (h : ref06_May_s p0 = some r) (hQ : Q (.one (.p (.v (.bool r)))) []) : X (.call 77 [.agg [ic p0.star.x0, ic p0.star.x1, ic p0.star.x2, ic p0.star.x3, ic p0.star.x4, ic p0.star.x5, ic p0.star.x6, ic p0.star.x7, .p (.sl (p0.l.map Frag.row))]] [] Q) := by
  unfold ref06_May_s at h
  refine call_intro hX Try.func77 rfl rfl ?_
  replace h := bnd_some h
  obtain ⟨y1, e2, h⟩ := h
  (repeat ((conv => whnf); first | refine ⟨by kernel_rfl, ?_⟩)); (conv => whnf)
  refine ref06_Plain_c hX e2 ?_
  replace h := bnd_some h
  obtain ⟨y3, e4, h⟩ := h
  (repeat ((conv => whnf); first | refine ⟨by kernel_rfl, ?_⟩)); (conv => whnf)
  refine ref06_Alike_c hX e4 ?_
  replace h := bnd_some h
  obtain ⟨y5, e6, h⟩ := h
  (repeat ((conv => whnf); first | refine ⟨by kernel_rfl, ?_⟩)); (conv => whnf)
  refine ref06_MayVec_c hX e6 ?_
  (repeat ((conv => whnf); first | refine ⟨by kernel_rfl, ?_⟩)); (conv => whnf)
  refine br_some h (fun c7 g => ?_) (fun c7 g => ?_)
  · replace h := g
    clear g
    (repeat ((conv => whnf); first | refine ⟨by kernel_rfl, ?_⟩ | refine bct c7 ?_)); (conv => whnf)
    exact ret_some (f := fun y => .one (.p (.v (.bool y)))) (g := fun y => []) h hQ
  · replace h := g
    clear g
    (repeat ((conv => whnf); first | refine ⟨by kernel_rfl, ?_⟩ | refine bcf c7 ?_)); (conv => whnf)
    refine br_some h (fun c8 g => ?_) (fun c8 g => ?_)
    · replace h := g
      clear g
      (repeat ((conv => whnf); first | refine ⟨by kernel_rfl, ?_⟩ | refine bct c8 ?_)); (conv => whnf)
      exact ret_some (f := fun y => .one (.p (.v (.bool y)))) (g := fun y => []) h hQ
    · replace h := g
      clear g
      obtain ⟨hs1, h⟩ := chk_some h
      (repeat ((conv => whnf); first | refine ⟨by kernel_rfl, ?_⟩ | refine bcf c8 ?_)); (conv => whnf)
      refine loop_lisx0 (fun (v9 : Int) => pad [(1, .one (.ptr 0 0)), (3, iv v9)] 55) (fun (v9 : Int) => [.box [ic p0.star.x0, ic p0.star.x1, ic p0.star.x2, ic p0.star.x3, ic p0.star.x4, ic p0.star.x5, ic p0.star.x6, ic p0.star.x7, .p (.sl (p0.l.map Frag.row))]]) _ p0.l (fun pre1 x1e xs1 v9  hl1 hi1 h ih1 => ?_) (fun v9  hi1 h => ?_)  h
      · rw [ref06_May_l1] at h
        have am1 := at_mid hl1 hi1
        refine loop_intro hX ?_
        replace h := bnd_some h
        obtain ⟨y10, e11, h⟩ := h
        (repeat ((conv => whnf); first | refine ⟨by kernel_rfl, ?_⟩ | refine eqv_to (map_len _) ?_ | refine bct (lt_mid hl1 hi1) ?_ | refine bct (at_in am1) ?_ | refine bct (andt (at_in am1) rfl) ?_ | refine row_in (at_row am1) ?_ | refine bct (andt (at_in (at_nat am1)) rfl) ?_ | refine row_in (at_row (at_nat am1)) ?_)); (conv => whnf)
        refine ref06_MayVec_c hX e11 ?_
        (repeat ((conv => whnf); first | refine ⟨by kernel_rfl, ?_⟩)); (conv => whnf)
        refine br_some h (fun c12 g => ?_) (fun c12 g => ?_)
        · replace h := g
          clear g
          (repeat ((conv => whnf); first | refine ⟨by kernel_rfl, ?_⟩ | refine bct c12 ?_)); (conv => whnf)
          exact ret_some (f := fun y => .one (.p (.v (.bool y)))) (g := fun y => []) h hQ
        · replace h := g
          clear g
          obtain ⟨hs2, h⟩ := chk_some h
          (repeat ((conv => whnf); first | refine ⟨by kernel_rfl, ?_⟩ | refine bcf c12 ?_)); (conv => whnf)
          refine loop_lisx0 (fun (v13 : Int) => pad [(1, .one (.ptr 0 0)), (3, iv v9), (1, iv v13)] 53) (fun (v13 : Int) => [.box [ic p0.star.x0, ic p0.star.x1, ic p0.star.x2, ic p0.star.x3, ic p0.star.x4, ic p0.star.x5, ic p0.star.x6, ic p0.star.x7, .p (.sl (p0.l.map Frag.row))]]) _ x1e.ids (fun pre2 x2e xs2 v13  hl2 hi2 h ih2 => ?_) (fun v13  hi2 h => ?_)  h
          · rw [ref06_May_l2] at h
            have am2 := at_mid hl2 hi2
            refine loop_intro hX ?_
            replace h := bnd_some h
            obtain ⟨y14, e15, h⟩ := h
            (repeat ((conv => whnf); first | refine ⟨by kernel_rfl, ?_⟩ | refine bct (at_in am1) ?_ | refine bct (andt (at_in am1) rfl) ?_ | refine row_in (at_row am1) ?_ | refine bct (andt (at_in (at_nat am1)) rfl) ?_ | refine row_in (at_row (at_nat am1)) ?_ | refine eqv_to (map_len _) ?_ | refine bct (lt_mid hl2 hi2) ?_ | refine bct (at_in am2) ?_ | refine bct (andt (at_in am2) rfl) ?_ | refine row_in (at_row am2) ?_ | refine bct (andt (at_in (at_nat am2)) rfl) ?_ | refine row_in (at_row (at_nat am2)) ?_)); (conv => whnf)
            refine ref01_Name_c hX e15 ?_
            (repeat ((conv => whnf); first | refine ⟨by kernel_rfl, ?_⟩)); (conv => whnf)
            refine br_some h (fun c16 g => ?_) (fun c16 g => ?_)
            · replace h := g
              clear g
              (repeat ((conv => whnf); first | refine ⟨by kernel_rfl, ?_⟩ | refine bct c16 ?_)); (conv => whnf)
              exact ret_some (f := fun y => .one (.p (.v (.bool y)))) (g := fun y => []) h hQ
            · replace h := g
              clear g
              (repeat ((conv => whnf); first | refine ⟨by kernel_rfl, ?_⟩ | refine bcf c16 ?_)); (conv => whnf)
              exact ih2 _  (wrL hs2 hl2 hi2) h
          · rw [ref06_May_l2] at h
            refine loop_intro hX ?_
            (repeat ((conv => whnf); first | refine ⟨by kernel_rfl, ?_⟩ | refine bct (at_in am1) ?_ | refine bct (andt (at_in am1) rfl) ?_ | refine row_in (at_row am1) ?_ | refine bct (andt (at_in (at_nat am1)) rfl) ?_ | refine row_in (at_row (at_nat am1)) ?_ | refine eqv_to (map_len _) ?_ | refine bcf (lt_end hi2) ?_)); (conv => whnf)
            exact ih1 _  (wrL hs1 hl1 hi1) h
      · rw [ref06_May_l1] at h
        refine loop_intro hX ?_
        (repeat ((conv => whnf); first | refine ⟨by kernel_rfl, ?_⟩ | refine eqv_to (map_len _) ?_ | refine bcf (lt_end hi1) ?_)); (conv => whnf)
        exact ret_some (f := fun y => .one (.p (.v (.bool y)))) (g := fun y => []) h hQ
end
end Go.Proofs.Ytijkfjahgijphaa
