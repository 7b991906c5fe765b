/- Layer 7, the program's. Written by decomp.py. -/
import Derived.Test.YtijkfjahgijphaaKG3o
import Derived.Test.YtijkfjahgijphaaKLoops
set_option linter.unusedVariables false
set_option linter.unusedSimpArgs false
set_option maxRecDepth 100000
set_option maxHeartbeats 0
namespace Go.Proofs.Ytijkfjahgijphaa
open Go E
noncomputable section
open Pred
def know_Join_l2 (y1 : V8) : List (List Frag) → (List Frag) → Option (Know)
  | [], v9 =>
    (bnd (know_Plain_s (Know.mk y1 v9)) fun y11 =>
      some y11)
  | x2e :: xs2, v9 =>
    (chk (roomL v9.length x2e.length)
      (know_Join_l2 y1 xs2  (v9 ++ x2e)))
def know_Join_l1 (p0 : Know) (p1 : Know) (y1 : V8) : List (List Frag) → Int → Option (Know)
  | [], v3 =>
    (bnd (grow_s v3) fun y6 =>
      (chk (smallL [p0.l, p1.l])
        ((know_Join_l2 y1) [p0.l, p1.l] y6)))
  | x1e :: xs1, v3 =>
    (br (ltI (wr .i64 (v3 + (x1e.length : Int))) 0)
      none
      (know_Join_l1 p0 p1 y1 xs1  (wr .i64 (v3 + (x1e.length : Int)))))
def know_Join_s (p0 : Know) (p1 : Know) : Option (Know) :=
  (bnd (vec_Max_s p0.star p1.star) fun y1 =>
    (chk (smallL [p0.l, p1.l])
      ((know_Join_l1 p0 p1 y1) [p0.l, p1.l] 0)))
theorem know_Join_c {X : Task → Prop} (hX : Closed X) {p0 : Know} {p1 : Know} {r : Know} {Q : A → List Blk → Prop} (h : know_Join_s p0 p1 = some r) (hQ : Q (.agg [ic r.star.x0, ic r.star.x1, ic r.star.x2, ic r.star.x3, ic r.star.x4, ic r.star.x5, ic r.star.x6, ic r.star.x7, .p (.sl (r.l.map Frag.row))]) []) : X (.call 64 [.agg [ic p0.star.x0, ic p0.star.x1, ic p0.star.x2, ic p0.star.x3, ic p0.star.x4, ic p0.star.x5, ic p0.star.x6, ic p0.star.x7, .p (.sl (p0.l.map Frag.row))], .agg [ic p1.star.x0, ic p1.star.x1, ic p1.star.x2, ic p1.star.x3, ic p1.star.x4, ic p1.star.x5, ic p1.star.x6, ic p1.star.x7, .p (.sl (p1.l.map Frag.row))]] [] Q) := by
  unfold know_Join_s at h
  refine call_nz hX ?_
  conv => whnf
  refine call_intro hX Try.func64 rfl rfl ?_
  replace h := bnd_some h
  obtain ⟨y1, e2, h⟩ := h
  (repeat ((conv => whnf); first | refine ⟨by kernel_rfl, ?_⟩)); (conv => whnf)
  refine vec_Max_c hX e2 ?_
  (repeat ((conv => whnf); first | refine ⟨by kernel_rfl, ?_⟩)); (conv => whnf)
  refine Or.inl ?_
  conv => whnf
  refine call_intro hX Try.func109 rfl rfl ?_
  replace h := chk_some h
  obtain ⟨hs1, h⟩ := h
  (repeat ((conv => whnf); first | refine ⟨by kernel_rfl, ?_⟩ | refine eqv_to (map_len (f := slrw Frag.row) [p0.l, p1.l]) ?_)); (conv => whnf)
  refine loop_lisx1 (fun (v4 : Int) (v3 : Int) => pad [(0, .one (.p (.sl ([p0.l, p1.l].map (slrw Frag.row))))), (2, iv v3), (5, .one (.p (.sl ([p0.l, p1.l].map (slrw Frag.row))))), (0, iv ([p0.l, p1.l].length : Int)), (0, iv v4)] 24) (fun (v4 : Int) (v3 : Int) => []) _ [p0.l, p1.l] (fun pre1 x1e xs1 v4 v3 hl1 hi1 h ih1 => ?_) (fun v4 v3 hi1 h => ?_) 0 h
  · rw [know_Join_l1] at h
    have am1 := at_mid hl1 hi1
    refine loop_intro hX ?_
    (repeat ((conv => whnf); first | refine ⟨by kernel_rfl, ?_⟩ | refine bct (lt_mid hl1 hi1) ?_ | refine bct (at_in am1) ?_ | refine bct (andt (at_in am1) rfl) ?_ | refine row_in (at_row am1) ?_ | refine bct (andt (at_in (at_nat am1)) rfl) ?_ | refine row_in (at_row (at_nat am1)) ?_ | refine eqv_to (map_len _) ?_)); (conv => whnf)
    refine br_some h (fun c5 g => ?_) (fun c5 g => ?_)
    · replace h := g
      clear g
      exact no_some h
    · replace h := g
      clear g
      (repeat ((conv => whnf); first | refine ⟨by kernel_rfl, ?_⟩ | refine bcf c5 ?_)); (conv => whnf)
      exact ih1 _ (wr .i64 (v3 + (x1e.length : Int))) (wrL hs1 hl1 hi1) h
  · rw [know_Join_l1] at h
    refine loop_intro hX ?_
    replace h := bnd_some h
    obtain ⟨y6, e7, h⟩ := h
    (repeat ((conv => whnf); first | refine ⟨by kernel_rfl, ?_⟩ | refine bcf (lt_end hi1) ?_)); (conv => whnf)
    refine grow_c hX e7 ?_
    replace h := chk_some h
    obtain ⟨hs2, h⟩ := h
    (repeat ((conv => whnf); first | refine ⟨by kernel_rfl, ?_⟩ | refine eqv_to (map_len _) ?_)); (conv => whnf)
    refine loop_lisx1 (fun (v8 : Int) (v9 : List Frag) => pad [(6, .one (.own 0)), (18, .one (.p (.sl ([p0.l, p1.l].map (slrw Frag.row))))), (0, iv ([p0.l, p1.l].length : Int)), (0, iv v8)] 8) (fun (v8 : Int) (v9 : List Frag) => [.rows 9 (v9.map Frag.row)]) _ [p0.l, p1.l] (fun pre2 x2e xs2 v8 v9 hl2 hi2 h ih2 => ?_) (fun v8 v9 hi2 h => ?_) y6 h
    · rw [know_Join_l2] at h
      have am2 := at_mid hl2 hi2
      refine loop_intro hX ?_
      replace h := chk_some h
      obtain ⟨c10, h⟩ := h
      (repeat ((conv => whnf); first | refine ⟨by kernel_rfl, ?_⟩ | refine bct (lt_mid hl2 hi2) ?_ | refine bct (at_in am2) ?_ | refine bct (andt (at_in am2) rfl) ?_ | refine row_in (at_row am2) ?_ | refine bct (andt (at_in (at_nat am2)) rfl) ?_ | refine row_in (at_row (at_nat am2)) ?_ | refine bct (room_map c10 (List.length_map ..) rfl (rowsOk_map (f := Frag.row) (sz := 9) (fun _ => rfl) _) rfl) ?_ | refine eqv_to (cat_map (f := Frag.row) v9 _) ?_)); (conv => whnf)
      exact ih2 _ (v9 ++ x2e) (wrL hs2 hl2 hi2) h
    · rw [know_Join_l2] at h
      refine loop_intro hX ?_
      replace h := bnd_some h
      obtain ⟨y11, e12, h⟩ := h
      (repeat ((conv => whnf); first | refine ⟨by kernel_rfl, ?_⟩ | refine bcf (lt_end hi2) ?_)); (conv => whnf)
      refine know_Plain_c hX e12 ?_
      (repeat ((conv => whnf); first | refine ⟨by kernel_rfl, ?_⟩)); (conv => whnf)
      exact ret_some (f := fun y => .agg [ic y.star.x0, ic y.star.x1, ic y.star.x2, ic y.star.x3, ic y.star.x4, ic y.star.x5, ic y.star.x6, ic y.star.x7, .p (.sl (y.l.map Frag.row))]) (g := fun y => []) h hQ
def know_Has_l2 (p1 : ByteArray) (p2 : Ver) (x1e : Frag) (k1 : Option (Bool)) : List ByteArray → Int → Option (Bool)
  | [], v5 =>
    (k1 )
  | x2e :: xs2, v5 =>
    (br (eqS p1 x2e)
      (br (leI 0 v5)
        (bnd (vec_Has_s x1e.vec p2) fun y8 =>
          (br y8
            (some true)
            (k1 )))
        (k1 ))
      (know_Has_l2 p1 p2 x1e k1 xs2 (v5 + 1) ))
def know_Has_l1 (p1 : ByteArray) (p2 : Ver) : List Frag → Option (Bool)
  | [] =>
    some false
  | x1e :: xs1 =>
    (chk (smallL x1e.ids)
      ((know_Has_l2 p1 p2 x1e (know_Has_l1 p1 p2 xs1 )) x1e.ids 0 ))
def know_Has_s (p0 : Know) (p1 : ByteArray) (p2 : Ver) : Option (Bool) :=
  (bnd (vec_Has_s p0.star p2) fun y1 =>
    (br y1
      (some true)
      (chk (smallL p0.l)
        ((know_Has_l1 p1 p2) p0.l ))))
theorem know_Has_c {X : Task → Prop} (hX : Closed X) {p0 : Know} {p1 : ByteArray} {p2 : Ver} {r : Bool} {Q : A → List Blk → Prop} (h : know_Has_s p0 p1 p2 = some r) (hQ : Q (.one (.p (.v (.bool r)))) []) : X (.call 74 [.agg [ic p0.star.x0, ic p0.star.x1, ic p0.star.x2, ic p0.star.x3, ic p0.star.x4, ic p0.star.x5, ic p0.star.x6, ic p0.star.x7, .p (.sl (p0.l.map Frag.row))], .one (.p (.v (.string p1))), .agg [ic p2.r, ic p2.c]] [] Q) := by
  unfold know_Has_s at h
  refine call_intro hX Try.func74 rfl rfl ?_
  replace h := bnd_some h
  obtain ⟨y1, e2, h⟩ := h
  (repeat ((conv => whnf); first | refine ⟨by kernel_rfl, ?_⟩)); (conv => whnf)
  refine vec_Has_c hX e2 ?_
  (repeat ((conv => whnf); first | refine ⟨by kernel_rfl, ?_⟩)); (conv => whnf)
  refine br_some h (fun c3 g => ?_) (fun c3 g => ?_)
  · replace h := g
    clear g
    (repeat ((conv => whnf); first | refine ⟨by kernel_rfl, ?_⟩ | refine bct c3 ?_)); (conv => whnf)
    exact ret_some (f := fun y => .one (.p (.v (.bool y)))) (g := fun y => []) h hQ
  · replace h := g
    clear g
    replace h := chk_some h
    obtain ⟨hs1, h⟩ := h
    (repeat ((conv => whnf); first | refine ⟨by kernel_rfl, ?_⟩ | refine bcf c3 ?_ | refine eqv_to (map_len _) ?_)); (conv => whnf)
    refine loop_lisx0 (fun (v4 : Int) => pad [(1, .one (.p (.v (.string p1)))), (3, .one (.ptr 0 0)), (8, .one (.p (.sl (p0.l.map Frag.row)))), (0, iv (p0.l.length : Int)), (0, iv v4)] 14) (fun (v4 : Int) => [.box [ic p2.r, ic p2.c]]) _ p0.l (fun pre1 x1e xs1 v4  hl1 hi1 h ih1 => ?_) (fun v4  hi1 h => ?_)  h
    · rw [know_Has_l1] at h
      have am1 := at_mid hl1 hi1
      refine loop_intro hX ?_
      (repeat ((conv => whnf); first | refine ⟨by kernel_rfl, ?_⟩ | refine bct (lt_mid hl1 hi1) ?_ | refine bct (at_in am1) ?_ | refine bct (andt (at_in am1) rfl) ?_ | refine row_in (at_row am1) ?_ | refine bct (andt (at_in (at_nat am1)) rfl) ?_ | refine row_in (at_row (at_nat am1)) ?_)); (conv => whnf)
      refine call_intro hX Try.func121 rfl rfl ?_
      (repeat ((conv => whnf); first | refine ⟨by kernel_rfl, ?_⟩)); (conv => whnf)
      refine call_intro hX Try.func161 rfl rfl ?_
      replace h := chk_some h
      obtain ⟨hs2, h⟩ := h
      (repeat ((conv => whnf); first | refine ⟨by kernel_rfl, ?_⟩ | refine eqv_to (map_len _) ?_)); (conv => whnf)
      refine loop_list0 (fun (v5 : Int) => pad [(0, .one (.p (.sl (x1e.ids.map srw)))), (0, .one (.p (.v (.string p1)))), (5, iv (x1e.ids.length : Int)), (0, iv v5)] 10) (fun (v5 : Int) => []) _ x1e.ids (fun pre2 x2e xs2 v5  hl2 hi2 h ih2 => ?_) (fun v5  hi2 h => ?_)  h
      · rw [know_Has_l2] at h
        have am2 := at_mid hl2 hi2
        refine loop_intro hX ?_
        (repeat ((conv => whnf); first | refine ⟨by kernel_rfl, ?_⟩ | refine bct (lt_mid hl2 hi2) ?_ | refine bct (at_in am2) ?_ | refine bct (andt (at_in am2) rfl) ?_ | refine row_in (at_row am2) ?_ | refine bct (andt (at_in (at_nat am2)) rfl) ?_ | refine row_in (at_row (at_nat am2)) ?_)); (conv => whnf)
        refine br_some h (fun c6 g => ?_) (fun c6 g => ?_)
        · replace h := g
          clear g
          (repeat ((conv => whnf); first | refine ⟨by kernel_rfl, ?_⟩ | refine bct c6 ?_)); (conv => whnf)
          refine br_some h (fun c7 g => ?_) (fun c7 g => ?_)
          · replace h := g
            clear g
            replace h := bnd_some h
            obtain ⟨y8, e9, h⟩ := h
            (repeat ((conv => whnf); first | refine ⟨by kernel_rfl, ?_⟩ | refine bct c7 ?_)); (conv => whnf)
            refine vec_Has_c hX e9 ?_
            (repeat ((conv => whnf); first | refine ⟨by kernel_rfl, ?_⟩ | refine bct c7 ?_)); (conv => whnf)
            refine br_some h (fun c10 g => ?_) (fun c10 g => ?_)
            · replace h := g
              clear g
              (repeat ((conv => whnf); first | refine ⟨by kernel_rfl, ?_⟩ | refine bct c10 ?_)); (conv => whnf)
              exact ret_some (f := fun y => .one (.p (.v (.bool y)))) (g := fun y => []) h hQ
            · replace h := g
              clear g
              (repeat ((conv => whnf); first | refine ⟨by kernel_rfl, ?_⟩ | refine bcf c10 ?_)); (conv => whnf)
              exact ih1 _  (wrL hs1 hl1 hi1) h
          · replace h := g
            clear g
            (repeat ((conv => whnf); first | refine ⟨by kernel_rfl, ?_⟩ | refine bcf c7 ?_)); (conv => whnf)
            exact ih1 _  (wrL hs1 hl1 hi1) h
        · replace h := g
          clear g
          (repeat ((conv => whnf); first | refine ⟨by kernel_rfl, ?_⟩ | refine bcf c6 ?_)); (conv => whnf)
          exact ih2 _  (wrL hs2 hl2 hi2) h
      · rw [know_Has_l2] at h
        refine loop_intro hX ?_
        (repeat ((conv => whnf); first | refine ⟨by kernel_rfl, ?_⟩ | refine bcf (lt_end hi2) ?_)); (conv => whnf)
        exact ih1 _  (wrL hs1 hl1 hi1) h
    · rw [know_Has_l1] at h
      refine loop_intro hX ?_
      (repeat ((conv => whnf); first | refine ⟨by kernel_rfl, ?_⟩ | refine bcf (lt_end hi1) ?_)); (conv => whnf)
      exact ret_some (f := fun y => .one (.p (.v (.bool y)))) (g := fun y => []) h hQ
def know_Same_s (p0 : Know) (p1 : Know) : Option (Bool) :=
  (bnd (know_Plain_s p0) fun y1 =>
    (bnd (know_Plain_s p1) fun y3 =>
      (bnd (know_alike_s y1 y3) fun y5 =>
        some y5)))
theorem know_Same_c {X : Task → Prop} (hX : Closed X) {p0 : Know} {p1 : Know} {r : Bool} {Q : A → List Blk → Prop} (h : know_Same_s p0 p1 = some r) (hQ : Q (.one (.p (.v (.bool r)))) []) : X (.call 66 [.agg [ic p0.star.x0, ic p0.star.x1, ic p0.star.x2, ic p0.star.x3, ic p0.star.x4, ic p0.star.x5, ic p0.star.x6, ic p0.star.x7, .p (.sl (p0.l.map Frag.row))], .agg [ic p1.star.x0, ic p1.star.x1, ic p1.star.x2, ic p1.star.x3, ic p1.star.x4, ic p1.star.x5, ic p1.star.x6, ic p1.star.x7, .p (.sl (p1.l.map Frag.row))]] [] Q) := by
  unfold know_Same_s at h
  refine call_intro hX Try.func66 rfl rfl ?_
  replace h := bnd_some h
  obtain ⟨y1, e2, h⟩ := h
  (repeat ((conv => whnf); first | refine ⟨by kernel_rfl, ?_⟩)); (conv => whnf)
  refine know_Plain_c hX e2 ?_
  replace h := bnd_some h
  obtain ⟨y3, e4, h⟩ := h
  (repeat ((conv => whnf); first | refine ⟨by kernel_rfl, ?_⟩)); (conv => whnf)
  refine know_Plain_c hX e4 ?_
  replace h := bnd_some h
  obtain ⟨y5, e6, h⟩ := h
  (repeat ((conv => whnf); first | refine ⟨by kernel_rfl, ?_⟩)); (conv => whnf)
  refine know_alike_c hX e6 ?_
  (repeat ((conv => whnf); first | refine ⟨by kernel_rfl, ?_⟩)); (conv => whnf)
  exact ret_some (f := fun y => .one (.p (.v (.bool y)))) (g := fun y => []) h hQ
def know_May_l2 (k1 : Option (Bool)) : List ByteArray → Int → Option (Bool)
  | [], v13 =>
    (k1 )
  | x2e :: xs2, v13 =>
    (bnd (item_Name_s x2e) fun y14 =>
      (br (!y14)
        (br (leI 0 v13)
          (some false)
          (k1 ))
        (know_May_l2 k1 xs2 (v13 + 1) )))
def know_May_l1 : List Frag → Option (Bool)
  | [] =>
    some true
  | x1e :: xs1 =>
    (bnd (vec_May_s x1e.vec) fun y10 =>
      (br (!y10)
        (some false)
        (chk (smallL x1e.ids)
          ((know_May_l2 (know_May_l1 xs1 )) x1e.ids 0 ))))
def know_May_s (p0 : Know) : Option (Bool) :=
  (bnd (vec_May_s p0.star) fun y1 =>
    (br (!y1)
      (some false)
      (bnd (know_Plain_s p0) fun y4 =>
        (bnd (know_alike_s p0 y4) fun y6 =>
          (br (!y6)
            (some false)
            (chk (smallL p0.l)
              ((know_May_l1) p0.l )))))))
theorem know_May_c {X : Task → Prop} (hX : Closed X) {p0 : Know} {r : Bool} {Q : A → List Blk → Prop} (h : know_May_s p0 = some r) (hQ : Q (.one (.p (.v (.bool r)))) []) : X (.call 76 [.agg [ic p0.star.x0, ic p0.star.x1, ic p0.star.x2, ic p0.star.x3, ic p0.star.x4, ic p0.star.x5, ic p0.star.x6, ic p0.star.x7, .p (.sl (p0.l.map Frag.row))]] [] Q) := by
  unfold know_May_s at h
  refine call_intro hX Try.func76 rfl rfl ?_
  replace h := bnd_some h
  obtain ⟨y1, e2, h⟩ := h
  (repeat ((conv => whnf); first | refine ⟨by kernel_rfl, ?_⟩)); (conv => whnf)
  refine vec_May_c hX e2 ?_
  (repeat ((conv => whnf); first | refine ⟨by kernel_rfl, ?_⟩)); (conv => whnf)
  refine br_some h (fun c3 g => ?_) (fun c3 g => ?_)
  · replace h := g
    clear g
    (repeat ((conv => whnf); first | refine ⟨by kernel_rfl, ?_⟩ | refine bct c3 ?_)); (conv => whnf)
    exact ret_some (f := fun y => .one (.p (.v (.bool y)))) (g := fun y => []) h hQ
  · replace h := g
    clear g
    replace h := bnd_some h
    obtain ⟨y4, e5, h⟩ := h
    (repeat ((conv => whnf); first | refine ⟨by kernel_rfl, ?_⟩ | refine bcf c3 ?_)); (conv => whnf)
    refine know_Plain_c hX e5 ?_
    replace h := bnd_some h
    obtain ⟨y6, e7, h⟩ := h
    (repeat ((conv => whnf); first | refine ⟨by kernel_rfl, ?_⟩ | refine bcf c3 ?_)); (conv => whnf)
    refine know_alike_c hX e7 ?_
    (repeat ((conv => whnf); first | refine ⟨by kernel_rfl, ?_⟩ | refine bcf c3 ?_)); (conv => whnf)
    refine br_some h (fun c8 g => ?_) (fun c8 g => ?_)
    · replace h := g
      clear g
      (repeat ((conv => whnf); first | refine ⟨by kernel_rfl, ?_⟩ | refine bct c8 ?_)); (conv => whnf)
      exact ret_some (f := fun y => .one (.p (.v (.bool y)))) (g := fun y => []) h hQ
    · replace h := g
      clear g
      replace h := chk_some h
      obtain ⟨hs1, h⟩ := h
      (repeat ((conv => whnf); first | refine ⟨by kernel_rfl, ?_⟩ | refine bcf c8 ?_ | refine eqv_to (map_len _) ?_)); (conv => whnf)
      refine loop_lisx0 (fun (v9 : Int) => pad [(18, .one (.p (.sl (p0.l.map Frag.row)))), (0, iv (p0.l.length : Int)), (0, iv v9)] 14) (fun (v9 : Int) => []) _ p0.l (fun pre1 x1e xs1 v9  hl1 hi1 h ih1 => ?_) (fun v9  hi1 h => ?_)  h
      · rw [know_May_l1] at h
        have am1 := at_mid hl1 hi1
        refine loop_intro hX ?_
        replace h := bnd_some h
        obtain ⟨y10, e11, h⟩ := h
        (repeat ((conv => whnf); first | refine ⟨by kernel_rfl, ?_⟩ | refine bct (lt_mid hl1 hi1) ?_ | refine bct (at_in am1) ?_ | refine bct (andt (at_in am1) rfl) ?_ | refine row_in (at_row am1) ?_ | refine bct (andt (at_in (at_nat am1)) rfl) ?_ | refine row_in (at_row (at_nat am1)) ?_)); (conv => whnf)
        refine vec_May_c hX e11 ?_
        (repeat ((conv => whnf); first | refine ⟨by kernel_rfl, ?_⟩)); (conv => whnf)
        refine br_some h (fun c12 g => ?_) (fun c12 g => ?_)
        · replace h := g
          clear g
          (repeat ((conv => whnf); first | refine ⟨by kernel_rfl, ?_⟩ | refine bct c12 ?_)); (conv => whnf)
          exact ret_some (f := fun y => .one (.p (.v (.bool y)))) (g := fun y => []) h hQ
        · replace h := g
          clear g
          (repeat ((conv => whnf); first | refine ⟨by kernel_rfl, ?_⟩ | refine bcf c12 ?_)); (conv => whnf)
          refine call_intro hX Try.func127 rfl rfl ?_
          (repeat ((conv => whnf); first | refine ⟨by kernel_rfl, ?_⟩)); (conv => whnf)
          refine call_intro hX Try.func162 rfl rfl ?_
          replace h := chk_some h
          obtain ⟨hs2, h⟩ := h
          (repeat ((conv => whnf); first | refine ⟨by kernel_rfl, ?_⟩ | refine eqv_to (map_len _) ?_)); (conv => whnf)
          refine loop_list0 (fun (v13 : Int) => pad [(0, .one (.p (.sl (x1e.ids.map srw)))), (0, .one (.fn 125 [])), (5, iv (x1e.ids.length : Int)), (0, iv v13)] 10) (fun (v13 : Int) => []) _ x1e.ids (fun pre2 x2e xs2 v13  hl2 hi2 h ih2 => ?_) (fun v13  hi2 h => ?_)  h
          · rw [know_May_l2] at h
            have am2 := at_mid hl2 hi2
            refine loop_intro hX ?_
            (repeat ((conv => whnf); first | refine ⟨by kernel_rfl, ?_⟩ | refine bct (lt_mid hl2 hi2) ?_ | refine bct (at_in am2) ?_ | refine bct (andt (at_in am2) rfl) ?_ | refine row_in (at_row am2) ?_ | refine bct (andt (at_in (at_nat am2)) rfl) ?_ | refine row_in (at_row (at_nat am2)) ?_)); (conv => whnf)
            refine call_intro hX Try.func125 rfl rfl ?_
            replace h := bnd_some h
            obtain ⟨y14, e15, h⟩ := h
            (repeat ((conv => whnf); first | refine ⟨by kernel_rfl, ?_⟩)); (conv => whnf)
            refine item_Name_c hX e15 ?_
            (repeat ((conv => whnf); first | refine ⟨by kernel_rfl, ?_⟩)); (conv => whnf)
            refine br_some h (fun c16 g => ?_) (fun c16 g => ?_)
            · replace h := g
              clear g
              (repeat ((conv => whnf); first | refine ⟨by kernel_rfl, ?_⟩ | refine bct c16 ?_ | refine bcf c12 ?_)); (conv => whnf)
              refine br_some h (fun c17 g => ?_) (fun c17 g => ?_)
              · replace h := g
                clear g
                (repeat ((conv => whnf); first | refine ⟨by kernel_rfl, ?_⟩ | refine bct c17 ?_)); (conv => whnf)
                exact ret_some (f := fun y => .one (.p (.v (.bool y)))) (g := fun y => []) h hQ
              · replace h := g
                clear g
                (repeat ((conv => whnf); first | refine ⟨by kernel_rfl, ?_⟩ | refine bcf c17 ?_)); (conv => whnf)
                exact ih1 _  (wrL hs1 hl1 hi1) h
            · replace h := g
              clear g
              (repeat ((conv => whnf); first | refine ⟨by kernel_rfl, ?_⟩ | refine bcf c16 ?_)); (conv => whnf)
              exact ih2 _  (wrL hs2 hl2 hi2) h
          · rw [know_May_l2] at h
            refine loop_intro hX ?_
            (repeat ((conv => whnf); first | refine ⟨by kernel_rfl, ?_⟩ | refine bcf (lt_end hi2) ?_ | refine bcf c12 ?_)); (conv => whnf)
            exact ih1 _  (wrL hs1 hl1 hi1) h
      · rw [know_May_l1] at h
        refine loop_intro hX ?_
        (repeat ((conv => whnf); first | refine ⟨by kernel_rfl, ?_⟩ | refine bcf (lt_end hi1) ?_)); (conv => whnf)
        exact ret_some (f := fun y => .one (.p (.v (.bool y)))) (g := fun y => []) h hQ
end
end Go.Proofs.Ytijkfjahgijphaa
