/- Layer 7, the program's. Written by decomp.py. -/
import Derived.Test.YtijkfjahgijphaaKG3
import Derived.Test.YtijkfjahgijphaaKLoops
set_option linter.unusedVariables false
set_option linter.unusedSimpArgs false
set_option maxRecDepth 100000
set_option maxHeartbeats 0
namespace Go.Proofs.Ytijkfjahgijphaa
open Go E
noncomputable section
open Pred
def know_Plain_l2 (x1e : Frag) (k1 : (List (ByteArray × V8)) → Option (Know)) : List ByteArray → (List (ByteArray × V8)) → Option (Know)
  | [], v4 =>
    (k1 v4)
  | x2e :: xs2, v4 =>
    (opt (mget srw v4 x2e) (fun x5 =>
      (bnd (vec_Max_s x5 x1e.vec) fun y7 =>
        (know_Plain_l2 x1e k1 xs2  (mset srw v4 x2e y7))))
      (bnd (vec_Max_s (V8.mk 0 0 0 0 0 0 0 0) x1e.vec) fun y9 =>
        (know_Plain_l2 x1e k1 xs2  (mset srw v4 x2e y9))))
def know_Plain_l4 (p0 : Know) (v2 : List (ByteArray × V8)) : List ByteArray → (List Frag) → (List (V8 × Int)) → Option (Know)
  | [], v26, v27 =>
    some (Know.mk p0.star v26)
  | x4e :: xs4, v26, v27 =>
    (opt (mget srw v2 x4e) (fun x28 =>
      (bnd (know_beyond_s x28 p0.star) fun y30 =>
        (br (eq8 y30 (V8.mk 0 0 0 0 0 0 0 0))
          (know_Plain_l4 p0 v2 xs4  v26 v27)
          (opt (mget V8.row v27 y30) (fun x33 =>
            (bnd (atL v26 x33) fun x35 =>
              (chk (roomL x35.ids.length 1)
                (know_Plain_l4 p0 v2 xs4  (v26.set x33.toNat (Frag.mk (x35.ids ++ [x4e]) x35.vec)) v27))))
            (chk (roomL v26.length 1)
              (bnd (atL (v26 ++ [(Frag.mk ([] : List ByteArray) y30)]) (v26.length : Int)) fun x40 =>
                (chk (roomL x40.ids.length 1)
                  (know_Plain_l4 p0 v2 xs4  ((v26 ++ [(Frag.mk ([] : List ByteArray) y30)]).set (v26.length : Int).toNat (Frag.mk (x40.ids ++ [x4e]) x40.vec)) (mset V8.row v27 y30 (v26.length : Int))))))))))
      (bnd (know_beyond_s (V8.mk 0 0 0 0 0 0 0 0) p0.star) fun y43 =>
        (br (eq8 y43 (V8.mk 0 0 0 0 0 0 0 0))
          (know_Plain_l4 p0 v2 xs4  v26 v27)
          (opt (mget V8.row v27 y43) (fun x46 =>
            (bnd (atL v26 x46) fun x48 =>
              (chk (roomL x48.ids.length 1)
                (know_Plain_l4 p0 v2 xs4  (v26.set x46.toNat (Frag.mk (x48.ids ++ [x4e]) x48.vec)) v27))))
            (chk (roomL v26.length 1)
              (bnd (atL (v26 ++ [(Frag.mk ([] : List ByteArray) y43)]) (v26.length : Int)) fun x53 =>
                (chk (roomL x53.ids.length 1)
                  (know_Plain_l4 p0 v2 xs4  ((v26 ++ [(Frag.mk ([] : List ByteArray) y43)]).set (v26.length : Int).toNat (Frag.mk (x53.ids ++ [x4e]) x53.vec)) (mset V8.row v27 y43 (v26.length : Int))))))))))
def know_Plain_l5 (p0 : Know) (v2 : List (ByteArray × V8)) : List ByteArray → (List Frag) → (List (V8 × Int)) → Option (Know)
  | [], v64, v65 =>
    some (Know.mk p0.star v64)
  | x5e :: xs5, v64, v65 =>
    (opt (mget srw v2 x5e) (fun x66 =>
      (bnd (know_beyond_s x66 p0.star) fun y68 =>
        (br (eq8 y68 (V8.mk 0 0 0 0 0 0 0 0))
          (know_Plain_l5 p0 v2 xs5  v64 v65)
          (opt (mget V8.row v65 y68) (fun x71 =>
            (bnd (atL v64 x71) fun x73 =>
              (chk (roomL x73.ids.length 1)
                (know_Plain_l5 p0 v2 xs5  (v64.set x71.toNat (Frag.mk (x73.ids ++ [x5e]) x73.vec)) v65))))
            (chk (roomL v64.length 1)
              (bnd (atL (v64 ++ [(Frag.mk ([] : List ByteArray) y68)]) (v64.length : Int)) fun x78 =>
                (chk (roomL x78.ids.length 1)
                  (know_Plain_l5 p0 v2 xs5  ((v64 ++ [(Frag.mk ([] : List ByteArray) y68)]).set (v64.length : Int).toNat (Frag.mk (x78.ids ++ [x5e]) x78.vec)) (mset V8.row v65 y68 (v64.length : Int))))))))))
      (bnd (know_beyond_s (V8.mk 0 0 0 0 0 0 0 0) p0.star) fun y81 =>
        (br (eq8 y81 (V8.mk 0 0 0 0 0 0 0 0))
          (know_Plain_l5 p0 v2 xs5  v64 v65)
          (opt (mget V8.row v65 y81) (fun x84 =>
            (bnd (atL v64 x84) fun x86 =>
              (chk (roomL x86.ids.length 1)
                (know_Plain_l5 p0 v2 xs5  (v64.set x84.toNat (Frag.mk (x86.ids ++ [x5e]) x86.vec)) v65))))
            (chk (roomL v64.length 1)
              (bnd (atL (v64 ++ [(Frag.mk ([] : List ByteArray) y81)]) (v64.length : Int)) fun x91 =>
                (chk (roomL x91.ids.length 1)
                  (know_Plain_l5 p0 v2 xs5  ((v64 ++ [(Frag.mk ([] : List ByteArray) y81)]).set (v64.length : Int).toNat (Frag.mk (x91.ids ++ [x5e]) x91.vec)) (mset V8.row v65 y81 (v64.length : Int))))))))))
def know_Plain_l3 (p0 : Know) (v2 : List (ByteArray × V8)) : List ByteArray → Option (Know)
  | [] =>
    some (Know.mk p0.star [])
  | x3e :: xs3 =>
    (opt (mget srw v2 x3e) (fun x16 =>
      (bnd (know_beyond_s x16 p0.star) fun y18 =>
        (br (eq8 y18 (V8.mk 0 0 0 0 0 0 0 0))
          (know_Plain_l3 p0 v2 xs3  )
          (opt (mget V8.row ([] : List (V8 × Int)) y18) (fun x21 =>
            none)
            (chk (roomL 0 1)
              ((know_Plain_l4 p0 v2) xs3 [(Frag.mk [x3e] y18)] (mset V8.row ([] : List (V8 × Int)) y18 0)))))))
      (bnd (know_beyond_s (V8.mk 0 0 0 0 0 0 0 0) p0.star) fun y56 =>
        (br (eq8 y56 (V8.mk 0 0 0 0 0 0 0 0))
          (know_Plain_l3 p0 v2 xs3  )
          (opt (mget V8.row ([] : List (V8 × Int)) y56) (fun x59 =>
            none)
            (chk (roomL 0 1)
              ((know_Plain_l5 p0 v2) xs3 [(Frag.mk [x3e] y56)] (mset V8.row ([] : List (V8 × Int)) y56 0)))))))
def know_Plain_l1 (p0 : Know) : List Frag → (List (ByteArray × V8)) → Option (Know)
  | [], v2 =>
    (bnd (sorted_s v2) fun y11 =>
      (chk (smallL y11)
        ((know_Plain_l3 p0 v2) y11 )))
  | x1e :: xs1, v2 =>
    (chk (smallL x1e.ids)
      ((know_Plain_l2 x1e (fun w0 => know_Plain_l1 p0 xs1  w0)) x1e.ids v2))
def know_Plain_s (p0 : Know) : Option (Know) :=
  (chk (smallL p0.l)
    ((know_Plain_l1 p0) p0.l ([] : List (ByteArray × V8))))
theorem know_Plain_c {X : Task → Prop} (hX : Closed X) {p0 : Know} {r : Know} {Q : A → List Blk → Prop} (h : know_Plain_s p0 = some r) (hQ : Q (.agg [ic r.star.x0, ic r.star.x1, ic r.star.x2, ic r.star.x3, ic r.star.x4, ic r.star.x5, ic r.star.x6, ic r.star.x7, .p (.sl (r.l.map Frag.row))]) []) : X (.call 68 [.agg [ic p0.star.x0, ic p0.star.x1, ic p0.star.x2, ic p0.star.x3, ic p0.star.x4, ic p0.star.x5, ic p0.star.x6, ic p0.star.x7, .p (.sl (p0.l.map Frag.row))]] [] Q) := by
  unfold know_Plain_s at h
  refine call_nz hX ?_
  conv => whnf
  refine call_intro hX Try.func68 rfl rfl ?_
  replace h := chk_some h
  obtain ⟨hs1, h⟩ := h
  (repeat ((conv => whnf); first | refine ⟨by kernel_rfl, ?_⟩ | refine eqv_to (map_len _) ?_)); (conv => whnf)
  refine loop_lisx1 (fun (v1 : Int) (v2 : List (ByteArray × V8)) => pad [(1, .one (.ptr 0 0)), (0, .one (.ptr 1 0)), (0, .one (.mp 3)), (13, .one (.p (.sl (p0.l.map Frag.row)))), (0, iv (p0.l.length : Int)), (0, iv v1)] 78) (fun (v1 : Int) (v2 : List (ByteArray × V8)) => [.box [ic p0.star.x0, ic p0.star.x1, ic p0.star.x2, ic p0.star.x3, ic p0.star.x4, ic p0.star.x5, ic p0.star.x6, ic p0.star.x7, .p (.sl (p0.l.map Frag.row))], .box [ic 0, ic 0, ic 0, ic 0, ic 0, ic 0, ic 0, ic 0, .own 2], .rows 0 [], .mp .str true (v2.map fun e => (srw e.1, V8.row e.2))]) _ p0.l (fun pre1 x1e xs1 v1 v2 hl1 hi1 h ih1 => ?_) (fun v1 v2 hi1 h => ?_) ([] : List (ByteArray × V8)) h
  · rw [know_Plain_l1] at h
    have am1 := at_mid hl1 hi1
    refine loop_intro hX ?_
    replace h := chk_some h
    obtain ⟨hs2, h⟩ := h
    (repeat ((conv => whnf); first | refine ⟨by kernel_rfl, ?_⟩ | refine bct (lt_mid hl1 hi1) ?_ | refine bct (at_in am1) ?_ | refine bct (andt (at_in am1) rfl) ?_ | refine row_in (at_row am1) ?_ | refine bct (andt (at_in (at_nat am1)) rfl) ?_ | refine row_in (at_row (at_nat am1)) ?_ | refine eqv_to (map_len _) ?_)); (conv => whnf)
    refine loop_lisx1 (fun (v3 : Int) (v4 : List (ByteArray × V8)) => pad [(1, .one (.ptr 0 0)), (0, .one (.ptr 1 0)), (0, .one (.mp 3)), (1, .one (.ptr 4 0)), (11, .one (.p (.sl (p0.l.map Frag.row)))), (0, iv (p0.l.length : Int)), (0, iv v1), (4, .one (.p (.sl (x1e.ids.map srw)))), (0, iv (x1e.ids.length : Int)), (0, iv v3)] 71) (fun (v3 : Int) (v4 : List (ByteArray × V8)) => [.box [ic p0.star.x0, ic p0.star.x1, ic p0.star.x2, ic p0.star.x3, ic p0.star.x4, ic p0.star.x5, ic p0.star.x6, ic p0.star.x7, .p (.sl (p0.l.map Frag.row))], .box [ic 0, ic 0, ic 0, ic 0, ic 0, ic 0, ic 0, ic 0, .own 2], .rows 0 [], .mp .str true (v4.map fun e => (srw e.1, V8.row e.2)), .box [.p (.sl (x1e.ids.map srw)), ic x1e.vec.x0, ic x1e.vec.x1, ic x1e.vec.x2, ic x1e.vec.x3, ic x1e.vec.x4, ic x1e.vec.x5, ic x1e.vec.x6, ic x1e.vec.x7]]) _ x1e.ids (fun pre2 x2e xs2 v3 v4 hl2 hi2 h ih2 => ?_) (fun v3 v4 hi2 h => ?_) v2 h
    · rw [know_Plain_l2] at h
      have am2 := at_mid hl2 hi2
      refine loop_intro hX ?_
      (repeat ((conv => whnf); first | refine ⟨by kernel_rfl, ?_⟩ | refine bct (lt_mid hl2 hi2) ?_ | refine bct (at_in am2) ?_ | refine bct (andt (at_in am2) rfl) ?_ | refine row_in (at_row am2) ?_ | refine bct (andt (at_in (at_nat am2)) rfl) ?_ | refine row_in (at_row (at_nat am2)) ?_)); (conv => whnf)
      refine map_look h (fun x5 e6 h => ?_) (fun e6 h => ?_) (get_mp (f := srw) (g := V8.row) _ x2e)
      · replace h := bnd_some h
        obtain ⟨y7, e8, h⟩ := h
        (repeat ((conv => whnf); first | refine ⟨by kernel_rfl, ?_⟩)); (conv => whnf)
        refine vec_Max_c hX e8 ?_
        (repeat ((conv => whnf); first | refine ⟨by kernel_rfl, ?_⟩ | refine eqv_to (set_mp (f := srw) (g := V8.row) v4 x2e y7) ?_)); (conv => whnf)
        exact ih2 _ (mset srw v4 x2e y7) (wrL hs2 hl2 hi2) h
      · replace h := bnd_some h
        obtain ⟨y9, e10, h⟩ := h
        (repeat ((conv => whnf); first | refine ⟨by kernel_rfl, ?_⟩)); (conv => whnf)
        refine vec_Max_c hX e10 ?_
        (repeat ((conv => whnf); first | refine ⟨by kernel_rfl, ?_⟩ | refine eqv_to (set_mp (f := srw) (g := V8.row) v4 x2e y9) ?_)); (conv => whnf)
        exact ih2 _ (mset srw v4 x2e y9) (wrL hs2 hl2 hi2) h
    · rw [know_Plain_l2] at h
      refine loop_intro hX ?_
      (repeat ((conv => whnf); first | refine ⟨by kernel_rfl, ?_⟩ | refine bcf (lt_end hi2) ?_)); (conv => whnf)
      exact ih1 _ v4 (wrL hs1 hl1 hi1) h
  · rw [know_Plain_l1] at h
    refine loop_intro hX ?_
    (repeat ((conv => whnf); first | refine ⟨by kernel_rfl, ?_⟩ | refine bcf (lt_end hi1) ?_)); (conv => whnf)
    refine call_intro hX Try.func113 rfl rfl ?_
    replace h := bnd_some h
    obtain ⟨y11, e12, h⟩ := h
    (repeat ((conv => whnf); first | refine ⟨by kernel_rfl, ?_⟩)); (conv => whnf)
    refine Or.inl ?_
    conv => whnf
    refine sorted_c (g := V8.row) hX e12 ?_
    replace h := chk_some h
    obtain ⟨hs3, h⟩ := h
    (repeat ((conv => whnf); first | refine ⟨by kernel_rfl, ?_⟩ | refine eqv_to (map_len _) ?_)); (conv => whnf)
    refine loop_nc hX ?_
    conv => whnf
    refine loop_lisx0 (fun (v15 : Int) => pad [(1, .one (.ptr 0 0)), (0, .one (.ptr 1 0)), (0, .one (.mp 3)), (4, .one (.ptr 4 0)), (0, .one (.mp 6)), (36, .one (.own 7)), (0, iv (y11.length : Int)), (0, iv v15)] 49) (fun (v15 : Int) => [.box [ic p0.star.x0, ic p0.star.x1, ic p0.star.x2, ic p0.star.x3, ic p0.star.x4, ic p0.star.x5, ic p0.star.x6, ic p0.star.x7, .p (.sl (p0.l.map Frag.row))], .box [ic 0, ic 0, ic 0, ic 0, ic 0, ic 0, ic 0, ic 0, .own 2], .rows 0 [], .mp .str true (v2.map fun e => (srw e.1, V8.row e.2)), .box [ic p0.star.x0, ic p0.star.x1, ic p0.star.x2, ic p0.star.x3, ic p0.star.x4, ic p0.star.x5, ic p0.star.x6, ic p0.star.x7, .own 5], .rows 0 [], .mp (.ints .i64 8) false (([] : List (V8 × Int)).map fun e => (V8.row e.1, irw e.2)), .rows 1 (y11.map srw)]) _ y11 (fun pre3 x3e xs3 v15  hl3 hi3 h ih3 => ?_) (fun v15  hi3 h => ?_)  h
    · rw [know_Plain_l3] at h
      have am3 := at_mid hl3 hi3
      refine loop_intro hX ?_
      (repeat ((conv => whnf); first | refine ⟨by kernel_rfl, ?_⟩ | refine bct (lt_mid hl3 hi3) ?_ | refine bct (at_in am3) ?_ | refine bct (andt (at_in am3) rfl) ?_ | refine row_in (at_row am3) ?_ | refine bct (andt (at_in (at_nat am3)) rfl) ?_ | refine row_in (at_row (at_nat am3)) ?_)); (conv => whnf)
      refine map_look h (fun x16 e17 h => ?_) (fun e17 h => ?_) (get_mp (f := srw) (g := V8.row) _ x3e)
      · replace h := bnd_some h
        obtain ⟨y18, e19, h⟩ := h
        (repeat ((conv => whnf); first | refine ⟨by kernel_rfl, ?_⟩)); (conv => whnf)
        refine know_beyond_c hX e19 ?_
        (repeat ((conv => whnf); first | refine ⟨by kernel_rfl, ?_⟩)); (conv => whnf)
        refine br_some h (fun c20 g => ?_) (fun c20 g => ?_)
        · replace h := g
          clear g
          (repeat ((conv => whnf); first | refine ⟨by kernel_rfl, ?_⟩ | with_reducible refine bct (eq8_b c20) ?_ | refine bct c20 ?_)); (conv => whnf)
          exact ih3 _  (wrL hs3 hl3 hi3) h
        · replace h := g
          clear g
          (repeat ((conv => whnf); first | refine ⟨by kernel_rfl, ?_⟩ | with_reducible refine bcf (eq8_b c20) ?_ | refine bcf c20 ?_)); (conv => whnf)
          refine map_look h (fun x21 e22 h => ?_) (fun e22 h => ?_) (get_mp (f := V8.row) (g := irw) _ y18)
          · exact no_some h
          · replace h := chk_some h
            obtain ⟨c24, h⟩ := h
            have hs4 := hs3
            (repeat ((conv => whnf); first | refine ⟨by kernel_rfl, ?_⟩ | refine eqv_to (b := 0) rfl ?_ | refine eqv_to (set_mp (f := V8.row) (g := irw) ([] : List (V8 × Int)) y18 0) ?_ | refine Two.r ?_ | refine bct (by rfl) ?_ | refine bct (by decide) ?_ | refine bct (room_zero c24 rfl rfl rfl rfl) ?_ | refine eqv_to (nil_one (f := srw) x3e) ?_ | refine eqv_to (b := ([(Frag.mk [x3e] y18)].map Frag.row)) rfl ?_)); (conv => whnf)
            refine loop_nc hX ?_
            conv => whnf
            refine loop_lisz2 (fun (v25 : Int) (v26 : List Frag) (v27 : List (V8 × Int)) => pad [(1, .one (.ptr 0 0)), (0, .one (.ptr 1 0)), (0, .one (.mp 3)), (4, .one (.ptr 4 0)), (0, .one (.mp 6)), (36, .one (.own 7)), (0, iv (y11.length : Int)), (0, iv v25)] 49) (fun (v25 : Int) (v26 : List Frag) (v27 : List (V8 × Int)) => [.box [ic p0.star.x0, ic p0.star.x1, ic p0.star.x2, ic p0.star.x3, ic p0.star.x4, ic p0.star.x5, ic p0.star.x6, ic p0.star.x7, .p (.sl (p0.l.map Frag.row))], .box [ic 0, ic 0, ic 0, ic 0, ic 0, ic 0, ic 0, ic 0, .own 2], .rows 0 [], .mp .str true (v2.map fun e => (srw e.1, V8.row e.2)), .box [ic p0.star.x0, ic p0.star.x1, ic p0.star.x2, ic p0.star.x3, ic p0.star.x4, ic p0.star.x5, ic p0.star.x6, ic p0.star.x7, .own 5], .nest 9 0 1 (v26.map Frag.row), .mp (.ints .i64 8) false (v27.map fun e => (V8.row e.1, irw e.2)), .rows 1 (y11.map srw)]) _ y11 _ xs3 _ (next_cut hl3) (next_len hs3 hl3 hi3) (fun pre4 x4e xs4 v25 v26 v27 hl4 hi4 h ih4 => ?_) (fun v25 v26 v27 hi4 h => ?_) [(Frag.mk [x3e] y18)] (mset V8.row ([] : List (V8 × Int)) y18 0) h
            · rw [know_Plain_l4] at h
              have am4 := at_mid hl4 hi4
              refine loop_intro hX ?_
              (repeat ((conv => whnf); first | refine ⟨by kernel_rfl, ?_⟩ | refine bct (lt_mid hl4 hi4) ?_ | refine bct (at_in am4) ?_ | refine bct (andt (at_in am4) rfl) ?_ | refine row_in (at_row am4) ?_ | refine bct (andt (at_in (at_nat am4)) rfl) ?_ | refine row_in (at_row (at_nat am4)) ?_)); (conv => whnf)
              refine map_look h (fun x28 e29 h => ?_) (fun e29 h => ?_) (get_mp (f := srw) (g := V8.row) _ x4e)
              · replace h := bnd_some h
                obtain ⟨y30, e31, h⟩ := h
                (repeat ((conv => whnf); first | refine ⟨by kernel_rfl, ?_⟩)); (conv => whnf)
                refine know_beyond_c hX e31 ?_
                (repeat ((conv => whnf); first | refine ⟨by kernel_rfl, ?_⟩)); (conv => whnf)
                refine br_some h (fun c32 g => ?_) (fun c32 g => ?_)
                · replace h := g
                  clear g
                  (repeat ((conv => whnf); first | refine ⟨by kernel_rfl, ?_⟩ | with_reducible refine bct (eq8_b c32) ?_ | refine bct c32 ?_)); (conv => whnf)
                  exact ih4 _ v26 v27 (wrL hs4 hl4 hi4) h
                · replace h := g
                  clear g
                  (repeat ((conv => whnf); first | refine ⟨by kernel_rfl, ?_⟩ | with_reducible refine bcf (eq8_b c32) ?_ | refine bcf c32 ?_)); (conv => whnf)
                  refine map_look h (fun x33 e34 h => ?_) (fun e34 h => ?_) (get_mp (f := V8.row) (g := irw) _ y30)
                  · replace h := bnd_some h
                    obtain ⟨x35, a36, h⟩ := h
                    replace h := chk_some h
                    obtain ⟨c37, h⟩ := h
                    (repeat ((conv => whnf); first | refine ⟨by kernel_rfl, ?_⟩ | refine bct (at_in a36) ?_ | refine bct (andt (at_in a36) rfl) ?_ | refine row_in (at_row a36) ?_ | refine bct (andt (at_in (at_nat a36)) rfl) ?_ | refine row_in (at_row (at_nat a36)) ?_ | refine bct (and3 (at_in (at_nat a36)) rfl rfl) ?_ | refine bct (and3 (at_in a36) rfl rfl) ?_ | refine bct (room_map c37 rfl rfl rfl rfl) ?_ | refine eqv_to (cat_one (f := srw) x35.ids x4e) ?_ | refine bct (and4 (at_in (at_nat a36)) rfl rfl (natbeq_self _)) ?_ | refine bct (and4 (at_in a36) rfl rfl (natbeq_self _)) ?_ | refine eqv_to (set_map (f := Frag.row) v26 x33.toNat (Frag.mk (x35.ids ++ [x4e]) x35.vec)) ?_)); (conv => whnf)
                    exact ih4 _ (v26.set x33.toNat (Frag.mk (x35.ids ++ [x4e]) x35.vec)) v27 (wrL hs4 hl4 hi4) h
                  · replace h := chk_some h
                    obtain ⟨c39, h⟩ := h
                    replace h := bnd_some h
                    obtain ⟨x40, a41, h⟩ := h
                    replace h := chk_some h
                    obtain ⟨c42, h⟩ := h
                    (repeat ((conv => whnf); first | refine ⟨by kernel_rfl, ?_⟩ | refine eqv_to (map_len _) ?_ | refine eqv_to (set_mp (f := V8.row) (g := irw) v27 y30 (v26.length : Int)) ?_ | refine Two.r ?_ | refine bct (room_nest c39 rfl rfl rfl) ?_ | refine eqv_to (cat_one (f := Frag.row) v26 (Frag.mk ([] : List ByteArray) y30)) ?_ | refine bct (at_in a41) ?_ | refine bct (andt (at_in a41) rfl) ?_ | refine row_in (at_row a41) ?_ | refine bct (andt (at_in (at_nat a41)) rfl) ?_ | refine row_in (at_row (at_nat a41)) ?_ | refine bct (and3 (at_in (at_nat a41)) rfl rfl) ?_ | refine bct (and3 (at_in a41) rfl rfl) ?_ | refine bct (room_map c42 rfl rfl rfl rfl) ?_ | refine eqv_to (cat_one (f := srw) x40.ids x4e) ?_ | refine bct (and4 (at_in (at_nat a41)) rfl rfl (natbeq_self _)) ?_ | refine bct (and4 (at_in a41) rfl rfl (natbeq_self _)) ?_ | refine eqv_to (set_map (f := Frag.row) (v26 ++ [(Frag.mk ([] : List ByteArray) y30)]) (v26.length : Int).toNat (Frag.mk (x40.ids ++ [x4e]) x40.vec)) ?_)); (conv => whnf)
                    exact ih4 _ ((v26 ++ [(Frag.mk ([] : List ByteArray) y30)]).set (v26.length : Int).toNat (Frag.mk (x40.ids ++ [x4e]) x40.vec)) (mset V8.row v27 y30 (v26.length : Int)) (wrL hs4 hl4 hi4) h
              · replace h := bnd_some h
                obtain ⟨y43, e44, h⟩ := h
                (repeat ((conv => whnf); first | refine ⟨by kernel_rfl, ?_⟩)); (conv => whnf)
                refine know_beyond_c hX e44 ?_
                (repeat ((conv => whnf); first | refine ⟨by kernel_rfl, ?_⟩)); (conv => whnf)
                refine br_some h (fun c45 g => ?_) (fun c45 g => ?_)
                · replace h := g
                  clear g
                  (repeat ((conv => whnf); first | refine ⟨by kernel_rfl, ?_⟩ | with_reducible refine bct (eq8_b c45) ?_ | refine bct c45 ?_)); (conv => whnf)
                  exact ih4 _ v26 v27 (wrL hs4 hl4 hi4) h
                · replace h := g
                  clear g
                  (repeat ((conv => whnf); first | refine ⟨by kernel_rfl, ?_⟩ | with_reducible refine bcf (eq8_b c45) ?_ | refine bcf c45 ?_)); (conv => whnf)
                  refine map_look h (fun x46 e47 h => ?_) (fun e47 h => ?_) (get_mp (f := V8.row) (g := irw) _ y43)
                  · replace h := bnd_some h
                    obtain ⟨x48, a49, h⟩ := h
                    replace h := chk_some h
                    obtain ⟨c50, h⟩ := h
                    (repeat ((conv => whnf); first | refine ⟨by kernel_rfl, ?_⟩ | refine bct (at_in a49) ?_ | refine bct (andt (at_in a49) rfl) ?_ | refine row_in (at_row a49) ?_ | refine bct (andt (at_in (at_nat a49)) rfl) ?_ | refine row_in (at_row (at_nat a49)) ?_ | refine bct (and3 (at_in (at_nat a49)) rfl rfl) ?_ | refine bct (and3 (at_in a49) rfl rfl) ?_ | refine bct (room_map c50 rfl rfl rfl rfl) ?_ | refine eqv_to (cat_one (f := srw) x48.ids x4e) ?_ | refine bct (and4 (at_in (at_nat a49)) rfl rfl (natbeq_self _)) ?_ | refine bct (and4 (at_in a49) rfl rfl (natbeq_self _)) ?_ | refine eqv_to (set_map (f := Frag.row) v26 x46.toNat (Frag.mk (x48.ids ++ [x4e]) x48.vec)) ?_)); (conv => whnf)
                    exact ih4 _ (v26.set x46.toNat (Frag.mk (x48.ids ++ [x4e]) x48.vec)) v27 (wrL hs4 hl4 hi4) h
                  · replace h := chk_some h
                    obtain ⟨c52, h⟩ := h
                    replace h := bnd_some h
                    obtain ⟨x53, a54, h⟩ := h
                    replace h := chk_some h
                    obtain ⟨c55, h⟩ := h
                    (repeat ((conv => whnf); first | refine ⟨by kernel_rfl, ?_⟩ | refine eqv_to (map_len _) ?_ | refine eqv_to (set_mp (f := V8.row) (g := irw) v27 y43 (v26.length : Int)) ?_ | refine Two.r ?_ | refine bct (room_nest c52 rfl rfl rfl) ?_ | refine eqv_to (cat_one (f := Frag.row) v26 (Frag.mk ([] : List ByteArray) y43)) ?_ | refine bct (at_in a54) ?_ | refine bct (andt (at_in a54) rfl) ?_ | refine row_in (at_row a54) ?_ | refine bct (andt (at_in (at_nat a54)) rfl) ?_ | refine row_in (at_row (at_nat a54)) ?_ | refine bct (and3 (at_in (at_nat a54)) rfl rfl) ?_ | refine bct (and3 (at_in a54) rfl rfl) ?_ | refine bct (room_map c55 rfl rfl rfl rfl) ?_ | refine eqv_to (cat_one (f := srw) x53.ids x4e) ?_ | refine bct (and4 (at_in (at_nat a54)) rfl rfl (natbeq_self _)) ?_ | refine bct (and4 (at_in a54) rfl rfl (natbeq_self _)) ?_ | refine eqv_to (set_map (f := Frag.row) (v26 ++ [(Frag.mk ([] : List ByteArray) y43)]) (v26.length : Int).toNat (Frag.mk (x53.ids ++ [x4e]) x53.vec)) ?_)); (conv => whnf)
                    exact ih4 _ ((v26 ++ [(Frag.mk ([] : List ByteArray) y43)]).set (v26.length : Int).toNat (Frag.mk (x53.ids ++ [x4e]) x53.vec)) (mset V8.row v27 y43 (v26.length : Int)) (wrL hs4 hl4 hi4) h
            · rw [know_Plain_l4] at h
              refine loop_intro hX ?_
              (repeat ((conv => whnf); first | refine ⟨by kernel_rfl, ?_⟩ | refine bcf (lt_end hi4) ?_)); (conv => whnf)
              exact ret_some (f := fun y => .agg [ic y.star.x0, ic y.star.x1, ic y.star.x2, ic y.star.x3, ic y.star.x4, ic y.star.x5, ic y.star.x6, ic y.star.x7, .p (.sl (y.l.map Frag.row))]) (g := fun y => []) h hQ
      · replace h := bnd_some h
        obtain ⟨y56, e57, h⟩ := h
        (repeat ((conv => whnf); first | refine ⟨by kernel_rfl, ?_⟩)); (conv => whnf)
        refine know_beyond_c hX e57 ?_
        (repeat ((conv => whnf); first | refine ⟨by kernel_rfl, ?_⟩)); (conv => whnf)
        refine br_some h (fun c58 g => ?_) (fun c58 g => ?_)
        · replace h := g
          clear g
          (repeat ((conv => whnf); first | refine ⟨by kernel_rfl, ?_⟩ | with_reducible refine bct (eq8_b c58) ?_ | refine bct c58 ?_)); (conv => whnf)
          exact ih3 _  (wrL hs3 hl3 hi3) h
        · replace h := g
          clear g
          (repeat ((conv => whnf); first | refine ⟨by kernel_rfl, ?_⟩ | with_reducible refine bcf (eq8_b c58) ?_ | refine bcf c58 ?_)); (conv => whnf)
          refine map_look h (fun x59 e60 h => ?_) (fun e60 h => ?_) (get_mp (f := V8.row) (g := irw) _ y56)
          · exact no_some h
          · replace h := chk_some h
            obtain ⟨c62, h⟩ := h
            have hs5 := hs3
            (repeat ((conv => whnf); first | refine ⟨by kernel_rfl, ?_⟩ | refine eqv_to (b := 0) rfl ?_ | refine eqv_to (set_mp (f := V8.row) (g := irw) ([] : List (V8 × Int)) y56 0) ?_ | refine Two.r ?_ | refine bct (by rfl) ?_ | refine bct (by decide) ?_ | refine bct (room_zero c62 rfl rfl rfl rfl) ?_ | refine eqv_to (nil_one (f := srw) x3e) ?_ | refine eqv_to (b := ([(Frag.mk [x3e] y56)].map Frag.row)) rfl ?_)); (conv => whnf)
            refine loop_nc hX ?_
            conv => whnf
            refine loop_lisz2 (fun (v63 : Int) (v64 : List Frag) (v65 : List (V8 × Int)) => pad [(1, .one (.ptr 0 0)), (0, .one (.ptr 1 0)), (0, .one (.mp 3)), (4, .one (.ptr 4 0)), (0, .one (.mp 6)), (36, .one (.own 7)), (0, iv (y11.length : Int)), (0, iv v63)] 49) (fun (v63 : Int) (v64 : List Frag) (v65 : List (V8 × Int)) => [.box [ic p0.star.x0, ic p0.star.x1, ic p0.star.x2, ic p0.star.x3, ic p0.star.x4, ic p0.star.x5, ic p0.star.x6, ic p0.star.x7, .p (.sl (p0.l.map Frag.row))], .box [ic 0, ic 0, ic 0, ic 0, ic 0, ic 0, ic 0, ic 0, .own 2], .rows 0 [], .mp .str true (v2.map fun e => (srw e.1, V8.row e.2)), .box [ic p0.star.x0, ic p0.star.x1, ic p0.star.x2, ic p0.star.x3, ic p0.star.x4, ic p0.star.x5, ic p0.star.x6, ic p0.star.x7, .own 5], .nest 9 0 1 (v64.map Frag.row), .mp (.ints .i64 8) false (v65.map fun e => (V8.row e.1, irw e.2)), .rows 1 (y11.map srw)]) _ y11 _ xs3 _ (next_cut hl3) (next_len hs3 hl3 hi3) (fun pre5 x5e xs5 v63 v64 v65 hl5 hi5 h ih5 => ?_) (fun v63 v64 v65 hi5 h => ?_) [(Frag.mk [x3e] y56)] (mset V8.row ([] : List (V8 × Int)) y56 0) h
            · rw [know_Plain_l5] at h
              have am5 := at_mid hl5 hi5
              refine loop_intro hX ?_
              (repeat ((conv => whnf); first | refine ⟨by kernel_rfl, ?_⟩ | refine bct (lt_mid hl5 hi5) ?_ | refine bct (at_in am5) ?_ | refine bct (andt (at_in am5) rfl) ?_ | refine row_in (at_row am5) ?_ | refine bct (andt (at_in (at_nat am5)) rfl) ?_ | refine row_in (at_row (at_nat am5)) ?_)); (conv => whnf)
              refine map_look h (fun x66 e67 h => ?_) (fun e67 h => ?_) (get_mp (f := srw) (g := V8.row) _ x5e)
              · replace h := bnd_some h
                obtain ⟨y68, e69, h⟩ := h
                (repeat ((conv => whnf); first | refine ⟨by kernel_rfl, ?_⟩)); (conv => whnf)
                refine know_beyond_c hX e69 ?_
                (repeat ((conv => whnf); first | refine ⟨by kernel_rfl, ?_⟩)); (conv => whnf)
                refine br_some h (fun c70 g => ?_) (fun c70 g => ?_)
                · replace h := g
                  clear g
                  (repeat ((conv => whnf); first | refine ⟨by kernel_rfl, ?_⟩ | with_reducible refine bct (eq8_b c70) ?_ | refine bct c70 ?_)); (conv => whnf)
                  exact ih5 _ v64 v65 (wrL hs5 hl5 hi5) h
                · replace h := g
                  clear g
                  (repeat ((conv => whnf); first | refine ⟨by kernel_rfl, ?_⟩ | with_reducible refine bcf (eq8_b c70) ?_ | refine bcf c70 ?_)); (conv => whnf)
                  refine map_look h (fun x71 e72 h => ?_) (fun e72 h => ?_) (get_mp (f := V8.row) (g := irw) _ y68)
                  · replace h := bnd_some h
                    obtain ⟨x73, a74, h⟩ := h
                    replace h := chk_some h
                    obtain ⟨c75, h⟩ := h
                    (repeat ((conv => whnf); first | refine ⟨by kernel_rfl, ?_⟩ | refine bct (at_in a74) ?_ | refine bct (andt (at_in a74) rfl) ?_ | refine row_in (at_row a74) ?_ | refine bct (andt (at_in (at_nat a74)) rfl) ?_ | refine row_in (at_row (at_nat a74)) ?_ | refine bct (and3 (at_in (at_nat a74)) rfl rfl) ?_ | refine bct (and3 (at_in a74) rfl rfl) ?_ | refine bct (room_map c75 rfl rfl rfl rfl) ?_ | refine eqv_to (cat_one (f := srw) x73.ids x5e) ?_ | refine bct (and4 (at_in (at_nat a74)) rfl rfl (natbeq_self _)) ?_ | refine bct (and4 (at_in a74) rfl rfl (natbeq_self _)) ?_ | refine eqv_to (set_map (f := Frag.row) v64 x71.toNat (Frag.mk (x73.ids ++ [x5e]) x73.vec)) ?_)); (conv => whnf)
                    exact ih5 _ (v64.set x71.toNat (Frag.mk (x73.ids ++ [x5e]) x73.vec)) v65 (wrL hs5 hl5 hi5) h
                  · replace h := chk_some h
                    obtain ⟨c77, h⟩ := h
                    replace h := bnd_some h
                    obtain ⟨x78, a79, h⟩ := h
                    replace h := chk_some h
                    obtain ⟨c80, h⟩ := h
                    (repeat ((conv => whnf); first | refine ⟨by kernel_rfl, ?_⟩ | refine eqv_to (map_len _) ?_ | refine eqv_to (set_mp (f := V8.row) (g := irw) v65 y68 (v64.length : Int)) ?_ | refine Two.r ?_ | refine bct (room_nest c77 rfl rfl rfl) ?_ | refine eqv_to (cat_one (f := Frag.row) v64 (Frag.mk ([] : List ByteArray) y68)) ?_ | refine bct (at_in a79) ?_ | refine bct (andt (at_in a79) rfl) ?_ | refine row_in (at_row a79) ?_ | refine bct (andt (at_in (at_nat a79)) rfl) ?_ | refine row_in (at_row (at_nat a79)) ?_ | refine bct (and3 (at_in (at_nat a79)) rfl rfl) ?_ | refine bct (and3 (at_in a79) rfl rfl) ?_ | refine bct (room_map c80 rfl rfl rfl rfl) ?_ | refine eqv_to (cat_one (f := srw) x78.ids x5e) ?_ | refine bct (and4 (at_in (at_nat a79)) rfl rfl (natbeq_self _)) ?_ | refine bct (and4 (at_in a79) rfl rfl (natbeq_self _)) ?_ | refine eqv_to (set_map (f := Frag.row) (v64 ++ [(Frag.mk ([] : List ByteArray) y68)]) (v64.length : Int).toNat (Frag.mk (x78.ids ++ [x5e]) x78.vec)) ?_)); (conv => whnf)
                    exact ih5 _ ((v64 ++ [(Frag.mk ([] : List ByteArray) y68)]).set (v64.length : Int).toNat (Frag.mk (x78.ids ++ [x5e]) x78.vec)) (mset V8.row v65 y68 (v64.length : Int)) (wrL hs5 hl5 hi5) h
              · replace h := bnd_some h
                obtain ⟨y81, e82, h⟩ := h
                (repeat ((conv => whnf); first | refine ⟨by kernel_rfl, ?_⟩)); (conv => whnf)
                refine know_beyond_c hX e82 ?_
                (repeat ((conv => whnf); first | refine ⟨by kernel_rfl, ?_⟩)); (conv => whnf)
                refine br_some h (fun c83 g => ?_) (fun c83 g => ?_)
                · replace h := g
                  clear g
                  (repeat ((conv => whnf); first | refine ⟨by kernel_rfl, ?_⟩ | with_reducible refine bct (eq8_b c83) ?_ | refine bct c83 ?_)); (conv => whnf)
                  exact ih5 _ v64 v65 (wrL hs5 hl5 hi5) h
                · replace h := g
                  clear g
                  (repeat ((conv => whnf); first | refine ⟨by kernel_rfl, ?_⟩ | with_reducible refine bcf (eq8_b c83) ?_ | refine bcf c83 ?_)); (conv => whnf)
                  refine map_look h (fun x84 e85 h => ?_) (fun e85 h => ?_) (get_mp (f := V8.row) (g := irw) _ y81)
                  · replace h := bnd_some h
                    obtain ⟨x86, a87, h⟩ := h
                    replace h := chk_some h
                    obtain ⟨c88, h⟩ := h
                    (repeat ((conv => whnf); first | refine ⟨by kernel_rfl, ?_⟩ | refine bct (at_in a87) ?_ | refine bct (andt (at_in a87) rfl) ?_ | refine row_in (at_row a87) ?_ | refine bct (andt (at_in (at_nat a87)) rfl) ?_ | refine row_in (at_row (at_nat a87)) ?_ | refine bct (and3 (at_in (at_nat a87)) rfl rfl) ?_ | refine bct (and3 (at_in a87) rfl rfl) ?_ | refine bct (room_map c88 rfl rfl rfl rfl) ?_ | refine eqv_to (cat_one (f := srw) x86.ids x5e) ?_ | refine bct (and4 (at_in (at_nat a87)) rfl rfl (natbeq_self _)) ?_ | refine bct (and4 (at_in a87) rfl rfl (natbeq_self _)) ?_ | refine eqv_to (set_map (f := Frag.row) v64 x84.toNat (Frag.mk (x86.ids ++ [x5e]) x86.vec)) ?_)); (conv => whnf)
                    exact ih5 _ (v64.set x84.toNat (Frag.mk (x86.ids ++ [x5e]) x86.vec)) v65 (wrL hs5 hl5 hi5) h
                  · replace h := chk_some h
                    obtain ⟨c90, h⟩ := h
                    replace h := bnd_some h
                    obtain ⟨x91, a92, h⟩ := h
                    replace h := chk_some h
                    obtain ⟨c93, h⟩ := h
                    (repeat ((conv => whnf); first | refine ⟨by kernel_rfl, ?_⟩ | refine eqv_to (map_len _) ?_ | refine eqv_to (set_mp (f := V8.row) (g := irw) v65 y81 (v64.length : Int)) ?_ | refine Two.r ?_ | refine bct (room_nest c90 rfl rfl rfl) ?_ | refine eqv_to (cat_one (f := Frag.row) v64 (Frag.mk ([] : List ByteArray) y81)) ?_ | refine bct (at_in a92) ?_ | refine bct (andt (at_in a92) rfl) ?_ | refine row_in (at_row a92) ?_ | refine bct (andt (at_in (at_nat a92)) rfl) ?_ | refine row_in (at_row (at_nat a92)) ?_ | refine bct (and3 (at_in (at_nat a92)) rfl rfl) ?_ | refine bct (and3 (at_in a92) rfl rfl) ?_ | refine bct (room_map c93 rfl rfl rfl rfl) ?_ | refine eqv_to (cat_one (f := srw) x91.ids x5e) ?_ | refine bct (and4 (at_in (at_nat a92)) rfl rfl (natbeq_self _)) ?_ | refine bct (and4 (at_in a92) rfl rfl (natbeq_self _)) ?_ | refine eqv_to (set_map (f := Frag.row) (v64 ++ [(Frag.mk ([] : List ByteArray) y81)]) (v64.length : Int).toNat (Frag.mk (x91.ids ++ [x5e]) x91.vec)) ?_)); (conv => whnf)
                    exact ih5 _ ((v64 ++ [(Frag.mk ([] : List ByteArray) y81)]).set (v64.length : Int).toNat (Frag.mk (x91.ids ++ [x5e]) x91.vec)) (mset V8.row v65 y81 (v64.length : Int)) (wrL hs5 hl5 hi5) h
            · rw [know_Plain_l5] at h
              refine loop_intro hX ?_
              (repeat ((conv => whnf); first | refine ⟨by kernel_rfl, ?_⟩ | refine bcf (lt_end hi5) ?_)); (conv => whnf)
              exact ret_some (f := fun y => .agg [ic y.star.x0, ic y.star.x1, ic y.star.x2, ic y.star.x3, ic y.star.x4, ic y.star.x5, ic y.star.x6, ic y.star.x7, .p (.sl (y.l.map Frag.row))]) (g := fun y => []) h hQ
    · rw [know_Plain_l3] at h
      refine loop_intro hX ?_
      (repeat ((conv => whnf); first | refine ⟨by kernel_rfl, ?_⟩ | refine bcf (lt_end hi3) ?_)); (conv => whnf)
      exact ret_some (f := fun y => .agg [ic y.star.x0, ic y.star.x1, ic y.star.x2, ic y.star.x3, ic y.star.x4, ic y.star.x5, ic y.star.x6, ic y.star.x7, .p (.sl (y.l.map Frag.row))]) (g := fun y => []) h hQ
end
end Go.Proofs.Ytijkfjahgijphaa
