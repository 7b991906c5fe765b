/- Layers 6 to 8, the document's, more of them. Written by decomp.py. -/
import Derived.Test.YtijkfjahgijphaaKG1
import Derived.Test.YtijkfjahgijphaaKGrow
import Derived.Test.YtijkfjahgijphaaKLoops
set_option linter.unusedVariables false
set_option linter.unusedSimpArgs false
set_option maxRecDepth 100000
set_option maxHeartbeats 0
namespace Go.Proofs.Ytijkfjahgijphaa
open Go E
noncomputable section
open Pred
def ref06_With_s (p0 : Know) (p1 : ByteArray) (p2 : Ver) : Option (Know) :=
  (chk (roomL 0 p0.l.length)
    (bnd (ref06_WithVec_s (V8.mk 0 0 0 0 0 0 0 0) p2) fun y2 =>
      (chk (roomL p0.l.length 1)
        (bnd (ref06_Plain_s (Know.mk p0.star (p0.l ++ [(Frag.mk [p1] y2)]))) fun y5 =>
          some y5))))
theorem ref06_With_c {X : Task → Prop} (hX : Closed X) {p0 : Know} {p1 : ByteArray} {p2 : Ver} {r : Know} {Q : A → List Blk → Prop} (h : ref06_With_s p0 p1 p2 = some r) (hQ : Q (.agg [ic r.star.x0, ic r.star.x1, ic r.star.x2, ic r.star.x3, ic r.star.x4, ic r.star.x5, ic r.star.x6, ic r.star.x7, .p (.sl (r.l.map Frag.row))]) []) : X (.call 71 [.agg [ic p0.star.x0, ic p0.star.x1, ic p0.star.x2, ic p0.star.x3, ic p0.star.x4, ic p0.star.x5, ic p0.star.x6, ic p0.star.x7, .p (.sl (p0.l.map Frag.row))], .one (.p (.v (.string p1))), .agg [ic p2.r, ic p2.c]] [] Q) := by
  unfold ref06_With_s at h
  refine call_nz hX ?_
  conv => whnf
  refine call_intro hX Try.func71 rfl rfl ?_
  replace h := chk_some h
  obtain ⟨c1, h⟩ := h
  replace h := bnd_some h
  obtain ⟨y2, e3, h⟩ := h
  (repeat ((conv => whnf); first | refine ⟨by kernel_rfl, ?_⟩ | refine bct (room_zero c1 (List.length_map ..) rfl (rowsOk_map (f := Frag.row) (sz := 9) (fun _ => rfl) _) rfl) ?_ | refine eqv_to (nil_map (f := Frag.row) _) ?_)); (conv => whnf)
  refine ref06_WithVec_c hX e3 ?_
  replace h := chk_some h
  obtain ⟨c4, h⟩ := h
  replace h := bnd_some h
  obtain ⟨y5, e6, h⟩ := h
  (repeat ((conv => whnf); first | refine ⟨by kernel_rfl, ?_⟩ | refine bct (room_map c4 rfl rfl rfl rfl) ?_ | refine eqv_to (cat_one (f := Frag.row) p0.l (Frag.mk [p1] y2)) ?_)); (conv => whnf)
  refine Or.inl ?_
  conv => whnf
  refine ref06_Plain_c hX e6 ?_
  (repeat ((conv => whnf); first | refine ⟨by kernel_rfl, ?_⟩)); (conv => whnf)
  exact ret_some (f := fun y => .agg [ic y.star.x0, ic y.star.x1, ic y.star.x2, ic y.star.x3, ic y.star.x4, ic y.star.x5, ic y.star.x6, ic y.star.x7, .p (.sl (y.l.map Frag.row))]) (g := fun y => []) h hQ
def ref06_Own_s (p0 : Know) (p1 : ByteArray) (p2 : Ver) : Option (Know) :=
  match p2 with
  | ⟨p2_r, p2_c⟩ =>
    (br (eqI p2_r 1)
      (br (ltI p2_c 1)
        (bnd (ref06_With_s p0 p1 (Ver.mk 1 p2_c)) fun y102 =>
          some y102)
        (br (!eqI p0.star.x0 (wr .i64 (p2_c - 1)))
          (bnd (ref06_With_s p0 p1 (Ver.mk 1 p2_c)) fun y105 =>
            some y105)
          (bnd (ref06_WithVec_s p0.star (Ver.mk 1 p2_c)) fun y107 =>
            (bnd (ref06_Plain_s (Know.mk y107 p0.l)) fun y109 =>
              some y109))))
      (br (eqI p2_r 2)
        (br (ltI p2_c 1)
          (bnd (ref06_With_s p0 p1 (Ver.mk 2 p2_c)) fun y212 =>
            some y212)
          (br (!eqI p0.star.x1 (wr .i64 (p2_c - 1)))
            (bnd (ref06_With_s p0 p1 (Ver.mk 2 p2_c)) fun y215 =>
              some y215)
            (bnd (ref06_WithVec_s p0.star (Ver.mk 2 p2_c)) fun y217 =>
              (bnd (ref06_Plain_s (Know.mk y217 p0.l)) fun y219 =>
                some y219))))
        (br (eqI p2_r 3)
          (br (ltI p2_c 1)
            (bnd (ref06_With_s p0 p1 (Ver.mk 3 p2_c)) fun y322 =>
              some y322)
            (br (!eqI p0.star.x2 (wr .i64 (p2_c - 1)))
              (bnd (ref06_With_s p0 p1 (Ver.mk 3 p2_c)) fun y325 =>
                some y325)
              (bnd (ref06_WithVec_s p0.star (Ver.mk 3 p2_c)) fun y327 =>
                (bnd (ref06_Plain_s (Know.mk y327 p0.l)) fun y329 =>
                  some y329))))
          (br (eqI p2_r 4)
            (br (ltI p2_c 1)
              (bnd (ref06_With_s p0 p1 (Ver.mk 4 p2_c)) fun y432 =>
                some y432)
              (br (!eqI p0.star.x3 (wr .i64 (p2_c - 1)))
                (bnd (ref06_With_s p0 p1 (Ver.mk 4 p2_c)) fun y435 =>
                  some y435)
                (bnd (ref06_WithVec_s p0.star (Ver.mk 4 p2_c)) fun y437 =>
                  (bnd (ref06_Plain_s (Know.mk y437 p0.l)) fun y439 =>
                    some y439))))
            (br (eqI p2_r 5)
              (br (ltI p2_c 1)
                (bnd (ref06_With_s p0 p1 (Ver.mk 5 p2_c)) fun y542 =>
                  some y542)
                (br (!eqI p0.star.x4 (wr .i64 (p2_c - 1)))
                  (bnd (ref06_With_s p0 p1 (Ver.mk 5 p2_c)) fun y545 =>
                    some y545)
                  (bnd (ref06_WithVec_s p0.star (Ver.mk 5 p2_c)) fun y547 =>
                    (bnd (ref06_Plain_s (Know.mk y547 p0.l)) fun y549 =>
                      some y549))))
              (br (eqI p2_r 6)
                (br (ltI p2_c 1)
                  (bnd (ref06_With_s p0 p1 (Ver.mk 6 p2_c)) fun y652 =>
                    some y652)
                  (br (!eqI p0.star.x5 (wr .i64 (p2_c - 1)))
                    (bnd (ref06_With_s p0 p1 (Ver.mk 6 p2_c)) fun y655 =>
                      some y655)
                    (bnd (ref06_WithVec_s p0.star (Ver.mk 6 p2_c)) fun y657 =>
                      (bnd (ref06_Plain_s (Know.mk y657 p0.l)) fun y659 =>
                        some y659))))
                (br (eqI p2_r 7)
                  (br (ltI p2_c 1)
                    (bnd (ref06_With_s p0 p1 (Ver.mk 7 p2_c)) fun y762 =>
                      some y762)
                    (br (!eqI p0.star.x6 (wr .i64 (p2_c - 1)))
                      (bnd (ref06_With_s p0 p1 (Ver.mk 7 p2_c)) fun y765 =>
                        some y765)
                      (bnd (ref06_WithVec_s p0.star (Ver.mk 7 p2_c)) fun y767 =>
                        (bnd (ref06_Plain_s (Know.mk y767 p0.l)) fun y769 =>
                          some y769))))
                  (br (eqI p2_r 8)
                    (br (ltI p2_c 1)
                      (bnd (ref06_With_s p0 p1 (Ver.mk 8 p2_c)) fun y872 =>
                        some y872)
                      (br (!eqI p0.star.x7 (wr .i64 (p2_c - 1)))
                        (bnd (ref06_With_s p0 p1 (Ver.mk 8 p2_c)) fun y875 =>
                          some y875)
                        (bnd (ref06_WithVec_s p0.star (Ver.mk 8 p2_c)) fun y877 =>
                          (bnd (ref06_Plain_s (Know.mk y877 p0.l)) fun y879 =>
                            some y879))))
                    (br (ltI p2_r 1)
                      (bnd (ref06_With_s p0 p1 (Ver.mk p2_r p2_c)) fun y982 =>
                        some y982)
                      (br (ltI 8 p2_r)
                        (bnd (ref06_With_s p0 p1 (Ver.mk p2_r p2_c)) fun y985 =>
                          some y985)
                        (br (ltI p2_c 1)
                          (bnd (ref06_With_s p0 p1 (Ver.mk p2_r p2_c)) fun y988 =>
                            some y988)
                          none)))))))))))
theorem ref06_Own_c {X : Task → Prop} (hX : Closed X) {p0 : Know} {p1 : ByteArray} {p2 : Ver} {r : Know} {Q : A → List Blk → Prop} (h : ref06_Own_s p0 p1 p2 = some r) (hQ : Q (.agg [ic r.star.x0, ic r.star.x1, ic r.star.x2, ic r.star.x3, ic r.star.x4, ic r.star.x5, ic r.star.x6, ic r.star.x7, .p (.sl (r.l.map Frag.row))]) []) : X (.call 73 [.agg [ic p0.star.x0, ic p0.star.x1, ic p0.star.x2, ic p0.star.x3, ic p0.star.x4, ic p0.star.x5, ic p0.star.x6, ic p0.star.x7, .p (.sl (p0.l.map Frag.row))], .one (.p (.v (.string p1))), .agg [ic p2.r, ic p2.c]] [] Q) := by
  obtain ⟨p2_r, p2_c⟩ := p2
  unfold ref06_Own_s at h
  dsimp only at h
  refine br_case h (fun c g => ?_) (fun c g => ?_)
  · replace h := g
    clear g
    obtain rfl := eqI_t.1 c
    clear c
    refine call_nz hX ?_
    conv => whnf
    refine call_intro hX Try.func73 rfl rfl ?_
    (repeat ((conv => whnf); first | refine ⟨by kernel_rfl, ?_⟩)); (conv => whnf)
    refine br_some h (fun c101 g => ?_) (fun c101 g => ?_)
    · replace h := g
      clear g
      replace h := bnd_some h
      obtain ⟨y102, e103, h⟩ := h
      (repeat ((conv => whnf); first | refine ⟨by kernel_rfl, ?_⟩ | refine bct c101 ?_)); (conv => whnf)
      refine ref06_With_c hX e103 ?_
      (repeat ((conv => whnf); first | refine ⟨by kernel_rfl, ?_⟩)); (conv => whnf)
      exact ret_some (f := fun y => .agg [ic y.star.x0, ic y.star.x1, ic y.star.x2, ic y.star.x3, ic y.star.x4, ic y.star.x5, ic y.star.x6, ic y.star.x7, .p (.sl (y.l.map Frag.row))]) (g := fun y => []) h hQ
    · replace h := g
      clear g
      (repeat ((conv => whnf); first | refine ⟨by kernel_rfl, ?_⟩ | refine bcf c101 ?_)); (conv => whnf)
      refine br_some h (fun c104 g => ?_) (fun c104 g => ?_)
      · replace h := g
        clear g
        replace h := bnd_some h
        obtain ⟨y105, e106, h⟩ := h
        (repeat ((conv => whnf); first | refine ⟨by kernel_rfl, ?_⟩ | refine bct c104 ?_)); (conv => whnf)
        refine ref06_With_c hX e106 ?_
        (repeat ((conv => whnf); first | refine ⟨by kernel_rfl, ?_⟩)); (conv => whnf)
        exact ret_some (f := fun y => .agg [ic y.star.x0, ic y.star.x1, ic y.star.x2, ic y.star.x3, ic y.star.x4, ic y.star.x5, ic y.star.x6, ic y.star.x7, .p (.sl (y.l.map Frag.row))]) (g := fun y => []) h hQ
      · replace h := g
        clear g
        replace h := bnd_some h
        obtain ⟨y107, e108, h⟩ := h
        (repeat ((conv => whnf); first | refine ⟨by kernel_rfl, ?_⟩ | refine bcf c104 ?_)); (conv => whnf)
        refine ref06_WithVec_c hX e108 ?_
        replace h := bnd_some h
        obtain ⟨y109, e110, h⟩ := h
        (repeat ((conv => whnf); first | refine ⟨by kernel_rfl, ?_⟩)); (conv => whnf)
        refine ref06_Plain_c hX e110 ?_
        (repeat ((conv => whnf); first | refine ⟨by kernel_rfl, ?_⟩)); (conv => whnf)
        exact ret_some (f := fun y => .agg [ic y.star.x0, ic y.star.x1, ic y.star.x2, ic y.star.x3, ic y.star.x4, ic y.star.x5, ic y.star.x6, ic y.star.x7, .p (.sl (y.l.map Frag.row))]) (g := fun y => []) h hQ
  · replace h := g
    clear g c
    refine br_case h (fun c g => ?_) (fun c g => ?_)
    · replace h := g
      clear g
      obtain rfl := eqI_t.1 c
      clear c
      refine call_nz hX ?_
      conv => whnf
      refine call_intro hX Try.func73 rfl rfl ?_
      (repeat ((conv => whnf); first | refine ⟨by kernel_rfl, ?_⟩)); (conv => whnf)
      refine br_some h (fun c211 g => ?_) (fun c211 g => ?_)
      · replace h := g
        clear g
        replace h := bnd_some h
        obtain ⟨y212, e213, h⟩ := h
        (repeat ((conv => whnf); first | refine ⟨by kernel_rfl, ?_⟩ | refine bct c211 ?_)); (conv => whnf)
        refine ref06_With_c hX e213 ?_
        (repeat ((conv => whnf); first | refine ⟨by kernel_rfl, ?_⟩)); (conv => whnf)
        exact ret_some (f := fun y => .agg [ic y.star.x0, ic y.star.x1, ic y.star.x2, ic y.star.x3, ic y.star.x4, ic y.star.x5, ic y.star.x6, ic y.star.x7, .p (.sl (y.l.map Frag.row))]) (g := fun y => []) h hQ
      · replace h := g
        clear g
        (repeat ((conv => whnf); first | refine ⟨by kernel_rfl, ?_⟩ | refine bcf c211 ?_)); (conv => whnf)
        refine br_some h (fun c214 g => ?_) (fun c214 g => ?_)
        · replace h := g
          clear g
          replace h := bnd_some h
          obtain ⟨y215, e216, h⟩ := h
          (repeat ((conv => whnf); first | refine ⟨by kernel_rfl, ?_⟩ | refine bct c214 ?_)); (conv => whnf)
          refine ref06_With_c hX e216 ?_
          (repeat ((conv => whnf); first | refine ⟨by kernel_rfl, ?_⟩)); (conv => whnf)
          exact ret_some (f := fun y => .agg [ic y.star.x0, ic y.star.x1, ic y.star.x2, ic y.star.x3, ic y.star.x4, ic y.star.x5, ic y.star.x6, ic y.star.x7, .p (.sl (y.l.map Frag.row))]) (g := fun y => []) h hQ
        · replace h := g
          clear g
          replace h := bnd_some h
          obtain ⟨y217, e218, h⟩ := h
          (repeat ((conv => whnf); first | refine ⟨by kernel_rfl, ?_⟩ | refine bcf c214 ?_)); (conv => whnf)
          refine ref06_WithVec_c hX e218 ?_
          replace h := bnd_some h
          obtain ⟨y219, e220, h⟩ := h
          (repeat ((conv => whnf); first | refine ⟨by kernel_rfl, ?_⟩)); (conv => whnf)
          refine ref06_Plain_c hX e220 ?_
          (repeat ((conv => whnf); first | refine ⟨by kernel_rfl, ?_⟩)); (conv => whnf)
          exact ret_some (f := fun y => .agg [ic y.star.x0, ic y.star.x1, ic y.star.x2, ic y.star.x3, ic y.star.x4, ic y.star.x5, ic y.star.x6, ic y.star.x7, .p (.sl (y.l.map Frag.row))]) (g := fun y => []) h hQ
    · replace h := g
      clear g c
      refine br_case h (fun c g => ?_) (fun c g => ?_)
      · replace h := g
        clear g
        obtain rfl := eqI_t.1 c
        clear c
        refine call_nz hX ?_
        conv => whnf
        refine call_intro hX Try.func73 rfl rfl ?_
        (repeat ((conv => whnf); first | refine ⟨by kernel_rfl, ?_⟩)); (conv => whnf)
        refine br_some h (fun c321 g => ?_) (fun c321 g => ?_)
        · replace h := g
          clear g
          replace h := bnd_some h
          obtain ⟨y322, e323, h⟩ := h
          (repeat ((conv => whnf); first | refine ⟨by kernel_rfl, ?_⟩ | refine bct c321 ?_)); (conv => whnf)
          refine ref06_With_c hX e323 ?_
          (repeat ((conv => whnf); first | refine ⟨by kernel_rfl, ?_⟩)); (conv => whnf)
          exact ret_some (f := fun y => .agg [ic y.star.x0, ic y.star.x1, ic y.star.x2, ic y.star.x3, ic y.star.x4, ic y.star.x5, ic y.star.x6, ic y.star.x7, .p (.sl (y.l.map Frag.row))]) (g := fun y => []) h hQ
        · replace h := g
          clear g
          (repeat ((conv => whnf); first | refine ⟨by kernel_rfl, ?_⟩ | refine bcf c321 ?_)); (conv => whnf)
          refine br_some h (fun c324 g => ?_) (fun c324 g => ?_)
          · replace h := g
            clear g
            replace h := bnd_some h
            obtain ⟨y325, e326, h⟩ := h
            (repeat ((conv => whnf); first | refine ⟨by kernel_rfl, ?_⟩ | refine bct c324 ?_)); (conv => whnf)
            refine ref06_With_c hX e326 ?_
            (repeat ((conv => whnf); first | refine ⟨by kernel_rfl, ?_⟩)); (conv => whnf)
            exact ret_some (f := fun y => .agg [ic y.star.x0, ic y.star.x1, ic y.star.x2, ic y.star.x3, ic y.star.x4, ic y.star.x5, ic y.star.x6, ic y.star.x7, .p (.sl (y.l.map Frag.row))]) (g := fun y => []) h hQ
          · replace h := g
            clear g
            replace h := bnd_some h
            obtain ⟨y327, e328, h⟩ := h
            (repeat ((conv => whnf); first | refine ⟨by kernel_rfl, ?_⟩ | refine bcf c324 ?_)); (conv => whnf)
            refine ref06_WithVec_c hX e328 ?_
            replace h := bnd_some h
            obtain ⟨y329, e330, h⟩ := h
            (repeat ((conv => whnf); first | refine ⟨by kernel_rfl, ?_⟩)); (conv => whnf)
            refine ref06_Plain_c hX e330 ?_
            (repeat ((conv => whnf); first | refine ⟨by kernel_rfl, ?_⟩)); (conv => whnf)
            exact ret_some (f := fun y => .agg [ic y.star.x0, ic y.star.x1, ic y.star.x2, ic y.star.x3, ic y.star.x4, ic y.star.x5, ic y.star.x6, ic y.star.x7, .p (.sl (y.l.map Frag.row))]) (g := fun y => []) h hQ
      · replace h := g
        clear g c
        refine br_case h (fun c g => ?_) (fun c g => ?_)
        · replace h := g
          clear g
          obtain rfl := eqI_t.1 c
          clear c
          refine call_nz hX ?_
          conv => whnf
          refine call_intro hX Try.func73 rfl rfl ?_
          (repeat ((conv => whnf); first | refine ⟨by kernel_rfl, ?_⟩)); (conv => whnf)
          refine br_some h (fun c431 g => ?_) (fun c431 g => ?_)
          · replace h := g
            clear g
            replace h := bnd_some h
            obtain ⟨y432, e433, h⟩ := h
            (repeat ((conv => whnf); first | refine ⟨by kernel_rfl, ?_⟩ | refine bct c431 ?_)); (conv => whnf)
            refine ref06_With_c hX e433 ?_
            (repeat ((conv => whnf); first | refine ⟨by kernel_rfl, ?_⟩)); (conv => whnf)
            exact ret_some (f := fun y => .agg [ic y.star.x0, ic y.star.x1, ic y.star.x2, ic y.star.x3, ic y.star.x4, ic y.star.x5, ic y.star.x6, ic y.star.x7, .p (.sl (y.l.map Frag.row))]) (g := fun y => []) h hQ
          · replace h := g
            clear g
            (repeat ((conv => whnf); first | refine ⟨by kernel_rfl, ?_⟩ | refine bcf c431 ?_)); (conv => whnf)
            refine br_some h (fun c434 g => ?_) (fun c434 g => ?_)
            · replace h := g
              clear g
              replace h := bnd_some h
              obtain ⟨y435, e436, h⟩ := h
              (repeat ((conv => whnf); first | refine ⟨by kernel_rfl, ?_⟩ | refine bct c434 ?_)); (conv => whnf)
              refine ref06_With_c hX e436 ?_
              (repeat ((conv => whnf); first | refine ⟨by kernel_rfl, ?_⟩)); (conv => whnf)
              exact ret_some (f := fun y => .agg [ic y.star.x0, ic y.star.x1, ic y.star.x2, ic y.star.x3, ic y.star.x4, ic y.star.x5, ic y.star.x6, ic y.star.x7, .p (.sl (y.l.map Frag.row))]) (g := fun y => []) h hQ
            · replace h := g
              clear g
              replace h := bnd_some h
              obtain ⟨y437, e438, h⟩ := h
              (repeat ((conv => whnf); first | refine ⟨by kernel_rfl, ?_⟩ | refine bcf c434 ?_)); (conv => whnf)
              refine ref06_WithVec_c hX e438 ?_
              replace h := bnd_some h
              obtain ⟨y439, e440, h⟩ := h
              (repeat ((conv => whnf); first | refine ⟨by kernel_rfl, ?_⟩)); (conv => whnf)
              refine ref06_Plain_c hX e440 ?_
              (repeat ((conv => whnf); first | refine ⟨by kernel_rfl, ?_⟩)); (conv => whnf)
              exact ret_some (f := fun y => .agg [ic y.star.x0, ic y.star.x1, ic y.star.x2, ic y.star.x3, ic y.star.x4, ic y.star.x5, ic y.star.x6, ic y.star.x7, .p (.sl (y.l.map Frag.row))]) (g := fun y => []) h hQ
        · replace h := g
          clear g c
          refine br_case h (fun c g => ?_) (fun c g => ?_)
          · replace h := g
            clear g
            obtain rfl := eqI_t.1 c
            clear c
            refine call_nz hX ?_
            conv => whnf
            refine call_intro hX Try.func73 rfl rfl ?_
            (repeat ((conv => whnf); first | refine ⟨by kernel_rfl, ?_⟩)); (conv => whnf)
            refine br_some h (fun c541 g => ?_) (fun c541 g => ?_)
            · replace h := g
              clear g
              replace h := bnd_some h
              obtain ⟨y542, e543, h⟩ := h
              (repeat ((conv => whnf); first | refine ⟨by kernel_rfl, ?_⟩ | refine bct c541 ?_)); (conv => whnf)
              refine ref06_With_c hX e543 ?_
              (repeat ((conv => whnf); first | refine ⟨by kernel_rfl, ?_⟩)); (conv => whnf)
              exact ret_some (f := fun y => .agg [ic y.star.x0, ic y.star.x1, ic y.star.x2, ic y.star.x3, ic y.star.x4, ic y.star.x5, ic y.star.x6, ic y.star.x7, .p (.sl (y.l.map Frag.row))]) (g := fun y => []) h hQ
            · replace h := g
              clear g
              (repeat ((conv => whnf); first | refine ⟨by kernel_rfl, ?_⟩ | refine bcf c541 ?_)); (conv => whnf)
              refine br_some h (fun c544 g => ?_) (fun c544 g => ?_)
              · replace h := g
                clear g
                replace h := bnd_some h
                obtain ⟨y545, e546, h⟩ := h
                (repeat ((conv => whnf); first | refine ⟨by kernel_rfl, ?_⟩ | refine bct c544 ?_)); (conv => whnf)
                refine ref06_With_c hX e546 ?_
                (repeat ((conv => whnf); first | refine ⟨by kernel_rfl, ?_⟩)); (conv => whnf)
                exact ret_some (f := fun y => .agg [ic y.star.x0, ic y.star.x1, ic y.star.x2, ic y.star.x3, ic y.star.x4, ic y.star.x5, ic y.star.x6, ic y.star.x7, .p (.sl (y.l.map Frag.row))]) (g := fun y => []) h hQ
              · replace h := g
                clear g
                replace h := bnd_some h
                obtain ⟨y547, e548, h⟩ := h
                (repeat ((conv => whnf); first | refine ⟨by kernel_rfl, ?_⟩ | refine bcf c544 ?_)); (conv => whnf)
                refine ref06_WithVec_c hX e548 ?_
                replace h := bnd_some h
                obtain ⟨y549, e550, h⟩ := h
                (repeat ((conv => whnf); first | refine ⟨by kernel_rfl, ?_⟩)); (conv => whnf)
                refine ref06_Plain_c hX e550 ?_
                (repeat ((conv => whnf); first | refine ⟨by kernel_rfl, ?_⟩)); (conv => whnf)
                exact ret_some (f := fun y => .agg [ic y.star.x0, ic y.star.x1, ic y.star.x2, ic y.star.x3, ic y.star.x4, ic y.star.x5, ic y.star.x6, ic y.star.x7, .p (.sl (y.l.map Frag.row))]) (g := fun y => []) h hQ
          · replace h := g
            clear g c
            refine br_case h (fun c g => ?_) (fun c g => ?_)
            · replace h := g
              clear g
              obtain rfl := eqI_t.1 c
              clear c
              refine call_nz hX ?_
              conv => whnf
              refine call_intro hX Try.func73 rfl rfl ?_
              (repeat ((conv => whnf); first | refine ⟨by kernel_rfl, ?_⟩)); (conv => whnf)
              refine br_some h (fun c651 g => ?_) (fun c651 g => ?_)
              · replace h := g
                clear g
                replace h := bnd_some h
                obtain ⟨y652, e653, h⟩ := h
                (repeat ((conv => whnf); first | refine ⟨by kernel_rfl, ?_⟩ | refine bct c651 ?_)); (conv => whnf)
                refine ref06_With_c hX e653 ?_
                (repeat ((conv => whnf); first | refine ⟨by kernel_rfl, ?_⟩)); (conv => whnf)
                exact ret_some (f := fun y => .agg [ic y.star.x0, ic y.star.x1, ic y.star.x2, ic y.star.x3, ic y.star.x4, ic y.star.x5, ic y.star.x6, ic y.star.x7, .p (.sl (y.l.map Frag.row))]) (g := fun y => []) h hQ
              · replace h := g
                clear g
                (repeat ((conv => whnf); first | refine ⟨by kernel_rfl, ?_⟩ | refine bcf c651 ?_)); (conv => whnf)
                refine br_some h (fun c654 g => ?_) (fun c654 g => ?_)
                · replace h := g
                  clear g
                  replace h := bnd_some h
                  obtain ⟨y655, e656, h⟩ := h
                  (repeat ((conv => whnf); first | refine ⟨by kernel_rfl, ?_⟩ | refine bct c654 ?_)); (conv => whnf)
                  refine ref06_With_c hX e656 ?_
                  (repeat ((conv => whnf); first | refine ⟨by kernel_rfl, ?_⟩)); (conv => whnf)
                  exact ret_some (f := fun y => .agg [ic y.star.x0, ic y.star.x1, ic y.star.x2, ic y.star.x3, ic y.star.x4, ic y.star.x5, ic y.star.x6, ic y.star.x7, .p (.sl (y.l.map Frag.row))]) (g := fun y => []) h hQ
                · replace h := g
                  clear g
                  replace h := bnd_some h
                  obtain ⟨y657, e658, h⟩ := h
                  (repeat ((conv => whnf); first | refine ⟨by kernel_rfl, ?_⟩ | refine bcf c654 ?_)); (conv => whnf)
                  refine ref06_WithVec_c hX e658 ?_
                  replace h := bnd_some h
                  obtain ⟨y659, e660, h⟩ := h
                  (repeat ((conv => whnf); first | refine ⟨by kernel_rfl, ?_⟩)); (conv => whnf)
                  refine ref06_Plain_c hX e660 ?_
                  (repeat ((conv => whnf); first | refine ⟨by kernel_rfl, ?_⟩)); (conv => whnf)
                  exact ret_some (f := fun y => .agg [ic y.star.x0, ic y.star.x1, ic y.star.x2, ic y.star.x3, ic y.star.x4, ic y.star.x5, ic y.star.x6, ic y.star.x7, .p (.sl (y.l.map Frag.row))]) (g := fun y => []) h hQ
            · replace h := g
              clear g c
              refine br_case h (fun c g => ?_) (fun c g => ?_)
              · replace h := g
                clear g
                obtain rfl := eqI_t.1 c
                clear c
                refine call_nz hX ?_
                conv => whnf
                refine call_intro hX Try.func73 rfl rfl ?_
                (repeat ((conv => whnf); first | refine ⟨by kernel_rfl, ?_⟩)); (conv => whnf)
                refine br_some h (fun c761 g => ?_) (fun c761 g => ?_)
                · replace h := g
                  clear g
                  replace h := bnd_some h
                  obtain ⟨y762, e763, h⟩ := h
                  (repeat ((conv => whnf); first | refine ⟨by kernel_rfl, ?_⟩ | refine bct c761 ?_)); (conv => whnf)
                  refine ref06_With_c hX e763 ?_
                  (repeat ((conv => whnf); first | refine ⟨by kernel_rfl, ?_⟩)); (conv => whnf)
                  exact ret_some (f := fun y => .agg [ic y.star.x0, ic y.star.x1, ic y.star.x2, ic y.star.x3, ic y.star.x4, ic y.star.x5, ic y.star.x6, ic y.star.x7, .p (.sl (y.l.map Frag.row))]) (g := fun y => []) h hQ
                · replace h := g
                  clear g
                  (repeat ((conv => whnf); first | refine ⟨by kernel_rfl, ?_⟩ | refine bcf c761 ?_)); (conv => whnf)
                  refine br_some h (fun c764 g => ?_) (fun c764 g => ?_)
                  · replace h := g
                    clear g
                    replace h := bnd_some h
                    obtain ⟨y765, e766, h⟩ := h
                    (repeat ((conv => whnf); first | refine ⟨by kernel_rfl, ?_⟩ | refine bct c764 ?_)); (conv => whnf)
                    refine ref06_With_c hX e766 ?_
                    (repeat ((conv => whnf); first | refine ⟨by kernel_rfl, ?_⟩)); (conv => whnf)
                    exact ret_some (f := fun y => .agg [ic y.star.x0, ic y.star.x1, ic y.star.x2, ic y.star.x3, ic y.star.x4, ic y.star.x5, ic y.star.x6, ic y.star.x7, .p (.sl (y.l.map Frag.row))]) (g := fun y => []) h hQ
                  · replace h := g
                    clear g
                    replace h := bnd_some h
                    obtain ⟨y767, e768, h⟩ := h
                    (repeat ((conv => whnf); first | refine ⟨by kernel_rfl, ?_⟩ | refine bcf c764 ?_)); (conv => whnf)
                    refine ref06_WithVec_c hX e768 ?_
                    replace h := bnd_some h
                    obtain ⟨y769, e770, h⟩ := h
                    (repeat ((conv => whnf); first | refine ⟨by kernel_rfl, ?_⟩)); (conv => whnf)
                    refine ref06_Plain_c hX e770 ?_
                    (repeat ((conv => whnf); first | refine ⟨by kernel_rfl, ?_⟩)); (conv => whnf)
                    exact ret_some (f := fun y => .agg [ic y.star.x0, ic y.star.x1, ic y.star.x2, ic y.star.x3, ic y.star.x4, ic y.star.x5, ic y.star.x6, ic y.star.x7, .p (.sl (y.l.map Frag.row))]) (g := fun y => []) h hQ
              · replace h := g
                clear g c
                refine br_case h (fun c g => ?_) (fun c g => ?_)
                · replace h := g
                  clear g
                  obtain rfl := eqI_t.1 c
                  clear c
                  refine call_nz hX ?_
                  conv => whnf
                  refine call_intro hX Try.func73 rfl rfl ?_
                  (repeat ((conv => whnf); first | refine ⟨by kernel_rfl, ?_⟩)); (conv => whnf)
                  refine br_some h (fun c871 g => ?_) (fun c871 g => ?_)
                  · replace h := g
                    clear g
                    replace h := bnd_some h
                    obtain ⟨y872, e873, h⟩ := h
                    (repeat ((conv => whnf); first | refine ⟨by kernel_rfl, ?_⟩ | refine bct c871 ?_)); (conv => whnf)
                    refine ref06_With_c hX e873 ?_
                    (repeat ((conv => whnf); first | refine ⟨by kernel_rfl, ?_⟩)); (conv => whnf)
                    exact ret_some (f := fun y => .agg [ic y.star.x0, ic y.star.x1, ic y.star.x2, ic y.star.x3, ic y.star.x4, ic y.star.x5, ic y.star.x6, ic y.star.x7, .p (.sl (y.l.map Frag.row))]) (g := fun y => []) h hQ
                  · replace h := g
                    clear g
                    (repeat ((conv => whnf); first | refine ⟨by kernel_rfl, ?_⟩ | refine bcf c871 ?_)); (conv => whnf)
                    refine br_some h (fun c874 g => ?_) (fun c874 g => ?_)
                    · replace h := g
                      clear g
                      replace h := bnd_some h
                      obtain ⟨y875, e876, h⟩ := h
                      (repeat ((conv => whnf); first | refine ⟨by kernel_rfl, ?_⟩ | refine bct c874 ?_)); (conv => whnf)
                      refine ref06_With_c hX e876 ?_
                      (repeat ((conv => whnf); first | refine ⟨by kernel_rfl, ?_⟩)); (conv => whnf)
                      exact ret_some (f := fun y => .agg [ic y.star.x0, ic y.star.x1, ic y.star.x2, ic y.star.x3, ic y.star.x4, ic y.star.x5, ic y.star.x6, ic y.star.x7, .p (.sl (y.l.map Frag.row))]) (g := fun y => []) h hQ
                    · replace h := g
                      clear g
                      replace h := bnd_some h
                      obtain ⟨y877, e878, h⟩ := h
                      (repeat ((conv => whnf); first | refine ⟨by kernel_rfl, ?_⟩ | refine bcf c874 ?_)); (conv => whnf)
                      refine ref06_WithVec_c hX e878 ?_
                      replace h := bnd_some h
                      obtain ⟨y879, e880, h⟩ := h
                      (repeat ((conv => whnf); first | refine ⟨by kernel_rfl, ?_⟩)); (conv => whnf)
                      refine ref06_Plain_c hX e880 ?_
                      (repeat ((conv => whnf); first | refine ⟨by kernel_rfl, ?_⟩)); (conv => whnf)
                      exact ret_some (f := fun y => .agg [ic y.star.x0, ic y.star.x1, ic y.star.x2, ic y.star.x3, ic y.star.x4, ic y.star.x5, ic y.star.x6, ic y.star.x7, .p (.sl (y.l.map Frag.row))]) (g := fun y => []) h hQ
                · replace h := g
                  clear g c
                  refine call_nz hX ?_
                  conv => whnf
                  refine call_intro hX Try.func73 rfl rfl ?_
                  (repeat ((conv => whnf); first | refine ⟨by kernel_rfl, ?_⟩)); (conv => whnf)
                  refine br_some h (fun c981 g => ?_) (fun c981 g => ?_)
                  · replace h := g
                    clear g
                    replace h := bnd_some h
                    obtain ⟨y982, e983, h⟩ := h
                    (repeat ((conv => whnf); first | refine ⟨by kernel_rfl, ?_⟩ | refine bct c981 ?_)); (conv => whnf)
                    refine ref06_With_c hX e983 ?_
                    (repeat ((conv => whnf); first | refine ⟨by kernel_rfl, ?_⟩)); (conv => whnf)
                    exact ret_some (f := fun y => .agg [ic y.star.x0, ic y.star.x1, ic y.star.x2, ic y.star.x3, ic y.star.x4, ic y.star.x5, ic y.star.x6, ic y.star.x7, .p (.sl (y.l.map Frag.row))]) (g := fun y => []) h hQ
                  · replace h := g
                    clear g
                    (repeat ((conv => whnf); first | refine ⟨by kernel_rfl, ?_⟩ | refine bcf c981 ?_)); (conv => whnf)
                    refine br_some h (fun c984 g => ?_) (fun c984 g => ?_)
                    · replace h := g
                      clear g
                      replace h := bnd_some h
                      obtain ⟨y985, e986, h⟩ := h
                      (repeat ((conv => whnf); first | refine ⟨by kernel_rfl, ?_⟩ | refine bct c984 ?_)); (conv => whnf)
                      refine ref06_With_c hX e986 ?_
                      (repeat ((conv => whnf); first | refine ⟨by kernel_rfl, ?_⟩)); (conv => whnf)
                      exact ret_some (f := fun y => .agg [ic y.star.x0, ic y.star.x1, ic y.star.x2, ic y.star.x3, ic y.star.x4, ic y.star.x5, ic y.star.x6, ic y.star.x7, .p (.sl (y.l.map Frag.row))]) (g := fun y => []) h hQ
                    · replace h := g
                      clear g
                      (repeat ((conv => whnf); first | refine ⟨by kernel_rfl, ?_⟩ | refine bcf c984 ?_)); (conv => whnf)
                      refine br_some h (fun c987 g => ?_) (fun c987 g => ?_)
                      · replace h := g
                        clear g
                        replace h := bnd_some h
                        obtain ⟨y988, e989, h⟩ := h
                        (repeat ((conv => whnf); first | refine ⟨by kernel_rfl, ?_⟩ | refine bct c987 ?_)); (conv => whnf)
                        refine ref06_With_c hX e989 ?_
                        (repeat ((conv => whnf); first | refine ⟨by kernel_rfl, ?_⟩)); (conv => whnf)
                        exact ret_some (f := fun y => .agg [ic y.star.x0, ic y.star.x1, ic y.star.x2, ic y.star.x3, ic y.star.x4, ic y.star.x5, ic y.star.x6, ic y.star.x7, .p (.sl (y.l.map Frag.row))]) (g := fun y => []) h hQ
                      · replace h := g
                        clear g
                        exact no_some h
def ref06_Join_s (p0 : Know) (p1 : Know) : Option (Know) :=
  (bnd (ref06_Max_s p0.star p1.star) fun y1 =>
    (chk (roomL 0 p0.l.length)
      (chk (roomL p0.l.length p1.l.length)
        (bnd (ref06_Plain_s (Know.mk y1 (p0.l ++ p1.l))) fun y5 =>
          some y5))))
theorem ref06_Join_c {X : Task → Prop} (hX : Closed X) {p0 : Know} {p1 : Know} {r : Know} {Q : A → List Blk → Prop} (h : ref06_Join_s p0 p1 = some r) (hQ : Q (.agg [ic r.star.x0, ic r.star.x1, ic r.star.x2, ic r.star.x3, ic r.star.x4, ic r.star.x5, ic r.star.x6, ic r.star.x7, .p (.sl (r.l.map Frag.row))]) []) : X (.call 65 [.agg [ic p0.star.x0, ic p0.star.x1, ic p0.star.x2, ic p0.star.x3, ic p0.star.x4, ic p0.star.x5, ic p0.star.x6, ic p0.star.x7, .p (.sl (p0.l.map Frag.row))], .agg [ic p1.star.x0, ic p1.star.x1, ic p1.star.x2, ic p1.star.x3, ic p1.star.x4, ic p1.star.x5, ic p1.star.x6, ic p1.star.x7, .p (.sl (p1.l.map Frag.row))]] [] Q) := by
  unfold ref06_Join_s at h
  refine call_nz hX ?_
  conv => whnf
  refine call_intro hX Try.func65 rfl rfl ?_
  replace h := bnd_some h
  obtain ⟨y1, e2, h⟩ := h
  (repeat ((conv => whnf); first | refine ⟨by kernel_rfl, ?_⟩)); (conv => whnf)
  refine ref06_Max_c hX e2 ?_
  replace h := chk_some h
  obtain ⟨c3, h⟩ := h
  replace h := chk_some h
  obtain ⟨c4, h⟩ := h
  replace h := bnd_some h
  obtain ⟨y5, e6, h⟩ := h
  (repeat ((conv => whnf); first | refine ⟨by kernel_rfl, ?_⟩ | refine bct (room_zero c3 (List.length_map ..) rfl (rowsOk_map (f := Frag.row) (sz := 9) (fun _ => rfl) _) rfl) ?_ | refine eqv_to (nil_map (f := Frag.row) _) ?_ | refine bct (room_map c4 (List.length_map ..) rfl (rowsOk_map (f := Frag.row) (sz := 9) (fun _ => rfl) _) rfl) ?_ | refine eqv_to (cat_map (f := Frag.row) p0.l _) ?_)); (conv => whnf)
  refine Or.inl ?_
  conv => whnf
  refine ref06_Plain_c hX e6 ?_
  (repeat ((conv => whnf); first | refine ⟨by kernel_rfl, ?_⟩)); (conv => whnf)
  exact ret_some (f := fun y => .agg [ic y.star.x0, ic y.star.x1, ic y.star.x2, ic y.star.x3, ic y.star.x4, ic y.star.x5, ic y.star.x6, ic y.star.x7, .p (.sl (y.l.map Frag.row))]) (g := fun y => []) h hQ
def ref06_Same_s (p0 : Know) (p1 : Know) : Option (Bool) :=
  (bnd (ref06_Plain_s p0) fun y1 =>
    (bnd (ref06_Plain_s p1) fun y3 =>
      (bnd (ref06_Alike_s y1 y3) fun y5 =>
        some y5)))
theorem ref06_Same_c {X : Task → Prop} (hX : Closed X) {p0 : Know} {p1 : Know} {r : Bool} {Q : A → List Blk → Prop} (h : ref06_Same_s p0 p1 = some r) (hQ : Q (.one (.p (.v (.bool r)))) []) : X (.call 67 [.agg [ic p0.star.x0, ic p0.star.x1, ic p0.star.x2, ic p0.star.x3, ic p0.star.x4, ic p0.star.x5, ic p0.star.x6, ic p0.star.x7, .p (.sl (p0.l.map Frag.row))], .agg [ic p1.star.x0, ic p1.star.x1, ic p1.star.x2, ic p1.star.x3, ic p1.star.x4, ic p1.star.x5, ic p1.star.x6, ic p1.star.x7, .p (.sl (p1.l.map Frag.row))]] [] Q) := by
  unfold ref06_Same_s at h
  refine call_intro hX Try.func67 rfl rfl ?_
  replace h := bnd_some h
  obtain ⟨y1, e2, h⟩ := h
  (repeat ((conv => whnf); first | refine ⟨by kernel_rfl, ?_⟩)); (conv => whnf)
  refine ref06_Plain_c hX e2 ?_
  replace h := bnd_some h
  obtain ⟨y3, e4, h⟩ := h
  (repeat ((conv => whnf); first | refine ⟨by kernel_rfl, ?_⟩)); (conv => whnf)
  refine ref06_Plain_c hX e4 ?_
  replace h := bnd_some h
  obtain ⟨y5, e6, h⟩ := h
  (repeat ((conv => whnf); first | refine ⟨by kernel_rfl, ?_⟩)); (conv => whnf)
  refine ref06_Alike_c hX e6 ?_
  (repeat ((conv => whnf); first | refine ⟨by kernel_rfl, ?_⟩)); (conv => whnf)
  exact ret_some (f := fun y => .one (.p (.v (.bool y)))) (g := fun y => []) h hQ
end
end Go.Proofs.Ytijkfjahgijphaa
