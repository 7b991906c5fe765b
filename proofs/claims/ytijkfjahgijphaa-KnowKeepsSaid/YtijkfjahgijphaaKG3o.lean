/- Layer 7, the program's. Written by decomp.py. -/
import Derived.Test.YtijkfjahgijphaaKG3p
import Derived.Test.YtijkfjahgijphaaKLoops
set_option linter.unusedVariables false
set_option linter.unusedSimpArgs false
set_option maxRecDepth 100000
set_option maxHeartbeats 0
namespace Go.Proofs.Ytijkfjahgijphaa
open Go E
noncomputable section
open Pred
def know_With_s (p0 : Know) (p1 : ByteArray) (p2 : Ver) : Option (Know) :=
  (bnd (vec_With_s (V8.mk 0 0 0 0 0 0 0 0) p2) fun y1 =>
    (bnd (clone_s p0.l) fun y3 =>
      (chk (roomL y3.length 1)
        (bnd (know_Plain_s (Know.mk p0.star (y3 ++ [(Frag.mk [p1] y1)]))) fun y6 =>
          some y6))))
theorem know_With_c {X : Task → Prop} (hX : Closed X) {p0 : Know} {p1 : ByteArray} {p2 : Ver} {r : Know} {Q : A → List Blk → Prop} (h : know_With_s p0 p1 p2 = some r) (hQ : Q (.agg [ic r.star.x0, ic r.star.x1, ic r.star.x2, ic r.star.x3, ic r.star.x4, ic r.star.x5, ic r.star.x6, ic r.star.x7, .p (.sl (r.l.map Frag.row))]) []) : X (.call 70 [.agg [ic p0.star.x0, ic p0.star.x1, ic p0.star.x2, ic p0.star.x3, ic p0.star.x4, ic p0.star.x5, ic p0.star.x6, ic p0.star.x7, .p (.sl (p0.l.map Frag.row))], .one (.p (.v (.string p1))), .agg [ic p2.r, ic p2.c]] [] Q) := by
  unfold know_With_s at h
  refine call_nz hX ?_
  conv => whnf
  refine call_intro hX Try.func70 rfl rfl ?_
  replace h := bnd_some h
  obtain ⟨y1, e2, h⟩ := h
  (repeat ((conv => whnf); first | refine ⟨by kernel_rfl, ?_⟩)); (conv => whnf)
  refine vec_With_c hX e2 ?_
  replace h := bnd_some h
  obtain ⟨y3, e4, h⟩ := h
  (repeat ((conv => whnf); first | refine ⟨by kernel_rfl, ?_⟩)); (conv => whnf)
  refine clone_c (f := Frag.row) (k := 9) (fun _ => rfl) (by decide) hX e4 ?_
  replace h := chk_some h
  obtain ⟨c5, h⟩ := h
  replace h := bnd_some h
  obtain ⟨y6, e7, h⟩ := h
  (repeat ((conv => whnf); first | refine ⟨by kernel_rfl, ?_⟩ | refine bct (room_map c5 rfl rfl rfl rfl) ?_ | refine eqv_to (cat_one (f := Frag.row) y3 (Frag.mk [p1] y1)) ?_)); (conv => whnf)
  refine Or.inl ?_
  conv => whnf
  refine know_Plain_c hX e7 ?_
  (repeat ((conv => whnf); first | refine ⟨by kernel_rfl, ?_⟩)); (conv => whnf)
  exact ret_some (f := fun y => .agg [ic y.star.x0, ic y.star.x1, ic y.star.x2, ic y.star.x3, ic y.star.x4, ic y.star.x5, ic y.star.x6, ic y.star.x7, .p (.sl (y.l.map Frag.row))]) (g := fun y => []) h hQ
def know_Own_j1 (p0 : Know) (p1 : ByteArray) (p2_c : Int) : Option (Know) :=
  (bnd (know_With_s p0 p1 (Ver.mk 1 p2_c)) fun y101 =>
    some y101)
def know_Own_j2 (p0 : Know) (p1 : ByteArray) (p2_c : Int) : Option (Know) :=
  (bnd (know_With_s p0 p1 (Ver.mk 2 p2_c)) fun y209 =>
    some y209)
def know_Own_j3 (p0 : Know) (p1 : ByteArray) (p2_c : Int) : Option (Know) :=
  (bnd (know_With_s p0 p1 (Ver.mk 3 p2_c)) fun y317 =>
    some y317)
def know_Own_j4 (p0 : Know) (p1 : ByteArray) (p2_c : Int) : Option (Know) :=
  (bnd (know_With_s p0 p1 (Ver.mk 4 p2_c)) fun y425 =>
    some y425)
def know_Own_j5 (p0 : Know) (p1 : ByteArray) (p2_c : Int) : Option (Know) :=
  (bnd (know_With_s p0 p1 (Ver.mk 5 p2_c)) fun y533 =>
    some y533)
def know_Own_j6 (p0 : Know) (p1 : ByteArray) (p2_c : Int) : Option (Know) :=
  (bnd (know_With_s p0 p1 (Ver.mk 6 p2_c)) fun y641 =>
    some y641)
def know_Own_j7 (p0 : Know) (p1 : ByteArray) (p2_c : Int) : Option (Know) :=
  (bnd (know_With_s p0 p1 (Ver.mk 7 p2_c)) fun y749 =>
    some y749)
def know_Own_j8 (p0 : Know) (p1 : ByteArray) (p2_c : Int) : Option (Know) :=
  (bnd (know_With_s p0 p1 (Ver.mk 8 p2_c)) fun y857 =>
    some y857)
def know_Own_j9 (p0 : Know) (p1 : ByteArray) (p2_r : Int) (p2_c : Int) : Option (Know) :=
  (bnd (know_With_s p0 p1 (Ver.mk p2_r p2_c)) fun y965 =>
    some y965)
def know_Own_s (p0 : Know) (p1 : ByteArray) (p2 : Ver) : Option (Know) :=
  match p2 with
  | ⟨p2_r, p2_c⟩ =>
    (br (eqI p2_r 1)
      (br (leI 1 p2_c)
        (br (eqI p0.star.x0 (wr .i64 (p2_c - 1)))
          (bnd (vec_With_s p0.star (Ver.mk 1 p2_c)) fun y105 =>
            (bnd (know_Plain_s (Know.mk y105 p0.l)) fun y107 =>
              some y107))
          (know_Own_j1 p0 p1 p2_c ))
        (know_Own_j1 p0 p1 p2_c ))
      (br (eqI p2_r 2)
        (br (leI 1 p2_c)
          (br (eqI p0.star.x1 (wr .i64 (p2_c - 1)))
            (bnd (vec_With_s p0.star (Ver.mk 2 p2_c)) fun y213 =>
              (bnd (know_Plain_s (Know.mk y213 p0.l)) fun y215 =>
                some y215))
            (know_Own_j2 p0 p1 p2_c ))
          (know_Own_j2 p0 p1 p2_c ))
        (br (eqI p2_r 3)
          (br (leI 1 p2_c)
            (br (eqI p0.star.x2 (wr .i64 (p2_c - 1)))
              (bnd (vec_With_s p0.star (Ver.mk 3 p2_c)) fun y321 =>
                (bnd (know_Plain_s (Know.mk y321 p0.l)) fun y323 =>
                  some y323))
              (know_Own_j3 p0 p1 p2_c ))
            (know_Own_j3 p0 p1 p2_c ))
          (br (eqI p2_r 4)
            (br (leI 1 p2_c)
              (br (eqI p0.star.x3 (wr .i64 (p2_c - 1)))
                (bnd (vec_With_s p0.star (Ver.mk 4 p2_c)) fun y429 =>
                  (bnd (know_Plain_s (Know.mk y429 p0.l)) fun y431 =>
                    some y431))
                (know_Own_j4 p0 p1 p2_c ))
              (know_Own_j4 p0 p1 p2_c ))
            (br (eqI p2_r 5)
              (br (leI 1 p2_c)
                (br (eqI p0.star.x4 (wr .i64 (p2_c - 1)))
                  (bnd (vec_With_s p0.star (Ver.mk 5 p2_c)) fun y537 =>
                    (bnd (know_Plain_s (Know.mk y537 p0.l)) fun y539 =>
                      some y539))
                  (know_Own_j5 p0 p1 p2_c ))
                (know_Own_j5 p0 p1 p2_c ))
              (br (eqI p2_r 6)
                (br (leI 1 p2_c)
                  (br (eqI p0.star.x5 (wr .i64 (p2_c - 1)))
                    (bnd (vec_With_s p0.star (Ver.mk 6 p2_c)) fun y645 =>
                      (bnd (know_Plain_s (Know.mk y645 p0.l)) fun y647 =>
                        some y647))
                    (know_Own_j6 p0 p1 p2_c ))
                  (know_Own_j6 p0 p1 p2_c ))
                (br (eqI p2_r 7)
                  (br (leI 1 p2_c)
                    (br (eqI p0.star.x6 (wr .i64 (p2_c - 1)))
                      (bnd (vec_With_s p0.star (Ver.mk 7 p2_c)) fun y753 =>
                        (bnd (know_Plain_s (Know.mk y753 p0.l)) fun y755 =>
                          some y755))
                      (know_Own_j7 p0 p1 p2_c ))
                    (know_Own_j7 p0 p1 p2_c ))
                  (br (eqI p2_r 8)
                    (br (leI 1 p2_c)
                      (br (eqI p0.star.x7 (wr .i64 (p2_c - 1)))
                        (bnd (vec_With_s p0.star (Ver.mk 8 p2_c)) fun y861 =>
                          (bnd (know_Plain_s (Know.mk y861 p0.l)) fun y863 =>
                            some y863))
                        (know_Own_j8 p0 p1 p2_c ))
                      (know_Own_j8 p0 p1 p2_c ))
                    (br (leI 1 p2_r)
                      (br (leI p2_r 8)
                        (br (leI 1 p2_c)
                          none
                          (know_Own_j9 p0 p1 p2_r p2_c ))
                        (know_Own_j9 p0 p1 p2_r p2_c ))
                      (know_Own_j9 p0 p1 p2_r p2_c ))))))))))
theorem know_Own_c {X : Task → Prop} (hX : Closed X) {p0 : Know} {p1 : ByteArray} {p2 : Ver} {r : Know} {Q : A → List Blk → Prop} (h : know_Own_s p0 p1 p2 = some r) (hQ : Q (.agg [ic r.star.x0, ic r.star.x1, ic r.star.x2, ic r.star.x3, ic r.star.x4, ic r.star.x5, ic r.star.x6, ic r.star.x7, .p (.sl (r.l.map Frag.row))]) []) : X (.call 72 [.agg [ic p0.star.x0, ic p0.star.x1, ic p0.star.x2, ic p0.star.x3, ic p0.star.x4, ic p0.star.x5, ic p0.star.x6, ic p0.star.x7, .p (.sl (p0.l.map Frag.row))], .one (.p (.v (.string p1))), .agg [ic p2.r, ic p2.c]] [] Q) := by
  obtain ⟨p2_r, p2_c⟩ := p2
  unfold know_Own_s at h
  dsimp only at h
  refine br_case h (fun c g => ?_) (fun c g => ?_)
  · replace h := g
    clear g
    obtain rfl := eqI_t.1 c
    clear c
    refine call_nz hX ?_
    conv => whnf
    refine call_intro hX Try.func72 rfl rfl ?_
    apply join0 (X := X) (r := r) (pad [(1, .one (.p (.v (.string p1)))), (1, .one (.ptr 0 0)), (1, .one (.ptr 1 0)), (0, .one (.ptr 2 0))] 36) ([.box [ic p0.star.x0, ic p0.star.x1, ic p0.star.x2, ic p0.star.x3, ic p0.star.x4, ic p0.star.x5, ic p0.star.x6, ic p0.star.x7, .p (.sl (p0.l.map Frag.row))], .box [ic 1, ic p2_c], .box [ic 0, ic 0, ic 0, ic 0, ic 0, ic 0, ic 0, ic 0, .own 3], .rows 0 []])
    · intro tl1
      (repeat ((conv => whnf); first | refine ⟨by kernel_rfl, ?_⟩)); (conv => whnf)
      refine br_some h (fun c103 g => ?_) (fun c103 g => ?_)
      · replace h := g
        clear g
        (repeat ((conv => whnf); first | refine ⟨by kernel_rfl, ?_⟩ | refine bct c103 ?_)); (conv => whnf)
        refine br_some h (fun c104 g => ?_) (fun c104 g => ?_)
        · replace h := g
          clear g
          replace h := bnd_some h
          obtain ⟨y105, e106, h⟩ := h
          (repeat ((conv => whnf); first | refine ⟨by kernel_rfl, ?_⟩ | refine bct c104 ?_)); (conv => whnf)
          refine vec_With_c hX e106 ?_
          replace h := bnd_some h
          obtain ⟨y107, e108, h⟩ := h
          (repeat ((conv => whnf); first | refine ⟨by kernel_rfl, ?_⟩)); (conv => whnf)
          refine know_Plain_c hX e108 ?_
          (repeat ((conv => whnf); first | refine ⟨by kernel_rfl, ?_⟩)); (conv => whnf)
          exact ret_some (f := fun y => .agg [ic y.star.x0, ic y.star.x1, ic y.star.x2, ic y.star.x3, ic y.star.x4, ic y.star.x5, ic y.star.x6, ic y.star.x7, .p (.sl (y.l.map Frag.row))]) (g := fun y => []) h hQ
        · replace h := g
          clear g
          (repeat ((conv => whnf); first | refine ⟨by kernel_rfl, ?_⟩ | refine bcf c104 ?_)); (conv => whnf)
          exact tl1.h  h
      · replace h := g
        clear g
        (repeat ((conv => whnf); first | refine ⟨by kernel_rfl, ?_⟩ | refine bcf c103 ?_)); (conv => whnf)
        exact tl1.h  h
    · intro h
      unfold know_Own_j1 at h
      refine rest_intro hX ?_
      replace h := bnd_some h
      obtain ⟨y101, e102, h⟩ := h
      (repeat ((conv => whnf); first | refine ⟨by kernel_rfl, ?_⟩)); (conv => whnf)
      refine know_With_c hX e102 ?_
      (repeat ((conv => whnf); first | refine ⟨by kernel_rfl, ?_⟩)); (conv => whnf)
      exact ret_some (f := fun y => .agg [ic y.star.x0, ic y.star.x1, ic y.star.x2, ic y.star.x3, ic y.star.x4, ic y.star.x5, ic y.star.x6, ic y.star.x7, .p (.sl (y.l.map Frag.row))]) (g := fun y => []) h hQ
  · replace h := g
    clear g c
    refine br_case h (fun c g => ?_) (fun c g => ?_)
    · replace h := g
      clear g
      obtain rfl := eqI_t.1 c
      clear c
      refine call_nz hX ?_
      conv => whnf
      refine call_intro hX Try.func72 rfl rfl ?_
      apply join0 (X := X) (r := r) (pad [(1, .one (.p (.v (.string p1)))), (1, .one (.ptr 0 0)), (1, .one (.ptr 1 0)), (0, .one (.ptr 2 0))] 36) ([.box [ic p0.star.x0, ic p0.star.x1, ic p0.star.x2, ic p0.star.x3, ic p0.star.x4, ic p0.star.x5, ic p0.star.x6, ic p0.star.x7, .p (.sl (p0.l.map Frag.row))], .box [ic 2, ic p2_c], .box [ic 0, ic 0, ic 0, ic 0, ic 0, ic 0, ic 0, ic 0, .own 3], .rows 0 []])
      · intro tl2
        (repeat ((conv => whnf); first | refine ⟨by kernel_rfl, ?_⟩)); (conv => whnf)
        refine br_some h (fun c211 g => ?_) (fun c211 g => ?_)
        · replace h := g
          clear g
          (repeat ((conv => whnf); first | refine ⟨by kernel_rfl, ?_⟩ | refine bct c211 ?_)); (conv => whnf)
          refine br_some h (fun c212 g => ?_) (fun c212 g => ?_)
          · replace h := g
            clear g
            replace h := bnd_some h
            obtain ⟨y213, e214, h⟩ := h
            (repeat ((conv => whnf); first | refine ⟨by kernel_rfl, ?_⟩ | refine bct c212 ?_)); (conv => whnf)
            refine vec_With_c hX e214 ?_
            replace h := bnd_some h
            obtain ⟨y215, e216, h⟩ := h
            (repeat ((conv => whnf); first | refine ⟨by kernel_rfl, ?_⟩)); (conv => whnf)
            refine know_Plain_c hX e216 ?_
            (repeat ((conv => whnf); first | refine ⟨by kernel_rfl, ?_⟩)); (conv => whnf)
            exact ret_some (f := fun y => .agg [ic y.star.x0, ic y.star.x1, ic y.star.x2, ic y.star.x3, ic y.star.x4, ic y.star.x5, ic y.star.x6, ic y.star.x7, .p (.sl (y.l.map Frag.row))]) (g := fun y => []) h hQ
          · replace h := g
            clear g
            (repeat ((conv => whnf); first | refine ⟨by kernel_rfl, ?_⟩ | refine bcf c212 ?_)); (conv => whnf)
            exact tl2.h  h
        · replace h := g
          clear g
          (repeat ((conv => whnf); first | refine ⟨by kernel_rfl, ?_⟩ | refine bcf c211 ?_)); (conv => whnf)
          exact tl2.h  h
      · intro h
        unfold know_Own_j2 at h
        refine rest_intro hX ?_
        replace h := bnd_some h
        obtain ⟨y209, e210, h⟩ := h
        (repeat ((conv => whnf); first | refine ⟨by kernel_rfl, ?_⟩)); (conv => whnf)
        refine know_With_c hX e210 ?_
        (repeat ((conv => whnf); first | refine ⟨by kernel_rfl, ?_⟩)); (conv => whnf)
        exact ret_some (f := fun y => .agg [ic y.star.x0, ic y.star.x1, ic y.star.x2, ic y.star.x3, ic y.star.x4, ic y.star.x5, ic y.star.x6, ic y.star.x7, .p (.sl (y.l.map Frag.row))]) (g := fun y => []) h hQ
    · replace h := g
      clear g c
      refine br_case h (fun c g => ?_) (fun c g => ?_)
      · replace h := g
        clear g
        obtain rfl := eqI_t.1 c
        clear c
        refine call_nz hX ?_
        conv => whnf
        refine call_intro hX Try.func72 rfl rfl ?_
        apply join0 (X := X) (r := r) (pad [(1, .one (.p (.v (.string p1)))), (1, .one (.ptr 0 0)), (1, .one (.ptr 1 0)), (0, .one (.ptr 2 0))] 36) ([.box [ic p0.star.x0, ic p0.star.x1, ic p0.star.x2, ic p0.star.x3, ic p0.star.x4, ic p0.star.x5, ic p0.star.x6, ic p0.star.x7, .p (.sl (p0.l.map Frag.row))], .box [ic 3, ic p2_c], .box [ic 0, ic 0, ic 0, ic 0, ic 0, ic 0, ic 0, ic 0, .own 3], .rows 0 []])
        · intro tl3
          (repeat ((conv => whnf); first | refine ⟨by kernel_rfl, ?_⟩)); (conv => whnf)
          refine br_some h (fun c319 g => ?_) (fun c319 g => ?_)
          · replace h := g
            clear g
            (repeat ((conv => whnf); first | refine ⟨by kernel_rfl, ?_⟩ | refine bct c319 ?_)); (conv => whnf)
            refine br_some h (fun c320 g => ?_) (fun c320 g => ?_)
            · replace h := g
              clear g
              replace h := bnd_some h
              obtain ⟨y321, e322, h⟩ := h
              (repeat ((conv => whnf); first | refine ⟨by kernel_rfl, ?_⟩ | refine bct c320 ?_)); (conv => whnf)
              refine vec_With_c hX e322 ?_
              replace h := bnd_some h
              obtain ⟨y323, e324, h⟩ := h
              (repeat ((conv => whnf); first | refine ⟨by kernel_rfl, ?_⟩)); (conv => whnf)
              refine know_Plain_c hX e324 ?_
              (repeat ((conv => whnf); first | refine ⟨by kernel_rfl, ?_⟩)); (conv => whnf)
              exact ret_some (f := fun y => .agg [ic y.star.x0, ic y.star.x1, ic y.star.x2, ic y.star.x3, ic y.star.x4, ic y.star.x5, ic y.star.x6, ic y.star.x7, .p (.sl (y.l.map Frag.row))]) (g := fun y => []) h hQ
            · replace h := g
              clear g
              (repeat ((conv => whnf); first | refine ⟨by kernel_rfl, ?_⟩ | refine bcf c320 ?_)); (conv => whnf)
              exact tl3.h  h
          · replace h := g
            clear g
            (repeat ((conv => whnf); first | refine ⟨by kernel_rfl, ?_⟩ | refine bcf c319 ?_)); (conv => whnf)
            exact tl3.h  h
        · intro h
          unfold know_Own_j3 at h
          refine rest_intro hX ?_
          replace h := bnd_some h
          obtain ⟨y317, e318, h⟩ := h
          (repeat ((conv => whnf); first | refine ⟨by kernel_rfl, ?_⟩)); (conv => whnf)
          refine know_With_c hX e318 ?_
          (repeat ((conv => whnf); first | refine ⟨by kernel_rfl, ?_⟩)); (conv => whnf)
          exact ret_some (f := fun y => .agg [ic y.star.x0, ic y.star.x1, ic y.star.x2, ic y.star.x3, ic y.star.x4, ic y.star.x5, ic y.star.x6, ic y.star.x7, .p (.sl (y.l.map Frag.row))]) (g := fun y => []) h hQ
      · replace h := g
        clear g c
        refine br_case h (fun c g => ?_) (fun c g => ?_)
        · replace h := g
          clear g
          obtain rfl := eqI_t.1 c
          clear c
          refine call_nz hX ?_
          conv => whnf
          refine call_intro hX Try.func72 rfl rfl ?_
          apply join0 (X := X) (r := r) (pad [(1, .one (.p (.v (.string p1)))), (1, .one (.ptr 0 0)), (1, .one (.ptr 1 0)), (0, .one (.ptr 2 0))] 36) ([.box [ic p0.star.x0, ic p0.star.x1, ic p0.star.x2, ic p0.star.x3, ic p0.star.x4, ic p0.star.x5, ic p0.star.x6, ic p0.star.x7, .p (.sl (p0.l.map Frag.row))], .box [ic 4, ic p2_c], .box [ic 0, ic 0, ic 0, ic 0, ic 0, ic 0, ic 0, ic 0, .own 3], .rows 0 []])
          · intro tl4
            (repeat ((conv => whnf); first | refine ⟨by kernel_rfl, ?_⟩)); (conv => whnf)
            refine br_some h (fun c427 g => ?_) (fun c427 g => ?_)
            · replace h := g
              clear g
              (repeat ((conv => whnf); first | refine ⟨by kernel_rfl, ?_⟩ | refine bct c427 ?_)); (conv => whnf)
              refine br_some h (fun c428 g => ?_) (fun c428 g => ?_)
              · replace h := g
                clear g
                replace h := bnd_some h
                obtain ⟨y429, e430, h⟩ := h
                (repeat ((conv => whnf); first | refine ⟨by kernel_rfl, ?_⟩ | refine bct c428 ?_)); (conv => whnf)
                refine vec_With_c hX e430 ?_
                replace h := bnd_some h
                obtain ⟨y431, e432, h⟩ := h
                (repeat ((conv => whnf); first | refine ⟨by kernel_rfl, ?_⟩)); (conv => whnf)
                refine know_Plain_c hX e432 ?_
                (repeat ((conv => whnf); first | refine ⟨by kernel_rfl, ?_⟩)); (conv => whnf)
                exact ret_some (f := fun y => .agg [ic y.star.x0, ic y.star.x1, ic y.star.x2, ic y.star.x3, ic y.star.x4, ic y.star.x5, ic y.star.x6, ic y.star.x7, .p (.sl (y.l.map Frag.row))]) (g := fun y => []) h hQ
              · replace h := g
                clear g
                (repeat ((conv => whnf); first | refine ⟨by kernel_rfl, ?_⟩ | refine bcf c428 ?_)); (conv => whnf)
                exact tl4.h  h
            · replace h := g
              clear g
              (repeat ((conv => whnf); first | refine ⟨by kernel_rfl, ?_⟩ | refine bcf c427 ?_)); (conv => whnf)
              exact tl4.h  h
          · intro h
            unfold know_Own_j4 at h
            refine rest_intro hX ?_
            replace h := bnd_some h
            obtain ⟨y425, e426, h⟩ := h
            (repeat ((conv => whnf); first | refine ⟨by kernel_rfl, ?_⟩)); (conv => whnf)
            refine know_With_c hX e426 ?_
            (repeat ((conv => whnf); first | refine ⟨by kernel_rfl, ?_⟩)); (conv => whnf)
            exact ret_some (f := fun y => .agg [ic y.star.x0, ic y.star.x1, ic y.star.x2, ic y.star.x3, ic y.star.x4, ic y.star.x5, ic y.star.x6, ic y.star.x7, .p (.sl (y.l.map Frag.row))]) (g := fun y => []) h hQ
        · replace h := g
          clear g c
          refine br_case h (fun c g => ?_) (fun c g => ?_)
          · replace h := g
            clear g
            obtain rfl := eqI_t.1 c
            clear c
            refine call_nz hX ?_
            conv => whnf
            refine call_intro hX Try.func72 rfl rfl ?_
            apply join0 (X := X) (r := r) (pad [(1, .one (.p (.v (.string p1)))), (1, .one (.ptr 0 0)), (1, .one (.ptr 1 0)), (0, .one (.ptr 2 0))] 36) ([.box [ic p0.star.x0, ic p0.star.x1, ic p0.star.x2, ic p0.star.x3, ic p0.star.x4, ic p0.star.x5, ic p0.star.x6, ic p0.star.x7, .p (.sl (p0.l.map Frag.row))], .box [ic 5, ic p2_c], .box [ic 0, ic 0, ic 0, ic 0, ic 0, ic 0, ic 0, ic 0, .own 3], .rows 0 []])
            · intro tl5
              (repeat ((conv => whnf); first | refine ⟨by kernel_rfl, ?_⟩)); (conv => whnf)
              refine br_some h (fun c535 g => ?_) (fun c535 g => ?_)
              · replace h := g
                clear g
                (repeat ((conv => whnf); first | refine ⟨by kernel_rfl, ?_⟩ | refine bct c535 ?_)); (conv => whnf)
                refine br_some h (fun c536 g => ?_) (fun c536 g => ?_)
                · replace h := g
                  clear g
                  replace h := bnd_some h
                  obtain ⟨y537, e538, h⟩ := h
                  (repeat ((conv => whnf); first | refine ⟨by kernel_rfl, ?_⟩ | refine bct c536 ?_)); (conv => whnf)
                  refine vec_With_c hX e538 ?_
                  replace h := bnd_some h
                  obtain ⟨y539, e540, h⟩ := h
                  (repeat ((conv => whnf); first | refine ⟨by kernel_rfl, ?_⟩)); (conv => whnf)
                  refine know_Plain_c hX e540 ?_
                  (repeat ((conv => whnf); first | refine ⟨by kernel_rfl, ?_⟩)); (conv => whnf)
                  exact ret_some (f := fun y => .agg [ic y.star.x0, ic y.star.x1, ic y.star.x2, ic y.star.x3, ic y.star.x4, ic y.star.x5, ic y.star.x6, ic y.star.x7, .p (.sl (y.l.map Frag.row))]) (g := fun y => []) h hQ
                · replace h := g
                  clear g
                  (repeat ((conv => whnf); first | refine ⟨by kernel_rfl, ?_⟩ | refine bcf c536 ?_)); (conv => whnf)
                  exact tl5.h  h
              · replace h := g
                clear g
                (repeat ((conv => whnf); first | refine ⟨by kernel_rfl, ?_⟩ | refine bcf c535 ?_)); (conv => whnf)
                exact tl5.h  h
            · intro h
              unfold know_Own_j5 at h
              refine rest_intro hX ?_
              replace h := bnd_some h
              obtain ⟨y533, e534, h⟩ := h
              (repeat ((conv => whnf); first | refine ⟨by kernel_rfl, ?_⟩)); (conv => whnf)
              refine know_With_c hX e534 ?_
              (repeat ((conv => whnf); first | refine ⟨by kernel_rfl, ?_⟩)); (conv => whnf)
              exact ret_some (f := fun y => .agg [ic y.star.x0, ic y.star.x1, ic y.star.x2, ic y.star.x3, ic y.star.x4, ic y.star.x5, ic y.star.x6, ic y.star.x7, .p (.sl (y.l.map Frag.row))]) (g := fun y => []) h hQ
          · replace h := g
            clear g c
            refine br_case h (fun c g => ?_) (fun c g => ?_)
            · replace h := g
              clear g
              obtain rfl := eqI_t.1 c
              clear c
              refine call_nz hX ?_
              conv => whnf
              refine call_intro hX Try.func72 rfl rfl ?_
              apply join0 (X := X) (r := r) (pad [(1, .one (.p (.v (.string p1)))), (1, .one (.ptr 0 0)), (1, .one (.ptr 1 0)), (0, .one (.ptr 2 0))] 36) ([.box [ic p0.star.x0, ic p0.star.x1, ic p0.star.x2, ic p0.star.x3, ic p0.star.x4, ic p0.star.x5, ic p0.star.x6, ic p0.star.x7, .p (.sl (p0.l.map Frag.row))], .box [ic 6, ic p2_c], .box [ic 0, ic 0, ic 0, ic 0, ic 0, ic 0, ic 0, ic 0, .own 3], .rows 0 []])
              · intro tl6
                (repeat ((conv => whnf); first | refine ⟨by kernel_rfl, ?_⟩)); (conv => whnf)
                refine br_some h (fun c643 g => ?_) (fun c643 g => ?_)
                · replace h := g
                  clear g
                  (repeat ((conv => whnf); first | refine ⟨by kernel_rfl, ?_⟩ | refine bct c643 ?_)); (conv => whnf)
                  refine br_some h (fun c644 g => ?_) (fun c644 g => ?_)
                  · replace h := g
                    clear g
                    replace h := bnd_some h
                    obtain ⟨y645, e646, h⟩ := h
                    (repeat ((conv => whnf); first | refine ⟨by kernel_rfl, ?_⟩ | refine bct c644 ?_)); (conv => whnf)
                    refine vec_With_c hX e646 ?_
                    replace h := bnd_some h
                    obtain ⟨y647, e648, h⟩ := h
                    (repeat ((conv => whnf); first | refine ⟨by kernel_rfl, ?_⟩)); (conv => whnf)
                    refine know_Plain_c hX e648 ?_
                    (repeat ((conv => whnf); first | refine ⟨by kernel_rfl, ?_⟩)); (conv => whnf)
                    exact ret_some (f := fun y => .agg [ic y.star.x0, ic y.star.x1, ic y.star.x2, ic y.star.x3, ic y.star.x4, ic y.star.x5, ic y.star.x6, ic y.star.x7, .p (.sl (y.l.map Frag.row))]) (g := fun y => []) h hQ
                  · replace h := g
                    clear g
                    (repeat ((conv => whnf); first | refine ⟨by kernel_rfl, ?_⟩ | refine bcf c644 ?_)); (conv => whnf)
                    exact tl6.h  h
                · replace h := g
                  clear g
                  (repeat ((conv => whnf); first | refine ⟨by kernel_rfl, ?_⟩ | refine bcf c643 ?_)); (conv => whnf)
                  exact tl6.h  h
              · intro h
                unfold know_Own_j6 at h
                refine rest_intro hX ?_
                replace h := bnd_some h
                obtain ⟨y641, e642, h⟩ := h
                (repeat ((conv => whnf); first | refine ⟨by kernel_rfl, ?_⟩)); (conv => whnf)
                refine know_With_c hX e642 ?_
                (repeat ((conv => whnf); first | refine ⟨by kernel_rfl, ?_⟩)); (conv => whnf)
                exact ret_some (f := fun y => .agg [ic y.star.x0, ic y.star.x1, ic y.star.x2, ic y.star.x3, ic y.star.x4, ic y.star.x5, ic y.star.x6, ic y.star.x7, .p (.sl (y.l.map Frag.row))]) (g := fun y => []) h hQ
            · replace h := g
              clear g c
              refine br_case h (fun c g => ?_) (fun c g => ?_)
              · replace h := g
                clear g
                obtain rfl := eqI_t.1 c
                clear c
                refine call_nz hX ?_
                conv => whnf
                refine call_intro hX Try.func72 rfl rfl ?_
                apply join0 (X := X) (r := r) (pad [(1, .one (.p (.v (.string p1)))), (1, .one (.ptr 0 0)), (1, .one (.ptr 1 0)), (0, .one (.ptr 2 0))] 36) ([.box [ic p0.star.x0, ic p0.star.x1, ic p0.star.x2, ic p0.star.x3, ic p0.star.x4, ic p0.star.x5, ic p0.star.x6, ic p0.star.x7, .p (.sl (p0.l.map Frag.row))], .box [ic 7, ic p2_c], .box [ic 0, ic 0, ic 0, ic 0, ic 0, ic 0, ic 0, ic 0, .own 3], .rows 0 []])
                · intro tl7
                  (repeat ((conv => whnf); first | refine ⟨by kernel_rfl, ?_⟩)); (conv => whnf)
                  refine br_some h (fun c751 g => ?_) (fun c751 g => ?_)
                  · replace h := g
                    clear g
                    (repeat ((conv => whnf); first | refine ⟨by kernel_rfl, ?_⟩ | refine bct c751 ?_)); (conv => whnf)
                    refine br_some h (fun c752 g => ?_) (fun c752 g => ?_)
                    · replace h := g
                      clear g
                      replace h := bnd_some h
                      obtain ⟨y753, e754, h⟩ := h
                      (repeat ((conv => whnf); first | refine ⟨by kernel_rfl, ?_⟩ | refine bct c752 ?_)); (conv => whnf)
                      refine vec_With_c hX e754 ?_
                      replace h := bnd_some h
                      obtain ⟨y755, e756, h⟩ := h
                      (repeat ((conv => whnf); first | refine ⟨by kernel_rfl, ?_⟩)); (conv => whnf)
                      refine know_Plain_c hX e756 ?_
                      (repeat ((conv => whnf); first | refine ⟨by kernel_rfl, ?_⟩)); (conv => whnf)
                      exact ret_some (f := fun y => .agg [ic y.star.x0, ic y.star.x1, ic y.star.x2, ic y.star.x3, ic y.star.x4, ic y.star.x5, ic y.star.x6, ic y.star.x7, .p (.sl (y.l.map Frag.row))]) (g := fun y => []) h hQ
                    · replace h := g
                      clear g
                      (repeat ((conv => whnf); first | refine ⟨by kernel_rfl, ?_⟩ | refine bcf c752 ?_)); (conv => whnf)
                      exact tl7.h  h
                  · replace h := g
                    clear g
                    (repeat ((conv => whnf); first | refine ⟨by kernel_rfl, ?_⟩ | refine bcf c751 ?_)); (conv => whnf)
                    exact tl7.h  h
                · intro h
                  unfold know_Own_j7 at h
                  refine rest_intro hX ?_
                  replace h := bnd_some h
                  obtain ⟨y749, e750, h⟩ := h
                  (repeat ((conv => whnf); first | refine ⟨by kernel_rfl, ?_⟩)); (conv => whnf)
                  refine know_With_c hX e750 ?_
                  (repeat ((conv => whnf); first | refine ⟨by kernel_rfl, ?_⟩)); (conv => whnf)
                  exact ret_some (f := fun y => .agg [ic y.star.x0, ic y.star.x1, ic y.star.x2, ic y.star.x3, ic y.star.x4, ic y.star.x5, ic y.star.x6, ic y.star.x7, .p (.sl (y.l.map Frag.row))]) (g := fun y => []) h hQ
              · replace h := g
                clear g c
                refine br_case h (fun c g => ?_) (fun c g => ?_)
                · replace h := g
                  clear g
                  obtain rfl := eqI_t.1 c
                  clear c
                  refine call_nz hX ?_
                  conv => whnf
                  refine call_intro hX Try.func72 rfl rfl ?_
                  apply join0 (X := X) (r := r) (pad [(1, .one (.p (.v (.string p1)))), (1, .one (.ptr 0 0)), (1, .one (.ptr 1 0)), (0, .one (.ptr 2 0))] 36) ([.box [ic p0.star.x0, ic p0.star.x1, ic p0.star.x2, ic p0.star.x3, ic p0.star.x4, ic p0.star.x5, ic p0.star.x6, ic p0.star.x7, .p (.sl (p0.l.map Frag.row))], .box [ic 8, ic p2_c], .box [ic 0, ic 0, ic 0, ic 0, ic 0, ic 0, ic 0, ic 0, .own 3], .rows 0 []])
                  · intro tl8
                    (repeat ((conv => whnf); first | refine ⟨by kernel_rfl, ?_⟩)); (conv => whnf)
                    refine br_some h (fun c859 g => ?_) (fun c859 g => ?_)
                    · replace h := g
                      clear g
                      (repeat ((conv => whnf); first | refine ⟨by kernel_rfl, ?_⟩ | refine bct c859 ?_)); (conv => whnf)
                      refine br_some h (fun c860 g => ?_) (fun c860 g => ?_)
                      · replace h := g
                        clear g
                        replace h := bnd_some h
                        obtain ⟨y861, e862, h⟩ := h
                        (repeat ((conv => whnf); first | refine ⟨by kernel_rfl, ?_⟩ | refine bct c860 ?_)); (conv => whnf)
                        refine vec_With_c hX e862 ?_
                        replace h := bnd_some h
                        obtain ⟨y863, e864, h⟩ := h
                        (repeat ((conv => whnf); first | refine ⟨by kernel_rfl, ?_⟩)); (conv => whnf)
                        refine know_Plain_c hX e864 ?_
                        (repeat ((conv => whnf); first | refine ⟨by kernel_rfl, ?_⟩)); (conv => whnf)
                        exact ret_some (f := fun y => .agg [ic y.star.x0, ic y.star.x1, ic y.star.x2, ic y.star.x3, ic y.star.x4, ic y.star.x5, ic y.star.x6, ic y.star.x7, .p (.sl (y.l.map Frag.row))]) (g := fun y => []) h hQ
                      · replace h := g
                        clear g
                        (repeat ((conv => whnf); first | refine ⟨by kernel_rfl, ?_⟩ | refine bcf c860 ?_)); (conv => whnf)
                        exact tl8.h  h
                    · replace h := g
                      clear g
                      (repeat ((conv => whnf); first | refine ⟨by kernel_rfl, ?_⟩ | refine bcf c859 ?_)); (conv => whnf)
                      exact tl8.h  h
                  · intro h
                    unfold know_Own_j8 at h
                    refine rest_intro hX ?_
                    replace h := bnd_some h
                    obtain ⟨y857, e858, h⟩ := h
                    (repeat ((conv => whnf); first | refine ⟨by kernel_rfl, ?_⟩)); (conv => whnf)
                    refine know_With_c hX e858 ?_
                    (repeat ((conv => whnf); first | refine ⟨by kernel_rfl, ?_⟩)); (conv => whnf)
                    exact ret_some (f := fun y => .agg [ic y.star.x0, ic y.star.x1, ic y.star.x2, ic y.star.x3, ic y.star.x4, ic y.star.x5, ic y.star.x6, ic y.star.x7, .p (.sl (y.l.map Frag.row))]) (g := fun y => []) h hQ
                · replace h := g
                  clear g c
                  refine call_nz hX ?_
                  conv => whnf
                  refine call_intro hX Try.func72 rfl rfl ?_
                  apply join0 (X := X) (r := r) (pad [(1, .one (.p (.v (.string p1)))), (1, .one (.ptr 0 0)), (1, .one (.ptr 1 0)), (0, .one (.ptr 2 0))] 36) ([.box [ic p0.star.x0, ic p0.star.x1, ic p0.star.x2, ic p0.star.x3, ic p0.star.x4, ic p0.star.x5, ic p0.star.x6, ic p0.star.x7, .p (.sl (p0.l.map Frag.row))], .box [ic p2_r, ic p2_c], .box [ic 0, ic 0, ic 0, ic 0, ic 0, ic 0, ic 0, ic 0, .own 3], .rows 0 []])
                  · intro tl9
                    (repeat ((conv => whnf); first | refine ⟨by kernel_rfl, ?_⟩)); (conv => whnf)
                    refine br_some h (fun c967 g => ?_) (fun c967 g => ?_)
                    · replace h := g
                      clear g
                      (repeat ((conv => whnf); first | refine ⟨by kernel_rfl, ?_⟩ | refine bct c967 ?_)); (conv => whnf)
                      refine br_some h (fun c968 g => ?_) (fun c968 g => ?_)
                      · replace h := g
                        clear g
                        (repeat ((conv => whnf); first | refine ⟨by kernel_rfl, ?_⟩ | refine bct c968 ?_)); (conv => whnf)
                        refine br_some h (fun c969 g => ?_) (fun c969 g => ?_)
                        · replace h := g
                          clear g
                          exact no_some h
                        · replace h := g
                          clear g
                          (repeat ((conv => whnf); first | refine ⟨by kernel_rfl, ?_⟩ | refine bcf c969 ?_)); (conv => whnf)
                          exact tl9.h  h
                      · replace h := g
                        clear g
                        (repeat ((conv => whnf); first | refine ⟨by kernel_rfl, ?_⟩ | refine bcf c968 ?_)); (conv => whnf)
                        exact tl9.h  h
                    · replace h := g
                      clear g
                      (repeat ((conv => whnf); first | refine ⟨by kernel_rfl, ?_⟩ | refine bcf c967 ?_)); (conv => whnf)
                      exact tl9.h  h
                  · intro h
                    unfold know_Own_j9 at h
                    refine rest_intro hX ?_
                    replace h := bnd_some h
                    obtain ⟨y965, e966, h⟩ := h
                    (repeat ((conv => whnf); first | refine ⟨by kernel_rfl, ?_⟩)); (conv => whnf)
                    refine know_With_c hX e966 ?_
                    (repeat ((conv => whnf); first | refine ⟨by kernel_rfl, ?_⟩)); (conv => whnf)
                    exact ret_some (f := fun y => .agg [ic y.star.x0, ic y.star.x1, ic y.star.x2, ic y.star.x3, ic y.star.x4, ic y.star.x5, ic y.star.x6, ic y.star.x7, .p (.sl (y.l.map Frag.row))]) (g := fun y => []) h hQ
end
end Go.Proofs.Ytijkfjahgijphaa
