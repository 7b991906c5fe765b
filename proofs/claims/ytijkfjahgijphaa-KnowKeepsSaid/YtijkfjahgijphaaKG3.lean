/- Layer 7, the program's. Written by decomp.py. -/
import Derived.Test.YtijkfjahgijphaaKG2
import Derived.Test.YtijkfjahgijphaaKLoops
set_option linter.unusedVariables false
set_option linter.unusedSimpArgs false
set_option maxRecDepth 100000
set_option maxHeartbeats 0
namespace Go.Proofs.Ytijkfjahgijphaa
open Go E
noncomputable section
open Pred
def know_beyond_j8 (v1 : Int) (v2 : Int) (v3 : Int) (v4 : Int) (v5 : Int) (v6 : Int) (v7 : Int) (v8 : Int) : Option (V8) :=
  some (V8.mk v1 v2 v3 v4 v5 v6 v7 v8)
def know_beyond_j7 (p0 : V8) (p1 : V8) (v1 : Int) (v2 : Int) (v3 : Int) (v4 : Int) (v5 : Int) (v6 : Int) (v7 : Int) : Option (V8) :=
  (br (leI p0.x7 p1.x7)
    (know_beyond_j8 v1 v2 v3 v4 v5 v6 v7 0)
    (br (leI p0.x7 0)
      (know_beyond_j8 v1 v2 v3 v4 v5 v6 v7 0)
      (know_beyond_j8 v1 v2 v3 v4 v5 v6 v7 p0.x7)))
def know_beyond_j6 (p0 : V8) (p1 : V8) (v1 : Int) (v2 : Int) (v3 : Int) (v4 : Int) (v5 : Int) (v6 : Int) : Option (V8) :=
  (br (leI p0.x6 p1.x6)
    (know_beyond_j7 p0 p1 v1 v2 v3 v4 v5 v6 0)
    (br (leI p0.x6 0)
      (know_beyond_j7 p0 p1 v1 v2 v3 v4 v5 v6 0)
      (know_beyond_j7 p0 p1 v1 v2 v3 v4 v5 v6 p0.x6)))
def know_beyond_j5 (p0 : V8) (p1 : V8) (v1 : Int) (v2 : Int) (v3 : Int) (v4 : Int) (v5 : Int) : Option (V8) :=
  (br (leI p0.x5 p1.x5)
    (know_beyond_j6 p0 p1 v1 v2 v3 v4 v5 0)
    (br (leI p0.x5 0)
      (know_beyond_j6 p0 p1 v1 v2 v3 v4 v5 0)
      (know_beyond_j6 p0 p1 v1 v2 v3 v4 v5 p0.x5)))
def know_beyond_j4 (p0 : V8) (p1 : V8) (v1 : Int) (v2 : Int) (v3 : Int) (v4 : Int) : Option (V8) :=
  (br (leI p0.x4 p1.x4)
    (know_beyond_j5 p0 p1 v1 v2 v3 v4 0)
    (br (leI p0.x4 0)
      (know_beyond_j5 p0 p1 v1 v2 v3 v4 0)
      (know_beyond_j5 p0 p1 v1 v2 v3 v4 p0.x4)))
def know_beyond_j3 (p0 : V8) (p1 : V8) (v1 : Int) (v2 : Int) (v3 : Int) : Option (V8) :=
  (br (leI p0.x3 p1.x3)
    (know_beyond_j4 p0 p1 v1 v2 v3 0)
    (br (leI p0.x3 0)
      (know_beyond_j4 p0 p1 v1 v2 v3 0)
      (know_beyond_j4 p0 p1 v1 v2 v3 p0.x3)))
def know_beyond_j2 (p0 : V8) (p1 : V8) (v1 : Int) (v2 : Int) : Option (V8) :=
  (br (leI p0.x2 p1.x2)
    (know_beyond_j3 p0 p1 v1 v2 0)
    (br (leI p0.x2 0)
      (know_beyond_j3 p0 p1 v1 v2 0)
      (know_beyond_j3 p0 p1 v1 v2 p0.x2)))
def know_beyond_j1 (p0 : V8) (p1 : V8) (v1 : Int) : Option (V8) :=
  (br (leI p0.x1 p1.x1)
    (know_beyond_j2 p0 p1 v1 0)
    (br (leI p0.x1 0)
      (know_beyond_j2 p0 p1 v1 0)
      (know_beyond_j2 p0 p1 v1 p0.x1)))
def know_beyond_s (p0 : V8) (p1 : V8) : Option (V8) :=
  (br (leI p0.x0 p1.x0)
    (know_beyond_j1 p0 p1 0)
    (br (leI p0.x0 0)
      (know_beyond_j1 p0 p1 0)
      (know_beyond_j1 p0 p1 p0.x0)))
theorem know_beyond_c {X : Task → Prop} (hX : Closed X) {p0 : V8} {p1 : V8} {r : V8} {Q : A → List Blk → Prop} (h : know_beyond_s p0 p1 = some r) (hQ : Q (.agg [ic r.x0, ic r.x1, ic r.x2, ic r.x3, ic r.x4, ic r.x5, ic r.x6, ic r.x7]) []) : X (.call 114 [.agg [ic p0.x0, ic p0.x1, ic p0.x2, ic p0.x3, ic p0.x4, ic p0.x5, ic p0.x6, ic p0.x7], .agg [ic p1.x0, ic p1.x1, ic p1.x2, ic p1.x3, ic p1.x4, ic p1.x5, ic p1.x6, ic p1.x7]] [] Q) := by
  unfold know_beyond_s at h
  refine call_intro hX Try.func114 rfl rfl ?_
  (repeat ((conv => whnf); first | refine ⟨by kernel_rfl, ?_⟩)); (conv => whnf)
  refine loop_intro hX ?_
  apply join1 (X := X) (r := r) (fun (v1 : Int) => pad [(2, .one (.ptr 0 0)), (0, .one (.ptr 1 0)), (0, .one (.ptr 2 0)), (2, .agg [ic p0.x0, ic p0.x1, ic p0.x2, ic p0.x3, ic p0.x4, ic p0.x5, ic p0.x6, ic p0.x7]), (0, iv 0)] 16) (fun (v1 : Int) => [.box [ic v1, ic p0.x1, ic p0.x2, ic p0.x3, ic p0.x4, ic p0.x5, ic p0.x6, ic p0.x7], .box [ic p1.x0, ic p1.x1, ic p1.x2, ic p1.x3, ic p1.x4, ic p1.x5, ic p1.x6, ic p1.x7], .box [ic 0, ic 0, ic 0, ic 0, ic 0, ic 0, ic 0, ic 0]])
  · intro tl1
    (repeat ((conv => whnf); first | refine ⟨by kernel_rfl, ?_⟩)); (conv => whnf)
    refine br_some h (fun c23 g => ?_) (fun c23 g => ?_)
    · replace h := g
      clear g
      (repeat ((conv => whnf); first | refine ⟨by kernel_rfl, ?_⟩ | refine bct c23 ?_)); (conv => whnf)
      exact tl1.h 0 h
    · replace h := g
      clear g
      (repeat ((conv => whnf); first | refine ⟨by kernel_rfl, ?_⟩ | refine bcf c23 ?_)); (conv => whnf)
      refine br_some h (fun c24 g => ?_) (fun c24 g => ?_)
      · replace h := g
        clear g
        (repeat ((conv => whnf); first | refine ⟨by kernel_rfl, ?_⟩ | refine bct c24 ?_)); (conv => whnf)
        exact tl1.h 0 h
      · replace h := g
        clear g
        (repeat ((conv => whnf); first | refine ⟨by kernel_rfl, ?_⟩ | refine bcf c24 ?_)); (conv => whnf)
        exact tl1.h p0.x0 h
  · intro v1 h
    unfold know_beyond_j1 at h
    refine rest_intro hX ?_
    (repeat ((conv => whnf); first | refine ⟨by kernel_rfl, ?_⟩)); (conv => whnf)
    refine loop_intro hX ?_
    apply join1 (X := X) (r := r) (fun (v2 : Int) => pad [(2, .one (.ptr 0 0)), (0, .one (.ptr 1 0)), (0, .one (.ptr 2 0)), (2, .agg [ic p0.x0, ic p0.x1, ic p0.x2, ic p0.x3, ic p0.x4, ic p0.x5, ic p0.x6, ic p0.x7]), (0, iv 1)] 16) (fun (v2 : Int) => [.box [ic v1, ic v2, ic p0.x2, ic p0.x3, ic p0.x4, ic p0.x5, ic p0.x6, ic p0.x7], .box [ic p1.x0, ic p1.x1, ic p1.x2, ic p1.x3, ic p1.x4, ic p1.x5, ic p1.x6, ic p1.x7], .box [ic 0, ic 0, ic 0, ic 0, ic 0, ic 0, ic 0, ic 0]])
    · intro tl2
      (repeat ((conv => whnf); first | refine ⟨by kernel_rfl, ?_⟩)); (conv => whnf)
      refine br_some h (fun c21 g => ?_) (fun c21 g => ?_)
      · replace h := g
        clear g
        (repeat ((conv => whnf); first | refine ⟨by kernel_rfl, ?_⟩ | refine bct c21 ?_)); (conv => whnf)
        exact tl2.h 0 h
      · replace h := g
        clear g
        (repeat ((conv => whnf); first | refine ⟨by kernel_rfl, ?_⟩ | refine bcf c21 ?_)); (conv => whnf)
        refine br_some h (fun c22 g => ?_) (fun c22 g => ?_)
        · replace h := g
          clear g
          (repeat ((conv => whnf); first | refine ⟨by kernel_rfl, ?_⟩ | refine bct c22 ?_)); (conv => whnf)
          exact tl2.h 0 h
        · replace h := g
          clear g
          (repeat ((conv => whnf); first | refine ⟨by kernel_rfl, ?_⟩ | refine bcf c22 ?_)); (conv => whnf)
          exact tl2.h p0.x1 h
    · intro v2 h
      unfold know_beyond_j2 at h
      refine rest_intro hX ?_
      (repeat ((conv => whnf); first | refine ⟨by kernel_rfl, ?_⟩)); (conv => whnf)
      refine loop_intro hX ?_
      apply join1 (X := X) (r := r) (fun (v3 : Int) => pad [(2, .one (.ptr 0 0)), (0, .one (.ptr 1 0)), (0, .one (.ptr 2 0)), (2, .agg [ic p0.x0, ic p0.x1, ic p0.x2, ic p0.x3, ic p0.x4, ic p0.x5, ic p0.x6, ic p0.x7]), (0, iv 2)] 16) (fun (v3 : Int) => [.box [ic v1, ic v2, ic v3, ic p0.x3, ic p0.x4, ic p0.x5, ic p0.x6, ic p0.x7], .box [ic p1.x0, ic p1.x1, ic p1.x2, ic p1.x3, ic p1.x4, ic p1.x5, ic p1.x6, ic p1.x7], .box [ic 0, ic 0, ic 0, ic 0, ic 0, ic 0, ic 0, ic 0]])
      · intro tl3
        (repeat ((conv => whnf); first | refine ⟨by kernel_rfl, ?_⟩)); (conv => whnf)
        refine br_some h (fun c19 g => ?_) (fun c19 g => ?_)
        · replace h := g
          clear g
          (repeat ((conv => whnf); first | refine ⟨by kernel_rfl, ?_⟩ | refine bct c19 ?_)); (conv => whnf)
          exact tl3.h 0 h
        · replace h := g
          clear g
          (repeat ((conv => whnf); first | refine ⟨by kernel_rfl, ?_⟩ | refine bcf c19 ?_)); (conv => whnf)
          refine br_some h (fun c20 g => ?_) (fun c20 g => ?_)
          · replace h := g
            clear g
            (repeat ((conv => whnf); first | refine ⟨by kernel_rfl, ?_⟩ | refine bct c20 ?_)); (conv => whnf)
            exact tl3.h 0 h
          · replace h := g
            clear g
            (repeat ((conv => whnf); first | refine ⟨by kernel_rfl, ?_⟩ | refine bcf c20 ?_)); (conv => whnf)
            exact tl3.h p0.x2 h
      · intro v3 h
        unfold know_beyond_j3 at h
        refine rest_intro hX ?_
        (repeat ((conv => whnf); first | refine ⟨by kernel_rfl, ?_⟩)); (conv => whnf)
        refine loop_intro hX ?_
        apply join1 (X := X) (r := r) (fun (v4 : Int) => pad [(2, .one (.ptr 0 0)), (0, .one (.ptr 1 0)), (0, .one (.ptr 2 0)), (2, .agg [ic p0.x0, ic p0.x1, ic p0.x2, ic p0.x3, ic p0.x4, ic p0.x5, ic p0.x6, ic p0.x7]), (0, iv 3)] 16) (fun (v4 : Int) => [.box [ic v1, ic v2, ic v3, ic v4, ic p0.x4, ic p0.x5, ic p0.x6, ic p0.x7], .box [ic p1.x0, ic p1.x1, ic p1.x2, ic p1.x3, ic p1.x4, ic p1.x5, ic p1.x6, ic p1.x7], .box [ic 0, ic 0, ic 0, ic 0, ic 0, ic 0, ic 0, ic 0]])
        · intro tl4
          (repeat ((conv => whnf); first | refine ⟨by kernel_rfl, ?_⟩)); (conv => whnf)
          refine br_some h (fun c17 g => ?_) (fun c17 g => ?_)
          · replace h := g
            clear g
            (repeat ((conv => whnf); first | refine ⟨by kernel_rfl, ?_⟩ | refine bct c17 ?_)); (conv => whnf)
            exact tl4.h 0 h
          · replace h := g
            clear g
            (repeat ((conv => whnf); first | refine ⟨by kernel_rfl, ?_⟩ | refine bcf c17 ?_)); (conv => whnf)
            refine br_some h (fun c18 g => ?_) (fun c18 g => ?_)
            · replace h := g
              clear g
              (repeat ((conv => whnf); first | refine ⟨by kernel_rfl, ?_⟩ | refine bct c18 ?_)); (conv => whnf)
              exact tl4.h 0 h
            · replace h := g
              clear g
              (repeat ((conv => whnf); first | refine ⟨by kernel_rfl, ?_⟩ | refine bcf c18 ?_)); (conv => whnf)
              exact tl4.h p0.x3 h
        · intro v4 h
          unfold know_beyond_j4 at h
          refine rest_intro hX ?_
          (repeat ((conv => whnf); first | refine ⟨by kernel_rfl, ?_⟩)); (conv => whnf)
          refine loop_intro hX ?_
          apply join1 (X := X) (r := r) (fun (v5 : Int) => pad [(2, .one (.ptr 0 0)), (0, .one (.ptr 1 0)), (0, .one (.ptr 2 0)), (2, .agg [ic p0.x0, ic p0.x1, ic p0.x2, ic p0.x3, ic p0.x4, ic p0.x5, ic p0.x6, ic p0.x7]), (0, iv 4)] 16) (fun (v5 : Int) => [.box [ic v1, ic v2, ic v3, ic v4, ic v5, ic p0.x5, ic p0.x6, ic p0.x7], .box [ic p1.x0, ic p1.x1, ic p1.x2, ic p1.x3, ic p1.x4, ic p1.x5, ic p1.x6, ic p1.x7], .box [ic 0, ic 0, ic 0, ic 0, ic 0, ic 0, ic 0, ic 0]])
          · intro tl5
            (repeat ((conv => whnf); first | refine ⟨by kernel_rfl, ?_⟩)); (conv => whnf)
            refine br_some h (fun c15 g => ?_) (fun c15 g => ?_)
            · replace h := g
              clear g
              (repeat ((conv => whnf); first | refine ⟨by kernel_rfl, ?_⟩ | refine bct c15 ?_)); (conv => whnf)
              exact tl5.h 0 h
            · replace h := g
              clear g
              (repeat ((conv => whnf); first | refine ⟨by kernel_rfl, ?_⟩ | refine bcf c15 ?_)); (conv => whnf)
              refine br_some h (fun c16 g => ?_) (fun c16 g => ?_)
              · replace h := g
                clear g
                (repeat ((conv => whnf); first | refine ⟨by kernel_rfl, ?_⟩ | refine bct c16 ?_)); (conv => whnf)
                exact tl5.h 0 h
              · replace h := g
                clear g
                (repeat ((conv => whnf); first | refine ⟨by kernel_rfl, ?_⟩ | refine bcf c16 ?_)); (conv => whnf)
                exact tl5.h p0.x4 h
          · intro v5 h
            unfold know_beyond_j5 at h
            refine rest_intro hX ?_
            (repeat ((conv => whnf); first | refine ⟨by kernel_rfl, ?_⟩)); (conv => whnf)
            refine loop_intro hX ?_
            apply join1 (X := X) (r := r) (fun (v6 : Int) => pad [(2, .one (.ptr 0 0)), (0, .one (.ptr 1 0)), (0, .one (.ptr 2 0)), (2, .agg [ic p0.x0, ic p0.x1, ic p0.x2, ic p0.x3, ic p0.x4, ic p0.x5, ic p0.x6, ic p0.x7]), (0, iv 5)] 16) (fun (v6 : Int) => [.box [ic v1, ic v2, ic v3, ic v4, ic v5, ic v6, ic p0.x6, ic p0.x7], .box [ic p1.x0, ic p1.x1, ic p1.x2, ic p1.x3, ic p1.x4, ic p1.x5, ic p1.x6, ic p1.x7], .box [ic 0, ic 0, ic 0, ic 0, ic 0, ic 0, ic 0, ic 0]])
            · intro tl6
              (repeat ((conv => whnf); first | refine ⟨by kernel_rfl, ?_⟩)); (conv => whnf)
              refine br_some h (fun c13 g => ?_) (fun c13 g => ?_)
              · replace h := g
                clear g
                (repeat ((conv => whnf); first | refine ⟨by kernel_rfl, ?_⟩ | refine bct c13 ?_)); (conv => whnf)
                exact tl6.h 0 h
              · replace h := g
                clear g
                (repeat ((conv => whnf); first | refine ⟨by kernel_rfl, ?_⟩ | refine bcf c13 ?_)); (conv => whnf)
                refine br_some h (fun c14 g => ?_) (fun c14 g => ?_)
                · replace h := g
                  clear g
                  (repeat ((conv => whnf); first | refine ⟨by kernel_rfl, ?_⟩ | refine bct c14 ?_)); (conv => whnf)
                  exact tl6.h 0 h
                · replace h := g
                  clear g
                  (repeat ((conv => whnf); first | refine ⟨by kernel_rfl, ?_⟩ | refine bcf c14 ?_)); (conv => whnf)
                  exact tl6.h p0.x5 h
            · intro v6 h
              unfold know_beyond_j6 at h
              refine rest_intro hX ?_
              (repeat ((conv => whnf); first | refine ⟨by kernel_rfl, ?_⟩)); (conv => whnf)
              refine loop_intro hX ?_
              apply join1 (X := X) (r := r) (fun (v7 : Int) => pad [(2, .one (.ptr 0 0)), (0, .one (.ptr 1 0)), (0, .one (.ptr 2 0)), (2, .agg [ic p0.x0, ic p0.x1, ic p0.x2, ic p0.x3, ic p0.x4, ic p0.x5, ic p0.x6, ic p0.x7]), (0, iv 6)] 16) (fun (v7 : Int) => [.box [ic v1, ic v2, ic v3, ic v4, ic v5, ic v6, ic v7, ic p0.x7], .box [ic p1.x0, ic p1.x1, ic p1.x2, ic p1.x3, ic p1.x4, ic p1.x5, ic p1.x6, ic p1.x7], .box [ic 0, ic 0, ic 0, ic 0, ic 0, ic 0, ic 0, ic 0]])
              · intro tl7
                (repeat ((conv => whnf); first | refine ⟨by kernel_rfl, ?_⟩)); (conv => whnf)
                refine br_some h (fun c11 g => ?_) (fun c11 g => ?_)
                · replace h := g
                  clear g
                  (repeat ((conv => whnf); first | refine ⟨by kernel_rfl, ?_⟩ | refine bct c11 ?_)); (conv => whnf)
                  exact tl7.h 0 h
                · replace h := g
                  clear g
                  (repeat ((conv => whnf); first | refine ⟨by kernel_rfl, ?_⟩ | refine bcf c11 ?_)); (conv => whnf)
                  refine br_some h (fun c12 g => ?_) (fun c12 g => ?_)
                  · replace h := g
                    clear g
                    (repeat ((conv => whnf); first | refine ⟨by kernel_rfl, ?_⟩ | refine bct c12 ?_)); (conv => whnf)
                    exact tl7.h 0 h
                  · replace h := g
                    clear g
                    (repeat ((conv => whnf); first | refine ⟨by kernel_rfl, ?_⟩ | refine bcf c12 ?_)); (conv => whnf)
                    exact tl7.h p0.x6 h
              · intro v7 h
                unfold know_beyond_j7 at h
                refine rest_intro hX ?_
                (repeat ((conv => whnf); first | refine ⟨by kernel_rfl, ?_⟩)); (conv => whnf)
                refine loop_intro hX ?_
                apply join1 (X := X) (r := r) (fun (v8 : Int) => pad [(2, .one (.ptr 0 0)), (0, .one (.ptr 1 0)), (0, .one (.ptr 2 0)), (2, .agg [ic p0.x0, ic p0.x1, ic p0.x2, ic p0.x3, ic p0.x4, ic p0.x5, ic p0.x6, ic p0.x7]), (0, iv 7)] 16) (fun (v8 : Int) => [.box [ic v1, ic v2, ic v3, ic v4, ic v5, ic v6, ic v7, ic v8], .box [ic p1.x0, ic p1.x1, ic p1.x2, ic p1.x3, ic p1.x4, ic p1.x5, ic p1.x6, ic p1.x7], .box [ic 0, ic 0, ic 0, ic 0, ic 0, ic 0, ic 0, ic 0]])
                · intro tl8
                  (repeat ((conv => whnf); first | refine ⟨by kernel_rfl, ?_⟩)); (conv => whnf)
                  refine br_some h (fun c9 g => ?_) (fun c9 g => ?_)
                  · replace h := g
                    clear g
                    (repeat ((conv => whnf); first | refine ⟨by kernel_rfl, ?_⟩ | refine bct c9 ?_)); (conv => whnf)
                    exact tl8.h 0 h
                  · replace h := g
                    clear g
                    (repeat ((conv => whnf); first | refine ⟨by kernel_rfl, ?_⟩ | refine bcf c9 ?_)); (conv => whnf)
                    refine br_some h (fun c10 g => ?_) (fun c10 g => ?_)
                    · replace h := g
                      clear g
                      (repeat ((conv => whnf); first | refine ⟨by kernel_rfl, ?_⟩ | refine bct c10 ?_)); (conv => whnf)
                      exact tl8.h 0 h
                    · replace h := g
                      clear g
                      (repeat ((conv => whnf); first | refine ⟨by kernel_rfl, ?_⟩ | refine bcf c10 ?_)); (conv => whnf)
                      exact tl8.h p0.x7 h
                · intro v8 h
                  unfold know_beyond_j8 at h
                  refine rest_intro hX ?_
                  (repeat ((conv => whnf); first | refine ⟨by kernel_rfl, ?_⟩)); (conv => whnf)
                  refine loop_intro hX ?_
                  (repeat ((conv => whnf); first | refine ⟨by kernel_rfl, ?_⟩)); (conv => whnf)
                  exact ret_some (f := fun y => .agg [ic y.x0, ic y.x1, ic y.x2, ic y.x3, ic y.x4, ic y.x5, ic y.x6, ic y.x7]) (g := fun y => []) h hQ
def know_alike_l2 (x4 : Frag) (k1 : Option (Bool)) : List ByteArray → Int → Option (Bool)
  | [], v8 =>
    (k1 )
  | x2e :: xs2, v8 =>
    (bnd (atL x4.ids v8) fun x9 =>
      (br (!eqS x2e x9)
        (some false)
        (know_alike_l2 x4 k1 xs2 (v8 + 1) )))
def know_alike_l1 (p1 : Know) : List Frag → Int → Option (Bool)
  | [], v3 =>
    some true
  | x1e :: xs1, v3 =>
    (bnd (atL p1.l v3) fun x4 =>
      (br (eq8 x1e.vec x4.vec)
        (br (!eqI (x1e.ids.length : Int) (x4.ids.length : Int))
          (some false)
          (chk (smallL x1e.ids)
            ((know_alike_l2 x4 (know_alike_l1 p1 xs1 (v3 + 1))) x1e.ids 0 )))
        (some false)))
def know_alike_s (p0 : Know) (p1 : Know) : Option (Bool) :=
  (br (eq8 p0.star p1.star)
    (br (!eqI (p0.l.length : Int) (p1.l.length : Int))
      (some false)
      (chk (smallL p0.l)
        ((know_alike_l1 p1) p0.l 0 )))
    (some false))
attribute [local irreducible] andB eqI in
theorem know_alike_c {X : Task → Prop} (hX : Closed X) {p0 : Know} {p1 : Know} {r : Bool} {Q : A → List Blk → Prop} (h : know_alike_s p0 p1 = some r) (hQ : Q (.one (.p (.v (.bool r)))) []) : X (.call 111 [.agg [ic p0.star.x0, ic p0.star.x1, ic p0.star.x2, ic p0.star.x3, ic p0.star.x4, ic p0.star.x5, ic p0.star.x6, ic p0.star.x7, .p (.sl (p0.l.map Frag.row))], .agg [ic p1.star.x0, ic p1.star.x1, ic p1.star.x2, ic p1.star.x3, ic p1.star.x4, ic p1.star.x5, ic p1.star.x6, ic p1.star.x7, .p (.sl (p1.l.map Frag.row))]] [] Q) := by
  unfold know_alike_s at h
  refine call_intro hX Try.func111 rfl rfl ?_
  (repeat ((conv => whnf); first | refine ⟨by kernel_rfl, ?_⟩)); (conv => whnf)
  refine br_some h (fun c1 g => ?_) (fun c1 g => ?_)
  · replace h := g
    clear g
    (repeat ((conv => whnf); first | refine ⟨by kernel_rfl, ?_⟩ | refine bct (eq8_b c1) ?_)); (conv => whnf)
    refine call_intro hX Try.func153 rfl rfl ?_
    (repeat ((conv => whnf); first | refine ⟨by kernel_rfl, ?_⟩ | refine eqv_to (map_len _) ?_)); (conv => whnf)
    refine br_some h (fun c2 g => ?_) (fun c2 g => ?_)
    · replace h := g
      clear g
      (repeat ((conv => whnf); first | refine ⟨by kernel_rfl, ?_⟩ | refine bct c2 ?_ | refine bct (eq8_b c1) ?_)); (conv => whnf)
      exact ret_some (f := fun y => .one (.p (.v (.bool y)))) (g := fun y => []) h hQ
    · replace h := g
      clear g
      replace h := chk_some h
      obtain ⟨hs1, h⟩ := h
      (repeat ((conv => whnf); first | refine ⟨by kernel_rfl, ?_⟩ | refine bcf c2 ?_ | refine eqv_to (map_len _) ?_)); (conv => whnf)
      refine loop_list0 (fun (v3 : Int) => pad [(1, .one (.p (.sl (p1.l.map Frag.row)))), (0, .one (.fn 154 [])), (12, .one (.p (.sl (p0.l.map Frag.row)))), (0, iv (p0.l.length : Int)), (0, iv v3)] 14) (fun (v3 : Int) => []) _ p0.l (fun pre1 x1e xs1 v3  hl1 hi1 h ih1 => ?_) (fun v3  hi1 h => ?_)  h
      · rw [know_alike_l1] at h
        have am1 := at_mid hl1 hi1
        refine loop_intro hX ?_
        replace h := bnd_some h
        obtain ⟨x4, a5, h⟩ := h
        (repeat ((conv => whnf); first | refine ⟨by kernel_rfl, ?_⟩ | refine bct (lt_mid hl1 hi1) ?_ | refine bct (at_in am1) ?_ | refine bct (andt (at_in am1) rfl) ?_ | refine row_in (at_row am1) ?_ | refine bct (andt (at_in (at_nat am1)) rfl) ?_ | refine row_in (at_row (at_nat am1)) ?_ | refine bct (at_in a5) ?_ | refine bct (andt (at_in a5) rfl) ?_ | refine row_in (at_row a5) ?_ | refine bct (andt (at_in (at_nat a5)) rfl) ?_ | refine row_in (at_row (at_nat a5)) ?_)); (conv => whnf)
        refine call_intro hX Try.func154 rfl rfl ?_
        (repeat ((conv => whnf); first | refine ⟨by kernel_rfl, ?_⟩)); (conv => whnf)
        refine br_some h (fun c6 g => ?_) (fun c6 g => ?_)
        · replace h := g
          clear g
          (repeat ((conv => whnf); first | refine ⟨by kernel_rfl, ?_⟩ | refine bct (eq8_b c6) ?_)); (conv => whnf)
          refine call_intro hX Try.func155 rfl rfl ?_
          (repeat ((conv => whnf); first | refine ⟨by kernel_rfl, ?_⟩ | refine eqv_to (map_len _) ?_)); (conv => whnf)
          refine br_some h (fun c7 g => ?_) (fun c7 g => ?_)
          · replace h := g
            clear g
            (repeat ((conv => whnf); first | refine ⟨by kernel_rfl, ?_⟩ | refine bct c7 ?_ | refine bct (eq8_b c6) ?_ | refine bct (eq8_b c1) ?_)); (conv => whnf)
            exact ret_some (f := fun y => .one (.p (.v (.bool y)))) (g := fun y => []) h hQ
          · replace h := g
            clear g
            replace h := chk_some h
            obtain ⟨hs2, h⟩ := h
            (repeat ((conv => whnf); first | refine ⟨by kernel_rfl, ?_⟩ | refine bcf c7 ?_ | refine eqv_to (map_len _) ?_)); (conv => whnf)
            refine loop_list0 (fun (v8 : Int) => pad [(0, .one (.p (.sl (x1e.ids.map srw)))), (0, .one (.p (.sl (x4.ids.map srw)))), (10, iv (x1e.ids.length : Int)), (0, iv v8)] 12) (fun (v8 : Int) => []) _ x1e.ids (fun pre2 x2e xs2 v8  hl2 hi2 h ih2 => ?_) (fun v8  hi2 h => ?_)  h
            · rw [know_alike_l2] at h
              have am2 := at_mid hl2 hi2
              refine loop_intro hX ?_
              replace h := bnd_some h
              obtain ⟨x9, a10, h⟩ := h
              (repeat ((conv => whnf); first | refine ⟨by kernel_rfl, ?_⟩ | refine bct (lt_mid hl2 hi2) ?_ | refine bct (at_in am2) ?_ | refine bct (andt (at_in am2) rfl) ?_ | refine row_in (at_row am2) ?_ | refine bct (andt (at_in (at_nat am2)) rfl) ?_ | refine row_in (at_row (at_nat am2)) ?_ | refine bct (at_in a10) ?_ | refine bct (andt (at_in a10) rfl) ?_ | refine row_in (at_row a10) ?_ | refine bct (andt (at_in (at_nat a10)) rfl) ?_ | refine row_in (at_row (at_nat a10)) ?_)); (conv => whnf)
              refine br_some h (fun c11 g => ?_) (fun c11 g => ?_)
              · replace h := g
                clear g
                (repeat ((conv => whnf); first | refine ⟨by kernel_rfl, ?_⟩ | refine bct c11 ?_ | refine bct (eq8_b c6) ?_ | refine bct (eq8_b c1) ?_)); (conv => whnf)
                exact ret_some (f := fun y => .one (.p (.v (.bool y)))) (g := fun y => []) h hQ
              · replace h := g
                clear g
                (repeat ((conv => whnf); first | refine ⟨by kernel_rfl, ?_⟩ | refine bcf c11 ?_)); (conv => whnf)
                exact ih2 _  (wrL hs2 hl2 hi2) h
            · rw [know_alike_l2] at h
              refine loop_intro hX ?_
              (repeat ((conv => whnf); first | refine ⟨by kernel_rfl, ?_⟩ | refine bcf (lt_end hi2) ?_ | refine bct (eq8_b c6) ?_)); (conv => whnf)
              exact ih1 _  (wrL hs1 hl1 hi1) h
        · replace h := g
          clear g
          (repeat ((conv => whnf); first | refine ⟨by kernel_rfl, ?_⟩ | refine bcf (eq8_b c6) ?_ | refine bct (eq8_b c1) ?_)); (conv => whnf)
          exact ret_some (f := fun y => .one (.p (.v (.bool y)))) (g := fun y => []) h hQ
      · rw [know_alike_l1] at h
        refine loop_intro hX ?_
        (repeat ((conv => whnf); first | refine ⟨by kernel_rfl, ?_⟩ | refine bcf (lt_end hi1) ?_ | refine bct (eq8_b c1) ?_)); (conv => whnf)
        exact ret_some (f := fun y => .one (.p (.v (.bool y)))) (g := fun y => []) h hQ
  · replace h := g
    clear g
    (repeat ((conv => whnf); first | refine ⟨by kernel_rfl, ?_⟩ | refine bcf (eq8_b c1) ?_)); (conv => whnf)
    exact ret_some (f := fun y => .one (.p (.v (.bool y)))) (g := fun y => []) h hQ
end
end Go.Proofs.Ytijkfjahgijphaa
