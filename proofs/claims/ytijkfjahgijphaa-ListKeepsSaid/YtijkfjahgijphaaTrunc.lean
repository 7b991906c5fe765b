/- math.Trunc: its contract, from its extern. -/
import Derived.Test.YtijkfjahgijphaaBase
import Derived.Laws.Externs
import Derived.Tactics2
set_option linter.unusedVariables false
set_option linter.unusedSimpArgs false
set_option maxRecDepth 100000
set_option maxHeartbeats 4000000
namespace Go.Proofs.Ytijkfjahgijphaa
open Go E Go.RowKit
theorem run_trunc {P : Program} (x : Nat) (w : World) (h : notNaN x = true) : (Extern.MathFloor.toIntegral "math.archTrunc" .zero #[.float .f64 x]).run P w = .ok (.float .f64 (trW x)) w := by
  unfold notNaN at h
  have e : FloatKind.f64.decode x = Ieee.double.read x := rfl
  rw [← e] at h
  have key : ∀ d, FloatKind.f64.decode x = d → (match d with | .nan _ _ => false | _ => true) = true → (Extern.MathFloor.toIntegral "math.archTrunc" .zero #[.float .f64 x]).run P w = .ok (.float .f64 (FloatKind.f64.encode (d.integral .zero))) w := by
    intro d hd hn
    delta Extern.MathFloor.toIntegral
    conv => lhs; arg 2; whnf
    rw [hd]
    cases d with
    | nan s t => cases hn
    | number s m i => rfl
    | infinity s => rfl
  exact key _ rfl h
theorem trunc_calls (x : Nat) (w : World) (h : notNaN x = true) : Calls Try.prog 172 #[.float .f64 x] w fun e w' => e = .returned (.float .f64 (trW x)) ∧ w' = w := by
  have h114 := fun args w => @run_callFunc_extern Try.prog 185 _ (Extern.MathFloor.toIntegral "math.archTrunc" .zero) Try.func185 (by kernel_rfl) (by kernel_rfl) (by kernel_rfl) (by kernel_rfl) args w
  have ht := fun w => run_trunc (P := Try.prog) x w h
  go_enter Try.func172, Try.ntmps172
  go_wp2
  go_ret
  exact ⟨rfl, rfl⟩
theorem trunc_ok (x : Nat) (h : notNaN x = true) : CallOk Try.prog 172 [.one (.p (.v (.float .f64 x)))] [] (.one (.p (.v (.float .f64 (trW x))))) [] := by
  refine ⟨⟨_, _, Try.func172, rfl, rfl⟩, fun w S inj vs hv hi hf => ?_⟩
  cases hv with
  | cons h1 hr =>
    cases hr
    obtain ⟨rfl, _⟩ := h1.flatv
    refine (trunc_calls x w h).mono ?_
    rintro e w' ⟨rfl, rfl⟩
    exact ⟨_, S, inj, rfl, ⟨Grow.refl _ _, Le.refl _, fun b hb _ => hb, .ofv rfl, hi⟩⟩
theorem trunc_call {X : Task → Prop} (hX : Closed X) {x : Nat} {Q : A → List Blk → Prop} (h : notNaN x = true) (hQ : Q (fv (trW x)) []) : X (.call 172 [fv x] [] Q) := prim_intro hX (trunc_ok x h) hQ
end Go.Proofs.Ytijkfjahgijphaa
