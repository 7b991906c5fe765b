/- math.Trunc: its contract, from its extern. -/
import Derived.Test.YtijkfjahgijphaaBase
import Derived.Test.YtijkfjahgijphaaClone
import Derived.Test.YtijkfjahgijphaaEvF
import Derived.Laws.Externs
import Derived.Tactics2
set_option linter.unusedVariables false
set_option linter.unusedSimpArgs false
set_option maxRecDepth 100000
set_option maxHeartbeats 4000000
namespace Go.Proofs.Ytijkfjahgijphaa
open Go E Go.RowKit
theorem run_trunc {P : Program} (x : Nat) (w : World) (h : notNaN x = true) : (Extern.MathFloor.toIntegral "math.archTrunc" .zero #[.float .f64 x]).run P w = .ok (.float .f64 (trW x)) w := by
  unfold notNaN at h
  have e : FloatKind.f64.decode x = Ieee.double.read x := rfl
  rw [← e] at h
  have key : ∀ d, FloatKind.f64.decode x = d → (match d with | .nan _ _ => false | _ => true) = true → (Extern.MathFloor.toIntegral "math.archTrunc" .zero #[.float .f64 x]).run P w = .ok (.float .f64 (FloatKind.f64.encode (d.integral .zero))) w := by
    intro d hd hn
    delta Extern.MathFloor.toIntegral
    conv => lhs; arg 2; whnf
    rw [hd]
    cases d with
    | nan s t => cases hn
    | number s m i => rfl
    | infinity s => rfl
  exact key _ rfl h
theorem trunc_calls (x : Nat) (w : World) (h : notNaN x = true) : Calls Try.prog 172 #[.float .f64 x] w fun e w' => e = .returned (.float .f64 (trW x)) ∧ w' = w := by
  have h114 := fun args w => @run_callFunc_extern Try.prog 185 _ (Extern.MathFloor.toIntegral "math.archTrunc" .zero) Try.func185 (by kernel_rfl) (by kernel_rfl) (by kernel_rfl) (by kernel_rfl) args w
  have ht := fun w => run_trunc (P := Try.prog) x w h
  go_enter Try.func172, Try.ntmps172
  go_wp2
  go_ret
  exact ⟨rfl, rfl⟩
theorem trunc_ok (x : Nat) (h : notNaN x = true) : CallOk Try.prog 172 [.one (.p (.v (.float .f64 x)))] [] (.one (.p (.v (.float .f64 (trW x))))) [] := by
  refine ⟨⟨_, _, Try.func172, rfl, rfl⟩, fun w S inj vs hv hi hf => ?_⟩
  cases hv with
  | cons h1 hr =>
    cases hr
    obtain ⟨rfl, _⟩ := h1.flatv
    refine (trunc_calls x w h).mono ?_
    rintro e w' ⟨rfl, rfl⟩
    exact ⟨_, S, inj, rfl, ⟨Grow.refl _ _, Le.refl _, fun b hb _ => hb, .ofv rfl, hi⟩⟩
theorem prim_ok : ∀ f xs σ r σ', prim f xs σ r σ' → CallOk Try.prog f xs σ r σ' := by
  rintro f xs σ r σ' (⟨rfl, rfl, x, rfl, rfl, rfl, h⟩ | ⟨rfl, rfl, l, k, hf, rfl, rfl, hl, hn⟩)
  · exact trunc_ok x h
  · exact clone_ok hf hl hn
/-! ### facts of the program; arguments by their types -/
theorem all_lt {ts : List Nat} {n : Nat} (h : (ts.all fun t => decide (t < n)) = true) : ∀ t ∈ ts, t < n := fun t ht => of_decide_eq_true (List.all_eq_true.1 h t ht)
theorem all_rd {P : Program} {ts : List Nat} (h : (ts.all fun t => P.readableRec t) = true) : ∀ t ∈ ts, P.readableRec t = true := List.all_eq_true.1 h
theorem ownNone : ownKnob Try.prog.godebug = none := by kernel_rfl
theorem laidOut : laidOutB Try.prog = true := by kernel_rfl
theorem mixedF : Try.prog.follows .mixedOrders = true := by kernel_rfl
theorem cellsInt : Try.prog.cellsOf 3 = 1 := by kernel_rfl
theorem cellsBool : Try.prog.cellsOf 4 = 1 := by kernel_rfl
theorem cellsFlt : Try.prog.cellsOf 22 = 1 := by kernel_rfl
theorem shInt (n : Nat) : ShOk Try.prog n 3 (.int .i64) := .int Try.underlying3
theorem shBool (n : Nat) : ShOk Try.prog n 4 .bool := .bool Try.underlying4
theorem shFlt (n : Nat) : ShOk Try.prog n 22 (.flt .f64) := .flt Try.underlying22
theorem sound_ok : Closed (TaskOk Try.prog) := sound T_ok mixedF prim_ok
theorem i64_of {n : Int} (h : (Lit.int .i64 n).wf = true) : -9223372036854775808 ≤ n ∧ n ≤ 9223372036854775807 := by
  simp only [Lit.wf, Bool.and_eq_true, decide_eq_true_eq] at h
  exact ⟨by simpa [IntKind.min, IntKind.signed, IntKind.bits] using h.1, by simpa [IntKind.max, IntKind.signed, IntKind.bits] using h.2⟩
end Go.Proofs.Ytijkfjahgijphaa
