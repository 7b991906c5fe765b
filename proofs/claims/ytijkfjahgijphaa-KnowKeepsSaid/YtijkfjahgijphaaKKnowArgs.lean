/- What is known, and versions, as arguments of laws. -/
import Derived.Test.YtijkfjahgijphaaKListArgs
import Derived.Test.YtijkfjahgijphaaKKnowSpec2
set_option linter.unusedVariables false
set_option linter.unusedSimpArgs false
set_option maxRecDepth 100000
set_option maxHeartbeats 4000000
namespace Go.Proofs.Ytijkfjahgijphaa
open Go E Go.ChangeShapes Go.WideShapes Go.ChangeAt Go.RowKit
theorem cellsStrs : Try.prog.cellsOf 139 = 1 := by kernel_rfl
theorem cellsVec : Try.prog.cellsOf 28 = 8 := by kernel_rfl
theorem cellsFrag : Try.prog.cellsOf 141 = 9 := by kernel_rfl
theorem cellsFrags : Try.prog.cellsOf 29 = 1 := by kernel_rfl
theorem cellsKnow : Try.prog.cellsOf 31 = 9 := by kernel_rfl
theorem shStrs : ∀ n, ShOk Try.prog n 139 (.sl .str)
  | 0 => .zero
  | n + 1 => .sl Try.underlying139 cellsStr (by decide) (shStr n)
theorem shVec : ∀ n, ShOk Try.prog n 28 (repS (.int .i64) 8)
  | 0 => .zero
  | n + 1 => .arr (s := .int .i64) Try.underlying28 cellsInt cellsVec (shInt n) rfl
abbrev fragSh : Sh := .cat (.sl .str) (.cat (repS (.int .i64) 8) .nil)
theorem shFrag : ∀ n, ShOk Try.prog n 141 fragSh
  | 0 => .zero
  | n + 1 => .struct Try.underlying141 cellsFrag (.cons rfl cellsStrs (shStrs n) (.cons rfl cellsVec (shVec n) .nil))
theorem shFrags : ∀ n, ShOk Try.prog n 29 (.sl fragSh)
  | 0 => .zero
  | n + 1 => .sl Try.underlying29 cellsFrag (by decide) (shFrag n)
abbrev knowSh : Sh := .cat (repS (.int .i64) 8) (.cat (.sl fragSh) .nil)
theorem shKnow : ∀ n, ShOk Try.prog n 31 knowSh
  | 0 => .zero
  | n + 1 => .struct Try.underlying31 cellsKnow (.cons rfl cellsVec (shVec n) (.cons rfl cellsFrags (shFrags n) .nil))
theorem fits_v8 {l : List PC} (h : Fits (repS (.int .i64) 8) l) : ∃ v : V8, l = v.row := by
  obtain ⟨_, _, rfl, ⟨x0, rfl, w0⟩, _, _, rfl, ⟨x1, rfl, w1⟩, _, _, rfl, ⟨x2, rfl, w2⟩, _, _, rfl, ⟨x3, rfl, w3⟩, _, _, rfl, ⟨x4, rfl, w4⟩, _, _, rfl, ⟨x5, rfl, w5⟩, _, _, rfl, ⟨x6, rfl, w6⟩, _, _, rfl, ⟨x7, rfl, w7⟩, rfl⟩ := h
  exact ⟨⟨x0, x1, x2, x3, x4, x5, x6, x7⟩, rfl⟩
theorem fits_strs {l : List PC} (h : Fits (.sl .str) l) : ∃ xs : List ByteArray, (∀ x ∈ xs, x.size ≤ 9223372036854775807) ∧ l = [.sl (xs.map srw)] := by
  obtain ⟨rows, rfl, _, hr⟩ := h
  obtain ⟨xs, hx, rfl⟩ := list_of (P := Fits .str) (Ok := fun x : ByteArray => x.size ≤ 9223372036854775807) (f := srw) (fun r ⟨s, e, hs⟩ => ⟨s, Nat.le_trans hs (by decide), e⟩) rows hr
  exact ⟨xs, hx, rfl⟩
theorem fits_frag {l : List PC} (h : Fits fragSh l) : ∃ f : Frag, (∀ x ∈ f.ids, x.size ≤ 9223372036854775807) ∧ l = f.row := by
  obtain ⟨_, _, rfl, h1, _, _, rfl, h2, rfl⟩ := h
  obtain ⟨xs, hx, rfl⟩ := fits_strs h1
  obtain ⟨v, rfl⟩ := fits_v8 h2
  exact ⟨⟨xs, v⟩, hx, by simp⟩
theorem fits_know {l : List PC} (h : Fits knowSh l) : ∃ k : Know, IdsOk k ∧ l = k.row := by
  obtain ⟨_, _, rfl, h1, _, _, rfl, ⟨rows, rfl, _, hr⟩, rfl⟩ := h
  obtain ⟨v, rfl⟩ := fits_v8 h1
  obtain ⟨fs, hf, rfl⟩ := list_of (P := Fits fragSh) (Ok := fun f : Frag => ∀ x ∈ f.ids, x.size ≤ 9223372036854775807) (f := Frag.row) (fun r h => fits_frag h) rows hr
  exact ⟨⟨v, fs⟩, hf, by simp⟩
abbrev Know.la (k : Know) : A := .agg [ic k.star.x0, ic k.star.x1, ic k.star.x2, ic k.star.x3, ic k.star.x4, ic k.star.x5, ic k.star.x6, ic k.star.x7, .p (.sl (k.l.map Frag.row))]
abbrev Ver.la (v : Ver) : A := .agg [ic v.r, ic v.c]
def Ver.Ok (v : Ver) : Prop := (-9223372036854775808 ≤ v.r ∧ v.r ≤ 9223372036854775807) ∧ -9223372036854775808 ≤ v.c ∧ v.c ≤ 9223372036854775807
theorem cellsVer : Try.prog.cellsOf 62 = 2 := by kernel_rfl
abbrev verSh : Sh := .cat (.int .i64) (.cat (.int .i64) .nil)
theorem shVer : ∀ n, ShOk Try.prog n 62 verSh
  | 0 => .zero
  | n + 1 => .struct Try.underlying62 cellsVer (.cons rfl cellsInt (shInt n) (.cons rfl cellsInt (shInt n) .nil))
section
variable {H : Type} {enc : TypeId × Value → H} {W : World} {v : Value} {d : DataW H} {ps : List MemPlace} {b0 : Nat}
theorem arg_know (hv : Value.okWide Try.prog W .any b0 31 v) (h : DataW.Trod enc Try.prog W 0 (fun _ => true) true 31 v d ps) : ∃ k : Know, IdsOk k ∧ VA W (zoneOf W) noLoc k.la v := by
  obtain ⟨_, l, h1, h2⟩ := arg_agg shKnow (.inl ⟨_, Try.underlying31⟩) hv h
  obtain ⟨k, ok, rfl⟩ := fits_know h1
  exact ⟨k, ok, h2⟩
theorem arg_ver (hv : Value.okWide Try.prog W .any b0 62 v) (h : DataW.Trod enc Try.prog W 0 (fun _ => true) true 62 v d ps) : ∃ x : Ver, x.Ok ∧ VA W (zoneOf W) noLoc x.la v := by
  obtain ⟨_, l, h1, h2⟩ := arg_agg shVer (.inl ⟨_, Try.underlying62⟩) hv h
  obtain ⟨_, _, rfl, ⟨x0, rfl, w0⟩, _, _, rfl, ⟨x1, rfl, w1⟩, rfl⟩ := h1
  exact ⟨⟨x0, x1⟩, ⟨i64_of w0, i64_of w1⟩, h2⟩
end
end Go.Proofs.Ytijkfjahgijphaa
