/- States as arguments of laws. -/
import Derived.Test.YtijkfjahgijphaaPredArgs
import Derived.Test.YtijkfjahgijphaaAskSpec
set_option linter.unusedVariables false
set_option linter.unusedSimpArgs false
set_option maxRecDepth 100000
set_option maxHeartbeats 4000000
namespace Go.Proofs.Ytijkfjahgijphaa
open Go E Go.ChangeShapes Go.WideShapes Go.ChangeAt Go.RowKit
theorem cellsRows : Try.prog.cellsOf 26 = 1 := by kernel_rfl
theorem cellsStrs : Try.prog.cellsOf 139 = 1 := by kernel_rfl
theorem cellsVec : Try.prog.cellsOf 28 = 8 := by kernel_rfl
theorem cellsFrag : Try.prog.cellsOf 141 = 9 := by kernel_rfl
theorem cellsFrags : Try.prog.cellsOf 29 = 1 := by kernel_rfl
theorem cellsKnow : Try.prog.cellsOf 31 = 9 := by kernel_rfl
theorem cellsSit : Try.prog.cellsOf 33 = 21 := by kernel_rfl
theorem shRows : ∀ n, ShOk Try.prog n 26 (.sl rowSh)
  | 0 => .zero
  | n + 1 => .sl Try.underlying26 cellsRow (by decide) (shRow n)
theorem shStrs : ∀ n, ShOk Try.prog n 139 (.sl .str)
  | 0 => .zero
  | n + 1 => .sl Try.underlying139 cellsStr (by decide) (shStr n)
theorem shVec : ∀ n, ShOk Try.prog n 28 (repS (.int .i64) 8)
  | 0 => .zero
  | n + 1 => .arr (s := .int .i64) Try.underlying28 cellsInt cellsVec (shInt n) rfl
abbrev fragSh : Sh := .cat (.sl .str) (.cat (repS (.int .i64) 8) .nil)
theorem shFrag : ∀ n, ShOk Try.prog n 141 fragSh
  | 0 => .zero
  | n + 1 => .struct Try.underlying141 cellsFrag (.cons rfl cellsStrs (shStrs n) (.cons rfl cellsVec (shVec n) .nil))
theorem shFrags : ∀ n, ShOk Try.prog n 29 (.sl fragSh)
  | 0 => .zero
  | n + 1 => .sl Try.underlying29 cellsFrag (by decide) (shFrag n)
abbrev knowSh : Sh := .cat (repS (.int .i64) 8) (.cat (.sl fragSh) .nil)
theorem shKnow : ∀ n, ShOk Try.prog n 31 knowSh
  | 0 => .zero
  | n + 1 => .struct Try.underlying31 cellsKnow (.cons rfl cellsVec (shVec n) (.cons rfl cellsFrags (shFrags n) .nil))
def sitSh (n : Nat) : Sh := .cat (.int .i64) (.cat (treeSh (n - 1)) (.cat (.sl rowSh) (.cat (.sl rowSh) (.cat knowSh (.cat (.int .i64) (.cat (.int .i64) (.cat (.int .i64) .nil)))))))
theorem sit_size (n : Nat) : (sitSh n).size = 21 := by unfold sitSh; simp only [Sh.size, tree_size]; rfl
theorem shSit : ∀ n, ShOk Try.prog n 33 (sitSh n)
  | 0 => .zero
  | n + 1 => .struct Try.underlying33 (by rw [sit_size]; exact cellsSit) (.cons rfl cellsInt (shInt n) (.cons rfl (by rw [show n + 1 - 1 = n from rfl, tree_size]; exact cellsTree) (shTree n)
      (.cons (by rw [show n + 1 - 1 = n from rfl, tree_size]; rfl) cellsRows (shRows n) (.cons (by rw [show n + 1 - 1 = n from rfl, tree_size]; rfl) cellsRows (shRows n) (.cons (by rw [show n + 1 - 1 = n from rfl, tree_size]; rfl) cellsKnow (shKnow n)
      (.cons (by rw [show n + 1 - 1 = n from rfl, tree_size]; rfl) cellsInt (shInt n) (.cons (by rw [show n + 1 - 1 = n from rfl, tree_size]; rfl) cellsInt (shInt n) (.cons (by rw [show n + 1 - 1 = n from rfl, tree_size]; rfl) cellsInt (shInt n) .nil))))))))
theorem list_of {α : Type} {P : List PC → Prop} {Ok : α → Prop} {f : α → List PC} (h : ∀ r, P r → ∃ x, Ok x ∧ r = f x) : ∀ (l : List (List PC)), (∀ r ∈ l, P r) → ∃ xs : List α, (∀ x ∈ xs, Ok x) ∧ l = xs.map f
  | [], _ => ⟨[], by simp, rfl⟩
  | r :: l, hl => by
    obtain ⟨x, hx, rfl⟩ := h r (hl r (by simp))
    obtain ⟨xs, hxs, rfl⟩ := list_of h l fun r hr => hl r (by simp [hr])
    exact ⟨x :: xs, by simpa using ⟨hx, hxs⟩, rfl⟩
theorem fits_v8 {l : List PC} (h : Fits (repS (.int .i64) 8) l) : ∃ v : V8, l = v.row := by
  obtain ⟨_, _, rfl, ⟨x0, rfl, w0⟩, _, _, rfl, ⟨x1, rfl, w1⟩, _, _, rfl, ⟨x2, rfl, w2⟩, _, _, rfl, ⟨x3, rfl, w3⟩, _, _, rfl, ⟨x4, rfl, w4⟩, _, _, rfl, ⟨x5, rfl, w5⟩, _, _, rfl, ⟨x6, rfl, w6⟩, _, _, rfl, ⟨x7, rfl, w7⟩, rfl⟩ := h
  exact ⟨⟨x0, x1, x2, x3, x4, x5, x6, x7⟩, rfl⟩
theorem fits_strs {l : List PC} (h : Fits (.sl .str) l) : ∃ xs : List ByteArray, (∀ x ∈ xs, x.size ≤ 9223372036854775807) ∧ l = [.sl (xs.map srw)] := by
  obtain ⟨rows, rfl, _, hr⟩ := h
  obtain ⟨xs, hx, rfl⟩ := list_of (P := Fits .str) (Ok := fun x : ByteArray => x.size ≤ 9223372036854775807) (f := srw) (fun r ⟨s, e, hs⟩ => ⟨s, Nat.le_trans hs (by decide), e⟩) rows hr
  exact ⟨xs, hx, rfl⟩
theorem fits_frag {l : List PC} (h : Fits fragSh l) : ∃ f : Frag, (∀ x ∈ f.ids, x.size ≤ 9223372036854775807) ∧ l = f.row := by
  obtain ⟨_, _, rfl, h1, _, _, rfl, h2, rfl⟩ := h
  obtain ⟨xs, hx, rfl⟩ := fits_strs h1
  obtain ⟨v, rfl⟩ := fits_v8 h2
  exact ⟨⟨xs, v⟩, hx, by simp⟩
theorem fits_know {l : List PC} (h : Fits knowSh l) : ∃ k : Know, IdsOk k ∧ l = k.row := by
  obtain ⟨_, _, rfl, h1, _, _, rfl, ⟨rows, rfl, _, hr⟩, rfl⟩ := h
  obtain ⟨v, rfl⟩ := fits_v8 h1
  obtain ⟨fs, hf, rfl⟩ := list_of (P := Fits fragSh) (Ok := fun f : Frag => ∀ x ∈ f.ids, x.size ≤ 9223372036854775807) (f := Frag.row) (fun r h => fits_frag h) rows hr
  exact ⟨⟨v, fs⟩, hf, by simp⟩
theorem fits_rows {l : List PC} (h : Fits (.sl rowSh) l) : ∃ xs : List Item, (∀ x ∈ xs, x.Ok) ∧ l = [.sl (xs.map Item.lrow)] := by
  obtain ⟨rows, rfl, _, hr⟩ := h
  obtain ⟨xs, hx, rfl⟩ := list_of (P := Fits rowSh) (Ok := Item.Ok) (f := Item.lrow) (fun r h => fits_row h) rows hr
  exact ⟨xs, hx, rfl⟩
abbrev Sit.la (s : Sit) : A := .agg [ic s.r, ic s.f.op, .p (.v (.string s.f.text)), ic s.f.n, .p (.v (.float .f64 s.f.re)), .p (.v (.float .f64 s.f.im)), .p (.sl (Pred.lrows s.f.kids)), .p (.sl (s.store.map Item.lrow)), .p (.sl (s.out.map Item.lrow)),
  ic s.k.star.x0, ic s.k.star.x1, ic s.k.star.x2, ic s.k.star.x3, ic s.k.star.x4, ic s.k.star.x5, ic s.k.star.x6, ic s.k.star.x7, .p (.sl (s.k.l.map Frag.row)), ic s.count, ic s.clock, ic s.epoch]
section
variable {H : Type} {enc : TypeId × Value → H} {W : World} {v : Value} {d : DataW H} {ps : List MemPlace} {b0 : Nat}
theorem arg_sit (hv : Value.okWide Try.prog W .any b0 33 v) (h : DataW.Trod enc Try.prog W 0 (fun _ => true) true 33 v d ps) : ∃ s : Sit, s.Ok ∧ VA W (zoneOf W) noLoc s.la v := by
  obtain ⟨n, l, h1, h2⟩ := arg_agg shSit (.inl ⟨_, Try.underlying33⟩) hv h
  obtain ⟨_, _, rfl, ⟨x0, rfl, w0⟩, _, _, rfl, hf, _, _, rfl, hs, _, _, rfl, ho, _, _, rfl, hk, _, _, rfl, ⟨x1, rfl, w1⟩, _, _, rfl, ⟨x2, rfl, w2⟩, _, _, rfl, ⟨x3, rfl, w3⟩, rfl⟩ := h1
  obtain ⟨p, op, rfl⟩ := tree_fits _ hf
  obtain ⟨xs, hx, rfl⟩ := fits_rows hs
  obtain ⟨ys, hy, rfl⟩ := fits_rows ho
  obtain ⟨k, hi, rfl⟩ := fits_know hk
  rw [Pred.lrow_eq] at h2
  exact ⟨⟨x0, p, xs, ys, k, x1, x2, x3⟩, ⟨op, hx, hy, hi⟩, h2⟩
end
theorem law_askOpens {X : Task → Prop} (hX : Closed X) {s : Sit} {w sid : Int} (ok : s.Ok) {Q : A → List Blk → Prop} (hQ : Q (bv true) []) : X (.call 3 [s.la, iv w, iv sid] [] Q) := law11_AskOpens_c hX (askOpens_s ok) hQ
end Go.Proofs.Ytijkfjahgijphaa
