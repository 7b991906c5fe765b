/- States as arguments of laws. -/
import Derived.Test.YtijkfjahgijphaaAPredArgs
import Derived.Test.YtijkfjahgijphaaAAskSpec
import Derived.Test.YtijkfjahgijphaaAKnowArgs
set_option linter.unusedVariables false
set_option linter.unusedSimpArgs false
set_option maxRecDepth 100000
set_option maxHeartbeats 4000000
namespace Go.Proofs.Ytijkfjahgijphaa
open Go E Go.ChangeShapes Go.WideShapes Go.ChangeAt Go.RowKit
theorem cellsSit : Try.prog.cellsOf 33 = 21 := by kernel_rfl
def sitSh (n : Nat) : Sh := .cat (.int .i64) (.cat (treeSh (n - 1)) (.cat (.sl rowSh) (.cat (.sl rowSh) (.cat knowSh (.cat (.int .i64) (.cat (.int .i64) (.cat (.int .i64) .nil)))))))
theorem sit_size (n : Nat) : (sitSh n).size = 21 := by unfold sitSh; simp only [Sh.size, tree_size]; rfl
theorem shSit : ∀ n, ShOk Try.prog n 33 (sitSh n)
  | 0 => .zero
  | n + 1 => .struct Try.underlying33 (by rw [sit_size]; exact cellsSit) (.cons rfl cellsInt (shInt n) (.cons rfl (by rw [show n + 1 - 1 = n from rfl, tree_size]; exact cellsTree) (shTree n)
      (.cons (by rw [show n + 1 - 1 = n from rfl, tree_size]; rfl) cellsRows (shRows n) (.cons (by rw [show n + 1 - 1 = n from rfl, tree_size]; rfl) cellsRows (shRows n) (.cons (by rw [show n + 1 - 1 = n from rfl, tree_size]; rfl) cellsKnow (shKnow n)
      (.cons (by rw [show n + 1 - 1 = n from rfl, tree_size]; rfl) cellsInt (shInt n) (.cons (by rw [show n + 1 - 1 = n from rfl, tree_size]; rfl) cellsInt (shInt n) (.cons (by rw [show n + 1 - 1 = n from rfl, tree_size]; rfl) cellsInt (shInt n) .nil))))))))
abbrev Sit.la (s : Sit) : A := .agg [ic s.r, ic s.f.op, .p (.v (.string s.f.text)), ic s.f.n, .p (.v (.float .f64 s.f.re)), .p (.v (.float .f64 s.f.im)), .p (.sl (Pred.lrows s.f.kids)), .p (.sl (s.store.map Item.lrow)), .p (.sl (s.out.map Item.lrow)),
  ic s.k.star.x0, ic s.k.star.x1, ic s.k.star.x2, ic s.k.star.x3, ic s.k.star.x4, ic s.k.star.x5, ic s.k.star.x6, ic s.k.star.x7, .p (.sl (s.k.l.map Frag.row)), ic s.count, ic s.clock, ic s.epoch]
section
variable {H : Type} {enc : TypeId × Value → H} {W : World} {v : Value} {d : DataW H} {ps : List MemPlace} {b0 : Nat}
theorem arg_sit (hv : Value.okWide Try.prog W .any b0 33 v) (h : DataW.Trod enc Try.prog W 0 (fun _ => true) true 33 v d ps) : ∃ s : Sit, s.Ok ∧ VA W (zoneOf W) noLoc s.la v := by
  obtain ⟨n, l, h1, h2⟩ := arg_agg shSit (.inl ⟨_, Try.underlying33⟩) hv h
  obtain ⟨_, _, rfl, ⟨x0, rfl, w0⟩, _, _, rfl, hf, _, _, rfl, hs, _, _, rfl, ho, _, _, rfl, hk, _, _, rfl, ⟨x1, rfl, w1⟩, _, _, rfl, ⟨x2, rfl, w2⟩, _, _, rfl, ⟨x3, rfl, w3⟩, rfl⟩ := h1
  obtain ⟨p, op, rfl⟩ := tree_fits _ hf
  obtain ⟨xs, hx, rfl⟩ := fits_rows hs
  obtain ⟨ys, hy, rfl⟩ := fits_rows ho
  obtain ⟨k, hi, rfl⟩ := fits_know hk
  rw [Pred.lrow_eq] at h2
  exact ⟨⟨x0, p, xs, ys, k, x1, x2, x3⟩, ⟨op, hx, hy, hi⟩, h2⟩
end
theorem law_askOpens {X : Task → Prop} (hX : Closed X) {s : Sit} {w sid : Int} (ok : s.Ok) {Q : A → List Blk → Prop} (hQ : Q (bv true) []) : X (.call 3 [s.la, iv w, iv sid] [] Q) := law11_AskOpens_c hX (askOpens_s ok) hQ
end Go.Proofs.Ytijkfjahgijphaa
