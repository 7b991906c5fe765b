/- The disk: what each of its functions computes. -/
import Derived.Test.YtjapbanelfcjhaaTab
import Derived.Test.YtjapbanelfcjhaaEvTac
set_option linter.unusedVariables false
set_option linter.unusedSimpArgs false
set_option maxRecDepth 100000
namespace Go.Proofs.Ytjapbanelfcjhaa.D
open Go E
def Hh : List (Nat × Nat × List Nat) := [(3, 10, [0, 0, 0, 0, 5, 0, 0, 0, 0, 0])]
def KO : List Nat := []
def noPrim : Nat → List A → A → Prop := fun _ _ _ => False
abbrev Closed (X : Task → Prop) : Prop := ∀ t, Step T Hh KO X Try.prog noPrim t → X t
abbrev iv (n : Int) : A := .one (.p (.v (.int .i64 n)))
abbrev ic (n : Int) : C := .p (.v (.int .i64 n))
abbrev cb (b : Bool) : C := .p (.v (.bool b))
abbrev bv (b : Bool) : A := .one (.p (.v (.bool b)))
abbrev er (n : Int) : A := .one (.p (.v (.iface 31 (.int .i64 n))))
abbrev ne : A := .one (.p (.v .nilIface))
abbrev pt (n : Nat) : A := .one (.ptr n 0)
theorem Qa {Q : A → List Blk → Prop} {b b' : A} (h : Q b []) (e : b' = b) : Q b' [] := e ▸ h
/-- a disk, its bytes in block n -/
abbrev dk (n : Nat) (lit : Bool) (left : Int) (down : Bool) : Blk := .box [.own n, cb lit, ic left, cb down]
def RowsP (c : PC) (r : List (List PC)) : Prop := c = .sl r ∨ (c = .v (.slice none 0 0) ∧ r = [])
section
variable {X : Task → Prop} (hX : Closed X) {Q : A → List Blk → Prop} {k : Nat} {bs r : List (List PC)} {lit down : Bool} {left n : Int} {c : PC}
include hX
theorem new_ok (hQ : Q (pt 0) [dk 1 false 0 false, .rows 0 []]) : X (.call 16 [] [] Q) := by
  refine call_intro hX Try.func16 rfl rfl ?_
  exact hQ
theorem up_ok (hQ : Q (.tup []) [dk 1 false 0 false, .rows k bs]) : X (.call 18 [pt 0] [dk 1 lit left down, .rows k bs] Q) := by
  refine call_intro hX Try.func18 rfl rfl ?_
  exact hQ
theorem down_ok (hQ : Q (bv down) [dk 1 lit left down, .rows k bs]) : X (.call 20 [pt 0] [dk 1 lit left down, .rows k bs] Q) := by
  refine call_intro hX Try.func20 rfl rfl ?_
  exact hQ
theorem fuse_down (hQ : Q (er 8) [dk 1 lit left true, .rows k bs]) : X (.call 17 [pt 0, iv n] [dk 1 lit left true, .rows k bs] Q) := by
  refine call_intro hX Try.func17 rfl rfl ?_
  exact hQ
theorem fuse_neg (hn : ltI n 0 = true) (hQ : Q (er 1) [dk 1 lit left false, .rows k bs]) : X (.call 17 [pt 0, iv n] [dk 1 lit left false, .rows k bs] Q) := by
  refine call_intro hX Try.func17 rfl rfl ?_
  repeat' ((conv => whnf); first | exact hQ | refine ⟨by kernel_rfl, ?_⟩ | refine bct (by assumption) ?_ | refine bcf (by assumption) ?_)
theorem fuse_ok (hn : ltI n 0 = false) (hQ : Q ne [dk 1 true n false, .rows k bs]) : X (.call 17 [pt 0, iv n] [dk 1 lit left false, .rows k bs] Q) := by
  refine call_intro hX Try.func17 rfl rfl ?_
  repeat' ((conv => whnf); first | exact hQ | refine ⟨by kernel_rfl, ?_⟩ | refine bct (by assumption) ?_ | refine bcf (by assumption) ?_)
theorem bytes_ok (hroom : (roomFor [] bs 1 && rowsOk bs 1 && (Nat.beq 1 1 || Nat.beq 1 0)) = true) (hQ : Q (.one (.p (.sl (catL [] bs)))) [dk 1 lit left down, .rows k bs]) : X (.call 21 [pt 0] [dk 1 lit left down, .rows k bs] Q) := by
  refine call_intro hX Try.func21 rfl rfl ?_
  repeat' ((conv => whnf); first | exact hQ | refine ⟨by kernel_rfl, ?_⟩ | refine bct (by assumption) ?_ | refine bcf (by assumption) ?_)
theorem add_down (hQ : Q (er 8) [dk 1 lit left true, .rows k bs]) : X (.call 19 [pt 0, .one (.p c)] [dk 1 lit left true, .rows k bs] Q) := by
  refine call_intro hX Try.func19 rfl rfl ?_
  exact hQ
theorem add_cut (hc : RowsP c r) (hl : leI left (lenL r) = true) (h1 : (lenC r left && leI 0 0 && leI 0 left && rowsOk r 1) = true) (h2 : (roomFor bs (rowsIn r 0 left) 1 && rowsOk (rowsIn r 0 left) 1 && (Nat.beq k 1 || Nat.beq k 0)) = true)
    (hQ : Q (er 8) [dk 2 false 0 true, .dead, .rows 1 (catL bs (rowsIn r 0 left))]) : X (.call 19 [pt 0, .one (.p c)] [dk 1 true left false, .rows k bs] Q) := by
  refine call_intro hX Try.func19 rfl rfl ?_
  rcases hc with rfl | ⟨rfl, rfl⟩
  · repeat' ((conv => whnf); first | exact hQ | refine ⟨by kernel_rfl, ?_⟩ | refine bct (by assumption) ?_ | refine bcf (by assumption) ?_)
  · repeat' ((conv => whnf); first | exact hQ | refine ⟨by kernel_rfl, ?_⟩ | refine bct (by assumption) ?_ | refine bcf (by assumption) ?_)
theorem add_lit (hc : RowsP c r) (hl : leI left (lenL r) = false) (h2 : (roomFor bs r 1 && rowsOk r 1 && (Nat.beq k 1 || Nat.beq k 0)) = true)
    (hQ : Q ne [dk 2 true (wr .i64 (left - lenL r)) false, .dead, .rows 1 (catL bs r)]) : X (.call 19 [pt 0, .one (.p c)] [dk 1 true left false, .rows k bs] Q) := by
  refine call_intro hX Try.func19 rfl rfl ?_
  rcases hc with rfl | ⟨rfl, rfl⟩
  · repeat' ((conv => whnf); first | exact hQ | refine ⟨by kernel_rfl, ?_⟩ | refine bct (by assumption) ?_ | refine bcf (by assumption) ?_)
  · repeat' ((conv => whnf); first | exact hQ | refine ⟨by kernel_rfl, ?_⟩ | refine bct (by assumption) ?_ | refine bcf (by assumption) ?_)
theorem add_plain (hc : RowsP c r) (h2 : (roomFor bs r 1 && rowsOk r 1 && (Nat.beq k 1 || Nat.beq k 0)) = true)
    (hQ : Q ne [dk 2 false left false, .dead, .rows 1 (catL bs r)]) : X (.call 19 [pt 0, .one (.p c)] [dk 1 false left false, .rows k bs] Q) := by
  refine call_intro hX Try.func19 rfl rfl ?_
  rcases hc with rfl | ⟨rfl, rfl⟩
  · repeat' ((conv => whnf); first | exact hQ | refine ⟨by kernel_rfl, ?_⟩ | refine bct (by assumption) ?_ | refine bcf (by assumption) ?_)
  · repeat' ((conv => whnf); first | exact hQ | refine ⟨by kernel_rfl, ?_⟩ | refine bct (by assumption) ?_ | refine bcf (by assumption) ?_)
end
end Go.Proofs.Ytjapbanelfcjhaa.D
