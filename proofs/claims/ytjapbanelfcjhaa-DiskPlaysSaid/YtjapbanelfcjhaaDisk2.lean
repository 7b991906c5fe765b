/- The disk: what each of its functions computes. -/
import Derived.Test.YtjapbanelfcjhaaTab
import Derived.Test.YtjapbanelfcjhaaEvTac
set_option linter.unusedVariables false
set_option linter.unusedSimpArgs false
set_option maxRecDepth 100000
namespace Go.Proofs.Ytjapbanelfcjhaa.P
open Go E
def Hh : List (Nat × Nat × List Nat) := [(8, 8, [0, 2, 0, 0, 0]), (8, 28, [0, 2, 0, 0, 0, 1, 0, 0, 0]), (8, 1031, [0, 2, 0, 0, 0, 1, 0]), (43, 5, [0, 2]), (45, 5, [0, 2])]
def KO : List Nat := [21]
def noPrim : Nat → List A → A → Prop := fun _ _ _ => False
abbrev Closed (X : Task → Prop) : Prop := ∀ t, Step T Hh KO X Try.prog noPrim t → X t
abbrev iv (n : Int) : A := .one (.p (.v (.int .i64 n)))
abbrev ic (n : Int) : C := .p (.v (.int .i64 n))
abbrev cb (b : Bool) : C := .p (.v (.bool b))
abbrev bv (b : Bool) : A := .one (.p (.v (.bool b)))
abbrev er (n : Int) : A := .one (.p (.v (.iface 31 (.int .i64 n))))
abbrev ne : A := .one (.p (.v .nilIface))
abbrev pt (n : Nat) : A := .one (.ptr n 0)
theorem Qa {Q : A → List Blk → Prop} {b b' : A} (h : Q b []) (e : b' = b) : Q b' [] := e ▸ h
/-- a disk, its bytes in block n -/
abbrev dk (n : Nat) (lit : Bool) (left : Int) (down : Bool) : Blk := .box [.own n, cb lit, ic left, cb down]
def RowsP (c : PC) (r : List (List PC)) : Prop := c = .sl r ∨ (c = .v (.slice none 0 0) ∧ r = [])
section
variable {X : Task → Prop} (hX : Closed X) {Q : A → List Blk → Prop} {k : Nat} {bs r : List (List PC)} {lit down : Bool} {left n : Int} {c : PC}
include hX
theorem new_ok (hQ : Q (pt 0) [dk 1 false 0 false, .rows 0 []]) : X (.call 16 [] [] Q) := by
  refine call_intro hX Try.func16 rfl rfl ?_
  exact hQ
theorem up_ok (hQ : Q (.tup []) [dk 1 false 0 false, .rows k bs]) : X (.call 18 [pt 0] [dk 1 lit left down, .rows k bs] Q) := by
  refine call_intro hX Try.func18 rfl rfl ?_
  exact hQ
theorem down_ok (hQ : Q (bv down) [dk 1 lit left down, .rows k bs]) : X (.call 20 [pt 0] [dk 1 lit left down, .rows k bs] Q) := by
  refine call_intro hX Try.func20 rfl rfl ?_
  exact hQ
theorem fuse_down (hQ : Q (er 8) [dk 1 lit left true, .rows k bs]) : X (.call 17 [pt 0, iv n] [dk 1 lit left true, .rows k bs] Q) := by
  refine call_intro hX Try.func17 rfl rfl ?_
  exact hQ
theorem fuse_neg (hn : ltI n 0 = true) (hQ : Q (er 1) [dk 1 lit left false, .rows k bs]) : X (.call 17 [pt 0, iv n] [dk 1 lit left false, .rows k bs] Q) := by
  refine call_intro hX Try.func17 rfl rfl ?_
  repeat' ((conv => whnf); first | exact hQ | refine ⟨by kernel_rfl, ?_⟩ | refine bct (by assumption) ?_ | refine bcf (by assumption) ?_)
theorem fuse_ok (hn : ltI n 0 = false) (hQ : Q ne [dk 1 true n false, .rows k bs]) : X (.call 17 [pt 0, iv n] [dk 1 lit left false, .rows k bs] Q) := by
  refine call_intro hX Try.func17 rfl rfl ?_
  repeat' ((conv => whnf); first | exact hQ | refine ⟨by kernel_rfl, ?_⟩ | refine bct (by assumption) ?_ | refine bcf (by assumption) ?_)
theorem bytes_ok (hroom : (roomFor [] bs 1 && rowsOk bs 1 && (Nat.beq 1 1 || Nat.beq 1 0)) = true) (hQ : Q (.one (.own 2)) [dk 1 lit left down, .rows k bs, .rows 1 (catL [] bs)]) : X (.call 21 [pt 0] [dk 1 lit left down, .rows k bs] Q) := by
  refine call_intro hX Try.func21 rfl rfl ?_
  repeat' ((conv => whnf); first | exact hQ | refine ⟨by kernel_rfl, ?_⟩ | refine bct (by assumption) ?_ | refine bcf (by assumption) ?_)
theorem add_down (hQ : Q (er 8) [dk 1 lit left true, .rows k bs]) : X (.call 19 [pt 0, .one (.p c)] [dk 1 lit left true, .rows k bs] Q) := by
  refine call_intro hX Try.func19 rfl rfl ?_
  exact hQ
theorem add_cut (hc : RowsP c r) (hl : leI left (lenL r) = true) (h1 : (lenC r left && leI 0 0 && leI 0 left && rowsOk r 1) = true) (h2 : (roomFor bs (rowsIn r 0 left) 1 && rowsOk (rowsIn r 0 left) 1 && (Nat.beq k 1 || Nat.beq k 0)) = true)
    (hQ : Q (er 8) [dk 2 false 0 true, .dead, .rows 1 (catL bs (rowsIn r 0 left))]) : X (.call 19 [pt 0, .one (.p c)] [dk 1 true left false, .rows k bs] Q) := by
  refine call_intro hX Try.func19 rfl rfl ?_
  rcases hc with rfl | ⟨rfl, rfl⟩
  · repeat' ((conv => whnf); first | exact hQ | refine ⟨by kernel_rfl, ?_⟩ | refine bct (by assumption) ?_ | refine bcf (by assumption) ?_)
  · repeat' ((conv => whnf); first | exact hQ | refine ⟨by kernel_rfl, ?_⟩ | refine bct (by assumption) ?_ | refine bcf (by assumption) ?_)
theorem add_lit (hc : RowsP c r) (hl : leI left (lenL r) = false) (h2 : (roomFor bs r 1 && rowsOk r 1 && (Nat.beq k 1 || Nat.beq k 0)) = true)
    (hQ : Q ne [dk 2 true (wr .i64 (left - lenL r)) false, .dead, .rows 1 (catL bs r)]) : X (.call 19 [pt 0, .one (.p c)] [dk 1 true left false, .rows k bs] Q) := by
  refine call_intro hX Try.func19 rfl rfl ?_
  rcases hc with rfl | ⟨rfl, rfl⟩
  · repeat' ((conv => whnf); first | exact hQ | refine ⟨by kernel_rfl, ?_⟩ | refine bct (by assumption) ?_ | refine bcf (by assumption) ?_)
  · repeat' ((conv => whnf); first | exact hQ | refine ⟨by kernel_rfl, ?_⟩ | refine bct (by assumption) ?_ | refine bcf (by assumption) ?_)
theorem add_plain (hc : RowsP c r) (h2 : (roomFor bs r 1 && rowsOk r 1 && (Nat.beq k 1 || Nat.beq k 0)) = true)
    (hQ : Q ne [dk 2 false left false, .dead, .rows 1 (catL bs r)]) : X (.call 19 [pt 0, .one (.p c)] [dk 1 false left false, .rows k bs] Q) := by
  refine call_intro hX Try.func19 rfl rfl ?_
  rcases hc with rfl | ⟨rfl, rfl⟩
  · repeat' ((conv => whnf); first | exact hQ | refine ⟨by kernel_rfl, ?_⟩ | refine bct (by assumption) ?_ | refine bcf (by assumption) ?_)
  · repeat' ((conv => whnf); first | exact hQ | refine ⟨by kernel_rfl, ?_⟩ | refine bct (by assumption) ?_ | refine bcf (by assumption) ?_)
theorem cut_down (hQ : Q (er 8) [dk 1 lit left true, .rows k bs]) : X (.call 48 [pt 0, iv n] [dk 1 lit left true, .rows k bs] Q) := by
  refine call_intro hX Try.func48 rfl rfl ?_
  exact hQ
theorem cut_bad (hn : (ltI n 0 = true) ∨ (ltI n 0 = false ∧ ltI (lenL bs) n = true)) (hQ : Q (er 1) [dk 1 lit left false, .rows k bs]) : X (.call 48 [pt 0, iv n] [dk 1 lit left false, .rows k bs] Q) := by
  refine call_intro hX Try.func48 rfl rfl ?_
  rcases hn with h1 | ⟨h1, h2⟩
  all_goals
    repeat' ((conv => whnf); first | exact hQ | refine ⟨by kernel_rfl, ?_⟩ | refine bct (by assumption) ?_ | refine bcf (by assumption) ?_)
theorem rnew_ok (hQ : Q (.agg [.p (.v (.slice none 0 0)), ic (-1), cb false]) []) : X (.call 42 [] [] Q) := by
  refine call_intro hX Try.func42 rfl rfl ?_
  repeat' ((conv => whnf); first | exact hQ | refine ⟨by kernel_rfl, ?_⟩)
theorem cut_ok (h1 : ltI n 0 = false) (h2 : ltI (lenL bs) n = false) (h3 : (lenC bs n && (Nat.beq k 1 || Nat.beq k 0)) = true) (hQ : Q ne [dk 2 lit left false, .dead, .rows k (rowsIn bs 0 n)]) : X (.call 48 [pt 0, iv n] [dk 1 lit left false, .rows k bs] Q) := by
  refine call_intro hX Try.func48 rfl rfl ?_
  repeat' ((conv => whnf); first | exact hQ | refine ⟨by kernel_rfl, ?_⟩ | refine bct (by assumption) ?_ | refine bcf (by assumption) ?_)
abbrev mo (n : Nat) (f : Int) (dn : Bool) : Blk := .box [.own n, ic f, cb dn]
abbrev mn (f : Int) (dn : Bool) : Blk := .box [.p (.v (.slice none 0 0)), ic f, cb dn]
variable {f : Int}
theorem light_down_o  (hQ : Q (iv 8) [mo 1 f true, .rows k bs]) : X (.call 46 [pt 0, iv n] [mo 1 f true, .rows k bs] Q) := by
  refine call_intro hX Try.func46 rfl rfl ?_
  repeat' ((conv => whnf); first | exact hQ | refine ⟨by kernel_rfl, ?_⟩ | refine bct (by assumption) ?_ | refine bcf (by assumption) ?_)
theorem light_neg_o (h1 : ltI n 0 = true) (hQ : Q (iv 1) [mo 1 f false, .rows k bs]) : X (.call 46 [pt 0, iv n] [mo 1 f false, .rows k bs] Q) := by
  refine call_intro hX Try.func46 rfl rfl ?_
  repeat' ((conv => whnf); first | exact hQ | refine ⟨by kernel_rfl, ?_⟩ | refine bct (by assumption) ?_ | refine bcf (by assumption) ?_)
theorem light_ok_o (h1 : ltI n 0 = false) (hQ : Q (iv 0) [mo 1 n false, .rows k bs]) : X (.call 46 [pt 0, iv n] [mo 1 f false, .rows k bs] Q) := by
  refine call_intro hX Try.func46 rfl rfl ?_
  repeat' ((conv => whnf); first | exact hQ | refine ⟨by kernel_rfl, ?_⟩ | refine bct (by assumption) ?_ | refine bcf (by assumption) ?_)
theorem rup_o  (hQ : Q (.tup []) [mo 1 (-1) false, .rows k bs]) : X (.call 47 [pt 0] [mo 1 f down, .rows k bs] Q) := by
  refine call_intro hX Try.func47 rfl rfl ?_
  repeat' ((conv => whnf); first | exact hQ | refine ⟨by kernel_rfl, ?_⟩ | refine bct (by assumption) ?_ | refine bcf (by assumption) ?_)
theorem rcut_down_o  (hQ : Q (iv 8) [mo 1 f true, .rows k bs]) : X (.call 49 [pt 0, iv n] [mo 1 f true, .rows k bs] Q) := by
  refine call_intro hX Try.func49 rfl rfl ?_
  repeat' ((conv => whnf); first | exact hQ | refine ⟨by kernel_rfl, ?_⟩ | refine bct (by assumption) ?_ | refine bcf (by assumption) ?_)
theorem rcut_neg_o (h1 : ltI n 0 = true) (hQ : Q (iv 1) [mo 1 f false, .rows k bs]) : X (.call 49 [pt 0, iv n] [mo 1 f false, .rows k bs] Q) := by
  refine call_intro hX Try.func49 rfl rfl ?_
  repeat' ((conv => whnf); first | exact hQ | refine ⟨by kernel_rfl, ?_⟩ | refine bct (by assumption) ?_ | refine bcf (by assumption) ?_)
theorem rcut_far_o (h1 : ltI n 0 = false) (h2 : ltI (lenL bs) n = true) (hQ : Q (iv 1) [mo 1 f false, .rows k bs]) : X (.call 49 [pt 0, iv n] [mo 1 f false, .rows k bs] Q) := by
  refine call_intro hX Try.func49 rfl rfl ?_
  repeat' ((conv => whnf); first | exact hQ | refine ⟨by kernel_rfl, ?_⟩ | refine bct (by assumption) ?_ | refine bcf (by assumption) ?_)
theorem rcut_ok_o (h1 : ltI n 0 = false) (h2 : ltI (lenL bs) n = false) (h3 : (lenC bs n && (Nat.beq k 1 || Nat.beq k 0)) = true) (h4 : (roomFor [] (rowsIn bs 0 n) 1 && rowsOk (rowsIn bs 0 n) 1 && (Nat.beq 1 1 || Nat.beq 1 0)) = true) (hQ : Q (iv 0) [mo 2 f false, .dead, .rows 1 (catL [] (rowsIn bs 0 n))]) : X (.call 49 [pt 0, iv n] [mo 1 f false, .rows k bs] Q) := by
  refine call_intro hX Try.func49 rfl rfl ?_
  repeat' ((conv => whnf); first | exact hQ | refine ⟨by kernel_rfl, ?_⟩ | refine bct (by assumption) ?_ | refine bcf (by assumption) ?_)
theorem radd_down_o  (hQ : Q (iv 8) [mo 1 f true, .rows k bs]) : X (.call 50 [pt 0, .one (.p c)] [mo 1 f true, .rows k bs] Q) := by
  refine call_intro hX Try.func50 rfl rfl ?_
  repeat' ((conv => whnf); first | exact hQ | refine ⟨by kernel_rfl, ?_⟩ | refine bct (by assumption) ?_ | refine bcf (by assumption) ?_)
theorem radd_plain_o (hc : RowsP c r) (hf : leI 0 f = false) (h2 : (roomFor [] bs 1 && rowsOk bs 1 && (Nat.beq 1 1 || Nat.beq 1 0)) = true)(h1 : (lenC r (lenL r) && leI 0 0 && leI 0 (lenL r) && rowsOk r 1) = true) (h3 : (roomFor (catL [] bs) (rowsIn r 0 (lenL r)) 1 && rowsOk (rowsIn r 0 (lenL r)) 1 && (Nat.beq 1 1 || Nat.beq 1 0)) = true) (hQ : Q (iv 0) [mo 2 f false, .rows k bs, .rows 1 (catL (catL [] bs) (rowsIn r 0 (lenL r)))]) : X (.call 50 [pt 0, .one (.p c)] [mo 1 f false, .rows k bs] Q) := by
  refine call_intro hX Try.func50 rfl rfl ?_
  rcases hc with rfl | ⟨rfl, rfl⟩
  all_goals
    repeat' ((conv => whnf); first | exact hQ | refine ⟨by kernel_rfl, ?_⟩ | refine bct (by assumption) ?_ | refine bcf (by assumption) ?_)
theorem radd_cut_o (hc : RowsP c r) (hf : leI 0 f = true) (hl : leI f (lenL r) = true) (h2 : (roomFor [] bs 1 && rowsOk bs 1 && (Nat.beq 1 1 || Nat.beq 1 0)) = true)(h1 : (lenC r f && leI 0 0 && leI 0 f && rowsOk r 1) = true) (h3 : (roomFor (catL [] bs) (rowsIn r 0 f) 1 && rowsOk (rowsIn r 0 f) 1 && (Nat.beq 1 1 || Nat.beq 1 0)) = true) (hQ : Q (iv 8) [mo 2 (-1) true, .rows k bs, .rows 1 (catL (catL [] bs) (rowsIn r 0 f))]) : X (.call 50 [pt 0, .one (.p c)] [mo 1 f false, .rows k bs] Q) := by
  refine call_intro hX Try.func50 rfl rfl ?_
  rcases hc with rfl | ⟨rfl, rfl⟩
  all_goals
    repeat' ((conv => whnf); first | exact hQ | refine ⟨by kernel_rfl, ?_⟩ | refine bct (by assumption) ?_ | refine bcf (by assumption) ?_)
theorem radd_lit_o (hc : RowsP c r) (hf : leI 0 f = true) (hl : leI f (lenL r) = false) (h2 : (roomFor [] bs 1 && rowsOk bs 1 && (Nat.beq 1 1 || Nat.beq 1 0)) = true)(h1 : (lenC r (lenL r) && leI 0 0 && leI 0 (lenL r) && rowsOk r 1) = true) (h3 : (roomFor (catL [] bs) (rowsIn r 0 (lenL r)) 1 && rowsOk (rowsIn r 0 (lenL r)) 1 && (Nat.beq 1 1 || Nat.beq 1 0)) = true) (hQ : Q (iv 0) [mo 2 (wr .i64 (f - lenL r)) false, .rows k bs, .rows 1 (catL (catL [] bs) (rowsIn r 0 (lenL r)))]) : X (.call 50 [pt 0, .one (.p c)] [mo 1 f false, .rows k bs] Q) := by
  refine call_intro hX Try.func50 rfl rfl ?_
  rcases hc with rfl | ⟨rfl, rfl⟩
  all_goals
    repeat' ((conv => whnf); first | exact hQ | refine ⟨by kernel_rfl, ?_⟩ | refine bct (by assumption) ?_ | refine bcf (by assumption) ?_)
theorem light_down_n  (hQ : Q (iv 8) [mn f true]) : X (.call 46 [pt 0, iv n] [mn f true] Q) := by
  refine call_intro hX Try.func46 rfl rfl ?_
  repeat' ((conv => whnf); first | exact hQ | refine ⟨by kernel_rfl, ?_⟩ | refine bct (by assumption) ?_ | refine bcf (by assumption) ?_)
theorem light_neg_n (h1 : ltI n 0 = true) (hQ : Q (iv 1) [mn f false]) : X (.call 46 [pt 0, iv n] [mn f false] Q) := by
  refine call_intro hX Try.func46 rfl rfl ?_
  repeat' ((conv => whnf); first | exact hQ | refine ⟨by kernel_rfl, ?_⟩ | refine bct (by assumption) ?_ | refine bcf (by assumption) ?_)
theorem light_ok_n (h1 : ltI n 0 = false) (hQ : Q (iv 0) [mn n false]) : X (.call 46 [pt 0, iv n] [mn f false] Q) := by
  refine call_intro hX Try.func46 rfl rfl ?_
  repeat' ((conv => whnf); first | exact hQ | refine ⟨by kernel_rfl, ?_⟩ | refine bct (by assumption) ?_ | refine bcf (by assumption) ?_)
theorem rup_n  (hQ : Q (.tup []) [mn (-1) false]) : X (.call 47 [pt 0] [mn f down] Q) := by
  refine call_intro hX Try.func47 rfl rfl ?_
  repeat' ((conv => whnf); first | exact hQ | refine ⟨by kernel_rfl, ?_⟩ | refine bct (by assumption) ?_ | refine bcf (by assumption) ?_)
theorem rcut_down_n  (hQ : Q (iv 8) [mn f true]) : X (.call 49 [pt 0, iv n] [mn f true] Q) := by
  refine call_intro hX Try.func49 rfl rfl ?_
  repeat' ((conv => whnf); first | exact hQ | refine ⟨by kernel_rfl, ?_⟩ | refine bct (by assumption) ?_ | refine bcf (by assumption) ?_)
theorem rcut_neg_n (h1 : ltI n 0 = true) (hQ : Q (iv 1) [mn f false]) : X (.call 49 [pt 0, iv n] [mn f false] Q) := by
  refine call_intro hX Try.func49 rfl rfl ?_
  repeat' ((conv => whnf); first | exact hQ | refine ⟨by kernel_rfl, ?_⟩ | refine bct (by assumption) ?_ | refine bcf (by assumption) ?_)
theorem rcut_far_n (h1 : ltI n 0 = false) (h2 : ltI (lenL []) n = true) (hQ : Q (iv 1) [mn f false]) : X (.call 49 [pt 0, iv n] [mn f false] Q) := by
  refine call_intro hX Try.func49 rfl rfl ?_
  repeat' ((conv => whnf); first | exact hQ | refine ⟨by kernel_rfl, ?_⟩ | refine bct (by assumption) ?_ | refine bcf (by assumption) ?_)
theorem rcut_ok_n (h1 : ltI n 0 = false) (h2 : ltI (lenL []) n = false) (h3 : (lenC [] n && leI 0 0 && leI 0 n && rowsOk [] 1) = true) (h4 : (roomFor [] (rowsIn [] 0 n) 1 && rowsOk (rowsIn [] 0 n) 1 && (Nat.beq 1 1 || Nat.beq 1 0)) = true) (hQ : Q (iv 0) [mo 1 f false, .rows 1 (catL [] (rowsIn [] 0 n))]) : X (.call 49 [pt 0, iv n] [mn f false] Q) := by
  refine call_intro hX Try.func49 rfl rfl ?_
  repeat' ((conv => whnf); first | exact hQ | refine ⟨by kernel_rfl, ?_⟩ | refine bct (by assumption) ?_ | refine bcf (by assumption) ?_)
theorem radd_down_n  (hQ : Q (iv 8) [mn f true]) : X (.call 50 [pt 0, .one (.p c)] [mn f true] Q) := by
  refine call_intro hX Try.func50 rfl rfl ?_
  repeat' ((conv => whnf); first | exact hQ | refine ⟨by kernel_rfl, ?_⟩ | refine bct (by assumption) ?_ | refine bcf (by assumption) ?_)
theorem radd_plain_n (hc : RowsP c r) (hf : leI 0 f = false) (h2 : (roomFor [] [] 1 && rowsOk [] 1 && (Nat.beq 1 1 || Nat.beq 1 0)) = true)(h1 : (lenC r (lenL r) && leI 0 0 && leI 0 (lenL r) && rowsOk r 1) = true) (h3 : (roomFor (catL [] []) (rowsIn r 0 (lenL r)) 1 && rowsOk (rowsIn r 0 (lenL r)) 1 && (Nat.beq 1 1 || Nat.beq 1 0)) = true) (hQ : Q (iv 0) [mo 1 f false, .rows 1 (catL (catL [] []) (rowsIn r 0 (lenL r)))]) : X (.call 50 [pt 0, .one (.p c)] [mn f false] Q) := by
  refine call_intro hX Try.func50 rfl rfl ?_
  rcases hc with rfl | ⟨rfl, rfl⟩
  all_goals
    repeat' ((conv => whnf); first | exact hQ | refine ⟨by kernel_rfl, ?_⟩ | refine bct (by assumption) ?_ | refine bcf (by assumption) ?_)
theorem radd_cut_n (hc : RowsP c r) (hf : leI 0 f = true) (hl : leI f (lenL r) = true) (h2 : (roomFor [] [] 1 && rowsOk [] 1 && (Nat.beq 1 1 || Nat.beq 1 0)) = true)(h1 : (lenC r f && leI 0 0 && leI 0 f && rowsOk r 1) = true) (h3 : (roomFor (catL [] []) (rowsIn r 0 f) 1 && rowsOk (rowsIn r 0 f) 1 && (Nat.beq 1 1 || Nat.beq 1 0)) = true) (hQ : Q (iv 8) [mo 1 (-1) true, .rows 1 (catL (catL [] []) (rowsIn r 0 f))]) : X (.call 50 [pt 0, .one (.p c)] [mn f false] Q) := by
  refine call_intro hX Try.func50 rfl rfl ?_
  rcases hc with rfl | ⟨rfl, rfl⟩
  all_goals
    repeat' ((conv => whnf); first | exact hQ | refine ⟨by kernel_rfl, ?_⟩ | refine bct (by assumption) ?_ | refine bcf (by assumption) ?_)
theorem radd_lit_n (hc : RowsP c r) (hf : leI 0 f = true) (hl : leI f (lenL r) = false) (h2 : (roomFor [] [] 1 && rowsOk [] 1 && (Nat.beq 1 1 || Nat.beq 1 0)) = true)(h1 : (lenC r (lenL r) && leI 0 0 && leI 0 (lenL r) && rowsOk r 1) = true) (h3 : (roomFor (catL [] []) (rowsIn r 0 (lenL r)) 1 && rowsOk (rowsIn r 0 (lenL r)) 1 && (Nat.beq 1 1 || Nat.beq 1 0)) = true) (hQ : Q (iv 0) [mo 1 (wr .i64 (f - lenL r)) false, .rows 1 (catL (catL [] []) (rowsIn r 0 (lenL r)))]) : X (.call 50 [pt 0, .one (.p c)] [mn f false] Q) := by
  refine call_intro hX Try.func50 rfl rfl ?_
  rcases hc with rfl | ⟨rfl, rfl⟩
  all_goals
    repeat' ((conv => whnf); first | exact hQ | refine ⟨by kernel_rfl, ?_⟩ | refine bct (by assumption) ?_ | refine bcf (by assumption) ?_)
theorem code_ne (hQ : Q (iv 0) []) : X (.call 45 [ne] [] Q) := by
  refine call_intro hX Try.func45 rfl rfl ?_
  exact hQ
theorem code_er8 (hQ : Q (iv 8) []) : X (.call 45 [er 8] [] Q) := by
  refine call_intro hX Try.func45 rfl rfl ?_
  repeat' ((conv => whnf); first | exact hQ | refine ⟨by kernel_rfl, ?_⟩ | refine loop_intro hX ?_)
theorem code_er1 (hQ : Q (iv 1) []) : X (.call 45 [er 1] [] Q) := by
  refine call_intro hX Try.func45 rfl rfl ?_
  repeat' ((conv => whnf); first | exact hQ | refine ⟨by kernel_rfl, ?_⟩ | refine loop_intro hX ?_)
end
end Go.Proofs.Ytjapbanelfcjhaa.P
