/- DiskPlays: one round. -/
import Derived.Test.YtjapbanelfcjhaaPlays
set_option linter.unusedVariables false
set_option linter.unusedSimpArgs false
set_option maxRecDepth 100000
namespace Go.Proofs.Ytjapbanelfcjhaa.P
open Go E
structure Pv where
  i : Int
  dl : Bool
  left : Int
  dn : Bool
  k : Nat
  bs : List (List PC)
  o : Bool
  f : Int
  km : Nat
  cs : List (List PC)
abbrev mo3 (f : Int) (dn : Bool) : Blk := .box [.own 3, ic f, cb dn]
noncomputable def Pv.s (s : Pv) : List Blk := match s.o with
  | true => [dk 1 s.dl s.left s.dn, .rows s.k s.bs, mo3 s.f s.dn, .rows s.km s.cs]
  | false => [dk 1 s.dl s.left s.dn, .rows s.k s.bs, mn s.f s.dn]
noncomputable def Pv.t (l : PC) (s : Pv) : List A := pad [(0, .one (.p l)), (2, bv true), (0, pt 0), (0, pt 2), (0, iv s.i)] 99
noncomputable def Pv.t30 (l : PC) (e : Int) (s : Pv) : List A := pad [(0, .one (.p l)), (2, bv true), (0, pt 0), (0, pt 2), (0, iv s.i), (1, iv e), (0, iv e)] 96
structure PInv (rows : List (List PC)) (B : Int) (s : Pv) : Prop where
  i0 : 0 ≤ s.i
  i1 : s.i ≤ lenL rows
  hb : lenL s.bs ≤ 1000 * B
  ok : strOk s.bs = true
  k : (Nat.beq s.k 1 || Nat.beq s.k 0) = true
  km : (Nat.beq s.km 1 || Nat.beq s.km 0) = true
  eq : s.cs = s.bs
  nil : s.o = false → s.bs = []
  mode : (s.dl = false ∧ s.dn = false ∧ s.f = -1) ∨ (s.dl = true ∧ s.dn = false ∧ s.left = s.f ∧ 0 ≤ s.f ∧ s.f ≤ 9223372036854775807) ∨ (s.dn = true)
theorem merge30 {X : Task → Prop} {rows : List (List PC)} {l : PC} {i : Int} {c : Code} {K : Ex → List A → List Blk → Prop} {R : Prop}
    (h : Hold ((∀ e dl left dn k bs f km cs, PInv rows (i + 1) ⟨i, dl, left, dn, k, bs, true, f, km, cs⟩ → X (.rest 8 0 c (pad [(0, .one (.p l)), (2, bv true), (0, pt 0), (0, pt 2), (0, iv i), (1, iv e), (0, iv e)] 96) [dk 1 dl left dn, .rows k bs, mo3 f dn, .rows km cs] K)) ∧
      (∀ e dl left dn k bs f, PInv rows (i + 1) ⟨i, dl, left, dn, k, bs, false, f, 0, []⟩ → X (.rest 8 0 c (pad [(0, .one (.p l)), (2, bv true), (0, pt 0), (0, pt 2), (0, iv i), (1, iv e), (0, iv e)] 96) [dk 1 dl left dn, .rows k bs, mn f dn] K))) → R)
    (g : ∀ e st, PInv rows (i + 1) st → st.i = i → X (.rest 8 0 c (Pv.t30 l e st) (Pv.s st) K)) : R :=
  h ⟨⟨fun e dl left dn k bs f km cs hp => g e ⟨i, dl, left, dn, k, bs, true, f, km, cs⟩ hp rfl, fun e dl left dn k bs f hp => g e ⟨i, dl, left, dn, k, bs, false, f, 0, []⟩ hp rfl⟩⟩
theorem eqI_refl (a : Int) : eqI a a = true := eqI_t.2 rfl
theorem bneq_self (b : Bool) : (@Bool.rec (fun _ => Bool) b (!b) b) = false := by cases b <;> rfl
theorem in_all {r : List (List PC)} : rowsIn r 0 (lenL r) = r := by unfold rowsIn lenL; simp
theorem cat_nil {r : List (List PC)} : catL [] r = r := rfl

theorem inlen {a : List (List PC)} {j : Int} : lenL (rowsIn a 0 j) ≤ lenL a := by unfold lenL rowsIn; simp; omega
theorem rm_k {a b : List (List PC)} {k : Nat} (h : lenL a + lenL b ≤ 1000000) (hb : strOk b = true) (hk : (Nat.beq k 1 || Nat.beq k 0) = true) : (roomFor a b 1 && rowsOk b 1 && (Nat.beq k 1 || Nat.beq k 0)) = true :=
  and3 (room1 (by unfold lenL at h; omega)) (rowsOk_str hb) hk
theorem in_ok {r : List (List PC)} {j : Int} (hj : 0 ≤ j) (hl : j ≤ lenL r) (hr : strOk r = true) : (lenC r j && leI 0 0 && leI 0 j && rowsOk r 1) = true := by
  exact and4 (by unfold lenC lenL at *; simp; omega) rfl (leI_t.2 hj) (rowsOk_str hr)
theorem wrI {i m : Int} (h0 : 0 ≤ i) (h1 : i < m) (h2 : m ≤ 100) : wr .i64 (i + 1) = i + 1 := wr64 (by omega) (by omega)
end Go.Proofs.Ytjapbanelfcjhaa.P
