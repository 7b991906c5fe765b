/- Filters (layer 3): as trees; how large and how deep they are, and whether two are the same. -/
import Derived.Test.YtijkfjahgijphaaAItem
set_option linter.unusedVariables false
set_option linter.unusedSimpArgs false
set_option maxRecDepth 100000
set_option maxHeartbeats 4000000
namespace Go.Proofs.Ytijkfjahgijphaa
open Go E
inductive Pred where
  | mk (op : Int) (text : ByteArray) (n : Int) (re im : Nat) (kids : List Pred)
namespace Pred
def op : Pred → Int | mk a _ _ _ _ _ => a
def text : Pred → ByteArray | mk _ a _ _ _ _ => a
def n : Pred → Int | mk _ _ a _ _ _ => a
def re : Pred → Nat | mk _ _ _ a _ _ => a
def im : Pred → Nat | mk _ _ _ _ a _ => a
def kids : Pred → List Pred | mk _ _ _ _ _ a => a
mutual
def row : Pred → List PC
  | mk a t n re im ks => [ip a, .v (.string t), ip n, .v (.complex .f64 re im), .sl (rows0 ks)]
def rows0 : List Pred → List (List PC)
  | [] => []
  | k :: ks => row k :: rows0 ks
end
def rows (l : List Pred) : List (List PC) := l.map row
theorem rows0_eq (l : List Pred) : rows0 l = rows l := by
  induction l with
  | nil => rw [rows0]; rfl
  | cons a l ih => rw [rows0, ih]; rfl
mutual
def lrow : Pred → List PC
  | mk a t n re im ks => [ip a, .v (.string t), ip n, .v (.float .f64 re), .v (.float .f64 im), .sl (lrows ks)]
def lrows : List Pred → List (List PC)
  | [] => []
  | k :: ks => lrow k :: lrows ks
end
mutual
def size : Pred → Nat
  | mk _ _ _ _ _ ks => sizes ks + 1
def sizes : List Pred → Nat
  | [] => 0
  | k :: ks => size k + sizes ks
end
mutual
def depth : Pred → Nat
  | mk _ _ _ _ _ ks => depths ks + 1
def depths : List Pred → Nat
  | [] => 0
  | k :: ks => max (depth k) (depths ks)
end
mutual
def Ok : Pred → Prop
  | mk a t n _ _ ks => (-9223372036854775808 ≤ a ∧ a ≤ 9223372036854775807) ∧ t.size ≤ 9223372036854775807 ∧ (-9223372036854775808 ≤ n ∧ n ≤ 9223372036854775807) ∧ ks.length ≤ 9223372036854775807 ∧ Oks ks
def Oks : List Pred → Prop
  | [] => True
  | k :: ks => Ok k ∧ Oks ks
end
abbrev cs (p : Pred) : List C := [ic p.op, .p (.v (.string p.text)), ic p.n, .p (.v (.complex .f64 p.re p.im)), .p (.sl (rows p.kids))]
abbrev a (p : Pred) : A := .agg p.cs
abbrev la (p : Pred) : A := .agg [ic p.op, .p (.v (.string p.text)), ic p.n, .p (.v (.float .f64 p.re)), .p (.v (.float .f64 p.im)), .p (.sl (lrows p.kids))]
theorem row_eq (p : Pred) : row p = [ip p.op, .v (.string p.text), ip p.n, .v (.complex .f64 p.re p.im), .sl (rows p.kids)] := by cases p; rw [row, rows0_eq]; rfl
theorem lrow_eq (p : Pred) : lrow p = [ip p.op, .v (.string p.text), ip p.n, .v (.float .f64 p.re), .v (.float .f64 p.im), .sl (lrows p.kids)] := by cases p; rw [lrow]; rfl
theorem rows_eq (l : List Pred) : rows l = l.map row := rfl
theorem lrows_eq (l : List Pred) : lrows l = l.map lrow := by induction l with | nil => rw [lrows]; rfl | cons a l ih => rw [lrows, ih]; rfl
theorem size_eq (p : Pred) : p.size = sizes p.kids + 1 := by cases p; rw [size]; rfl
theorem depth_eq (p : Pred) : p.depth = depths p.kids + 1 := by cases p; rw [depth]; rfl
theorem sizes_app (l m : List Pred) : sizes (l ++ m) = sizes l + sizes m := by
  induction l with
  | nil => rw [sizes]; simp
  | cons a l ih => rw [List.cons_append, sizes, sizes, ih]; omega
theorem sizes_nil : sizes [] = 0 := by rw [sizes]
theorem sizes_one (p : Pred) : sizes [p] = p.size := by rw [sizes, sizes_nil]; rfl
theorem depths_nil : depths [] = 0 := by rw [depths]
theorem depths_app (l m : List Pred) : depths (l ++ m) = max (depths l) (depths m) := by
  induction l with
  | nil => rw [depths_nil]; simp
  | cons a l ih => rw [List.cons_append, depths, depths, ih]; omega
theorem depths_one (p : Pred) : depths [p] = p.depth := by rw [depths, depths_nil]; omega
theorem size_mem {l : List Pred} {k : Pred} (h : k ∈ l) : k.size ≤ sizes l := by
  induction l with
  | nil => cases h
  | cons a l ih => rw [sizes]; rcases List.mem_cons.1 h with rfl | h
                   · omega
                   · have := ih h; omega
theorem size_kid {p : Pred} {j : Nat} (h : j < p.kids.length) : p.kids[j].size < p.size := by
  have := size_mem (List.getElem_mem h); rw [size_eq p]; omega
theorem size_pos (p : Pred) : 0 < p.size := by rw [size_eq]; omega
theorem len_sizes (l : List Pred) : l.length ≤ sizes l := by
  induction l with
  | nil => simp
  | cons a l ih => rw [sizes]; have := size_pos a; simp; omega
theorem Oks_mem {l : List Pred} (h : Oks l) {k : Pred} (hk : k ∈ l) : Ok k := by
  induction l with
  | nil => cases hk
  | cons a l ih => rw [Oks] at h; rcases List.mem_cons.1 hk with rfl | hk
                   · exact h.1
                   · exact ih h.2 hk
theorem Oks_of {l : List Pred} (h : ∀ k ∈ l, Ok k) : Oks l := by
  induction l with
  | nil => rw [Oks]; trivial
  | cons a l ih => rw [Oks]; exact ⟨h a (by simp), ih fun k hk => h k (by simp [hk])⟩
theorem Ok.kids {p : Pred} (h : p.Ok) : Oks p.kids := by cases p; rw [Ok] at h; exact h.2.2.2.2
theorem Ok.kid {p : Pred} (h : p.Ok) {j : Nat} (hj : j < p.kids.length) : p.kids[j].Ok := Oks_mem h.kids (List.getElem_mem hj)
theorem Ok.text {p : Pred} (h : p.Ok) : p.text.size ≤ 9223372036854775807 := by cases p; rw [Ok] at h; exact h.2.1
theorem Ok.len {p : Pred} (h : p.Ok) : p.kids.length ≤ 9223372036854775807 := by cases p; rw [Ok] at h; exact h.2.2.2.1
theorem Ok.op {p : Pred} (h : p.Ok) : -9223372036854775808 ≤ p.op ∧ p.op ≤ 9223372036854775807 := by cases p; rw [Ok] at h; exact h.1
theorem Ok.n {p : Pred} (h : p.Ok) : -9223372036854775808 ≤ p.n ∧ p.n ≤ 9223372036854775807 := by cases p; rw [Ok] at h; exact h.2.2.1
theorem len_rows (l : List Pred) : lenL (rows l) = (l.length : Int) := by rw [rows_eq, lenL_map]
theorem len_lrows (l : List Pred) : lenL (lrows l) = (l.length : Int) := by rw [lrows_eq, lenL_map]
theorem lenB_rows {l : List Pred} {j : Nat} (h : j < l.length) : lenB (rows l) (j : Int) = true := by rw [rows_eq]; exact lenB_map h
theorem lenB_lrows {l : List Pred} {j : Nat} (h : j < l.length) : lenB (lrows l) (j : Int) = true := by rw [lrows_eq]; exact lenB_map h
theorem at_rows {l : List Pred} {j : Nat} (h : j < l.length) : E.rowAt (rows l) (j : Int) = [ip l[j].op, .v (.string l[j].text), ip l[j].n, .v (.complex .f64 l[j].re l[j].im), .sl (rows l[j].kids)] := by
  rw [rows_eq, rowAt_map h, row_eq]
theorem at_lrows {l : List Pred} {j : Nat} (h : j < l.length) : E.rowAt (lrows l) (j : Int) = [ip l[j].op, .v (.string l[j].text), ip l[j].n, .v (.float .f64 l[j].re), .v (.float .f64 l[j].im), .sl (lrows l[j].kids)] := by
  rw [lrows_eq, rowAt_map h, lrow_eq]
theorem take_sizes {l : List Pred} {j : Nat} (h : j < l.length) : sizes (l.take (j + 1)) = sizes (l.take j) + l[j].size := by
  rw [List.take_succ_eq_append_getElem h, sizes_app, sizes_one]
theorem take_sizes_le (l : List Pred) (j : Nat) : sizes (l.take j) ≤ sizes l := by
  have := sizes_app (l.take j) (l.drop j); rw [List.take_append_drop] at this; omega
theorem take_depths {l : List Pred} {j : Nat} (h : j < l.length) : depths (l.take (j + 1)) = max (depths (l.take j)) l[j].depth := by
  rw [List.take_succ_eq_append_getElem h, depths_app, depths_one]
theorem depth_le_size : ∀ (p : Pred), p.depth ≤ p.size := by
  have key : ∀ (n : Nat) (p : Pred), p.size ≤ n → p.depth ≤ p.size := by
    intro n
    induction n with
    | zero => intro p h; have := size_pos p; omega
    | succ n ih =>
      intro p h
      rw [size_eq] at h ⊢; rw [depth_eq]
      have : ∀ l : List Pred, sizes l ≤ n → depths l ≤ sizes l := by
        intro l
        induction l with
        | nil => intro _; rw [depths_nil]; omega
        | cons a l ihl => intro hl; rw [sizes] at hl ⊢; rw [depths]; have := ih a (by omega); have := ihl (by omega); omega
      have := this p.kids (by omega)
      omega
  exact fun p => key p.size p (Nat.le_refl _)
end Pred
open Pred
attribute [irreducible] Pred.lrows Pred.size Pred.sizes Pred.depth Pred.depths Pred.Ok Pred.Oks
def leftV (p : Pred) (m : Int) : Int := if (p.size : Int) ≤ m then m - p.size else -1
theorem wrAdd {a b : Nat} (h : a + b < 9223372036854775807) : wr .i64 ((a : Int) + (b : Int)) = ((a + b : Nat) : Int) := by rw [wr64 (by omega) (by omega)]; omega
theorem rsize_ok {X : Task → Prop} (hX : Closed X) : ∀ (N : Nat) {p : Pred} {Q : A → List Blk → Prop}, p.size ≤ N → p.size ≤ 1000 → Q (iv p.size) [] → X (.call 92 [p.a] [] Q)
  | 0, p, _, h, _, _ => absurd h (by have := size_pos p; omega)
  | N + 1, p, Q, h, h1, hQ => by
    refine call_intro hX Try.func92 rfl rfl ?_
    repeat' ((conv => whnf); first | exact hQ | refine eqv_id ?_ | refine Two.l ?_ | refine ⟨by kernel_rfl, ?_⟩ | refine bct (by assumption) ?_ | refine bcf (by assumption) ?_ | refine bcf (nt (by assumption)) ?_ | refine bct (nf (by assumption)) ?_)
    have hsz := size_eq p
    have hln := len_sizes p.kids
    refine range_loop (fun j (n : Nat) => pad [(1, .one (.ptr 0 0)), (1, iv (n : Int)), (0, iv (j : Int))] 16) (fun _ _ => [.box p.cs]) (fun j n => n = 1 + sizes (p.kids.take j)) p.kids.length (fun j n hj hI ih => ?_) (fun n hI => ?_) 1 (by rw [List.take_zero, sizes_nil])
    · have q1 : ltI (j : Int) (lenL (rows p.kids)) = true := by rw [len_rows, ltI_t]; omega
      have q2 := lenB_rows hj
      have hk := size_kid hj
      have ht := take_sizes hj
      have hl := take_sizes_le p.kids (j + 1)
      refine loop_intro hX ?_
      repeat' ((conv => whnf); first | exact hQ | refine eqv_id ?_ | refine Two.l ?_ | refine ⟨by kernel_rfl, ?_⟩ | refine bct (by assumption) ?_ | refine bcf (by assumption) ?_ | refine bcf (nt (by assumption)) ?_ | refine bct (nf (by assumption)) ?_ | (rw [at_rows hj]) | refine rsize_ok hX N (p := p.kids[j]) (by omega) (by omega) ?_ | (rw [wrS (by omega), wrAdd (by omega)]; exact ih _ (by omega)))
    · have q1 : ltI (p.kids.length : Int) (lenL (rows p.kids)) = false := by rw [len_rows, ltI_f]; omega
      rw [List.take_length] at hI
      refine loop_intro hX ?_
      repeat' ((conv => whnf); first | exact hQ | refine eqv_id ?_ | refine Two.l ?_ | refine ⟨by kernel_rfl, ?_⟩ | refine bct (by assumption) ?_ | refine bcf (by assumption) ?_ | refine bcf (nt (by assumption)) ?_ | refine bct (nf (by assumption)) ?_ | (exact Qi hQ (by omega)))
theorem left_ok {X : Task → Prop} (hX : Closed X) : ∀ (N : Nat) {p : Pred} {m : Int} {Q : A → List Blk → Prop}, p.size ≤ N → p.Ok → m ≤ 1000 → -1000 ≤ m → Q (iv (leftV p m)) [] → X (.call 84 [p.la, iv m] [] Q)
  | 0, p, _, _, h, _, _, _, _ => absurd h (by have := size_pos p; omega)
  | N + 1, p, m, Q, h, ok, h1, h2, hQ => by
    have hsz := size_eq p
    refine call_intro hX Try.func84 rfl rfl ?_
    cases q1 : leI m 0 with
    | true => repeat' ((conv => whnf); first | exact hQ | refine eqv_id ?_ | refine Two.l ?_ | refine ⟨by kernel_rfl, ?_⟩ | refine bct (by assumption) ?_ | refine bcf (by assumption) ?_ | refine bcf (nt (by assumption)) ?_ | refine bct (nf (by assumption)) ?_ | (exact Qi hQ (by unfold leftV; rw [leI_t] at q1; rw [if_neg (by omega)])))
    | false =>
      repeat' ((conv => whnf); first | exact hQ | refine eqv_id ?_ | refine Two.l ?_ | refine ⟨by kernel_rfl, ?_⟩ | refine bct (by assumption) ?_ | refine bcf (by assumption) ?_ | refine bcf (nt (by assumption)) ?_ | refine bct (nf (by assumption)) ?_)
      (conv => whnf)
      rw [leI_f] at q1
      rw [wr64 (n := m - 1) (by omega) (by omega)]
      have hln := ok.len
      refine range_loop (fun j (n : Int) => pad [(1, iv n), (0, .one (.ptr 0 0)), (2, iv (j : Int))] 21) (fun _ _ => [.box [ic p.op, .p (.v (.string p.text)), ic p.n, .p (.v (.float .f64 p.re)), .p (.v (.float .f64 p.im)), .p (.sl (lrows p.kids))]]) (fun j n => n = m - 1 - sizes (p.kids.take j) ∧ 0 ≤ n) p.kids.length (fun j n hj hI ih => ?_) (fun n hI => ?_) (m - 1) (by rw [List.take_zero, sizes_nil]; omega)
      · have q1 : ltI (j : Int) (lenL (lrows p.kids)) = true := by rw [len_lrows, ltI_t]; omega
        have q2 := lenB_lrows hj
        have hk := size_kid hj
        have ht := take_sizes hj
        have hl := take_sizes_le p.kids (j + 1)
        obtain ⟨hI, hn⟩ := hI
        refine loop_intro hX ?_
        by_cases hle : (p.kids[j].size : Int) ≤ n
        · have e : leftV p.kids[j] n = n - p.kids[j].size := if_pos hle
          have q3 : ltI (n - p.kids[j].size) 0 = false := ltI_f.2 (by omega)
          repeat' ((conv => whnf); first | exact hQ | refine eqv_id ?_ | refine Two.l ?_ | refine ⟨by kernel_rfl, ?_⟩ | refine bct (by assumption) ?_ | refine bcf (by assumption) ?_ | refine bcf (nt (by assumption)) ?_ | refine bct (nf (by assumption)) ?_ | (rw [at_lrows hj]) | (refine left_ok hX N (p := p.kids[j]) (by omega) (ok.kid hj) (by omega) (by omega) ?_; rw [e]) | (rw [wrS (by omega)]; exact ih _ (by omega)))
        · have e : leftV p.kids[j] n = -1 := if_neg hle
          repeat' ((conv => whnf); first | exact hQ | refine eqv_id ?_ | refine Two.l ?_ | refine ⟨by kernel_rfl, ?_⟩ | refine bct (by assumption) ?_ | refine bcf (by assumption) ?_ | refine bcf (nt (by assumption)) ?_ | refine bct (nf (by assumption)) ?_ | (exact Qi hQ (by unfold leftV; rw [if_neg (by omega)])) | (rw [at_lrows hj]) | (refine left_ok hX N (p := p.kids[j]) (by omega) (ok.kid hj) (by omega) (by omega) ?_; rw [e]))
      · have q1 : ltI (p.kids.length : Int) (lenL (lrows p.kids)) = false := by rw [len_lrows, ltI_f]; omega
        rw [List.take_length] at hI
        refine loop_intro hX ?_
        repeat' ((conv => whnf); first | exact hQ | refine eqv_id ?_ | refine Two.l ?_ | refine ⟨by kernel_rfl, ?_⟩ | refine bct (by assumption) ?_ | refine bcf (by assumption) ?_ | refine bcf (nt (by assumption)) ?_ | refine bct (nf (by assumption)) ?_ | (exact Qi hQ (by unfold leftV; rw [if_pos (by omega)]; omega)))
theorem small_ok {X : Task → Prop} (hX : Closed X) {p : Pred} {Q : A → List Blk → Prop} (ok : p.Ok) (hQ : Q (iv (if p.size ≤ 60 then 1 else 0)) []) : X (.call 30 [p.la] [] Q) := by
  refine call_intro hX Try.func30 rfl rfl ?_
  by_cases hle : p.size ≤ 60
  · have e : leftV p 60 = 60 - p.size := if_pos (by omega)
    have q1 : ltI (60 - (p.size : Int)) 0 = false := ltI_f.2 (by omega)
    repeat' ((conv => whnf); first | exact hQ | refine eqv_id ?_ | refine Two.l ?_ | refine ⟨by kernel_rfl, ?_⟩ | refine bct (by assumption) ?_ | refine bcf (by assumption) ?_ | refine bcf (nt (by assumption)) ?_ | refine bct (nf (by assumption)) ?_ | (exact Qi hQ (if_pos hle)) | (refine left_ok hX p.size (p := p) (Nat.le_refl _) ok (by omega) (by omega) ?_; rw [e]))
  · have e : leftV p 60 = -1 := if_neg (by omega)
    repeat' ((conv => whnf); first | exact hQ | refine eqv_id ?_ | refine Two.l ?_ | refine ⟨by kernel_rfl, ?_⟩ | refine bct (by assumption) ?_ | refine bcf (by assumption) ?_ | refine bcf (nt (by assumption)) ?_ | refine bct (nf (by assumption)) ?_ | (exact Qi hQ (if_neg hle)) | (refine left_ok hX p.size (p := p) (Nat.le_refl _) ok (by omega) (by omega) ?_; rw [e]))
theorem rows_take {l : List Pred} {j : Nat} (h : j < l.length) : catL (rows (l.take j)) [[ip l[j].op, .v (.string l[j].text), ip l[j].n, .v (.complex .f64 l[j].re l[j].im), .sl (rows l[j].kids)]] = rows (l.take (j + 1)) := by
  unfold catL
  rw [rows_eq, rows_eq (l.take (j + 1)), List.take_succ_eq_append_getElem h, List.map_append, List.map_cons, List.map_nil, row_eq]
theorem lpred_ok {X : Task → Prop} (hX : Closed X) : ∀ (N : Nat) {p : Pred} {Q : A → List Blk → Prop}, p.size ≤ N → p.size ≤ 1000 → p.Ok → Q p.a [] → X (.call 31 [p.la] [] Q)
  | 0, p, _, h, _, _, _ => absurd h (by have := size_pos p; omega)
  | N + 1, p, Q, h, h1, ok, hQ => by
    refine call_nz hX ?_
    (conv => whnf)
    refine call_intro hX Try.func31 rfl rfl ?_
    repeat' ((conv => whnf); first | exact hQ | refine eqv_id ?_ | refine Two.l ?_ | refine ⟨by kernel_rfl, ?_⟩ | refine bct (by assumption) ?_ | refine bcf (by assumption) ?_ | refine bcf (nt (by assumption)) ?_ | refine bct (nf (by assumption)) ?_)
    have hsz := size_eq p
    have hln := len_sizes p.kids
    refine loop_intro hX ?_
    by_cases h0 : 0 < p.kids.length
    · have q1 : ltI 0 (lenL (lrows p.kids)) = true := by rw [len_lrows, ltI_t]; omega
      have q2 : lenB (lrows p.kids) 0 = true := lenB_lrows h0
      have q3 := at_lrows h0
      have hk := size_kid h0
      repeat' ((conv => whnf); first | exact hQ | refine eqv_id ?_ | refine Two.l ?_ | refine ⟨by kernel_rfl, ?_⟩ | refine bct (by assumption) ?_ | refine bcf (by assumption) ?_ | refine bcf (nt (by assumption)) ?_ | refine bct (nf (by assumption)) ?_ | (erw [q3]) | refine lpred_ok hX N (p := p.kids[0]) (by omega) (by omega) (ok.kid h0) ?_ | refine bct (room2 (by decide) rfl rfl rfl) ?_)
      all_goals (conv => whnf)
      have e0 : rows (p.kids.take 0) = [] := by rw [List.take_zero, rows_eq]; rfl
      have e1 := rows_take h0
      rw [e0] at e1
      refine range_from (fun j (_ : Rw) => pad [(1, .one (.ptr 0 0)), (0, .one (.ptr 1 0)), (0, .one (.ptr 3 0)), (0, iv (j : Int))] 31) (fun j r => [.box [ic p.op, .p (.v (.string p.text)), ic p.n, .p (.v (.float .f64 p.re)), .p (.v (.float .f64 p.im)), .p (.sl (lrows p.kids))], .box [ic 0, .p (.v (.string ⟨#[]⟩)), ic 0, .p (.v (.complex .f64 0 0)), .own 2], .rows 0 [], .box [ic p.op, .p (.v (.string p.text)), ic p.n, .p (.v (.complex .f64 p.re p.im)), .own 4], .rows r.k r.l]) (fun j r => r.k = 5 ∧ r.l = rows (p.kids.take j)) p.kids.length 1 (by omega) (fun j r hj1 hj hI ih => ?_) (fun r hI => ?_) ⟨_, _⟩ ⟨rfl, e1⟩
      · obtain ⟨rk, rl⟩ := r
        obtain ⟨rfl, rfl⟩ := hI
        have q1 : ltI (j : Int) (lenL (lrows p.kids)) = true := by rw [len_lrows, ltI_t]; omega
        have q2 := lenB_lrows hj
        have hk := size_kid hj
        have hlr : (rows (p.kids.take j)).length ≤ 1000 := by rw [rows_eq, List.length_map, List.length_take]; omega
        have e3 := rows_take hj
        refine loop_intro hX ?_
        repeat' ((conv => whnf); first | exact hQ | refine eqv_id ?_ | refine Two.l ?_ | refine ⟨by kernel_rfl, ?_⟩ | refine bct (by assumption) ?_ | refine bcf (by assumption) ?_ | refine bcf (nt (by assumption)) ?_ | refine bct (nf (by assumption)) ?_ | (rw [at_lrows hj]) | refine lpred_ok hX N (p := p.kids[j]) (by omega) (by omega) (ok.kid hj) ?_ | refine bct (room3 (Nat.le_trans hlr (by decide)) rfl rfl rfl rfl) ?_ | (rw [wrS (by omega)]; exact ih ⟨_, _⟩ ⟨rfl, e3⟩))
      · obtain ⟨rk, rl⟩ := r
        obtain ⟨rfl, rfl⟩ := hI
        have q1 : ltI (p.kids.length : Int) (lenL (lrows p.kids)) = false := by rw [len_lrows, ltI_f]; omega
        rw [List.take_length]
        refine loop_intro hX ?_
        repeat' ((conv => whnf); first | exact hQ | refine eqv_id ?_ | refine Two.l ?_ | refine ⟨by kernel_rfl, ?_⟩ | refine bct (by assumption) ?_ | refine bcf (by assumption) ?_ | refine bcf (nt (by assumption)) ?_ | refine bct (nf (by assumption)) ?_)
    · have q1 : ltI 0 (lenL (lrows p.kids)) = false := by rw [len_lrows, ltI_f]; omega
      have e : p.kids = [] := List.eq_nil_of_length_eq_zero (by omega)
      have e2 : rows p.kids = [] := by rw [e, rows_eq]; rfl
      simp only [Pred.a, Pred.cs, e2] at hQ
      repeat' ((conv => whnf); first | exact hQ | refine eqv_id ?_ | refine Two.l ?_ | refine ⟨by kernel_rfl, ?_⟩ | refine bct (by assumption) ?_ | refine bcf (by assumption) ?_ | refine bcf (nt (by assumption)) ?_ | refine bct (nf (by assumption)) ?_)
theorem rdepth_ok {X : Task → Prop} (hX : Closed X) : ∀ (N : Nat) {p : Pred} {Q : A → List Blk → Prop}, p.size ≤ N → p.size ≤ 1000 → Q (iv p.depth) [] → X (.call 93 [p.a] [] Q)
  | 0, p, _, h, _, _ => absurd h (by have := size_pos p; omega)
  | N + 1, p, Q, h, h1, hQ => by
    refine call_intro hX Try.func93 rfl rfl ?_
    repeat' ((conv => whnf); first | exact hQ | refine eqv_id ?_ | refine Two.l ?_ | refine ⟨by kernel_rfl, ?_⟩ | refine bct (by assumption) ?_ | refine bcf (by assumption) ?_ | refine bcf (nt (by assumption)) ?_ | refine bct (nf (by assumption)) ?_)
    have hsz := size_eq p
    have hde := depth_eq p
    have hds := depth_le_size p
    have hln := len_sizes p.kids
    refine range_loop (fun j (n : Nat) => pad [(1, .one (.ptr 0 0)), (1, iv (n : Int)), (0, iv (j : Int))] 20) (fun _ _ => [.box p.cs]) (fun j n => n = 1 + depths (p.kids.take j)) p.kids.length (fun j n hj hI ih => ?_) (fun n hI => ?_) 1 (by rw [List.take_zero, depths_nil])
    · have q1 : ltI (j : Int) (lenL (rows p.kids)) = true := by rw [len_rows, ltI_t]; omega
      have q2 := lenB_rows hj
      have hk := size_kid hj
      have ht := take_depths hj
      have hd1 := depth_le_size p.kids[j]
      have e : wr .i64 (1 + (p.kids[j].depth : Int)) = ((1 + p.kids[j].depth : Nat) : Int) := by rw [wr64 (by omega) (by omega)]; omega
      refine loop_intro hX ?_
      by_cases hlt : n < 1 + p.kids[j].depth
      · have q3 : ltI (n : Int) ((1 + p.kids[j].depth : Nat) : Int) = true := ltI_t.2 (by omega)
        rw [← e] at q3
        repeat' ((conv => whnf); first | exact hQ | refine eqv_id ?_ | refine Two.l ?_ | refine ⟨by kernel_rfl, ?_⟩ | refine bct (by assumption) ?_ | refine bcf (by assumption) ?_ | refine bcf (nt (by assumption)) ?_ | refine bct (nf (by assumption)) ?_ | (rw [at_rows hj]) | refine rdepth_ok hX N (p := p.kids[j]) (by omega) (by omega) ?_ | (rw [wrS (by omega), e]; exact ih _ (by omega)))
      · have q3 : ltI (n : Int) ((1 + p.kids[j].depth : Nat) : Int) = false := ltI_f.2 (by omega)
        rw [← e] at q3
        repeat' ((conv => whnf); first | exact hQ | refine eqv_id ?_ | refine Two.l ?_ | refine ⟨by kernel_rfl, ?_⟩ | refine bct (by assumption) ?_ | refine bcf (by assumption) ?_ | refine bcf (nt (by assumption)) ?_ | refine bct (nf (by assumption)) ?_ | (rw [at_rows hj]) | refine rdepth_ok hX N (p := p.kids[j]) (by omega) (by omega) ?_ | (rw [wrS (by omega)]; exact ih _ (by omega)))
    · have q1 : ltI (p.kids.length : Int) (lenL (rows p.kids)) = false := by rw [len_rows, ltI_f]; omega
      rw [List.take_length] at hI
      refine loop_intro hX ?_
      repeat' ((conv => whnf); first | exact hQ | refine eqv_id ?_ | refine Two.l ?_ | refine ⟨by kernel_rfl, ?_⟩ | refine bct (by assumption) ?_ | refine bcf (by assumption) ?_ | refine bcf (nt (by assumption)) ?_ | refine bct (nf (by assumption)) ?_ | (exact Qi hQ (by omega)))
mutual
def sameP : Pred → Pred → Bool
  | .mk a t n x y ks, q => eqI a q.op && (eqS t q.text && (eqI n q.n && ((eqFl .f64 x q.re && eqFl .f64 y q.im) && sameL ks q.kids)))
def sameL : List Pred → List Pred → Bool
  | [], [] => true
  | k :: ks, m :: ms => sameP k m && sameL ks ms
  | [], _ :: _ => false
  | _ :: _, [] => false
end
theorem sameP_eq (p q : Pred) : sameP p q = (eqI p.op q.op && (eqS p.text q.text && (eqI p.n q.n && ((eqFl .f64 p.re q.re && eqFl .f64 p.im q.im) && sameL p.kids q.kids)))) := by cases p; rw [sameP]; rfl
theorem sameL_of : ∀ {l m : List Pred} (hlen : l.length = m.length), (∀ j (h : j < l.length), sameP l[j] (m[j]'(by omega)) = true) → sameL l m = true
  | [], [], _, _ => by rw [sameL]
  | k :: ks, m :: ms, hl, h => by
    rw [sameL, Bool.and_eq_true]
    exact ⟨h 0 (by simp), sameL_of (by simpa using hl) fun j hj => h (j + 1) (by simpa using hj)⟩
  | [], _ :: _, hl, _ => by simp at hl
  | _ :: _, [], hl, _ => by simp at hl
theorem sameL_len : ∀ {l m : List Pred}, l.length ≠ m.length → sameL l m = false
  | [], [], h => absurd rfl h
  | k :: ks, m :: ms, h => by rw [sameL, sameL_len (l := ks) (m := ms) (by simpa using h), Bool.and_false]
  | [], _ :: _, _ => by rw [sameL]
  | _ :: _, [], _ => by rw [sameL]
theorem sameL_bad : ∀ {l m : List Pred} (hlen : l.length = m.length) {j : Nat} (h : j < l.length), sameP l[j] (m[j]'(by omega)) = false → sameL l m = false
  | k :: ks, m :: ms, hl, 0, _, h => by rw [sameL]; simp only [List.getElem_cons_zero] at h; rw [h]; rfl
  | k :: ks, m :: ms, hl, j + 1, hj, h => by rw [sameL, sameL_bad (l := ks) (m := ms) (by simpa using hl) (j := j) (by simpa using hj) h, Bool.and_false]
theorem rsame_pred_ok {X : Task → Prop} (hX : Closed X) : ∀ (N : Nat) {p q : Pred} {Q : A → List Blk → Prop}, p.size ≤ N → p.Ok → Q (bv (sameP p q)) [] → X (.call 36 [p.a, q.a] [] Q)
  | 0, p, _, _, h, _, _ => absurd h (by have := size_pos p; omega)
  | N + 1, p, q, Q, h, ok, hQ => by
    by_cases hlen : p.kids.length = q.kids.length
    rotate_left
    · have hf : sameP p q = false := by rw [sameP_eq, sameL_len hlen]; simp
      have q5 : eqI (lenL (rows p.kids)) (lenL (rows q.kids)) = false := by rw [len_rows, len_rows, eqI_f]; omega
      refine call_intro hX Try.func36 rfl rfl ?_
      repeat' ((conv => whnf); first | exact hQ | refine eqv_id ?_ | refine Two.l ?_ | refine ⟨by kernel_rfl, ?_⟩ | refine bct (by assumption) ?_ | refine bcf (by assumption) ?_ | refine bcf (nt (by assumption)) ?_ | refine bct (nf (by assumption)) ?_ | (exact Qb hQ hf) | refine bc (fun _ => ?_) (fun _ => ?_))
    have q5 : eqI (lenL (rows p.kids)) (lenL (rows q.kids)) = true := by rw [len_rows, len_rows, eqI_t]; omega
    refine call_intro hX Try.func36 rfl rfl ?_
    repeat' ((conv => whnf); first | exact hQ | refine eqv_id ?_ | refine Two.l ?_ | refine ⟨by kernel_rfl, ?_⟩ | refine bct (by assumption) ?_ | refine bcf (by assumption) ?_ | refine bcf (nt (by assumption)) ?_ | refine bct (nf (by assumption)) ?_ | (refine Qb hQ ?_; rw [sameP_eq]; cases h7 : eqFl .f64 p.re q.re <;> cases h8 : eqFl .f64 p.im q.im <;> simp_all; done) | refine bc (fun _ => ?_) (fun _ => ?_))
    have hln := ok.len
    have hk := fun (j : Nat) (hj : j < p.kids.length) => size_kid hj
    refine range_loop (fun j (_ : Unit) => pad [(2, .one (.ptr 0 0)), (0, .one (.ptr 1 0)), (1, iv (j : Int))] 67) (fun _ _ => [.box p.cs, .box q.cs]) (fun j _ => ∀ i (hi : i < p.kids.length), i < j → sameP p.kids[i] (q.kids[i]'(by omega)) = true) p.kids.length (fun j st hj hI ih => ?_) (fun st hI => ?_) () (fun i hi h => absurd h (Nat.not_lt_zero _))
    · have q1 : ltI (j : Int) (lenL (rows p.kids)) = true := by rw [len_rows, ltI_t]; omega
      have q2 := lenB_rows hj
      have hj' : j < q.kids.length := by omega
      have q3 := lenB_rows hj'
      have hk := hk j hj
      refine loop_intro hX ?_
      cases hs : sameP p.kids[j] q.kids[j] with
      | true => repeat' ((conv => whnf); first | exact hQ | refine eqv_id ?_ | refine Two.l ?_ | refine ⟨by kernel_rfl, ?_⟩ | refine bct (by assumption) ?_ | refine bcf (by assumption) ?_ | refine bcf (nt (by assumption)) ?_ | refine bct (nf (by assumption)) ?_ | (rw [at_rows hj]) | (rw [at_rows hj']) | (refine rsame_pred_ok hX N (p := p.kids[j]) (q := q.kids[j]) (by omega) (ok.kid hj) ?_; rw [hs]) | (rw [wrS (by omega)]; refine ih () (fun i hi hij => ?_); rcases Nat.lt_succ_iff_lt_or_eq.1 hij with h' | rfl; exact hI i hi h'; exact hs))
      | false => repeat' ((conv => whnf); first | exact hQ | refine eqv_id ?_ | refine Two.l ?_ | refine ⟨by kernel_rfl, ?_⟩ | refine bct (by assumption) ?_ | refine bcf (by assumption) ?_ | refine bcf (nt (by assumption)) ?_ | refine bct (nf (by assumption)) ?_ | (exact Qb hQ (by rw [sameP_eq, sameL_bad hlen hj hs]; simp)) | (rw [at_rows hj]) | (rw [at_rows hj']) | (refine rsame_pred_ok hX N (p := p.kids[j]) (q := q.kids[j]) (by omega) (ok.kid hj) ?_; rw [hs]))
    · have q1 : ltI (p.kids.length : Int) (lenL (rows p.kids)) = false := by rw [len_rows, ltI_f]; omega
      have hs := sameL_of hlen (fun j hj => hI j hj hj)
      refine loop_intro hX ?_
      repeat' ((conv => whnf); first | exact hQ | refine eqv_id ?_ | refine Two.l ?_ | refine ⟨by kernel_rfl, ?_⟩ | refine bct (by assumption) ?_ | refine bcf (by assumption) ?_ | refine bcf (nt (by assumption)) ?_ | refine bct (nf (by assumption)) ?_ | (refine Qb hQ ?_; rw [sameP_eq, hs]; simp_all; done))
attribute [irreducible] sameP sameL leftV
end Go.Proofs.Ytijkfjahgijphaa
