/- Bytes and sums: what the functions of code, and the document's answer for them, compute. -/
import Derived.Test.YtjapbanelfcjhaaTab
import Derived.Test.YtjapbanelfcjhaaCodeN
set_option linter.unusedVariables false
set_option linter.unusedSimpArgs false
set_option maxRecDepth 100000
namespace Go.Proofs.Ytjapbanelfcjhaa.C
open Go E N
def Hh : List (Nat × Nat × List Nat) := [(58, 8, [3, 0]), (59, 8, [3, 0]), (62, 1006, [0, 3, 0]), (63, 3, [0, 3]), (63, 9, [0, 3, 0, 0]), (68, 4, [3, 3, 0, 0]), (68, 8, [3, 3, 0, 0, 7]), (69, 4, [0, 2, 0]), (69, 8, [0, 2, 0, 0]), (71, 5, [3, 0, 0])]
def KO : List Nat := [58]
def noPrim : Nat → List A → A → Prop := fun _ _ _ => False
abbrev Closed (X : Task → Prop) : Prop := ∀ t, Step T Hh KO X Try.prog noPrim t → X t
abbrev iv (n : Int) : A := .one (.p (.v (.int .i64 n)))
abbrev ic (n : Int) : C := .p (.v (.int .i64 n))
abbrev bv (b : Bool) : A := .one (.p (.v (.bool b)))
abbrev er (n : Int) : A := .one (.p (.v (.iface 31 (.int .i64 n))))
abbrev ne : A := .one (.p (.v .nilIface))
abbrev u32 (n : Int) : A := .one (.p (.v (.int .u32 n)))
abbrev sl (l : List (List PC)) : A := .one (.p (.sl l))
theorem Qa {Q : A → List Blk → Prop} {b b' : A} (h : Q b []) (e : b' = b) : Q b' [] := e ▸ h
def bRow (x : Nat) : List PC := [.v (.int .u8 (x : Int))]
abbrev bs (xs : List Nat) : List (List PC) := xs.map bRow
def BytesP (c : PC) (xs : List Nat) : Prop := (c = .sl (bs xs) ∨ (c = .v (.slice none 0 0) ∧ xs = [])) ∧ ∀ x ∈ xs, x < 256
/-! plain facts of rows of bytes -/
theorem len_bs (xs : List Nat) : lenL (bs xs) = (xs.length : Int) := by unfold lenL; simp
theorem at_bs {xs : List Nat} {j : Nat} (h : j < xs.length) : E.rowAt (bs xs) (j : Int) = [.v (.int .u8 ((xs[j] : Nat) : Int))] := by
  unfold E.rowAt
  rw [List.getD_eq_getElem?_getD, Int.toNat_natCast, List.getElem?_map, List.getElem?_eq_getElem h]; rfl
theorem lenB_bs {xs : List Nat} {j : Nat} (h : j < xs.length) : lenB (bs xs) (j : Int) = true := by
  unfold lenB; simp; omega
theorem rowsOk_bs (xs : List Nat) : rowsOk (bs xs) 1 = true := by
  unfold rowsOk; rw [List.all_eq_true]; intro r hr
  obtain ⟨x, _, rfl⟩ := List.mem_map.1 hr; rfl
theorem strOk_bs (xs : List Nat) : strOk (bs xs) = true := by
  unfold strOk; rw [List.all_eq_true]; intro r hr
  obtain ⟨x, _, rfl⟩ := List.mem_map.1 hr; rfl
theorem in_bs (xs : List Nat) (m : Nat) : rowsIn (bs xs) 0 (m : Int) = bs (xs.take m) := by
  unfold rowsIn; simp [List.map_take]
theorem cat_bs (xs ys : List Nat) : catL (bs xs) (bs ys) = bs (xs ++ ys) := by unfold catL; simp
theorem strOf_bs (xs : List Nat) : strOf (bs xs) = ⟨(xs.map UInt8.ofNat).toArray⟩ := by
  unfold strOf; congr 2; rw [List.map_map]
  exact List.map_congr_left fun x _ => by simp [bRow, pcByte, Function.comp]
theorem ofNat_inj {x y : Nat} (hx : x < 256) (hy : y < 256) (h : UInt8.ofNat x = UInt8.ofNat y) : x = y := by
  have := congrArg UInt8.toNat h
  simpa [Nat.mod_eq_of_lt hx, Nat.mod_eq_of_lt hy] using this
theorem map_inj : ∀ {xs ys : List Nat}, (∀ x ∈ xs, x < 256) → (∀ x ∈ ys, x < 256) → xs.map UInt8.ofNat = ys.map UInt8.ofNat → xs = ys
  | [], [], _, _, _ => rfl
  | x :: xs, y :: ys, hx, hy, h => by
    simp only [List.map_cons, List.cons.injEq] at h
    rw [ofNat_inj (hx x (by simp)) (hy y (by simp)) h.1, map_inj (fun z hz => hx z (by simp [hz])) (fun z hz => hy z (by simp [hz])) h.2]
  | [], _ :: _, _, _, h => by simp at h
  | _ :: _, [], _, _, h => by simp at h
theorem eqS_bs {xs ys : List Nat} (hx : ∀ x ∈ xs, x < 256) (hy : ∀ x ∈ ys, x < 256) : eqS (strOf (bs xs)) (strOf (bs ys)) = decide (xs = ys) := by
  rw [Bool.eq_iff_iff, decide_eq_true_iff]
  unfold eqS
  rw [strOf_bs, strOf_bs, beq_iff_eq]
  exact ⟨fun h => map_inj hx hy (by simpa using h), fun h => by rw [h]⟩
theorem room_bs {xs ys : List Nat} (h : xs.length + ys.length ≤ 100000) : (roomFor (bs xs) (bs ys) 1 && rowsOk (bs ys) 1 && (Nat.beq 1 1 || Nat.beq 1 0)) = true :=
  and3 (room1 (by simp; omega)) (rowsOk_bs ys) rfl
structure OS where
  i : Int
  s : Int
theorem crc_at {xs : List Nat} {j n t : Nat} (h : j < xs.length) (he : crc n (xs.drop j) = t) : crc (iter 8 (n ^^^ xs[j])) (xs.drop (j + 1)) = t := by
  rw [List.drop_eq_getElem_cons h] at he; exact he
def InI (n0 : Nat) (o : OS) : Prop := ∃ k n : Nat, o.i = (k : Int) ∧ o.s = (n : Int) ∧ k ≤ 8 ∧ n < 2 ^ 32 ∧ iter (8 - k) n = iter 8 n0
def OutI (xs : List Nat) (o : OS) : Prop := ∃ j n : Nat, o.i = (j : Int) ∧ o.s = (n : Int) ∧ n < 2 ^ 32 ∧ j ≤ xs.length ∧ crc n (xs.drop j) = crc 4294967295 xs
theorem wrS {j : Nat} (h : j ≤ 100000) : wr .i64 ((j : Int) + 1) = ((j + 1 : Nat) : Int) := by rw [wr64 (by omega) (by omega)]; omega
theorem wr32i {n : Nat} (h : n < 256) : wr .u32 (n : Int) = (n : Int) := wr32 (by omega)
theorem in_step {n0 k n : Nat} {z : Int} (hk : k < 8) (hn : n < 2 ^ 32) (he : iter (8 - k) n = iter 8 n0) (hz : z = ((stepN n : Nat) : Int)) : InI n0 ⟨wr .i64 ((k : Int) + 1), z⟩ := by
  refine ⟨k + 1, stepN n, wrS (by omega), hz, by omega, step_lt hn, ?_⟩
  rw [show 8 - k = (8 - (k + 1)) + 1 by omega] at he
  exact he
theorem in_meas {k : Nat} (hk : k < 8) : (8 - wr .i64 ((k : Int) + 1)).toNat < (8 - (k : Int)).toNat := by rw [wrS (by omega)]; omega
theorem out_step {xs : List Nat} {j n : Nat} {z : Int} (hj : j < xs.length) (hl : xs.length ≤ 20000) (hx : ∀ x ∈ xs, x < 256) (hn : n < 2 ^ 32) (he : crc n (xs.drop j) = crc 4294967295 xs) (hz : z = ((iter 8 (n ^^^ xs[j]) : Nat) : Int)) : OutI xs ⟨wr .i64 ((j : Int) + 1), z⟩ :=
  ⟨j + 1, _, wrS (by omega), hz, iter_lt 8 (xor_lt hn (by have := hx _ (List.getElem_mem hj); omega)), by omega, crc_at hj he⟩
theorem out_meas {xs : List Nat} {j : Nat} (hj : j < xs.length) (hl : xs.length ≤ 20000) : ((xs.length : Int) - wr .i64 ((j : Int) + 1)).toNat < ((xs.length : Int) - (j : Int)).toNat := by rw [wrS (by omega)]; omega
section
variable {X : Task → Prop} (hX : Closed X) {Q : A → List Blk → Prop} {c : PC} {xs : List Nat}
include hX
theorem sum_ok (hc : BytesP c xs) (hl : xs.length ≤ 20000) (hQ : Q (u32 (sumN xs)) []) : X (.call 68 [.one (.p c)] [] Q) := by
  obtain ⟨hc, hb⟩ := hc
  refine call_intro hX Try.func68 rfl rfl ?_
  rcases hc with rfl | ⟨rfl, rfl⟩
  · (conv => whnf)
    refine loop_gen (fun o => pad [(3, u32 o.s), (3, sl (bs xs)), (0, iv (lenL (bs xs))), (0, iv o.i)] 21) (fun _ => []) (OutI xs) (fun o => ((xs.length : Int) - o.i).toNat) (fun o hI ihO => ?_) ⟨0, 4294967295⟩ ⟨0, 4294967295, rfl, rfl, by decide, by omega, rfl⟩
    obtain ⟨oi, os⟩ := o
    obtain ⟨j, n, rfl, rfl, hn, hj, he⟩ := hI
    refine loop_intro hX ?_
    by_cases hend : j < xs.length
    · have q1 : ltI (j : Int) (lenL (bs xs)) = true := by rw [len_bs, ltI_t]; omega
      have q2 := lenB_bs hend
      have q3 := at_bs hend
      have hx := hb _ (List.getElem_mem hend)
      repeat' ((conv => whnf); first | refine bct (by assumption) ?_ | refine bcf (by assumption) ?_ | rw [q3])
      refine loop_gen (fun o => pad [(3, u32 o.s), (3, sl (bs xs)), (0, iv (lenL (bs xs))), (0, iv (j : Int)), (7, iv o.i)] 13) (fun _ => []) (InI (n ^^^ xs[j])) (fun o => (8 - o.i).toNat) (fun o hI ih => ?_) ⟨0, _⟩
        ⟨0, n ^^^ xs[j], rfl, by show bitsI .xor .u32 _ (wr .u32 _) = _; rw [wr32i hx, bxor hn (by omega)], by omega, xor_lt hn (by omega), rfl⟩
      obtain ⟨oi, os⟩ := o
      obtain ⟨k, n', rfl, rfl, hk, hn', he'⟩ := hI
      refine loop_intro hX ?_
      by_cases hk8 : k < 8
      · have p1 : ltI (k : Int) 8 = true := ltI_t.2 (by omega)
        by_cases hodd : n' % 2 = 1
        · have p2 : eqI (bitsI .and .u32 (n' : Int) 1) 1 = true := by rw [band1 hn', hodd]; rfl
          repeat' ((conv => whnf); first | refine bct (by assumption) ?_ | refine bcf (by assumption) ?_ | refine ih ⟨_, _⟩ (in_step hk8 hn' he' (by show bitsI .xor .u32 (shrI .u32 _ 1) _ = _; rw [shr1]; unfold stepN; rw [if_pos hodd]; exact bxor (b := poly) (by omega) (by decide))) (in_meas hk8))
        · have p2 : eqI (bitsI .and .u32 (n' : Int) 1) 1 = false := by rw [band1 hn', show n' % 2 = 0 by omega]; rfl
          repeat' ((conv => whnf); first | refine bct (by assumption) ?_ | refine bcf (by assumption) ?_ | refine ih ⟨_, _⟩ (in_step hk8 hn' he' (by show shrI .u32 _ 1 = _; rw [shr1]; unfold stepN; rw [if_neg hodd])) (in_meas hk8))
      · have p1 : ltI (k : Int) 8 = false := ltI_f.2 (by omega)
        have hk' : k = 8 := by omega
        subst hk'
        repeat' ((conv => whnf); first | refine bct (by assumption) ?_ | refine bcf (by assumption) ?_ | refine ihO ⟨_, _⟩ (out_step hend hl hb hn he (by show (n' : Int) = _; rw [← he']; rfl)) (out_meas hend hl))
    · have q1 : ltI (j : Int) (lenL (bs xs)) = false := by rw [len_bs, ltI_f]; omega
      have hj' : j = xs.length := by omega
      subst hj'
      rw [List.drop_length] at he
      repeat' ((conv => whnf); first | refine bct (by assumption) ?_ | refine bcf (by assumption) ?_)
      all_goals (conv => whnf)
      refine Qa hQ ?_
      rw [show sumN xs = 4294967295 ^^^ n by unfold sumN; rw [← he]; rfl]
      exact congrArg (fun z => u32 z) (bxor (a := 4294967295) (by decide) hn)
  · repeat' ((conv => whnf); first | exact hQ | refine loop_intro hX ?_)
theorem rsum_ok (hc : BytesP c xs) (hl : xs.length ≤ 20000) (hQ : Q (u32 (sumN xs)) []) : X (.call 69 [.one (.p c)] [] Q) := by
  obtain ⟨hc, hb⟩ := hc
  refine call_intro hX Try.func69 rfl rfl ?_
  rcases hc with rfl | ⟨rfl, rfl⟩
  · (conv => whnf)
    refine loop_gen (fun o => pad [(0, sl (bs xs)), (2, u32 o.s), (0, iv o.i)] 28) (fun _ => []) (OutI xs) (fun o => ((xs.length : Int) - o.i).toNat) (fun o hI ihO => ?_) ⟨0, 4294967295⟩ ⟨0, 4294967295, rfl, rfl, by decide, by omega, rfl⟩
    obtain ⟨oi, os⟩ := o
    obtain ⟨j, n, rfl, rfl, hn, hj, he⟩ := hI
    refine loop_intro hX ?_
    by_cases hend : j < xs.length
    · have q1 : ltI (j : Int) (lenL (bs xs)) = true := by rw [len_bs, ltI_t]; omega
      have q2 := lenB_bs hend
      have q3 := at_bs hend
      have hx := hb _ (List.getElem_mem hend)
      repeat' ((conv => whnf); first | refine bct (by assumption) ?_ | refine bcf (by assumption) ?_ | rw [q3])
      refine loop_gen (fun o => pad [(0, sl (bs xs)), (2, u32 o.s), (0, iv (j : Int)), (0, iv o.i)] 27) (fun _ => []) (InI (n ^^^ xs[j])) (fun o => (8 - o.i).toNat) (fun o hI ih => ?_) ⟨0, _⟩
        ⟨0, n ^^^ xs[j], rfl, by show bitsI .xor .u32 _ (wr .u32 _) = _; rw [wr32i hx, bxor hn (by omega)], by omega, xor_lt hn (by omega), rfl⟩
      obtain ⟨oi, os⟩ := o
      obtain ⟨k, n', rfl, rfl, hk, hn', he'⟩ := hI
      refine loop_intro hX ?_
      have p0 : eqI 2 0 = false := rfl
      by_cases hk8 : k < 8
      · have p1 : ltI (k : Int) 8 = true := ltI_t.2 (by omega)
        by_cases hodd : n' % 2 = 1
        · have p2 : eqI (tmodI (n' : Int) 2) 1 = true := by rw [tmod2, hodd]; rfl
          repeat' ((conv => whnf); first | refine bct (by assumption) ?_ | refine bcf (by assumption) ?_ | refine ih ⟨_, _⟩ (in_step hk8 hn' he' (by show bitsI .xor .u32 (wr .u32 (tdivI _ 2)) _ = _; rw [tdiv2, wr32 (by omega)]; unfold stepN; rw [if_pos hodd]; exact bxor (b := poly) (by omega) (by decide))) (in_meas hk8))
        · have p2 : eqI (tmodI (n' : Int) 2) 1 = false := by rw [tmod2, show n' % 2 = 0 by omega]; rfl
          repeat' ((conv => whnf); first | refine bct (by assumption) ?_ | refine bcf (by assumption) ?_ | refine ih ⟨_, _⟩ (in_step hk8 hn' he' (by show wr .u32 (tdivI _ 2) = _; rw [tdiv2, wr32 (by omega)]; unfold stepN; rw [if_neg hodd])) (in_meas hk8))
      · have p1 : ltI (k : Int) 8 = false := ltI_f.2 (by omega)
        have hk' : k = 8 := by omega
        subst hk'
        repeat' ((conv => whnf); first | refine bct (by assumption) ?_ | refine bcf (by assumption) ?_ | refine ihO ⟨_, _⟩ (out_step hend hl hb hn he (by show (n' : Int) = _; rw [← he']; rfl)) (out_meas hend hl))
    · have q1 : ltI (j : Int) (lenL (bs xs)) = false := by rw [len_bs, ltI_f]; omega
      have hj' : j = xs.length := by omega
      subst hj'
      rw [List.drop_length] at he
      repeat' ((conv => whnf); first | refine bct (by assumption) ?_ | refine bcf (by assumption) ?_)
      all_goals (conv => whnf)
      refine Qa hQ ?_
      rw [show sumN xs = n ^^^ 4294967295 by unfold sumN; rw [← he, Nat.xor_comm]; rfl]
      exact congrArg (fun z => u32 z) (bxor (b := 4294967295) hn (by decide))
  · repeat' ((conv => whnf); first | exact hQ | refine loop_intro hX ?_)
end
end Go.Proofs.Ytjapbanelfcjhaa.C
