/- What the functions of code compute. -/
import Derived.Test.YtidkmoohgadjkaaBFlt
import Derived.Test.YtidkmoohgadjkaaBCodeN
set_option linter.unusedVariables false
set_option linter.unusedSimpArgs false
set_option maxRecDepth 100000
set_option maxHeartbeats 4000000
namespace Go.Proofs.Ytidkmoohgadjkaa.C
open Go E N
def KO1 : List Nat := [5]
def Hh1 : List (Nat × Nat × List Nat) := (6, 1006, [0, 3, 0]) :: Hh
abbrev Closed (X : Task → Prop) : Prop := ∀ t, Step T Hh1 KO1 X Try.prog prim t → X t
theorem sound1 : Closed (TaskOk Try.prog) := sound T_ok mixedF prim_ok
abbrev er (n : Int) : A := .one (.p (.v (.iface 39 (.int .i64 n))))
abbrev ne : A := .one (.p (.v .nilIface))
abbrev u32 (n : Int) : A := .one (.p (.v (.int .u32 n)))
theorem Qa {Q : A → List Blk → Prop} {b b' : A} (h : Q b []) (e : b' = b) : Q b' [] := e ▸ h
def bRow (x : Nat) : List PC := [.v (.int .u8 (x : Int))]
abbrev bs (xs : List Nat) : List (List PC) := xs.map bRow
def BytesP (c : PC) (xs : List Nat) : Prop := c = .sl (bs xs) ∧ ∀ x ∈ xs, x < 256
theorem len_bs (xs : List Nat) : lenL (bs xs) = (xs.length : Int) := by unfold lenL; simp
theorem at_bs {xs : List Nat} {j : Nat} (h : j < xs.length) : E.rowAt (bs xs) (j : Int) = [.v (.int .u8 ((xs[j] : Nat) : Int))] := by
  unfold E.rowAt
  rw [List.getD_eq_getElem?_getD, Int.toNat_natCast, List.getElem?_map, List.getElem?_eq_getElem h]; rfl
theorem lenB_bs {xs : List Nat} {j : Nat} (h : j < xs.length) : lenB (bs xs) (j : Int) = true := by
  unfold lenB; simp; omega
theorem rowsOk_bs (xs : List Nat) : rowsOk (bs xs) 1 = true := by
  unfold rowsOk; rw [List.all_eq_true]; intro r hr
  obtain ⟨x, _, rfl⟩ := List.mem_map.1 hr; rfl
theorem strOk_bs (xs : List Nat) : strOk (bs xs) = true := by
  unfold strOk; rw [List.all_eq_true]; intro r hr
  obtain ⟨x, _, rfl⟩ := List.mem_map.1 hr; rfl
theorem in_bs (xs : List Nat) (m : Nat) : rowsIn (bs xs) 0 (m : Int) = bs (xs.take m) := by
  unfold rowsIn; simp [List.map_take]
theorem cat_bs (xs ys : List Nat) : catL (bs xs) (bs ys) = bs (xs ++ ys) := by unfold catL; simp
theorem strOf_bs (xs : List Nat) : strOf (bs xs) = ⟨(xs.map UInt8.ofNat).toArray⟩ := by
  unfold strOf; congr 2; rw [List.map_map]
  exact List.map_congr_left fun x _ => by simp [bRow, pcByte, Function.comp]
theorem ofNat_inj {x y : Nat} (hx : x < 256) (hy : y < 256) (h : UInt8.ofNat x = UInt8.ofNat y) : x = y := by
  have := congrArg UInt8.toNat h
  simpa [Nat.mod_eq_of_lt hx, Nat.mod_eq_of_lt hy] using this
theorem map_inj : ∀ {xs ys : List Nat}, (∀ x ∈ xs, x < 256) → (∀ x ∈ ys, x < 256) → xs.map UInt8.ofNat = ys.map UInt8.ofNat → xs = ys
  | [], [], _, _, _ => rfl
  | x :: xs, y :: ys, hx, hy, h => by
    simp only [List.map_cons, List.cons.injEq] at h
    rw [ofNat_inj (hx x (by simp)) (hy y (by simp)) h.1, map_inj (fun z hz => hx z (by simp [hz])) (fun z hz => hy z (by simp [hz])) h.2]
  | [], _ :: _, _, _, h => by simp at h
  | _ :: _, [], _, _, h => by simp at h
theorem eqS_bs {xs ys : List Nat} (hx : ∀ x ∈ xs, x < 256) (hy : ∀ x ∈ ys, x < 256) : eqS (strOf (bs xs)) (strOf (bs ys)) = decide (xs = ys) := by
  rw [Bool.eq_iff_iff, decide_eq_true_iff]
  unfold eqS
  rw [strOf_bs, strOf_bs, beq_iff_eq]
  exact ⟨fun h => map_inj hx hy (by simpa using h), fun h => by rw [h]⟩
theorem room_bs {xs ys : List Nat} (h : xs.length + ys.length ≤ 100000) : (roomFor (bs xs) (bs ys) 1 && rowsOk (bs ys) 1 && (Nat.beq 1 1 || Nat.beq 1 0)) = true :=
  and3 (room1 (by simp; omega)) (rowsOk_bs ys) rfl
structure OS where
  i : Int
  s : Int
theorem crc_at {xs : List Nat} {j n t : Nat} (h : j < xs.length) (he : crc n (xs.drop j) = t) : crc (iter 8 (n ^^^ xs[j])) (xs.drop (j + 1)) = t := by
  rw [List.drop_eq_getElem_cons h] at he; exact he
def InI (n0 : Nat) (o : OS) : Prop := ∃ k n : Nat, o.i = (k : Int) ∧ o.s = (n : Int) ∧ k ≤ 8 ∧ n < 2 ^ 32 ∧ iter (8 - k) n = iter 8 n0
def OutI (xs : List Nat) (o : OS) : Prop := ∃ j n : Nat, o.i = (j : Int) ∧ o.s = (n : Int) ∧ n < 2 ^ 32 ∧ j ≤ xs.length ∧ crc n (xs.drop j) = crc 4294967295 xs
theorem wrS {j : Nat} (h : j ≤ 100000) : wr .i64 ((j : Int) + 1) = ((j + 1 : Nat) : Int) := by rw [wr64 (by omega) (by omega)]; omega
theorem wr32i {n : Nat} (h : n < 256) : wr .u32 (n : Int) = (n : Int) := wr32 (by omega)
theorem in_step {n0 k n : Nat} {z : Int} (hk : k < 8) (hn : n < 2 ^ 32) (he : iter (8 - k) n = iter 8 n0) (hz : z = ((stepN n : Nat) : Int)) : InI n0 ⟨wr .i64 ((k : Int) + 1), z⟩ := by
  refine ⟨k + 1, stepN n, wrS (by omega), hz, by omega, step_lt hn, ?_⟩
  rw [show 8 - k = (8 - (k + 1)) + 1 by omega] at he
  exact he
theorem in_meas {k : Nat} (hk : k < 8) : (8 - wr .i64 ((k : Int) + 1)).toNat < (8 - (k : Int)).toNat := by rw [wrS (by omega)]; omega
theorem out_step {xs : List Nat} {j n : Nat} {z : Int} (hj : j < xs.length) (hl : xs.length ≤ 20000) (hx : ∀ x ∈ xs, x < 256) (hn : n < 2 ^ 32) (he : crc n (xs.drop j) = crc 4294967295 xs) (hz : z = ((iter 8 (n ^^^ xs[j]) : Nat) : Int)) : OutI xs ⟨wr .i64 ((j : Int) + 1), z⟩ :=
  ⟨j + 1, _, wrS (by omega), hz, iter_lt 8 (xor_lt hn (by have := hx _ (List.getElem_mem hj); omega)), by omega, crc_at hj he⟩
theorem out_meas {xs : List Nat} {j : Nat} (hj : j < xs.length) (hl : xs.length ≤ 20000) : ((xs.length : Int) - wr .i64 ((j : Int) + 1)).toNat < ((xs.length : Int) - (j : Int)).toNat := by rw [wrS (by omega)]; omega
section
variable {X : Task → Prop} (hX : Closed X) {Q : A → List Blk → Prop} {c : PC} {xs : List Nat}
include hX
theorem sum_ok (hc : BytesP c xs) (hl : xs.length ≤ 20000) (hQ : Q (u32 (sumN xs)) []) : X (.call 11 [.one (.p c)] [] Q) := by
  obtain ⟨hc, hb⟩ := hc
  refine call_intro hX Try.func11 rfl rfl ?_
  obtain rfl : c = .sl (bs xs) := hc
  · ((repeat ((conv => whnf); first | refine eqv_id ?_ | refine Two.l ?_)); (conv => whnf))
    refine loop_gen (fun o => pad [(3, u32 o.s), (3, sl (bs xs)), (0, iv (lenL (bs xs))), (0, iv o.i)] 21) (fun _ => []) (OutI xs) (fun o => ((xs.length : Int) - o.i).toNat) (fun o hI ihO => ?_) ⟨0, 4294967295⟩ ⟨0, 4294967295, rfl, rfl, by decide, by omega, rfl⟩
    obtain ⟨oi, os⟩ := o
    obtain ⟨j, n, rfl, rfl, hn, hj, he⟩ := hI
    refine loop_intro hX ?_
    by_cases hend : j < xs.length
    · have q1 : ltI (j : Int) (lenL (bs xs)) = true := by rw [len_bs, ltI_t]; omega
      have q2 := lenB_bs hend
      have q3 := at_bs hend
      have hx := hb _ (List.getElem_mem hend)
      repeat' ((conv => whnf); first | refine eqv_id ?_ | refine Two.l ?_ | refine bct (by assumption) ?_ | refine bcf (by assumption) ?_ | rw [q3])
      refine loop_gen (fun o => pad [(3, u32 o.s), (3, sl (bs xs)), (0, iv (lenL (bs xs))), (0, iv (j : Int)), (7, iv o.i)] 13) (fun _ => []) (InI (n ^^^ xs[j])) (fun o => (8 - o.i).toNat) (fun o hI ih => ?_) ⟨0, _⟩
        ⟨0, n ^^^ xs[j], rfl, by show bitsI .xor .u32 _ (wr .u32 _) = _; rw [wr32i hx, bxor hn (by omega)], by omega, xor_lt hn (by omega), rfl⟩
      obtain ⟨oi, os⟩ := o
      obtain ⟨k, n', rfl, rfl, hk, hn', he'⟩ := hI
      refine loop_intro hX ?_
      by_cases hk8 : k < 8
      · have p1 : ltI (k : Int) 8 = true := ltI_t.2 (by omega)
        by_cases hodd : n' % 2 = 1
        · have p2 : eqI (bitsI .and .u32 (n' : Int) 1) 1 = true := by rw [band1 hn', hodd]; rfl
          repeat' ((conv => whnf); first | refine eqv_id ?_ | refine Two.l ?_ | refine bct (by assumption) ?_ | refine bcf (by assumption) ?_ | refine ih ⟨_, _⟩ (in_step hk8 hn' he' (by show bitsI .xor .u32 (shrI .u32 _ 1) _ = _; rw [shr1]; unfold stepN; rw [if_pos hodd]; exact bxor (b := poly) (by omega) (by decide))) (in_meas hk8))
        · have p2 : eqI (bitsI .and .u32 (n' : Int) 1) 1 = false := by rw [band1 hn', show n' % 2 = 0 by omega]; rfl
          repeat' ((conv => whnf); first | refine eqv_id ?_ | refine Two.l ?_ | refine bct (by assumption) ?_ | refine bcf (by assumption) ?_ | refine ih ⟨_, _⟩ (in_step hk8 hn' he' (by show shrI .u32 _ 1 = _; rw [shr1]; unfold stepN; rw [if_neg hodd])) (in_meas hk8))
      · have p1 : ltI (k : Int) 8 = false := ltI_f.2 (by omega)
        have hk' : k = 8 := by omega
        subst hk'
        repeat' ((conv => whnf); first | refine eqv_id ?_ | refine Two.l ?_ | refine bct (by assumption) ?_ | refine bcf (by assumption) ?_ | refine ihO ⟨_, _⟩ (out_step hend hl hb hn he (by show (n' : Int) = _; rw [← he']; rfl)) (out_meas hend hl))
    · have q1 : ltI (j : Int) (lenL (bs xs)) = false := by rw [len_bs, ltI_f]; omega
      have hj' : j = xs.length := by omega
      subst hj'
      rw [List.drop_length] at he
      repeat' ((conv => whnf); first | refine eqv_id ?_ | refine Two.l ?_ | refine bct (by assumption) ?_ | refine bcf (by assumption) ?_)
      all_goals ((repeat ((conv => whnf); first | refine eqv_id ?_ | refine Two.l ?_)); (conv => whnf))
      refine Qa hQ ?_
      rw [show sumN xs = 4294967295 ^^^ n by unfold sumN; rw [← he]; rfl]
      exact congrArg (fun z => u32 z) (bxor (a := 4294967295) (by decide) hn)
end
def tail4 (s : Nat) : List Nat := [s % 256, s / 256 % 256, s / 65536 % 256, s / 16777216 % 256]
def sealN (xs : List Nat) : List Nat := xs ++ tail4 (sumN xs)
theorem wr8 (n : Nat) : wr .u8 (n : Int) = ((n % 256 : Nat) : Int) := by
  unfold wr IntKind.wrap
  simp [IntKind.signed, IntKind.bits]
theorem shr8 (a : Nat) : shrI .u32 (a : Int) 8 = ((a / 256 : Nat) : Int) := by
  unfold shrI; simp [IntKind.bits]; rw [Int.fdiv_eq_ediv_of_nonneg _ (by decide)]
theorem shr16 (a : Nat) : shrI .u32 (a : Int) 16 = ((a / 65536 : Nat) : Int) := by
  unfold shrI; simp [IntKind.bits]; rw [Int.fdiv_eq_ediv_of_nonneg _ (by decide)]
theorem shr24 (a : Nat) : shrI .u32 (a : Int) 24 = ((a / 16777216 : Nat) : Int) := by
  unfold shrI; simp [IntKind.bits]; rw [Int.fdiv_eq_ediv_of_nonneg _ (by decide)]
theorem tail_lt {s : Nat} : ∀ x ∈ tail4 s, x < 256 := by
  intro x hx
  simp [tail4] at hx
  omega
theorem seal_lt {xs : List Nat} (h : ∀ x ∈ xs, x < 256) : ∀ x ∈ sealN xs, x < 256 := fun x hx => by
  rcases List.mem_append.1 hx with h' | h'
  · exact h x h'
  · exact tail_lt x h'
theorem seal_len (xs : List Nat) : (sealN xs).length = xs.length + 4 := by simp [sealN, tail4]
section
variable {X : Task → Prop} (hX : Closed X) {Q : A → List Blk → Prop} {c : PC} {xs : List Nat}
include hX
theorem seal_ok (hc : BytesP c xs) (hl : xs.length ≤ 20000) (hQ : Q (sl (bs (sealN xs))) []) : X (.call 10 [.one (.p c)] [] Q) := by
  have hc' := hc
  obtain ⟨hc, hb⟩ := hc
  have g1 : (roomFor [] (bs xs) 1 && rowsOk (bs xs) 1 && (Nat.beq 1 1 || Nat.beq 1 0)) = true := room_bs (xs := []) (by simp; omega)
  have g2 : ∀ a b c d : PC, (roomFor (catL [] (bs xs)) [[a], [b], [c], [d]] 1 && rowsOk [[a], [b], [c], [d]] 1 && (Nat.beq 1 1 || Nat.beq 1 0)) = true := fun a b c d => and3 (room1 (by show ([] ++ bs xs).length + 4 ≤ _; simp; omega)) rfl rfl
  refine call_intro hX Try.func10 rfl rfl ?_
  have fin : ∀ l, l = catL (catL [] (bs xs)) [[.v (.int .u8 (wr .u8 (sumN xs : Int)))], [.v (.int .u8 (wr .u8 (shrI .u32 (sumN xs : Int) 8)))], [.v (.int .u8 (wr .u8 (shrI .u32 (sumN xs : Int) 16)))], [.v (.int .u8 (wr .u8 (shrI .u32 (sumN xs : Int) 24)))]] → Q (sl l) [] := fun l hl => by
    refine Qa hQ ?_
    rw [hl, shr8, shr16, shr24, wr8, wr8, wr8, wr8]
    exact congrArg sl (cat_bs xs (tail4 (sumN xs)))
  obtain rfl : c = .sl (bs xs) := hc
  all_goals
    repeat' ((conv => whnf); first | refine eqv_id ?_ | refine Two.l ?_ | exact fin _ rfl | refine ⟨by kernel_rfl, ?_⟩ | refine sum_ok hX hc' hl ?_ | refine bct (by assumption) ?_ | refine bcf (by assumption) ?_ | refine bct (g2 _ _ _ _) ?_)
end
def okN (xs : List Nat) : Bool := decide (4 ≤ xs.length ∧ xs = sealN (xs.take (xs.length - 4)))
abbrev zN (xs : List Nat) : Int := wr .i64 (lenL (bs xs) - 4)
theorem zN_eq {xs : List Nat} (h : xs.length ≤ 20000) : zN xs = (xs.length : Int) - 4 := by unfold zN; rw [len_bs, wr64 (by omega) (by omega)]
theorem zN_nat {xs : List Nat} (h : xs.length ≤ 20000) (h4 : 4 ≤ xs.length) : zN xs = ((xs.length - 4 : Nat) : Int) := by rw [zN_eq h]; omega
theorem in_z {xs : List Nat} (h : xs.length ≤ 20000) (h4 : 4 ≤ xs.length) : rowsIn (bs xs) 0 (zN xs) = bs (xs.take (xs.length - 4)) := by rw [zN_nat h h4]; exact in_bs _ _
theorem parts {xs : List Nat} (h4 : 4 ≤ xs.length) : ∃ y0 y1 y2 y3, xs = xs.take (xs.length - 4) ++ [y0, y1, y2, y3] := by
  have hl : (xs.drop (xs.length - 4)).length = 4 := by simp; omega
  match hd : xs.drop (xs.length - 4), hl with
  | [y0, y1, y2, y3], _ => exact ⟨y0, y1, y2, y3, by rw [← hd, List.take_append_drop]⟩
section
variable {X : Task → Prop} (hX : Closed X) {Q : A → List Blk → Prop} {c : PC} {xs : List Nat}
include hX
theorem open_ok (hc : BytesP c xs) (hl : xs.length ≤ 20000) (h1 : okN xs = true → Q (.tup [sl (bs (xs.take (xs.length - 4))), ne]) []) (h2 : okN xs = false → Q (.tup [sl [], er 7]) []) : X (.call 9 [.one (.p c)] [] Q) := by
  have hc' := hc
  obtain ⟨hc, hb⟩ := hc
  refine call_intro hX Try.func9 rfl rfl ?_
  by_cases h4 : 4 ≤ xs.length
  · have hz := zN_nat hl h4
    have q1 : ltI (zN xs) 0 = false := by rw [hz, ltI_f]; omega
    have q2 : (lenC (bs xs) (zN xs) && leI 0 0 && leI 0 (zN xs) && rowsOk (bs xs) 1) = true := and4 (by rw [hz]; unfold lenC; simp <;> omega) rfl (by rw [hz, leI_t]; omega) (rowsOk_bs xs)
    have hbt : ∀ x ∈ xs.take (xs.length - 4), x < 256 := fun x h => hb x (List.mem_of_mem_take h)
    have q3 : BytesP (.sl (rowsIn (bs xs) 0 (zN xs))) (xs.take (xs.length - 4)) := ⟨(congrArg PC.sl (in_z hl h4)), hbt⟩
    have hlt : (xs.take (xs.length - 4)).length ≤ 20000 := by simp <;> omega
    have q4 := strOk_bs xs
    have q5 := strOk_bs (sealN (xs.take (xs.length - 4)))
    have q6 : (roomFor [] (rowsIn (bs xs) 0 (zN xs)) 1 && rowsOk (rowsIn (bs xs) 0 (zN xs)) 1 && (Nat.beq 1 1 || Nat.beq 1 0)) = true := by rw [in_z hl h4]; exact room_bs (xs := []) (by simp <;> omega)
    obtain rfl : c = .sl (bs xs) := hc
    · cases hok : okN xs with
      | true =>
        have e : eqS (strOf (bs (sealN (xs.take (xs.length - 4))))) (strOf (bs xs)) = true := by
          rw [eqS_bs (seal_lt hbt) hb]; unfold okN at hok; simp only [decide_eq_true_eq] at *; exact hok.2.symm
        have fin : Q (.tup [sl (catL [] (rowsIn (bs xs) 0 (zN xs))), ne]) [] := by
          rw [in_z hl h4]; exact h1 hok
        repeat' ((conv => whnf); first | refine eqv_id ?_ | refine Two.l ?_ | exact fin | refine ⟨by kernel_rfl, ?_⟩ | refine seal_ok hX q3 hlt ?_ | refine bct (by assumption) ?_ | refine bcf (by assumption) ?_ | refine bcf (nt (by assumption)) ?_)
      | false =>
        have e : eqS (strOf (bs (sealN (xs.take (xs.length - 4))))) (strOf (bs xs)) = false := by
          rw [eqS_bs (seal_lt hbt) hb]; unfold okN at hok; simp only [decide_eq_false_iff_not] at *; exact fun h => hok ⟨h4, h.symm⟩
        repeat' ((conv => whnf); first | refine eqv_id ?_ | refine Two.l ?_ | exact h2 hok | refine ⟨by kernel_rfl, ?_⟩ | refine seal_ok hX q3 hlt ?_ | refine bct (by assumption) ?_ | refine bcf (by assumption) ?_ | refine bct (nf (by assumption)) ?_)
  · have q1 : ltI (zN xs) 0 = true := by rw [zN_eq hl, ltI_t]; omega
    have hok : okN xs = false := by unfold okN; exact decide_eq_false (fun h => h4 h.1)
    obtain rfl : c = .sl (bs xs) := hc
    all_goals
      repeat' ((conv => whnf); first | refine eqv_id ?_ | refine Two.l ?_ | exact h2 hok | refine ⟨by kernel_rfl, ?_⟩ | refine bct (by assumption) ?_ | refine bcf (by assumption) ?_)
end
theorem s9 : eqI ((sumN [49, 50, 51, 52, 53, 54, 55, 56, 57] : Nat) : Int) 3421780262 = true := by kernel_rfl
section
variable {X : Task → Prop} (hX : Closed X) {Q : A → List Blk → Prop} {c : PC} {xs : List Nat}
include hX
end
def encN : Nat → Nat → List Nat
  | 0, u => [u]
  | f + 1, u => if 128 ≤ u then (u % 128 + 128) :: encN f (u / 128) else [u]
def numU (n : Int) : Nat := if n < 0 then (-2 * n - 1).toNat else (2 * n).toNat
theorem enc_lt : ∀ (f : Nat) {u : Nat}, u < 128 ^ (f + 1) → ∀ x ∈ encN f u, x < 256
  | 0, u, h, x, hx => by simp [encN] at hx; subst hx; simp at h; omega
  | f + 1, u, h, x, hx => by
    unfold encN at hx
    split at hx
    · rcases List.mem_cons.1 hx with rfl | hx
      · omega
      · exact enc_lt f (by rw [Nat.pow_succ] at h; exact Nat.div_lt_of_lt_mul (by rw [Nat.mul_comm]; exact h)) x hx
    · simp at hx; omega
theorem enc_len : ∀ (f u : Nat), (encN f u).length ≤ f + 1
  | 0, _ => by simp [encN]
  | f + 1, u => by unfold encN; split <;> simp; exact enc_len f _
structure NS where
  u : Int
  k : Nat
  acc : List (List PC)
def NumI (tot : List Nat) (s : NS) : Prop := ∃ (f v : Nat) (ys : List Nat), s.u = (v : Int) ∧ s.acc = bs ys ∧ v < 128 ^ (f + 1) ∧ f ≤ 4 ∧ ys ++ encN f v = tot ∧ ys.length + f ≤ 4 ∧ (Nat.beq s.k 1 || Nat.beq s.k 0) = true
theorem tmod128 (a : Nat) : tmodI (a : Int) 128 = ((a % 128 : Nat) : Int) := by
  unfold tmodI; rw [Int.tmod_eq_emod_of_nonneg (by omega)]; omega
theorem tdiv128 (a : Nat) : tdivI (a : Int) 128 = ((a / 128 : Nat) : Int) := by
  unfold tdivI; rw [Int.tdiv_eq_ediv_of_nonneg (by omega)]; omega
theorem wr64u {n : Int} (h1 : 0 ≤ n) (h2 : n < 18446744073709551616) : wr .u64 n = n := by
  unfold wr IntKind.wrap
  simp [IntKind.signed, IntKind.bits]
  omega
theorem num_step {tot ys : List Nat} {f v : Nat} {z b : Int} {a' : List (List PC)} (hv : v < 128 ^ (f + 1)) (hf : f ≤ 4) (ht : ys ++ encN f v = tot) (hl : ys.length + f ≤ 4) (h : 128 ≤ v) (hz : z = ((v / 128 : Nat) : Int)) (hb : b = ((v % 128 + 128 : Nat) : Int)) (ha : a' = catL (bs ys) [[.v (.int .u8 b)]]) : NumI tot ⟨z, 1, a'⟩ := by
  cases f with
  | zero => simp at hv; omega
  | succ f =>
    refine ⟨f, v / 128, ys ++ [v % 128 + 128], hz, ?_, by rw [Nat.pow_succ] at hv; exact Nat.div_lt_of_lt_mul (by rw [Nat.mul_comm]; exact hv), by omega, ?_, by simp; omega, rfl⟩
    · rw [ha, hb]; exact cat_bs ys [v % 128 + 128]
    · rw [← ht, show encN (f + 1) v = (v % 128 + 128) :: encN f (v / 128) by rw [encN, if_pos h]]; simp
theorem num_end {tot ys : List Nat} {f v : Nat} {b : Int} (ht : ys ++ encN f v = tot) (h : ¬ 128 ≤ v) (hb : b = (v : Int)) : catL (bs ys) [[.v (.int .u8 b)]] = bs tot := by
  rw [hb, ← ht, show encN f v = [v] by cases f with | zero => rfl | succ f => unfold encN; rw [if_neg h]]
  exact cat_bs ys [v]
theorem rmk {ys : List Nat} {c : Int} {k : Nat} (h : ys.length ≤ 4) (hk : (Nat.beq k 1 || Nat.beq k 0) = true) : (roomFor (bs ys) [[.v (.int .u8 c)]] 1 && rowsOk [[.v (.int .u8 c)]] 1 && (Nat.beq k 1 || Nat.beq k 0)) = true :=
  and3 (room1 (by simp; omega)) rfl hk
theorem num_meas {v : Nat} {z : Int} (h : 128 ≤ v) (hz : z = ((v / 128 : Nat) : Int)) : z.toNat < ((v : Nat) : Int).toNat := by rw [hz]; omega
abbrev u64 (n : Int) : A := .one (.p (.v (.int .u64 n)))
section
variable {X : Task → Prop} (hX : Closed X) {Q : A → List Blk → Prop} {c : PC} {xs : List Nat}
include hX
theorem num_loop {K : Ex → List A → List Blk → Prop} {tot : List Nat} (hend : ∀ (v k : Nat) (ys : List Nat) (f : Nat), ¬ 128 ≤ v → v < 128 ^ (f + 1) → ys.length ≤ 4 → ys ++ encN f v = tot → (Nat.beq k 1 || Nat.beq k 0) = true → X (.loop 5 0 (loopN Try.f5 0) (pad [(3, u64 (v : Int)), (0, .one (.own 0))] 31) [.rows k (bs ys)] K))
    (s : NS) (hI : NumI tot s) : X (.loop 5 0 (loopN Try.f5 0) (pad [(3, u64 s.u), (0, .one (.own 0))] 31) [.rows s.k s.acc] K) := by
  refine loop_gen (fun s : NS => pad [(3, u64 s.u), (0, .one (.own 0))] 31) (fun s => [.rows s.k s.acc]) (NumI tot) (fun s => s.u.toNat) (fun s hI ih => ?_) s hI
  obtain ⟨u, k, acc⟩ := s
  obtain ⟨f, v, ys, rfl, rfl, hv, hf, ht, hl, hk⟩ := hI
  by_cases hge : 128 ≤ v
  · have p1 : leI 128 (v : Int) = true := leI_t.2 (by omega)
    have hvb : v < 128 ^ 5 := Nat.lt_of_lt_of_le hv (Nat.pow_le_pow_right (by decide) (by omega))
    have hz : wr .u64 (tdivI (v : Int) 128) = ((v / 128 : Nat) : Int) := by rw [tdiv128, wr64u (by omega) (by omega)]
    have hb : wr .u8 (wr .u8 (tmodI (v : Int) 128) + 128) = ((v % 128 + 128 : Nat) : Int) := by
      rw [tmod128, wr8, show ((v % 128 % 256 : Nat) : Int) + 128 = ((v % 128 + 128 : Nat) : Int) by omega, wr8]; omega
    refine loop_intro hX ?_
    repeat' ((conv => whnf); first
      | refine eqv_id ?_ | refine Two.l ?_
      | refine bct (by assumption) ?_ | refine bcf (by assumption) ?_ | refine bct (rmk (by omega) hk) ?_
      | refine ih ⟨_, _, _⟩ (num_step hv hf ht hl hge hz hb rfl) (num_meas hge hz))
  · exact hend v k ys f hge hv (by omega) ht hk
theorem num_ok {n : Int} (h1 : -2147483648 ≤ n → n ≤ 2147483647 → Q (.one (.own 0)) [.rows 1 (bs (encN 4 (numU n)))]) (h2 : (n < -2147483648 ∨ 2147483647 < n) → Q (.one (.own 0)) [.rows 0 []]) : X (.call 5 [iv n] [] Q) := by
  refine call_intro hX Try.func5 rfl rfl ?_
  by_cases hr : -2147483648 ≤ n ∧ n ≤ 2147483647
  · have q1 : ltI n (-2147483648) = false := ltI_f.2 (by omega)
    have q2 : ltI 2147483647 n = false := ltI_f.2 (by omega)
    have fin := h1 hr.1 hr.2
    have hend : ∀ l, l = bs (encN 4 (numU n)) → Q (.one (.own 0)) [.rows 1 l] := fun l hl => hl ▸ fin
    by_cases hneg : n < 0
    · have q3 : ltI n 0 = true := ltI_t.2 hneg
      have hz : wr .u64 (wr .i64 (wr .i64 (-2 * n) - 1)) = ((numU n : Nat) : Int) := by
        unfold numU; rw [if_pos hneg, wr64 (n := -2 * n) (by omega) (by omega), wr64 (by omega) (by omega), wr64u (by omega) (by omega)]; omega
      have hu : numU n < 128 ^ (4 + 1) := by unfold numU; rw [if_pos hneg]; omega
      repeat' ((conv => whnf); first | refine eqv_id ?_ | refine Two.l ?_ | refine bct (by assumption) ?_ | refine bcf (by assumption) ?_)
      refine num_loop hX (tot := encN 4 (numU n)) (fun v k ys f hge hv hl ht hk => ?_) ⟨_, 0, []⟩ ⟨4, numU n, [], hz, rfl, hu, by omega, rfl, by simp, rfl⟩
      have p1 : leI 128 (v : Int) = false := leI_f.2 (by omega)
      have hb : wr .u8 (v : Int) = (v : Int) := by rw [wr8]; omega
      refine loop_intro hX ?_
      repeat' ((conv => whnf); first | refine eqv_id ?_ | refine Two.l ?_ | exact hend _ (num_end ht hge hb) | refine bct (by assumption) ?_ | refine bcf (by assumption) ?_ | refine bct (rmk hl hk) ?_)
    · have q3 : ltI n 0 = false := ltI_f.2 (by omega)
      have hz : wr .u64 (wr .i64 (2 * n)) = ((numU n : Nat) : Int) := by
        unfold numU; rw [if_neg hneg, wr64 (by omega) (by omega), wr64u (by omega) (by omega)]; omega
      have hu : numU n < 128 ^ (4 + 1) := by unfold numU; rw [if_neg hneg]; omega
      repeat' ((conv => whnf); first | refine eqv_id ?_ | refine Two.l ?_ | refine bct (by assumption) ?_ | refine bcf (by assumption) ?_)
      refine num_loop hX (tot := encN 4 (numU n)) (fun v k ys f hge hv hl ht hk => ?_) ⟨_, 0, []⟩ ⟨4, numU n, [], hz, rfl, hu, by omega, rfl, by simp, rfl⟩
      have p1 : leI 128 (v : Int) = false := leI_f.2 (by omega)
      have hb : wr .u8 (v : Int) = (v : Int) := by rw [wr8]; omega
      refine loop_intro hX ?_
      repeat' ((conv => whnf); first | refine eqv_id ?_ | refine Two.l ?_ | exact hend _ (num_end ht hge hb) | refine bct (by assumption) ?_ | refine bcf (by assumption) ?_ | refine bct (rmk hl hk) ?_)
  · have fin := h2 (by omega)
    by_cases hneg : n < -2147483648
    · have q1 : ltI n (-2147483648) = true := ltI_t.2 hneg
      repeat' ((conv => whnf); first | refine eqv_id ?_ | refine Two.l ?_ | exact fin | refine bct (by assumption) ?_ | refine bcf (by assumption) ?_)
    · have q1 : ltI n (-2147483648) = false := ltI_f.2 (by omega)
      have q2 : ltI 2147483647 n = true := ltI_t.2 (by omega)
      repeat' ((conv => whnf); first | refine eqv_id ?_ | refine Two.l ?_ | exact fin | refine bct (by assumption) ?_ | refine bcf (by assumption) ?_)
end
def sB (s : ByteArray) : List Nat := s.data.toList.map UInt8.toNat
theorem bytesS_bs (s : ByteArray) : bytesS s = bs (sB s) := by
  show List.map _ s.data.toList = List.map bRow (List.map UInt8.toNat s.data.toList)
  rw [List.map_map]; rfl
theorem sB_len (s : ByteArray) : (sB s).length = s.size := by
  show (List.map UInt8.toNat s.data.toList).length = s.data.size
  rw [List.length_map, Array.length_toList]
theorem sB_lt (s : ByteArray) : ∀ x ∈ sB s, x < 256 := fun x hx => by
  obtain ⟨b, _, rfl⟩ := List.mem_map.1 hx
  exact b.toNat_lt
theorem lenS_eq (s : ByteArray) : lenS s = (s.size : Int) := rfl
def textL (s : ByteArray) : List Nat := if s.size ≤ 8 then 2 * s.size :: sB s else []
theorem text_lt (s : ByteArray) : ∀ x ∈ textL s, x < 256 := fun x hx => by
  unfold textL at hx
  split at hx
  · rcases List.mem_cons.1 hx with rfl | hx
    · omega
    · exact sB_lt s x hx
  · simp at hx
section
variable {X : Task → Prop} (hX : Closed X) {Q : A → List Blk → Prop} {c : PC} {xs : List Nat}
include hX
theorem text_ok {s : ByteArray} (hQ : Q (sl (bs (textL s))) []) : X (.call 7 [.one (.p (.v (.string s)))] [] Q) := by
  refine call_intro hX Try.func7 rfl rfl ?_
  by_cases h : s.size ≤ 8
  · have q1 : ltI 8 (lenS s) = false := by rw [lenS_eq, ltI_f]; omega
    have e : encN 4 (numU (lenS s)) = [2 * s.size] := by
      have : numU (lenS s) = 2 * s.size := by rw [lenS_eq]; unfold numU; rw [if_neg (by omega)]; omega
      rw [this, encN, if_neg (by omega)]
    have q2 : (roomFor (bs [2 * s.size]) (bytesS s) 1 && rowsOk (bytesS s) 1 && (Nat.beq 1 1 || Nat.beq 1 0)) = true := by
      rw [bytesS_bs]; exact room_bs (by rw [sB_len]; simp; omega)
    have fin : Q (sl (catL (bs [2 * s.size]) (bytesS s))) [] := by
      rw [bytesS_bs, cat_bs]; unfold textL at hQ; rw [if_pos h] at hQ; exact hQ
    repeat' ((conv => whnf); first | refine eqv_id ?_ | refine Two.l ?_ | exact fin | refine num_ok hX (fun _ _ => e ▸ ?_) (fun h' => absurd h' (by rw [lenS_eq]; omega)) | refine bct (by assumption) ?_ | refine bcf (by assumption) ?_)
  · have q1 : ltI 8 (lenS s) = true := by rw [lenS_eq, ltI_t]; omega
    unfold textL at hQ; rw [if_neg h] at hQ
    repeat' ((conv => whnf); first | refine eqv_id ?_ | refine Two.l ?_ | exact hQ | refine bct (by assumption) ?_ | refine bcf (by assumption) ?_)
end
theorem rest_gen {X : Task → Prop} {f m : Nat} {c : Code} {K : Ex → List A → List Blk → Prop} {ST : Type} (T' : ST → List A) (S' : ST → List Blk) (I : ST → Prop) (μ : ST → Nat)
    (hstep : ∀ st, I st → (∀ st', I st' → μ st' < μ st → X (.rest f m c (T' st') (S' st') K)) → X (.rest f m c (T' st) (S' st) K)) (st0 : ST) (h0 : I st0) : X (.rest f m c (T' st0) (S' st0) K) := by
  have key : ∀ (n : Nat) (st : ST), μ st < n → I st → X (.rest f m c (T' st) (S' st) K) := by
    intro n
    induction n with
    | zero => intro st h; exact absurd h (Nat.not_lt_zero _)
    | succ n ih => intro st h hi; exact hstep st hi fun st' hi' hlt => ih st' (by omega) hi'
  exact key _ st0 (Nat.lt_succ_self _) h0
def getF (a j x : Nat) : Int × Int := if 4294967295 < a ∨ (x = 0 ∧ 1 < j) then (0, 0) else if a % 2 = 1 then (-((a / 2 : Nat) : Int) - 1, (j : Int)) else (((a / 2 : Nat) : Int), (j : Int))
def getN : Nat → Nat → Nat → List Nat → Int × Int
  | 0, _, _, _ => (0, 0)
  | _ + 1, _, _, [] => (0, 0)
  | f + 1, j, a, x :: xs => if 128 ≤ x then getN f (j + 1) (a + (x % 128) * 128 ^ j) xs else getF (a + (x % 128) * 128 ^ j) (j + 1) x
abbrev gN (xs : List Nat) : Int × Int := getN 5 0 0 xs
def GetI (xs : List Nat) (s : OS) : Prop := ∃ j a : Nat, s.i = (j : Int) ∧ s.s = (a : Int) ∧ j < 5 ∧ j < xs.length ∧ a < 128 ^ j ∧ getN (5 - j) j a (xs.drop j) = gN xs
theorem of64 {n : Nat} (h : n < 2 ^ 64) : (BitVec.ofInt 64 (n : Int)).toNat = n := by
  rw [BitVec.ofInt_natCast, BitVec.toNat_ofNat, Nat.mod_eq_of_lt h]
theorem bor64 {a d i : Nat} (ha : a < 2 ^ i) (h : d * 2 ^ i + a < 2 ^ 64) : bitsI .or .u64 (a : Int) ((d * 2 ^ i : Nat) : Int) = ((d * 2 ^ i + a : Nat) : Int) := by
  show IntKind.wrap .u64 (((BitVec.ofInt 64 (a : Int) ||| BitVec.ofInt 64 ((d * 2 ^ i : Nat) : Int)).toNat : Nat) : Int) = _
  rw [BitVec.toNat_or, of64 (by omega), of64 (by omega), Nat.or_comm, ← Nat.shiftLeft_eq, ← Nat.shiftLeft_add_eq_or_of_lt ha, Nat.shiftLeft_eq]
  exact wr64u (by omega) (by omega)
theorem rawU {a x j : Nat} (hj : j < 5) (ha : a < 128 ^ j) (hx : x < 256) : bitsI .or .u64 (a : Int) (shlI .u64 (wr .u64 (tmodI (x : Int) 128)) (wr .i64 (7 * (j : Int)))) = ((a + (x % 128) * 128 ^ j : Nat) : Int) := by
  have hp : ∀ i : Nat, 128 ^ i = 2 ^ (7 * i) := fun i => by rw [Nat.pow_mul]
  have hd : x % 128 < 128 := Nat.mod_lt _ (by decide)
  have hsh : shlI .u64 (wr .u64 (tmodI (x : Int) 128)) (wr .i64 (7 * (j : Int))) = (((x % 128) * 2 ^ (7 * j) : Nat) : Int) := by
    rw [tmod128, wr64u (by omega) (by omega), wr64 (by omega) (by omega)]
    unfold shlI
    have e : min (7 * (j : Int)).toNat (IntKind.bits .u64) = 7 * j := by simp [IntKind.bits]; omega
    rw [e]
    have e2 : ((x % 128 : Nat) : Int) * 2 ^ (7 * j) = (((x % 128) * 2 ^ (7 * j) : Nat) : Int) := by push_cast; rfl
    rw [e2]
    refine wr64u (by omega) ?_
    have : (x % 128) * 2 ^ (7 * j) < 128 * 2 ^ 28 := by
      have h1 : 2 ^ (7 * j) ≤ 2 ^ 28 := Nat.pow_le_pow_right (by decide) (by omega)
      calc (x % 128) * 2 ^ (7 * j) ≤ 127 * 2 ^ (7 * j) := Nat.mul_le_mul_right _ (by omega)
        _ ≤ 127 * 2 ^ 28 := Nat.mul_le_mul_left _ h1
        _ < 128 * 2 ^ 28 := by decide
    omega
  rw [hsh]
  rw [hp] at ha ⊢
  have hb : (x % 128) * 2 ^ (7 * j) + a < 2 ^ 64 := by
    have h1 : 2 ^ (7 * j) ≤ 2 ^ 28 := Nat.pow_le_pow_right (by decide) (by omega)
    have h2 : (x % 128) * 2 ^ (7 * j) ≤ 127 * 2 ^ 28 := Nat.le_trans (Nat.mul_le_mul_right _ (by omega)) (Nat.mul_le_mul_left _ h1)
    have : (127 : Nat) * 2 ^ 28 + 2 ^ 28 < 2 ^ 64 := by decide
    omega
  rw [bor64 ha hb, Nat.add_comm]
theorem acc_lt {a x j : Nat} (ha : a < 128 ^ j) : a + (x % 128) * 128 ^ j < 128 ^ (j + 1) := by
  have hd : x % 128 ≤ 127 := by omega
  have := Nat.mul_le_mul_right (128 ^ j) hd
  rw [Nat.pow_succ]; omega
section
variable {X : Task → Prop} (hX : Closed X) {Q : A → List Blk → Prop} {c : PC} {xs : List Nat}
include hX
theorem getnum_ok (hc : BytesP c xs) (hl : xs.length ≤ 20000) (hQ : Q (.tup [iv (gN xs).1, iv (gN xs).2]) []) : X (.call 6 [.one (.p c)] [] Q) := by
  have hc' := hc
  obtain ⟨hc, hb⟩ := hc
  refine call_intro hX Try.func6 rfl rfl ?_
  obtain rfl : c = .sl (bs xs) := hc
  · by_cases h0 : xs = []
    · subst h0
      repeat' ((conv => whnf); first | refine eqv_id ?_ | refine Two.l ?_ | exact hQ | refine bct (by assumption) ?_ | refine bcf (by assumption) ?_)
    · have hpos : 0 < xs.length := List.length_pos_iff.2 h0
      have q0 : eqI 0 (lenL (bs xs)) = false := by rw [len_bs, eqI_f]; omega
      repeat' ((conv => whnf); first | refine eqv_id ?_ | refine Two.l ?_ | refine bct (by assumption) ?_ | refine bcf (by assumption) ?_)
      refine rest_gen (fun s : OS => pad [(0, sl (bs xs)), (3, u64 s.s), (0, iv s.i)] 48) (fun _ => []) (GetI xs) (fun s => (5 - s.i).toNat) (fun s hI ih => ?_) ⟨0, 0⟩ ⟨0, 0, rfl, rfl, by omega, hpos, by simp, rfl⟩
      obtain ⟨oi, os⟩ := s
      obtain ⟨j, a, rfl, rfl, hj, hjl, ha, hg⟩ := hI
      have hx := hb _ (List.getElem_mem hjl)
      rw [List.drop_eq_getElem_cons hjl] at hg
      obtain ⟨f, hf⟩ : ∃ f, 5 - j = f + 1 := ⟨4 - j, by omega⟩
      rw [hf] at hg
      obtain ⟨x, hxe⟩ : ∃ x, xs[j] = x := ⟨_, rfl⟩
      rw [hxe] at hx hg
      have r1 : E.rowAt (bs xs) (j : Int) = [.v (.int .u8 (x : Int))] := by rw [at_bs hjl, hxe]
      have b1 := lenB_bs hjl
      have e := rawU hj ha hx
      have k1 : wr .i64 ((j : Int) + 1) = ((j + 1 : Nat) : Int) := wrS (by omega)
      have s0 : ltI (wr .i64 (7 * (j : Int))) 0 = false := by rw [wr64 (by omega) (by omega), ltI_f]; omega
      refine rest_intro hX ?_
      by_cases hge : 128 ≤ x
      · have p1 : leI 128 (x : Int) = true := leI_t.2 (by omega)
        rw [getN, if_pos hge] at hg
        by_cases hend : j + 1 = xs.length
        · have q1 : eqI (wr .i64 ((j : Int) + 1)) (lenL (bs xs)) = true := by rw [k1, len_bs, eqI_t]; omega
          rw [List.drop_of_length_le (by omega)] at hg
          have fin : Q (.tup [iv 0, iv 0]) [] := by
            have : gN xs = (0, 0) := by rw [← hg]; cases f <;> rfl
            rw [this] at hQ; exact hQ
          repeat' ((conv => whnf); first | refine eqv_id ?_ | refine Two.l ?_ | exact fin | refine bct (by assumption) ?_ | refine bcf (by assumption) ?_ | refine jump_intro hX ?_ | rw [r1])
        · have q1 : eqI (wr .i64 ((j : Int) + 1)) (lenL (bs xs)) = false := by rw [k1, len_bs, eqI_f]; omega
          by_cases h5 : j + 1 = 5
          · have q2 : eqI (wr .i64 ((j : Int) + 1)) 5 = true := by rw [k1, eqI_t]; omega
            have fin : Q (.tup [iv 0, iv 0]) [] := by
              have : gN xs = (0, 0) := by rw [← hg, show f = 0 by omega]; rfl
              rw [this] at hQ; exact hQ
            repeat' ((conv => whnf); first | refine eqv_id ?_ | refine Two.l ?_ | exact fin | refine bct (by assumption) ?_ | refine bcf (by assumption) ?_ | refine jump_intro hX ?_ | rw [r1])
          · have q2 : eqI (wr .i64 ((j : Int) + 1)) 5 = false := by rw [k1, eqI_f]; omega
            have hms : (5 - wr .i64 ((j : Int) + 1)).toNat < (5 - (j : Int)).toNat := by rw [k1]; omega
            have hI' : GetI xs ⟨wr .i64 ((j : Int) + 1), bitsI .or .u64 (a : Int) (shlI .u64 (wr .u64 (tmodI (x : Int) 128)) (wr .i64 (7 * (j : Int))))⟩ :=
              ⟨j + 1, _, k1, e, by omega, by omega, acc_lt ha, by rw [show 5 - (j + 1) = f by omega]; exact hg⟩
            repeat' ((conv => whnf); first | refine eqv_id ?_ | refine Two.l ?_ | refine bct (by assumption) ?_ | refine bcf (by assumption) ?_ | refine jump_intro hX ?_ | refine ih ⟨_, _⟩ hI' hms | rw [r1])
      · have p1 : leI 128 (x : Int) = false := leI_f.2 (by omega)
        rw [getN, if_neg hge] at hg
        rw [← hg] at hQ
        unfold getF at hQ
        obtain ⟨A, hA⟩ : ∃ A, a + (x % 128) * 128 ^ j = A := ⟨_, rfl⟩
        rw [hA] at hQ e
        by_cases hbig : 4294967295 < A
        · have t1 : ltI 4294967295 (bitsI .or .u64 (a : Int) (shlI .u64 (wr .u64 (tmodI (x : Int) 128)) (wr .i64 (7 * (j : Int))))) = true := by rw [e, ltI_t]; omega
          rw [if_pos (.inl hbig)] at hQ
          repeat' ((conv => whnf); first | refine eqv_id ?_ | refine Two.l ?_ | exact hQ | refine bct (by assumption) ?_ | refine bcf (by assumption) ?_ | rw [r1])
        · have t1 : ltI 4294967295 (bitsI .or .u64 (a : Int) (shlI .u64 (wr .u64 (tmodI (x : Int) 128)) (wr .i64 (7 * (j : Int))))) = false := by rw [e, ltI_f]; omega
          by_cases hz : x = 0 ∧ 1 < j + 1
          · have t2 : eqI (x : Int) 0 = true := eqI_t.2 (by omega)
            have t3 : ltI 1 (wr .i64 ((j : Int) + 1)) = true := by rw [k1, ltI_t]; omega
            rw [if_pos (.inr hz)] at hQ
            repeat' ((conv => whnf); first | refine eqv_id ?_ | refine Two.l ?_ | exact hQ | refine bct (by assumption) ?_ | refine bcf (by assumption) ?_ | rw [r1])
          · rw [if_neg (by omega)] at hQ
            have d1 : wr .i64 (wr .u64 (tdivI (bitsI .or .u64 (a : Int) (shlI .u64 (wr .u64 (tmodI (x : Int) 128)) (wr .i64 (7 * (j : Int))))) 2)) = ((A / 2 : Nat) : Int) := by
              rw [e, tdiv2, wr64u (by omega) (by omega), wr64 (by omega) (by omega)]
            have t4 : ∀ b, decide (A % 2 = 1) = b → eqI (tmodI (bitsI .or .u64 (a : Int) (shlI .u64 (wr .u64 (tmodI (x : Int) 128)) (wr .i64 (7 * (j : Int))))) 2) 1 = b := fun b hb => by
              rw [e, tmod2, ← hb, Bool.eq_iff_iff, eqI_t, decide_eq_true_iff]; omega
            have t23 : (eqI (x : Int) 0 = true ∧ ltI 1 (wr .i64 ((j : Int) + 1)) = false) ∨ eqI (x : Int) 0 = false := by
              rw [k1, eqI_t, eqI_f, ltI_f]; omega
            by_cases hodd : A % 2 = 1
            · have t5 := t4 true (decide_eq_true hodd)
              rw [if_pos hodd] at hQ
              have d2 : wr .i64 (wr .i64 (0 - wr .i64 (wr .u64 (tdivI (bitsI .or .u64 (a : Int) (shlI .u64 (wr .u64 (tmodI (x : Int) 128)) (wr .i64 (7 * (j : Int))))) 2))) - 1) = -((A / 2 : Nat) : Int) - 1 := by
                rw [d1, wr64 (n := 0 - _) (by omega) (by omega), wr64 (by omega) (by omega)]; omega
              rcases t23 with ⟨t2, t3⟩ | t2
              all_goals
                repeat' ((conv => whnf); first | refine eqv_id ?_ | refine Two.l ?_ | exact Qa hQ (by rw [d2, k1]) | refine bct (by assumption) ?_ | refine bcf (by assumption) ?_ | rw [r1])
            · have t5 := t4 false (decide_eq_false hodd)
              rw [if_neg hodd] at hQ
              rcases t23 with ⟨t2, t3⟩ | t2
              all_goals
                repeat' ((conv => whnf); first | refine eqv_id ?_ | refine Two.l ?_ | exact Qa hQ (by rw [d1, k1]) | refine bct (by assumption) ?_ | refine bcf (by assumption) ?_ | rw [r1])
end
section
variable {X : Task → Prop} (hX : Closed X) {Q : A → List Blk → Prop} {c : PC} {xs : List Nat}
include hX
end
theorem getN_used : ∀ (f j a : Nat) (xs : List Nat), 0 ≤ (getN f j a xs).2 ∧ (getN f j a xs).2 ≤ (j + f : Nat)
  | 0, j, a, xs => by simp [getN] <;> omega
  | f + 1, j, a, [] => by simp [getN] <;> omega
  | f + 1, j, a, x :: xs => by
    rw [getN]
    split
    · have := getN_used f (j + 1) (a + (x % 128) * 128 ^ j) xs
      omega
    · unfold getF
      split
      · simp <;> omega
      · split <;> simp <;> omega
def gT (xs : List Nat) : ByteArray × Int :=
  if (gN xs).2 = 0 ∨ (gN xs).1 < 0 ∨ 8 < (gN xs).1 ∨ (xs.length : Int) < (gN xs).2 + (gN xs).1 then (⟨#[]⟩, 0) else (strOf (rowsIn (bs xs) (gN xs).2 ((gN xs).2 + (gN xs).1)), (gN xs).2 + (gN xs).1)
abbrev st (s : ByteArray) : A := .one (.p (.v (.string s)))
section
variable {X : Task → Prop} (hX : Closed X) {Q : A → List Blk → Prop} {c : PC} {xs : List Nat}
include hX
theorem gettext_ok (hc : BytesP c xs) (hl : xs.length ≤ 20000) (hQ : Q (.tup [st (gT xs).1, iv (gT xs).2]) []) : X (.call 8 [.one (.p c)] [] Q) := by
  have hc' := hc
  have hu := getN_used 5 0 0 xs
  unfold gT at hQ
  have n1 : ∀ {Q' : A → List Blk → Prop}, Q' (.tup [iv (gN xs).1, iv (gN xs).2]) [] → X (.call 6 [.one (.p c)] [] Q') := fun h => getnum_ok hX hc' hl h
  obtain ⟨hc, hb⟩ := hc
  have hnil : xs = [] → (gN xs).2 = 0 := fun h => by subst h; rfl
  generalize hn : (gN xs).1 = n at *
  generalize hU : (gN xs).2 = U at *
  have hU5 : 0 ≤ U ∧ U ≤ 5 := by omega
  obtain rfl : c = .sl (bs xs) := hc
  · by_cases c1 : U = 0
    · have q1 : eqI U 0 = true := eqI_t.2 c1
      rw [if_pos (.inl c1)] at hQ
      refine call_intro hX Try.func8 rfl rfl ?_
      repeat' ((conv => whnf); first | refine eqv_id ?_ | refine Two.l ?_ | exact hQ | refine n1 ?_ | refine ⟨by kernel_rfl, ?_⟩ | refine bct (by assumption) ?_ | refine bcf (by assumption) ?_)
    · have q1 : eqI U 0 = false := eqI_f.2 c1
      by_cases c2 : n < 0
      · have q2 : ltI n 0 = true := ltI_t.2 c2
        rw [if_pos (.inr (.inl c2))] at hQ
        refine call_intro hX Try.func8 rfl rfl ?_
        repeat' ((conv => whnf); first | refine eqv_id ?_ | refine Two.l ?_ | exact hQ | refine n1 ?_ | refine ⟨by kernel_rfl, ?_⟩ | refine bct (by assumption) ?_ | refine bcf (by assumption) ?_)
      · have q2 : ltI n 0 = false := ltI_f.2 (by omega)
        by_cases c3 : 8 < n
        · have q3 : ltI 8 n = true := ltI_t.2 c3
          rw [if_pos (.inr (.inr (.inl c3)))] at hQ
          refine call_intro hX Try.func8 rfl rfl ?_
          repeat' ((conv => whnf); first | refine eqv_id ?_ | refine Two.l ?_ | exact hQ | refine n1 ?_ | refine ⟨by kernel_rfl, ?_⟩ | refine bct (by assumption) ?_ | refine bcf (by assumption) ?_)
        · have q3 : ltI 8 n = false := ltI_f.2 (by omega)
          have k1 : wr .i64 (U + n) = U + n := wr64 (by omega) (by omega)
          have k2 : wr .i64 (lenL (bs xs) - U) = (xs.length : Int) - U := by rw [len_bs, wr64 (by omega) (by omega)]
          by_cases c4 : (xs.length : Int) < U + n
          · have q4 : ltI (wr .i64 (lenL (bs xs) - U)) n = true := by rw [k2, ltI_t]; omega
            have q5 : ltI (lenL (bs xs)) (wr .i64 (U + n)) = true := by rw [k1, len_bs, ltI_t]; omega
            rw [if_pos (.inr (.inr (.inr c4)))] at hQ
            refine call_intro hX Try.func8 rfl rfl ?_
            repeat' ((conv => whnf); first | refine eqv_id ?_ | refine Two.l ?_ | exact hQ | refine n1 ?_ | refine ⟨by kernel_rfl, ?_⟩ | refine bct (by assumption) ?_ | refine bcf (by assumption) ?_)
          · have q4 : ltI (wr .i64 (lenL (bs xs) - U)) n = false := by rw [k2, ltI_f]; omega
            have q5 : ltI (lenL (bs xs)) (wr .i64 (U + n)) = false := by rw [k1, len_bs, ltI_f]; omega
            rw [if_neg (by omega)] at hQ
            have q6 : (lenC (bs xs) (wr .i64 (U + n)) && leI 0 U && leI U (wr .i64 (U + n)) && rowsOk (bs xs) 1) = true := by
              rw [k1]; exact and4 (by unfold lenC; simp; omega) (leI_t.2 (by omega)) (leI_t.2 (by omega)) (rowsOk_bs xs)
            have q7 : strOk (rowsIn (bs xs) U (wr .i64 (U + n))) = true := strOk_in (strOk_bs xs)
            have fin : Q (.tup [st (strOf (rowsIn (bs xs) U (wr .i64 (U + n)))), iv (wr .i64 (U + n))]) [] := by rw [k1]; exact hQ
            refine call_intro hX Try.func8 rfl rfl ?_
            repeat' ((conv => whnf); first | refine eqv_id ?_ | refine Two.l ?_ | exact fin | refine n1 ?_ | refine ⟨by kernel_rfl, ?_⟩ | refine bct (by assumption) ?_ | refine bcf (by assumption) ?_)
end
section
variable {X : Task → Prop} (hX : Closed X) {Q : A → List Blk → Prop} {c : PC} {xs : List Nat}
include hX
end
end Go.Proofs.Ytidkmoohgadjkaa.C
