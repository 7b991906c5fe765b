/- The document's answer for the number with which bytes begin; texts. -/
import Derived.Test.YtjapbanelfcjhaaCode8
set_option linter.unusedVariables false
set_option linter.unusedSimpArgs false
set_option maxRecDepth 100000
namespace Go.Proofs.Ytjapbanelfcjhaa.C
open Go E N
def hor : List Nat → Nat
  | [] => 0
  | x :: xs => x % 128 + 128 * hor xs
theorem hor_snoc : ∀ (l : List Nat) (x : Nat), hor (l ++ [x]) = hor l + (x % 128) * 128 ^ l.length
  | [], x => by simp [hor]
  | y :: l, x => by
    have := hor_snoc l x
    simp only [List.cons_append, hor, this, List.length_cons, Nat.pow_succ]
    rw [Nat.mul_add, Nat.add_assoc, Nat.mul_left_comm, Nat.mul_comm 128 (128 ^ l.length)]
theorem hor_take {xs : List Nat} {j : Nat} (h : j < xs.length) : hor (xs.take (j + 1)) = hor (xs.take j) + (xs[j] % 128) * 128 ^ j := by
  rw [List.take_succ_eq_append_getElem h, hor_snoc]
  rw [List.length_take, Nat.min_eq_left (by omega)]
theorem hor_lt : ∀ (l : List Nat), hor l < 128 ^ l.length
  | [] => by simp [hor]
  | x :: l => by
    have := hor_lt l
    simp only [hor, List.length_cons, Nat.pow_succ]
    omega
theorem hor_take_lt (xs : List Nat) (j : Nat) : hor (xs.take j) < 128 ^ j :=
  Nat.lt_of_lt_of_le (hor_lt _) (Nat.pow_le_pow_right (by decide) (by rw [List.length_take]; omega))
def LeadI (xs : List Nat) (s : OS) : Prop := ∃ j : Nat, s.i = (j : Int) ∧ j ≤ 5 ∧ j ≤ xs.length ∧ getN (5 - j) j (hor (xs.take j)) (xs.drop j) = gN xs
def HorI (xs : List Nat) (tot : Nat) (s : OS) : Prop := ∃ m u : Nat, s.i = (m : Int) - 1 ∧ s.s = (u : Int) ∧ m ≤ xs.length ∧ m ≤ 5 ∧ u * 128 ^ m + hor (xs.take m) = tot
theorem le_tot {u m h t : Nat} (e : u * 128 ^ m + h = t) : u ≤ t := by
  have : u * 1 ≤ u * 128 ^ m := Nat.mul_le_mul_left _ (Nat.pow_pos (by decide))
  omega
section
variable {X : Task → Prop} (hX : Closed X) {Q : A → List Blk → Prop} {c : PC} {xs : List Nat}
include hX
theorem hor_loop {K : Ex → List A → List Blk → Prop} {j tot : Nat} (hb : ∀ x ∈ xs, x < 256) (hl : xs.length ≤ 20000) (hlt : j < xs.length) (hj : j < 5) (ht : hor (xs.take (j + 1)) = tot) (htl : tot < 34359738368)
    (hK : X (.loop 63 0 (loopN Try.f63 1) (pad [(0, sl (bs xs)), (3, iv (j : Int)), (0, iv (tot : Int)), (0, iv (-1))] 65) [] K)) : X (.loop 63 0 (loopN Try.f63 1) (pad [(0, sl (bs xs)), (3, iv (j : Int)), (0, iv 0), (0, iv (j : Int))] 65) [] K) := by
  refine loop_gen (fun s : OS => pad [(0, sl (bs xs)), (3, iv (j : Int)), (0, iv s.s), (0, iv s.i)] 65) (fun _ => []) (HorI xs tot) (fun s => (s.i + 1).toNat) (fun s hI ih => ?_) ⟨(j : Int), 0⟩ ⟨j + 1, 0, show (j : Int) = ((j + 1 : Nat) : Int) - 1 by omega, rfl, by omega, by omega, by rw [ht]; omega⟩
  obtain ⟨oi, os⟩ := s
  obtain ⟨m, u, hm, rfl, hml, hm5, he⟩ := hI
  dsimp only at hm
  subst hm
  have hu := le_tot he
  cases m with
  | zero =>
    have : u = tot := by simpa [hor] using he
    subst this
    exact hK
  | succ m =>
    have hml' : m < xs.length := by omega
    have hy := hb _ (List.getElem_mem hml')
    have hh2 := hor_take hml'
    rw [hh2] at he
    obtain ⟨y, hye⟩ : ∃ y, xs[m] = y := ⟨_, rfl⟩
    rw [hye] at hy he
    have e0 : ((m + 1 : Nat) : Int) - 1 = (m : Int) := by omega
    have r2 : E.rowAt (bs xs) (m : Int) = [.v (.int .u8 (y : Int))] := by rw [at_bs hml', hye]
    have b2 := lenB_bs hml'
    have p2 : leI 0 (m : Int) = true := leI_t.2 (by omega)
    have k2 : wr .i64 ((m : Int) - 1) = (m : Int) - 1 := wr64 (by omega) (by omega)
    have he2 : (128 * u + y % 128) * 128 ^ m + hor (xs.take m) = tot := by
      rw [Nat.pow_succ] at he
      rw [Nat.add_mul, Nat.mul_comm 128 u, Nat.mul_assoc, Nat.mul_comm 128 (128 ^ m)]
      omega
    have hu2 := le_tot he2
    have e3 : wr .i64 (wr .i64 (128 * (u : Int)) + tmodI (wr .i64 (y : Int)) 128) = ((128 * u + y % 128 : Nat) : Int) := by
      rw [wr64 (n := (y : Int)) (by omega) (by omega), tmod128, wr64 (n := 128 * (u : Int)) (by omega) (by omega), wr64 (by omega) (by omega)]; omega
    have hI' : HorI xs tot ⟨wr .i64 ((m : Int) - 1), wr .i64 (wr .i64 (128 * (u : Int)) + tmodI (wr .i64 (y : Int)) 128)⟩ := ⟨m, _, k2, e3, by omega, by omega, he2⟩
    have hms : (wr .i64 ((m : Int) - 1) + 1).toNat < ((m : Int) + 1).toNat := by rw [k2]; omega
    rw [e0]
    dsimp only at ih
    rw [e0] at ih
    refine loop_intro hX ?_
    repeat' ((conv => whnf); first | refine bct (by assumption) ?_ | refine bcf (by assumption) ?_ | refine ih ⟨_, _⟩ hI' hms | rw [r2])
set_option maxHeartbeats 2000000 in
theorem rgetnum_ok (hc : BytesP c xs) (hl : xs.length ≤ 20000) (hQ : Q (.tup [iv (gN xs).1, iv (gN xs).2]) []) : X (.call 63 [.one (.p c)] [] Q) := by
  have hc' := hc
  obtain ⟨hc, hb⟩ := hc
  refine call_intro hX Try.func63 rfl rfl ?_
  rcases hc with rfl | ⟨rfl, rfl⟩
  · (conv => whnf)
    refine loop_gen (fun s : OS => pad [(0, sl (bs xs)), (3, iv s.i)] 67) (fun _ => []) (LeadI xs) (fun s => (5 - s.i).toNat) (fun s hI ih => ?_) ⟨0, 0⟩ ⟨0, rfl, by omega, by omega, rfl⟩
    obtain ⟨oi, os⟩ := s
    obtain ⟨j, rfl, hj5, hjl, hg⟩ := hI
    refine loop_intro hX ?_
    by_cases hend : j = xs.length
    · -- no more bytes
      have q1 : ltI (j : Int) (lenL (bs xs)) = false := by rw [len_bs, ltI_f]; omega
      have q2 : eqI (j : Int) (lenL (bs xs)) = true := by rw [len_bs, eqI_t]; omega
      rw [List.drop_of_length_le (by omega)] at hg
      have fin : Q (.tup [iv 0, iv 0]) [] := by
        have : gN xs = (0, 0) := by rw [← hg]; cases (5 - j) <;> rfl
        rw [this] at hQ; exact hQ
      repeat' ((conv => whnf); first | exact fin | refine ⟨by kernel_rfl, ?_⟩ | refine bct (by assumption) ?_ | refine bcf (by assumption) ?_)
    · have hlt : j < xs.length := by omega
      have q1 : ltI (j : Int) (lenL (bs xs)) = true := by rw [len_bs, ltI_t]; omega
      have q2 : eqI (j : Int) (lenL (bs xs)) = false := by rw [len_bs, eqI_f]; omega
      by_cases h5 : j = 5
      · have q3 : ltI (j : Int) 5 = false := by rw [ltI_f]; omega
        have q4 : eqI (j : Int) 5 = true := by rw [eqI_t]; omega
        have fin : Q (.tup [iv 0, iv 0]) [] := by
          have : gN xs = (0, 0) := by rw [← hg, h5]; rfl
          rw [this] at hQ; exact hQ
        repeat' ((conv => whnf); first | exact fin | refine ⟨by kernel_rfl, ?_⟩ | refine bct (by assumption) ?_ | refine bcf (by assumption) ?_)
      · have q3 : ltI (j : Int) 5 = true := by rw [ltI_t]; omega
        have q4 : eqI (j : Int) 5 = false := by rw [eqI_f]; omega
        have hx := hb _ (List.getElem_mem hlt)
        have hh := hor_take hlt
        rw [List.drop_eq_getElem_cons hlt] at hg
        obtain ⟨f, hf⟩ : ∃ f, 5 - j = f + 1 := ⟨4 - j, by omega⟩
        rw [hf] at hg
        obtain ⟨x, hxe⟩ : ∃ x, xs[j] = x := ⟨_, rfl⟩
        rw [hxe] at hx hg hh
        have r1 : E.rowAt (bs xs) (j : Int) = [.v (.int .u8 (x : Int))] := by rw [at_bs hlt, hxe]
        have b1 := lenB_bs hlt
        have k1 : wr .i64 ((j : Int) + 1) = ((j + 1 : Nat) : Int) := wrS (by omega)
        by_cases hge : 128 ≤ x
        · have p1 : ltI 127 (x : Int) = true := ltI_t.2 (by omega)
          rw [getN, if_pos hge, ← hh] at hg
          have hI' : LeadI xs ⟨wr .i64 ((j : Int) + 1), 0⟩ := ⟨j + 1, k1, by omega, by omega, by rw [show 5 - (j + 1) = f by omega]; exact hg⟩
          have hms : (5 - wr .i64 ((j : Int) + 1)).toNat < (5 - (j : Int)).toNat := by rw [k1]; omega
          repeat' ((conv => whnf); first | refine ⟨by kernel_rfl, ?_⟩ | refine bct (by assumption) ?_ | refine bcf (by assumption) ?_ | refine ih ⟨_, 0⟩ hI' hms | rw [r1])
        · have p1 : ltI 127 (x : Int) = false := ltI_f.2 (by omega)
          rw [getN, if_neg hge, ← hh] at hg
          rw [← hg] at hQ
          unfold getF at hQ
          obtain ⟨AA, hA⟩ : ∃ AA, hor (xs.take (j + 1)) = AA := ⟨_, rfl⟩
          rw [hA] at hQ
          have hAlt : AA < 34359738368 := by
            have h1 := hor_take_lt xs (j + 1)
            have h2 : 128 ^ (j + 1) ≤ 128 ^ 5 := Nat.pow_le_pow_right (by decide) (by omega)
            rw [hA] at h1
            have : (128 : Nat) ^ 5 = 34359738368 := by decide
            omega
          have b0 : ltI 0 (j : Int) = decide (0 < j) := by unfold ltI; rw [Bool.eq_iff_iff, decide_eq_true_iff, decide_eq_true_iff]; omega
          by_cases hz : 0 < j ∧ x = 0
          · have t1 : ltI 0 (j : Int) = true := by rw [b0]; exact decide_eq_true hz.1
            have t2 : eqI (x : Int) 0 = true := eqI_t.2 (by omega)
            rw [if_pos (.inr ⟨hz.2, by omega⟩)] at hQ
            repeat' ((conv => whnf); first | exact hQ | refine ⟨by kernel_rfl, ?_⟩ | refine bct (by assumption) ?_ | refine bcf (by assumption) ?_ | rw [r1])
          · have t12 : (ltI 0 (j : Int) = true ∧ eqI (x : Int) 0 = false) ∨ ltI 0 (j : Int) = false := by
              rw [eqI_f, ltI_t, ltI_f]; omega
            have d1 : wr .i64 (tdivI (AA : Int) 2) = ((AA / 2 : Nat) : Int) := by rw [tdiv2, wr64 (by omega) (by omega)]
            have d2 : wr .i64 (0 - wr .i64 (tdivI (wr .i64 ((AA : Int) + 1)) 2)) = -(((AA + 1) / 2 : Nat) : Int) := by
              rw [wr64 (n := (AA : Int) + 1) (by omega) (by omega), show (AA : Int) + 1 = ((AA + 1 : Nat) : Int) by omega, tdiv2, wr64 (n := (((AA + 1) / 2 : Nat) : Int)) (by omega) (by omega), wr64 (by omega) (by omega)]; omega
            by_cases hbig : 4294967295 < AA
            · have t3 : ltI 4294967295 (AA : Int) = true := by rw [ltI_t]; omega
              rw [if_pos (.inl hbig)] at hQ
              rcases t12 with ⟨t1, t2⟩ | t1
              all_goals
                repeat' ((conv => whnf); first | exact hQ | refine ⟨by kernel_rfl, ?_⟩ | refine bct (by assumption) ?_ | refine bcf (by assumption) ?_ | rw [r1] | (refine hor_loop hX hb hl hlt (by omega) hA hAlt ?_; refine loop_intro hX ?_))
            · have t3 : ltI 4294967295 (AA : Int) = false := by rw [ltI_f]; omega
              rw [if_neg (by omega)] at hQ
              by_cases hodd : AA % 2 = 1
              · have t4 : eqI (tmodI (AA : Int) 2) 0 = false := by rw [tmod2, hodd]; rfl
                rw [if_pos hodd] at hQ
                rcases t12 with ⟨t1, t2⟩ | t1
                all_goals
                  repeat' ((conv => whnf); first | exact Qa hQ (by rw [d2, k1, show -(((AA + 1) / 2 : Nat) : Int) = -((AA / 2 : Nat) : Int) - 1 by omega]) | refine ⟨by kernel_rfl, ?_⟩ | refine bct (by assumption) ?_ | refine bcf (by assumption) ?_ | rw [r1] | (refine hor_loop hX hb hl hlt (by omega) hA hAlt ?_; refine loop_intro hX ?_))
              · have t4 : eqI (tmodI (AA : Int) 2) 0 = true := by rw [tmod2, show AA % 2 = 0 by omega]; rfl
                rw [if_neg hodd] at hQ
                rcases t12 with ⟨t1, t2⟩ | t1
                all_goals
                  repeat' ((conv => whnf); first | exact Qa hQ (by rw [d1, k1]) | refine ⟨by kernel_rfl, ?_⟩ | refine bct (by assumption) ?_ | refine bcf (by assumption) ?_ | rw [r1] | (refine hor_loop hX hb hl hlt (by omega) hA hAlt ?_; refine loop_intro hX ?_))
  · repeat' ((conv => whnf); first | exact hQ | refine ⟨by kernel_rfl, ?_⟩ | refine bct (by assumption) ?_ | refine bcf (by assumption) ?_ | refine loop_intro hX ?_)
end
end Go.Proofs.Ytjapbanelfcjhaa.C
