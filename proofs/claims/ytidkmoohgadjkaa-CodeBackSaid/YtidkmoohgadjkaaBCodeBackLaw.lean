/- The law CodeBack, out of what its code computes. -/
import Derived.Test.YtidkmoohgadjkaaBL16
import Derived.Test.YtidkmoohgadjkaaBCodeBackN2
set_option linter.unusedVariables false
set_option linter.unusedSimpArgs false
set_option maxRecDepth 100000
namespace Go.Proofs.Ytidkmoohgadjkaa
open Go E N C
noncomputable section
open Classical
theorem chkt {α : Type} {c : Bool} {x : Option α} (h : c = true) : chk c x = x := by subst h; rfl
theorem brt {α : Type} {c : Bool} {x y : Option α} (h : c = true) : br c x y = x := by subst h; rfl
theorem brf {α : Type} {c : Bool} {x y : Option α} (h : c = false) : br c x y = y := by subst h; rfl
theorem bndo {α β : Type} {x : Option α} {f : α → Option β} {a : α} (h : x = some a) : bnd x f = f a := by subst h; rfl
theorem bytes_t {l : List Nat} (h : ∀ x ∈ l, x < 256) (hl : l.length ≤ 20000) : bytesB l = true := decide_eq_true ⟨h, hl⟩
theorem getNum_s {l : List Nat} (h : ∀ x ∈ l, x < 256) (hl : l.length ≤ 20000) : code_GetNum_s l = some (gN l) := by unfold code_GetNum_s; rw [chkt (bytes_t h hl)]
theorem getText_s {l : List Nat} (h : ∀ x ∈ l, x < 256) (hl : l.length ≤ 20000) : code_GetText_s l = some (gT l) := by unfold code_GetText_s; rw [chkt (bytes_t h hl)]
theorem seal_s {l : List Nat} (h : ∀ x ∈ l, x < 256) (hl : l.length ≤ 20000) : code_Seal_s l = some (sealN l) := by unfold code_Seal_s; rw [chkt (bytes_t h hl)]
theorem sub_all (l : List Nat) : subL l 0 (l.length : Int) = l := by unfold subL; simp
theorem sub_take (l : List Nat) (m : Nat) : subL l 0 (m : Int) = l.take m := by unfold subL; simp
theorem eqS_self' (a : ByteArray) : eqS a a = true := eqS_refl a
section
variable {xs : List Nat} (hb : ∀ x ∈ xs, x < 256) (hl : xs.length ≤ 10000)
include hb hl
theorem back3 : law16_CodeBack_j3 xs true = some true := by
  unfold law16_CodeBack_j3
  have h1 := seal_s hb (by omega)
  have h2 : code_Open_s (sealN xs) = some (xs, none) := by
    unfold code_Open_s
    rw [chkt (bytes_t (seal_lt hb) (by rw [seal_len]; omega))]
    unfold openN
    rw [if_pos (okN_seal xs).1, (okN_seal xs).2]
  rw [bndo h1, bndE_n h2, brt rfl, eqS_self']
theorem back2 : law16_CodeBack_j2 xs true = some true := by
  have R1 := gN_range hb
  have R2 := gT_range hb
  have I1 : ltI 0 (gN xs).2 = true → ∃ m : Nat, (gN xs).2 = (m : Int) ∧ m ≤ xs.length ∧ numN (gN xs).1 = xs.take m := fun h => by
    rw [ltI_t] at h
    obtain ⟨w, i1, i2, i3, i4⟩ := gN_inv hb (by omega)
    obtain ⟨j1, j2, j3, j4⟩ := num_dec i4 (encN 4 w).length
    rw [i3]
    exact ⟨_, j4, i2, by unfold numN; rw [if_pos ⟨j2, j3⟩, j1, i1]⟩
  have I2 : ltI 0 (gT xs).2 = true → ∃ m : Nat, (gT xs).2 = (m : Int) ∧ m ≤ xs.length ∧ textL (gT xs).1 = xs.take m := fun h => by
    rw [ltI_t] at h; exact gT_inv hb (by omega)
  unfold law16_CodeBack_j2
  rw [bndo (getNum_s hb (by omega)), bndo (getText_s hb (by omega)), brf (ltI_f.2 R1.1), brf (ltI_f.2 R1.2), brf (ltI_f.2 R2.1), brf (ltI_f.2 R2.2)]
  have hT : ltI 0 (gT xs).2 = true → (bnd (code_Text_s (gT xs).1) fun y => chk (leI 0 0 && (leI 0 (gT xs).2 && leI (gT xs).2 (xs.length : Int))) (br (!eqS (strOf (y.map brw)) (strOf ((subL xs 0 (gT xs).2).map brw))) (some false) (law16_CodeBack_j3 xs true))) = some true := fun G => by
    obtain ⟨k, w0, w1, w2⟩ := I2 G
    rw [bndo (show code_Text_s (gT xs).1 = some (xs.take k) by unfold code_Text_s; rw [w2]), w0, chkt (by rw [Bool.and_eq_true, Bool.and_eq_true]; exact ⟨rfl, leI_t.2 (by omega), leI_t.2 (by omega)⟩), sub_take, brf (by rw [eqS_self']; rfl), back3 hb hl]
  cases F : ltI 0 (gN xs).2 with
  | true =>
    obtain ⟨m, i0, i1, i2⟩ := I1 F
    rw [brt rfl, bndo (show code_Num_s (gN xs).1 = some (xs.take m) by unfold code_Num_s; rw [i2]), i0, chkt (by rw [Bool.and_eq_true, Bool.and_eq_true]; exact ⟨rfl, leI_t.2 (by omega), leI_t.2 (by omega)⟩), sub_take, brf (by rw [eqS_self']; rfl)]
    cases G : ltI 0 (gT xs).2 with
    | true => rw [brt rfl]; exact hT G
    | false => rw [brf rfl, back3 hb hl]
  | false =>
    rw [brf rfl]
    cases G : ltI 0 (gT xs).2 with
    | true => rw [brt rfl]; exact hT G
    | false => rw [brf rfl, back3 hb hl]
theorem back1 (s : ByteArray) : law16_CodeBack_j1 s xs true = some true := by
  unfold law16_CodeBack_j1
  have e2 : law16_CodeBack_j2 xs true = some true := back2 hb hl
  have e4 : law16_CodeBack_j4 xs true = some true := back2 hb hl
  rw [bndo (show code_Text_s s = some (textL s) from rfl), chkt (by rw [Bool.and_eq_true, Bool.and_eq_true]; exact ⟨rfl, leI_t.2 (by omega), leI_t.2 (by omega)⟩), e2, e4]
  by_cases hs : s.size ≤ 8
  · have t1 := gT_text hs xs
    have t3 : (textL s).length = s.size + 1 := by unfold textL; rw [if_pos hs, List.length_cons, sB_len]
    have t2 : ∀ x ∈ textL s ++ xs, x < 256 := fun x hx => by
      rcases List.mem_append.1 hx with hx | hx
      · exact text_lt s x hx
      · exact hb x hx
    have l8 : leI (lenS s) 8 = true := by rw [leI_t]; show (s.size : Int) ≤ 8; omega
    rw [brf (eqI_f.2 (by omega)), sub_all, chkt (show roomL (textL s).length xs.length = true by unfold roomL; exact decide_eq_true (by omega)), bndo (getText_s t2 (by rw [List.length_append]; omega)), t1]
    have e1 : eqI ((s.size : Int) + 1) ((textL s).length : Int) = true := eqI_t.2 (by rw [t3]; omega)
    have e3 : eqI ((s.size : Int) + 1) (wr .i64 (lenS s + 1)) = true := by rw [eqI_t]; show _ = wr .i64 ((s.size : Int) + 1); rw [wr64 (by omega) (by omega)]
    have l9 : ltI 8 (lenS s) = false := by rw [ltI_f]; show (s.size : Int) ≤ 8; omega
    simp only [l8, l9, eqS_self', e1, e3, Bool.not_true, br]
  · have t0 : textL s = [] := by unfold textL; rw [if_neg hs]
    have l8 : leI (lenS s) 8 = false := by rw [leI_f]; show 8 < (s.size : Int); omega
    have l9 : ltI 8 (lenS s) = true := by rw [ltI_t]; show 8 < (s.size : Int); omega
    rw [t0, brt (by rfl), bndo (getText_s hb (by omega))]
    simp only [l8, l9, br, List.length_nil, show ltI 0 ((0 : Nat) : Int) = false from rfl]
theorem back6 (s : ByteArray) : law16_CodeBack_j6 s xs true = some true := by
  unfold law16_CodeBack_j6
  have e2 : law16_CodeBack_j7 xs true = some true := back2 hb hl
  have e4 : law16_CodeBack_j9 xs true = some true := back2 hb hl
  rw [bndo (show code_Text_s s = some (textL s) from rfl), chkt (by rw [Bool.and_eq_true, Bool.and_eq_true]; exact ⟨rfl, leI_t.2 (by omega), leI_t.2 (by omega)⟩), e2, e4]
  by_cases hs : s.size ≤ 8
  · have t1 := gT_text hs xs
    have t3 : (textL s).length = s.size + 1 := by unfold textL; rw [if_pos hs, List.length_cons, sB_len]
    have t2 : ∀ x ∈ textL s ++ xs, x < 256 := fun x hx => by
      rcases List.mem_append.1 hx with hx | hx
      · exact text_lt s x hx
      · exact hb x hx
    have l8 : leI (lenS s) 8 = true := by rw [leI_t]; show (s.size : Int) ≤ 8; omega
    rw [brf (eqI_f.2 (by omega)), sub_all, chkt (show roomL (textL s).length xs.length = true by unfold roomL; exact decide_eq_true (by omega)), bndo (getText_s t2 (by rw [List.length_append]; omega)), t1]
    have e1 : eqI ((s.size : Int) + 1) ((textL s).length : Int) = true := eqI_t.2 (by rw [t3]; omega)
    have e3 : eqI ((s.size : Int) + 1) (wr .i64 (lenS s + 1)) = true := by rw [eqI_t]; show _ = wr .i64 ((s.size : Int) + 1); rw [wr64 (by omega) (by omega)]
    have l9 : ltI 8 (lenS s) = false := by rw [ltI_f]; show (s.size : Int) ≤ 8; omega
    simp only [l8, l9, eqS_self', e1, e3, Bool.not_true, br]
  · have t0 : textL s = [] := by unfold textL; rw [if_neg hs]
    have l8 : leI (lenS s) 8 = false := by rw [leI_f]; show 8 < (s.size : Int); omega
    have l9 : ltI 8 (lenS s) = true := by rw [ltI_t]; show 8 < (s.size : Int); omega
    rw [t0, brt (by rfl), chkt (show roomL 0 xs.length = true by unfold roomL; exact decide_eq_true (by omega)), bndo (getText_s hb (by omega))]
    simp only [l8, l9, br, List.length_nil, show ltI 0 ((0 : Nat) : Int) = false from rfl]
theorem back_s (n : Int) (s : ByteArray) : law16_CodeBack_s n s xs = some true := by
  have e1 := back1 hb hl s
  have e6 : law16_CodeBack_j6 s xs true = some true := back6 hb hl s
  unfold law16_CodeBack_s
  rw [bndo (show law16_up_s = some true from rfl), brf (ltI_f.2 (by omega)), bndo (show code_Num_s n = some (numN n) from rfl), chkt (by rw [Bool.and_eq_true, Bool.and_eq_true]; exact ⟨rfl, leI_t.2 (by omega), leI_t.2 (by omega)⟩), e1, e6]
  by_cases hn : -2147483648 ≤ n ∧ n ≤ 2147483647
  · have hu := numU_le hn.1 hn.2
    have p0 : numN n = encN 4 (numU n) := by unfold numN; rw [if_pos hn]
    have p1 : 0 < (numN n).length := by
      rw [p0]
      have : ∀ f u, 0 < (encN f u).length := fun f u => by
        cases f with
        | zero => simp [encN]
        | succ f => rw [encN]; split <;> simp
      exact this 4 _
    have p2 : (numN n).length ≤ 5 := by rw [p0]; exact enc_len 4 _
    have p3 : ∀ x ∈ numN n ++ xs, x < 256 := fun x hx => by
      rcases List.mem_append.1 hx with hx | hx
      · rw [p0] at hx; exact enc_lt 4 (by omega) x hx
      · exact hb x hx
    have p4 : gN (numN n ++ xs) = (n, ((numN n).length : Int)) := by rw [p0, gN_enc xs hu, dec_num hn.1 hn.2]
    rw [brf (eqI_f.2 (by omega)), sub_all, chkt (show roomL (numN n).length xs.length = true by unfold roomL; exact decide_eq_true (by omega)), bndo (getNum_s p3 (by rw [List.length_append]; omega)), p4]
    have g1 : leI (-2147483648) n = true := leI_t.2 hn.1
    have g2 : ltI n 2147483648 = true := ltI_t.2 (by omega)
    have g3 : eqI n n = true := eqI_t.2 rfl
    have g4 : eqI ((numN n).length : Int) ((numN n).length : Int) = true := eqI_t.2 rfl
    have g5 : ltI ((numN n).length : Int) 1 = false := ltI_f.2 (by omega)
    have g6 : ltI 5 ((numN n).length : Int) = false := ltI_f.2 (by omega)
    have g7 : ltI n (-2147483648) = false := ltI_f.2 (by omega)
    have g8 : leI 2147483648 n = false := leI_f.2 (by omega)
    simp only [g1, g2, g3, g4, g5, g6, g7, g8, Bool.not_true, br]
  · have p0 : numN n = [] := by unfold numN; rw [if_neg hn]
    rw [p0, brt (by rfl), chkt (show roomL 0 xs.length = true by unfold roomL; exact decide_eq_true (by omega)), bndo (getNum_s hb (by omega))]
    have g0 : ltI 0 ((([] : List Nat).length : Nat) : Int) = false := rfl
    by_cases h1 : n < -2147483648
    · have g1 : leI (-2147483648) n = false := leI_f.2 (by omega)
      have g7 : ltI n (-2147483648) = true := ltI_t.2 (by omega)
      simp only [g0, g1, g7, br]
    · have g1 : leI (-2147483648) n = true := leI_t.2 (by omega)
      have g2 : ltI n 2147483648 = false := ltI_f.2 (by omega)
      have g7 : ltI n (-2147483648) = false := ltI_f.2 (by omega)
      have g8 : leI 2147483648 n = true := leI_t.2 (by omega)
      simp only [g0, g1, g2, g7, g8, br]
end
theorem codeBack_s {n : Int} {s : ByteArray} {xs : List Nat} (hb : ∀ x ∈ xs, x < 256) : law16_CodeBack_s n s xs = some true := by
  by_cases hl : xs.length ≤ 10000
  · exact back_s hb hl n s
  · unfold law16_CodeBack_s
    rw [bndo (show law16_up_s = some true from rfl), brt (ltI_t.2 (by omega))]
theorem law_codeBack {X : Task → Prop} (hX : Closed X) {n : Int} {s : ByteArray} {xs : List Nat} (hs : s.size ≤ 9223372036854775807) (hb : ∀ x ∈ xs, x < 256) {Q : A → List Blk → Prop} (hQ : Q (bv true) []) : X (.call 3 [iv n, sv s, sl (xs.map brw)] [] Q) := law16_CodeBack_c hX (codeBack_s hb) hQ
end
end Go.Proofs.Ytidkmoohgadjkaa
