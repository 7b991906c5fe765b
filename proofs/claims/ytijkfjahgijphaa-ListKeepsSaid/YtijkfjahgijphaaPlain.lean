/- Filters made plain (layer 4): the program's answer. -/
import Derived.Test.YtijkfjahgijphaaPlainSpec
import Derived.Test.YtijkfjahgijphaaKit
set_option linter.unusedVariables false
set_option linter.unusedSimpArgs false
set_option maxRecDepth 100000
set_option maxHeartbeats 4000000
namespace Go.Proofs.Ytijkfjahgijphaa
open Go E Pred
theorem lenB_cat {l : List (List PC)} {r : List PC} {n : Nat} : (lenB (catL l [r]) (lenL l) && Nat.beq n n) = true := by
  unfold lenB catL lenL; simp; omega
theorem at_cat {l : List (List PC)} {r : List PC} : E.rowAt (catL l [r]) (lenL l) = r := by
  unfold E.rowAt catL lenL
  rw [Int.toNat_natCast, List.getD_eq_getElem?_getD, List.getElem?_append_right (Nat.le_refl _), Nat.sub_self]; rfl
theorem set_last {acc : List Pred} {k : Pred} {r : List PC} : setRow (catL (rows acc) [r]) (lenL (rows acc)).toNat [ip k.op, .v (.string k.text), ip k.n, .v (.complex .f64 k.re k.im), .sl (rows k.kids)] = rows (acc ++ [k]) := by
  unfold setRow catL lenL
  rw [Int.toNat_natCast, List.set_append_right _ _ (Nat.le_refl _), Nat.sub_self, rows_eq (acc ++ [k]), rows_eq acc, List.map_append, List.map_cons, List.map_nil, row_eq]; rfl
section
variable {X : Task → Prop} (hX : Closed X) {k : Pred} {none : Int} {acc : List Pred} {kk : Nat} {Q : A → List Blk → Prop}
include hX
theorem same_rp {p q : Pred} (op : p.Ok) (hQ : Q (bv (sameP p q)) []) : X (.call 137 [q.a, .one (.rp [ip p.op, .v (.string p.text), ip p.n, .v (.complex .f64 p.re p.im), .sl (rows p.kids)])] [] Q) := by
  refine call_intro hX Try.func137 rfl rfl ?_
  repeat' ((conv => whnf); first | exact hQ | refine eqv_id ?_ | refine Two.l ?_ | refine ⟨by kernel_rfl, ?_⟩ | refine bct (by assumption) ?_ | refine bcf (by assumption) ?_ | refine bcf (nt (by assumption)) ?_ | refine bct (nf (by assumption)) ?_ | refine psame_ok hX p.size (p := p) (q := q) (Nat.le_refl _) op ?_)
theorem whole_rp {p : Pred} {w : Int} (hQ : Q (bv (eqI p.op w)) []) : X (.call 138 [p.a, .one (.rp [ip w])] [] Q) := by
  refine call_intro hX Try.func138 rfl rfl ?_
  repeat' ((conv => whnf); first | exact hQ | refine eqv_id ?_ | refine Two.l ?_ | refine ⟨by kernel_rfl, ?_⟩ | refine bct (by assumption) ?_ | refine bcf (by assumption) ?_ | refine bcf (nt (by assumption)) ?_ | refine bct (nf (by assumption)) ?_)
theorem add_ok (ok : k.Ok) (hacc : acc.length ≤ 1000) (hkk : (Nat.beq kk 5 || Nat.beq kk 0) = true) (h1 : addP none acc k = acc ++ [k] → ∀ l, l = rows (acc ++ [k]) → Q (.tup []) [.box [ic none], .box [.own 3], .dead, .rows 5 l]) (h2 : addP none acc k = acc → Q (.tup []) [.box [ic none], .box [.own 2], .rows kk (rows acc)]) :
    X (.call 136 [k.a, .one (.ptr 0 0), .one (.ptr 1 0)] [.box [ic none], .box [.own 2], .rows kk (rows acc)] Q) := by
  refine call_intro hX Try.func136 rfl rfl ?_
  have hg : ∀ (j : Nat) (hj : j < acc.length) (Q' : A → List Blk → Prop), Q' (bv ((fun o => sameP k o) acc[j])) [] → X (.call 137 [acc[j].a, .one (.rp [ip k.op, .v (.string k.text), ip k.n, .v (.complex .f64 k.re k.im), .sl (rows k.kids)])] [] Q') := fun j hj Q' h => same_rp hX ok h
  obtain ⟨b, hb⟩ : ∃ b, (acc.any fun o => sameP k o) = b := ⟨_, rfl⟩
  unfold addP at h1 h2
  rw [hb] at h1 h2
  have hlr : (rows acc).length ≤ 50000 := by rw [rows_eq, List.length_map]; omega
  cases hn : eqI k.op none with
  | true =>
    rw [hn] at h2
    have h2 := h2 rfl
    repeat' ((conv => whnf); first | exact hQ | refine eqv_id ?_ | refine Two.l ?_ | refine ⟨by kernel_rfl, ?_⟩ | refine bct (by assumption) ?_ | refine bcf (by assumption) ?_ | refine bcf (nt (by assumption)) ?_ | refine bct (nf (by assumption)) ?_ | (exact h2))
  | false =>
    cases b with
    | true =>
      rw [hn] at h2
      have h2 := h2 rfl
      repeat' ((conv => whnf); first | exact hQ | refine eqv_id ?_ | refine Two.l ?_ | refine ⟨by kernel_rfl, ?_⟩ | refine bct (by assumption) ?_ | refine bcf (by assumption) ?_ | refine bcf (nt (by assumption)) ?_ | refine bct (nf (by assumption)) ?_ | (exact h2) | refine Or.inr (Or.inl ?_) | refine known bv (fun _ h => containsFunc_ok hX (P := fun o => sameP k o) (by omega) hg h) hb ?_)
    | false =>
      rw [hn] at h1
      have h1 := h1 rfl
      repeat' ((conv => whnf); first | exact hQ | refine eqv_id ?_ | refine Two.l ?_ | refine ⟨by kernel_rfl, ?_⟩ | refine bct (by assumption) ?_ | refine bcf (by assumption) ?_ | refine bcf (nt (by assumption)) ?_ | refine bct (nf (by assumption)) ?_ | refine Or.inr (Or.inl ?_) | refine known bv (fun _ h => containsFunc_ok hX (P := fun o => sameP k o) (by omega) hg h) hb ?_ | refine bct (room3 hlr rfl rfl rfl hkk) ?_ | refine bct lenB_cat ?_ | refine row_in at_cat ?_ | (exact h1 _ set_last))
end
theorem list_ok {X : Task → Prop} (hX : Closed X) {p : Pred} {none whole : Int} {Q : A → List Blk → Prop} (ok : p.Ok) (hfits : fitsL p.kids = true) (hsz : sizes p.kids ≤ 60)
    (hk : ∀ (j : Nat) (hj : j < p.kids.length) (Q' : A → List Blk → Prop), Q' (plainP p.kids[j]).a [] → X (.call 37 [p.kids[j].a] [] Q'))
    (hQ : Q (endP p.op none whole ((flatP p.op (plainL p.kids)).foldl (addP none) [])).a []) : X (.call 95 [p.a, iv none, iv whole] [] Q) := by
  refine call_nz hX ?_
  refine call_intro hX Try.func95 rfl rfl ?_
  repeat' ((conv => whnf); first | exact hQ | refine eqv_id ?_ | refine Two.l ?_ | refine ⟨by kernel_rfl, ?_⟩ | refine bct (by assumption) ?_ | refine bcf (by assumption) ?_ | refine bcf (nt (by assumption)) ?_ | refine bct (nf (by assumption)) ?_)
  have lp := plainL_nice hfits
  have hle : (plainL p.kids).length = p.kids.length := by rw [plainL_eq, List.length_map]
  have hpk : ∀ (j : Nat) (hj : j < p.kids.length), (plainL p.kids)[j]'(by omega) = plainP p.kids[j] := fun j hj => by
    have e := plainL_eq p.kids
    have : (plainL p.kids)[j]? = (p.kids.map plainP)[j]? := by rw [e]
    rw [List.getElem?_eq_getElem (by omega), List.getElem?_eq_getElem (by rw [List.length_map]; omega), List.getElem_map] at this
    exact Option.some.inj this
  have hlen : p.kids.length ≤ 60 := Nat.le_trans (len_sizes _) hsz
  have hF : ∀ j, sizes ((flatP p.op ((plainL p.kids).take j)).foldl (addP none) []) ≤ 60 := fun j => by
    have h1 := fold_nice (none := none) (l := flatP p.op ((plainL p.kids).take j)) (acc := [])
    have h2 := flat_nice p.op (l := (plainL p.kids).take j) (fitsL_of fun k hk => fitsL_mem lp.1 (List.mem_of_mem_take hk))
    have h3 := take_sizes_le (plainL p.kids) j
    rw [sizes_nil] at h1
    omega
  refine range_ix (fun i (st : Rw) => pad [(3, .one (.ptr 0 0)), (0, .one (.ptr 1 0)), (0, .one (.ptr 2 0)), (0, .one (.ptr 3 0)), (0, .one (.ptr 5 0)), (0, .one (.fn 136 [1, 5])), (7, sl (rows p.kids)), (0, iv (lenL (rows p.kids))), (0, iv i)] 49)
    (fun _ st => [.box [ic p.op, .p (.v (.string p.text)), ic p.n, .p (.v (.complex .f64 p.re p.im)), .p (.sl (rows p.kids))], .box [ic none], .box [ic whole], .box [ic 0, .p (.v (.string ⟨#[]⟩)), ic 0, .p (.v (.complex .f64 0 0)), .own 4], .rows 0 [], .box [.own 6], .rows st.k st.l])
    (fun j st => (Nat.beq st.k 5 || Nat.beq st.k 0) = true ∧ (st.l.length = 0 ∨ st.k = 5) ∧ st.l = rows ((flatP p.op ((plainL p.kids).take j)).foldl (addP none) [])) p.kids.length 0 (Nat.zero_le _) (fun j st _ hj hI ih => ?_) (fun st hI => ?_) 0 ⟨_, _⟩ rfl ⟨rfl, .inl rfl, by rw [List.take_zero]; exact rows_nil.symm⟩
  · obtain ⟨k1, l1⟩ := st
    obtain ⟨i1, i3, i2⟩ := hI
    dsimp only at i1 i3 i2
    subst i2
    have q1 : ltI (j : Int) (lenL (rows p.kids)) = true := by rw [len_rows, ltI_t]; omega
    have q2 := lenB_rows hj
    have r1 := at_rows hj
    have hkj := hk j hj
    have hpj := hpk j hj
    have hst := fold_flat (none := none) (o := p.op) (l := plainL p.kids) (j := j) (by omega)
    rw [hpj] at hst
    have hFj := hF j
    have hfj : fitsP (plainP p.kids[j]) = true ∧ (plainP p.kids[j]).size ≤ 60 := by
      have hm := List.getElem_mem (l := plainL p.kids) (n := j) (by omega)
      rw [hpj] at hm
      exact ⟨fitsL_mem lp.1 hm, Nat.le_trans (size_mem hm) (by omega)⟩
    generalize plainP p.kids[j] = q at *
    generalize (flatP p.op ((plainL p.kids).take j)).foldl (addP none) [] = F at *
    have okq := ok_of_fits hfj.1 (by omega)
    have hFl := len_sizes F
    refine loop_intro hX ?_
    by_cases ho : q.op = p.op
    · have q3 : eqI q.op p.op = true := eqI_t.2 ho
      rw [if_pos q3] at hst
      have hql := len_sizes q.kids
      have hqs := size_eq q
      have hq60 := hfj.2
      clear hpj
      repeat' ((conv => whnf); first | exact hQ | refine eqv_id ?_ | refine Two.l ?_ | refine ⟨by kernel_rfl, ?_⟩ | refine bct (by assumption) ?_ | refine bcf (by assumption) ?_ | refine bcf (nt (by assumption)) ?_ | refine bct (nf (by assumption)) ?_ | refine row_in r1 ?_ | refine hkj _ ?_)
      refine range_ix (fun i (st : Rw) => pad [(3, .one (.ptr 0 0)), (0, .one (.ptr 1 0)), (0, .one (.ptr 2 0)), (0, .one (.ptr 3 0)), (0, .one (.ptr 5 0)), (0, .one (.fn 136 [1, 5])), (7, sl (rows p.kids)), (0, iv (lenL (rows p.kids))), (0, iv (j : Int)), (14, sl (rows q.kids)), (0, iv (lenL (rows q.kids))), (0, iv i)] 32)
        (fun _ st => [.box [ic p.op, .p (.v (.string p.text)), ic p.n, .p (.v (.complex .f64 p.re p.im)), .p (.sl (rows p.kids))], .box [ic none], .box [ic whole], .box [ic 0, .p (.v (.string ⟨#[]⟩)), ic 0, .p (.v (.complex .f64 0 0)), .own 4], .rows 0 [], .box [.own 6], .rows st.k st.l])
        (fun i st => (Nat.beq st.k 5 || Nat.beq st.k 0) = true ∧ (st.l.length = 0 ∨ st.k = 5) ∧ st.l = rows ((q.kids.take i).foldl (addP none) F)) q.kids.length 0 (Nat.zero_le _) (fun i st _ hi hI ih' => ?_) (fun st hI => ?_) 0 ⟨_, _⟩ rfl ⟨i1, i3, by rw [List.take_zero]; rfl⟩
      · obtain ⟨k2, l2⟩ := st
        obtain ⟨i1, i3, i2⟩ := hI
        dsimp only at i1 i3 i2
        subst i2
        have q1 : ltI (i : Int) (lenL (rows q.kids)) = true := by rw [len_rows, ltI_t]; omega
        have q2 := lenB_rows hi
        have r1 := at_rows hi
        have hst' := fold_one (none := none) (acc := F) hi
        have oki := okq.kid hi
        have hG := (fold_nice (none := none) (l := q.kids.take i) (acc := F)).1
        have hT := take_sizes_le q.kids i
        generalize (q.kids.take i).foldl (addP none) F = G at *
        have hGl := len_sizes G
        refine loop_intro hX ?_
        repeat' ((conv => whnf); first | exact hQ | refine eqv_id ?_ | refine Two.l ?_ | refine ⟨by kernel_rfl, ?_⟩ | refine bct (by assumption) ?_ | refine bcf (by assumption) ?_ | refine bcf (nt (by assumption)) ?_ | refine bct (nf (by assumption)) ?_ | refine row_in r1 ?_ | refine Or.inr (Or.inr ?_) | refine add_ok hX oki (by omega) i1 (fun e l hl => ?_) (fun e => ?_) | (exact ih' _ ⟨_, _⟩ (wrS (by omega)) ⟨rfl, .inr rfl, by rw [hl, hst', e]⟩) | (exact ih' _ ⟨_, _⟩ (wrS (by omega)) ⟨i1, i3, by rw [hst', e]⟩))
      · obtain ⟨k2, l2⟩ := st
        obtain ⟨i1, i3, i2⟩ := hI
        dsimp only at i1 i3 i2
        subst i2
        rw [List.take_length] at i3 ⊢
        have q1 : ltI (q.kids.length : Int) (lenL (rows q.kids)) = false := by rw [len_rows, ltI_f]; omega
        refine loop_intro hX ?_
        repeat' ((conv => whnf); first | exact hQ | refine eqv_id ?_ | refine Two.l ?_ | refine ⟨by kernel_rfl, ?_⟩ | refine bct (by assumption) ?_ | refine bcf (by assumption) ?_ | refine bcf (nt (by assumption)) ?_ | refine bct (nf (by assumption)) ?_ | (exact ih _ ⟨_, _⟩ (wrS (by omega)) ⟨i1, i3, by rw [hst]⟩))
    · have q3 : eqI q.op p.op = false := eqI_f.2 ho
      rw [if_neg (by rw [q3]; simp), List.foldl_cons, List.foldl_nil] at hst
      repeat' ((conv => whnf); first | exact hQ | refine eqv_id ?_ | refine Two.l ?_ | refine ⟨by kernel_rfl, ?_⟩ | refine bct (by assumption) ?_ | refine bcf (by assumption) ?_ | refine bcf (nt (by assumption)) ?_ | refine bct (nf (by assumption)) ?_ | refine row_in r1 ?_ | refine hkj _ ?_ | refine Or.inr (Or.inr ?_) | refine add_ok hX okq (by omega) i1 (fun e l hl => ?_) (fun e => ?_) | (exact ih _ ⟨_, _⟩ (wrS (by omega)) ⟨rfl, .inr rfl, by rw [hl, hst, e]⟩) | (exact ih _ ⟨_, _⟩ (wrS (by omega)) ⟨i1, i3, by rw [hst, e]⟩))
  · obtain ⟨k1, l1⟩ := st
    obtain ⟨i1, i3, i2⟩ := hI
    dsimp only at i1 i3 i2
    subst i2
    have et : (plainL p.kids).take p.kids.length = plainL p.kids := by rw [← hle, List.take_length]
    rw [et]
    have i3 : (rows ((flatP p.op (plainL p.kids)).foldl (addP none) [])).length = 0 ∨ k1 = 5 := by rw [et] at i3; exact i3
    have hFn := hF p.kids.length
    rw [show (plainL p.kids).take p.kids.length = plainL p.kids by rw [← hle, List.take_length]] at hFn
    generalize (flatP p.op (plainL p.kids)).foldl (addP none) [] = F at *
    have hFl := len_sizes F
    have q1 : ltI (p.kids.length : Int) (lenL (rows p.kids)) = false := by rw [len_rows, ltI_f]; omega
    have hg : ∀ (j : Nat) (hj : j < F.length) (Q' : A → List Blk → Prop), Q' (bv ((fun o => eqI o.op whole) F[j])) [] → X (.call 138 [F[j].a, .one (.rp [ip whole])] [] Q') := fun j hj Q' h => whole_rp hX h
    refine loop_intro hX ?_
    obtain ⟨b, hb⟩ : ∃ b, (F.any fun o => eqI o.op whole) = b := ⟨_, rfl⟩
    clear hk hpk hfits lp hF hle
    cases b with
    | true =>
      rw [end_whole hb] at hQ
      have hQ : Q (.agg [ic whole, .p (.v (.string ⟨#[]⟩)), ic 0, .p (.v (.complex .f64 0 0)), .p (.sl (rows []))]) [] := hQ
      rw [rows_nil] at hQ
      repeat' ((conv => whnf); first | exact hQ | refine eqv_id ?_ | refine Two.l ?_ | refine ⟨by kernel_rfl, ?_⟩ | refine bct (by assumption) ?_ | refine bcf (by assumption) ?_ | refine bcf (nt (by assumption)) ?_ | refine bct (nf (by assumption)) ?_ | refine Or.inr (Or.inl ?_) | refine known bv (fun _ h => containsFunc_ok hX (P := fun o => eqI o.op whole) (by omega) hg h) hb ?_)
    | false =>
      by_cases h0 : F.length = 0
      · rw [end_none h0] at hQ
        have hQ : Q (.agg [ic none, .p (.v (.string ⟨#[]⟩)), ic 0, .p (.v (.complex .f64 0 0)), .p (.sl (rows []))]) [] := hQ
        rw [rows_nil] at hQ
        have z0 : eqI (lenL (rows F)) 0 = true := by rw [len_rows, eqI_t]; omega
        repeat' ((conv => whnf); first | exact hQ | refine eqv_id ?_ | refine Two.l ?_ | refine ⟨by kernel_rfl, ?_⟩ | refine bct (by assumption) ?_ | refine bcf (by assumption) ?_ | refine bcf (nt (by assumption)) ?_ | refine bct (nf (by assumption)) ?_ | refine Or.inr (Or.inl ?_) | refine known bv (fun _ h => containsFunc_ok hX (P := fun o => eqI o.op whole) (by omega) hg h) hb ?_)
      · have z0 : eqI (lenL (rows F)) 0 = false := by rw [len_rows, eqI_f]; omega
        by_cases h1 : F.length = 1
        · rw [end_one h1 hb] at hQ
          have z1 : eqI (lenL (rows F)) 1 = true := by rw [len_rows, eqI_t]; omega
          have k5 : k1 = 5 := by
            rcases i3 with h | h
            · rw [rows_eq, List.length_map] at h; omega
            · exact h
          subst k5
          have r1 := at_rows (l := F) (j := 0) (by omega)
          have l1 : (lenB (rows F) 0 && Nat.beq 5 (ty T 39).sz) = true := by rw [show (0 : Int) = ((0 : Nat) : Int) from rfl, lenB_rows (l := F) (j := 0) (by omega)]; rfl
          repeat' ((conv => whnf); first | exact hQ | refine eqv_id ?_ | refine Two.l ?_ | refine ⟨by kernel_rfl, ?_⟩ | refine bct (by assumption) ?_ | refine bcf (by assumption) ?_ | refine bcf (nt (by assumption)) ?_ | refine bct (nf (by assumption)) ?_ | refine Or.inr (Or.inl ?_) | refine known bv (fun _ h => containsFunc_ok hX (P := fun o => eqI o.op whole) (by omega) hg h) hb ?_ | refine row_in r1 ?_)
        · rw [end_many (by omega) hb] at hQ
          have z1 : eqI (lenL (rows F)) 1 = false := by rw [len_rows, eqI_f]; omega
          repeat' ((conv => whnf); first | exact hQ | refine eqv_id ?_ | refine Two.l ?_ | refine ⟨by kernel_rfl, ?_⟩ | refine bct (by assumption) ?_ | refine bcf (by assumption) ?_ | refine bcf (nt (by assumption)) ?_ | refine bct (nf (by assumption)) ?_ | refine Or.inr (Or.inl ?_) | refine known bv (fun _ h => containsFunc_ok hX (P := fun o => eqI o.op whole) (by omega) hg h) hb ?_)
theorem plain_ok {X : Task → Prop} (hX : Closed X) : ∀ (N : Nat) {p : Pred} {Q : A → List Blk → Prop}, p.size ≤ N → p.size ≤ 61 → fitsP p = true → Q (plainP p).a [] → X (.call 37 [p.a] [] Q)
  | 0, p, _, h, _, _, _ => absurd h (by have := size_pos p; omega)
  | N + 1, p, Q, hN, h60, hf, hQ => by
    have ok := ok_of_fits hf (by omega)
    have hs := size_eq p
    have hfk := fits_kids hf
    have hk : ∀ (j : Nat) (hj : j < p.kids.length) (Q' : A → List Blk → Prop), Q' (plainP p.kids[j]).a [] → X (.call 37 [p.kids[j].a] [] Q') := fun j hj Q' h => plain_ok hX N (by have := size_kid hj; omega) (by have := size_kid hj; omega) (fits_kid hf hj) h
    have hfp := plain_nice hf
    rw [plainP_eq] at hQ
    refine call_nz hX ?_
    refine call_intro hX Try.func37 rfl rfl ?_
    by_cases h9 : p.op = 9
    · have e9 : eqI p.op 9 = true := eqI_t.2 h9
      rw [if_pos e9, ← h9] at hQ
      obtain ⟨r, hr⟩ : ∃ r, endP p.op 2 1 ((flatP p.op (plainL p.kids)).foldl (addP 2) []) = r := ⟨_, rfl⟩
      rw [hr] at hQ
      repeat' ((conv => whnf); first | exact hQ | refine eqv_id ?_ | refine Two.l ?_ | refine ⟨by kernel_rfl, ?_⟩ | refine bct (by assumption) ?_ | refine bcf (by assumption) ?_ | refine bcf (nt (by assumption)) ?_ | refine bct (nf (by assumption)) ?_ | refine known (fun r : Pred => r.a) (fun _ h => list_ok hX ok hfk (by omega) hk h) hr ?_)
    · have e9 : eqI p.op 9 = false := eqI_f.2 h9
      rw [if_neg (by rw [e9]; simp)] at hQ
      by_cases h8 : p.op = 8
      · have e8 : eqI p.op 8 = true := eqI_t.2 h8
        rw [if_pos e8, ← h8] at hQ
        obtain ⟨r, hr⟩ : ∃ r, endP p.op 1 2 ((flatP p.op (plainL p.kids)).foldl (addP 1) []) = r := ⟨_, rfl⟩
        rw [hr] at hQ
        repeat' ((conv => whnf); first | exact hQ | refine eqv_id ?_ | refine Two.l ?_ | refine ⟨by kernel_rfl, ?_⟩ | refine bct (by assumption) ?_ | refine bcf (by assumption) ?_ | refine bcf (nt (by assumption)) ?_ | refine bct (nf (by assumption)) ?_ | refine known (fun r : Pred => r.a) (fun _ h => list_ok hX ok hfk (by omega) hk h) hr ?_)
      · have e8 : eqI p.op 8 = false := eqI_f.2 h8
        rw [if_neg (by rw [e8]; simp)] at hQ
        by_cases h10 : p.op = 10
        · have e10 : eqI p.op 10 = true := eqI_t.2 h10
          rw [if_pos e10] at hQ
          obtain ⟨m, hm⟩ := fits_ten hf h10
          have hl : 0 < p.kids.length := by rw [hm]; simp
          have hL : plainL p.kids = [plainP p.kids[0]] := by
            rw [plainL_eq]
            simp [hm]
          rw [hL, notV_one] at hQ
          have hfq := plain_nice (fits_kid hf hl)
          have hkq := hk 0 hl
          have z0 : eqI (lenL (rows p.kids)) 0 = false := by rw [len_rows, eqI_f]; omega
          have r1 := at_rows (l := p.kids) hl
          have l1 : lenB (rows p.kids) 0 = true := lenB_rows (l := p.kids) hl
          clear hk hfk hfp hf hm
          generalize plainP p.kids[0] = q at *
          by_cases o1 : q.op = 1
          · have c1 : eqI q.op 1 = true := eqI_t.2 o1
            rw [if_pos c1] at hQ
            have hQ : Q (.agg [ic 2, .p (.v (.string ⟨#[]⟩)), ic 0, .p (.v (.complex .f64 0 0)), .p (.sl (rows []))]) [] := hQ
            rw [rows_nil] at hQ
            repeat' ((conv => whnf); first | exact hQ | refine eqv_id ?_ | refine Two.l ?_ | refine ⟨by kernel_rfl, ?_⟩ | refine bct (by assumption) ?_ | refine bcf (by assumption) ?_ | refine bcf (nt (by assumption)) ?_ | refine bct (nf (by assumption)) ?_ | refine row_in r1 ?_ | refine hkq _ ?_)
          · have c1 : eqI q.op 1 = false := eqI_f.2 o1
            rw [if_neg (by rw [c1]; simp)] at hQ
            by_cases o2 : q.op = 2
            · have c2 : eqI q.op 2 = true := eqI_t.2 o2
              rw [if_pos c2] at hQ
              have hQ : Q (.agg [ic 1, .p (.v (.string ⟨#[]⟩)), ic 0, .p (.v (.complex .f64 0 0)), .p (.sl (rows []))]) [] := hQ
              rw [rows_nil] at hQ
              repeat' ((conv => whnf); first | exact hQ | refine eqv_id ?_ | refine Two.l ?_ | refine ⟨by kernel_rfl, ?_⟩ | refine bct (by assumption) ?_ | refine bcf (by assumption) ?_ | refine bcf (nt (by assumption)) ?_ | refine bct (nf (by assumption)) ?_ | refine row_in r1 ?_ | refine hkq _ ?_)
            · have c2 : eqI q.op 2 = false := eqI_f.2 o2
              rw [if_neg (by rw [c2]; simp)] at hQ
              by_cases o10 : q.op = 10
              · have c10 : eqI q.op 10 = true := eqI_t.2 o10
                obtain ⟨z, hz⟩ := fits_ten hfq.1 o10
                rw [if_pos c10, hz] at hQ
                have lz : 0 < q.kids.length := by rw [hz]; simp
                have g1 : ltI 0 (lenL (rows q.kids)) = true := by rw [len_rows, ltI_t]; omega
                have r2 := at_rows (l := q.kids) lz
                have l2 : lenB (rows q.kids) 0 = true := lenB_rows (l := q.kids) lz
                have ez : q.kids[0] = z := by simp [hz]
                rw [ez] at r2
                have hQ : Q z.a [] := hQ
                repeat' ((conv => whnf); first | exact hQ | refine eqv_id ?_ | refine Two.l ?_ | refine ⟨by kernel_rfl, ?_⟩ | refine bct (by assumption) ?_ | refine bcf (by assumption) ?_ | refine bcf (nt (by assumption)) ?_ | refine bct (nf (by assumption)) ?_ | refine row_in r1 ?_ | refine row_in r2 ?_ | refine hkq _ ?_)
              · have c10 : eqI q.op 10 = false := eqI_f.2 o10
                rw [if_neg (by rw [c10]; simp)] at hQ
                have hQ : Q (.agg [ic 10, .p (.v (.string ⟨#[]⟩)), ic 0, .p (.v (.complex .f64 0 0)), .p (.sl (rows [q]))]) [] := hQ
                rw [rows_one] at hQ
                repeat' ((conv => whnf); first | exact hQ | refine eqv_id ?_ | refine Two.l ?_ | refine ⟨by kernel_rfl, ?_⟩ | refine bct (by assumption) ?_ | refine bcf (by assumption) ?_ | refine bcf (nt (by assumption)) ?_ | refine bct (nf (by assumption)) ?_ | refine row_in r1 ?_ | refine hkq _ ?_)
        · have e10 : eqI p.op 10 = false := eqI_f.2 h10
          rw [if_neg (by rw [e10]; simp)] at hQ
          have hQ : Q (.agg [ic p.op, .p (.v (.string p.text)), ic p.n, .p (.v (.complex .f64 p.re p.im)), .p (.sl (rows []))]) [] := hQ
          rw [rows_nil] at hQ
          repeat' ((conv => whnf); first | exact hQ | refine eqv_id ?_ | refine Two.l ?_ | refine ⟨by kernel_rfl, ?_⟩ | refine bct (by assumption) ?_ | refine bcf (by assumption) ?_ | refine bcf (nt (by assumption)) ?_ | refine bct (nf (by assumption)) ?_)
end Go.Proofs.Ytijkfjahgijphaa
