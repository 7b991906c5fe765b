/- Filters made plain (layer 4): they have the same items, and stay when made plain again. -/
import Derived.Test.YtijkfjahgijphaaPlainSpec
import Derived.Test.YtijkfjahgijphaaContainLaw
set_option linter.unusedVariables false
set_option linter.unusedSimpArgs false
set_option maxRecDepth 100000
namespace Go.Proofs.Ytijkfjahgijphaa
open Go E Pred
theorem has_any (p : Pred) (h : p.op = 9) (x : Item) : hasP p x = p.kids.any fun k => hasP k x := by
  rw [hasP_eq, h, show has0 9 p.text p.n p.re p.im p.kids x = hasAny p.kids x by unfold has0; simp, hasAny_eq]
theorem has_all (p : Pred) (h : p.op = 8) (x : Item) : hasP p x = p.kids.all fun k => hasP k x := by
  rw [hasP_eq, h, show has0 8 p.text p.n p.re p.im p.kids x = hasAll p.kids x by unfold has0; simp, hasAll_eq, not_any_not]
theorem has_star (p : Pred) (h : p.op = 1) (x : Item) : hasP p x = true := by rw [hasP_eq, h]; unfold has0; simp
theorem has_none (p : Pred) (h : p.op = 2) (x : Item) : hasP p x = false := by rw [hasP_eq, h]; unfold has0; simp
theorem has_not {p k : Pred} {ks : List Pred} (h : p.op = 10) (hk : p.kids = k :: ks) (x : Item) : hasP p x = !hasP k x := by
  rw [hasP_eq, h, show has0 10 p.text p.n p.re p.im p.kids x = hasNot p.kids x by unfold has0; simp, hk, hasNot]
theorem flat_any (x : Item) : ∀ (l : List Pred), ((flatP 9 l).any fun k => hasP k x) = l.any fun k => hasP k x
  | [] => by rw [flatP]
  | k :: l => by
    rw [flatP, List.any_append, flat_any x l, List.any_cons]
    split
    · rename_i h; rw [has_any k (eqI_t.1 h)]
    · rw [List.any_cons, List.any_nil, Bool.or_false]
theorem flat_all (x : Item) : ∀ (l : List Pred), ((flatP 8 l).all fun k => hasP k x) = l.all fun k => hasP k x
  | [] => by rw [flatP]
  | k :: l => by
    rw [flatP, List.all_append, flat_all x l, List.all_cons]
    split
    · rename_i h; rw [has_all k (eqI_t.1 h)]
    · rw [List.all_cons, List.all_nil, Bool.and_true]
theorem or_in {acc : List Pred} {P : Pred → Bool} {o : Pred} (h : o ∈ acc) : (acc.any P || P o) = acc.any P := by
  cases ho : P o with
  | false => simp
  | true => rw [List.any_eq_true.2 ⟨o, h, ho⟩]; rfl
theorem and_in {acc : List Pred} {P : Pred → Bool} {o : Pred} (h : o ∈ acc) : (acc.all P && P o) = acc.all P := by
  cases ho : P o with
  | true => simp
  | false =>
    have : acc.all P = false := by rw [List.all_eq_false]; exact ⟨o, h, by rw [ho]; simp⟩
    rw [this]; rfl
theorem add_any {acc : List Pred} {k : Pred} (x : Item) (ha : fitsL acc = true) (hk : fitsP k = true) : ((addP 2 acc k).any fun k => hasP k x) = ((acc.any fun k => hasP k x) || hasP k x) := by
  unfold addP
  by_cases h2 : k.op = 2
  · rw [if_neg (by rw [eqI_t.2 h2]; simp), has_none k h2, Bool.or_false]
  · cases hs : acc.any fun o => sameP k o with
    | false => rw [if_pos (by rw [eqI_f.2 h2]; rfl), List.any_append, List.any_cons, List.any_nil, Bool.or_false]
    | true =>
      rw [if_neg (by simp)]
      obtain ⟨o, ho, hso⟩ := List.any_eq_true.1 hs
      rw [sameP_has hk (fitsL_mem ha ho) hso]
      exact (or_in (P := fun k => hasP k x) ho).symm
theorem add_all {acc : List Pred} {k : Pred} (x : Item) (ha : fitsL acc = true) (hk : fitsP k = true) : ((addP 1 acc k).all fun k => hasP k x) = ((acc.all fun k => hasP k x) && hasP k x) := by
  unfold addP
  by_cases h2 : k.op = 1
  · rw [if_neg (by rw [eqI_t.2 h2]; simp), has_star k h2, Bool.and_true]
  · cases hs : acc.any fun o => sameP k o with
    | false => rw [if_pos (by rw [eqI_f.2 h2]; rfl), List.all_append, List.all_cons, List.all_nil, Bool.and_true]
    | true =>
      rw [if_neg (by simp)]
      obtain ⟨o, ho, hso⟩ := List.any_eq_true.1 hs
      rw [sameP_has hk (fitsL_mem ha ho) hso]
      exact (and_in (P := fun k => hasP k x) ho).symm
theorem add_fits {none : Int} {acc : List Pred} {k : Pred} (ha : fitsL acc = true) (hk : fitsP k = true) : fitsL (addP none acc k) = true := by
  unfold addP; split
  · rw [fitsL_app, ha, fitsL_of (l := [k]) fun x hx => by rw [List.mem_singleton.1 hx]; exact hk]; rfl
  · exact ha
theorem fold_any (x : Item) : ∀ {l acc : List Pred}, fitsL l = true → fitsL acc = true → ((l.foldl (addP 2) acc).any fun k => hasP k x) = ((acc.any fun k => hasP k x) || l.any fun k => hasP k x)
  | [], acc, _, _ => by rw [List.foldl_nil, List.any_nil, Bool.or_false]
  | k :: l, acc, hl, ha => by
    have hk := fitsL_mem hl (List.mem_cons_self ..)
    rw [List.foldl_cons, fold_any x (l := l) (fitsL_of fun y hy => fitsL_mem hl (List.mem_cons_of_mem _ hy)) (add_fits ha hk), add_any x ha hk, List.any_cons, Bool.or_assoc]
theorem fold_all (x : Item) : ∀ {l acc : List Pred}, fitsL l = true → fitsL acc = true → ((l.foldl (addP 1) acc).all fun k => hasP k x) = ((acc.all fun k => hasP k x) && l.all fun k => hasP k x)
  | [], acc, _, _ => by rw [List.foldl_nil, List.all_nil, Bool.and_true]
  | k :: l, acc, hl, ha => by
    have hk := fitsL_mem hl (List.mem_cons_self ..)
    rw [List.foldl_cons, fold_all x (l := l) (fitsL_of fun y hy => fitsL_mem hl (List.mem_cons_of_mem _ hy)) (add_fits ha hk), add_all x ha hk, List.all_cons, Bool.and_assoc]
theorem end_any (x : Item) : ∀ (F : List Pred), hasP (endP 9 2 1 F) x = F.any fun k => hasP k x
  | [] => has_none _ rfl x
  | [k] => by
    show hasP (if eqI k.op 1 then bare 1 [] else k) x = _
    rw [List.any_cons, List.any_nil, Bool.or_false]
    split
    · rename_i h; rw [has_star _ rfl, has_star k (eqI_t.1 h)]
    · rfl
  | a :: b :: l => by
    show hasP (if ((a :: b :: l).any fun k => eqI k.op 1) = true then bare 1 [] else bare 9 (a :: b :: l)) x = _
    split
    · rename_i h
      obtain ⟨o, ho, h1⟩ := List.any_eq_true.1 h
      rw [has_star _ rfl]
      exact (List.any_eq_true.2 ⟨o, ho, has_star o (eqI_t.1 h1) x⟩).symm
    · exact has_any _ rfl x
theorem end_all (x : Item) : ∀ (F : List Pred), hasP (endP 8 1 2 F) x = F.all fun k => hasP k x
  | [] => has_star _ rfl x
  | [k] => by
    show hasP (if eqI k.op 2 then bare 2 [] else k) x = _
    rw [List.all_cons, List.all_nil, Bool.and_true]
    split
    · rename_i h; rw [has_none _ rfl, has_none k (eqI_t.1 h)]
    · rfl
  | a :: b :: l => by
    show hasP (if ((a :: b :: l).any fun k => eqI k.op 2) = true then bare 2 [] else bare 8 (a :: b :: l)) x = _
    split
    · rename_i h
      obtain ⟨o, ho, h1⟩ := List.any_eq_true.1 h
      rw [has_none _ rfl]
      exact (List.all_eq_false.2 ⟨o, ho, by rw [has_none o (eqI_t.1 h1) x]; simp⟩).symm
    · exact has_all _ rfl x
mutual
theorem plain_has (x : Item) : ∀ {p : Pred}, fitsP p = true → hasP (plainP p) x = hasP p x
  | .mk o t n a b ks, h => by
    have hk := fits_kids h
    have hk' : fitsL ks = true := hk
    have l1 := (plainL_nice (l := ks) hk').1
    obtain ⟨e1, e2⟩ := plainL_has x (l := ks) hk'
    rw [plainP]
    by_cases h9 : o = 9
    · rw [if_pos (eqI_t.2 h9), end_any, fold_any x (flat_nice 9 l1).1 fitsL_nil, List.any_nil, Bool.false_or, flat_any, e1, has_any (.mk o t n a b ks) h9]; rfl
    · rw [if_neg (by rw [eqI_f.2 h9]; simp)]
      by_cases h8 : o = 8
      · rw [if_pos (eqI_t.2 h8), end_all, fold_all x (flat_nice 8 l1).1 fitsL_nil, List.all_nil, Bool.true_and, flat_all, e2, has_all (.mk o t n a b ks) h8]; rfl
      · rw [if_neg (by rw [eqI_f.2 h8]; simp)]
        by_cases h10 : o = 10
        · rw [if_pos (eqI_t.2 h10)]
          obtain ⟨m, hm⟩ := fits_ten h h10
          have hm : ks = [m] := hm
          subst hm
          rw [plainL, plainL] at l1 ⊢
          have f1 := fitsL_mem l1 (List.mem_cons_self ..)
          have em : hasP (plainP m) x = hasP m x := by
            have := e1; rw [plainL, plainL, List.any_cons, List.any_nil, List.any_cons, List.any_nil, Bool.or_false, Bool.or_false] at this; exact this
          rw [has_not (p := .mk o t n a b [m]) h10 rfl, ← em]
          generalize plainP m = k at *
          rw [notV_one]
          split
          · rename_i hx; rw [has_none _ rfl, has_star k (eqI_t.1 hx)]; rfl
          · split
            · rename_i hx; rw [has_star _ rfl, has_none k (eqI_t.1 hx)]; rfl
            · split
              · rename_i hx
                obtain ⟨z, hz⟩ := fits_ten f1 (eqI_t.1 hx)
                rw [has_not (eqI_t.1 hx) hz, hz]; simp
              · exact has_not (p := bare 10 [k]) rfl rfl x
        · rw [if_neg (by rw [eqI_f.2 h10]; simp)]
          have hp : partB o t n a b ks = true := by rw [mk_fits, Bool.and_eq_true] at h; exact h.1
          have := part_leaf hp h8 h9 h10
          subst this; rfl
theorem plainL_has (x : Item) : ∀ {l : List Pred}, fitsL l = true → ((plainL l).any fun k => hasP k x) = (l.any fun k => hasP k x) ∧ ((plainL l).all fun k => hasP k x) = l.all fun k => hasP k x
  | [], _ => by rw [plainL]; exact ⟨rfl, rfl⟩
  | k :: l, h => by
    have e := plain_has x (p := k) (fitsL_mem h (List.mem_cons_self ..))
    obtain ⟨e1, e2⟩ := plainL_has x (l := l) (fitsL_of fun y hy => fitsL_mem h (List.mem_cons_of_mem _ hy))
    rw [plainL]
    simp only [List.any_cons, List.all_cons]
    rw [e, e1, e2]; exact ⟨rfl, rfl⟩
end
/-! ### the normal form -/
inductive NF : Pred → Prop
  | leaf {o t n x y} : o ≠ 8 → o ≠ 9 → o ≠ 10 → NF (.mk o t n x y [])
  | some {ks} : (∀ k ∈ ks, NF k) → (∀ k ∈ ks, k.op ≠ 9 ∧ k.op ≠ 1) → ks.foldl (addP 2) [] = ks → 2 ≤ ks.length → NF (bare 9 ks)
  | all {ks} : (∀ k ∈ ks, NF k) → (∀ k ∈ ks, k.op ≠ 8 ∧ k.op ≠ 2) → ks.foldl (addP 1) [] = ks → 2 ≤ ks.length → NF (bare 8 ks)
  | no {k} : NF k → k.op ≠ 1 → k.op ≠ 2 → k.op ≠ 10 → NF (bare 10 [k])
theorem flat_id {o : Int} : ∀ {l : List Pred}, (∀ k ∈ l, k.op ≠ o) → flatP o l = l
  | [], _ => by rw [flatP]
  | k :: l, h => by
    rw [flatP, if_neg (by rw [eqI_f.2 (h k (List.mem_cons_self ..))]; simp), flat_id fun x hx => h x (List.mem_cons_of_mem _ hx)]; rfl
theorem plainL_id : ∀ {l : List Pred}, (∀ k ∈ l, plainP k = k) → plainL l = l
  | [], _ => by rw [plainL]
  | k :: l, h => by rw [plainL, h k (List.mem_cons_self ..), plainL_id fun x hx => h x (List.mem_cons_of_mem _ hx)]
theorem nf_stays {p : Pred} (h : NF p) : plainP p = p := by
  induction h with
  | leaf h8 h9 h10 => rw [plainP, if_neg (by rw [eqI_f.2 h9]; simp), if_neg (by rw [eqI_f.2 h8]; simp), if_neg (by rw [eqI_f.2 h10]; simp)]
  | some hk ho hd hl ih =>
    rw [plainP, if_pos (by rfl), plainL_id ih, flat_id fun k hk => (ho k hk).1, hd]
    refine end_many (by omega) ?_
    rw [List.any_eq_false]; intro k hk; rw [eqI_f.2 (ho k hk).2]; simp
  | all hk ho hd hl ih =>
    rw [plainP, if_neg (by decide), if_pos (by rfl), plainL_id ih, flat_id fun k hk => (ho k hk).1, hd]
    refine end_many (by omega) ?_
    rw [List.any_eq_false]; intro k hk; rw [eqI_f.2 (ho k hk).2]; simp
  | no hk h1 h2 h10 ih =>
    rw [plainP, if_neg (by decide), if_neg (by decide), if_pos (by rfl), plainL, plainL, ih, notV_one, if_neg (by rw [eqI_f.2 h1]; simp), if_neg (by rw [eqI_f.2 h2]; simp), if_neg (by rw [eqI_f.2 h10]; simp)]
theorem add_idem {none : Int} {acc : List Pred} {k : Pred} (h : acc.foldl (addP none) [] = acc) : (addP none acc k).foldl (addP none) [] = addP none acc k := by
  cases hc : (!eqI k.op none && !(acc.any fun o => sameP k o)) with
  | true =>
    have e : addP none acc k = acc ++ [k] := by unfold addP; rw [if_pos hc]
    rw [e, List.foldl_append, h, List.foldl_cons, List.foldl_nil, e]
  | false =>
    have e : addP none acc k = acc := by unfold addP; rw [if_neg (by rw [hc]; simp)]
    rw [e, h]
theorem fold_idem {none : Int} : ∀ {l acc : List Pred}, acc.foldl (addP none) [] = acc → (l.foldl (addP none) acc).foldl (addP none) [] = l.foldl (addP none) acc
  | [], _, h => h
  | k :: l, acc, h => by rw [List.foldl_cons]; exact fold_idem (l := l) (add_idem h)
theorem nf_bare {o : Int} (h : o = 1 ∨ o = 2) : NF (bare o []) := .leaf (by omega) (by omega) (by omega)
theorem flat_nf {o : Int} : ∀ {l : List Pred} {q : Pred}, (∀ k ∈ l, NF k) → (o = 8 ∨ o = 9) → q ∈ flatP o l → NF q ∧ q.op ≠ o
  | [], q, _, _, h => by rw [flatP] at h; cases h
  | k :: l, q, hl, ho, h => by
    rw [flatP, List.mem_append] at h
    rcases h with h | h
    · have hk := hl k (List.mem_cons_self ..)
      split at h
      · rename_i e
        have e := eqI_t.1 e
        cases hk with
        | leaf _ _ _ => cases h
        | some h1 h2 _ _ => exact ⟨h1 q h, by have e : (9 : Int) = o := e; rw [← e]; exact (h2 q h).1⟩
        | all h1 h2 _ _ => exact ⟨h1 q h, by have e : (8 : Int) = o := e; rw [← e]; exact (h2 q h).1⟩
        | no _ _ _ _ => have e : (10 : Int) = o := e; omega
      · rename_i e
        rw [List.mem_singleton.1 h]
        exact ⟨hk, fun e' => e (eqI_t.2 e')⟩
    · exact flat_nf (l := l) (fun x hx => hl x (List.mem_cons_of_mem _ hx)) ho h
theorem fold_mem {none : Int} {l : List Pred} {q : Pred} (h : q ∈ l.foldl (addP none) []) : q ∈ l := by
  rcases fold_in h with h | h
  · cases h
  · exact h
mutual
theorem nf_plain : ∀ {p : Pred}, fitsP p = true → NF (plainP p)
  | .mk o t n a b ks, h => by
    have hk := fits_kids h
    have hk' : fitsL ks = true := hk
    have l1 := (plainL_nice (l := ks) hk').1
    have ln := nf_plainL (l := ks) hk'
    rw [plainP]
    by_cases h9 : o = 9
    · rw [if_pos (eqI_t.2 h9)]
      have hF : ∀ q ∈ (flatP 9 (plainL ks)).foldl (addP 2) [], NF q ∧ q.op ≠ 9 := fun q hq => flat_nf ln (.inr rfl) (fold_mem hq)
      have hI : ((flatP 9 (plainL ks)).foldl (addP 2) []).foldl (addP 2) [] = (flatP 9 (plainL ks)).foldl (addP 2) [] := fold_idem rfl
      generalize (flatP 9 (plainL ks)).foldl (addP 2) [] = F at *
      match F, hF, hI with
      | [], _, _ => exact nf_bare (.inr rfl)
      | [k], hF, _ =>
        show NF (if eqI k.op 1 then bare 1 [] else k)
        split
        · exact nf_bare (.inl rfl)
        · exact (hF k (List.mem_cons_self ..)).1
      | u :: v :: l, hF, hI =>
        show NF (if ((u :: v :: l).any fun k => eqI k.op 1) = true then bare 1 [] else bare 9 (u :: v :: l))
        split
        · exact nf_bare (.inl rfl)
        · rename_i hn
          exact .some (fun k hk => (hF k hk).1) (fun k hk => ⟨(hF k hk).2, fun e => hn (List.any_eq_true.2 ⟨k, hk, eqI_t.2 e⟩)⟩) hI (by simp)
    · rw [if_neg (by rw [eqI_f.2 h9]; simp)]
      by_cases h8 : o = 8
      · rw [if_pos (eqI_t.2 h8)]
        have hF : ∀ q ∈ (flatP 8 (plainL ks)).foldl (addP 1) [], NF q ∧ q.op ≠ 8 := fun q hq => flat_nf ln (.inl rfl) (fold_mem hq)
        have hI : ((flatP 8 (plainL ks)).foldl (addP 1) []).foldl (addP 1) [] = (flatP 8 (plainL ks)).foldl (addP 1) [] := fold_idem rfl
        generalize (flatP 8 (plainL ks)).foldl (addP 1) [] = F at *
        match F, hF, hI with
        | [], _, _ => exact nf_bare (.inl rfl)
        | [k], hF, _ =>
          show NF (if eqI k.op 2 then bare 2 [] else k)
          split
          · exact nf_bare (.inr rfl)
          · exact (hF k (List.mem_cons_self ..)).1
        | u :: v :: l, hF, hI =>
          show NF (if ((u :: v :: l).any fun k => eqI k.op 2) = true then bare 2 [] else bare 8 (u :: v :: l))
          split
          · exact nf_bare (.inr rfl)
          · rename_i hn
            exact .all (fun k hk => (hF k hk).1) (fun k hk => ⟨(hF k hk).2, fun e => hn (List.any_eq_true.2 ⟨k, hk, eqI_t.2 e⟩)⟩) hI (by simp)
      · rw [if_neg (by rw [eqI_f.2 h8]; simp)]
        by_cases h10 : o = 10
        · rw [if_pos (eqI_t.2 h10)]
          obtain ⟨m, hm⟩ := fits_ten h h10
          have hm : ks = [m] := hm
          subst hm
          rw [plainL, plainL] at l1 ln ⊢
          have f1 := fitsL_mem l1 (List.mem_cons_self ..)
          have nk := ln _ (List.mem_cons_self ..)
          generalize plainP m = k at *
          rw [notV_one]
          split
          · exact nf_bare (.inr rfl)
          · rename_i o1
            split
            · exact nf_bare (.inl rfl)
            · rename_i o2
              split
              · rename_i hx
                obtain ⟨z, hz⟩ := fits_ten f1 (eqI_t.1 hx)
                have hx := eqI_t.1 hx
                cases nk with
                | leaf _ _ _ => cases hz
                | some _ _ _ _ => have hx : (9 : Int) = 10 := hx; omega
                | all _ _ _ _ => have hx : (8 : Int) = 10 := hx; omega
                | no h1 _ _ _ => exact h1
              · rename_i o3
                exact .no nk (fun e => o1 (eqI_t.2 e)) (fun e => o2 (eqI_t.2 e)) (fun e => o3 (eqI_t.2 e))
        · rw [if_neg (by rw [eqI_f.2 h10]; simp)]
          exact .leaf h8 h9 h10
theorem nf_plainL : ∀ {l : List Pred}, fitsL l = true → ∀ k ∈ plainL l, NF k
  | [], _, k, hk => by rw [plainL] at hk; cases hk
  | a :: l, h, k, hk => by
    rw [plainL] at hk
    rcases List.mem_cons.1 hk with e | hk
    · rw [e]; exact nf_plain (p := a) (fitsL_mem h (List.mem_cons_self ..))
    · exact nf_plainL (l := l) (fitsL_of fun y hy => fitsL_mem h (List.mem_cons_of_mem _ hy)) k hk
end
theorem plain_self {p : Pred} (h : fitsP p = true) : sameP (plainP p) (plainP p) = true := sameP_trans (plain_same h) (sameP_symm (plain_same h))
theorem plain_twice {p : Pred} (h : fitsP p = true) : plainP (plainP p) = plainP p := nf_stays (nf_plain h)
theorem may_plain {p : Pred} (h : mayP p = true) : mayP (plainP p) = true := by
  rw [mayP_iff] at h ⊢
  obtain ⟨h1, h2, h3⟩ := h
  obtain ⟨n1, n2, n3⟩ := plain_nice h3
  exact ⟨by omega, by omega, n1⟩
end Go.Proofs.Ytijkfjahgijphaa
