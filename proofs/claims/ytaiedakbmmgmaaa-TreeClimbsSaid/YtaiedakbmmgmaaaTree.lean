/- Who pulls from whom (layer 20): what is placed, the program's answer and the document's. -/
import Derived.Test.YtaiedakbmmgmaaaContain3
set_option linter.unusedVariables false
set_option linter.unusedSimpArgs false
set_option maxRecDepth 100000
set_option maxHeartbeats 4000000
namespace Go.Proofs.Ytaiedakbmmgmaaa
open Go E Pred
abbrev Nd := Int × Int
def nrow (p : Nd) : List PC := [ip p.1, ip p.2]
def irow (n : Nat) : List PC := [ip (n : Int)]
/-- the one that is deeper of one that is the best so far and another one in whose filter it is seen -/
def better (l : List Pred) (out : List Nd) (i : Nat) (best k : Nat) : Nat :=
  if inP (l.getD i (.mk 0 ⟨#[]⟩ 0 0 0 [])) (l.getD k (.mk 0 ⟨#[]⟩ 0 0 0 [])) && ltI (out.getD best (0, 0)).2 (out.getD k (0, 0)).2 then k else best
section
variable {X : Task → Prop} (hX : Closed X) {g : Nat} {ks : List Pred} {P : Pred → Bool} {Q : A → List Blk → Prop}
include hX
theorem indexFn_ok (hln : ks.length ≤ 9223372036854775807) (hg : ∀ (j : Nat) (hj : j < ks.length) (Q' : A → List Blk → Prop), Q' (bv (P ks[j])) [] → X (.call g [ks[j].a] [] Q')) (hQ : Q (iv (idxP P ks 0)) []) : X (.call 87 [sl (rows ks), .one (.fn g [])] [] Q) := by
  refine call_intro hX Try.func87 rfl rfl ?_
  repeat' ((conv => whnf); first | exact hQ | refine ⟨by kernel_rfl, ?_⟩ | refine bct (by assumption) ?_ | refine bcf (by assumption) ?_ | refine bcf (nt (by assumption)) ?_ | refine bct (nf (by assumption)) ?_)
  refine range_ix (fun i (_ : Unit) => pad [(0, sl (rows ks)), (0, .one (.fn g [])), (5, iv (lenL (rows ks))), (0, iv i)] 10) (fun _ _ => []) (fun j _ => ∀ k (hk : k < ks.length), k < j → P ks[k] = false) ks.length 0 (Nat.zero_le _) (fun j st _ hj hI ih => ?_) (fun st hI => ?_) 0 () rfl (fun k hk h => absurd h (Nat.not_lt_zero _))
  · have q1 : ltI (j : Int) (lenL (rows ks)) = true := by rw [len_rows, ltI_t]; omega
    have q2 := lenB_rows hj
    refine loop_intro hX ?_
    cases hP : P ks[j] with
    | true =>
      have e : (j : Int) = idxP P ks 0 := by rw [idxP_at hj 0 (fun k hk => hI k (by omega) hk) hP, Nat.zero_add]
      repeat' ((conv => whnf); first | exact hQ | refine ⟨by kernel_rfl, ?_⟩ | refine bct (by assumption) ?_ | refine bcf (by assumption) ?_ | refine bcf (nt (by assumption)) ?_ | refine bct (nf (by assumption)) ?_ | (exact Qi hQ e.symm) | refine row_in (at_rows hj) ?_ | refine known bv (hg j hj) hP ?_)
    | false =>
      have e : ∀ k (hk : k < ks.length), k < j + 1 → P ks[k] = false := fun k hk hkj => by
        rcases Nat.lt_succ_iff_lt_or_eq.1 hkj with h' | rfl
        · exact hI k hk h'
        · exact hP
      repeat' ((conv => whnf); first | exact hQ | refine ⟨by kernel_rfl, ?_⟩ | refine bct (by assumption) ?_ | refine bcf (by assumption) ?_ | refine bcf (nt (by assumption)) ?_ | refine bct (nf (by assumption)) ?_ | refine row_in (at_rows hj) ?_ | refine known bv (hg j hj) hP ?_ | (exact ih _ () (wrS (by omega)) e))
  · have q1 : ltI (ks.length : Int) (lenL (rows ks)) = false := by rw [len_rows, ltI_f]; omega
    refine loop_intro hX ?_
    repeat' ((conv => whnf); first | exact hQ | refine ⟨by kernel_rfl, ?_⟩ | refine bct (by assumption) ?_ | refine bcf (by assumption) ?_ | refine bcf (nt (by assumption)) ?_ | refine bct (nf (by assumption)) ?_ | (exact Qi hQ (idxP_none 0 fun k hk => hI k hk hk)))
theorem containsFn_ok (hln : ks.length ≤ 9223372036854775807) (hg : ∀ (j : Nat) (hj : j < ks.length) (Q' : A → List Blk → Prop), Q' (bv (P ks[j])) [] → X (.call g [ks[j].a] [] Q')) (hQ : Q (bv (ks.any P)) []) : X (.call 83 [sl (rows ks), .one (.fn g [])] [] Q) := by
  refine call_intro hX Try.func83 rfl rfl ?_
  repeat' ((conv => whnf); first | exact hQ | refine ⟨by kernel_rfl, ?_⟩ | refine bct (by assumption) ?_ | refine bcf (by assumption) ?_ | refine bcf (nt (by assumption)) ?_ | refine bct (nf (by assumption)) ?_ | (exact Qb hQ (idxP_any P ks 0).symm) | refine indexFn_ok hX hln hg ?_)
theorem isStar_ok {p : Pred} (hQ : Q (bv (eqI p.op 1)) []) : X (.call 88 [p.a] [] Q) := by
  refine call_intro hX Try.func88 rfl rfl ?_
  repeat' ((conv => whnf); first | exact hQ | refine ⟨by kernel_rfl, ?_⟩ | refine bct (by assumption) ?_ | refine bcf (by assumption) ?_ | refine bcf (nt (by assumption)) ?_ | refine bct (nf (by assumption)) ?_)
theorem isOdd_ok {p : Pred} (ok : p.Ok) (hQ : Q (bv (!mayP p)) []) : X (.call 89 [p.a] [] Q) := by
  refine call_intro hX Try.func89 rfl rfl ?_
  repeat' ((conv => whnf); first | exact hQ | refine ⟨by kernel_rfl, ?_⟩ | refine bct (by assumption) ?_ | refine bcf (by assumption) ?_ | refine bcf (nt (by assumption)) ?_ | refine bct (nf (by assumption)) ?_ | refine may_pred_ok hX ok ?_)
end
theorem at_rows' {l : List Pred} {j : Nat} (h : j < l.length) : E.rowAt (rows l) (j : Int) = [ip (l.getD j (.mk 0 ⟨#[]⟩ 0 0 0 [])).op, .v (.string (l.getD j (.mk 0 ⟨#[]⟩ 0 0 0 [])).text), ip (l.getD j (.mk 0 ⟨#[]⟩ 0 0 0 [])).n, .v (.complex .f64 (l.getD j (.mk 0 ⟨#[]⟩ 0 0 0 [])).re (l.getD j (.mk 0 ⟨#[]⟩ 0 0 0 [])).im), .sl (rows (l.getD j (.mk 0 ⟨#[]⟩ 0 0 0 [])).kids)] := by
  rw [at_rows h]
  have : l.getD j (.mk 0 ⟨#[]⟩ 0 0 0 []) = l[j] := by rw [List.getD_eq_getElem?_getD, List.getElem?_eq_getElem h]; rfl
  rw [this]
theorem getD_mem {l : List Pred} {j : Nat} (h : j < l.length) : l.getD j (.mk 0 ⟨#[]⟩ 0 0 0 []) ∈ l := by
  rw [List.getD_eq_getElem?_getD, List.getElem?_eq_getElem h]; exact List.getElem_mem h
theorem at_nodes {out : List Nd} {j : Nat} (h : j < out.length) : E.rowAt (out.map nrow) (j : Int) = [ip (out.getD j (0, 0)).1, ip (out.getD j (0, 0)).2] := by
  rw [rowAt_map h, List.getD_eq_getElem?_getD, List.getElem?_eq_getElem h]; rfl
/-- the walk over those that are placed: -1 as long as there is none -/
def aboveV (l : List Pred) (out : List Nd) (i : Nat) : Int → List Nat → Int
  | b, [] => b
  | b, k :: ks => aboveV l out i (if inP (l.getD i (.mk 0 ⟨#[]⟩ 0 0 0 [])) (l.getD k (.mk 0 ⟨#[]⟩ 0 0 0 [])) && (ltI b 0 || ltI (out.getD b.toNat (0, 0)).2 (out.getD k (0, 0)).2) then (k : Int) else b) ks
theorem aboveV_app (l : List Pred) (out : List Nd) (i : Nat) : ∀ (ks ms : List Nat) (b : Int), aboveV l out i b (ks ++ ms) = aboveV l out i (aboveV l out i b ks) ms
  | [], _, _ => rfl
  | k :: ks, ms, b => aboveV_app l out i ks ms _
theorem above_ok {X : Task → Prop} (hX : Closed X) {l : List Pred} {out : List Nd} {placed : List Nat} {i : Nat} {Q : A → List Blk → Prop} (hl : ∀ p ∈ l, p.Ok) (hi : i < l.length) (hol : out.length = l.length) (hpl : ∀ k ∈ placed, k < l.length) (hsz : placed.length ≤ 1000) (hlen : l.length ≤ 1000)
    (hQ : Q (iv (aboveV l out i (-1) placed)) []) : X (.call 90 [sl (rows l), sl (out.map nrow), sl (placed.map irow), iv (i : Int)] [] Q) := by
  refine call_intro hX Try.func90 rfl rfl ?_
  repeat' ((conv => whnf); first | exact hQ | refine ⟨by kernel_rfl, ?_⟩ | refine bct (by assumption) ?_ | refine bcf (by assumption) ?_ | refine bcf (nt (by assumption)) ?_ | refine bct (nf (by assumption)) ?_)
  have oki := hl _ (getD_mem hi)
  have li := lenB_rows hi
  refine range_ix (fun j (b : Int) => pad [(0, sl (rows l)), (0, sl (out.map nrow)), (1, iv (i : Int)), (5, iv b), (2, sl (placed.map irow)), (0, iv (lenL (placed.map irow))), (0, iv j)] 32) (fun _ _ => []) (fun j b => b = aboveV l out i (-1) (placed.take j) ∧ (b = -1 ∨ (0 ≤ b ∧ b < l.length))) placed.length 0 (Nat.zero_le _) (fun j b _ hj hI ih => ?_) (fun b hI => ?_) 0 (-1) rfl ⟨rfl, .inl rfl⟩
  · obtain ⟨hI, hb⟩ := hI
    have q1 : ltI (j : Int) (lenL (placed.map irow)) = true := by rw [lenL_map, ltI_t]; omega
    have q2 : lenB (placed.map irow) (j : Int) = true := lenB_map hj
    have q3 : E.rowAt (placed.map irow) (j : Int) = [ip (placed[j] : Int)] := rowAt_map hj
    have hkl := hpl _ (List.getElem_mem hj)
    have okk := hl _ (getD_mem hkl)
    have lk := lenB_rows hkl
    have r1 := at_rows' hi
    have r2 := at_rows' hkl
    have hko : placed[j] < out.length := by omega
    have lo : lenB (out.map nrow) (placed[j] : Int) = true := lenB_map hko
    have r3 := at_nodes hko
    have hst : aboveV l out i (-1) (placed.take (j + 1)) = (if inP (l.getD i (.mk 0 ⟨#[]⟩ 0 0 0 [])) (l.getD placed[j] (.mk 0 ⟨#[]⟩ 0 0 0 [])) && (ltI b 0 || ltI (out.getD b.toNat (0, 0)).2 (out.getD placed[j] (0, 0)).2) then (placed[j] : Int) else b) := by
      rw [List.take_succ_eq_append_getElem hj, aboveV_app, ← hI]; rfl
    generalize placed[j] = k at *
    refine loop_intro hX ?_
    rcases hb with hb | ⟨hb0, hb1⟩
    · have q4 : ltI b 0 = true := ltI_t.2 (by omega)
      cases hin : inP (l.getD i (.mk 0 ⟨#[]⟩ 0 0 0 [])) (l.getD k (.mk 0 ⟨#[]⟩ 0 0 0 [])) with
      | true =>
        rw [hin, q4] at hst
        have e : (k : Int) = aboveV l out i (-1) (placed.take (j + 1)) := by rw [hst]; rfl
        clear hI hst
        repeat' ((conv => whnf); first | exact hQ | refine ⟨by kernel_rfl, ?_⟩ | refine bct (by assumption) ?_ | refine bcf (by assumption) ?_ | refine bcf (nt (by assumption)) ?_ | refine bct (nf (by assumption)) ?_ | refine row_in q3 ?_ | refine row_in r1 ?_ | refine row_in r2 ?_ | refine known bv (fun _ h => cin_ok hX oki okk h) hin ?_ | (exact ih _ _ (wrS (by omega)) ⟨e, .inr ⟨by omega, by omega⟩⟩))
      | false =>
        rw [hin] at hst
        have e : b = aboveV l out i (-1) (placed.take (j + 1)) := by rw [hst]; rfl
        clear hI hst
        repeat' ((conv => whnf); first | exact hQ | refine ⟨by kernel_rfl, ?_⟩ | refine bct (by assumption) ?_ | refine bcf (by assumption) ?_ | refine bcf (nt (by assumption)) ?_ | refine bct (nf (by assumption)) ?_ | refine row_in q3 ?_ | refine row_in r1 ?_ | refine row_in r2 ?_ | refine known bv (fun _ h => cin_ok hX oki okk h) hin ?_ | (exact ih _ _ (wrS (by omega)) ⟨e, .inl hb⟩))
    · obtain ⟨m, rfl⟩ := Int.eq_ofNat_of_zero_le hb0
      have hmo : m < out.length := by omega
      have q4 : ltI (m : Int) 0 = false := ltI_f.2 (by omega)
      have lm : lenB (out.map nrow) (m : Int) = true := lenB_map hmo
      have r4 := at_nodes hmo
      rw [Int.toNat_natCast] at hst
      cases hin : inP (l.getD i (.mk 0 ⟨#[]⟩ 0 0 0 [])) (l.getD k (.mk 0 ⟨#[]⟩ 0 0 0 [])) with
      | true =>
        cases hlt : ltI (out.getD m (0, 0)).2 (out.getD k (0, 0)).2 with
        | true =>
          rw [hin, q4, hlt] at hst
          have e : (k : Int) = aboveV l out i (-1) (placed.take (j + 1)) := by rw [hst]; rfl
          clear hI hst
          repeat' ((conv => whnf); first | exact hQ | refine ⟨by kernel_rfl, ?_⟩ | refine bct (by assumption) ?_ | refine bcf (by assumption) ?_ | refine bcf (nt (by assumption)) ?_ | refine bct (nf (by assumption)) ?_ | refine row_in q3 ?_ | refine row_in r1 ?_ | refine row_in r2 ?_ | refine row_in r3 ?_ | refine row_in r4 ?_ | refine known bv (fun _ h => cin_ok hX oki okk h) hin ?_ | (exact ih _ _ (wrS (by omega)) ⟨e, .inr ⟨by omega, by omega⟩⟩))
        | false =>
          rw [hin, q4, hlt] at hst
          have e : (m : Int) = aboveV l out i (-1) (placed.take (j + 1)) := by rw [hst]; rfl
          clear hI hst
          repeat' ((conv => whnf); first | exact hQ | refine ⟨by kernel_rfl, ?_⟩ | refine bct (by assumption) ?_ | refine bcf (by assumption) ?_ | refine bcf (nt (by assumption)) ?_ | refine bct (nf (by assumption)) ?_ | refine row_in q3 ?_ | refine row_in r1 ?_ | refine row_in r2 ?_ | refine row_in r3 ?_ | refine row_in r4 ?_ | refine known bv (fun _ h => cin_ok hX oki okk h) hin ?_ | (exact ih _ _ (wrS (by omega)) ⟨e, .inr ⟨by omega, by omega⟩⟩))
      | false =>
        rw [hin] at hst
        have e : (m : Int) = aboveV l out i (-1) (placed.take (j + 1)) := by rw [hst]; rfl
        clear hI hst
        repeat' ((conv => whnf); first | exact hQ | refine ⟨by kernel_rfl, ?_⟩ | refine bct (by assumption) ?_ | refine bcf (by assumption) ?_ | refine bcf (nt (by assumption)) ?_ | refine bct (nf (by assumption)) ?_ | refine row_in q3 ?_ | refine row_in r1 ?_ | refine row_in r2 ?_ | refine known bv (fun _ h => cin_ok hX oki okk h) hin ?_ | (exact ih _ _ (wrS (by omega)) ⟨e, .inr ⟨by omega, by omega⟩⟩))
  · obtain ⟨hI, hb⟩ := hI
    rw [List.take_length] at hI
    have q1 : ltI (placed.length : Int) (lenL (placed.map irow)) = false := by rw [lenL_map, ltI_f]; omega
    refine loop_intro hX ?_
    repeat' ((conv => whnf); first | exact hQ | refine ⟨by kernel_rfl, ?_⟩ | refine bct (by assumption) ?_ | refine bcf (by assumption) ?_ | refine bcf (nt (by assumption)) ?_ | refine bct (nf (by assumption)) ?_ | (exact Qi hQ hI.symm))
abbrev pAt (l : List Pred) (i : Nat) : Pred := l.getD i (.mk 0 ⟨#[]⟩ 0 0 0 [])
abbrev lev (out : List Nd) (k : Nat) : Int := (out.getD k (0, 0)).2
/-- the best of the root and those below n -/
def bestR (l : List Pred) (out : List Nd) (i r : Nat) : Nat → Nat
  | 0 => r
  | k + 1 => if decide (k ≠ r) && (inP (pAt l i) (pAt l k) && ltI (lev out (bestR l out i r k)) (lev out k)) then k else bestR l out i r k
def placedR (r i : Nat) : List Nat := r :: (List.range i).filter fun k => decide (k ≠ r)
theorem above_best {l : List Pred} {out : List Nd} {i r : Nat} (hr : inP (pAt l i) (pAt l r) = true) : ∀ n, aboveV l out i (-1) (placedR r n) = (bestR l out i r n : Int)
  | 0 => by
    show (if inP (pAt l i) (pAt l r) && (ltI (-1) 0 || _) then (r : Int) else -1) = _
    rw [hr, show ltI (-1) 0 = true from rfl]; rfl
  | n + 1 => by
    have ih := above_best (l := l) (out := out) (i := i) hr n
    by_cases hn : n = r
    · have e1 : placedR r (n + 1) = placedR r n := by
        unfold placedR
        rw [List.range_succ, List.filter_append]
        simp [hn]
      rw [e1, ih]
      rw [bestR, if_neg (by simp [hn])]
    · have e1 : placedR r (n + 1) = placedR r n ++ [n] := by
        unfold placedR
        rw [List.range_succ, List.filter_append]
        simp [hn]
      rw [e1, aboveV_app, ih]
      show (if inP (pAt l i) (pAt l n) && (ltI (bestR l out i r n : Int) 0 || ltI (out.getD (bestR l out i r n : Int).toNat (0, 0)).2 (out.getD n (0, 0)).2) then (n : Int) else (bestR l out i r n : Int)) = _
      rw [show ltI (bestR l out i r n : Int) 0 = false from ltI_f.2 (by omega), Int.toNat_natCast, Bool.false_or]
      rw [bestR]
      rw [show decide (n ≠ r) = true from decide_eq_true hn, Bool.true_and]
      split <;> rfl
def placeN (l : List Pred) (r : Nat) : Nat → List Nd
  | 0 => List.replicate l.length (0, 0)
  | i + 1 => if i = r then placeN l r i else (placeN l r i).set i (((bestR l (placeN l r i) i r i : Nat) : Int) + 1, lev (placeN l r i) (bestR l (placeN l r i) i r i) + 1)
theorem placeN_len (l : List Pred) (r : Nat) : ∀ i, (placeN l r i).length = l.length
  | 0 => by simp [placeN]
  | i + 1 => by unfold placeN; split <;> simp [placeN_len l r i]
theorem bestR_lt {l : List Pred} {out : List Nd} {i r : Nat} : ∀ n, bestR l out i r n = r ∨ bestR l out i r n < n
  | 0 => .inl rfl
  | n + 1 => by
    unfold bestR
    split
    · right; omega
    · rcases bestR_lt (l := l) (out := out) (i := i) (r := r) n with h | h
      · exact .inl h
      · right; omega
theorem lev_set (out : List Nd) (i k : Nat) (x : Nd) : lev (out.set i x) k = if i = k ∧ k < out.length then x.2 else lev out k := by
  unfold lev
  rw [List.getD_eq_getElem?_getD, List.getD_eq_getElem?_getD, List.getElem?_set]
  by_cases h : i = k
  · subst h
    by_cases h2 : i < out.length
    · simp [h2]
    · simp [h2]
  · simp [h]
theorem placeN_lev (l : List Pred) (r : Nat) : ∀ i k, 0 ≤ lev (placeN l r i) k ∧ lev (placeN l r i) k ≤ i
  | 0, k => by
    unfold placeN lev
    rw [List.getD_eq_getElem?_getD, List.getElem?_replicate]
    split <;> simp
  | i + 1, k => by
    have ih := placeN_lev l r i
    have h1 := ih k
    unfold placeN
    split
    · omega
    · rw [lev_set]
      split
      · have := ih (bestR l (placeN l r i) i r i); simp only; omega
      · omega
/-- the root's place -/
def rootV (l : List Pred) : Int := idxP (fun p => eqI p.op 1) l 0
def badT (l : List Pred) : Bool := ltI (rootV l) 0 || (l.any (fun p => !mayP p) || ltI 8 (lenL (rows l)))
def placeV (l : List Pred) : List Nd := if badT l then [] else placeN l (rootV l).toNat l.length
theorem idxP_ex {α : Type} {p : α → Bool} : ∀ {l : List α} {i : Nat}, 0 ≤ idxP p l i → ∃ j, ∃ h : j < l.length, idxP p l i = ((i + j : Nat) : Int) ∧ p l[j] = true ∧ ∀ k (hk : k < j), p (l[k]'(by omega)) = false
  | [], i, h => absurd (show (0 : Int) ≤ -1 from h) (by decide)
  | a :: l, i, h => by
    unfold idxP at h ⊢
    cases hp : p a with
    | true => exact ⟨0, by simp, by simp, by simpa using hp, fun k hk => absurd hk (Nat.not_lt_zero _)⟩
    | false =>
      rw [if_neg (by rw [hp]; simp)] at h
      obtain ⟨j, hj, h1, h2, h3⟩ := idxP_ex h
      refine ⟨j + 1, by simpa using hj, by rw [if_neg (by simp), h1]; congr 1; omega, by simpa using h2, fun k hk => ?_⟩
      cases k with
      | zero => simpa using hp
      | succ k => have := h3 k (by omega); simpa using this
/-- what holds of filters that are placed -/
structure Good (l : List Pred) (r : Nat) : Prop where
  lt : r < l.length
  root : rootV l = (r : Int)
  star : (pAt l r).op = 1
  may : ∀ i, i < l.length → mayP (pAt l i) = true
  len : l.length ≤ 8
theorem good_of {l : List Pred} (h : badT l = false) : ∃ r, Good l r := by
  unfold badT at h
  simp only [Bool.or_eq_false_iff, ltI_f, len_rows] at h
  obtain ⟨h1, h2, h3⟩ := h
  obtain ⟨j, hj, e1, e2, e3⟩ := idxP_ex h1
  refine ⟨j, hj, by unfold rootV; rw [e1]; simp, ?_, fun i hi => ?_, by omega⟩
  · rw [eqI_t] at e2
    show (l.getD j _).op = 1
    rw [List.getD_eq_getElem?_getD, List.getElem?_eq_getElem hj]; exact e2
  · rw [List.any_eq_false] at h2
    have := h2 _ (getD_mem hi)
    simpa using this
theorem good_in {l : List Pred} {r i : Nat} (g : Good l r) (hi : i < l.length) : inP (pAt l i) (pAt l r) = true := by
  unfold inP
  rw [g.may i hi, g.may r g.lt]
  cases hN : (pAt l i).size + (pAt l r).size with
  | zero => have := size_pos (pAt l i); omega
  | succ N => rw [seenF_eq, show eqI (pAt l r).op 1 = true from eqI_t.2 g.star]; rfl
theorem irow_take (r i : Nat) : catL ((placedR r i).map irow) [[ip (i : Int)]] = ((placedR r i) ++ [i]).map irow := by unfold catL; rw [List.map_append]; rfl
theorem place_ok {X : Task → Prop} (hX : Closed X) {l : List Pred} {Q : A → List Blk → Prop} (hl : ∀ p ∈ l, p.Ok) (hln : l.length ≤ 9223372036854775807) (hQ : Q (sl ((placeV l).map nrow)) []) : X (.call 47 [sl (rows l)] [] Q) := by
  refine call_intro hX Try.func47 rfl rfl ?_
  have h1 : ∀ (j : Nat) (hj : j < l.length) (Q' : A → List Blk → Prop), Q' (bv ((fun p : Pred => eqI p.op 1) l[j])) [] → X (.call 88 [l[j].a] [] Q') := fun j hj Q' h => isStar_ok hX h
  have h2 : ∀ (j : Nat) (hj : j < l.length) (Q' : A → List Blk → Prop), Q' (bv ((fun p : Pred => !mayP p) l[j])) [] → X (.call 89 [l[j].a] [] Q') := fun j hj Q' h => isOdd_ok hX (hl _ (List.getElem_mem hj)) h
  obtain ⟨ro, hro⟩ : ∃ x, idxP (fun p : Pred => eqI p.op 1) l 0 = x := ⟨_, rfl⟩
  obtain ⟨od, hod⟩ : ∃ x, l.any (fun p : Pred => !mayP p) = x := ⟨_, rfl⟩
  cases hb : badT l with
  | true =>
    have hv : placeV l = [] := by unfold placeV; rw [hb]; rfl
    rw [hv] at hQ
    unfold badT rootV at hb
    rw [hro, hod] at hb
    repeat' ((conv => whnf); first | exact hQ | refine ⟨by kernel_rfl, ?_⟩ | refine bct (by assumption) ?_ | refine bcf (by assumption) ?_ | refine bcf (nt (by assumption)) ?_ | refine bct (nf (by assumption)) ?_ | refine known iv (fun _ h => indexFn_ok hX (P := fun p : Pred => eqI p.op 1) hln h1 h) hro ?_ | refine known bv (fun _ h => containsFn_ok hX (P := fun p : Pred => !mayP p) hln h2 h) hod ?_ | (exfalso; simp_all; done) | refine bc (fun _ => ?_) (fun _ => ?_))
  | false =>
    obtain ⟨r, g⟩ := good_of hb
    have hv : placeV l = placeN l r l.length := by unfold placeV; rw [hb, g.root]; rfl
    rw [hv] at hQ
    have hr : ro = (r : Int) := hro.symm.trans g.root
    subst hr
    unfold badT rootV at hb
    rw [hro, hod] at hb
    simp only [Bool.or_eq_false_iff] at hb
    obtain ⟨b1, b2, b3⟩ := hb
    subst b2
    have q0 : (eqI (lenL (rows l)) (lenL (rows l)) && roomN (lenL (rows l)) 16 && Nat.ble 1 2) = true := by
      have := g.len
      rw [len_rows]; unfold roomN eqI; simp; omega
    repeat' ((conv => whnf); first | exact hQ | refine ⟨by kernel_rfl, ?_⟩ | refine bct (by assumption) ?_ | refine bcf (by assumption) ?_ | refine bcf (nt (by assumption)) ?_ | refine bct (nf (by assumption)) ?_ | refine known iv (fun _ h => indexFn_ok hX (P := fun p : Pred => eqI p.op 1) hln h1 h) hro ?_ | refine known bv (fun _ h => containsFn_ok hX (P := fun p : Pred => !mayP p) hln h2 h) hod ?_ | refine bct q0 ?_)
    all_goals (conv => whnf)
    have hlen := g.len
    have e0 : repRow (mapR PC.v (ty T 61).z) (lenL (rows l)) = (placeN l r 0).map nrow := by
      unfold placeN repRow
      rw [len_rows, Int.toNat_natCast, List.map_replicate]; rfl
    refine range_ix (fun i (st : Rw × Rw) => pad [(0, sl (rows l)), (2, iv (r : Int)), (1, .one (.own 0)), (0, .one (.own 1)), (22, iv (lenL (rows l))), (0, iv i)] 28) (fun _ st => [.rows st.1.k st.1.l, .rows st.2.k st.2.l]) (fun j st => st.1.k = 2 ∧ st.1.l = (placeN l r j).map nrow ∧ st.2.k = 1 ∧ st.2.l = (placedR r j).map irow) l.length 0 (Nat.zero_le _) (fun j st _ hj hI ih => ?_) (fun st hI => ?_) 0 (⟨_, _⟩, ⟨_, _⟩) rfl ⟨rfl, e0, rfl, rfl⟩
    · obtain ⟨⟨k1, l1⟩, ⟨k2, l2⟩⟩ := st
      obtain ⟨i1, i2, i3, i4⟩ := hI
      dsimp only at i1 i2 i3 i4
      subst i1; subst i2; subst i3; subst i4
      have q1 : ltI (j : Int) (lenL (rows l)) = true := by rw [len_rows, ltI_t]; omega
      refine loop_intro hX ?_
      by_cases hjr : j = r
      · subst hjr
        have q2 : eqI (j : Int) (j : Int) = true := by simp [eqI]
        have n1 : placeN l j (j + 1) = placeN l j j := by rw [placeN, if_pos rfl]
        have n2 : placedR j (j + 1) = placedR j j := by unfold placedR; rw [List.range_succ, List.filter_append]; simp
        repeat' ((conv => whnf); first | exact hQ | refine ⟨by kernel_rfl, ?_⟩ | refine bct (by assumption) ?_ | refine bcf (by assumption) ?_ | refine bcf (nt (by assumption)) ?_ | refine bct (nf (by assumption)) ?_ | (exact ih _ (⟨_, _⟩, ⟨_, _⟩) (wrS (by omega)) ⟨rfl, by rw [n1], rfl, by rw [n2]⟩))
      · have q2 : eqI (j : Int) (r : Int) = false := eqI_f.2 (by omega)
        have hpl : ∀ k ∈ placedR r j, k < l.length := fun k hk => by
          unfold placedR at hk
          rcases List.mem_cons.1 hk with rfl | hk
          · exact g.lt
          · have := (List.mem_filter.1 hk).1; simp at this; omega
        have hps : (placedR r j).length ≤ 20 := by
          unfold placedR
          have := List.length_filter_le (fun k => decide (k ≠ r)) (List.range j)
          rw [List.length_range] at this
          rw [List.length_cons]; omega
        have hv := above_best (l := l) (out := placeN l r j) (i := j) (good_in g hj) j
        have hnl := placeN_len l r j
        have hbl : bestR l (placeN l r j) j r j < l.length := by rcases bestR_lt (l := l) (out := placeN l r j) (i := j) (r := r) j with h | h; rw [h]; exact g.lt; omega
        have hlv := placeN_lev l r j (bestR l (placeN l r j) j r j)
        have n1 : placeN l r (j + 1) = (placeN l r j).set j (((bestR l (placeN l r j) j r j : Nat) : Int) + 1, lev (placeN l r j) (bestR l (placeN l r j) j r j) + 1) := by rw [placeN, if_neg hjr]
        have n2 : placedR r (j + 1) = placedR r j ++ [j] := by unfold placedR; rw [List.range_succ, List.filter_append]; simp [hjr]
        generalize hbb : bestR l (placeN l r j) j r j = b at *
        have w1 : wr .i64 ((b : Int) + 1) = (b : Int) + 1 := wr64 (by omega) (by omega)
        have w2 : wr .i64 (lev (placeN l r j) b + 1) = lev (placeN l r j) b + 1 := wr64 (by omega) (by omega)
        have lb : (lenB ((placeN l r j).map nrow) (b : Int) && Nat.beq 2 2) = true := by rw [lenB_map (by omega)]; rfl
        have lj : (lenB ((placeN l r j).map nrow) (j : Int) && Nat.beq 2 2) = true := by rw [lenB_map (by omega)]; rfl
        have r1 := at_nodes (out := placeN l r j) (j := b) (by omega)
        have r2 := at_nodes (out := placeN l r j) (j := j) (by omega)
        have e1 : setRow ((placeN l r j).map nrow) j [ip (wr .i64 ((b : Int) + 1)), ip (wr .i64 (lev (placeN l r j) b + 1))] = (placeN l r (j + 1)).map nrow := by
          rw [n1, w1, w2]; unfold setRow; rw [List.map_set]; rfl
        have e2 : catL ((placedR r j).map irow) [[ip (j : Int)]] = (placedR r (j + 1)).map irow := by rw [n2]; exact irow_take r j
        have hm : ((placedR r j).map irow).length ≤ 50000 := by rw [List.length_map]; omega
        repeat' ((conv => whnf); first | exact hQ | refine ⟨by kernel_rfl, ?_⟩ | refine bct (by assumption) ?_ | refine bcf (by assumption) ?_ | refine bcf (nt (by assumption)) ?_ | refine bct (nf (by assumption)) ?_ | refine known iv (fun _ h => above_ok hX hl hj hnl hpl (by omega) (by omega) h) hv ?_ | refine Or.inl ?_ | refine row_in r1 ?_ | refine row_in r2 ?_ | refine bct (room3 hm rfl rfl rfl rfl) ?_ | (exact ih _ (⟨_, _⟩, ⟨_, _⟩) (wrS (by omega)) ⟨rfl, e1, rfl, e2⟩))
    · obtain ⟨⟨k1, l1⟩, ⟨k2, l2⟩⟩ := st
      obtain ⟨i1, i2, i3, i4⟩ := hI
      dsimp only at i1 i2 i3 i4
      subst i1; subst i2; subst i3; subst i4
      have q1 : ltI (l.length : Int) (lenL (rows l)) = false := by rw [len_rows, ltI_f]; omega
      refine loop_intro hX ?_
      repeat' ((conv => whnf); first | exact hQ | refine ⟨by kernel_rfl, ?_⟩ | refine bct (by assumption) ?_ | refine bcf (by assumption) ?_ | refine bcf (nt (by assumption)) ?_ | refine bct (nf (by assumption)) ?_)
/-! ### the document's answer -/
theorem range_down {X : Task → Prop} {f m : Nat} {c : Code} {K : Ex → List A → List Blk → Prop} {ST : Type} (T' : Int → ST → List A) (S' : Int → ST → List Blk) (I : Nat → ST → Prop) (n : Nat)
    (hstep : ∀ (d : Nat) st, d < n → I d st → (∀ (i : Int) st', i = (n : Int) - 1 - (d + 1 : Nat) → I (d + 1) st' → X (.loop f m c (T' i st') (S' i st') K)) → X (.loop f m c (T' ((n - 1 - d : Nat) : Int) st) (S' ((n - 1 - d : Nat) : Int) st) K))
    (hend : ∀ st, I n st → X (.loop f m c (T' (-1) st) (S' (-1) st) K)) (i0 : Int) (st0 : ST) (hi0 : i0 = (n : Int) - 1) (h0 : I 0 st0) : X (.loop f m c (T' i0 st0) (S' i0 st0) K) := by
  have := range_from (X := X) (f := f) (m := m) (c := c) (K := K) (fun d st => T' ((n : Int) - 1 - (d : Nat)) st) (fun d st => S' ((n : Int) - 1 - (d : Nat)) st) I n 0 (Nat.zero_le _)
    (fun d st _ h2 h3 ih => by
      have e : (n : Int) - 1 - (d : Nat) = ((n - 1 - d : Nat) : Int) := by omega
      have := hstep d st h2 h3 fun i st' hi hI => by subst hi; exact ih st' hI
      rw [← e] at this; exact this)
    (fun st hI => by have := hend st hI; rw [← show (n : Int) - 1 - (n : Nat) = -1 by omega] at this; exact this) st0 h0
  rw [hi0]
  simpa using this
def starAt (l : List Pred) (i : Nat) : Prop := (pAt l i).op = 1
/-- what is known behind the last d filters -/
def DI (l : List Pred) (d : Nat) (root : Int) : Prop := (∀ i, l.length - d ≤ i → i < l.length → mayP (pAt l i) = true) ∧ (0 < d → l.length ≤ 8) ∧
  ((root = -1 ∧ ∀ i, l.length - d ≤ i → i < l.length → ¬ starAt l i) ∨ ∃ r : Nat, root = (r : Int) ∧ l.length - d ≤ r ∧ r < l.length ∧ starAt l r ∧ ∀ i, l.length - d ≤ i → i < r → ¬ starAt l i)
theorem bad_may {l : List Pred} {i : Nat} (hi : i < l.length) (h : mayP (pAt l i) = false) : placeV l = [] := by
  have : badT l = true := by
    unfold badT
    have : l.any (fun p => !mayP p) = true := List.any_eq_true.2 ⟨_, getD_mem hi, by simpa using h⟩
    rw [this]; simp
  unfold placeV; rw [this]; rfl
theorem bad_len {l : List Pred} (h : 8 < l.length) : placeV l = [] := by
  have : badT l = true := by
    unfold badT
    rw [show ltI 8 (lenL (rows l)) = true by rw [len_rows, ltI_t]; omega]; simp
  unfold placeV; rw [this]; rfl
theorem pAt_get {l : List Pred} {i : Nat} (h : i < l.length) : pAt l i = l[i] := by
  show l.getD i _ = _
  rw [List.getD_eq_getElem?_getD, List.getElem?_eq_getElem h]; rfl
theorem bad_root {l : List Pred} (h : DI l l.length (-1)) : placeV l = [] := by
  obtain ⟨_, _, h⟩ := h
  rcases h with ⟨_, h⟩ | ⟨r, hr, _⟩
  · have : rootV l = -1 := idxP_none 0 fun k hk => by
      have := h k (by omega) hk
      unfold starAt at this
      rw [pAt_get hk] at this
      exact eqI_f.2 this
    have : badT l = true := by unfold badT; rw [this]; rfl
    unfold placeV; rw [this]; rfl
  · omega
theorem good_root {l : List Pred} {r : Nat} (h : DI l l.length (r : Int)) : Good l r ∧ placeV l = placeN l r l.length := by
  obtain ⟨h1, h2, h⟩ := h
  rcases h with ⟨h, _⟩ | ⟨r', hr, h3, h4, h5, h6⟩
  · omega
  · have : r' = r := by omega
    subst this
    have hroot : rootV l = (r' : Int) := by
      unfold rootV
      have := idxP_at (p := fun p : Pred => eqI p.op 1) h4 0 (fun k hk => by
        have := h6 k (by omega) hk
        unfold starAt at this
        rw [pAt_get (by omega)] at this
        exact eqI_f.2 this) (by unfold starAt at h5; rw [pAt_get h4] at h5; exact eqI_t.2 h5)
      rw [this, Nat.zero_add]
    have g : Good l r' := ⟨h4, hroot, h5, fun i hi => h1 i (by omega) hi, h2 (by omega)⟩
    have hb : badT l = false := by
      unfold badT
      rw [hroot, show ltI (r' : Int) 0 = false from ltI_f.2 (by omega), show l.any (fun p => !mayP p) = false from List.any_eq_false.2 fun p hp => by
        obtain ⟨i, hi, rfl⟩ := List.getElem_of_mem hp
        have := g.may i hi
        rw [pAt_get hi] at this
        simp [this], show ltI 8 (lenL (rows l)) = false by rw [len_rows, ltI_f]; have := g.len; omega]
      rfl
    exact ⟨g, by unfold placeV; rw [hb, hroot]; rfl⟩
theorem rplace_ok {X : Task → Prop} (hX : Closed X) {l : List Pred} {Q : A → List Blk → Prop} (hl : ∀ p ∈ l, p.Ok) (hs : ∀ p ∈ l, p.size ≤ 1000) (hln : l.length ≤ 1000) (hQ : Q (sl ((placeV l).map nrow)) []) : X (.call 48 [sl (rows l)] [] Q) := by
  refine call_intro hX Try.func48 rfl rfl ?_
  have w0 : wr .i64 (lenL (rows l) - 1) = (l.length : Int) - 1 := by rw [len_rows, wr64 (by omega) (by omega)]
  repeat' ((conv => whnf); first | exact hQ | refine ⟨by kernel_rfl, ?_⟩ | refine bct (by assumption) ?_ | refine bcf (by assumption) ?_ | refine bcf (nt (by assumption)) ?_ | refine bct (nf (by assumption)) ?_)
  refine range_down (fun i (root : Int) => pad [(0, sl (rows l)), (2, iv root), (0, iv i)] 94) (fun _ _ => []) (DI l) l.length (fun d root hd hI ih => ?_) (fun root hI => ?_) _ (-1) w0 ⟨fun i h1 h2 => by omega, fun h => by omega, .inl ⟨rfl, fun i h1 h2 => by omega⟩⟩
  · obtain ⟨k, hk⟩ : ∃ k, k = l.length - 1 - d := ⟨_, rfl⟩
    rw [← hk]
    have hkl : k < l.length := by omega
    have q1 : leI 0 (k : Int) = true := leI_t.2 (by omega)
    have q2 := lenB_rows hkl
    have r1 := at_rows' hkl
    have okk := hl _ (getD_mem hkl)
    have skk := hs _ (getD_mem hkl)
    have w1 : wr .i64 ((k : Int) - 1) = (l.length : Int) - 1 - (d + 1 : Nat) := by rw [wr64 (by omega) (by omega)]; omega
    obtain ⟨i1, i2, i3⟩ := hI
    refine loop_intro hX ?_
    cases hm : mayP (pAt l k) with
    | false =>
      have hv := bad_may hkl hm
      rw [hv] at hQ
      repeat' ((conv => whnf); first | exact hQ | refine ⟨by kernel_rfl, ?_⟩ | refine bct (by assumption) ?_ | refine bcf (by assumption) ?_ | refine bcf (nt (by assumption)) ?_ | refine bct (nf (by assumption)) ?_ | refine row_in r1 ?_ | refine known bv (fun _ h => rmay_pred_ok hX skk okk h) hm ?_)
    | true =>
      by_cases h8 : l.length ≤ 8
      · have q3 : ltI 8 (lenL (rows l)) = false := by rw [len_rows, ltI_f]; omega
        have j1 : ∀ i, l.length - (d + 1) ≤ i → i < l.length → mayP (pAt l i) = true := fun i h1 h2 => by
          by_cases e : i = k
          · rw [e]; exact hm
          · exact i1 i (by clear i3; omega) h2
        by_cases hst : starAt l k
        · have q4 : eqI (l.getD k (.mk 0 ⟨#[]⟩ 0 0 0 [])).op 1 = true := eqI_t.2 hst
          clear i1 i2 i3
          have hn : DI l (d + 1) (k : Int) := ⟨j1, fun _ => h8, .inr ⟨k, rfl, by omega, hkl, hst, fun i h1 h2 => by omega⟩⟩
          clear j1 hQ
          repeat' ((conv => whnf); first | exact hQ | refine ⟨by kernel_rfl, ?_⟩ | refine bct (by assumption) ?_ | refine bcf (by assumption) ?_ | refine bcf (nt (by assumption)) ?_ | refine bct (nf (by assumption)) ?_ | refine row_in r1 ?_ | refine known bv (fun _ h => rmay_pred_ok hX skk okk h) hm ?_ | (exact ih _ _ w1 hn))
        · have q4 : eqI (l.getD k (.mk 0 ⟨#[]⟩ 0 0 0 [])).op 1 = false := eqI_f.2 hst
          have hn : DI l (d + 1) root := by
            refine ⟨j1, fun _ => h8, ?_⟩
            rcases i3 with ⟨e, h⟩ | ⟨r, e, h3, h4, h5, h6⟩
            · refine .inl ⟨e, fun i h1 h2 => ?_⟩
              by_cases e : i = k
              · rw [e]; exact hst
              · exact h i (by omega) h2
            · refine .inr ⟨r, e, by omega, h4, h5, fun i h1 h2 => ?_⟩
              by_cases e : i = k
              · rw [e]; exact hst
              · exact h6 i (by omega) h2
          clear i1 i2 i3 j1 hQ
          repeat' ((conv => whnf); first | exact hQ | refine ⟨by kernel_rfl, ?_⟩ | refine bct (by assumption) ?_ | refine bcf (by assumption) ?_ | refine bcf (nt (by assumption)) ?_ | refine bct (nf (by assumption)) ?_ | refine row_in r1 ?_ | refine known bv (fun _ h => rmay_pred_ok hX skk okk h) hm ?_ | (exact ih _ _ w1 hn))
      · have q3 : ltI 8 (lenL (rows l)) = true := by rw [len_rows, ltI_t]; omega
        rw [bad_len (by omega)] at hQ
        repeat' ((conv => whnf); first | exact hQ | refine ⟨by kernel_rfl, ?_⟩ | refine bct (by assumption) ?_ | refine bcf (by assumption) ?_ | refine bcf (nt (by assumption)) ?_ | refine bct (nf (by assumption)) ?_ | refine row_in r1 ?_ | refine known bv (fun _ h => rmay_pred_ok hX skk okk h) hm ?_)
  · have hroot : root = -1 ∨ ∃ r : Nat, root = (r : Int) := by
      rcases hI.2.2 with ⟨h, _⟩ | ⟨r, h, _⟩
      · exact .inl h
      · exact .inr ⟨r, h⟩
    refine loop_intro hX ?_
    rcases hroot with rfl | ⟨r, rfl⟩
    · rw [bad_root hI] at hQ
      repeat' ((conv => whnf); first | exact hQ | refine ⟨by kernel_rfl, ?_⟩ | refine bct (by assumption) ?_ | refine bcf (by assumption) ?_ | refine bcf (nt (by assumption)) ?_ | refine bct (nf (by assumption)) ?_)
    · obtain ⟨g, hv⟩ := good_root hI
      rw [hv] at hQ
      have hlen := g.len
      have q1 : ltI (r : Int) 0 = false := ltI_f.2 (by omega)
      have q0 : (eqI (lenL (rows l)) (lenL (rows l)) && roomN (lenL (rows l)) 16 && Nat.ble 1 2) = true := by
        rw [len_rows]; unfold roomN eqI; simp; omega
      have e0 : repRow (mapR PC.v (ty T 62).z) (lenL (rows l)) = (placeN l r 0).map nrow := by
        unfold placeN repRow
        rw [len_rows, Int.toNat_natCast, List.map_replicate]; rfl
      repeat' ((conv => whnf); first | exact hQ | refine ⟨by kernel_rfl, ?_⟩ | refine bct (by assumption) ?_ | refine bcf (by assumption) ?_ | refine bcf (nt (by assumption)) ?_ | refine bct (nf (by assumption)) ?_ | refine bct q0 ?_)
      all_goals (conv => whnf)
      refine range_ix (fun i (st : Rw) => pad [(0, sl (rows l)), (2, iv (r : Int)), (2, .one (.own 0)), (0, iv i)] 91) (fun _ st => [.rows st.k st.l]) (fun j st => st.k = 2 ∧ st.l = (placeN l r j).map nrow) l.length 0 (Nat.zero_le _) (fun j st _ hj hI ih => ?_) (fun st hI => ?_) 0 ⟨_, _⟩ rfl ⟨rfl, e0⟩
      · obtain ⟨k1, l1⟩ := st
        obtain ⟨i1, i2⟩ := hI
        dsimp only at i1 i2
        subst i1; subst i2
        have q1 : ltI (j : Int) (lenL (rows l)) = true := by rw [len_rows, ltI_t]; omega
        refine loop_intro hX ?_
        by_cases hjr : j = r
        · subst hjr
          have q2 : eqI (j : Int) (j : Int) = true := by simp [eqI]
          have n1 : placeN l j (j + 1) = placeN l j j := by rw [placeN, if_pos rfl]
          repeat' ((conv => whnf); first | exact hQ | refine ⟨by kernel_rfl, ?_⟩ | refine bct (by assumption) ?_ | refine bcf (by assumption) ?_ | refine bcf (nt (by assumption)) ?_ | refine bct (nf (by assumption)) ?_ | (exact ih _ ⟨_, _⟩ (wrS (by omega)) ⟨rfl, by rw [n1]⟩))
        · have q2 : eqI (j : Int) (r : Int) = false := eqI_f.2 (by omega)
          have hnl := placeN_len l r j
          have okj := hl _ (getD_mem hj)
          have skj := hs _ (getD_mem hj)
          have lbj := lenB_rows hj
          have rj := at_rows' hj
          repeat' ((conv => whnf); first | exact hQ | refine ⟨by kernel_rfl, ?_⟩ | refine bct (by assumption) ?_ | refine bcf (by assumption) ?_ | refine bcf (nt (by assumption)) ?_ | refine bct (nf (by assumption)) ?_)
          refine range_ix (fun i (b : Int) => pad [(0, sl (rows l)), (2, iv (r : Int)), (2, .one (.own 0)), (0, iv (j : Int)), (0, iv b), (0, iv i)] 89) (fun _ _ => [.rows 2 ((placeN l r j).map nrow)]) (fun k b => b = (bestR l (placeN l r j) j r k : Int)) j 0 (Nat.zero_le _) (fun k b _ hk hI' ih' => ?_) (fun b hI' => ?_) 0 (r : Int) rfl rfl
          · subst hI'
            have hkl : k < l.length := by omega
            have okk := hl _ (getD_mem hkl)
            have skk := hs _ (getD_mem hkl)
            have lbk := lenB_rows hkl
            have rk := at_rows' hkl
            have p1 : ltI (k : Int) (j : Int) = true := ltI_t.2 (by omega)
            have lk : (lenB ((placeN l r j).map nrow) (k : Int) && Nat.beq 2 2) = true := by rw [lenB_map (by omega)]; rfl
            have nk := at_nodes (out := placeN l r j) (j := k) (by omega)
            have hbl : bestR l (placeN l r j) j r k < l.length := by rcases bestR_lt (l := l) (out := placeN l r j) (i := j) (r := r) k with h | h; rw [h]; exact g.lt; omega
            have lb : (lenB ((placeN l r j).map nrow) ((bestR l (placeN l r j) j r k : Nat) : Int) && Nat.beq 2 2) = true := by rw [lenB_map (by omega)]; rfl
            have nb := at_nodes (out := placeN l r j) (j := bestR l (placeN l r j) j r k) (by omega)
            have hst : bestR l (placeN l r j) j r (k + 1) = if decide (k ≠ r) && (inP (pAt l j) (pAt l k) && ltI (lev (placeN l r j) (bestR l (placeN l r j) j r k)) (lev (placeN l r j) k)) then k else bestR l (placeN l r j) j r k := by rw [bestR]
            obtain ⟨b, hb⟩ : ∃ b, bestR l (placeN l r j) j r k = b := ⟨_, rfl⟩
            obtain ⟨bn, hbn⟩ : ∃ b, bestR l (placeN l r j) j r (k + 1) = b := ⟨_, rfl⟩
            rw [hb] at lb nb hst hbl ⊢
            rw [hbn] at hst ih'
            refine loop_intro hX ?_
            cases hin : inP (pAt l j) (pAt l k) with
            | false =>
              rw [hin] at hst
              have e : (b : Int) = (bn : Int) := by rw [hst]; simp
              by_cases hkr : k = r
              · have p2 : eqI (k : Int) (r : Int) = true := eqI_t.2 (by omega)
                repeat' ((conv => whnf); first | exact hQ | refine ⟨by kernel_rfl, ?_⟩ | refine bct (by assumption) ?_ | refine bcf (by assumption) ?_ | refine bcf (nt (by assumption)) ?_ | refine bct (nf (by assumption)) ?_ | refine row_in rj ?_ | refine row_in rk ?_ | refine known bv (fun _ h => rin_ok hX okj okk skj skk h) hin ?_ | (exact ih' _ _ (wrS (by omega)) e))
              · have p2 : eqI (k : Int) (r : Int) = false := eqI_f.2 (by omega)
                repeat' ((conv => whnf); first | exact hQ | refine ⟨by kernel_rfl, ?_⟩ | refine bct (by assumption) ?_ | refine bcf (by assumption) ?_ | refine bcf (nt (by assumption)) ?_ | refine bct (nf (by assumption)) ?_ | refine row_in rj ?_ | refine row_in rk ?_ | refine known bv (fun _ h => rin_ok hX okj okk skj skk h) hin ?_ | (exact ih' _ _ (wrS (by omega)) e))
            | true =>
              by_cases hkr : k = r
              · have p2 : eqI (k : Int) (r : Int) = true := eqI_t.2 (by omega)
                have e : (b : Int) = (bn : Int) := by rw [hst, show decide (k ≠ r) = false from decide_eq_false (fun h => h hkr)]; rfl
                repeat' ((conv => whnf); first | exact hQ | refine ⟨by kernel_rfl, ?_⟩ | refine bct (by assumption) ?_ | refine bcf (by assumption) ?_ | refine bcf (nt (by assumption)) ?_ | refine bct (nf (by assumption)) ?_ | refine row_in rj ?_ | refine row_in rk ?_ | refine known bv (fun _ h => rin_ok hX okj okk skj skk h) hin ?_ | (exact ih' _ _ (wrS (by omega)) e))
              · have p2 : eqI (k : Int) (r : Int) = false := eqI_f.2 (by omega)
                rw [hin, show decide (k ≠ r) = true from decide_eq_true hkr] at hst
                cases hlt : ltI (lev (placeN l r j) b) (lev (placeN l r j) k) with
                | true =>
                  rw [hlt] at hst
                  have e : (k : Int) = (bn : Int) := by rw [hst]; rfl
                  repeat' ((conv => whnf); first | exact hQ | refine ⟨by kernel_rfl, ?_⟩ | refine bct (by assumption) ?_ | refine bcf (by assumption) ?_ | refine bcf (nt (by assumption)) ?_ | refine bct (nf (by assumption)) ?_ | refine row_in rj ?_ | refine row_in rk ?_ | refine row_in nk ?_ | refine row_in nb ?_ | refine known bv (fun _ h => rin_ok hX okj okk skj skk h) hin ?_ | (exact ih' _ _ (wrS (by omega)) e))
                | false =>
                  rw [hlt] at hst
                  have e : (b : Int) = (bn : Int) := by rw [hst]; rfl
                  repeat' ((conv => whnf); first | exact hQ | refine ⟨by kernel_rfl, ?_⟩ | refine bct (by assumption) ?_ | refine bcf (by assumption) ?_ | refine bcf (nt (by assumption)) ?_ | refine bct (nf (by assumption)) ?_ | refine row_in rj ?_ | refine row_in rk ?_ | refine row_in nk ?_ | refine row_in nb ?_ | refine known bv (fun _ h => rin_ok hX okj okk skj skk h) hin ?_ | (exact ih' _ _ (wrS (by omega)) e))
          · subst hI'
            have p1 : ltI (j : Int) (j : Int) = false := ltI_f.2 (by omega)
            have hbl : bestR l (placeN l r j) j r j < l.length := by rcases bestR_lt (l := l) (out := placeN l r j) (i := j) (r := r) j with h | h; rw [h]; exact g.lt; omega
            have hlv := placeN_lev l r j (bestR l (placeN l r j) j r j)
            have n1 : placeN l r (j + 1) = (placeN l r j).set j (((bestR l (placeN l r j) j r j : Nat) : Int) + 1, lev (placeN l r j) (bestR l (placeN l r j) j r j) + 1) := by rw [placeN, if_neg hjr]
            obtain ⟨b, hbb⟩ : ∃ b, bestR l (placeN l r j) j r j = b := ⟨_, rfl⟩
            rw [hbb] at hbl hlv n1 ⊢
            have w1 : wr .i64 ((b : Int) + 1) = (b : Int) + 1 := wr64 (by omega) (by omega)
            have w2 : wr .i64 (lev (placeN l r j) b + 1) = lev (placeN l r j) b + 1 := wr64 (by omega) (by omega)
            have lb : (lenB ((placeN l r j).map nrow) (b : Int) && Nat.beq 2 2) = true := by rw [lenB_map (by omega)]; rfl
            have lj : (lenB ((placeN l r j).map nrow) (j : Int) && Nat.beq 2 2) = true := by rw [lenB_map (by omega)]; rfl
            have r1 := at_nodes (out := placeN l r j) (j := b) (by omega)
            have r2 := at_nodes (out := placeN l r j) (j := j) (by omega)
            have e1 : setRow ((placeN l r j).map nrow) j [ip (wr .i64 ((b : Int) + 1)), ip (wr .i64 (lev (placeN l r j) b + 1))] = (placeN l r (j + 1)).map nrow := by
              rw [n1, w1, w2]; unfold setRow; rw [List.map_set]; rfl
            refine loop_intro hX ?_
            repeat' ((conv => whnf); first | exact hQ | refine ⟨by kernel_rfl, ?_⟩ | refine bct (by assumption) ?_ | refine bcf (by assumption) ?_ | refine bcf (nt (by assumption)) ?_ | refine bct (nf (by assumption)) ?_ | refine row_in r1 ?_ | refine row_in r2 ?_ | (exact ih _ ⟨_, _⟩ (wrS (by omega)) ⟨rfl, e1⟩))
      · obtain ⟨k1, l1⟩ := st
        obtain ⟨i1, i2⟩ := hI
        dsimp only at i1 i2
        subst i1; subst i2
        have q1 : ltI (l.length : Int) (lenL (rows l)) = false := by rw [len_rows, ltI_f]; omega
        refine loop_intro hX ?_
        repeat' ((conv => whnf); first | exact hQ | refine ⟨by kernel_rfl, ?_⟩ | refine bct (by assumption) ?_ | refine bcf (by assumption) ?_ | refine bcf (nt (by assumption)) ?_ | refine bct (nf (by assumption)) ?_)
end Go.Proofs.Ytaiedakbmmgmaaa
