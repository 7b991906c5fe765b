/- The statements of layer 4, walked. -/
import Derived.Test.YtijkfjahgijphaaPlainRef2
set_option linter.unusedVariables false
set_option linter.unusedSimpArgs false
set_option maxRecDepth 100000
set_option maxHeartbeats 4000000
namespace Go.Proofs.Ytijkfjahgijphaa
open Go E Pred
theorem plain_as {X : Task → Prop} (hX : Closed X) {o : Int} {t : ByteArray} {n : Int} {x y : Nat} {ks : List Pred} {r : List (List PC)} {Q : A → List Blk → Prop} (hr : rows ks = r) (hs : (Pred.mk o t n x y ks).size ≤ 61) (hf : fitsP (.mk o t n x y ks) = true) {v : Pred} (hv : plainP (.mk o t n x y ks) = v) (hQ : Q v.a []) : X (.call 37 [pagg o t n x y r] [] Q) := by
  subst hr; subst hv; exact plain_ok hX _ (Nat.le_refl _) hs hf hQ
abbrev ex4 : List Pred := [bare 2 [], bare 1 []]
theorem rows_ex : rows ex4 = [[ip 2, .v (.string ⟨#[]⟩), ip 0, .v (.complex .f64 0 0), .sl []], [ip 1, .v (.string ⟨#[]⟩), ip 0, .v (.complex .f64 0 0), .sl []]] := by
  rw [rows_eq]; simp only [List.map_cons, List.map_nil, row_eq, Pred.op, Pred.text, Pred.n, Pred.re, Pred.im, Pred.kids, rows_nil]
theorem plain_ex : plainP (bare 9 ex4) = bare 1 [] := by
  have e1 : plainP (bare 2 []) = bare 2 [] := by rw [plainP_eq]; rfl
  have e2 : plainP (bare 1 []) = bare 1 [] := by rw [plainP_eq]; rfl
  have e3 : plainL ex4 = [bare 2 [], bare 1 []] := by rw [plainL, plainL, plainL, e1, e2]
  rw [plainP, if_pos (by rfl), e3]
  have f1 : flatP 9 [bare 2 [], bare 1 []] = [bare 2 [], bare 1 []] := by simp [flatP, eqI, Pred.op]
  have f2 : [bare 2 [], bare 1 []].foldl (addP 2) [] = [bare 1 []] := by simp [addP, eqI, Pred.op]
  rw [f1, f2]; rfl
theorem fits_ex : fitsP (bare 9 ex4) = true := by
  rw [mk_fits, part_89 (.inr rfl), fitsL_of fun k hk => by
    rcases List.mem_cons.1 hk with rfl | hk
    · exact (bare_fits (.inr rfl)).1
    · rw [List.mem_singleton.1 hk]; exact (bare_fits (.inl rfl)).1]; rfl
theorem size_ex : (bare 9 ex4).size ≤ 61 := by
  rw [mk_size, sizes_cons, sizes_one, (bare_fits (.inr rfl)).2.1, (bare_fits (.inl rfl)).2.1]; decide
abbrev item0 : Item := ⟨⟨#[]⟩, 0, 0, 0, ⟨#[]⟩, 0, 0, 0, false⟩
theorem item0_ok : item0.Ok := ⟨by decide, by decide, by decide, by decide, by decide, by decide⟩
theorem has_ex : hasP (bare 1 []) item0 = true := by
  rw [hasP_eq]; unfold has0
  exact if_pos (show (bare 1 []).op = 1 from rfl)
theorem up4_ok {X : Task → Prop} (hX : Closed X) {Q : A → List Blk → Prop} (hQ : Q (bv true) []) : X (.call 29 [] [] Q) := by
  refine call_intro hX Try.func29 rfl rfl ?_
  obtain ⟨w, hw⟩ : ∃ w, bare 1 [] = w := ⟨_, rfl⟩
  have q1 : eqI (lenL (rows w.kids)) 0 = true := by rw [← hw, show (bare 1 []).kids = [] from rfl, rows_nil]; rfl
  have q2 : eqI w.op 1 = true := by rw [← hw]; rfl
  have h1 : plainP (bare 9 ex4) = w := plain_ex.trans hw
  have h2 : hasP w item0 = true := by rw [← hw]; exact has_ex
  have h3 : w.size ≤ 1 := by rw [← hw, (bare_fits (.inl rfl)).2.1]; exact Nat.le_refl 1
  have h4 : w.Ok := by rw [← hw]; exact leaf_ok 1 (by decide)
  clear hw
  repeat' ((conv => whnf); first | exact hQ | refine eqv_id ?_ | refine Two.l ?_ | refine ⟨by kernel_rfl, ?_⟩ | refine bct (by assumption) ?_ | refine bcf (by assumption) ?_ | refine bcf (nt (by assumption)) ?_ | refine bct (nf (by assumption)) ?_ | refine Or.inl ?_ | refine plain_as hX rows_ex size_ex fits_ex h1 ?_ | refine known bv (fun _ h => has_ok hX 1 (p := w) (x := item0) h3 h4 item0_ok h) h2 ?_)
theorem law_evalTells {X : Task → Prop} (hX : Closed X) {p : Pred} {x : Item} (op : p.Ok) (ox : x.Ok) {Q : A → List Blk → Prop} (hQ : Q (bv true) []) : X (.call 6 [p.la, x.la] [] Q) := by
  refine call_intro hX Try.func6 rfl rfl ?_
  by_cases hp : p.size ≤ 60
  · obtain ⟨b, hb⟩ : ∃ b, hasP p x = b := ⟨_, rfl⟩
    cases hm : mayP p with
    | false =>
      cases b <;>
      (repeat' ((conv => whnf); first | exact hQ | refine eqv_id ?_ | refine Two.l ?_ | refine ⟨by kernel_rfl, ?_⟩ | refine bct (by assumption) ?_ | refine bcf (by assumption) ?_ | refine bcf (nt (by assumption)) ?_ | refine bct (nf (by assumption)) ?_ | refine up4_ok hX ?_ | refine known iv (fun _ h => small_ok hX op h) (if_pos hp) ?_ | refine lpred_ok hX p.size (p := p) (Nat.le_refl _) (by omega) op ?_ | refine item_ok hX ?_ | refine known bv (fun _ h => has_ok hX p.size (p := p) (Nat.le_refl _) op ox h) hb ?_ | refine known bv (fun _ h => rhas_ok hX p.size (p := p) (Nat.le_refl _) op ox h) hb ?_ | refine known bv (fun _ h => rmay_pred_ok hX (by omega) op h) hm ?_))
    | true =>
      have hf := (mayP_iff.1 hm).2.2
      have hsame := plain_same hf
      obtain ⟨n1, n2, n3⟩ := plain_nice hf
      have hpl : ∀ Q', Q' (plainP p).a [] → X (.call 37 [p.a] [] Q') := fun Q' h => plain_ok hX p.size (Nat.le_refl _) (by omega) hf h
      have hrl : ∀ Q', Q' (rplainP p).a [] → X (.call 38 [p.a] [] Q') := fun Q' h => rplain_ok hX p.size (p := p) (Nat.le_refl _) (by omega) hf h
      have ok1 := ok_of_fits n1 (by omega)
      generalize plainP p = u at *
      generalize rplainP p = w at *
      cases b <;>
      (repeat' ((conv => whnf); first | exact hQ | refine eqv_id ?_ | refine Two.l ?_ | refine ⟨by kernel_rfl, ?_⟩ | refine bct (by assumption) ?_ | refine bcf (by assumption) ?_ | refine bcf (nt (by assumption)) ?_ | refine bct (nf (by assumption)) ?_ | refine up4_ok hX ?_ | refine known iv (fun _ h => small_ok hX op h) (if_pos hp) ?_ | refine lpred_ok hX p.size (p := p) (Nat.le_refl _) (by omega) op ?_ | refine item_ok hX ?_ | refine known bv (fun _ h => has_ok hX p.size (p := p) (Nat.le_refl _) op ox h) hb ?_ | refine known bv (fun _ h => rhas_ok hX p.size (p := p) (Nat.le_refl _) op ox h) hb ?_ | refine known bv (fun _ h => rmay_pred_ok hX (by omega) op h) hm ?_ | refine hpl _ ?_ | refine hrl _ ?_ | refine known bv (fun _ h => rsame_pred_ok hX u.size (p := u) (q := w) (Nat.le_refl _) ok1 h) hsame ?_))
  · repeat' ((conv => whnf); first | exact hQ | refine eqv_id ?_ | refine Two.l ?_ | refine ⟨by kernel_rfl, ?_⟩ | refine bct (by assumption) ?_ | refine bcf (by assumption) ?_ | refine bcf (nt (by assumption)) ?_ | refine bct (nf (by assumption)) ?_ | refine up4_ok hX ?_ | refine known iv (fun _ h => small_ok hX op h) (if_neg hp) ?_)
def up4_s : Option Bool := some true
theorem up4_c {X : Task → Prop} (hX : Closed X) {r : Bool} {Q : A → List Blk → Prop} (h : up4_s = some r) (hQ : Q (bv r) []) : X (.call 29 [] [] Q) := by
  unfold up4_s at h; injection h with h; subst h; exact up4_ok hX hQ
end Go.Proofs.Ytijkfjahgijphaa
