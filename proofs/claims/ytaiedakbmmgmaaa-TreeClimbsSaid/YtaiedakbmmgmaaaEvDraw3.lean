/- Regions that draw their order: each order gives the same. -/
import Derived.Test.YtaiedakbmmgmaaaEvDraw2
set_option linter.unusedVariables false
set_option linter.unusedSimpArgs false
namespace Go.Proofs.Ytaiedakbmmgmaaa.E
open Go
variable {P : Program} {T : List TI} {t : List A} {σ : List Blk} {I : Task → Prop}

def upto (k : Nat) : Nat → Bool := fun n => decide (n < k)
def addD (D : Nat → Bool) (j : Nat) : Nat → Bool := fun i => D i || i == j
/-- the temporaries, the store, behind the operations of D -/
def TT (t : List A) (rs : List Rec) (D : Nat → Bool) (d : Nat) : A := lastV D (rs.map (Rec.cT d)) 0 (t.getD d (.one .junk))
noncomputable def FB (σ : List Blk) (rs : List Rec) (D : Nat → Bool) (b : Nat) : Blk := lastV D (rs.map (Rec.cB b)) 0 (look σ b)
/-- what holds behind the operations of D -/
def G (m : Nat) (t : List A) (σ : List Blk) (rs : List Rec) (w0 : World) (S0 : Zone) (inj0 : Nat → Loc) (D : Nat → Bool) (a : Act) (w : World) : Prop :=
  ∃ S inj, Inv w S inj (FB σ rs D) ∧ a.tmps.size = t.length ∧ (∀ d, d < t.length → VA w S inj (TT t rs D d) (a.tmps.getD d undef)) ∧ a.defers = [] ∧
    (∀ b, σ.length ≤ b → (∀ i r, rs[i]? = some r → D i = true → ¬ (r.σ.length ≤ b ∧ b < r.σ.length + r.nw.length)) → inj b = .free) ∧ Rl m w0 S0 inj0 w S inj

section
variable {ops : List Oper} {rs : List Rec} {t' : List A} {σ' : List Blk} {ord : Nat → Nat → Prop} {D : Nat → Bool} {j : Nat} {r : Rec}
theorem at_T (hch : Ch P ops rs ops t σ t' σ') (hj : rs[j]? = some r) {d : Nat} (hd : d < t.length) : TT t rs (upto j) d = r.t.getD d (.one .junk) := by
  obtain ⟨h1, _⟩ := hch.split hj
  rw [h1.final.2.2.1 0 d hd, List.map_take]
  unfold TT upto
  have := lastV_pre (rs.map (Rec.cT d)) 0 j (t.getD d (.one .junk))
  simpa using this
theorem at_B (hch : Ch P ops rs ops t σ t' σ') (hj : rs[j]? = some r) (b : Nat) : FB σ rs (upto j) b = look r.σ b := by
  obtain ⟨h1, _⟩ := hch.split hj
  rw [h1.final.2.2.2 0 b, List.map_take]
  unfold FB upto
  have := lastV_pre (rs.map (Rec.cB b)) 0 j (look σ b)
  simpa using this
theorem TT_agree {E : Nat → Bool} {d : Nat} (h : ∀ i ri, rs[i]? = some ri → ri.o.dst = some d → D i = E i) : TT t rs D d = TT t rs E d := by
  unfold TT
  refine lastV_agree _ _ _ fun k c hk => ?_
  rw [List.getElem?_map, Option.map_eq_some_iff] at hk
  obtain ⟨ri, hi, hc⟩ := hk
  rw [Nat.zero_add]
  refine h k ri hi ?_
  unfold Rec.cT at hc
  split at hc
  · assumption
  · cases hc
theorem FB_agree {E : Nat → Bool} {b : Nat} (h : ∀ i ri, rs[i]? = some ri → b ∈ ri.foot.2 → D i = E i) : FB σ rs D b = FB σ rs E b := by
  unfold FB
  refine lastV_agree _ _ _ fun k c hk => ?_
  rw [List.getElem?_map, Option.map_eq_some_iff] at hk
  obtain ⟨ri, hi, hc⟩ := hk
  rw [Nat.zero_add]
  exact h k ri hi (cB_foot hc)
theorem TT_succ (hj : rs[j]? = some r) {d : Nat} : TT t rs (upto (j + 1)) d = (r.cT d).getD (TT t rs (upto j) d) :=
  lastV_succ (rs.map (Rec.cT d)) j (r.cT d) (by rw [List.getElem?_map, hj]; rfl) _
theorem FB_succ (hj : rs[j]? = some r) {b : Nat} : FB σ rs (upto (j + 1)) b = (r.cB b).getD (FB σ rs (upto j) b) :=
  lastV_succ (rs.map (Rec.cB b)) j (r.cB b) (by rw [List.getElem?_map, hj]; rfl) _

/-- those that write what j looks at, or writes -/
theorem near_T (hch : Ch P ops rs ops t σ t' σ') (hd : Drawn ops (rs.map Rec.foot) ord) (hD : Closed ops D) (hD' : Closed ops (addD D j)) (hj : rs[j]? = some r) (hn : D j = false)
    {d : Nat} (h : d ∈ r.o.looksAt ops.toArray ∨ r.o.dst = some d) {i : Nat} {ri : Rec} (hi : rs[i]? = some ri) (hdst : ri.o.dst = some d) (hij : i ≠ j) : D i = upto j i := by
  obtain ⟨_, hoi, _⟩ := hch.split hi
  obtain ⟨_, hoj, _⟩ := hch.split hj
  rcases Nat.lt_or_ge i j with hlt | hge
  · have hu : upto j i = true := by simp [upto, hlt]
    rw [hu]
    rcases hd.apart i j _ _ hlt hoi hoj with ho | ho
    · have := hd.closed hD' j i ho (by simp [addD])
      simpa [addD, hij] using this
    · obtain ⟨h1, h2, h3⟩ := Oper.apart_spec ho
      rcases h with h | h
      · exact absurd h (h1 d hdst)
      · exact absurd h (h2 d hdst)
  · have hu : upto j i = false := by simp [upto]; omega
    rw [hu]
    rcases hd.apart j i _ _ (by omega) hoj hoi with ho | ho
    · cases hc : D i with
      | false => rfl
      | true => have := hd.closed hD i j ho hc; rw [hn] at this; cases this
    · obtain ⟨h1, h2, h3⟩ := Oper.apart_spec ho
      rcases h with h | h
      · exact absurd h (h3 d hdst)
      · exact absurd hdst (h2 d h)
theorem near_B (hch : Ch P ops rs ops t σ t' σ') (hd : Drawn ops (rs.map Rec.foot) ord) (hD : Closed ops D) (hD' : Closed ops (addD D j)) (hj : rs[j]? = some r) (hn : D j = false)
    {b : Nat} (h : b ∈ r.foot.1 ∨ b ∈ r.foot.2) {i : Nat} {ri : Rec} (hi : rs[i]? = some ri) (hb : b ∈ ri.foot.2) (hij : i ≠ j) : D i = upto j i := by
  have hfi : (rs.map Rec.foot)[i]? = some ri.foot := by rw [List.getElem?_map, hi]; rfl
  have hfj : (rs.map Rec.foot)[j]? = some r.foot := by rw [List.getElem?_map, hj]; rfl
  rcases Nat.lt_or_ge i j with hlt | hge
  · have hu : upto j i = true := by simp [upto, hlt]
    rw [hu]
    rcases hd.feet i j _ _ hlt hfi hfj with ho | ho
    · have := hd.closed hD' j i ho (by simp [addD])
      simpa [addD, hij] using this
    · rcases h with h | h
      · exact absurd h (ho.1 b hb).1
      · exact absurd h (ho.1 b hb).2
  · have hu : upto j i = false := by simp [upto]; omega
    rw [hu]
    rcases hd.feet j i _ _ (by omega) hfj hfi with ho | ho
    · cases hc : D i with
      | false => rfl
      | true => have := hd.closed hD i j ho hc; rw [hn] at this; cases this
    · rcases h with h | h
      · exact absurd hb (ho.2 b h)
      · exact absurd hb (ho.1 b h).2
theorem now_T (hch : Ch P ops rs ops t σ t' σ') (hd : Drawn ops (rs.map Rec.foot) ord) (hD : Closed ops D) (hD' : Closed ops (addD D j)) (hj : rs[j]? = some r) (hn : D j = false)
    {d : Nat} (h : d ∈ r.o.looksAt ops.toArray ∨ r.o.dst = some d) (hdl : d < t.length) : TT t rs D d = r.t.getD d (.one .junk) := by
  rw [← at_T hch hj hdl]
  refine TT_agree fun i ri hi hdst => ?_
  by_cases hij : i = j
  · subst hij; rw [hn]; simp [upto]
  · exact near_T hch hd hD hD' hj hn h hi hdst hij
theorem now_B (hch : Ch P ops rs ops t σ t' σ') (hd : Drawn ops (rs.map Rec.foot) ord) (hD : Closed ops D) (hD' : Closed ops (addD D j)) (hj : rs[j]? = some r) (hn : D j = false)
    {b : Nat} (h : b ∈ r.foot.1 ∨ b ∈ r.foot.2) : FB σ rs D b = look r.σ b := by
  rw [← at_B hch hj b]
  refine FB_agree fun i ri hi hb => ?_
  by_cases hij : i = j
  · subst hij; rw [hn]; simp [upto]
  · exact near_B hch hd hD hD' hj hn h hi hb hij
theorem next_T (hch : Ch P ops rs ops t σ t' σ') (hd : Drawn ops (rs.map Rec.foot) ord) (hD : Closed ops D) (hD' : Closed ops (addD D j)) (hj : rs[j]? = some r) (hn : D j = false)
    {d : Nat} : TT t rs (addD D j) d = if r.o.dst = some d then r.v else TT t rs D d := by
  by_cases h : r.o.dst = some d
  · rw [if_pos h]
    have : TT t rs (addD D j) d = TT t rs (upto (j + 1)) d := TT_agree fun i ri hi hdst => by
      by_cases hij : i = j
      · subst hij; simp [addD, upto]
      · have := near_T hch hd hD hD' hj hn (.inr h) hi hdst hij
        simp only [addD, this, upto]
        have : (i == j) = false := by simpa using hij
        rw [this, Bool.or_false]
        simp; omega
    rw [this, TT_succ hj]
    unfold Rec.cT
    rw [if_pos h]; rfl
  · rw [if_neg h]
    refine TT_agree fun i ri hi hdst => ?_
    have hij : i ≠ j := by
      rintro rfl
      rw [hj] at hi; injection hi with hi; subst hi
      exact h hdst
    simp [addD, hij]
theorem next_B (hch : Ch P ops rs ops t σ t' σ') (hd : Drawn ops (rs.map Rec.foot) ord) (hD : Closed ops D) (hD' : Closed ops (addD D j)) (hj : rs[j]? = some r) (hn : D j = false)
    {b : Nat} : FB σ rs (addD D j) b = (r.cB b).getD (FB σ rs D b) := by
  cases hc : r.cB b with
  | some x =>
    have hb := cB_foot hc
    have : FB σ rs (addD D j) b = FB σ rs (upto (j + 1)) b := FB_agree fun i ri hi hbi => by
      by_cases hij : i = j
      · subst hij; simp [addD, upto]
      · have := near_B hch hd hD hD' hj hn (.inr hb) hi hbi hij
        simp only [addD, this, upto]
        have : (i == j) = false := by simpa using hij
        rw [this, Bool.or_false]
        simp; omega
    rw [this, FB_succ hj, hc]; rfl
  | none =>
    rw [Option.getD_none]
    unfold FB
    refine lastV_agree _ _ _ fun k c hk => ?_
    rw [List.getElem?_map, Option.map_eq_some_iff] at hk
    obtain ⟨ri, hi, hci⟩ := hk
    rw [Nat.zero_add]
    have hij : k ≠ j := by
      rintro rfl
      rw [hj] at hi; injection hi with hi; subst hi
      rw [hc] at hci; cases hci
    simp [addD, hij]
/-- an operand that the operation looks at -/
theorem opd_at {w S inj} {a : Act} (hl : r.t.length = t.length) (hs : a.tmps.size = t.length) (x : Operand) (h : ∀ d, x = .tmp d → d < t.length → VA w S inj (r.t.getD d (.one .junk)) (a.tmps.getD d undef)) : VA w S inj (opd r.t x) (a.eval x) := by
  cases x with
  | tmp n =>
    change VA w S inj (nth (.one .junk) r.t n) (a.tmps.getD n undef)
    rw [nth_eq]
    rcases Nat.lt_or_ge n t.length with hn | hn
    · exact h n rfl hn
    · rw [List.getD_eq_getElem?_getD, List.getElem?_eq_none (by omega)]; exact .one .junk
  | const v => exact constA_ok v
  | global g => exact .one .junk
  | func f => exact .ofc (.fn (caps := []) (vs := []) .nil)
theorem put_get {a : Act} {dst : Option Nat} {v : Value} {d : Nat} (hd : d < a.tmps.size) : (a.put dst v).tmps.getD d undef = if dst = some d then v else a.tmps.getD d undef := by
  unfold Act.put
  cases dst with
  | none => simp
  | some e =>
    by_cases h : e = d
    · subst h; simp [Array.getD_eq_getD_getElem?, hd]
    · simp [Array.getD_eq_getD_getElem?, Array.getElem?_setIfInBounds_ne h, h]
theorem put_size {a : Act} {dst : Option Nat} {v : Value} : (a.put dst v).tmps.size = a.tmps.size := by unfold Act.put; cases dst <;> simp
theorem put_defs {a : Act} {dst : Option Nat} {v : Value} : (a.put dst v).defers = a.defers := by unfold Act.put; cases dst <;> rfl

theorem step_G {m : Nat} (hm : m ≤ σ.length) {w0 S0 inj0} (hch : Ch P ops rs ops t σ t' σ') (hd : Drawn ops (rs.map Rec.foot) ord) (hD : Closed ops D) (hD' : Closed ops (addD D j)) (hj : rs[j]? = some r) (hn : D j = false)
    {a : Act} {w : World} (hG : G m t σ rs w0 S0 inj0 D a w) (Q : Exit → Act → World → Prop) :
    if Region.wanted r.o (yielded ops.toArray a.tmps) then r.o.wp P a w (G m t σ rs w0 S0 inj0 (addD D j)) Q else G m t σ rs w0 S0 inj0 (addD D j) (a.put r.o.dst undef) w := by
  obtain ⟨S, inj, hi, hs, ht, hdf, hfr, hrl⟩ := hG
  obtain ⟨hpre, hoj, ⟨hlt, hrec⟩, _⟩ := hch.split hj
  have hl : r.t.length = t.length := hpre.final.1
  have hσl : σ.length ≤ r.σ.length := hpre.final.2.1
  have hnow : ∀ d, (d ∈ r.o.looksAt ops.toArray ∨ r.o.dst = some d) → d < t.length → VA w S inj (r.t.getD d (.one .junk)) (a.tmps.getD d undef) := fun d h hdl => by
    rw [← now_T hch hd hD hD' hj hn h hdl]; exact ht d hdl
  have hguard : GuardOk ops r.t r.o w S inj a := fun g want oj d x hg hoj' hdst htd => by
    have hdl : d < t.length := by rw [← hl]; exact (List.getElem?_eq_some_iff.1 htd).1
    have hlook : d ∈ r.o.looksAt ops.toArray := by
      unfold Oper.looksAt
      rw [hg]
      exact List.mem_append.2 (.inr (by simp [hoj', hdst]))
    have := hnow d (.inl hlook) hdl
    rw [List.getD_eq_getElem?_getD, htd] at this
    have hda : d < a.tmps.size := by rw [hs]; exact hdl
    exact ⟨a.tmps[d], Array.getElem?_eq_getElem hda, by simpa [Array.getD_eq_getD_getElem?, hda] using this⟩
  rcases hrec with ⟨_, hok, hw⟩ | ⟨_, hv, hws, hnw, _, hw⟩
  · rw [hw hguard, if_pos rfl]
    refine hok a (FB σ rs D) w S inj _ Q (fun x hx => opd_at hl hs x fun d hxd hdl => hnow d (.inl ?_) hdl) (fun b hb => now_B hch hd hD hD' hj hn ?_) hi (fun i hi' => ?_) fun v' w' S' inj' hp => ?_
    · subst hxd
      unfold Oper.looksAt
      exact List.mem_append.2 (.inl (List.mem_filterMap.2 ⟨.tmp d, by simpa using hx, rfl⟩))
    · rcases List.mem_append.1 hb with h | h
      · exact .inl h
      · exact .inr (List.mem_append.2 (.inl h))
    · refine ⟨hfr _ (by omega) fun i2 r2 h2 hd2 => ?_, ?_⟩
      · rcases Nat.lt_trichotomy i2 j with h | h | h
        · have := hch.ranges h2 hj h
          omega
        · subst h; rw [hn] at hd2; cases hd2
        · have := hch.ranges hj h2 h
          omega
      · rw [now_B hch hd hD hD' hj hn (.inr (List.mem_append.2 (.inr (seq_mem.2 ⟨by omega, by omega⟩)))), look_eq, List.getD_eq_getElem?_getD, List.getElem?_eq_none (by omega)]; rfl
    · refine ⟨S', inj', ?_, by rw [put_size]; exact hs, fun d hdl => ?_, by rw [put_defs]; exact hdf, fun b hb hno => ?_, hrl.trans ⟨hp.grow, fun b _ => hp.le b, fun b hb h => hp.fresh b h (.inl (by omega))⟩⟩
      · have := hp.inv
        have e : upd (FB σ rs D) r.σ.length r.ws r.nw = FB σ rs (addD D j) := by
          funext b
          rw [upd_cB, next_B hch hd hD hD' hj hn]
        rwa [e] at this
      · rw [put_get (by omega), next_T hch hd hD hD' hj hn]
        split
        · exact hp.val
        · exact (ht d hdl).grow hp.grow hp.le
      · have h1 := hno j r hj (by simp [addD])
        exact hp.fresh b (hfr b hb fun i2 r2 h2 hd2 => hno i2 r2 h2 (by simp [addD, hd2])) (by omega)
  · rw [hw hguard, if_neg (by simp)]
    refine ⟨S, inj, ?_, by rw [put_size]; exact hs, fun d hdl => ?_, by rw [put_defs]; exact hdf, fun b hb hno => hfr b hb fun i2 r2 h2 hd2 => hno i2 r2 h2 (by simp [addD, hd2]), hrl⟩
    · have e : FB σ rs (addD D j) = FB σ rs D := by
        funext b
        rw [next_B hch hd hD hD' hj hn]
        unfold Rec.cB
        rw [hnw, hws, if_neg (by simp)]; rfl
      rwa [e]
    · rw [put_get (by omega), next_T hch hd hD hD' hj hn]
      split
      · rw [hv]; exact .tup .nil
      · exact ht d hdl
end
end Go.Proofs.Ytaiedakbmmgmaaa.E
