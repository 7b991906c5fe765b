/- Regions that draw their order: the theorem; the evaluator's soundness without a premise on them. -/
import Derived.Test.YtaiedakbmmgmaaaEvDraw3
set_option linter.unusedVariables false
set_option linter.unusedSimpArgs false
namespace Go.Proofs.Ytaiedakbmmgmaaa.E
open Go
variable {P : Program} {T : List TI} {t : List A} {σ : List Blk} {I : Task → Prop} {H : List (Nat × Nat × List Nat)} {KO : List Nat}

theorem rep_false (n i : Nat) : (Array.replicate n false).getD i false = false := by
  rw [Array.getD_eq_getD_getElem?, Array.getElem?_replicate]; split <;> rfl
def inL (l : Array Bool) : Nat → Bool := fun i => l.getD i false
theorem inL_set {l : Array Bool} {j : Nat} (hj : j < l.size) : inL (l.setIfInBounds j true) = addD (inL l) j := by
  funext i
  unfold inL addD
  by_cases h : j = i
  · subst h; simp [Array.getD_eq_getD_getElem?, hj]
  · rw [Array.getD_eq_getD_getElem?, Array.getElem?_setIfInBounds_ne h, ← Array.getD_eq_getD_getElem?]
    have : (i == j) = false := by simpa using fun e : i = j => h e.symm
    rw [this, Bool.or_false]
section
variable {ops : List Oper} {rs : List Rec} {t' : List A} {σ' : List Blk} {ord : Nat → Nat → Prop}
theorem none_ready (hd : Drawn ops (rs.map Rec.foot) ord) {l : Array Bool} (hl : l.size = ops.length) (h : Region.ready .any ops.toArray l = []) : ∀ j, j < ops.length → inL l j = true := by
  intro j
  induction j using Nat.strongRecOn with
  | _ j ih =>
    intro hj
    cases hc : inL l j with
    | true => rfl
    | false =>
      exfalso
      have hm : j ∈ Region.ready .any ops.toArray l := mem_ready.2 ⟨by
        unfold inL at hc
        rw [Array.getD_eq_getD_getElem?, Array.getElem?_eq_getElem (by omega)] at hc ⊢
        exact hc, ops[j], by simp [hj], fun e he hb => by
        rw [binds_any] at hb
        have hlt := hd.back j ops[j] (by simp [hj]) e (by simpa using he) hb
        exact ih e.on hlt (by omega)⟩
      rw [h] at hm
      cases hm
theorem any_ok {m : Nat} (hm : m ≤ σ.length) {w0 S0 inj0} (hch : Ch P ops rs ops t σ t' σ') (hd : Drawn ops (rs.map Rec.foot) ord) (Q : Exit → Act → World → Prop)
    (hq : ∀ D a w, (∀ j, j < ops.length → D j = true) → G m t σ rs w0 S0 inj0 D a w → Q .normal a w) : ∀ (fuel : Nat) (l : Array Bool) (a : Act) (w : World), l.size = ops.length → l.toList.count false ≤ fuel → Closed ops (inL l) → G m t σ rs w0 S0 inj0 (inL l) a w →
    wpAny P .any ops.toArray Q fuel l a w := by
  intro fuel
  induction fuel with
  | zero =>
    intro l a w hl hf hC hG
    have hall : ∀ j, j < ops.length → inL l j = true := fun j hj => by
      have h0 : false ∉ l.toList := List.count_eq_zero.1 (by omega)
      unfold inL
      rw [Array.getD_eq_getD_getElem?, Array.getElem?_eq_getElem (by omega), Option.getD_some]
      cases hc : l[j] with
      | true => rfl
      | false => exact absurd (by rw [← hc]; simp) h0
    refine ⟨?_, hq _ _ _ hall hG⟩
    rw [List.eq_nil_iff_forall_not_mem]
    intro j hj
    obtain ⟨h1, o, h2, _⟩ := mem_ready.1 hj
    have hjl : j < ops.length := by simpa using (Array.getElem?_eq_some_iff.1 h2).1
    have := hall j hjl
    unfold inL at this
    rw [Array.getD_eq_getD_getElem?, Array.getElem?_eq_getElem (by omega)] at this h1
    simp only [Option.getD_some] at this h1
    rw [h1] at this; cases this
  | succ fuel ih =>
    intro l a w hl hf hC hG
    refine ⟨fun h => hq _ _ _ (none_ready hd hl h) hG, fun j hj => ?_⟩
    obtain ⟨h1, o, h2, h3⟩ := mem_ready.1 hj
    have hjl : j < ops.length := by simpa using (Array.getElem?_eq_some_iff.1 h2).1
    have hjs : j < l.size := by omega
    have hn : inL l j = false := by
      unfold inL
      rw [Array.getD_eq_getD_getElem?, Array.getElem?_eq_getElem hjs] at h1 ⊢
      exact h1
    have hlj : l[j] = false := by
      rw [Array.getD_eq_getD_getElem?, Array.getElem?_eq_getElem hjs] at h1; exact h1
    have ho : ops[j]? = some o := by simpa using h2
    have hC' : Closed ops (addD (inL l) j) := fun j2 o2 ho2 hj2 e he hb => by
      by_cases hjj : j2 = j
      · subst hjj
        rw [ho] at ho2; injection ho2 with ho2; subst ho2
        have := h3 e (by simpa using he) (by rw [binds_any]; exact hb)
        simp [addD, inL, this]
      · have hj2 : inL l j2 = true := by simpa [addD, hjj] using hj2
        have := hC j2 o2 ho2 hj2 e he hb
        simp [addD, this]
    have hr : ∃ r, rs[j]? = some r := ⟨rs[j]'(by rw [hch.len]; exact hjl), by simp⟩
    obtain ⟨r, hr⟩ := hr
    have hro : r.o = o := by
      have := (hch.split hr).2.1
      rw [ho] at this; injection this with this; exact this.symm
    have hstep := step_G hm hch hd hC hC' hr hn hG Q
    rw [hro] at hstep
    have hset := inL_set (l := l) (j := j) hjs
    have hcount : (l.setIfInBounds j true).toList.count false ≤ fuel := by
      rw [Array.toList_setIfInBounds, List.count_set (by simpa using hjs)]
      have : l.toList[j]'(by simpa using hjs) = false := by simpa using hlj
      rw [this]
      have hpos : 0 < l.toList.count false := List.count_pos_iff.2 (by rw [← hlj]; simp)
      have e : l.toList.count false - (if (false == false) = true then 1 else 0) + (if (true == false) = true then 1 else 0) = l.toList.count false - 1 := rfl
      rw [e]
      omega
    have next : ∀ a' w', G m t σ rs w0 S0 inj0 (addD (inL l) j) a' w' → wpAny P .any ops.toArray Q fuel (l.setIfInBounds j true) a' w' := fun a' w' hG' =>
      ih _ a' w' (by simp [hl]) hcount (by rw [hset]; exact hC') (by rw [hset]; exact hG')
    unfold wpOp
    rw [h2]
    simp only
    by_cases hw : Region.wanted o (yielded ops.toArray a.tmps) = true
    · rw [if_pos hw] at hstep ⊢
      exact .inl (Oper.wp_mono next hstep)
    · rw [if_neg hw] at hstep ⊢
      exact next _ _ hstep
end
theorem Inv.drew {w S inj} {f : Nat → Blk} (h : Inv w S inj f) : Inv w.drew S inj f :=
  ⟨fun b => by
    by_cases hb : f b = .dead
    · rw [hb]; trivial
    · exact (h.live b).grow (.drew w S) (.refl _) (fun _ _ => rfl) fun g hg => ((h.live b).blk hb hg).1, h.sep, h.lt, h.dj⟩
theorem drawn_ok (hT : TOk P T) (hI : CallsOk P I) (hM : P.follows .mixedOrders = true) : DrawnOk P T I := by
  intro id ops m t σ K hm h
  obtain ⟨rs, t', σ', ⟨hok, h⟩, hch⟩ := runF_ch hT hI _ h
  rw [List.append_nil, ← List.map_reverse] at hok
  rw [List.map_reverse] at hok
  obtain ⟨ord, hd⟩ := drawn_of hok
  have hfin := hch.final
  refine ⟨t', σ', h, by have := hfin.2.1; omega, fun a w S inj hs Q hq => wp_region_any hM ?_⟩
  change wpAny P .any ops Q ops.size (Array.replicate ops.size false) a w.drew
  have key := any_ok (P := P) (ops := ops.toList) (rs := rs) (t := t) (σ := σ) (m := m) (w0 := w) (S0 := S) (inj0 := inj) hm hch hd Q (fun D a' w' hall hG => ?_) ops.size (Array.replicate ops.size false) a w.drew (by simp) (by simp) (fun j o _ hj => by
      unfold inL at hj
      rw [rep_false] at hj; cases hj) ?_
  · simpa using key
  · obtain ⟨S', inj', hi, hsz, ht, hdf, hfr, hrl⟩ := hG
    have hlen : rs.length = ops.toList.length := hch.len
    have hDt : ∀ i r, rs[i]? = some r → D i = true := fun i r hr => hall i (by rw [← hlen]; exact (List.getElem?_eq_some_iff.1 hr).1)
    refine hq a' w' S' inj' ⟨?_, ?_, fun b hb => hfr b (by have := hfin.2.1; omega) fun i r hr hdi hbr => ?_, hdf, by have := hfin.2.1; omega⟩ hrl
    · refine F2.of_get (by rw [hfin.1, ← hsz]; simp) fun d x v hx hv => ?_
      have hd' : d < t.length := by rw [← hfin.1]; exact (List.getElem?_eq_some_iff.1 hx).1
      have h1 := ht d hd'
      have h2 : TT t rs D d = t'.getD d (.one .junk) := by
        rw [hfin.2.2.1 0 d hd']
        exact TT_agree fun i r hr _ => hDt i r hr
      rw [h2, List.getD_eq_getElem?_getD, hx] at h1
      have h3 : a'.tmps.getD d undef = v := by
        have : a'.tmps[d]? = some v := by simpa using hv
        simp [Array.getD_eq_getD_getElem?, this]
      rw [h3] at h1; exact h1
    · have : FB σ rs D = look σ' := by
        funext b
        rw [hfin.2.2.2 0 b]
        exact FB_agree fun i r hr _ => hDt i r hr
      rwa [this] at hi
    · obtain ⟨_, _, _, ops1, t1, σ1, hch1, hl1⟩ := hch.split hr
      have := hch1.final.2.1
      omega
  · have h0 : ∀ i, inL (Array.replicate ops.size false) i = false := fun i => by unfold inL; rw [rep_false]
    refine ⟨S, inj, ?_, ?_, fun d hdl => ?_, hs.defers, fun b hb _ => hs.free b hb, ⟨.drew w S, fun _ _ => .inr (.inl rfl), fun _ _ h => h⟩⟩
    · have : FB σ rs (inL (Array.replicate ops.size false)) = look σ := by
        funext b; exact lastV_none _ _ _ fun k => h0 _
      rw [this]; exact hs.inv.drew
    · have := hs.tmps.len; simpa using this.symm
    · have : TT t rs (inL (Array.replicate ops.size false)) d = t.getD d (.one .junk) := lastV_none _ _ _ fun k => h0 _
      rw [this]
      have := opd_ok hs.tmps (.tmp d)
      change VA w S inj (nth (.one .junk) t d) (a.tmps.getD d undef) at this
      rw [nth_eq] at this
      exact this.grow (.drew w S) (.refl _)
/-- THE EVALUATOR IS SOUND -/
theorem sound (hT : TOk P T) (hM : P.follows .mixedOrders = true) {prim : Nat → List A → A → Prop} (hprim : ∀ f xs r, prim f xs r → CallOk P f xs [] r []) : ∀ task, Step T H KO (TaskOk P) P prim task → TaskOk P task :=
  fun _ h => step_ok hT (drawn_ok hT (fun f xs σ Q h => h) hM) hprim h
end Go.Proofs.Ytaiedakbmmgmaaa.E
