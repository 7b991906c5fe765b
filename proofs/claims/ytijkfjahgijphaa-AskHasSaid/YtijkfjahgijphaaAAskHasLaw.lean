/- The statement AskHas, out of what its code computes. -/
import Derived.Test.YtijkfjahgijphaaASitArgs
set_option linter.unusedVariables false
set_option linter.unusedSimpArgs false
set_option maxRecDepth 100000
namespace Go.Proofs.Ytijkfjahgijphaa
open Go E Pred
noncomputable section
open Classical
theorem askHas_l {x : State} {w sid : Int} (hn : x.store.length ≤ 990) : ∀ (xs : List Item) (p : Item) (pre : List Item), x.store = pre ++ p :: xs → risesG p xs = true →
    law11_AskHas_l1 true x (sess0 x w sid, ask0 x w sid) true (xs.map hasOf) ((pre.length : Int) + 1) = some true
  | [], p, pre, h, _ => by rw [List.map_nil, law11_AskHas_l1]; rfl
  | i :: xs, p, pre, h, hr => by
    have hlen : x.store.length = pre.length + (xs.length + 2) := by rw [h]; simp
    rw [risesG, Bool.and_eq_true] at hr
    have a1 : atL x.store ((pre.length : Int) + 1) = some i := by
      have := at_app (pre ++ [p]) i xs
      rw [List.length_append, List.append_assoc] at this
      rw [h]; exact this
    have a0 : atL (sess0 x w sid, ask0 x w sid).2.have_ (wr .i64 ((pre.length : Int) + 1 - 1)) = some (hasOf p) := by
      show atL (x.store.map hasOf) _ = _
      rw [wr64 (by omega) (by omega), show (pre.length : Int) + 1 - 1 = pre.length by omega, h, List.map_append, List.map_cons]
      have := at_app (pre.map hasOf) (hasOf p) ((i :: xs).map hasOf)
      rw [List.length_map] at this
      exact this
    have hlt : (ltS i.id p.id || eqS i.id p.id) = false := by
      have := hr.1
      cases hh : (ltS i.id p.id || eqS i.id p.id) with
      | true => rw [hh] at this; cases this
      | false => rfl
    have ih := askHas_l (x := x) (w := w) (sid := sid) hn xs i (pre ++ [p]) (by rw [h]; simp) hr.2
    rw [List.length_append] at ih
    rw [List.map_cons, law11_AskHas_l1, bnd_of a1, br_f (by show (!eqS i.id i.id) = false; rw [eqS_refl]; rfl),
      br_f (by show (!(andB (eqI i.vr i.vr) (andB (eqI i.vc i.vc) true))) = false; rw [eqI_self, eqI_self]; rfl),
      br_f (by show (!eqI i.stamp i.stamp) = false; rw [eqI_self]; rfl), br_t (by rw [ltI_t]; omega), bnd_of a0, br_f (by show (ltS i.id p.id || eqS i.id p.id) = false; exact hlt)]
    exact ih
theorem askHas_0 {x : State} {w sid : Int} (hn : x.store.length ≤ 990) (hr : risesB x.store = true) : law11_AskHas_l1 true x (sess0 x w sid, ask0 x w sid) true (x.store.map hasOf) 0 = some true := by
  match hs : x.store, hr with
  | [], _ => rfl
  | i :: xs, hr =>
    have ih := askHas_l (x := x) (w := w) (sid := sid) hn xs i [] hs hr
    rw [List.map_cons, law11_AskHas_l1, bnd_of (by rw [hs]; exact at_app [] i xs), br_f (by show (!eqS i.id i.id) = false; rw [eqS_refl]; rfl),
      br_f (by show (!(andB (eqI i.vr i.vr) (andB (eqI i.vc i.vc) true))) = false; rw [eqI_self, eqI_self]; rfl),
      br_f (by show (!eqI i.stamp i.stamp) = false; rw [eqI_self]; rfl), br_f (by rfl)]
    exact ih
theorem askHas_s {s : Sit} {w sid other : Int} (ok : s.Ok) : law11_AskHas_s s w sid other = some true := by
  unfold law11_AskHas_s
  obtain ⟨b, hb, h⟩ := fits_sit ok
  rw [bnd_of up11, bnd_of hb]
  rcases h with rfl | ⟨rfl, hst, h3, h4, h5, h6⟩
  · rfl
  · rw [br_f (by rfl), bnd_of (state_s ok hst)]
    obtain ⟨may, hm, hmay⟩ := may9_s hst
    rw [bnd_of hm]
    cases may with
    | false => rfl
    | true =>
      obtain ⟨m1, m2, m3, m4⟩ := hmay rfl
      have hf := (mayP_iff.1 m1).2.2
      have hl : (s.st.store.map hasOf).length ≤ 1000000000 := by rw [List.length_map]; have := hst.sl; omega
      have e : ref11_SameMsg_s (ask0 s.st w sid) (ask0 s.st w sid) = some true := sameMsg_s hst.f (sameP_refl hf) hst.k rfl hl
      unfold mayListB at m2
      rw [Bool.and_eq_true] at m2
      rw [br_f (by rfl), bnd_of (ask_s hst.fs hst.sl hst.k), bnd_of (ask_s hst.fs hst.sl hst.k),
        br_f (by show (!eqI ((s.st.store.map hasOf).length : Int) (s.st.store.length : Int)) = false; rw [List.length_map, eqI_self]; rfl),
        br_f (by show (!eqI other other) = false; rw [eqI_self]; rfl)]
      refine (bnd_of (a := true) e).trans ?_
      refine (chk_t (smallL_of hl)).trans ?_
      exact askHas_0 hst.sl m2.2
theorem law_askHas {X : Task → Prop} (hX : Closed X) {s : Sit} {w sid other : Int} (ok : s.Ok) {Q : A → List Blk → Prop} (hQ : Q (bv true) []) : X (.call 4 [s.la, iv w, iv sid, iv other] [] Q) := law11_AskHas_c hX (askHas_s ok) hQ
end
end Go.Proofs.Ytijkfjahgijphaa
