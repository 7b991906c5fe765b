/- The statements ListTells and ListKeeps, out of what their code computes. -/
import Derived.Test.YtijkfjahgijphaaListArgs
import Derived.Test.YtijkfjahgijphaaItemLaw
import Derived.Test.YtijkfjahgijphaaListSpec2
import Derived.Test.YtijkfjahgijphaaL8
set_option linter.unusedVariables false
set_option linter.unusedSimpArgs false
set_option maxRecDepth 100000
namespace Go.Proofs.Ytijkfjahgijphaa
open Go E Pred
noncomputable section
open Classical
def realI (x : Item) : Prop := eqFl .f64 x.re x.re = true ∧ eqFl .f64 x.im x.im = true
theorem sameI_real {x : Item} (h : realI x) : sameI x x = true := by
  unfold sameI
  rw [h.1, h.2, eqS_refl, eqS_refl, beq_selfB]
  simp [eqI]
theorem real_may {x : Item} (h : mayI x = true) : realI x := by
  unfold mayI at h
  simp only [Bool.and_eq_true] at h
  obtain ⟨_, _, _, hp⟩ := h
  obtain ⟨⟨w1, _⟩, ⟨w2, _⟩⟩ := placeB_ok hp
  exact ⟨w1.self, w2.self⟩
theorem real_l : ∀ l : List Item, ∃ r, law00_Real_l1 l = some r ∧ (r = 0 ∨ (r = 1 ∧ ∀ x ∈ l, realI x))
  | [] => ⟨1, by rw [law00_Real_l1], .inr ⟨rfl, fun x hx => by cases hx⟩⟩
  | x :: l => by
    obtain ⟨r, hr, h⟩ := real_l l
    rw [law00_Real_l1]
    cases h1 : eqFl .f64 x.re x.re with
    | false => exact ⟨0, by rw [br_t (by rfl)], .inl rfl⟩
    | true =>
      rw [br_f (by rfl)]
      cases h2 : eqFl .f64 x.im x.im with
      | false => exact ⟨0, by rw [br_t (by rfl)], .inl rfl⟩
      | true =>
        refine ⟨r, by rw [br_f (by rfl), hr], h.imp id fun ⟨h3, h4⟩ => ⟨h3, fun y hy => ?_⟩⟩
        rcases List.mem_cons.1 hy with rfl | hy
        · exact ⟨h1, h2⟩
        · exact h4 y hy
theorem real_s {l : List Item} (h : l.length ≤ 1000000000) : ∃ r, law00_Real_s l = some r ∧ (r = 0 ∨ (r = 1 ∧ ∀ x ∈ l, realI x)) := by
  obtain ⟨r, hr, h'⟩ := real_l l
  exact ⟨r, by unfold law00_Real_s; rw [chk_t (smallL_of h), hr], h'⟩
theorem up8 : law08_up_s = some true := by
  have h := lput_s (l := [⟨⟨#[97]⟩, 0, 0, 0, ⟨#[]⟩, 0, 0, 0, false⟩, ⟨⟨#[99]⟩, 0, 0, 0, ⟨#[]⟩, 0, 0, 0, false⟩]) (x := ⟨⟨#[98]⟩, 0, 0, 0, ⟨#[]⟩, 0, 0, 0, false⟩) (ris_iff.1 (by kernel_rfl)) (by simp)
  have e : putV [⟨⟨#[97]⟩, 0, 0, 0, ⟨#[]⟩, 0, 0, 0, false⟩, ⟨⟨#[99]⟩, 0, 0, 0, ⟨#[]⟩, 0, 0, 0, false⟩] ⟨⟨#[98]⟩, 0, 0, 0, ⟨#[]⟩, 0, 0, 0, false⟩ = [⟨⟨#[97]⟩, 0, 0, 0, ⟨#[]⟩, 0, 0, 0, false⟩, ⟨⟨#[98]⟩, 0, 0, 0, ⟨#[]⟩, 0, 0, 0, false⟩, ⟨⟨#[99]⟩, 0, 0, 0, ⟨#[]⟩, 0, 0, 0, false⟩] := by kernel_rfl
  rw [e] at h
  unfold law08_up_s
  rw [bnd_of h, br_f (by rfl)]
  refine (bnd_of (a := ⟨⟨#[97]⟩, 0, 0, 0, ⟨#[]⟩, 0, 0, 0, false⟩) (by rfl)).trans ?_
  rw [br_t (eqS_self _)]
  refine (bnd_of (a := ⟨⟨#[98]⟩, 0, 0, 0, ⟨#[]⟩, 0, 0, 0, false⟩) (by rfl)).trans ?_
  rw [br_t (eqS_self _)]
  refine (bnd_of (a := ⟨⟨#[99]⟩, 0, 0, 0, ⟨#[]⟩, 0, 0, 0, false⟩) (by rfl)).trans ?_
  rw [br_t (eqS_self _)]
  exact bnd_of (a := true) (by rw [lmay_s (by simp) (by simp)]; rfl)
theorem mem_put {l : List Item} {x y : Item} (h : y ∈ putV l x) : y = x ∨ y ∈ l := by
  unfold putV at h
  rcases List.mem_append.1 h with h | h
  · exact .inr (List.mem_filter.1 h).1
  · rcases List.mem_cons.1 h with rfl | h
    · exact .inl rfl
    · exact .inr (List.mem_filter.1 h).1
theorem mem_drop {l : List Item} {id : ByteArray} {y : Item} (h : y ∈ dropV l id) : y ∈ l := (List.mem_filter.1 h).1
theorem mem_both {a b : List Item} {y : Item} (h : y ∈ bothV a b) : y ∈ a ∨ y ∈ b := mem_merge _ a b y h
theorem rec_eqb (b : Bool) : (@Bool.rec (fun _ => Bool) (!b) b b) = true := by cases b <;> rfl
theorem rec_neb (b : Bool) : (@Bool.rec (fun _ => Bool) b (!b) b) = false := by cases b <;> rfl
theorem sameI_0 : sameI item0' item0' = true := by kernel_rfl
theorem get_same {l : List Item} (h : ∀ x ∈ l, realI x) (id : ByteArray) : sameI (getI id l).1 (getI id l).1 = true := by
  rw [getI_lk]
  split
  · rename_i x hx; exact sameI_real (h x (lk_some hx).1)
  · exact sameI_0
theorem prod3 {a b c : Int} (ha : a = 0 ∨ a = 1) (hb : b = 0 ∨ b = 1) (hc : c = 0 ∨ c = 1) : eqI (wr .i64 ((wr .i64 (a * b)) * c)) 0 = false → a = 1 ∧ b = 1 ∧ c = 1 := by
  rcases ha with rfl | rfl <;> rcases hb with rfl | rfl <;> rcases hc with rfl | rfl <;> intro h <;> first | exact ⟨rfl, rfl, rfl⟩ | exact absurd h (by decide)
theorem listTells_s {a b : List Item} {id : ByteArray} {z : Item} (ha : ItemsOk a) : law08_ListTells_s a b id z = some true := by
  unfold law08_ListTells_s
  rw [bnd_of up8]
  by_cases h1 : a.length ≤ 60
  · rw [br_f (by rw [ltI_f]; omega)]
    by_cases h2 : b.length ≤ 60
    · rw [br_f (by rw [ltI_f]; omega)]
      obtain ⟨r5, e5, h5⟩ := real_s (l := a) (by omega)
      obtain ⟨r7, e7, h7⟩ := real_s (l := b) (by omega)
      obtain ⟨r9, e9, h9⟩ := real_s (l := [z]) (by simp)
      rw [bnd_of e5, bnd_of e7, bnd_of e9]
      cases hp : eqI (wr .i64 ((wr .i64 (r5 * r7)) * r9)) 0 with
      | true => rfl
      | false =>
        obtain ⟨p1, p2, p3⟩ := prod3 (h5.imp (fun h => h) And.left) (h7.imp (fun h => h) And.left) (h9.imp (fun h => h) And.left) hp
        have ra : ∀ x ∈ a, realI x := (h5.resolve_left (by omega)).2
        have rb : ∀ x ∈ b, realI x := (h7.resolve_left (by omega)).2
        have rz : realI z := (h9.resolve_left (by omega)).2 z (by simp)
        rw [br_f rfl, bnd_of (items_s (by omega)), bnd_of (items_s (by omega)), bnd_of (show law00_Item_s z = some z from rfl), bnd_of (lmay_s (by omega) ha), bnd_of (mayList_s (by omega) ha), br_f (rec_neb _), bnd_of (rises_s (by omega))]
        cases hra : risesB a with
        | false => rfl
        | true =>
          rw [br_t rfl, bnd_of (rises_s (by omega))]
          cases hrb : risesB b with
          | false => rfl
          | true =>
            have ha' := ris_iff.1 hra
            have hb' := ris_iff.1 hrb
            have s1 : law00_Same_s (putV a z) (putV a z) = some 1 := same0_s (by have := len_put a z; omega) fun x hx => sameI_real (by rcases mem_put hx with rfl | h; exact rz; exact ra x h)
            have s2 : law00_Same_s (dropV a id) (dropV a id) = some 1 := same0_s (by have := List.length_filter_le (fun y : Item => !eqS y.id id) a; unfold dropV; omega) fun x hx => sameI_real (ra x (mem_drop hx))
            have s3 : law00_Same_s (bothV a b) (bothV a b) = some 1 := same0_s (by have := len_both a b; omega) fun x hx => sameI_real (by rcases mem_both hx with h | h; exact ra x h; exact rb x h)
            rw [br_f (by rfl), bnd_of (lget_s ha' (by omega)), bnd_of (get_s (by omega)), br_t (rec_eqb _), bnd_of (show ref01_Same_s (getI id a).1 (getI id a).1 = some (sameI (getI id a).1 (getI id a).1) from rfl), get_same ra,
              bnd_of (lput_s ha' (by omega)), bnd_of (rput_s (by omega)), bnd_of s1, bnd_of (ldrop_s ha' (by omega)), bnd_of (rdrop_s (by omega)), bnd_of s2, bnd_of (lboth_s (by omega)), bnd_of (rboth_s ha' hb' (by omega)), bnd_of s3]
            rfl
    · rw [br_t (by rw [ltI_t]; omega)]
  · rw [br_t (by rw [ltI_t]; omega)]
theorem law_listTells {X : Task → Prop} (hX : Closed X) {a b : List Item} {id : ByteArray} {z : Item} (ha : ItemsOk a) (hb : ItemsOk b) (hid : id.size ≤ 9223372036854775807) (hz : z.Ok) {Q : A → List Blk → Prop} (hQ : Q (bv true) []) : X (.call 8 [sl (a.map Item.lrow), sl (b.map Item.lrow), sv id, z.la] [] Q) := law08_ListTells_c hX (listTells_s ha) hQ
/-! what was put is got -/
theorem behind_iff (a b : Item) : behindB a b = true ↔ b.stamp < a.stamp ∨ (a.stamp = b.stamp ∧ (b.vr < a.vr ∨ (a.vr = b.vr ∧ b.vc < a.vc))) := by
  unfold behindB
  by_cases h1 : a.stamp = b.stamp
  · rw [if_pos (eqI_t.2 h1)]
    by_cases h2 : a.vr = b.vr
    · rw [if_pos (eqI_t.2 h2), ltI_t]; omega
    · rw [if_neg (by rw [eqI_t]; exact h2), ltI_t]; omega
  · rw [if_neg (by rw [eqI_t]; exact h1), ltI_t]; omega
theorem behind_self (a : Item) : behindB a a = false := by
  cases h : behindB a a with
  | false => rfl
  | true => rw [behind_iff] at h; omega
theorem behind_asym {a b : Item} (h : behindB a b = true) : behindB b a = false := by
  cases h' : behindB b a with
  | false => rfl
  | true => rw [behind_iff] at h h'; omega
def eqItem (a b : Item) : Bool := andB (eqS a.id b.id) (andB (eqI a.vr b.vr) (andB (eqI a.vc b.vc) (andB (eqI a.stamp b.stamp) (andB (eqS a.kind b.kind) (andB (eqI a.num b.num) (andB (eqFl .f64 a.re b.re && eqFl .f64 a.im b.im) (andB (@Bool.rec (fun _ => Bool) (!b.dead) b.dead a.dead) true)))))))
theorem eqItem_self {x : Item} (h : realI x) : eqItem x x = true := by
  unfold eqItem
  rw [eqS_refl, eqS_refl, h.1, h.2, rec_eqb, eqI_t.2 rfl, eqI_t.2 rfl, eqI_t.2 rfl, eqI_t.2 rfl]; rfl
theorem keeps_j {a b : List Item} {id : ByteArray} (ha : mayListB a = true) (hb : mayListB b = true) (hna : a.length ≤ 60) (hnb : b.length ≤ 60) : law08_ListKeeps_j1 id true b (bothV a b) (getI id a) = some true := by
  have ra := may_ris ha
  have rb := may_ris hb
  have hl := len_both a b
  unfold law08_ListKeeps_j1
  rw [bnd_of (lget_s (ris_both ra rb) (by omega)), bnd_of (lget_s rb (by omega))]
  have hk := lk_both ra rb id
  have q : ∀ x y : Item, ref01_Behind_s x y = some (behindB x y) := fun _ _ => rfl
  cases hx : lk a id with
  | none =>
    rw [hx] at hk
    rw [getI_f hx]
    cases hy : lk b id with
    | none => rw [hy] at hk; rw [getI_f hy, getI_f hk]; rfl
    | some y =>
      have ry := real_may (may_all hb y (lk_some hy).1)
      rw [hy] at hk; rw [getI_t hy, getI_t hk]
      rw [br_f (by rfl), br_f (by rfl), br_t (by rfl), bnd_of (q _ _), behind_self, br_f rfl, br_t rfl, br_f (by rfl)]
      exact congrArg some (eqItem_self ry)
  | some x =>
    have rx := real_may (may_all ha x (lk_some hx).1)
    rw [hx] at hk
    rw [getI_t hx]
    cases hy : lk b id with
    | none =>
      rw [hy] at hk; rw [getI_f hy, getI_t hk]
      rw [br_t (by rfl), br_f (by rfl), bnd_of (q _ _), behind_self, br_f rfl, br_f (by rfl), br_t rfl, br_f (by rfl)]
      exact br_t (eqItem_self rx)
    | some y =>
      have ry := real_may (may_all hb y (lk_some hy).1)
      rw [hy] at hk
      have hk : lk (bothV a b) id = if behindB y x = true then some y else some x := hk
      rw [getI_t hy]
      by_cases h : behindB y x = true
      · rw [if_pos h] at hk
        rw [getI_t hk, br_t (by rfl), br_f (by rfl), bnd_of (q _ _), behind_asym h, br_f rfl, br_t (by rfl), bnd_of (q _ _), behind_self, br_f rfl, br_t rfl, br_f (by rfl)]
        show br (eqItem y x) (some true) (some (eqItem y y)) = some true
        rw [eqItem_self ry, br_if]; split <;> rfl
      · rw [if_neg h] at hk
        rw [getI_t hk, br_t (by rfl), br_f (by rfl), bnd_of (q _ _), behind_self, br_f rfl, br_t (by rfl), bnd_of (q _ _)]
        simp only [Bool.not_eq_true] at h
        rw [h, br_f rfl, br_t rfl, br_f (by rfl)]
        exact br_t (eqItem_self rx)
theorem sub60 (l : List Item) : subL l 0 (minI (l.length : Int) 60) = l.take 60 := by
  unfold subL minI
  by_cases h : (60 : Int) < (l.length : Int)
  · rw [if_pos h]; rfl
  · rw [if_neg h, Int.toNat_natCast]
    show l.take l.length = _
    rw [List.take_length, List.take_of_length_le (by omega)]
theorem chk60 (l : List Item) : (leI 0 0 && (leI 0 (minI (l.length : Int) 60) && leI (minI (l.length : Int) 60) (l.length : Int))) = true := by
  rw [Bool.and_eq_true, Bool.and_eq_true, leI_t, leI_t, leI_t]
  unfold minI
  split <;> omega
theorem listKeeps_s {a b : List Item} {z : Item} {id : ByteArray} (ha : ItemsOk a) (hb : ItemsOk b) (hz : z.Ok) : law08_ListKeeps_s a b z id = some true := by
  unfold law08_ListKeeps_s
  rw [bnd_of up8, chk_t (chk60 a), sub60]
  have la : (a.take 60).length ≤ 60 := by rw [List.length_take]; omega
  have lb : (b.take 60).length ≤ 60 := by rw [List.length_take]; omega
  have oa : ∀ x ∈ a.take 60, x.Ok := fun x hx => ha x (List.mem_of_mem_take hx)
  have ob : ∀ x ∈ b.take 60, x.Ok := fun x hx => hb x (List.mem_of_mem_take hx)
  generalize a.take 60 = a at la oa
  rw [bnd_of (items_s (by omega)), chk_t (chk60 b), sub60]
  generalize b.take 60 = b at lb ob
  rw [bnd_of (items_s (by omega)), bnd_of (show law00_Item_s z = some z from rfl), bnd_of (lmay_s (by omega) oa)]
  cases ma : mayListB a with
  | false => rfl
  | true =>
    rw [br_f (by rfl), bnd_of (lmay_s (by omega) ob)]
    cases mb : mayListB b with
    | false => rfl
    | true =>
      have ez : ref01_May_s z = some (mayI z) := by unfold ref01_May_s; rw [chk_t (decide_eq_true hz)]
      rw [br_f (by rfl), bnd_of ez]
      cases mz : mayI z with
      | false => rfl
      | true =>
        have ra := may_ris ma
        have rb := may_ris mb
        have lp := len_put1 ra z
        have rp := ris_put ra z
        have ld : (dropV (putV a z) z.id).length ≤ (putV a z).length := List.length_filter_le _ _
        have lbo := len_both a b
        have mp : mayListB (putV a z) = true := may_of rp fun x hx => by
          rcases mem_put hx with rfl | h
          · exact mz
          · exact may_all ma x h
        have md : mayListB (dropV (putV a z) z.id) = true := may_of (ris_drop rp _) fun x hx => may_all mp x (mem_drop hx)
        have mo : mayListB (bothV a b) = true := may_of (ris_both ra rb) fun x hx => by
          rcases mem_both hx with h | h
          · exact may_all ma x h
          · exact may_all mb x h
        have op : ∀ x ∈ putV a z, x.Ok := fun x hx => by
          rcases mem_put hx with rfl | h
          · exact hz
          · exact oa x h
        have g1 : lk (putV a z) z.id = some z := by rw [lk_put, if_pos (eqS_self _)]
        have g2 : lk (dropV (putV a z) z.id) z.id = none := by rw [lk_drop, if_pos (eqS_self _)]
        rw [br_f (by rfl), bnd_of (lput_s ra (by omega)), bnd_of (ldrop_s rp (by omega)), bnd_of (lboth_s (by omega)), bnd_of (lmay_s (by omega) op), mp, br_f (by rfl), bnd_of (lmay_s (by omega) fun x hx => op x (mem_drop hx)), md, br_f (by rfl),
          bnd_of (lmay_s (by omega) fun x hx => by
            rcases mem_both hx with h | h
            · exact oa x h
            · exact ob x h), mo, br_f (by rfl), bnd_of (lget_s rp (by omega)), bnd_of (lget_s (ris_drop rp _) (by omega)), getI_t g1, getI_f g2, br_f (by rfl)]
        have ee : (!(eqItem z z)) = false := by rw [eqItem_self (real_may mz)]; rfl
        refine (br_f ee).trans ?_
        rw [br_f (by rfl), bnd_of (lget_s ra (by omega)), bnd_of (lget_s (ris_drop rp _) (by omega)), keeps_j ma mb la lb]
        cases hi : eqS id z.id with
        | true => rfl
        | false =>
          have hk : lk (dropV (putV a z) z.id) id = lk a id := by rw [lk_drop, if_neg (by rw [eqS_comm', hi]; simp), lk_put, if_neg (by rw [eqS_comm', hi]; simp)]
          have e : getI id (dropV (putV a z) z.id) = getI id a := by rw [getI_lk, getI_lk, hk]
          rw [br_t (by rfl), e, br_f (rec_neb _)]
          cases hx : lk a id with
          | none => rw [getI_f hx]; rfl
          | some x =>
            rw [getI_t hx, br_t (by rfl)]
            have ee : (!(eqItem x x)) = false := by rw [eqItem_self (real_may (may_all ma x (lk_some hx).1))]; rfl
            exact br_f ee
theorem law_listKeeps {X : Task → Prop} (hX : Closed X) {a b : List Item} {z : Item} {id : ByteArray} (ha : ItemsOk a) (hb : ItemsOk b) (hz : z.Ok) (hid : id.size ≤ 9223372036854775807) {Q : A → List Blk → Prop} (hQ : Q (bv true) []) : X (.call 9 [sl (a.map Item.lrow), sl (b.map Item.lrow), z.la, sv id] [] Q) := law08_ListKeeps_c hX (listKeeps_s ha hb hz) hQ
end
end Go.Proofs.Ytijkfjahgijphaa
