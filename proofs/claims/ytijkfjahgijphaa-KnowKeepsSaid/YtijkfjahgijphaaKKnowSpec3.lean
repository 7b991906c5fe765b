/- What is known (layer 7), the program's functions: their answers, out of what their code computes. -/
import Derived.Test.YtijkfjahgijphaaKG3j
import Derived.Test.YtijkfjahgijphaaKKnowSpec2
import Derived.Test.YtijkfjahgijphaaKStrs
set_option linter.unusedVariables false
set_option linter.unusedSimpArgs false
set_option maxRecDepth 100000
namespace Go.Proofs.Ytijkfjahgijphaa
open Go E Pred
noncomputable section
open Classical
def alk {α : Type} (l : List (ByteArray × α)) (k : ByteArray) : Option α := (l.find? fun e => eqS e.1 k).map (·.2)
theorem keyEq_srw (a b : ByteArray) : keyEq (srw a) (srw b) = eqS a b := by simp [keyEq, pcEq]
theorem mget_srw {α : Type} (l : List (ByteArray × α)) (k : ByteArray) : mget srw l k = alk l k := by
  unfold mget alk; simp only [keyEq_srw]
theorem alk_cons {α : Type} (e : ByteArray × α) (l : List (ByteArray × α)) (k : ByteArray) : alk (e :: l) k = if eqS e.1 k = true then some e.2 else alk l k := by
  unfold alk; rw [List.find?_cons]; cases eqS e.1 k <;> simp
theorem alk_app {α : Type} (l m : List (ByteArray × α)) (k : ByteArray) : alk (l ++ m) k = (alk l k).or (alk m k) := by
  unfold alk; rw [List.find?_append]; cases List.find? (fun e => eqS e.1 k) l <;> rfl
theorem alk_some {α : Type} {l : List (ByteArray × α)} {k : ByteArray} : (alk l k).isSome = memB (l.map (·.1)) k := by
  unfold alk memB
  induction l with
  | nil => rfl
  | cons e l ih =>
    rw [List.find?_cons, List.map_cons, List.any_cons]
    cases h : eqS e.1 k with
    | true => rfl
    | false => rw [Bool.false_or]; exact ih
theorem mset_alk {α : Type} (l : List (ByteArray × α)) (k : ByteArray) (v : α) (id : ByteArray) : alk (mset srw l k v) id = if eqS k id = true then some v else alk l id := by
  unfold mset
  rw [mget_srw]
  cases h : alk l k with
  | none =>
    rw [if_neg (by simp), alk_app, alk_cons]
    by_cases hk : eqS k id = true
    · rw [if_pos hk, if_pos hk, ← eqS_t.1 hk, h]; rfl
    · rw [if_neg hk, if_neg hk]; cases alk l id <;> rfl
  | some w =>
    rw [if_pos (by rfl)]
    simp only [keyEq_srw]
    have key : ∀ l : List (ByteArray × α), (alk l k).isSome = true → alk (l.map fun e => if eqS e.1 k = true then (e.1, v) else e) id = if eqS k id = true then some v else alk l id := by
      intro l
      induction l with
      | nil => intro h; cases h
      | cons e l ih =>
        intro h
        rw [alk_cons] at h
        rw [List.map_cons, alk_cons, alk_cons]
        by_cases he : eqS e.1 k = true
        · rw [if_pos he]
          have e' := eqS_t.1 he
          by_cases hk : eqS k id = true
          · rw [if_pos (by show eqS e.1 id = true; rw [e']; exact hk), if_pos hk]
          · rw [if_neg (by show ¬ eqS e.1 id = true; rw [e']; exact hk), if_neg hk, if_neg (by rw [e']; exact hk)]
            have : ∀ l : List (ByteArray × α), alk (l.map fun e => if eqS e.1 k = true then (e.1, v) else e) id = alk l id := by
              intro l
              induction l with
              | nil => rfl
              | cons e l ih =>
                rw [List.map_cons, alk_cons, alk_cons, ih]
                by_cases he : eqS e.1 k = true
                · rw [if_pos he, if_neg (by show ¬ eqS e.1 id = true; rw [eqS_t.1 he]; exact hk), if_neg (by rw [eqS_t.1 he]; exact hk)]
                · rw [if_neg he]
            exact this l
        · rw [if_neg he] at h
          rw [if_neg he, ih h]
          by_cases hi : eqS e.1 id = true
          · rw [if_pos hi, if_pos hi, if_neg (by rw [← eqS_t.1 hi, eqS_comm']; exact he)]
          · rw [if_neg hi, if_neg hi]
    exact key l (by rw [h]; rfl)
theorem mset_keys {α : Type} (l : List (ByteArray × α)) (k : ByteArray) (v : α) : (mset srw l k v).map (·.1) = if memB (l.map (·.1)) k = true then l.map (·.1) else l.map (·.1) ++ [k] := by
  unfold mset
  rw [mget_srw, alk_some]
  split
  · rw [List.map_map]
    refine List.map_congr_left fun e _ => ?_
    simp only [Function.comp, keyEq_srw]
    split <;> rfl
  · rw [List.map_append]; rfl
theorem memB_iff {l : List ByteArray} {x : ByteArray} : memB l x = true ↔ x ∈ l := by
  unfold memB
  rw [List.any_eq_true]
  exact ⟨fun ⟨y, hy, e⟩ => by rw [← eqS_t.1 e]; exact hy, fun h => ⟨x, h, eqS_self _⟩⟩
theorem memB_cons (y : ByteArray) (l : List ByteArray) (x : ByteArray) : memB (y :: l) x = (eqS y x || memB l x) := List.any_cons
theorem mset_nodup {α : Type} {l : List (ByteArray × α)} {k : ByteArray} {v : α} (h : (l.map (·.1)).Nodup) : ((mset srw l k v).map (·.1)).Nodup := by
  rw [mset_keys]
  split
  · exact h
  · rename_i hk
    rw [memB_iff] at hk
    rw [List.nodup_append]
    exact ⟨h, by simp, fun a ha b hb => by rw [List.mem_singleton.1 hb]; rintro rfl; exact hk ha⟩
theorem maxI_idem (a v : Int) : maxI (maxI a v) v = maxI a v := by unfold maxI; by_cases h : v > a <;> simp [h]
theorem maxV_idem (a v : V8) : maxV (maxV a v) v = maxV a v := by unfold maxV; simp only [maxI_idem]
def addAll (v : V8) (M : List (ByteArray × V8)) (id : ByteArray) : List (ByteArray × V8) := mset srw M id (maxV ((alk M id).getD zero8) v)
theorem opt_n {α β : Type} {f : α → Option β} {n : Option β} : opt none f n = n := rfl
theorem opt_s {α β : Type} {x : α} {f : α → Option β} {n : Option β} : opt (some x) f n = f x := rfl
theorem plain2_l {f : Frag} {k : List (ByteArray × V8) → Option Know} : ∀ (ids : List ByteArray) (M : List (ByteArray × V8)), know_Plain_l2 f k ids M = k (ids.foldl (addAll f.vec) M)
  | [], M => by rw [know_Plain_l2]; rfl
  | x :: ids, M => by
    have ih := fun M => plain2_l (f := f) (k := k) ids M
    rw [know_Plain_l2, List.foldl_cons, ← ih]
    unfold addAll
    rw [mget_srw]
    cases alk M x with
    | none =>
      rw [opt_n]
      exact bnd_of (show vec_Max_s ⟨0, 0, 0, 0, 0, 0, 0, 0⟩ f.vec = some (maxV zero8 f.vec) from rfl)
    | some y =>
      rw [opt_s]
      exact bnd_of (show vec_Max_s y f.vec = some (maxV y f.vec) from rfl)
theorem addAll_alk {v : V8} : ∀ (ids : List ByteArray) (M : List (ByteArray × V8)) (id : ByteArray), alk (ids.foldl (addAll v) M) id = if memB ids id = true then some (maxV ((alk M id).getD zero8) v) else alk M id
  | [], M, id => by rfl
  | x :: ids, M, id => by
    rw [List.foldl_cons, addAll_alk ids, memB_cons]
    unfold addAll
    rw [mset_alk]
    by_cases hx : eqS x id = true
    · rw [if_pos hx, hx, Bool.true_or, if_pos rfl, ← eqS_t.1 hx]
      split
      · show some (maxV (maxV _ v) v) = _; rw [maxV_idem]
      · rfl
    · rw [if_neg hx]
      simp only [Bool.not_eq_true] at hx
      rw [hx, Bool.false_or]
theorem addAll_nodup {v : V8} : ∀ (ids : List ByteArray) (M : List (ByteArray × V8)), (M.map (·.1)).Nodup → ((ids.foldl (addAll v) M).map (·.1)).Nodup
  | [], M, h => h
  | x :: ids, M, h => addAll_nodup ids _ (mset_nodup h)
theorem addAll_len {v : V8} : ∀ (ids : List ByteArray) (M : List (ByteArray × V8)), (ids.foldl (addAll v) M).length ≤ M.length + ids.length
  | [], M => Nat.le_refl _
  | x :: ids, M => by
    have h1 := addAll_len (v := v) ids (addAll v M x)
    have h2 : (addAll v M x).length ≤ M.length + 1 := by
      unfold addAll mset
      split
      · simp
      · simp
    rw [List.foldl_cons, List.length_cons]; omega
def allM (l : List Frag) (M : List (ByteArray × V8)) : List (ByteArray × V8) := l.foldl (fun M f => f.ids.foldl (addAll f.vec) M) M
theorem allM_alk (id : ByteArray) : ∀ (l : List Frag) (M : List (ByteArray × V8)), alk (allM l M) id = if (alk M id).isSome || l.any (fun f => memB f.ids id) then some (sumV id l ((alk M id).getD zero8)) else none
  | [], M => by
    show alk M id = _
    cases h : alk M id <;> rfl
  | f :: l, M => by
    have ih := allM_alk id l (f.ids.foldl (addAll f.vec) M)
    rw [addAll_alk] at ih
    show alk (allM l (f.ids.foldl (addAll f.vec) M)) id = _
    rw [ih, List.any_cons]
    unfold sumV
    rw [List.foldl_cons]
    by_cases hf : memB f.ids id = true
    · rw [if_pos hf, if_pos hf, hf]; simp
    · rw [if_neg hf, if_neg hf]
      simp only [Bool.not_eq_true] at hf
      rw [hf, Bool.false_or]
theorem allM_nodup : ∀ (l : List Frag) (M : List (ByteArray × V8)), (M.map (·.1)).Nodup → ((allM l M).map (·.1)).Nodup
  | [], M, h => h
  | f :: l, M, h => allM_nodup l _ (addAll_nodup f.ids M h)
def idsN (l : List Frag) : Nat := (l.map fun f => f.ids.length).sum
theorem idsN_cons (f : Frag) (l : List Frag) : idsN (f :: l) = f.ids.length + idsN l := by simp [idsN]
theorem idsN_app (l m : List Frag) : idsN (l ++ m) = idsN l + idsN m := by simp [idsN]
theorem allM_len : ∀ (l : List Frag) (M : List (ByteArray × V8)), (allM l M).length ≤ M.length + idsN l
  | [], M => Nat.le_refl _
  | f :: l, M => by
    have h1 := allM_len l (f.ids.foldl (addAll f.vec) M)
    have h2 := addAll_len (v := f.vec) f.ids M
    rw [idsN_cons]
    show (allM l (f.ids.foldl (addAll f.vec) M)).length ≤ _
    omega
structure KT (k : Know) (N : Nat) : Prop where
  l : k.l.length ≤ N
  ids : idsN k.l ≤ N
theorem idsN_mem {l : List Frag} {f : Frag} (h : f ∈ l) : f.ids.length ≤ idsN l := by
  induction l with
  | nil => cases h
  | cons g l ih =>
    rw [idsN_cons]
    rcases List.mem_cons.1 h with rfl | h
    · omega
    · have := ih h; omega
theorem KT.kb {k : Know} {N : Nat} (h : KT k N) : KB k N := ⟨h.l, fun f hf => Nat.le_trans (idsN_mem hf) h.ids⟩
theorem KT.mono {k : Know} {n m : Nat} (h : KT k n) (hm : n ≤ m) : KT k m := ⟨Nat.le_trans h.l hm, Nat.le_trans h.ids hm⟩
theorem KB.kt {k : Know} {N : Nat} (h : KB k N) : KT k (N + N * N) := by
  have key : ∀ l : List Frag, (∀ f ∈ l, f.ids.length ≤ N) → idsN l ≤ l.length * N := by
    intro l
    induction l with
    | nil => intro _; simp [idsN]
    | cons f l ih =>
      intro h
      have h1 := h f (List.mem_cons_self ..)
      have h2 := ih fun g hg => h g (List.mem_cons_of_mem _ hg)
      rw [idsN_cons, List.length_cons, Nat.succ_mul]; omega
  have h1 := key k.l h.ids
  have h2 := Nat.mul_le_mul_right N h.l
  exact ⟨Nat.le_trans h.l (Nat.le_add_right _ _), by omega⟩
theorem plain1_l {k : Know} : ∀ (l : List Frag) (M : List (ByteArray × V8)), (∀ f ∈ l, f.ids.length ≤ 1000000000) → know_Plain_l1 k l M = bnd (sorted_s (allM l M)) fun y => chk (smallL y) (know_Plain_l3 k (allM l M) y)
  | [], M, _ => by rw [know_Plain_l1]; rfl
  | f :: l, M, h => by
    rw [know_Plain_l1, chk_t (smallL_of (h f (List.mem_cons_self ..))), plain2_l]
    exact plain1_l l _ fun g hg => h g (List.mem_cons_of_mem _ hg)
def Srt (l : List ByteArray) : Prop := l.Pairwise fun a b => ltS a b = true
theorem srt_cons {x : ByteArray} {l : List ByteArray} : Srt (x :: l) ↔ (∀ y ∈ l, ltS x y = true) ∧ Srt l := List.pairwise_cons
theorem srt_ext : ∀ {l m : List ByteArray}, Srt l → Srt m → (∀ x, x ∈ l ↔ x ∈ m) → l = m
  | [], [], _, _, _ => rfl
  | [], y :: m, _, _, h => absurd ((h y).2 (List.mem_cons_self ..)) (by simp)
  | x :: l, [], _, _, h => absurd ((h x).1 (List.mem_cons_self ..)) (by simp)
  | x :: l, y :: m, hl, hm, h => by
    rw [srt_cons] at hl hm
    have e : x = y := by
      rcases List.mem_cons.1 ((h x).1 (List.mem_cons_self ..)) with e | hx
      · exact e
      · rcases List.mem_cons.1 ((h y).2 (List.mem_cons_self ..)) with e | hy
        · exact e.symm
        · have := ltS_asym (hl.1 y hy); rw [hm.1 x hx] at this; cases this
    subst e
    rw [srt_ext hl.2 hm.2 fun z => ?_]
    constructor
    · intro hz
      rcases List.mem_cons.1 ((h z).1 (List.mem_cons_of_mem _ hz)) with rfl | hz'
      · have := hl.1 z hz; rw [ltS_self] at this; cases this
      · exact hz'
    · intro hz
      rcases List.mem_cons.1 ((h z).2 (List.mem_cons_of_mem _ hz)) with rfl | hz'
      · have := hm.1 z hz; rw [ltS_self] at this; cases this
      · exact hz'
theorem insG_t {x : ByteArray} : ∀ l : List ByteArray, insG x true l = l.filter fun y => !eqS y x
  | [] => rfl
  | y :: l => by
    rw [insG, Bool.true_or, insG_t l, List.filter_cons]
    cases eqS y x <;> simp
theorem ins_mem {x z : ByteArray} : ∀ l : List ByteArray, z ∈ insV l x ↔ z = x ∨ z ∈ l
  | [] => by unfold insV; rw [insG]; simp
  | y :: l => by
    have ih := ins_mem (x := x) (z := z) l
    unfold insV at ih ⊢
    rw [insG]
    cases hc : (ltS x y || eqS x y) with
    | true =>
      simp only [Bool.not_false, Bool.true_and, if_true, Bool.false_or]
      rw [insG_t, List.mem_append, List.mem_append, List.mem_singleton, List.mem_filter, List.mem_cons]
      constructor
      · rintro (h | h | h)
        · exact .inl h
        · split at h
          · cases h
          · exact .inr (.inl (List.mem_singleton.1 h))
        · exact .inr (.inr h.1)
      · rintro (h | h | h)
        · exact .inl h
        · subst h
          by_cases he : eqS z x = true
          · exact .inl (eqS_t.1 he)
          · exact .inr (.inl (by rw [if_neg he]; exact List.mem_singleton.2 rfl))
        · by_cases he : eqS z x = true
          · exact .inl (eqS_t.1 he)
          · exact .inr (.inr ⟨h, by simpa using he⟩)
    | false =>
      simp only [Bool.not_false, Bool.true_and, Bool.false_eq_true, if_false, Bool.false_or, List.nil_append]
      rw [List.mem_append, ih, List.mem_cons]
      have hne : eqS y x = false := by
        cases h : eqS y x with
        | false => rfl
        | true => rw [eqS_comm', h, Bool.or_true] at hc; cases hc
      rw [hne, if_neg (by simp), List.mem_singleton]
      constructor
      · rintro (h | h | h)
        · exact .inr (.inl h)
        · exact .inl h
        · exact .inr (.inr h)
      · rintro (h | h | h)
        · exact .inr (.inl h)
        · exact .inl h
        · exact .inr (.inr h)
theorem ins_srt {x : ByteArray} : ∀ {l : List ByteArray}, Srt l → Srt (insV l x)
  | [], _ => by unfold insV; rw [insG]; exact List.pairwise_singleton _ _
  | y :: l, h => by
    have h' := srt_cons.1 h
    have ih := ins_srt (x := x) h'.2
    have hm := fun z => ins_mem (x := x) (z := z) l
    unfold insV at ih hm ⊢
    rw [insG]
    cases hc : (ltS x y || eqS x y) with
    | true =>
      simp only [Bool.not_false, Bool.true_and, if_true, Bool.false_or]
      rw [insG_t]
      have hle : ltS y x = false := by
        rcases Bool.or_eq_true_iff.1 hc with h1 | h1
        · exact ltS_asym h1
        · rw [eqS_t.1 h1]; exact ltS_self _
      have key : Srt ((if eqS y x = true then [] else [y]) ++ l.filter fun y => !eqS y x) ∧ ∀ z ∈ ((if eqS y x = true then [] else [y]) ++ l.filter fun y => !eqS y x), ltS x z = true := by
        have hs : Srt (l.filter fun y => !eqS y x) := h'.2.filter _
        by_cases he : eqS y x = true
        · rw [if_pos he]
          refine ⟨hs, fun z hz => ?_⟩
          rw [List.nil_append] at hz
          rw [← eqS_t.1 he]; exact h'.1 z (List.mem_filter.1 hz).1
        · rw [if_neg he]
          have hxy : ltS x y = true := by
            rcases Bool.or_eq_true_iff.1 hc with h1 | h1
            · exact h1
            · exact absurd (by rw [eqS_comm']; exact h1) he
          refine ⟨srt_cons.2 ⟨fun z hz => h'.1 z (List.mem_filter.1 hz).1, hs⟩, fun z hz => ?_⟩
          rcases List.mem_cons.1 hz with rfl | hz
          · exact hxy
          · exact ltS_tr hxy (h'.1 z (List.mem_filter.1 hz).1)
      exact srt_cons.2 ⟨key.2, key.1⟩
    | false =>
      simp only [Bool.not_false, Bool.true_and, Bool.false_eq_true, if_false, Bool.false_or, List.nil_append]
      rw [Bool.or_eq_false_iff] at hc
      have hyx : ltS y x = true := by
        cases h1 : ltS y x with
        | true => rfl
        | false => rw [ltS_tri hc.1 h1, eqS_self] at hc; cases hc.2
      rw [ltS_ne hyx, if_neg (by simp)]
      refine srt_cons.2 ⟨fun z hz => ?_, ih⟩
      rcases (hm z).1 hz with rfl | hz
      · exact hyx
      · exact h'.1 z hz
theorem insF_mem {z : ByteArray} : ∀ (ids acc : List ByteArray), z ∈ ids.foldl insV acc ↔ z ∈ ids ∨ z ∈ acc
  | [], acc => by simp
  | x :: ids, acc => by
    rw [List.foldl_cons, insF_mem ids, ins_mem, List.mem_cons]
    constructor
    · rintro (h | h | h)
      · exact .inl (.inr h)
      · exact .inl (.inl h)
      · exact .inr h
    · rintro ((h | h) | h)
      · exact .inr (.inl h)
      · exact .inl h
      · exact .inr (.inr h)
theorem insF_srt : ∀ (ids : List ByteArray) {acc : List ByteArray}, Srt acc → Srt (ids.foldl insV acc)
  | [], _, h => h
  | x :: ids, _, h => insF_srt ids (ins_srt h)
theorem names_mem {z : ByteArray} : ∀ (l : List Frag) (acc : List ByteArray), z ∈ namesG acc l ↔ (∃ f ∈ l, z ∈ f.ids) ∨ z ∈ acc
  | [], acc => by simp [namesG]
  | f :: l, acc => by
    show z ∈ namesG (f.ids.foldl insV acc) l ↔ _
    rw [names_mem l, insF_mem]
    constructor
    · rintro (⟨g, hg, hz⟩ | h | h)
      · exact .inl ⟨g, List.mem_cons_of_mem _ hg, hz⟩
      · exact .inl ⟨f, List.mem_cons_self .., h⟩
      · exact .inr h
    · rintro (⟨g, hg, hz⟩ | h)
      · rcases List.mem_cons.1 hg with rfl | hg
        · exact .inr (.inl hz)
        · exact .inl ⟨g, hg, hz⟩
      · exact .inr (.inr h)
theorem names_srt : ∀ (l : List Frag) {acc : List ByteArray}, Srt acc → Srt (namesG acc l)
  | [], _, h => h
  | f :: l, _, h => names_srt l (insF_srt f.ids h)
theorem namesK_mem {k : Know} {z : ByteArray} : z ∈ namesK k ↔ ∃ f ∈ k.l, z ∈ f.ids := by
  unfold namesK; rw [names_mem]; simp
theorem namesK_srt (k : Know) : Srt (namesK k) := names_srt k.l .nil
theorem sortS_mem {z : ByteArray} {l : List ByteArray} : z ∈ sortS l ↔ z ∈ l := by
  unfold sortS
  rw [List.mem_map]
  constructor
  · rintro ⟨b, hb, rfl⟩
    rw [List.mem_mergeSort, List.mem_map] at hb
    obtain ⟨s, hs, rfl⟩ := hb
    exact hs
  · intro h
    exact ⟨z.data.toList, by rw [List.mem_mergeSort, List.mem_map]; exact ⟨z, h, rfl⟩, rfl⟩
theorem sortS_srt {l : List ByteArray} (h : l.Nodup) : Srt (sortS l) := by
  have tr : ∀ a b c : List UInt8, leB a b = true → leB b c = true → leB a c = true := fun a b c h1 h2 => by simp only [leB, decide_eq_true_eq] at *; exact List.le_trans h1 h2
  have to : ∀ a b : List UInt8, (leB a b || leB b a) = true := fun a b => by simp only [leB, Bool.or_eq_true, decide_eq_true_eq]; exact List.le_total a b
  have h1 : ((l.map fun s => s.data.toList).mergeSort leB).Pairwise fun a b => leB a b = true := List.pairwise_mergeSort tr to _
  have h2 : ((l.map fun s => s.data.toList).mergeSort leB).Nodup := by
    rw [(List.mergeSort_perm _ _).nodup_iff]
    exact List.Pairwise.map _ (fun a b hab he => hab (byt_ext he)) h
  unfold sortS Srt
  rw [List.pairwise_map]
  refine (h1.and h2).imp fun {a b} hab => ?_
  rw [ltS_lt, decide_eq_true_eq]
  have hle : a ≤ b := by have := hab.1; simpa [leB] using this
  show a < b
  rcases Classical.em (a < b) with h | h
  · exact h
  · exact absurd (List.le_antisymm hle (List.not_lt.1 h)) hab.2
theorem allM_names {k : Know} : sortS ((allM k.l []).map (·.1)) = namesK k := by
  refine srt_ext (sortS_srt (allM_nodup _ _ (by simp))) (namesK_srt k) fun z => ?_
  rw [sortS_mem, namesK_mem, ← memB_iff, ← alk_some, allM_alk]
  have : (alk ([] : List (ByteArray × V8)) z).isSome = false := rfl
  rw [this, Bool.false_or]
  constructor
  · intro h
    split at h
    · rename_i h1
      obtain ⟨f, hf, hz⟩ := List.any_eq_true.1 h1
      exact ⟨f, hf, memB_iff.1 hz⟩
    · cases h
  · rintro ⟨f, hf, hz⟩
    rw [if_pos (List.any_eq_true.2 ⟨f, hf, memB_iff.2 hz⟩)]; rfl
theorem allM_get {k : Know} {id : ByteArray} (h : id ∈ namesK k) : alk (allM k.l []) id = some (sumV id k.l zero8) := by
  obtain ⟨f, hf, hz⟩ := namesK_mem.1 h
  rw [allM_alk, if_pos (by rw [Bool.or_eq_true]; exact .inr (List.any_eq_true.2 ⟨f, hf, memB_iff.2 hz⟩))]; rfl
structure NonNeg (v : V8) : Prop where
  h0 : 0 ≤ v.x0
  h1 : 0 ≤ v.x1
  h2 : 0 ≤ v.x2
  h3 : 0 ≤ v.x3
  h4 : 0 ≤ v.x4
  h5 : 0 ≤ v.x5
  h6 : 0 ≤ v.x6
  h7 : 0 ≤ v.x7
theorem maxI_nn {a b : Int} (h : 0 ≤ a) : 0 ≤ maxI a b := by unfold maxI; split <;> omega
theorem NonNeg.max {a b : V8} (h : NonNeg a) : NonNeg (maxV a b) := ⟨maxI_nn h.h0, maxI_nn h.h1, maxI_nn h.h2, maxI_nn h.h3, maxI_nn h.h4, maxI_nn h.h5, maxI_nn h.h6, maxI_nn h.h7⟩
theorem nn_zero : NonNeg zero8 := ⟨by decide, by decide, by decide, by decide, by decide, by decide, by decide, by decide⟩
theorem nn_sum (id : ByteArray) : ∀ (l : List Frag) {v : V8}, NonNeg v → NonNeg (sumV id l v)
  | [], _, h => h
  | f :: l, v, h => by
    unfold sumV
    rw [List.foldl_cons]
    refine nn_sum id l ?_
    split
    · exact h.max
    · exact h
theorem cutN {α : Type} {a s : Int} {f : Int → Option α} (h : 0 ≤ a) : br (leI a s) (f 0) (br (leI a 0) (f 0) (f a)) = f (cutI a s) := by
  unfold cutI
  cases leI a s with
  | true => rfl
  | false =>
    cases h0 : leI a 0 with
    | false => rfl
    | true =>
      have : a = 0 := by rw [leI_t] at h0; omega
      rw [this]; rfl
theorem kbeyond_s {v s : V8} (h : NonNeg v) : know_beyond_s v s = some (cutV v s) := by
  unfold know_beyond_s
  rw [cutN (f := fun x => know_beyond_j1 v s x) h.h0]
  unfold know_beyond_j1
  rw [cutN (f := fun x => know_beyond_j2 v s _ x) h.h1]
  unfold know_beyond_j2
  rw [cutN (f := fun x => know_beyond_j3 v s _ _ x) h.h2]
  unfold know_beyond_j3
  rw [cutN (f := fun x => know_beyond_j4 v s _ _ _ x) h.h3]
  unfold know_beyond_j4
  rw [cutN (f := fun x => know_beyond_j5 v s _ _ _ _ x) h.h4]
  unfold know_beyond_j5
  rw [cutN (f := fun x => know_beyond_j6 v s _ _ _ _ _ x) h.h5]
  unfold know_beyond_j6
  rw [cutN (f := fun x => know_beyond_j7 v s _ _ _ _ _ _ x) h.h6]
  unfold know_beyond_j7
  rw [cutN (f := fun x => know_beyond_j8 _ _ _ _ _ _ _ x) h.h7]
  rfl
theorem eq8_t {a b : V8} : eq8 a b = true ↔ a = b := by
  rw [eq8_iff]
  constructor
  · rintro ⟨h0, h1, h2, h3, h4, h5, h6, h7⟩
    cases a; cases b
    simp only at h0 h1 h2 h3 h4 h5 h6 h7
    rw [h0, h1, h2, h3, h4, h5, h6, h7]
  · rintro rfl; exact ⟨rfl, rfl, rfl, rfl, rfl, rfl, rfl, rfl⟩
theorem eq8_self (a : V8) : eq8 a a = true := eq8_t.2 rfl
theorem keyEq_v8 (a b : V8) : keyEq (V8.row a) (V8.row b) = eq8 a b := by
  rw [Bool.eq_iff_iff, eq8_iff]
  simp [keyEq, pcEq]
def vlk (l : List (V8 × Int)) (v : V8) : Option Int := (l.find? fun e => eq8 e.1 v).map (·.2)
theorem mget_v8 (l : List (V8 × Int)) (v : V8) : mget V8.row l v = vlk l v := by
  unfold mget vlk; simp only [keyEq_v8]
def fat : List Frag → V8 → Nat → Option Int
  | [], _, _ => none
  | f :: l, v, n => if eq8 f.vec v = true then some (n : Int) else fat l v (n + 1)
theorem fat_app {g : Frag} {v : V8} : ∀ (l : List Frag) (n : Nat), fat (l ++ [g]) v n = (fat l v n).or (if eq8 g.vec v = true then some ((n + l.length : Nat) : Int) else none)
  | [], n => by rw [List.nil_append, fat, fat]; simp [fat]
  | f :: l, n => by
    rw [List.cons_append, fat, fat]
    split
    · rfl
    · rw [fat_app l, List.length_cons]
      have : n + 1 + l.length = n + (l.length + 1) := by omega
      rw [this]
theorem vlk_new {at_ : List (V8 × Int)} {v w : V8} {n : Int} (h : vlk at_ v = none) : vlk (mset V8.row at_ v n) w = (vlk at_ w).or (if eq8 v w = true then some n else none) := by
  unfold mset
  rw [mget_v8, h, if_neg (by simp)]
  unfold vlk
  rw [List.find?_append]
  cases List.find? (fun e => eq8 e.1 w) at_ with
  | none => rw [List.find?_cons]; cases eq8 v w <;> rfl
  | some e => rfl
theorem fat_add {id : ByteArray} {v : V8} : ∀ (l : List Frag) (n : Nat), (fat l v n = none ∧ addF id v l = l ++ [⟨[id], v⟩]) ∨ ∃ pre f post, l = pre ++ f :: post ∧ fat l v n = some ((n + pre.length : Nat) : Int) ∧ f.vec = v ∧ addF id v l = pre ++ ⟨f.ids ++ [id], f.vec⟩ :: post
  | [], n => .inl ⟨rfl, rfl⟩
  | f :: l, n => by
    by_cases hf : eq8 f.vec v = true
    · exact .inr ⟨[], f, l, rfl, by rw [fat, if_pos hf]; rfl, eq8_t.1 hf, by rw [addF, if_pos hf]; rfl⟩
    · rcases fat_add l (n + 1) with ⟨h1, h2⟩ | ⟨pre, g, post, h1, h2, h3, h4⟩
      · exact .inl ⟨by rw [fat, if_neg hf, h1], by rw [addF, if_neg hf, h2]; rfl⟩
      · refine .inr ⟨f :: pre, g, post, by rw [h1]; rfl, ?_, h3, by rw [addF, if_neg hf, h4]; rfl⟩
        rw [fat, if_neg hf, h2, List.length_cons]
        congr 2; omega
theorem fat_same {pre post : List Frag} {f g : Frag} (h : g.vec = f.vec) (w : V8) (n : Nat) : fat (pre ++ g :: post) w n = fat (pre ++ f :: post) w n := by
  induction pre generalizing n with
  | nil => rw [List.nil_append, List.nil_append, fat, fat, h]
  | cons x pre ih => rw [List.cons_append, List.cons_append, fat, fat, ih]
theorem plain_step {out : List Frag} {at_ : List (V8 × Int)} {id : ByteArray} {v : V8} {K : List Frag → List (V8 × Int) → Option Know} {N : Nat} (hat : ∀ w, vlk at_ w = fat out w 0) (h1 : out.length ≤ N) (h2 : idsN out ≤ N) (hN : N ≤ 999990) :
    ∃ at', (∀ w, vlk at' w = fat (addF id v out) w 0) ∧
    opt (mget V8.row at_ v) (fun x => bnd (atL out x) fun y => chk (roomL y.ids.length 1) (K (out.set x.toNat (Frag.mk (y.ids ++ [id]) y.vec)) at_))
      (chk (roomL out.length 1) (bnd (atL (out ++ [Frag.mk ([] : List ByteArray) v]) (out.length : Int)) fun x => chk (roomL x.ids.length 1) (K ((out ++ [Frag.mk ([] : List ByteArray) v]).set (out.length : Int).toNat (Frag.mk (x.ids ++ [id]) x.vec)) (mset V8.row at_ v (out.length : Int))))) = K (addF id v out) at' := by
  rw [mget_v8]
  rcases fat_add (id := id) (v := v) out 0 with ⟨h3, h4⟩ | ⟨pre, f, post, h3, h4, h5, h6⟩
  · refine ⟨mset V8.row at_ v (out.length : Int), fun w => ?_, ?_⟩
    · rw [vlk_new (by rw [hat]; exact h3), hat, h4, fat_app, Nat.zero_add]
    · rw [hat v, h3]
      show chk _ _ = _
      rw [chk_t (roomL_of (by omega)), bnd_of (at_app out _ []), chk_t (roomL_of (by simp)), Int.toNat_natCast, set_app, h4]; rfl
  · refine ⟨at_, fun w => ?_, ?_⟩
    · rw [hat, h6, h3]; exact (fat_same (f := f) (g := ⟨f.ids ++ [id], f.vec⟩) rfl w 0).symm
    · rw [hat v, h4, Nat.zero_add]
      have hf : f.ids.length ≤ idsN out := idsN_mem (by rw [h3]; simp)
      show bnd _ _ = _
      rw [bnd_of (show atL out (pre.length : Int) = some f by rw [h3]; exact at_app pre f post), chk_t (roomL_of (by omega)), Int.toNat_natCast, h6]
      rw [show out.set pre.length (Frag.mk (f.ids ++ [id]) f.vec) = pre ++ Frag.mk (f.ids ++ [id]) f.vec :: post by rw [h3]; exact set_app pre f _ post]
theorem addF_n (id : ByteArray) (v : V8) : ∀ l : List Frag, idsN (addF id v l) = idsN l + 1
  | [] => by simp [addF, idsN]
  | f :: l => by
    rw [addF, idsN_cons]
    split
    · rw [idsN_cons]; simp; omega
    · rw [idsN_cons, addF_n id v l]; omega
theorem plain4_l {k : Know} : ∀ (names : List ByteArray) (out : List Frag) (at_ : List (V8 × Int)) (N : Nat), (∀ id ∈ names, id ∈ namesK k) → (∀ w, vlk at_ w = fat out w 0) → out.length ≤ N → idsN out ≤ N → N + names.length ≤ 999980 →
    know_Plain_l4 k (allM k.l []) names out at_ = some ⟨k.star, names.foldl (stepP k) out⟩
  | [], out, at_, N, _, _, _, _, _ => by rw [know_Plain_l4]; rfl
  | id :: names, out, at_, N, hm, hat, h1, h2, hN => by
    rw [List.length_cons] at hN
    rw [know_Plain_l4, mget_srw, allM_get (hm id (List.mem_cons_self ..))]
    have hm' : ∀ z ∈ names, z ∈ namesK k := fun z hz => hm z (List.mem_cons_of_mem _ hz)
    show bnd (know_beyond_s (sumV id k.l zero8) k.star) _ = _
    rw [bnd_of (kbeyond_s (nn_sum id k.l nn_zero)), List.foldl_cons]
    cases he : eq8 (beyondV k id) zero8 with
    | true =>
      rw [stepP_t he]
      refine (br_t (c := eq8 (cutV (sumV id k.l zero8) k.star) ⟨0, 0, 0, 0, 0, 0, 0, 0⟩) he).trans ?_
      exact plain4_l names out at_ N hm' hat h1 h2 (by omega)
    | false =>
      rw [stepP_f he]
      refine (br_f (c := eq8 (cutV (sumV id k.l zero8) k.star) ⟨0, 0, 0, 0, 0, 0, 0, 0⟩) he).trans ?_
      obtain ⟨at', hat', e⟩ := plain_step (id := id) (v := beyondV k id) (K := fun a b => know_Plain_l4 k (allM k.l []) names a b) hat h1 h2 (by omega)
      refine Eq.trans e ?_
      have := addF_len id (beyondV k id) out
      exact plain4_l names _ at' (N + 1) hm' hat' (by omega) (by rw [addF_n]; omega) (by omega)
theorem plain3_l {k : Know} : ∀ (names : List ByteArray), (∀ id ∈ names, id ∈ namesK k) → names.length ≤ 999970 → know_Plain_l3 k (allM k.l []) names = some ⟨k.star, names.foldl (stepP k) []⟩
  | [], _, _ => by rw [know_Plain_l3]; rfl
  | id :: names, hm, hN => by
    rw [List.length_cons] at hN
    rw [know_Plain_l3, mget_srw, allM_get (hm id (List.mem_cons_self ..))]
    have hm' : ∀ z ∈ names, z ∈ namesK k := fun z hz => hm z (List.mem_cons_of_mem _ hz)
    show bnd (know_beyond_s (sumV id k.l zero8) k.star) _ = _
    rw [bnd_of (kbeyond_s (nn_sum id k.l nn_zero)), List.foldl_cons]
    cases he : eq8 (beyondV k id) zero8 with
    | true =>
      rw [stepP_t he]
      refine (br_t (c := eq8 (cutV (sumV id k.l zero8) k.star) ⟨0, 0, 0, 0, 0, 0, 0, 0⟩) he).trans ?_
      exact plain3_l names hm' (by omega)
    | false =>
      rw [stepP_f he]
      refine (br_f (c := eq8 (cutV (sumV id k.l zero8) k.star) ⟨0, 0, 0, 0, 0, 0, 0, 0⟩) he).trans ?_
      rw [mget_v8, show vlk ([] : List (V8 × Int)) (cutV (sumV id k.l zero8) k.star) = none from rfl, opt_n]
      rw [chk_t (by rfl)]
      refine plain4_l names [⟨[id], beyondV k id⟩] _ 1 hm' (fun w => ?_) (by simp) (by simp [idsN]) (by omega)
      rw [vlk_new (by rfl)]
      show (none : Option Int).or _ = _
      rw [fat]
      rfl
theorem namesK_len {k : Know} {N : Nat} (h : KT k N) : (namesK k).length ≤ N := by
  rw [← allM_names]
  unfold sortS
  rw [List.length_map, List.length_mergeSort, List.length_map, List.length_map]
  have := allM_len k.l []
  have := h.ids
  simp at *; omega
theorem kplain_s {k : Know} (h : KT k 990000) (hi : IdsOk k) : know_Plain_s k = some (plainK k) := by
  have hl := h.l
  have hids := h.ids
  unfold know_Plain_s
  have hlen := allM_len k.l []
  have hs : sorted_s (allM k.l []) = some (namesK k) := by
    unfold sorted_s
    rw [chk_t, allM_names]
    rw [Bool.and_eq_true, List.all_eq_true]
    refine ⟨decide_eq_true (by simp at hlen; omega), fun e he => decide_eq_true ?_⟩
    have : e.1 ∈ namesK k := by
      rw [← allM_names, sortS_mem]; exact List.mem_map.2 ⟨e, he, rfl⟩
    obtain ⟨f, hf, hz⟩ := namesK_mem.1 this
    exact hi f hf _ hz
  have hnl := namesK_len h
  rw [chk_t (smallL_of (by omega)), plain1_l _ _ fun f hf => Nat.le_trans (idsN_mem hf) (by omega), bnd_of hs, chk_t (smallL_of (by omega)), plain3_l _ (fun _ h => h) (by omega)]
  rfl
theorem stepP_n (k : Know) : ∀ (names : List ByteArray) (out : List Frag) (N : Nat), out.length ≤ N → idsN out ≤ N → (names.foldl (stepP k) out).length ≤ N + names.length ∧ idsN (names.foldl (stepP k) out) ≤ N + names.length
  | [], out, N, h1, h2 => ⟨h1, h2⟩
  | id :: names, out, N, h1, h2 => by
    rw [List.foldl_cons, List.length_cons]
    have key : (stepP k out id).length ≤ N + 1 ∧ idsN (stepP k out id) ≤ N + 1 := by
      unfold stepP
      split
      · omega
      · have := addF_len id (beyondV k id) out
        rw [addF_n]; omega
    have := stepP_n k names _ (N + 1) key.1 key.2
    omega
theorem KT.plain {k : Know} {N : Nat} (h : KT k N) : KT (plainK k) N := by
  have h1 := stepP_n k (namesK k) [] 0 (by simp) (by simp [idsN])
  have h2 := namesK_len h
  exact ⟨by show ((namesK k).foldl (stepP k) []).length ≤ N; omega, by show idsN ((namesK k).foldl (stepP k) []) ≤ N; omega⟩
end
end Go.Proofs.Ytijkfjahgijphaa
