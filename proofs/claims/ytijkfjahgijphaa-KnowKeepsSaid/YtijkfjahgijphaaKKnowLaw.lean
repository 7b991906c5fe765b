/- The statements KnowTells, KnowJoins, KnowKeeps, out of what their code computes. -/
import Derived.Test.YtijkfjahgijphaaKKnowSem
import Derived.Test.YtijkfjahgijphaaKL7
import Derived.Test.YtijkfjahgijphaaKKnowArgs
set_option linter.unusedVariables false
set_option linter.unusedSimpArgs false
set_option maxRecDepth 100000
namespace Go.Proofs.Ytijkfjahgijphaa
open Go E Pred
noncomputable section
open Classical
theorem kalike_l2 {k : Option Bool} : ∀ (xs pre ys : List ByteArray) (g : Frag), g.ids = pre ++ ys → xs.length = ys.length → know_alike_l2 g k xs (pre.length : Int) = if eqL xs ys then k else some false
  | [], pre, [], g, _, _ => by rw [know_alike_l2]; rfl
  | x :: xs, pre, y :: ys, g, hg, hl => by
    have ih := kalike_l2 (k := k) xs (pre ++ [y]) ys g (by simpa using hg) (by simpa using hl)
    rw [List.length_append] at ih
    rw [know_alike_l2, bnd_of (by rw [hg]; exact at_app pre y ys), eqL]
    cases eqS x y with
    | false => rfl
    | true => rw [br_f (by rfl), Bool.true_and]; exact ih
  | [], _, _ :: _, _, _, h => by simp at h
  | _ :: _, _, [], _, _, h => by simp at h
theorem kalike_l1 : ∀ (fs pre gs : List Frag) (b : Know), b.l = pre ++ gs → fs.length = gs.length → (∀ f ∈ fs, f.ids.length ≤ 1000000000) → know_alike_l1 b fs (pre.length : Int) = some (alikeL fs gs)
  | [], pre, [], b, _, _, _ => by rw [know_alike_l1]; rfl
  | f :: fs, pre, g :: gs, b, hb, hl, hi => by
    have ih := kalike_l1 fs (pre ++ [g]) gs b (by simpa using hb) (by simpa using hl) fun x hx => hi x (List.mem_cons_of_mem _ hx)
    rw [List.length_append] at ih
    rw [know_alike_l1, bnd_of (by rw [hb]; exact at_app pre g gs), alikeL]
    unfold alikeF
    cases eq8 f.vec g.vec with
    | false => rfl
    | true =>
      rw [br_t (by rfl), Bool.true_and]
      by_cases hn : f.ids.length = g.ids.length
      · rw [br_f (by rw [hn, eqI_t.2 rfl]; rfl), chk_t (smallL_of (hi f (List.mem_cons_self ..)))]
        have h2 := kalike_l2 (k := know_alike_l1 b fs ((pre.length : Int) + 1)) f.ids [] g.ids g rfl hn
        rw [show (([] : List ByteArray).length : Int) = 0 from rfl] at h2
        rw [h2]
        cases eqL f.ids g.ids with
        | true => rw [if_pos rfl, Bool.true_and]; exact ih
        | false => rfl
      · rw [br_t (by rw [eqI_f.2 (by omega)]; rfl), eqL_len hn]; rfl
  | [], _, _ :: _, _, _, h, _ => by simp at h
  | _ :: _, _, [], _, _, h, _ => by simp at h
theorem kalike_s {a b : Know} {N : Nat} (hN : N ≤ 1000000000) (h : KB a N) : know_alike_s a b = some (alikeK a b) := by
  unfold know_alike_s alikeK
  cases eq8 a.star b.star with
  | false => rfl
  | true =>
    rw [br_t (by rfl), Bool.true_and]
    by_cases hl : a.l.length = b.l.length
    · rw [br_f (by rw [hl, eqI_t.2 rfl]; rfl), chk_t (smallL_of (Nat.le_trans h.l hN))]
      exact kalike_l1 a.l [] b.l b rfl hl fun f hf => Nat.le_trans (h.ids f hf) hN
    · rw [br_t (by rw [eqI_f.2 (by omega)]; rfl), alikeL_len hl]
theorem khas_l2 {id : ByteArray} {v : Ver} {f : Frag} {k : Option Bool} : ∀ (ids : List ByteArray) (i : Int), 0 ≤ i → know_Has_l2 id v f k ids i = if memB ids id = true then (if hasV f.vec v.r v.c = true then some true else k) else k
  | [], i, _ => by rw [know_Has_l2]; rfl
  | x :: ids, i, hi => by
    rw [know_Has_l2, khas_l2 ids (i + 1) (by omega), memB_cons, eqS_comm' id x]
    cases eqS x id with
    | false => rfl
    | true =>
      rw [br_t rfl, br_t (leI_t.2 hi), bnd_of (show vec_Has_s f.vec v = some (hasV f.vec v.r v.c) from rfl), br_if]; rfl
theorem khas_l1 {id : ByteArray} {v : Ver} : ∀ l : List Frag, (∀ f ∈ l, f.ids.length ≤ 1000000000) → know_Has_l1 id v l = some (l.any fun f => hasF f id v.r v.c)
  | [], _ => by rw [know_Has_l1]; rfl
  | f :: l, h => by
    rw [know_Has_l1, chk_t (smallL_of (h f (List.mem_cons_self ..))), khas_l2 _ _ (by decide), khas_l1 l fun g hg => h g (List.mem_cons_of_mem _ hg), List.any_cons]
    unfold hasF
    cases memB f.ids id <;> cases hasV f.vec v.r v.c <;> rfl
theorem khas_s {k : Know} {id : ByteArray} {v : Ver} {N : Nat} (hN : N ≤ 1000000000) (h : KB k N) : know_Has_s k id v = some (hasK k id v.r v.c) := by
  unfold know_Has_s hasK
  rw [bnd_of (show vec_Has_s k.star v = some (hasV k.star v.r v.c) from rfl), chk_t (smallL_of (Nat.le_trans h.l hN)), khas_l1 _ fun f hf => Nat.le_trans (h.ids f hf) hN]
  cases hasV k.star v.r v.c <;> rfl
theorem kmay_l2 {k : Option Bool} : ∀ (xs : List ByteArray) (i : Int), 0 ≤ i → (∀ x ∈ xs, x.size ≤ 9223372036854775807) → know_May_l2 k xs i = if (xs.all fun x => lettersB x 1) then k else some false
  | [], i, _, _ => by rw [know_May_l2]; rfl
  | x :: xs, i, hi, h => by
    have e : item_Name_s x = some (lettersB x 1) := by unfold item_Name_s; rw [chk_t (decide_eq_true (h x (List.mem_cons_self ..)))]
    rw [know_May_l2, bnd_of e, kmay_l2 xs (i + 1) (by omega) fun y hy => h y (List.mem_cons_of_mem _ hy), List.all_cons]
    cases lettersB x 1 with
    | true => rfl
    | false => rw [br_t (by rfl), br_t (leI_t.2 hi)]; rfl
theorem kmay_l1 : ∀ (l : List Frag), (∀ f ∈ l, f.ids.length ≤ 1000000000) → (∀ f ∈ l, ∀ x ∈ f.ids, x.size ≤ 9223372036854775807) → know_May_l1 l = some (l.all mayF)
  | [], _, _ => by rw [know_May_l1]; rfl
  | f :: l, h, h2 => by
    rw [know_May_l1, bnd_of (show vec_May_s f.vec = some (mayV f.vec) from rfl), List.all_cons]
    unfold mayF
    cases mayV f.vec with
    | false => rfl
    | true =>
      rw [br_f (by rfl), chk_t (smallL_of (h f (List.mem_cons_self ..))), kmay_l2 _ _ (by decide) (h2 f (List.mem_cons_self ..)), kmay_l1 l (fun g hg => h g (List.mem_cons_of_mem _ hg)) fun g hg => h2 g (List.mem_cons_of_mem _ hg)]
      unfold mayF
      cases (f.ids.all fun x => lettersB x 1) <;> rfl
theorem kmay_s {k : Know} (h : KT k 990000) (hi : IdsOk k) : know_May_s k = some (mayK k) := by
  unfold know_May_s mayK
  rw [bnd_of (show vec_May_s k.star = some (mayV k.star) from rfl)]
  cases mayV k.star with
  | false => rw [br_t (by rfl)]; simp
  | true =>
    rw [br_f (by rfl), bnd_of (kplain_s h hi), bnd_of (kalike_s (by decide) h.kb)]
    cases alikeK k (plainK k) with
    | false => rfl
    | true => rw [br_f (by rfl), chk_t (smallL_of (by have := h.l; omega)), kmay_l1 _ (fun f hf => by have := h.kb.ids f hf; omega) hi]; rfl
theorem ksame_s {a b : Know} (ha : KT a 990000) (hb : KT b 990000) (ia : IdsOk a) (ib : IdsOk b) : know_Same_s a b = some (alikeK (plainK a) (plainK b)) := by
  unfold know_Same_s
  rw [bnd_of (kplain_s ha ia), bnd_of (kplain_s hb ib), bnd_of (kalike_s (by decide) ha.plain.kb)]
theorem ids_plain {k : Know} (h : IdsOk k) : IdsOk (plainK k) := fun f hf x hx => by
  have hp := (pieces_plain k).of_ f hf x hx
  have : x ∈ namesK k := Classical.byContradiction fun hn => hp.2 (by rw [← hp.1, beyond_none hn])
  obtain ⟨g, hg, hz⟩ := namesK_mem.1 this
  exact h g hg x hz
theorem kt_join {a b : Know} {N M : Nat} (ha : KT a N) (hb : KT b M) : KT ⟨maxV a.star b.star, a.l ++ b.l⟩ (N + M) :=
  ⟨by show (a.l ++ b.l).length ≤ _; rw [List.length_append]; have := ha.l; have := hb.l; omega, by show idsN (a.l ++ b.l) ≤ _; rw [idsN_app]; have := ha.ids; have := hb.ids; omega⟩
theorem ids_join {a b : Know} (ha : IdsOk a) (hb : IdsOk b) : IdsOk ⟨maxV a.star b.star, a.l ++ b.l⟩ := fun f hf x hx => by
  rcases List.mem_append.1 hf with hf | hf
  · exact ha f hf x hx
  · exact hb f hf x hx
theorem kjoin_s {a b : Know} {N M : Nat} (ha : KT a N) (hb : KT b M) (hn : N + M ≤ 900000) (ia : IdsOk a) (ib : IdsOk b) : know_Join_s a b = some (joinK a b) := by
  have h1 := ha.l
  have h2 := hb.l
  unfold know_Join_s
  rw [bnd_of (show vec_Max_s a.star b.star = some (maxV a.star b.star) from rfl), chk_t (smallL_of (by simp))]
  rw [know_Join_l1, br_f (by rw [ltI_f, wr64 (by omega) (by omega)]; omega), wr64 (by omega) (by omega), know_Join_l1, br_f (by rw [ltI_f, wr64 (by omega) (by omega)]; omega), wr64 (by omega) (by omega), know_Join_l1]
  have hg : grow_s (0 + (a.l.length : Int) + (b.l.length : Int)) = some [] := by unfold grow_s; rw [chk_t (decide_eq_true (by omega))]
  rw [bnd_of hg, chk_t (smallL_of (by simp)), know_Join_l2, chk_t (roomL_of (by simp; omega)), know_Join_l2, chk_t (roomL_of (by simp; omega)), know_Join_l2, List.nil_append, bnd_of (kplain_s ((kt_join ha hb).mono (by omega)) (ids_join ia ib))]
  rfl
theorem kt_piece {k : Know} {N : Nat} (h : KT k N) (id : ByteArray) (r c : Int) : KT (pieceK k id r c) (N + 1) :=
  ⟨by show (k.l ++ [_]).length ≤ _; rw [List.length_append]; have := h.l; simp; omega, by show idsN (k.l ++ [_]) ≤ _; rw [idsN_app]; have := h.ids; simp [idsN]; simp [idsN] at this; omega⟩
theorem ids_piece {k : Know} {id : ByteArray} {r c : Int} (h : IdsOk k) (hid : id.size ≤ 9223372036854775807) : IdsOk (pieceK k id r c) := fun f hf x hx => by
  rcases List.mem_append.1 hf with hf | hf
  · exact h f hf x hx
  · rw [List.mem_singleton.1 hf] at hx
    rw [List.mem_singleton.1 hx]; exact hid
theorem kwith_s {k : Know} {id : ByteArray} {v : Ver} {N : Nat} (h : KT k N) (hn : N ≤ 900000) (hi : IdsOk k) (hid : id.size ≤ 9223372036854775807) : know_With_s k id v = some (withK k id v.r v.c) := by
  have hl := h.l
  unfold know_With_s
  rw [bnd_of (show vec_With_s ⟨0, 0, 0, 0, 0, 0, 0, 0⟩ v = some (withV zero8 v.r v.c) from rfl), bnd_of (show clone_s k.l = some k.l by unfold clone_s; rw [chk_t (decide_eq_true (by omega))]), chk_t (roomL_of (by omega))]
  rw [bnd_of (show know_Plain_s ⟨k.star, k.l ++ [⟨[id], withV zero8 v.r v.c⟩]⟩ = some (plainK (pieceK k id v.r v.c)) from kplain_s (k := pieceK k id v.r v.c) ((kt_piece h id v.r v.c).mono (by omega)) (ids_piece hi hid))]
  rfl
theorem own_in {k : Know} {id : ByteArray} {r c : Int} (h : 1 ≤ r ∧ r ≤ 8) : know_Own_s k id ⟨r, c⟩ = br (leI 1 c) (br (eqI (k.star.at r) (wr .i64 (c - 1))) (bnd (vec_With_s k.star ⟨r, c⟩) fun y => bnd (know_Plain_s ⟨y, k.l⟩) fun z => some z) (bnd (know_With_s k id ⟨r, c⟩) fun y => some y)) (bnd (know_With_s k id ⟨r, c⟩) fun y => some y) := by
  rcases r8 r with h' | rfl | rfl | rfl | rfl | rfl | rfl | rfl | rfl
  · omega
  all_goals rfl
theorem own_out {k : Know} {id : ByteArray} {r c : Int} (h : r < 1 ∨ 8 < r) : know_Own_s k id ⟨r, c⟩ = bnd (know_With_s k id ⟨r, c⟩) fun y => some y := by
  unfold know_Own_s
  dsimp only
  rw [br_f (eqI_f.2 (by omega)), br_f (eqI_f.2 (by omega)), br_f (eqI_f.2 (by omega)), br_f (eqI_f.2 (by omega)), br_f (eqI_f.2 (by omega)), br_f (eqI_f.2 (by omega)), br_f (eqI_f.2 (by omega)), br_f (eqI_f.2 (by omega))]
  by_cases h1 : 1 ≤ r
  · rw [br_t (leI_t.2 h1), br_f (by rw [leI_f]; omega)]; rfl
  · rw [br_f (by rw [leI_f]; omega)]; rfl
theorem rown_in {k : Know} {id : ByteArray} {r c : Int} (h : 1 ≤ r ∧ r ≤ 8) : ref06_Own_s k id ⟨r, c⟩ = br (ltI c 1) (bnd (ref06_With_s k id ⟨r, c⟩) fun y => some y) (br (!eqI (k.star.at r) (wr .i64 (c - 1))) (bnd (ref06_With_s k id ⟨r, c⟩) fun y => some y) (bnd (ref06_WithVec_s k.star ⟨r, c⟩) fun y => bnd (ref06_Plain_s ⟨y, k.l⟩) fun z => some z)) := by
  rcases r8 r with h' | rfl | rfl | rfl | rfl | rfl | rfl | rfl | rfl
  · omega
  all_goals rfl
theorem rown_out {k : Know} {id : ByteArray} {r c : Int} (h : r < 1 ∨ 8 < r) : ref06_Own_s k id ⟨r, c⟩ = bnd (ref06_With_s k id ⟨r, c⟩) fun y => some y := by
  unfold ref06_Own_s
  dsimp only
  rw [br_f (eqI_f.2 (by omega)), br_f (eqI_f.2 (by omega)), br_f (eqI_f.2 (by omega)), br_f (eqI_f.2 (by omega)), br_f (eqI_f.2 (by omega)), br_f (eqI_f.2 (by omega)), br_f (eqI_f.2 (by omega)), br_f (eqI_f.2 (by omega))]
  by_cases h1 : r < 1
  · rw [br_t (ltI_t.2 h1)]
  · rw [br_f (ltI_f.2 (by omega)), br_t (ltI_t.2 (by omega))]
theorem kown_s {k : Know} {id : ByteArray} {v : Ver} {N : Nat} (h : KT k N) (hn : N ≤ 900000) (hi : IdsOk k) (hid : id.size ≤ 9223372036854775807) : know_Own_s k id v = some (ownK k id v.r v.c) := by
  obtain ⟨r, c⟩ := v
  have hw := kwith_s (v := ⟨r, c⟩) h hn hi hid
  unfold ownK ownB
  by_cases hr : 1 ≤ r ∧ r ≤ 8
  · rw [own_in hr]
    by_cases hc : 1 ≤ c
    · rw [br_t (leI_t.2 hc)]
      by_cases he : k.star.at r = wr .i64 (c - 1)
      · rw [br_t (eqI_t.2 he), bnd_of (show vec_With_s k.star ⟨r, c⟩ = some (withV k.star r c) from rfl), bnd_of (kplain_s (k := ⟨withV k.star r c, k.l⟩) ⟨by have := h.l; show k.l.length ≤ _; omega, by have := h.ids; show idsN k.l ≤ _; omega⟩ hi), if_pos (decide_eq_true ⟨hr.1, hr.2, hc, he⟩)]
      · rw [br_f (eqI_f.2 he), bnd_of hw, if_neg (by rw [decide_eq_true_eq]; exact fun h => he h.2.2.2)]
    · rw [br_f (leI_f.2 (by omega)), bnd_of hw, if_neg (by rw [decide_eq_true_eq]; exact fun h => hc h.2.2.1)]
  · rw [own_out (by omega), bnd_of hw, if_neg (by rw [decide_eq_true_eq]; exact fun h => hr ⟨h.1, h.2.1⟩)]
theorem kb_piece {k : Know} {N : Nat} (h : KB k N) (hN : 1 ≤ N) (id : ByteArray) (r c : Int) : KB (pieceK k id r c) (N + 1) :=
  ⟨by show (k.l ++ [_]).length ≤ _; rw [List.length_append]; have := h.l; simp; omega, fun f hf => by
    rcases List.mem_append.1 hf with hf | hf
    · have := h.ids f hf; omega
    · rw [List.mem_singleton.1 hf]; simp⟩
theorem KB.mono' {k : Know} {n m : Nat} (h : KB k n) (hm : n ≤ m) : KB k m := ⟨Nat.le_trans h.l hm, fun f hf => Nat.le_trans (h.ids f hf) hm⟩
theorem rwith_s {k : Know} {id : ByteArray} {v : Ver} (h : KB k 60) : ref06_With_s k id v = some (withK k id v.r v.c) := by
  have hl := h.l
  unfold ref06_With_s
  rw [chk_t (roomL_of (by omega)), bnd_of (show ref06_WithVec_s ⟨0, 0, 0, 0, 0, 0, 0, 0⟩ v = some (withV zero8 v.r v.c) from rfl), chk_t (roomL_of (by omega))]
  rw [bnd_of (show ref06_Plain_s ⟨k.star, k.l ++ [⟨[id], withV zero8 v.r v.c⟩]⟩ = some (plainK (pieceK k id v.r v.c)) from plain_s6 (k := pieceK k id v.r v.c) ((kb_piece h (by decide) id v.r v.c).mono' (by decide)))]
  rfl
theorem rown_s {k : Know} {id : ByteArray} {v : Ver} (h : KB k 60) : ref06_Own_s k id v = some (ownK k id v.r v.c) := by
  obtain ⟨r, c⟩ := v
  have hw := rwith_s (id := id) (v := ⟨r, c⟩) h
  unfold ownK ownB
  by_cases hr : 1 ≤ r ∧ r ≤ 8
  · rw [rown_in hr]
    by_cases hc : 1 ≤ c
    · rw [br_f (ltI_f.2 hc)]
      by_cases he : k.star.at r = wr .i64 (c - 1)
      · rw [br_f (by rw [eqI_t.2 he]; rfl), bnd_of (show ref06_WithVec_s k.star ⟨r, c⟩ = some (withV k.star r c) from rfl), bnd_of (plain_s6 (k := ⟨withV k.star r c, k.l⟩) ⟨by have := h.l; show k.l.length ≤ _; omega, fun f hf => by have := h.ids f hf; omega⟩), if_pos (decide_eq_true ⟨hr.1, hr.2, hc, he⟩)]
      · rw [br_t (by rw [eqI_f.2 he]; rfl), bnd_of hw, if_neg (by rw [decide_eq_true_eq]; exact fun h => he h.2.2.2)]
    · rw [br_t (ltI_t.2 (by omega)), bnd_of hw, if_neg (by rw [decide_eq_true_eq]; exact fun h => hc h.2.2.1)]
  · rw [rown_out (by omega), bnd_of hw, if_neg (by rw [decide_eq_true_eq]; exact fun h => hr ⟨h.1, h.2.1⟩)]
theorem rjoin_s {a b : Know} (ha : KB a 60) (hb : KB b 60) : ref06_Join_s a b = some (joinK a b) := by
  have h1 := ha.l
  have h2 := hb.l
  unfold ref06_Join_s
  rw [bnd_of (show ref06_Max_s a.star b.star = some (maxV a.star b.star) from rfl), chk_t (roomL_of (by omega)), chk_t (roomL_of (by omega)),
    bnd_of (plain_s6 (k := ⟨maxV a.star b.star, a.l ++ b.l⟩) ⟨by show (a.l ++ b.l).length ≤ _; rw [List.length_append]; omega, fun f hf => by
      rcases List.mem_append.1 hf with hf | hf
      · have := ha.ids f hf; omega
      · have := hb.ids f hf; omega⟩)]
  rfl
theorem rsame6_s {a b : Know} (ha : KB a 60) (hb : KB b 60) : ref06_Same_s a b = some (alikeK (plainK a) (plainK b)) := by
  unfold ref06_Same_s
  rw [bnd_of (plain_s6 (ha.mono' (by decide))), bnd_of (plain_s6 (hb.mono' (by decide))), bnd_of (alike_s (N := 3660) (by decide) ((ha.kt).plain.kb))]
theorem known7_l : ∀ (l : List Frag), ∃ b, law00_Known_l1 l = some b ∧ (b = 0 ∨ (b = 1 ∧ ∀ f ∈ l, f.ids.length ≤ 60))
  | [] => ⟨1, by rw [law00_Known_l1], .inr ⟨rfl, fun f hf => by cases hf⟩⟩
  | f :: l => by
    obtain ⟨b, hb, h⟩ := known7_l l
    rw [law00_Known_l1, br_if]
    by_cases hf : ltI 60 (f.ids.length : Int) = true
    · exact ⟨0, by rw [if_pos hf], .inl rfl⟩
    · refine ⟨b, by rw [if_neg hf, hb], h.imp id fun ⟨h1, h2⟩ => ⟨h1, fun g hg => ?_⟩⟩
      rw [ltI_t] at hf
      rcases List.mem_cons.1 hg with rfl | hg
      · omega
      · exact h2 g hg
theorem known7 (k : Know) : ∃ b, law00_Known_s k = some b ∧ (b = 0 ∨ (b = 1 ∧ KB k 60)) := by
  unfold law00_Known_s
  rw [br_if]
  by_cases hf : ltI 30 (k.l.length : Int) = true
  · exact ⟨0, by rw [if_pos hf], .inl rfl⟩
  · rw [if_neg hf]
    rw [ltI_t] at hf
    obtain ⟨b, hb, h⟩ := known7_l k.l
    exact ⟨b, by rw [chk_t (smallL_of (by omega)), hb], h.imp id fun ⟨h1, h2⟩ => ⟨h1, ⟨by omega, h2⟩⟩⟩
theorem up7 : law07_up_s = some true := by
  have hk : KT ⟨⟨0, 0, 0, 0, 0, 0, 0, 0⟩, []⟩ 0 := ⟨Nat.le_refl _, Nat.le_refl _⟩
  have hi : IdsOk ⟨⟨0, 0, 0, 0, 0, 0, 0, 0⟩, []⟩ := fun f hf => by cases hf
  have hw := kwith_s (id := ⟨#[97]⟩) (v := ⟨2, 1⟩) hk (by decide) hi (by decide)
  have e : withK ⟨⟨0, 0, 0, 0, 0, 0, 0, 0⟩, []⟩ ⟨#[97]⟩ 2 1 = ⟨⟨0, 0, 0, 0, 0, 0, 0, 0⟩, [⟨[⟨#[97]⟩], ⟨0, 1, 0, 0, 0, 0, 0, 0⟩⟩]⟩ := by kernel_rfl
  have e2 : plainK ⟨⟨0, 0, 0, 0, 0, 0, 0, 0⟩, [⟨[⟨#[97]⟩], ⟨0, 1, 0, 0, 0, 0, 0, 0⟩⟩]⟩ = ⟨⟨0, 0, 0, 0, 0, 0, 0, 0⟩, [⟨[⟨#[97]⟩], ⟨0, 1, 0, 0, 0, 0, 0, 0⟩⟩]⟩ := by kernel_rfl
  have hk1 : KT ⟨⟨0, 0, 0, 0, 0, 0, 0, 0⟩, [⟨[⟨#[97]⟩], ⟨0, 1, 0, 0, 0, 0, 0, 0⟩⟩]⟩ 990000 := ⟨by decide, by decide⟩
  have hi1 : IdsOk ⟨⟨0, 0, 0, 0, 0, 0, 0, 0⟩, [⟨[⟨#[97]⟩], ⟨0, 1, 0, 0, 0, 0, 0, 0⟩⟩]⟩ := fun f hf x hx => by
    rw [List.mem_singleton.1 hf] at hx
    rw [List.mem_singleton.1 hx]; decide
  have em : mayK ⟨⟨0, 0, 0, 0, 0, 0, 0, 0⟩, [⟨[⟨#[97]⟩], ⟨0, 1, 0, 0, 0, 0, 0, 0⟩⟩]⟩ = true := by
    unfold mayK
    rw [e2, alike_self]
    kernel_rfl
  rw [show withK ⟨⟨0, 0, 0, 0, 0, 0, 0, 0⟩, []⟩ ⟨#[97]⟩ (⟨2, 1⟩ : Ver).r (⟨2, 1⟩ : Ver).c = _ from e] at hw
  unfold law07_up_s
  rw [bnd_of hw, br_f (by rfl), bnd_of (show atL [(⟨[⟨#[97]⟩], ⟨0, 1, 0, 0, 0, 0, 0, 0⟩⟩ : Frag)] 0 = some _ from rfl), br_f (by rfl), bnd_of (show atL [(⟨#[97]⟩ : ByteArray)] 0 = some _ from rfl), br_t (eqS_self _), br_t (eq8_self _), bnd_of (kmay_s hk1 hi1), em, br_t rfl, bnd_of (ksame_s hk1 hk1 hi1 hi1), alike_self]
theorem rec_eqb' (b : Bool) : (@Bool.rec (fun _ => Bool) (!b) b b) = true := by cases b <;> rfl
theorem knowTells_s {k : Know} {id : ByteArray} {v : Ver} (hi : IdsOk k) (hid : id.size ≤ 9223372036854775807) : law07_KnowTells_s k id v = some true := by
  obtain ⟨b, hb, h⟩ := known7 k
  unfold law07_KnowTells_s
  rw [bnd_of up7, bnd_of hb]
  rcases h with rfl | ⟨rfl, hk⟩
  · rfl
  · have kt : KT k 3660 := hk.kt
    have pb : KB (plainK k) 3660 := kt.plain.kb
    have wb : KB (withK k id v.r v.c) 3661 := ((kt_piece kt id v.r v.c).plain).kb
    have ob : KB (ownK k id v.r v.c) 3661 := by
      unfold ownK
      split
      · exact (KT.plain (k := ⟨withV k.star v.r v.c, k.l⟩) ⟨kt.l, kt.ids⟩).kb.mono' (by decide)
      · exact wb
    rw [br_f (by rfl), bnd_of (kplain_s (kt.mono (by decide)) hi), bnd_of (plain_s6 (hk.mono' (by decide))), bnd_of (alike_s (by decide) pb), alike_self, bnd_of (kwith_s kt (by decide) hi hid), bnd_of (rwith_s hk), bnd_of (alike_s (by decide) wb), alike_self,
      bnd_of (kown_s kt (by decide) hi hid), bnd_of (rown_s hk), bnd_of (alike_s (by decide) ob), alike_self, br_t rfl, br_t rfl, br_t rfl, br_t rfl, bnd_of (khas_s (by decide) hk), bnd_of (hasK_s (by decide) hk), br_t (rec_eqb' _), bnd_of (kmay_s (kt.mono (by decide)) hi), bnd_of (mayK_s (hk.mono' (by decide)) hi), rec_eqb']
theorem knowJoins_s {a b : Know} (ia : IdsOk a) (ib : IdsOk b) : law07_KnowJoins_s a b = some true := by
  obtain ⟨x, hx, h1⟩ := known7 a
  obtain ⟨y, hy, h2⟩ := known7 b
  unfold law07_KnowJoins_s
  rw [bnd_of up7, bnd_of hx, bnd_of hy]
  rcases h1 with rfl | ⟨rfl, ka⟩
  · rw [Int.zero_mul]; rfl
  · rcases h2 with rfl | ⟨rfl, kb⟩
    · rw [Int.mul_zero]; rfl
    · have jb : KB (joinK a b) 7320 := ((kt_join ka.kt kb.kt).plain).kb
      rw [br_f (by rfl), bnd_of (kjoin_s ka.kt kb.kt (by decide) ia ib), bnd_of (rjoin_s ka kb), bnd_of (alike_s (by decide) jb), alike_self, br_t rfl, br_t rfl, bnd_of (ksame_s (ka.kt.mono (by decide)) (kb.kt.mono (by decide)) ia ib), bnd_of (rsame6_s ka kb), rec_eqb']
theorem bnd_so {α β : Type} (a : α) (f : α → Option β) : bnd (some a) f = f a := rfl
theorem knowKeeps_s {a b : Know} {id other : ByteArray} {v w : Ver} (ia : IdsOk a) (ib : IdsOk b) (hid : id.size ≤ 9223372036854775807) (hv : v.Ok) : law07_KnowKeeps_s a b id v other w = some true := by
  obtain ⟨x, hx, h1⟩ := known7 a
  obtain ⟨y, hy, h2⟩ := known7 b
  unfold law07_KnowKeeps_s
  rw [bnd_of up7, bnd_of hx, bnd_of hy]
  rcases h1 with rfl | ⟨rfl, ka⟩
  · rw [Int.zero_mul]; rfl
  · rcases h2 with rfl | ⟨rfl, kb⟩
    · rw [Int.mul_zero]; rfl
    · have ta : KT a 3660 := ka.kt
      have tb : KT b 3660 := kb.kt
      have tp : KT (plainK a) 3660 := ta.plain
      have tj : KT (joinK a b) 7320 := (kt_join ta tb).plain
      have tw : KT (withK a id v.r v.c) 3661 := (kt_piece ta id v.r v.c).plain
      have to : KT (ownK a id v.r v.c) 3661 := by
        unfold ownK
        split
        · exact (KT.plain (k := ⟨withV a.star v.r v.c, a.l⟩) ⟨ta.l, ta.ids⟩).mono (by decide)
        · exact tw
      have ip : IdsOk (plainK a) := ids_plain ia
      have ij : IdsOk (joinK a b) := ids_plain (ids_join ia ib)
      have e1 : know_Plain_s a = some (plainK a) := kplain_s (ta.mono (by decide)) ia
      have e2 : know_Join_s a b = some (joinK a b) := kjoin_s ta tb (by decide) ia ib
      have e3 : know_Has_s a other w = some (hasK a other w.r w.c) := khas_s (by decide) ta.kb
      have e4 : know_Has_s (plainK a) other w = some (hasK a other w.r w.c) := by rw [khas_s (by decide) tp.kb, hasK_plain]
      have e5 : know_Plain_s (plainK a) = some (plainK a) := by rw [kplain_s (tp.mono (by decide)) ip, plain_plain]
      have e6 : ref06_Alike_s (plainK a) (plainK a) = some true := by rw [alike_s (by decide) tp.kb, alike_self]
      have e7 : know_Same_s a (plainK a) = some true := by rw [ksame_s (ta.mono (by decide)) (tp.mono (by decide)) ia ip, plain_plain, alike_self]
      have e8 : know_Has_s (joinK a b) other w = some (hasK a other w.r w.c || hasK b other w.r w.c) := by rw [khas_s (by decide) tj.kb, hasK_join]
      have e9 : know_Join_s b a = some (joinK a b) := by rw [kjoin_s tb ta (by decide) ib ia, join_comm]
      have e10 : know_Same_s (joinK a b) (joinK a b) = some true := by rw [ksame_s (tj.mono (by decide)) (tj.mono (by decide)) ij ij, alike_self]
      have e11 : know_Join_s (joinK a b) b = some (joinK a b) := by rw [kjoin_s tj tb (by decide) ij ib, join_again]
      have e12 : know_Has_s b other w = some (hasK b other w.r w.c) := khas_s (by decide) tb.kb
      have e13 : know_With_s a id v = some (withK a id v.r v.c) := kwith_s ta (by decide) ia hid
      have e14 : know_Own_s a id v = some (ownK a id v.r v.c) := kown_s ta (by decide) ia hid
      have e15 : know_Has_s (withK a id v.r v.c) other w = some (hasK (withK a id v.r v.c) other w.r w.c) := khas_s (by decide) tw.kb
      have e16 : know_Has_s (ownK a id v.r v.c) other w = some (hasK (ownK a id v.r v.c) other w.r w.c) := khas_s (by decide) to.kb
      have e17 : know_Has_s (withK a id v.r v.c) id v = some (hasK (withK a id v.r v.c) id v.r v.c) := khas_s (by decide) tw.kb
      have q1 : hasK a other w.r w.c = true → hasK (withK a id v.r v.c) other w.r w.c = true := fun h => by rw [hasK_with, h]; rfl
      have q2 : hasK (withK a id v.r v.c) other w.r w.c = true → hasK (ownK a id v.r v.c) other w.r w.c = true := fun h => hasK_own hv.2 h
      have q3 : leI 1 v.r = true → leI v.r 8 = true → leI 1 v.c = true → hasK (withK a id v.r v.c) id v.r v.c = true := fun h1 h2 h3 => by
        rw [leI_t] at h1 h2 h3
        rw [hasK_with, eqS_self, has_with, decide_eq_true (show 1 ≤ v.r ∧ v.r ≤ 8 ∧ 1 ≤ v.c from ⟨h1, h2, h3⟩)]
        simp
      have hp : eqI (wr .i64 (1 * 1)) 0 = false := by rfl
      rw [br_f hp]
      simp only [law07_KnowKeeps_j1, law07_KnowKeeps_j2, e1, e2, e3, e4, e5, e6, e7, e8, e9, e10, e11, e12, e13, e14, e15, e16, e17, bnd_so]
      generalize hasK a other w.r w.c = was at *
      generalize hasK b other w.r w.c = wb at *
      generalize hasK (withK a id v.r v.c) other w.r w.c = ww at *
      generalize hasK (ownK a id v.r v.c) other w.r w.c = wo at *
      generalize hasK (withK a id v.r v.c) id v.r v.c = wi at *
      generalize leI 1 v.r = l1 at *
      generalize leI v.r 8 = l2 at *
      generalize leI 1 v.c = l3 at *
      clear e1 e2 e3 e4 e5 e6 e7 e8 e9 e10 e11 e12 e13 e14 e15 e16 e17
      revert q1 q2 q3
      cases was <;> cases wb <;> cases ww <;> cases wo <;> cases wi <;> cases l1 <;> cases l2 <;> cases l3 <;> intro q1 q2 q3 <;> first | rfl | (cases q1 rfl; done) | (cases q2 rfl; done) | (cases q3 rfl rfl rfl; done)
theorem law_knowTells {X : Task → Prop} (hX : Closed X) {k : Know} {id : ByteArray} {v : Ver} (hi : IdsOk k) (hid : id.size ≤ 9223372036854775807) (hv : v.Ok) {Q : A → List Blk → Prop} (hQ : Q (bv true) []) : X (.call 11 [k.la, sv id, v.la] [] Q) := law07_KnowTells_c hX (knowTells_s hi hid) hQ
theorem law_knowJoins {X : Task → Prop} (hX : Closed X) {a b : Know} (ia : IdsOk a) (ib : IdsOk b) {Q : A → List Blk → Prop} (hQ : Q (bv true) []) : X (.call 10 [a.la, b.la] [] Q) := law07_KnowJoins_c hX (knowJoins_s ia ib) hQ
theorem law_knowKeeps {X : Task → Prop} (hX : Closed X) {a b : Know} {id other : ByteArray} {v w : Ver} (ia : IdsOk a) (ib : IdsOk b) (hid : id.size ≤ 9223372036854775807) (hv : v.Ok) (ho : other.size ≤ 9223372036854775807) (hw : w.Ok) {Q : A → List Blk → Prop} (hQ : Q (bv true) []) : X (.call 12 [a.la, b.la, sv id, v.la, sv other, w.la] [] Q) := law07_KnowKeeps_c hX (knowKeeps_s ia ib hid hv) hQ
end
end Go.Proofs.Ytijkfjahgijphaa
