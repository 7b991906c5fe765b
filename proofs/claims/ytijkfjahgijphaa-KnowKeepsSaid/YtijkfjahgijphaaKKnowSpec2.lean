/- What is known (layers 6, 7), the document's functions: made plain, alike, may be, with a version, joined. -/
import Derived.Test.YtijkfjahgijphaaKKnowSpec
set_option linter.unusedVariables false
set_option linter.unusedSimpArgs false
set_option maxRecDepth 100000
namespace Go.Proofs.Ytijkfjahgijphaa
open Go E Pred
noncomputable section
open Classical
def addF (id : ByteArray) (v : V8) : List Frag → List Frag
  | [] => [⟨[id], v⟩]
  | f :: fs => if eq8 f.vec v then ⟨f.ids ++ [id], f.vec⟩ :: fs else f :: addF id v fs
theorem at_app {α : Type} (l : List α) (x : α) (m : List α) : atL (l ++ x :: m) (l.length : Int) = some x := at_mid (l := l ++ x :: m) rfl rfl
theorem set_app {α : Type} (l : List α) (x y : α) (m : List α) : (l ++ x :: m).set l.length y = l ++ y :: m := by simp
theorem plain_j3 {id : ByteArray} {v : V8} {k : List Frag → Option Know} {pre xs : List Frag} (h1 : (pre ++ xs).length ≤ 999990) (h2 : ∀ f ∈ pre ++ xs, f.ids.length ≤ 999990) (hx : ∀ f fs, xs = f :: fs → eq8 f.vec v = true) :
    ref06_Plain_j3 (pre ++ xs) id v k (pre.length : Int) = k (pre ++ addF id v xs) := by
  unfold ref06_Plain_j3
  match xs, h1, h2, hx with
  | [], h1, h2, _ =>
    rw [List.append_nil] at h1 ⊢
    rw [br_t (by rw [eqI_t]), chk_t (roomL_of (by omega)), bnd_of (at_app pre _ []), chk_t (roomL_of (by simp))]
    rw [Int.toNat_natCast, set_app]; rfl
  | f :: fs, h1, h2, hx =>
    have hf := h2 f (by simp)
    rw [br_f (by rw [eqI_f]; simp; omega), bnd_of (at_app pre f fs), chk_t (roomL_of (by omega)), Int.toNat_natCast, set_app, addF, if_pos (hx f fs rfl)]
theorem plain_l4 {id : ByteArray} {v : V8} {k : List Frag → Option Know} : ∀ (xs pre : List Frag), (pre ++ xs).length ≤ 999990 → (∀ f ∈ pre ++ xs, f.ids.length ≤ 999990) → ref06_Plain_l4 (pre ++ xs) id v k xs (pre.length : Int) = k (pre ++ addF id v xs)
  | [], pre, h1, h2 => by rw [ref06_Plain_l4]; exact plain_j3 h1 h2 (fun _ _ e => by cases e)
  | f :: xs, pre, h1, h2 => by
    rw [ref06_Plain_l4]
    cases he : eq8 f.vec v with
    | true => rw [br_f (by rfl)]; exact plain_j3 h1 h2 (fun g gs e => by injection e with e1 e2; rw [← e1]; exact he)
    | false =>
      rw [br_t (by rfl), addF, if_neg (by rw [he]; simp)]
      have ih := plain_l4 (id := id) (v := v) (k := k) xs (pre ++ [f]) (by simpa using h1) (by simpa using h2)
      rw [List.append_assoc, List.append_assoc, List.length_append] at ih
      exact ih
def stepP (k : Know) (out : List Frag) (id : ByteArray) : List Frag := if eq8 (beyondV k id) zero8 then out else addF id (beyondV k id) out
theorem addF_len (id : ByteArray) (v : V8) : ∀ l : List Frag, (addF id v l).length ≤ l.length + 1
  | [] => by simp [addF]
  | f :: l => by rw [addF]; have := addF_len id v l; split <;> simp <;> omega
theorem addF_ids {id : ByteArray} {v : V8} {n : Nat} : ∀ {l : List Frag}, (∀ f ∈ l, f.ids.length ≤ n) → ∀ f ∈ addF id v l, f.ids.length ≤ n + 1
  | [], _, f, hf => by rw [addF, List.mem_singleton] at hf; rw [hf]; simp
  | g :: l, h, f, hf => by
    rw [addF] at hf
    have hg := h g (List.mem_cons_self ..)
    split at hf
    · rcases List.mem_cons.1 hf with rfl | hf
      · simp; exact hg
      · have := h f (List.mem_cons_of_mem _ hf); omega
    · rcases List.mem_cons.1 hf with rfl | hf
      · omega
      · exact addF_ids (l := l) (fun x hx => h x (List.mem_cons_of_mem _ hx)) f hf
theorem stepP_len {k : Know} {out : List Frag} {id : ByteArray} {n : Nat} (h1 : out.length ≤ n) (h2 : ∀ f ∈ out, f.ids.length ≤ n) : (stepP k out id).length ≤ n + 1 ∧ ∀ f ∈ stepP k out id, f.ids.length ≤ n + 1 := by
  unfold stepP
  split
  · exact ⟨by omega, fun f hf => by have := h2 f hf; omega⟩
  · exact ⟨by have := addF_len id (beyondV k id) out; omega, addF_ids h2⟩
theorem stepP_t {k : Know} {out : List Frag} {id : ByteArray} (h : eq8 (beyondV k id) zero8 = true) : stepP k out id = out := by unfold stepP; rw [if_pos h]
theorem stepP_f {k : Know} {out : List Frag} {id : ByteArray} (h : eq8 (beyondV k id) zero8 = false) : stepP k out id = addF id (beyondV k id) out := by unfold stepP; rw [if_neg (by rw [h]; simp)]
theorem plain_l2 {k : Know} (hk : KB k 990) : ∀ (names : List ByteArray) (out : List Frag) (n : Nat), out.length ≤ n → (∀ f ∈ out, f.ids.length ≤ n) → n + names.length ≤ 999980 → ref06_Plain_l2 k names out = some ⟨k.star, names.foldl (stepP k) out⟩
  | [], out, n, h1, h2, hn => by rw [ref06_Plain_l2]; rfl
  | id :: names, out, n, h1, h2, hn => by
    rw [List.length_cons] at hn
    obtain ⟨s1, s2⟩ := stepP_len (k := k) (id := id) h1 h2
    have ih := plain_l2 hk names (stepP k out id) (n + 1) s1 s2 (by omega)
    rw [ref06_Plain_l2, bnd_of (beyond_s (by decide) hk), List.foldl_cons, ← ih]
    cases he : eq8 (beyondV k id) zero8 with
    | true => rw [br_t (c := eq8 (beyondV k id) ⟨0, 0, 0, 0, 0, 0, 0, 0⟩) he, stepP_t he]
    | false =>
      rw [br_f (c := eq8 (beyondV k id) ⟨0, 0, 0, 0, 0, 0, 0, 0⟩) he, stepP_f he, chk_t (smallL_of (by omega))]
      have := plain_l4 (id := id) (v := beyondV k id) (k := fun w0 => ref06_Plain_l2 k names w0) out [] (by simp; omega) (fun f hf => by have := h2 f (by simpa using hf); omega)
      simpa using this
theorem plain_l1 {k : Know} (hk : KB k 990) : ∀ (names : List ByteArray), names.length ≤ 999970 → ref06_Plain_l1 k names = some ⟨k.star, names.foldl (stepP k) []⟩
  | [], h => by rw [ref06_Plain_l1]; rfl
  | id :: names, h => by
    rw [List.length_cons] at h
    rw [ref06_Plain_l1, bnd_of (beyond_s (by decide) hk), List.foldl_cons]
    cases he : eq8 (beyondV k id) zero8 with
    | true => rw [br_t (c := eq8 (beyondV k id) ⟨0, 0, 0, 0, 0, 0, 0, 0⟩) he, stepP_t he]; exact plain_l1 hk names (by omega)
    | false => rw [br_f (c := eq8 (beyondV k id) ⟨0, 0, 0, 0, 0, 0, 0, 0⟩) he, stepP_f he, chk_t (by rfl)]; exact plain_l2 hk names [⟨[id], beyondV k id⟩] 1 (by simp) (fun f hf => by rw [List.mem_singleton.1 hf]; simp) (by omega)
def plainK (k : Know) : Know := ⟨k.star, (namesK k).foldl (stepP k) []⟩
theorem names_len {k : Know} (h : KB k 990) : (namesK k).length ≤ 980100 := by
  have h1 := namesG_len k.l [] h.ids
  have h2 := Nat.mul_le_mul_right 990 h.l
  unfold namesK; simp at h1; omega
theorem plain_s6 {k : Know} (h : KB k 990) : ref06_Plain_s k = some (plainK k) := by
  have := names_len h
  unfold ref06_Plain_s
  rw [bnd_of (names_s h), chk_t (smallL_of (by omega)), plain_l1 h _ (by omega)]; rfl
def eqL : List ByteArray → List ByteArray → Bool
  | [], [] => true
  | x :: xs, y :: ys => eqS x y && eqL xs ys
  | _, _ => false
def alikeF (f g : Frag) : Bool := eq8 f.vec g.vec && eqL f.ids g.ids
def alikeL : List Frag → List Frag → Bool
  | [], [] => true
  | x :: xs, y :: ys => alikeF x y && alikeL xs ys
  | _, _ => false
def alikeK (a b : Know) : Bool := eq8 a.star b.star && alikeL a.l b.l
theorem eqL_len : ∀ {a b : List ByteArray}, a.length ≠ b.length → eqL a b = false
  | [], [], h => absurd rfl h
  | x :: xs, y :: ys, h => by rw [eqL, eqL_len (a := xs) (b := ys) (by simpa using h), Bool.and_false]
  | [], _ :: _, _ => rfl
  | _ :: _, [], _ => rfl
theorem alikeL_len : ∀ {a b : List Frag}, a.length ≠ b.length → alikeL a b = false
  | [], [], h => absurd rfl h
  | x :: xs, y :: ys, h => by rw [alikeL, alikeL_len (a := xs) (b := ys) (by simpa using h), Bool.and_false]
  | [], _ :: _, _ => rfl
  | _ :: _, [], _ => rfl
theorem alike_l2 {k : Option Bool} : ∀ (xs pre ys : List ByteArray) (g : Frag), g.ids = pre ++ ys → xs.length = ys.length → ref06_Alike_l2 g k xs (pre.length : Int) = if eqL xs ys then k else some false
  | [], pre, [], g, _, _ => by rw [ref06_Alike_l2]; rfl
  | x :: xs, pre, y :: ys, g, hg, hl => by
    have ih := alike_l2 (k := k) xs (pre ++ [y]) ys g (by simpa using hg) (by simpa using hl)
    rw [List.length_append] at ih
    rw [ref06_Alike_l2, bnd_of (by rw [hg]; exact at_app pre y ys), eqL]
    cases eqS x y with
    | false => rfl
    | true => rw [br_f (by rfl), Bool.true_and]; exact ih
  | [], _, _ :: _, _, _, h => by simp at h
  | _ :: _, _, [], _, _, h => by simp at h
theorem alike_l1 : ∀ (fs pre gs : List Frag) (b : Know), b.l = pre ++ gs → fs.length = gs.length → (∀ f ∈ fs, f.ids.length ≤ 1000000000) → ref06_Alike_l1 b fs (pre.length : Int) = some (alikeL fs gs)
  | [], pre, [], b, _, _, _ => by rw [ref06_Alike_l1]; rfl
  | f :: fs, pre, g :: gs, b, hb, hl, hi => by
    have ih := alike_l1 fs (pre ++ [g]) gs b (by simpa using hb) (by simpa using hl) fun x hx => hi x (List.mem_cons_of_mem _ hx)
    rw [List.length_append] at ih
    rw [ref06_Alike_l1, bnd_of (by rw [hb]; exact at_app pre g gs), alikeL]
    unfold alikeF
    cases eq8 f.vec g.vec with
    | false => rfl
    | true =>
      rw [br_f (by rfl), Bool.true_and]
      by_cases hn : f.ids.length = g.ids.length
      · rw [br_f (by rw [hn, eqI_t.2 rfl]; rfl), chk_t (smallL_of (hi f (List.mem_cons_self ..)))]
        have h2 := alike_l2 (k := ref06_Alike_l1 b fs ((pre.length : Int) + 1)) f.ids [] g.ids g rfl hn
        rw [show (([] : List ByteArray).length : Int) = 0 from rfl] at h2
        rw [h2]
        cases eqL f.ids g.ids with
        | true => rw [if_pos rfl, Bool.true_and]; exact ih
        | false => rfl
      · rw [br_t (by rw [eqI_f.2 (by omega)]; rfl), eqL_len hn]; rfl
  | [], _, _ :: _, _, _, h, _ => by simp at h
  | _ :: _, _, [], _, _, h, _ => by simp at h
theorem alike_s {a b : Know} {N : Nat} (hN : N ≤ 1000000000) (h : KB a N) : ref06_Alike_s a b = some (alikeK a b) := by
  unfold ref06_Alike_s alikeK
  cases eq8 a.star b.star with
  | false => rfl
  | true =>
    rw [br_f (by rfl), Bool.true_and]
    by_cases hl : a.l.length = b.l.length
    · rw [br_f (by rw [hl, eqI_t.2 rfl]; rfl), chk_t (smallL_of (Nat.le_trans h.l hN))]
      exact alike_l1 a.l [] b.l b rfl hl fun f hf => Nat.le_trans (h.ids f hf) hN
    · rw [br_t (by rw [eqI_f.2 (by omega)]; rfl), alikeL_len hl]
def IdsOk (k : Know) : Prop := ∀ f ∈ k.l, ∀ x ∈ f.ids, x.size ≤ 9223372036854775807
def mayF (f : Frag) : Bool := mayV f.vec && f.ids.all fun x => lettersB x 1
def mayK (k : Know) : Bool := alikeK k (plainK k) && (mayV k.star && k.l.all mayF)
theorem may_l2 {k : Option Bool} : ∀ (xs : List ByteArray), (∀ x ∈ xs, x.size ≤ 9223372036854775807) → ref06_May_l2 k xs = if (xs.all fun x => lettersB x 1) then k else some false
  | [], _ => by rw [ref06_May_l2]; rfl
  | x :: xs, h => by
    have e : ref01_Name_s x = some (lettersB x 1) := by unfold ref01_Name_s; rw [chk_t (decide_eq_true (h x (List.mem_cons_self ..)))]
    rw [ref06_May_l2, bnd_of e, may_l2 xs fun y hy => h y (List.mem_cons_of_mem _ hy), List.all_cons]
    cases lettersB x 1 <;> rfl
theorem may_l1 : ∀ (l : List Frag), (∀ f ∈ l, f.ids.length ≤ 1000000000) → (∀ f ∈ l, ∀ x ∈ f.ids, x.size ≤ 9223372036854775807) → ref06_May_l1 l = some (l.all mayF)
  | [], _, _ => by rw [ref06_May_l1]; rfl
  | f :: l, h, h2 => by
    rw [ref06_May_l1, bnd_of (show ref06_MayVec_s f.vec = some (mayV f.vec) from rfl), List.all_cons]
    unfold mayF
    cases mayV f.vec with
    | false => rfl
    | true =>
      rw [br_f (by rfl), chk_t (smallL_of (h f (List.mem_cons_self ..))), may_l2 _ (h2 f (List.mem_cons_self ..)), may_l1 l (fun g hg => h g (List.mem_cons_of_mem _ hg)) fun g hg => h2 g (List.mem_cons_of_mem _ hg)]
      unfold mayF
      cases (f.ids.all fun x => lettersB x 1) <;> rfl
theorem mayK_s {k : Know} (h : KB k 990) (hi : IdsOk k) : ref06_May_s k = some (mayK k) := by
  unfold ref06_May_s mayK
  rw [bnd_of (plain_s6 h), bnd_of (alike_s (by decide) h), bnd_of (show ref06_MayVec_s k.star = some (mayV k.star) from rfl)]
  cases alikeK k (plainK k) with
  | false => rfl
  | true =>
    cases mayV k.star with
    | false => rfl
    | true => rw [br_f (by rfl), br_f (by rfl), chk_t (smallL_of (by have := h.l; omega)), may_l1 _ (fun f hf => by have := h.ids f hf; omega) hi]; rfl
end
end Go.Proofs.Ytijkfjahgijphaa
