/- Filters made plain (layer 4): the document's answer, out of what its code computes. -/
import Derived.Test.YtijkfjahgijphaaG0
set_option linter.unusedVariables false
set_option linter.unusedSimpArgs false
set_option maxRecDepth 100000
namespace Go.Proofs.Ytijkfjahgijphaa
open Go E Pred
mutual
theorem ok_same : ∀ {p q : Pred}, sameP p q = true → p.Ok → q.Ok
  | .mk o t n x y ks, .mk o' t' n' x' y' ks', h, ok => by
    have h' := (sameP_iff _ _).1 h
    rw [Pred.Ok] at ok ⊢
    have h1 : o = o' := h'.1
    have h2 : bytesOf t = bytesOf t' := h'.2.1
    have h3 : n = n' := h'.2.2.1
    have h5 : sameL ks ks' = true := h'.2.2.2.2
    have e : t.size = t'.size := by rw [← bytes_len, ← bytes_len, h2]
    have hl : ks.length = ks'.length := Decidable.byContradiction fun hn => by rw [sameL_len hn] at h5; cases h5
    subst h1; subst h3
    rw [← e, ← hl]
    exact ⟨ok.1, ok.2.1, ok.2.2.1, ok.2.2.2.1, oks_same (l := ks) (m := ks') h5 ok.2.2.2.2⟩
theorem oks_same : ∀ {l m : List Pred}, sameL l m = true → Pred.Oks l → Pred.Oks m
  | [], [], _, h => h
  | a :: l, b :: m, h, ok => by
    rw [sameL_cons, Bool.and_eq_true] at h
    rw [Pred.Oks] at ok ⊢
    exact ⟨ok_same (p := a) (q := b) h.1 ok.1, oks_same (l := l) (m := m) h.2 ok.2⟩
  | [], b :: m, h, _ => by rw [sameL_no2] at h; cases h
  | a :: l, [], h, _ => by rw [sameL_no1] at h; cases h
end
theorem sameL_sizes {l m : List Pred} (h : sameL l m = true) : sizes l = sizes m := sameL_size _ (Nat.le_refl _) h
theorem endR_one (p k : Pred) (none : Int) : endR p none (some [k]) = k := rfl
theorem endR_many {p : Pred} {none : Int} : ∀ {out : List Pred}, 1 < out.length → endR p none (some out) = .mk p.op p.text p.n p.re p.im out
  | [], h => by simp at h
  | [_], h => by simp at h
  | _ :: _ :: _, _ => rfl
theorem keepR_end {none : Int} {pre out : List Pred} : keepR none pre [] out = some out := rfl

section
variable {α β : Type}
theorem br_if (c : Bool) (x y : Option α) : br c x y = if c = true then x else y := by cases c <;> rfl
theorem br_t {c : Bool} {x y : Option α} (h : c = true) : br c x y = x := by rw [h]; rfl
theorem br_f {c : Bool} {x y : Option α} (h : c = false) : br c x y = y := by rw [h]; rfl
theorem chk_t {c : Bool} {x : Option α} (h : c = true) : chk c x = x := by rw [h]; rfl
theorem bnd_of {x : Option α} {a : α} {f : α → Option β} (h : x = some a) : bnd x f = f a := by rw [h]; rfl
theorem roomL_of {a b : Nat} (h : a + b ≤ 1000000) : roomL a b = true := decide_eq_true h
theorem smallL_of {l : List α} (h : l.length ≤ 1000000000) : smallL l = true := decide_eq_true h
theorem atL_of {l : List α} {j : Nat} (h : j < l.length) : atL l (j : Int) = some l[j] := by
  unfold atL; rw [if_pos (by omega), Int.toNat_natCast, List.getElem?_eq_getElem h]
end
theorem flat_sz (o : Int) : ∀ (l : List Pred), sizes (flatP o l) ≤ sizes l
  | [] => by rw [flatP]; exact Nat.le_refl _
  | k :: l => by
    rw [flatP, sizes_app, sizes_cons]
    have := flat_sz o l
    have := size_eq k
    split
    · omega
    · rw [sizes_one]; omega
theorem flat_ok {o : Int} {q : Pred} : ∀ {l : List Pred}, Pred.Oks l → q ∈ flatP o l → q.Ok
  | [], _, h => by rw [flatP] at h; cases h
  | k :: l, hok, h => by
    rw [flatP, List.mem_append] at h
    have hk := Oks_mem hok (List.mem_cons_self ..)
    rcases h with h | h
    · split at h
      · exact Oks_mem hk.kids h
      · rw [List.mem_singleton.1 h]; exact hk
    · exact flat_ok (l := l) (Oks_of fun x hx => Oks_mem hok (List.mem_cons_of_mem _ hx)) h
theorem endR_mk (p : Pred) (v : Int) (x : Option (List Pred)) : endR (.mk p.op p.text p.n p.re p.im []) v x = endR p v x := by
  match x with
  | none => rfl
  | some [] => rfl
  | some [k] => rfl
  | some (a :: b :: l) => rfl
noncomputable section
open Classical
theorem rsame_s {p q : Pred} (h : p.Ok) : ref03_Same_s p q = some (sameP p q) := by
  unfold ref03_Same_s; rw [chk_t (decide_eq_true h)]
def tail7 (v6 : Int) (v13 : List Pred) (x : Pred) (k : List Pred → Option Pred) (seen : Bool) : Option Pred :=
  if eqI x.op (3 - v6) then some (bare (3 - v6) []) else k (if !seen && !eqI x.op v6 then v13 ++ [x] else v13)
theorem l7_is {v6 : Int} (hv : v6 = 1 ∨ v6 = 2) {F out : List Pred} {x : Pred} {i : Nat} {k : List Pred → Option Pred} (hi : i ≤ F.length) (hF : F.length ≤ 1000) (hok : ∀ p ∈ F, p.Ok) (ho : out.length ≤ 1000) :
    ∀ (d j fl : Nat) (seen : Bool), j + d = i → d + 1 ≤ fl → ref03_Plain_l7 v6 F out x (i : Int) k fl seen (j : Int) = tail7 v6 out x k (seen || ((F.drop j).take d).any fun y => sameP y x) := by
  intro d
  induction d with
  | zero =>
    intro j fl seen hj hf
    obtain ⟨fl, rfl⟩ : ∃ n, fl = n + 1 := ⟨fl - 1, by omega⟩
    rw [ref03_Plain_l7, br_f (by rw [ltI_f]; omega)]
    have hw : wr .i64 (3 - v6) = 3 - v6 := wr64 (by omega) (by omega)
    rw [hw, List.take_zero, List.any_nil, Bool.or_false]
    unfold tail7
    rw [br_if]
    split
    · rfl
    · cases seen with
      | true => simp [br]
      | false =>
        rw [br_t (by rfl), br_if]
        cases h2 : eqI x.op v6 with
        | true => simp
        | false => simp only [Bool.not_false, if_true, Bool.and_true]; rw [chk_t (roomL_of (by omega))]
  | succ d ih =>
    intro j fl seen hj hf
    obtain ⟨fl, rfl⟩ : ∃ n, fl = n + 1 := ⟨fl - 1, by omega⟩
    have hjF : j < F.length := by omega
    rw [ref03_Plain_l7, br_t (by rw [ltI_t]; omega), bnd_of (atL_of hjF), bnd_of (rsame_s (hok _ (List.getElem_mem hjF))), wrS (by omega)]
    rw [ih (j + 1) fl true (by omega) (by omega), ih (j + 1) fl _ (by omega) (by omega)]
    rw [List.drop_eq_getElem_cons hjF, List.take_succ_cons, List.any_cons]
    cases seen <;> simp [br]
theorem l6_is {v6 : Int} (hv : v6 = 1 ∨ v6 = 2) {p : Pred} {F : List Pred} (hF : F.length ≤ 1000) (hok : ∀ p ∈ F, p.Ok) :
    ∀ (xs pre out : List Pred), F = pre ++ xs → out.length ≤ pre.length → ref03_Plain_l6 p v6 F xs (pre.length : Int) out = some (endR p v6 (keepR v6 pre xs out)) := by
  intro xs
  induction xs with
  | nil =>
    intro pre out hl ho
    rw [ref03_Plain_l6, keepR]
    match out with
    | [] => rfl
    | [k] => rfl
    | a :: b :: l =>
      rw [br_f (by rw [eqI_f]; simp; omega), br_f (by rw [eqI_f]; simp; omega)]; rfl
  | cons x xs ih =>
    intro pre out hl ho
    have hlen : F.length = pre.length + (xs.length + 1) := by rw [hl]; simp
    rw [ref03_Plain_l6]
    have h7 := l7_is hv (F := F) (out := out) (x := x) (i := pre.length) (k := fun w0 => ref03_Plain_l6 p v6 F xs ((pre.length : Int) + 1) w0) (by omega) hF hok (by omega) pre.length 0 fuelN false (by omega) (by unfold fuelN; omega)
    rw [show ((0 : Nat) : Int) = 0 from rfl] at h7
    rw [h7, List.drop_zero, Bool.false_or]
    have htake : F.take pre.length = pre := by rw [hl]; simp
    rw [htake, keepR]
    unfold tail7
    split
    · rfl
    · have := ih (pre ++ [x]) (if (!(pre.any fun y => sameP y x) && !eqI x.op v6) = true then out ++ [x] else out) (by rw [hl]; simp) (by rw [List.length_append]; split <;> simp <;> omega)
      rw [List.length_append] at this
      exact this
theorem l5_is {v6 : Int} (hv : v6 = 1 ∨ v6 = 2) {p : Pred} : ∀ (xs acc : List Pred), (acc ++ flatP p.op xs).length ≤ 1000 → (∀ q ∈ acc ++ flatP p.op xs, q.Ok) → ref03_Plain_l5 p v6 xs acc = some (endR p v6 (keepR v6 [] (acc ++ flatP p.op xs) [])) := by
  intro xs
  induction xs with
  | nil =>
    intro acc hl hok
    rw [flatP, List.append_nil] at hl hok ⊢
    rw [ref03_Plain_l5, chk_t (smallL_of (by omega))]
    exact l6_is hv hl hok acc [] [] rfl (Nat.le_refl _)
  | cons x xs ih =>
    intro acc hl hok
    rw [flatP, ← List.append_assoc] at hl hok ⊢
    rw [ref03_Plain_l5, br_if]
    split at hl
    · rename_i h; rw [if_pos h] at hok ⊢
      rw [if_pos h, chk_t (roomL_of (by rw [List.length_append, List.length_append] at hl; omega))]
      exact ih _ hl hok
    · rename_i h; rw [if_neg h] at hok ⊢
      rw [if_neg h, chk_t (roomL_of (by rw [List.length_append, List.length_append] at hl; simp at hl; omega))]
      exact ih _ hl hok
theorem l1_is {p : Pred} {rc : Pred → Option Pred} (h10 : p.op = 10 → ∃ k, p.kids = [k]) : ∀ (xs acc : List Pred), (∀ k ∈ xs, rc k = some (rplainP k)) → acc ++ rplainL xs = rplainL p.kids → sizes (rplainL p.kids) ≤ 1000 → Pred.Oks (rplainL p.kids) →
    (p.op = 10 → ∀ k, rplainL p.kids = [k] → k.op = 10 → k.kids ≠ []) → (p.op ≠ 10 → p.op ≠ 9 → p.op ≠ 8 → True) → ref03_Plain_l1 p rc xs acc = some (rplainP p) := by
  intro xs
  induction xs with
  | nil =>
    intro acc hrc he hsz hok hten _
    rw [rplainL, List.append_nil] at he
    have hj3 : p.op = 8 ∨ p.op = 9 → ref03_Plain_j3 p acc = some (rplainP p) := fun h89 => by
      have hfs : sizes (flatP p.op (rplainL p.kids)) ≤ 1000 := Nat.le_trans (flat_sz _ _) hsz
      have hfo : ∀ q ∈ flatP p.op (rplainL p.kids), q.Ok := fun q hq => flat_ok hok hq
      have hln := len_sizes (flatP p.op (rplainL p.kids))
      have hla := len_sizes (rplainL p.kids)
      have hv : ∀ v6 : Int, (v6 = 1 ∨ v6 = 2) → ref03_Plain_j4 p acc v6 = some (endR p v6 (keepR v6 [] (flatP p.op (rplainL p.kids)) [])) := fun v6 hv6 => by
        unfold ref03_Plain_j4
        rw [he, chk_t (smallL_of (by omega))]
        exact l5_is hv6 _ [] (by rw [List.nil_append]; omega) (by rw [List.nil_append]; exact hfo)
      unfold ref03_Plain_j3
      rw [rplainP_eq, br_if]
      rcases h89 with h | h
      · rw [if_neg (by rw [h]; decide), hv 1 (.inl rfl), if_neg (by rw [h]; decide), if_neg (by rw [h]; decide), if_pos (by rw [h]; rfl), endR_mk, h]
      · rw [if_pos (by rw [h]; rfl), hv 2 (.inr rfl), if_neg (by rw [h]; decide), if_pos (by rw [h]; rfl), endR_mk, h]
    have hj2 : p.op ≠ 10 → ref03_Plain_j2 p acc = some (rplainP p) := fun h10 => by
      unfold ref03_Plain_j2
      rw [br_if]
      by_cases h8 : p.op = 8
      · rw [if_neg (by rw [h8]; decide)]; exact hj3 (.inl h8)
      · rw [if_pos (by rw [eqI_f.2 h8]; rfl), br_if]
        by_cases h9 : p.op = 9
        · rw [if_neg (by rw [h9]; decide)]; exact hj3 (.inr h9)
        · rw [if_pos (by rw [eqI_f.2 h9]; rfl), rplainP_eq, if_neg (by rw [eqI_f.2 h10]; simp), if_neg (by rw [eqI_f.2 h9]; simp), if_neg (by rw [eqI_f.2 h8]; simp)]
    rw [ref03_Plain_l1, br_if]
    split
    · rename_i h
      have h := eqI_t.1 h
      obtain ⟨k0, hk0⟩ := h10 h
      have e1 : rplainL p.kids = [rplainP k0] := by rw [hk0, rplainL, rplainL]
      have h10' := hten h _ e1
      rw [he, e1, rplainP_eq p, e1]
      generalize rplainP k0 = k at *
      rw [br_t (by rfl), bnd_of (show atL [k] 0 = some k from rfl), if_pos (by rw [h]; rfl), notR_one, br_if]
      by_cases o1 : eqI k.op 1 = true
      · rw [if_pos o1, if_pos (by rw [o1]; rfl), eqI_t.1 o1]; rfl
      · have o1' : eqI k.op 1 = false := by cases hh : eqI k.op 1 <;> simp_all
        rw [if_neg o1, br_if, o1', Bool.false_or]
        by_cases o2 : eqI k.op 2 = true
        · rw [if_pos o2, if_pos o2, eqI_t.1 o2]; rfl
        · rw [if_neg o2, if_neg o2, br_if]
          by_cases o3 : eqI k.op 10 = true
          · rw [if_pos o3, if_pos o3]
            match hk : k.kids, h10' (eqI_t.1 o3) with
            | [], hn => exact absurd rfl hn
            | m :: ms, _ => rfl
          · rw [if_neg o3, if_neg o3]; rfl
    · rename_i h; exact hj2 fun e => h (eqI_t.2 e)
  | cons x xs ih =>
    intro acc hrc he hsz hok hten ht
    have hl := len_sizes (rplainL p.kids)
    have hle := congrArg List.length he
    rw [rplainL, List.length_append, List.length_cons] at hle
    rw [ref03_Plain_l1, bnd_of (hrc x (List.mem_cons_self ..)), chk_t (roomL_of (by omega))]
    exact ih _ (fun k hk => hrc k (List.mem_cons_of_mem _ hk)) (by rw [rplainL] at he; rw [List.append_assoc]; exact he) hsz hok hten ht
theorem rplain_s : ∀ (n : Nat) {p : Pred}, p.size ≤ n → p.size ≤ 61 → fitsP p = true → ref03_Plain_s n p = some (rplainP p) := by
  intro n
  induction n with
  | zero => intro p h; have := size_pos p; omega
  | succ n ih =>
    intro p hn h61 hf
    have hs := size_eq p
    have hfk := fits_kids hf
    have lp := plainL_nice hfk
    have ls := plainL_same hfk
    have hsz : sizes (rplainL p.kids) ≤ 60 := by rw [← sameL_sizes ls]; omega
    have hok : Pred.Oks (rplainL p.kids) := oks_same ls (oks_of_fits lp.1 (by omega))
    have hln := len_sizes p.kids
    show ref03_Plain_b (ref03_Plain_s n) p = _
    unfold ref03_Plain_b
    rw [chk_t (smallL_of (by omega))]
    refine l1_is (fun h => fits_ten hf h) _ [] (fun k hk => ih (by have := size_mem hk; omega) (by have := size_mem hk; omega) (fitsL_mem hfk hk)) rfl (by omega) hok (fun h k hk ho => ?_) fun _ _ _ => trivial
    obtain ⟨k0, hk0⟩ := fits_ten hf h
    have f0 : fitsP k0 = true := fitsL_mem hfk (by rw [hk0]; exact List.mem_cons_self ..)
    rw [hk0, rplainL, rplainL] at hk
    have hk' : rplainP k0 = k := (List.cons.inj hk).1
    have hsm := plain_same f0
    rw [hk'] at hsm
    have f1 := (plain_nice f0).1
    have o1 : (plainP k0).op = 10 := (sameP_op hsm).trans ho
    obtain ⟨z, hz⟩ := fits_ten f1 o1
    have := sameP_kids hsm
    rw [hz] at this
    intro hnil
    rw [hnil, sameL_no1] at this; cases this
theorem rplain_ok {X : Task → Prop} (hX : Closed X) (N : Nat) {p : Pred} {Q : A → List Blk → Prop} (hN : p.size ≤ N) (h61 : p.size ≤ 61) (hf : fitsP p = true) (hQ : Q (rplainP p).a []) : X (.call 38 [p.a] [] Q) :=
  ref03_Plain_c hX N (rplain_s N hN h61 hf) hQ
end
end Go.Proofs.Ytijkfjahgijphaa
