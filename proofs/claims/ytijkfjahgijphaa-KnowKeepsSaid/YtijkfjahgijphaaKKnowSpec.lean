/- What is known (layers 6, 7), the document's functions: their answers, out of what their code computes. -/
import Derived.Test.YtijkfjahgijphaaKG1
import Derived.Test.YtijkfjahgijphaaKPlainRef2
set_option linter.unusedVariables false
set_option linter.unusedSimpArgs false
set_option maxRecDepth 100000
namespace Go.Proofs.Ytijkfjahgijphaa
open Go E Pred
noncomputable section
open Classical
def memB (l : List ByteArray) (x : ByteArray) : Bool := l.any fun y => eqS y x
theorem among_l (x : ByteArray) : ∀ l : List ByteArray, ref06_Among_l1 x l = some (memB l x)
  | [] => by rw [ref06_Among_l1]; rfl
  | y :: l => by
    rw [ref06_Among_l1, among_l x l]
    unfold memB
    rw [List.any_cons]
    cases eqS y x <;> rfl
theorem among_s {l : List ByteArray} {x : ByteArray} (h : l.length ≤ 1000000000) : ref06_Among_s l x = some (memB l x) := by
  unfold ref06_Among_s; rw [chk_t (smallL_of h), among_l]
def hasF (f : Frag) (id : ByteArray) (r c : Int) : Bool := memB f.ids id && hasV f.vec r c
def hasK (k : Know) (id : ByteArray) (r c : Int) : Bool := hasV k.star r c || k.l.any fun f => hasF f id r c
structure KB (k : Know) (N : Nat) : Prop where
  l : k.l.length ≤ N
  ids : ∀ f ∈ k.l, f.ids.length ≤ N
theorem hasK_l {id : ByteArray} {v : Ver} : ∀ l : List Frag, (∀ f ∈ l, f.ids.length ≤ 1000000000) → ref06_Has_l1 id v l = some (l.any fun f => hasF f id v.r v.c)
  | [], _ => by rw [ref06_Has_l1]; rfl
  | f :: l, h => by
    rw [ref06_Has_l1, bnd_of (among_s (h f (List.mem_cons_self ..))), bnd_of (show ref06_HasVec_s f.vec v = some (hasV f.vec v.r v.c) from rfl), hasK_l l fun g hg => h g (List.mem_cons_of_mem _ hg), List.any_cons]
    unfold hasF
    cases memB f.ids id <;> cases hasV f.vec v.r v.c <;> rfl
theorem hasK_s {k : Know} {id : ByteArray} {v : Ver} {N : Nat} (hN : N ≤ 1000000000) (h : KB k N) : ref06_Has_s k id v = some (hasK k id v.r v.c) := by
  unfold ref06_Has_s hasK
  rw [bnd_of (show ref06_HasVec_s k.star v = some (hasV k.star v.r v.c) from rfl), chk_t (smallL_of (Nat.le_trans h.l hN)), hasK_l _ fun f hf => Nat.le_trans (h.ids f hf) hN]
  cases hasV k.star v.r v.c <;> rfl
def insG (x : ByteArray) : Bool → List ByteArray → List ByteArray
  | v, [] => if v then [] else [x]
  | v, y :: ys => (if !v && (ltS x y || eqS x y) then [x] else []) ++ ((if eqS y x then [] else [y]) ++ insG x (v || (ltS x y || eqS x y)) ys)
def insV (l : List ByteArray) (x : ByteArray) : List ByteArray := insG x false l
theorem insG_len (x : ByteArray) : ∀ (l : List ByteArray) (v : Bool), (insG x v l).length ≤ l.length + (if v then 0 else 1)
  | [], v => by cases v <;> simp [insG]
  | y :: ys, v => by
    rw [insG, List.length_append, List.length_append, List.length_cons]
    generalize (ltS x y || eqS x y) = w
    have h1 := insG_len x ys true
    have h2 := insG_len x ys false
    have h3 : (if eqS y x = true then ([] : List ByteArray) else [y]).length ≤ 1 := by split <;> simp
    cases v <;> cases w <;> simp at h1 h2 ⊢ <;> omega
theorem insert_j {x y : ByteArray} {k : Bool → List ByteArray → Option (List ByteArray)} {v : Bool} {acc : List ByteArray} (h : acc.length ≤ 999999) : ref06_insert_j2 x y k v acc = k v (acc ++ (if eqS y x then [] else [y])) := by
  unfold ref06_insert_j2
  cases eqS y x with
  | true => rw [br_f (by rfl)]; simp
  | false => rw [br_t (by rfl), chk_t (roomL_of (by omega))]; rfl
theorem insert_l {x : ByteArray} : ∀ (l : List ByteArray) (v : Bool) (acc : List ByteArray), acc.length + l.length + (if v then 0 else 1) ≤ 999990 → ref06_insert_l1 x l v acc = some (acc ++ insG x v l)
  | [], v, acc, h => by
    rw [ref06_insert_l1, insG]
    cases v with
    | true => simp [br]
    | false => rw [br_t (by rfl), chk_t (roomL_of (by simp at h; omega))]; rfl
  | y :: l, v, acc, h => by
    rw [List.length_cons] at h
    have e2 : ∀ (v' : Bool) (a : List ByteArray), a.length + l.length + (if v' then 0 else 1) ≤ 999989 → ref06_insert_l1 x l v' (a ++ if eqS y x = true then [] else [y]) = some ((a ++ if eqS y x = true then [] else [y]) ++ insG x v' l) := fun v' a ha =>
      insert_l l v' _ (by
        have h3 : (if eqS y x = true then ([] : List ByteArray) else [y]).length ≤ 1 := by split <;> simp
        rw [List.length_append]; omega)
    rw [ref06_insert_l1, insG]
    cases v with
    | true =>
      simp only [if_true] at h
      rw [br_f (by rfl), insert_j (by omega), e2 true acc (by simp; omega)]
      simp
    | false =>
      simp only [Bool.false_eq_true, if_false] at h
      rw [br_t (by rfl)]
      cases hlt : (ltS x y || eqS x y) with
      | true =>
        rw [br_t (by rfl), chk_t (roomL_of (by omega)), insert_j (by rw [List.length_append]; simp; omega), e2 true (acc ++ [x]) (by rw [List.length_append]; simp; omega)]
        simp
      | false =>
        rw [br_f (by rfl), insert_j (by omega), e2 false acc (by simp; omega)]
        simp
theorem insert_s {l : List ByteArray} {x : ByteArray} (h : l.length ≤ 999980) : ref06_insert_s l x = some (insV l x) := by
  unfold ref06_insert_s; rw [chk_t (smallL_of (by omega)), insert_l l false [] (by simp; omega)]; rfl
def namesG (acc : List ByteArray) (l : List Frag) : List ByteArray := l.foldl (fun a f => f.ids.foldl insV a) acc
theorem ins_fold_len : ∀ (l acc : List ByteArray), (l.foldl insV acc).length ≤ acc.length + l.length
  | [], acc => Nat.le_refl _
  | x :: l, acc => by
    have h1 := ins_fold_len l (insV acc x)
    have h2 : (insV acc x).length ≤ acc.length + 1 := insG_len x acc false
    rw [List.foldl_cons, List.length_cons]; omega
theorem names_l2 {k : List ByteArray → Option (List ByteArray)} : ∀ (l acc : List ByteArray), acc.length + l.length ≤ 999980 → ref06_Names_l2 k l acc = k (l.foldl insV acc)
  | [], acc, _ => by rw [ref06_Names_l2]; rfl
  | x :: l, acc, h => by
    rw [List.length_cons] at h
    have h2 : (insV acc x).length ≤ acc.length + 1 := insG_len x acc false
    rw [ref06_Names_l2, bnd_of (insert_s (by omega)), names_l2 l _ (by omega)]; rfl
theorem names_l1 {N : Nat} : ∀ (l : List Frag) (acc : List ByteArray), (∀ f ∈ l, f.ids.length ≤ N) → acc.length + l.length * N ≤ 999980 → ref06_Names_l1 l acc = some (namesG acc l)
  | [], acc, _, _ => by rw [ref06_Names_l1]; rfl
  | f :: l, acc, h, hN => by
    have hf := h f (List.mem_cons_self ..)
    rw [List.length_cons, Nat.succ_mul] at hN
    have := ins_fold_len f.ids acc
    rw [ref06_Names_l1, chk_t (smallL_of (by omega)), names_l2 _ _ (by omega), names_l1 l _ (fun g hg => h g (List.mem_cons_of_mem _ hg)) (by omega)]; rfl
def namesK (k : Know) : List ByteArray := namesG [] k.l
theorem names_s {k : Know} (h : KB k 990) : ref06_Names_s k = some (namesK k) := by
  have := Nat.mul_le_mul_right 990 h.l
  unfold ref06_Names_s
  rw [chk_t (smallL_of (by have := h.l; omega)), names_l1 _ _ h.ids (by simp; omega)]; rfl
theorem namesG_len {N : Nat} : ∀ (l : List Frag) (acc : List ByteArray), (∀ f ∈ l, f.ids.length ≤ N) → (namesG acc l).length ≤ acc.length + l.length * N
  | [], acc, _ => by simp [namesG]
  | f :: l, acc, h => by
    have hf := h f (List.mem_cons_self ..)
    have h1 := ins_fold_len f.ids acc
    have h2 := namesG_len l (f.ids.foldl insV acc) fun g hg => h g (List.mem_cons_of_mem _ hg)
    rw [List.length_cons, Nat.succ_mul]
    show (namesG (f.ids.foldl insV acc) l).length ≤ _
    omega
def cutI (a s : Int) : Int := if leI a s then 0 else a
def cutV (v s : V8) : V8 := ⟨cutI v.x0 s.x0, cutI v.x1 s.x1, cutI v.x2 s.x2, cutI v.x3 s.x3, cutI v.x4 s.x4, cutI v.x5 s.x5, cutI v.x6 s.x6, cutI v.x7 s.x7⟩
def zero8 : V8 := ⟨0, 0, 0, 0, 0, 0, 0, 0⟩
def sumV (id : ByteArray) (l : List Frag) (acc : V8) : V8 := l.foldl (fun a f => if memB f.ids id then maxV a f.vec else a) acc
def beyondV (k : Know) (id : ByteArray) : V8 := cutV (sumV id k.l zero8) k.star
theorem cut_br {α : Type} {a s : Int} {f : Int → Option α} : br (leI a s) (f 0) (f a) = f (cutI a s) := by
  unfold cutI; cases leI a s <;> rfl
theorem beyond_l {k : Know} {id : ByteArray} : ∀ (l : List Frag) (a0 a1 a2 a3 a4 a5 a6 a7 : Int), (∀ f ∈ l, f.ids.length ≤ 1000000000) → ref06_beyond_l1 k id l a0 a1 a2 a3 a4 a5 a6 a7 = some (cutV (sumV id l ⟨a0, a1, a2, a3, a4, a5, a6, a7⟩) k.star)
  | [], a0, a1, a2, a3, a4, a5, a6, a7, _ => by
    rw [ref06_beyond_l1, cut_br (f := fun x => ref06_beyond_j2 k a1 a2 a3 a4 a5 a6 a7 x)]
    unfold ref06_beyond_j2
    rw [cut_br (f := fun x => ref06_beyond_j3 k a2 a3 a4 a5 a6 a7 _ x)]
    unfold ref06_beyond_j3
    rw [cut_br (f := fun x => ref06_beyond_j4 k a3 a4 a5 a6 a7 _ _ x)]
    unfold ref06_beyond_j4
    rw [cut_br (f := fun x => ref06_beyond_j5 k a4 a5 a6 a7 _ _ _ x)]
    unfold ref06_beyond_j5
    rw [cut_br (f := fun x => ref06_beyond_j6 k a5 a6 a7 _ _ _ _ x)]
    unfold ref06_beyond_j6
    rw [cut_br (f := fun x => ref06_beyond_j7 k a6 a7 _ _ _ _ _ x)]
    unfold ref06_beyond_j7
    rw [cut_br (f := fun x => ref06_beyond_j8 k a7 _ _ _ _ _ _ x)]
    unfold ref06_beyond_j8
    rw [cut_br (f := fun x => ref06_beyond_j9 _ _ _ _ _ _ _ x)]
    rfl
  | f :: l, a0, a1, a2, a3, a4, a5, a6, a7, h => by
    have ih := fun b0 b1 b2 b3 b4 b5 b6 b7 => beyond_l (k := k) (id := id) l b0 b1 b2 b3 b4 b5 b6 b7 fun g hg => h g (List.mem_cons_of_mem _ hg)
    rw [ref06_beyond_l1, bnd_of (among_s (h f (List.mem_cons_self ..)))]
    unfold sumV
    rw [List.foldl_cons]
    cases memB f.ids id with
    | true => rw [br_t (by rfl), bnd_of (show ref06_Max_s ⟨a0, a1, a2, a3, a4, a5, a6, a7⟩ f.vec = some (maxV ⟨a0, a1, a2, a3, a4, a5, a6, a7⟩ f.vec) from rfl), ih]; rfl
    | false => rw [br_f (by rfl), ih]; rfl
theorem beyond_s {k : Know} {id : ByteArray} {N : Nat} (hN : N ≤ 1000000000) (h : KB k N) : ref06_beyond_s k id = some (beyondV k id) := by
  unfold ref06_beyond_s
  rw [chk_t (smallL_of (Nat.le_trans h.l hN)), beyond_l _ _ _ _ _ _ _ _ _ fun f hf => Nat.le_trans (h.ids f hf) hN]; rfl
end
end Go.Proofs.Ytijkfjahgijphaa
