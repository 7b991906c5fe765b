/- Soundness of the operations that call no function. -/
import Derived.Test.YtaiedakbmmgmaaaEvRel
import Derived.Laws.Entries
import Derived.Laws.Slices
import Derived.Laws.Append
import Derived.WalkKit
set_option linter.unusedVariables false
set_option linter.unusedSimpArgs false
namespace Go.Proofs.Ytaiedakbmmgmaaa.E
open Go

/-! ### The table of types fits the program -/
/-- whether x and y, of z's kind, are the same -/
def eqV : Value → Value → Value → Option Bool
  | .int k _, .int k1 a, .int k2 b => if k = k1 ∧ k = k2 then some (a == b) else none
  | .string _, .string a, .string b => some (a.toList == b.toList)
  | .bool _, .bool a, .bool b => some (a == b)
  | .complex k _ _, .complex k1 a b, .complex k2 c d => if k = k1 ∧ k = k2 then some (Op.floatEq k a c && Op.floatEq k b d) else none
  | _, _, _ => none
def eqZ : List Value → List Value → List Value → Option Bool
  | [], [], [] => some true
  | z :: zs, x :: xs, y :: ys => match eqV z x y with
    | some true => eqZ zs xs ys
    | some false => if xs.length = zs.length ∧ ys.length = zs.length then some false else none
    | none => none
  | _, _, _ => none
/-- '==' of this type's values goes cell by cell -/
def EqP (P : Program) (t : Nat) (z : List Value) : Prop := P.eqGuardType P.depth t = false ∧ ∀ (xs ys : List Value) (b : Bool) (w : World), eqZ z xs ys = some b → (Op.equal t (.agg xs.toArray) (.agg ys.toArray)).run P w = .ok b w
def DescOk (P : Program) (t : Nat) : TD → Prop
  | .int k => P.underlying t = some (.int k)
  | .bool => P.underlying t = some .bool
  | .str => P.underlying t = some .string
  | .flt k => P.underlying t = some (.float k)
  | .cplx k => P.underlying t = some (.complex k)
  | .ptr e => P.underlying t = some (.pointer e)
  | .slice e => P.underlying t = some (.slice e)
  | .arr n e => P.underlying t = some (.array n e)
  | .struct fs => ∃ fields, P.underlying t = some (.struct fields) ∧ fields.toList.map (fun f => (f.offset, f.type)) = fs
  | .map k e => P.underlying t = some (.map k e)
  | .iface => ∃ ms, P.underlying t = some (.interface ms)
  | .other => True
structure InfoOk (P : Program) (t : Nat) (x : TI) : Prop where
  d : DescOk P t x.d
  kn : x.d ≠ .other
  info : ∃ i zv, P.info? t = some i ∧ i.size = x.sz ∧ i.bytes = x.bytes ∧ i.zero = some zv ∧ zv.cells.toList = x.z ∧ (isAgg x.d = false → x.z = [zv]) ∧ ((∃ k, x.d = .int k) → i.comparable = true)
  z : x.z.length = x.sz
  fl : ∀ v ∈ x.z, flat v = true
  eq : x.eq = true → EqP P t x.z
def TIOk (P : Program) (t : Nat) (x : TI) : Prop := x = TI.none ∨ InfoOk P t x
def TOk (P : Program) (T : List TI) : Prop := ∀ t, TIOk P t (ty T t)

theorem InfoOk.size {P t x} (h : InfoOk P t x) (w : World) : (sizeOf t).run P w = .ok x.sz w := by
  obtain ⟨i, zv, hi, hs, _⟩ := h.info
  simp [sizeOf, typeInfo, hi, hs]
theorem TIOk.known {P t x} (h : TIOk P t x) (hn : x.sz ≠ 0) : InfoOk P t x := by
  rcases h with rfl | h
  · exact absurd rfl hn
  · exact h
theorem TIOk.desc {P t x} (h : TIOk P t x) (hn : x.d ≠ .other) : InfoOk P t x := by
  rcases h with rfl | h
  · exact absurd rfl hn
  · exact h

/-! ### What an operation's step must bring -/
/-- the store behind what was written and made -/
noncomputable def upd (f : Nat → Blk) (nx : Nat) (ws : List (Nat × Blk)) (nw : List Blk) (b : Nat) : Blk :=
  if nx ≤ b ∧ b < nx + nw.length then nw.getD (b - nx) .dead else match ws.find? (fun x => x.1 == b) with
    | some x => x.2
    | none => f b
structure Post (w : World) (S : Zone) (inj : Nat → Loc) (f : Nat → Blk) (nx : Nat) (v : A) (ws : List (Nat × Blk)) (nw : List Blk) (v' : Value) (w' : World) (S' : Zone) (inj' : Nat → Loc) : Prop where
  grow : Grow w S w' S'
  le : Le inj inj'
  fresh : ∀ b, inj b = .free → (b < nx ∨ nx + nw.length ≤ b) → inj' b = .free
  val : VA w' S' inj' v v'
  inv : Inv w' S' inj' (upd f nx ws nw)
/-- an operation that runs to a value (or to none, which is 'undef') -/
def OpOk (P : Program) (t : List A) (σ : List Blk) (nx : Nat) (o : Oper) (v : A) (ws : List (Nat × Blk)) (nw : List Blk) (rd : List Nat) : Prop :=
  ∀ (a : Act) (f : Nat → Blk) (w : World) (S : Zone) (inj : Nat → Loc) (next : Act → World → Prop) (Q : Exit → Act → World → Prop),
    (∀ x, x ∈ o.op.operands → VA w S inj (opd t x) (a.eval x)) → (∀ b, b ∈ rd ++ ws.map Prod.fst → f b = look σ b) → Inv w S inj f →
    (∀ i, i < nw.length → inj (nx + i) = .free ∧ f (nx + i) = .dead) →
    (∀ v' w' S' inj', Post w S inj f nx v ws nw v' w' S' inj' → next (a.put o.dst v') w') → o.wp P a w next Q

theorem upd_nil (f : Nat → Blk) (nx : Nat) : upd f nx [] [] = f := by
  funext b; unfold upd; rw [if_neg (by simp)]; rfl
theorem wp_of_value {P : Program} {o : Oper} {a : Act} {w w' : World} {next : Act → World → Prop} {Q : Exit → Act → World → Prop} {v : Value}
    (h : (execOp a.eval o).run P w = .ok (.value v) w') (hn : next (a.put o.dst v) w') : o.wp P a w next Q := by
  unfold Oper.wp; rw [h]; exact hn
theorem wp_of_skip {P : Program} {o : Oper} {a : Act} {w w' : World} {next : Act → World → Prop} {Q : Exit → Act → World → Prop}
    (h : (execOp a.eval o).run P w = .ok .skip w') (hn : next (a.put o.dst undef) w') : o.wp P a w next Q := by
  unfold Oper.wp; rw [h]; exact hn
theorem VA.cellv {w S inj c v} (hc : c ≠ .junk) (h : VA w S inj (.one c) v) : VR w S inj c v := by
  cases h with
  | one h => cases h with
    | one h => exact h
    | junk => exact absurd rfl hc
theorem VA.ofc {w S inj c v} (h : VR w S inj c v) : VA w S inj (.one c) v := .one (.one h)
theorem VA.flatv {w S inj x v} (h : VA w S inj (.one (.p (.v x))) v) : v = x ∧ Go.Proofs.Ytaiedakbmmgmaaa.E.flat x = true := by
  have := h.cellv (by simp)
  cases this with | p h1 => cases h1 with | v h2 => exact ⟨rfl, h2⟩
theorem VA.ofv {w S inj x} (h : Go.Proofs.Ytaiedakbmmgmaaa.E.flat x = true) : VA w S inj (.one (.p (.v x))) x := .ofc (.p (.v h))
theorem VA.agg' {w S inj cs v} (h : VA w S inj (.agg cs) v) : ∃ vs : List Value, v = .agg vs.toArray ∧ F2 (VR w S inj) cs vs := by
  cases h with | one h => cases h with | agg h => exact ⟨_, rfl, h⟩

/-- nothing is written, nothing made, the world is as it was -/
theorem Post.same {w S inj f nx v v'} (hi : Inv w S inj f) (hv : VA w S inj v v') : Post w S inj f nx v [] [] v' w S inj :=
  ⟨.refl _ _, .refl _, fun _ h _ => h, hv, by rw [upd_nil]; exact hi⟩
theorem cells_of {w S inj a v cs} (h : VA w S inj a v) (hc : cellsC a (fun x => x = cs)) : ∃ vs : List Value, v.cells = vs.toArray ∧ F2 (VR w S inj) cs vs := by
  cases a with
  | tup l => exact hc.elim
  | agg l => cases hc; obtain ⟨vs, rfl, hf⟩ := h.agg'; exact ⟨vs, rfl, hf⟩
  | one c =>
    have hj : c ≠ .junk := by rintro rfl; exact hc.elim
    have hv := h.cellv hj
    have : cs = [c] := by cases c <;> first | exact hc.symm | exact hc.elim
    subst this
    refine ⟨[v], ?_, .cons hv .nil⟩
    have := hv.oneCell
    cases v <;> simp_all [Value.cells, Value.oneCell']
theorem cellsC_iff {a : A} {K : List C → Prop} (h : cellsC a K) : ∃ cs, cellsC a (fun x => x = cs) ∧ K cs := by
  cases a with
  | tup l => exact h.elim
  | agg l => exact ⟨l, rfl, h⟩
  | one c => cases c <;> first | exact h.elim | exact ⟨_, rfl, h⟩

/-! ### A new block -/
theorem hao (w : World) (o : Obj) (i : Nat) (h : i < w.heap.size) : (w.alloc o).heap[i]? = w.heap[i]? := by
  show (w.heap.push o)[i]? = w.heap[i]?
  rw [Array.getElem?_push, if_neg (Nat.ne_of_lt h)]
theorem han (w : World) (o : Obj) : (w.alloc o).heap[w.heap.size]? = some o := by
  show (w.heap.push o)[w.heap.size]? = some o
  simp
theorem Grow.alloc {w S} (hlt : ∀ g, S.all g → g < w.heap.size) (o : Obj) : Grow w S (w.alloc o) S :=
  ⟨rfl, rfl, rfl, by simp, fun g hg => hao w o g (hlt g hg), fun _ h => h, rfl⟩
/-- one place more -/
noncomputable def injAt (inj : Nat → Loc) (n : Nat) (l : Loc) (b : Nat) : Loc := if b = n then l else inj b
theorem injAt_le {inj n l} (h : inj n = .free) : Le inj (injAt inj n l) := fun b => by
  unfold injAt; split
  · rename_i e; subst e; exact .inl h
  · exact .inr (.inl rfl)
theorem injAt_dead {inj n} : Le inj (injAt inj n .dead) := fun b => by
  unfold injAt; split
  · exact .inr (.inr rfl)
  · exact .inr (.inl rfl)
@[simp] theorem injAt_same {inj n l} : injAt inj n l n = l := by simp [injAt]
theorem injAt_ne {inj n l b} (h : b ≠ n) : injAt inj n l b = inj b := by simp [injAt, h]
/-- the store with one block set -/
noncomputable def setB (f : Nat → Blk) (n : Nat) (B : Blk) (b : Nat) : Blk := if b = n then B else f b
@[simp] theorem setB_same {f n B} : setB f n B n = B := by simp [setB]
theorem setB_ne {f n B b} (h : b ≠ n) : setB f n B b = f b := by simp [setB, h]
/-- THE INVARIANT, ONE BLOCK SET: the others are not touched. -/
theorem Inv.set {w S inj f w' inj' n B loc} (hi : Inv w S inj f) (hg : Grow w S w' S) (hl : Le inj inj') (hinj : ∀ b, b ≠ n → inj' b = inj b) (hn : inj' n = loc)
    (hw : ∀ b g, b ≠ n → f b ≠ .dead → (inj b).blk = some g → w'.heap[g]? = w.heap[g]? ∧ ¬ S.all g)
    (hB : BR w' S inj' loc B) (hsep : B ≠ .dead → ∀ b g, b ≠ n → f b ≠ .dead → loc.blk = some g → (inj b).blk = some g → False) (hlt : ∀ g, S.all g → g < w'.heap.size) : Inv w' S inj' (setB f n B) := by
  refine ⟨fun b => ?_, fun b b' g hb hb' hg1 hg2 => ?_, hlt, hi.dj⟩
  · by_cases e : b = n
    · subst e; rw [setB_same, hn]; exact hB
    · rw [setB_ne e, hinj b e]
      by_cases hd : f b = .dead
      · rw [hd]; trivial
      · exact (hi.live b).grow hg hl (fun g h => (hw b g e hd h).1) (fun g h => (hw b g e hd h).2)
  · by_cases e : b = n <;> by_cases e' : b' = n
    · exact e.trans e'.symm
    · subst e
      rw [setB_same] at hb; rw [setB_ne e'] at hb'; rw [hinj b' e'] at hg2; rw [hn] at hg1
      exact (hsep hb b' g e' hb' hg1 hg2).elim
    · subst e'
      rw [setB_same] at hb'; rw [setB_ne e] at hb; rw [hinj b e] at hg1; rw [hn] at hg2
      exact (hsep hb' b g e hb hg2 hg1).elim
    · rw [setB_ne e] at hb; rw [setB_ne e'] at hb'; rw [hinj b e] at hg1; rw [hinj b' e'] at hg2
      exact hi.sep b b' g hb hb' hg1 hg2
/-- a new block of the world is the block n -/
theorem Inv.new {w S inj f n B loc} {o : Obj} (hi : Inv w S inj f) (hfree : inj n = .free) (hloc : ∀ g, loc.blk = some g → g = w.heap.size)
    (hB : BR (w.alloc o) S (injAt inj n loc) loc B) : Inv (w.alloc o) S (injAt inj n loc) (setB f n B) := by
  refine hi.set (.alloc hi.lt o) (injAt_le hfree) (fun b h => injAt_ne h) injAt_same (fun b g hb hd hg => ?_) hB (fun _ b g hb hd hg1 hg2 => ?_) (fun g hg => by simp; have := hi.lt g hg; omega)
  · obtain ⟨hs, hlt⟩ := (hi.live b).blk hd hg
    exact ⟨hao w o g hlt, hs⟩
  · have := ((hi.live b).blk hd hg2).2
    have := hloc g hg1
    omega
/-- a ghost: nothing happens in the world -/
theorem Inv.ghost {w S inj f n B loc} (hi : Inv w S inj f) (hfree : inj n = .free) (hloc : loc.blk = none) (hB : BR w S (injAt inj n loc) loc B) : Inv w S (injAt inj n loc) (setB f n B) :=
  hi.set (.refl _ _) (injAt_le hfree) (fun b h => injAt_ne h) injAt_same (fun b g hb hd hg => ⟨rfl, ((hi.live b).blk hd hg).1⟩) hB (fun _ b g hb hd hg1 hg2 => by rw [hloc] at hg1; cases hg1) hi.lt
theorem flat_nil : flat (.slice none 0 0) = true := rfl
theorem VR.nilv {w S inj v} (h : VR w S inj (.p (.v (.slice none 0 0))) v) : v = .slice none 0 0 := by
  cases h with | p h => cases h; rfl

theorem upd_shift {f : Nat → Blk} {nx b : Nat} {B : Blk} {nw : List Blk} : upd (setB f nx B) (nx + 1) [] nw b = upd f nx [] (B :: nw) b := by
  unfold upd setB
  by_cases h : b = nx
  · subst h
    rw [if_neg (by omega), if_pos (by simp)]
    simp
  · by_cases h2 : nx + 1 ≤ b ∧ b < nx + 1 + nw.length
    · rw [if_pos h2, if_pos (by simp; omega)]
      rw [show b - nx = (b - (nx + 1)) + 1 from by omega]
      rfl
    · have h3 : ¬ (nx ≤ b ∧ b < nx + (B :: nw).length) := by simp only [List.length_cons]; omega
      rw [if_neg h2, if_neg h3]
      simp only [List.find?_nil, if_neg h]
theorem ncF_ne {c : C} {cs : List C} {nx : Nat} {K : List C → List Blk → Prop} (hc : c ≠ .p (.v (.slice none 0 0))) (h : ncF (c :: cs) nx K) : ncF cs nx (fun cs nw => K (c :: cs) nw) := by
  have h' : (fun (c : C) => (match c with
          | .p (.v (.slice none 0 0)) => ncF cs (nx + 1) fun cs nw => natF nx fun n => K (.own n :: cs) (.rows 0 [] :: nw)
          | c => ncF cs nx fun cs nw => K (c :: cs) nw : Prop)) c := h
  clear h
  simp only at h'
  exact h'
/-- 'ncF': each nil slice among cells becomes an owned one -/
theorem ncF_ok (cs : List C) : ∀ (nx : Nat) (K : List C → List Blk → Prop), ncF cs nx K → ∃ cs' nw, K cs' nw ∧ cs'.length = cs.length ∧
    ∀ {w S inj f vs}, Inv w S inj f → F2 (VR w S inj) cs vs → (∀ i, i < nw.length → inj (nx + i) = .free ∧ f (nx + i) = .dead) →
      ∃ inj', Le inj inj' ∧ (∀ b, (b < nx ∨ nx + nw.length ≤ b) → inj' b = inj b) ∧ F2 (VR w S inj') cs' vs ∧ Inv w S inj' (upd f nx [] nw) := by
  induction cs with
  | nil =>
    intro nx K h
    refine ⟨[], [], h, rfl, fun {w S inj f vs} hi hf hfr => ⟨inj, .refl _, fun _ _ => rfl, hf, by rw [upd_nil]; exact hi⟩⟩
  | cons c cs ih =>
    intro nx K h
    by_cases hc : c = .p (.v (.slice none 0 0))
    · subst hc
      change ncF cs (nx + 1) _ at h
      obtain ⟨cs', nw, hk, hl, hok⟩ := ih _ _ h
      rw [natF_eq] at hk
      refine ⟨_, _, hk, by simp [hl], fun {w S inj f vs} hi hf hfr => ?_⟩
      cases hf with
      | @cons _ v _ vs hv hvs =>
      have hv := hv.nilv; subst hv
      have h0 := hfr 0 (by simp)
      have hi1 : Inv w S (injAt inj nx (.row (.slice none 0 0) none)) (setB f nx (.rows 0 [])) :=
        hi.ghost h0.1 rfl ⟨_, _, rfl, .inl ⟨rfl, rfl, none, rfl⟩⟩
      have hle := injAt_le (l := .row (.slice none 0 0) none) h0.1
      obtain ⟨inj', hle', hsame, hf', hi'⟩ := hok hi1 (hvs.mono' fun _ _ h => h.grow (.refl _ _) hle) (fun i hi => by
        have := hfr (i + 1) (by simp; exact hi)
        rw [injAt_ne (by omega), setB_ne (by omega)]
        rwa [show nx + (i + 1) = nx + 1 + i from by omega] at this)
      refine ⟨inj', hle.trans hle', fun b hb => ?_, .cons (.own ?_) hf', ?_⟩
      · rw [hsame b (by simp at hb; omega), injAt_ne (by simp at hb; omega)]
      · rw [hsame nx (by omega), injAt_same]; exact .inr ⟨none, rfl⟩
      · refine ⟨fun b => ?_, fun b b' g h1 h2 h3 h4 => hi'.sep b b' g ?_ ?_ h3 h4, hi'.lt, hi'.dj⟩
        · have := hi'.live b
          rwa [upd_shift] at this
        · rwa [upd_shift]
        · rwa [upd_shift]
    · have h' := ncF_ne hc h
      obtain ⟨cs', nw, hk, hl, hok⟩ := ih _ _ h'
      refine ⟨_, _, hk, by simp [hl], fun {w S inj f vs} hi hf hfr => ?_⟩
      cases hf with
      | @cons _ v _ vs hv hvs =>
      obtain ⟨inj', hle, hsame, hf', hi'⟩ := hok hi hvs hfr
      exact ⟨inj', hle, hsame, .cons (hv.grow (.refl _ _) hle) hf', hi'⟩
theorem ncS_ok {g : Bool} (cs : List C) (nx : Nat) (K : List C → List Blk → Prop) (h : ncS g cs nx K) : ∃ cs' nw, K cs' nw ∧ cs'.length = cs.length ∧
    ∀ {w S inj f vs}, Inv w S inj f → F2 (VR w S inj) cs vs → (∀ i, i < nw.length → inj (nx + i) = .free ∧ f (nx + i) = .dead) →
      ∃ inj', Le inj inj' ∧ (∀ b, (b < nx ∨ nx + nw.length ≤ b) → inj' b = inj b) ∧ F2 (VR w S inj') cs' vs ∧ Inv w S inj' (upd f nx [] nw) := by
  cases g with
  | true => exact ⟨cs, [], h, rfl, fun {w S inj f vs} hi hf _ => ⟨inj, .refl _, fun _ _ => rfl, hf, by rw [upd_nil]; exact hi⟩⟩
  | false => exact ncF_ok cs nx K h

end Go.Proofs.Ytaiedakbmmgmaaa.E
