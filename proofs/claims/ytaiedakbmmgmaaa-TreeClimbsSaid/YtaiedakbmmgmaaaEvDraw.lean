/- Regions that draw their order: what stands where, after any set of operations. -/
import Derived.Test.YtaiedakbmmgmaaaEvCode3
import Derived.Orders
set_option linter.unusedVariables false
set_option linter.unusedSimpArgs false
namespace Go.Proofs.Ytaiedakbmmgmaaa.E
open Go
variable {P : Program} {T : List TI} {t : List A} {σ : List Blk} {I : Task → Prop}

/-! ### The last of some that were written -/
def lastV {V : Type} (D : Nat → Bool) : List (Option V) → Nat → V → V
  | [], _, v => v
  | c :: cs, i, v => lastV D cs (i + 1) (if D i then c.getD v else v)
theorem lastV_agree {V : Type} {D E : Nat → Bool} : ∀ (cs : List (Option V)) (i : Nat) (v : V), (∀ k c, cs[k]? = some (some c) → D (i + k) = E (i + k)) → lastV D cs i v = lastV E cs i v
  | [], _, _, _ => rfl
  | c :: cs, i, v, h => by
    unfold lastV
    have h1 : (if D i then c.getD v else v) = (if E i then c.getD v else v) := by
      cases c with
      | none => split <;> split <;> rfl
      | some x =>
        have := h 0 x rfl
        simp only [Nat.add_zero] at this
        rw [this]
    rw [h1]
    exact lastV_agree cs (i + 1) _ fun k c hk => by
      have := h (k + 1) c (by simpa using hk)
      rwa [show i + (k + 1) = i + 1 + k from by omega] at this
theorem lastV_none {V : Type} {D : Nat → Bool} : ∀ (cs : List (Option V)) (i : Nat) (v : V), (∀ k, D (i + k) = false) → lastV D cs i v = v
  | [], _, _, _ => rfl
  | c :: cs, i, v, h => by
    unfold lastV
    have h0 := h 0
    simp only [Nat.add_zero] at h0
    rw [h0]
    exact lastV_none cs (i + 1) v fun k => by
      have := h (k + 1)
      rwa [show i + (k + 1) = i + 1 + k from by omega] at this
theorem lastV_pre {V : Type} : ∀ (cs : List (Option V)) (i k : Nat) (v : V), lastV (fun n => decide (n < i + k)) cs i v = lastV (fun _ => true) (cs.take k) i v
  | [], i, k, v => by simp [lastV]
  | c :: cs, i, 0, v => by
    rw [List.take_zero]
    exact lastV_none _ _ _ fun k => by simp
  | c :: cs, i, k + 1, v => by
    rw [List.take_succ_cons]
    unfold lastV
    rw [if_pos (by simp), if_pos rfl]
    have := lastV_pre cs (i + 1) k (c.getD v)
    rw [show i + 1 + k = i + (k + 1) from by omega] at this
    exact this
theorem lastV_app {V : Type} : ∀ (cs : List (Option V)) (c : Option V) (i : Nat) (v : V), lastV (fun _ => true) (cs ++ [c]) i v = c.getD (lastV (fun _ => true) cs i v)
  | [], c, i, v => by simp [lastV]
  | d :: cs, c, i, v => by
    rw [List.cons_append]
    unfold lastV
    exact lastV_app cs c (i + 1) _
theorem lastV_succ {V : Type} (cs : List (Option V)) (k : Nat) (c : Option V) (hk : cs[k]? = some c) (v : V) : lastV (fun n => decide (n < k + 1)) cs 0 v = c.getD (lastV (fun n => decide (n < k)) cs 0 v) := by
  have h1 := lastV_pre cs 0 (k + 1) v
  have h2 := lastV_pre cs 0 k v
  simp only [Nat.zero_add] at h1 h2
  rw [h1, h2, List.take_add_one, hk]
  exact lastV_app _ _ _ _

/-! ### The operations of a region, each with what it does -/
structure Rec where
  o : Oper
  on : Bool
  v : A
  ws : List (Nat × Blk)
  nw : List Blk
  rd : List Nat
  t : List A
  σ : List Blk
noncomputable def Rec.foot (r : Rec) : List Nat × List Nat := (r.rd, r.ws.map Prod.fst ++ seqFrom r.σ.length r.nw.length)
def Rec.cT (d : Nat) (r : Rec) : Option A := if r.o.dst = some d then some r.v else none
def Rec.cB (b : Nat) (r : Rec) : Option Blk := if r.σ.length ≤ b ∧ b < r.σ.length + r.nw.length then some (r.nw.getD (b - r.σ.length) .dead) else (r.ws.find? (fun x => x.1 == b)).map Prod.snd
theorem upd_cB (r : Rec) (f : Nat → Blk) (b : Nat) : upd f r.σ.length r.ws r.nw b = (r.cB b).getD (f b) := by
  unfold upd Rec.cB
  split
  · rfl
  · cases r.ws.find? (fun x => x.1 == b) <;> rfl
theorem cB_foot {r : Rec} {b : Nat} {x : Blk} (h : r.cB b = some x) : b ∈ r.foot.2 := by
  unfold Rec.cB at h
  unfold Rec.foot
  split at h
  · rename_i hb
    exact List.mem_append.2 (.inr (seq_mem.2 hb))
  · cases hf : r.ws.find? (fun x => x.1 == b) with
    | none => rw [hf] at h; cases h
    | some y =>
      have h1 := List.mem_of_find?_eq_some hf
      have h2 := List.find?_some hf
      simp at h2
      exact List.mem_append.2 (.inl (List.mem_map.2 ⟨y, h1, h2⟩))
def RecOk (P : Program) (all : List Oper) (r : Rec) : Prop :=
  (∀ x, x ∈ r.ws → x.1 < r.σ.length) ∧
  ((r.on = true ∧ OpOk P r.t r.σ r.σ.length r.o r.v r.ws r.nw r.rd ∧ ∀ {w S inj} {a : Act}, GuardOk all r.t r.o w S inj a → Region.wanted r.o (yielded all.toArray a.tmps) = true) ∨
   (r.on = false ∧ r.v = .tup [] ∧ r.ws = [] ∧ r.nw = [] ∧ r.rd = [] ∧ ∀ {w S inj} {a : Act}, GuardOk all r.t r.o w S inj a → Region.wanted r.o (yielded all.toArray a.tmps) = false))
def putL (t : List A) (d : Option Nat) (v : A) : List A := match d with
  | some d => t.set d v
  | none => t
theorem putF_eq {d : Option Nat} {v : A} {k : List A → Prop} (h : putF t d v k) : k (putL t d v) := by
  unfold putF at h
  cases d with
  | none => exact h
  | some d =>
    simp only [aF_eq, setF_eq] at h
    exact h
theorem putL_get {d : Option Nat} {v : A} {e : Nat} (he : e < t.length) (J : A) : (putL t d v).getD e J = (if d = some e then some v else none).getD (t.getD e J) := by
  unfold putL
  cases d with
  | none => simp
  | some d =>
    by_cases h : d = e
    · subst h
      simp [List.getD_eq_getElem?_getD, List.getElem?_set_self he]
    · simp only [Option.some.injEq, if_neg h, Option.getD_none, List.getD_eq_getElem?_getD, List.getElem?_set_ne h]
theorem putL_len {d : Option Nat} {v : A} : (putL t d v).length = t.length := by unfold putL; cases d <;> simp

inductive Ch (P : Program) (all : List Oper) : List Rec → List Oper → List A → List Blk → List A → List Blk → Prop
  | nil (t : List A) (σ : List Blk) : Ch P all [] [] t σ t σ
  | cons {r : Rec} {rs : List Rec} {o : Oper} {ops : List Oper} {σ1 : List Blk} {t' : List A} {σ' : List Blk} : RecOk P all r → r.o = o → σ1.length = r.σ.length + r.nw.length → (∀ b, look σ1 b = (r.cB b).getD (look r.σ b)) → Ch P all rs ops (putL r.t o.dst r.v) σ1 t' σ' →
      Ch P all (r :: rs) (o :: ops) r.t r.σ t' σ'
theorem runF_ch (hT : TOk P T) (hI : CallsOk P I) {all : List Oper} : ∀ (l : List Oper) {t : List A} {σ : List Blk} {tr : Tr} {K : List A → List Blk → Tr → Prop}, runF T I all l t σ tr K →
    ∃ rs t' σ', K t' σ' ((rs.map Rec.foot).reverse ++ tr) ∧ Ch P all rs l t σ t' σ'
  | [], t, σ, tr, K, h => ⟨[], t, σ, h, .nil t σ⟩
  | o :: l, t, σ, tr, K, h => by
    change wantedF all t o _ _ at h
    rcases wantedF_ok h with ⟨h, hw⟩ | ⟨h, hw⟩
    · rw [lenR_eq] at h
      obtain ⟨v, ws, nw, rd, h, hok⟩ := operC_ok hT hI h
      replace h := putF_eq h
      have hlt : ∀ x, x ∈ ws → x.1 < σ.length := by
        have := (bcF (h : bcase _ _ False)).1
        simp only [allR_eq, List.all_eq_true, lenR_eq] at this
        exact fun x hx => Nat.le_of_ble_eq_true (this x hx)
      obtain ⟨σ1, h, hl, hup⟩ := applyF_ok h
      obtain ⟨rs, t', σ', h, hch⟩ := runF_ch hT hI l h
      refine ⟨⟨o, true, v, ws, nw, rd, t, σ⟩ :: rs, t', σ', ?_, .cons (r := ⟨o, true, v, ws, nw, rd, t, σ⟩) ⟨hlt, .inl ⟨rfl, hok, hw⟩⟩ rfl hl (fun b => ?_) hch⟩
      · simpa [Rec.foot] using h
      · rw [hup b]; exact upd_cB ⟨o, true, v, ws, nw, rd, t, σ⟩ _ b
    · replace h := putF_eq h
      obtain ⟨rs, t', σ', h, hch⟩ := runF_ch hT hI l h
      refine ⟨⟨o, false, .tup [], [], [], [], t, σ⟩ :: rs, t', σ', ?_, .cons (r := ⟨o, false, .tup [], [], [], [], t, σ⟩) ⟨by simp, .inr ⟨rfl, rfl, rfl, rfl, rfl, hw⟩⟩ rfl rfl (fun b => ?_) hch⟩
      · have e : seqFrom σ.length 0 = [] := rfl
        simpa [Rec.foot, e] using h
      · rw [← upd_cB, upd_nil]
theorem Ch.final {all : List Oper} {rs : List Rec} {ops : List Oper} {t : List A} {σ : List Blk} {t' : List A} {σ' : List Blk} (h : Ch P all rs ops t σ t' σ') : t'.length = t.length ∧ σ.length ≤ σ'.length ∧
    (∀ i d, d < t.length → t'.getD d (.one .junk) = lastV (fun _ => true) (rs.map (Rec.cT d)) i (t.getD d (.one .junk))) ∧ ∀ i b, look σ' b = lastV (fun _ => true) (rs.map (Rec.cB b)) i (look σ b) := by
  induction h with
  | nil => exact ⟨rfl, Nat.le_refl _, fun _ _ _ => rfl, fun _ _ => rfl⟩
  | @cons r rs o ops σ1 t' σ' hr ho hl hb hch ih =>
    obtain ⟨h1, h2, h3, h4⟩ := ih
    rw [putL_len] at h1
    refine ⟨h1, by omega, fun i d hd => ?_, fun i b => ?_⟩
    · rw [h3 (i + 1) d (by rw [putL_len]; exact hd), putL_get hd, List.map_cons]
      subst ho
      show _ = lastV _ _ (i + 1) _
      rw [if_pos rfl]
      rfl
    · rw [h4 (i + 1) b, hb b, List.map_cons]
      show _ = lastV _ _ (i + 1) _
      rw [if_pos rfl]
theorem Ch.split {all : List Oper} {rs : List Rec} {ops : List Oper} {t : List A} {σ : List Blk} {t' : List A} {σ' : List Blk} (h : Ch P all rs ops t σ t' σ') : ∀ {k : Nat} {r : Rec}, rs[k]? = some r →
    Ch P all (rs.take k) (ops.take k) t σ r.t r.σ ∧ ops[k]? = some r.o ∧ RecOk P all r ∧ ∃ ops1 t1 σ1, Ch P all (rs.drop (k + 1)) ops1 t1 σ1 t' σ' ∧ σ1.length = r.σ.length + r.nw.length := by
  induction h with
  | nil => intro k r h; simp at h
  | @cons r0 rs o ops σ1 t' σ' hr ho hl hb hch ih =>
    intro k r h
    cases k with
    | zero =>
      simp at h; subst h
      exact ⟨.nil _ _, by simp [ho], hr, _, _, _, hch, hl⟩
    | succ k =>
      obtain ⟨h1, h2, h3, h4⟩ := ih (by simpa using h)
      exact ⟨.cons hr ho hl hb h1, by simpa using h2, h3, by simpa using h4⟩
theorem Ch.len {all : List Oper} {rs : List Rec} {ops : List Oper} {t : List A} {σ : List Blk} {t' : List A} {σ' : List Blk} (h : Ch P all rs ops t σ t' σ') : rs.length = ops.length := by
  induction h with
  | nil => rfl
  | cons _ _ _ _ _ ih => simp [ih]
theorem Ch.ranges {all : List Oper} {rs : List Rec} {ops : List Oper} {t : List A} {σ : List Blk} {t' : List A} {σ' : List Blk} (h : Ch P all rs ops t σ t' σ') {i j : Nat} {r r' : Rec} (hi : rs[i]? = some r) (hj : rs[j]? = some r') (hij : i < j) :
    r.σ.length + r.nw.length ≤ r'.σ.length := by
  obtain ⟨_, _, _, ops1, t1, σ1, hch, hl⟩ := h.split hi
  obtain ⟨h1, _⟩ := hch.split (k := j - (i + 1)) (r := r') (by rw [List.getElem?_drop, show i + 1 + (j - (i + 1)) = j from by omega]; exact hj)
  have := h1.final.2.1
  omega
end Go.Proofs.Ytaiedakbmmgmaaa.E
