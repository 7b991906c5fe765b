/- Soundness of the operations, second part: one by one. -/
import Derived.Test.YtaiedakbmmgmaaaEvOps
set_option linter.unusedVariables false
set_option linter.unusedSimpArgs false
namespace Go.Proofs.Ytaiedakbmmgmaaa.E
open Go
variable {P : Program} {T : List TI} {t : List A} {σ : List Blk} {nx : Nat} {o : Oper} {K : Kont}
/-- what a step's soundness says -/
def StepOk (P : Program) (t : List A) (σ : List Blk) (nx : Nat) (o : Oper) (K : Kont) : Prop := ∃ v ws nw rd, K v ws nw rd ∧ OpOk P t σ nx o v ws nw rd
/-- an operation that leaves world and store alone -/
theorem ok_pure {v : A} {rd : List Nat} (hk : K v [] [] rd)
    (h : ∀ (a : Act) (f : Nat → Blk) (w : World) (S : Zone) (inj : Nat → Loc), (∀ x, x ∈ o.op.operands → VA w S inj (opd t x) (a.eval x)) → (∀ b, b ∈ rd → f b = look σ b) → Inv w S inj f →
      ∃ v', (execOp a.eval o).run P w = .ok (.value v') w ∧ VA w S inj v v') : StepOk P t σ nx o K :=
  ⟨v, [], [], rd, hk, fun a f w S inj next Q ho hf hi _ hn => by
    obtain ⟨v', hr, hv⟩ := h a f w S inj ho (fun b hb => hf b (by simp [hb])) hi
    exact wp_of_value hr (hn v' w S inj (Post.same hi hv))⟩
theorem upd_one (f : Nat → Blk) (n : Nat) (B : Blk) : upd f n [] [B] = setB f n B := by
  funext b; rw [← upd_shift, upd_nil]
theorem upd_cons (f : Nat → Blk) (n : Nat) (B : Blk) (nw : List Blk) : upd f n [] (B :: nw) = setB (upd f (n + 1) [] nw) n B := by
  funext b
  by_cases h : b = n
  · subst h; simp [upd, setB]
  · rw [setB_ne h]
    unfold upd
    by_cases h2 : n + 1 ≤ b ∧ b < n + 1 + nw.length
    · have h3 : n ≤ b ∧ b < n + (B :: nw).length := by simp only [List.length_cons]; omega
      rw [if_pos h2, if_pos h3, show b - n = (b - (n + 1)) + 1 from by omega]
      rfl
    · have h3 : ¬ (n ≤ b ∧ b < n + (B :: nw).length) := by simp only [List.length_cons]; omega
      rw [if_neg h2, if_neg h3]

theorem move_ok {x : Operand} (ho : o.op = .move x ∨ o.op = .assign x) (h : stepC T t σ nx (.move x) K) : StepOk P t σ nx o K := by
  have hrun : ∀ (a : Act) (w : World), (execOp a.eval o).run P w = .ok (.value (a.eval x)) w := fun a w => by
    unfold execOp; rcases ho with ho | ho <;> simp [ho]
  have hmem : x ∈ o.op.operands := by rcases ho with ho | ho <;> simp [ho, Op.operands]
  dsimp only [stepC] at h
  split at h
  · rename_i hx
    refine ⟨_, _, _, _, h, fun a f w S inj next Q hop hf hi hfr hn => wp_of_value (hrun a w) (hn _ w S (injAt inj nx (.row (.slice none 0 0) none)) ?_)⟩
    have hv := hop x hmem
    rw [hx] at hv
    obtain ⟨he, _⟩ := hv.flatv
    rw [he]
    have h0 := hfr 0 (by simp)
    refine ⟨.refl _ _, injAt_le h0.1, fun b hb hb' => ?_, .ofc (.own (.inr ⟨none, by rw [injAt_same]⟩)), ?_⟩
    · rw [injAt_ne (by simp at hb'; omega)]; exact hb
    · rw [upd_one]; exact hi.ghost h0.1 rfl ⟨_, _, rfl, .inl ⟨rfl, rfl, none, rfl⟩⟩
  · exact ok_pure h fun a f w S inj hop hf hi => ⟨_, hrun a w, hop x hmem⟩

theorem pick_ok {c x y : Operand} (ho : o.op = .pick c x y) (h : stepC T t σ nx (.pick c x y) K) : StepOk P t σ nx o K := by
  dsimp only [stepC] at h
  split at h
  · rename_i b hc
    have hrun : ∀ (a : Act) (w : World) (S inj), VA w S inj (opd t c) (a.eval c) → (execOp a.eval o).run P w = .ok (.value (if b then a.eval x else a.eval y)) w := fun a w S inj hv => by
      rw [hc] at hv
      obtain ⟨he, _⟩ := hv.flatv
      unfold execOp; simp [ho, he, asBool]
    cases b with
    | true => exact ok_pure (rd := []) (v := opd t x) h fun a f w S inj hop hf hi => ⟨_, hrun a w S inj (hop c (by simp [ho, Op.operands])), hop x (by simp [ho, Op.operands])⟩
    | false => exact ok_pure (rd := []) (v := opd t y) h fun a f w S inj hop hf hi => ⟨_, hrun a w S inj (hop c (by simp [ho, Op.operands])), hop y (by simp [ho, Op.operands])⟩
  · exact h.elim

/-- a new box of the world -/
theorem new_box {cs : List C} (h : ncF cs (nx + 1) fun cs nw => K (.one (.ptr nx 0)) [] (.box cs :: nw) [])
    (hrun : ∀ (a : Act) (w : World) (S inj f), (∀ x, x ∈ o.op.operands → VA w S inj (opd t x) (a.eval x)) → Inv w S inj f →
      ∃ (vs : List Value) (e : TypeId), F2 (VR w S inj) cs vs ∧ (execOp a.eval o).run P w = .ok (.value (.pointer (some ⟨w.heap.size, 0, none⟩))) (w.alloc (.cells vs.toArray e))) : StepOk P t σ nx o K := by
  obtain ⟨cs', nw, hk, hl, hok⟩ := ncF_ok _ _ _ h
  refine ⟨_, _, _, _, hk, fun a f w S inj next Q hop hf hi hfr hn => ?_⟩
  obtain ⟨vs, e, hv, hr⟩ := hrun a w S inj f hop hi
  obtain ⟨inj1, hle, hsame, hv', hi'⟩ := hok hi hv (fun i hi => by
    have := hfr (i + 1) (by simp; exact hi)
    rwa [show nx + (i + 1) = nx + 1 + i from by omega] at this)
  have h0 := hfr 0 (by simp)
  have hfree : inj1 nx = .free := by rw [hsame nx (by omega)]; exact h0.1
  have hle2 := injAt_le (l := .box w.heap.size) hfree
  refine wp_of_value hr (hn _ _ S (injAt inj1 nx (.box w.heap.size)) ⟨.alloc hi.lt _, hle.trans hle2, fun b hb hb' => ?_, .ofc (.ptr (.inr ⟨_, by rw [injAt_same], rfl⟩)), ?_⟩)
  · rw [injAt_ne (by simp at hb'; omega), hsame b (by simp at hb'; omega)]; exact hb
  · rw [upd_cons]
    refine hi'.new hfree (fun g hg => by injection hg with hg; exact hg.symm) ⟨_, vs, e, rfl, fun hs => absurd (hi.lt _ hs) (by omega), han w _, hv'.mono' fun _ _ h => h.grow (.alloc hi.lt _) hle2⟩

theorem alloc_ok (hT : TOk P T) {e : Nat} (ho : o.op = .alloc e) (h : stepC T t σ nx (.alloc e) K) : StepOk P t σ nx o K := by
  dsimp only [stepC] at h
  rw [bcase_iff] at h
  rcases h with ⟨hs, h⟩ | ⟨_, h⟩
  · refine new_box h fun a w S inj f hop hi => ?_
    have hI := (hT e).known (by have := Nat.le_of_ble_eq_true hs; omega)
    obtain ⟨i, zv, hi', _, _, hz, hc, _⟩ := hI.info
    refine ⟨(ty T e).z, e, ?_, ?_⟩
    · rw [zeroC, mapR_eq]
      refine F2.of_get (by simp) fun i a b ha hb => ?_
      simp at ha
      obtain ⟨x, hx, rfl⟩ := ha
      rw [hx] at hb; injection hb with hb; subst hb
      exact .p (.v (hI.fl x (List.mem_of_getElem? hx)))
    · unfold execOp
      simp [ho, Instr.alloc, zeroValue, typeInfo, hi', hz, newVar, newRow, ← hc]
  · exact h.elim
theorem box_ok {e : Nat} {x : Operand} (ho : o.op = .box e x) (h : stepC T t σ nx (.box e x) K) : StepOk P t σ nx o K := by
  dsimp only [stepC] at h
  obtain ⟨cs, hc, h⟩ := cellsC_iff h
  refine new_box h fun a w S inj f hop hi => ?_
  obtain ⟨vs, hv, hf⟩ := cells_of (hop x (by simp [ho, Op.operands])) hc
  refine ⟨vs, e, hf, ?_⟩
  unfold execOp
  simp [ho, Instr.box, newVar, newRow, hv]
/-- a live box's place -/
theorem Inv.box {w S inj f b cs} (hi : Inv w S inj f) (hb : f b = .box cs) : ∃ g vs e, inj b = .box g ∧ ¬ S.all g ∧ w.heap[g]? = some (.cells (vs : List Value).toArray e (0, 0)) ∧ F2 (VR w S inj) cs vs := by
  have := hi.live b
  rw [hb] at this
  exact this
theorem Inv.rows {w S inj f b k l} (hi : Inv w S inj f) (hb : f b = .rows k l) : ∃ v g, inj b = .row v g ∧ RowOk w S k l v g := by
  have := hi.live b
  rw [hb] at this
  exact this
theorem VR.ptrv {w S inj b o v g} (h : VR w S inj (.ptr b o) v) (hb : inj b = .box g) : v = .pointer (some ⟨g, o, none⟩) := by
  cases h with
  | ptr h =>
    rcases h with h | ⟨g', h, rfl⟩
    · rw [hb] at h; cases h
    · rw [hb] at h; injection h with h; subst h; rfl
theorem VR.ownv {w S inj b v v' g} (h : VR w S inj (.own b) v) (hb : inj b = .row v' g) : v = v' := by
  cases h with
  | own h =>
    rcases h with h | ⟨g', h⟩
    · rw [hb] at h; cases h
    · rw [hb] at h; injection h with h _; exact h.symm
theorem VR.epv {w S inj b k i o v} (h : VR w S inj (.ep b k i o) v) (hb : inj b ≠ .dead) : ∃ g n c, inj b = .row (.slice (some ⟨g, 0, none⟩) n c) (some g) ∧ v = .pointer (some ⟨g, i * k + o, none⟩) := by
  cases h with
  | ep h =>
    rcases h with h | ⟨g', n, c, h, rfl⟩
    · exact absurd h hb
    · exact ⟨g', n, c, h, rfl⟩
theorem nilPtr_ok {x : Operand} {b p : Nat} (ho : o.op = .nilCheck x) (h : match look σ b with | .box _ => K (.one (.ptr b p)) [] [] [b] | _ => False) (hx : opd t x = .one (.ptr b p)) : StepOk P t σ nx o K := by
  split at h
  · rename_i cs hb
    refine ok_pure h fun a f w S inj hop hf hi => ?_
    have hv := hop x (by simp [ho, Op.operands])
    rw [hx] at hv
    obtain ⟨g, vs, e, hg, _⟩ := hi.box ((hf b (by simp)).trans hb)
    have he := (hv.cellv (by simp)).ptrv hg
    rw [he] at hv
    exact ⟨_, by unfold execOp; simp [ho, he], hv⟩
  · exact h.elim
theorem nilEp_ok {x : Operand} {b k i p : Nat} (ho : o.op = .nilCheck x) (h : match look σ b with | .rows k' l => bcase (lenB l i && Nat.beq k k') (K (.one (.ep b k i p)) [] [] [b]) False | _ => False) (hx : opd t x = .one (.ep b k i p)) : StepOk P t σ nx o K := by
  split at h
  · rename_i k' l hb
    rw [bcase_iff] at h
    rcases h with ⟨_, h⟩ | ⟨_, h⟩
    · refine ok_pure h fun a f w S inj hop hf hi => ?_
      have hv := hop x (by simp [ho, Op.operands])
      rw [hx] at hv
      obtain ⟨v, g, hg, _⟩ := hi.rows ((hf b (by simp)).trans hb)
      obtain ⟨g', n, c, _, he⟩ := (hv.cellv (by simp)).epv (by rw [hg]; simp)
      rw [he] at hv
      exact ⟨_, by unfold execOp; simp [ho, he], hv⟩
    · exact h.elim
  · exact h.elim
theorem nilCheck_ok {x : Operand} (ho : o.op = .nilCheck x) (h : stepC T t σ nx (.nilCheck x) K) : StepOk P t σ nx o K := by
  have hmem : x ∈ o.op.operands := by simp [ho, Op.operands]
  dsimp only [stepC] at h
  have key : ∀ c, c ≠ .junk → opd t x = .one c → K (.one c) [] [] [] → (∀ {w S inj v}, VR w S inj c v → ∀ o : Oper, o.op = .nilCheck x → ∀ a : Act, a.eval x = v → (execOp a.eval o).run P w = .ok (.value v) w) → StepOk P t σ nx o K :=
    fun c hj hx hk hrun => ok_pure hk fun a f w S inj hop hf hi => by
      have hv := hop x hmem
      rw [hx] at hv
      exact ⟨_, hrun (hv.cellv hj) o ho a rfl, hv⟩
  split at h
  · rename_i b p hx
    exact nilPtr_ok ho h hx
  · rename_i cs hx
    refine key _ (by simp) hx h fun {w S inj v} hv o ho a ha => ?_
    cases hv with | rp vals hg hc hp => unfold execOp; simp [ho, ha]
  · rename_i b k i p hx
    exact nilEp_ok ho h hx
  · rename_i f l hx
    refine key _ (by simp) hx h fun {w S inj v} hv o ho a ha => ?_
    cases hv with | fn hf => unfold execOp; simp [ho, ha]
  · rename_i f l hx
    refine key _ (by simp) hx h fun {w S inj v} hv o ho a ha => ?_
    cases hv with | pf hf => unfold execOp; simp [ho, ha]
  · exact h.elim
theorem extract_ok {x : Operand} {i : Nat} (ho : o.op = .extract x i) (h : stepC T t σ nx (.extract x i) K) : StepOk P t σ nx o K := by
  have hmem : x ∈ o.op.operands := by simp [ho, Op.operands]
  dsimp only [stepC] at h
  split at h
  · rename_i l hx
    split at h
    · rename_i b r hl
      refine ok_pure h fun a f w S inj hop hf hi => ?_
      have hv := hop x hmem
      rw [hx] at hv
      rw [dropR_eq] at hl
      have hg : l[i]? = some b := by have := congrArg (·[0]?) hl; simpa using this
      generalize he : a.eval x = v at hv
      cases hv with
      | one h => cases h
      | @tup _ vs hf2 =>
        obtain ⟨v', hv', hr⟩ := hf2.get hg
        refine ⟨v', ?_, .one hr⟩
        unfold execOp
        simp [ho, Instr.extract, he, hv']
    · exact h.elim
  · exact h.elim

/-! ### Addresses -/
theorem addr_add (g p n : Nat) : (⟨g, p, none⟩ : Addr).add n = ⟨g, p + n, none⟩ := by unfold Addr.add; split <;> simp_all
theorem partAt_struct {P t i o n x} {fs : List (Nat × Nat)} (hd : (ty T t).d = .struct fs) (h : partAt T t i = some (o, n)) (hI : InfoOk P t x) (hx : x = ty T t) :
    ∃ (fields : Array Field) (fd : Field), P.underlying t = some (.struct fields) ∧ fields[i]? = some fd ∧ fd.offset = o ∧ n = (ty T fd.type).sz ∧ (∃ r, fs.drop i = (o, fd.type) :: r) := by
  subst hx
  have hD := hI.d
  unfold partAt at h
  rw [hd] at h
  rw [hd] at hD
  obtain ⟨fields, hu, hm⟩ := hD
  simp only [dropR_eq] at h
  split at h
  · rename_i o' f' r hr
    simp at h
    obtain ⟨rfl, rfl⟩ := h
    have hg : fs[i]? = some (o', f') := by have := congrArg (·[0]?) hr; simpa using this
    rw [← hm] at hg
    simp at hg
    obtain ⟨fd, hfd, h1, h2⟩ := hg
    exact ⟨fields, fd, hu, hfd, h1, by rw [h2], ⟨r, by rw [hr, h2]⟩⟩
  · cases h
theorem fieldAddr_run {P : Program} {T : List TI} (hT : TOk P T) {s i oo n : Nat} (hp : partAt T s i = some (oo, n)) (hn : n ≠ 0) {fs} (hd : (ty T s).d = .struct fs) {g p : Nat} (w : World) :
    (Instr.fieldAt s (.pointer (some ⟨g, p, none⟩)) i).run P w = .ok (.pointer (some ⟨g, p + oo, none⟩)) w := by
  have hI := (hT s).desc (by rw [hd]; simp)
  obtain ⟨fields, fd, hu, hf, h1, h2, _⟩ := partAt_struct hd hp hI rfl
  have hs := ((hT fd.type).known (by rw [← h2]; exact hn)).size w
  rw [← h2] at hs
  simp [Instr.fieldAt, run_underlying hu, hf, Instr.sureAddr, fieldPlace, hs, hn, addr_add, h1]
theorem fieldAddr_ok (hT : TOk P T) {s i : Nat} {x : Operand} (ho : o.op = .fieldAddr s x i) (h : stepC T t σ nx (.fieldAddr s x i) K) : StepOk P t σ nx o K := by
  dsimp only [stepC] at h
  split at h
  · rename_i fs oo n hd hp
    rw [bcase_iff] at h
    rcases h with ⟨_, h⟩ | ⟨hn, h⟩
    · exact h.elim
    have hn : n ≠ 0 := fun e => by subst e; simp at hn
    have hmem : x ∈ o.op.operands := by simp [ho, Op.operands]
    have hrun : ∀ (a : Act) (w : World) (g p : Nat), a.eval x = .pointer (some ⟨g, p, none⟩) → (execOp a.eval o).run P w = .ok (.value (.pointer (some ⟨g, p + oo, none⟩))) w := fun a w g p he => by
      unfold execOp; simp [ho, he, fieldAddr_run hT hp hn hd]
    split at h
    · rename_i b p hx
      split at h
      · rename_i cs hb
        refine ok_pure h fun a f w S inj hop hf hi => ?_
        have hv := hop x hmem
        rw [hx] at hv
        obtain ⟨g, vs, e, hg, _⟩ := hi.box ((hf b (by simp)).trans hb)
        exact ⟨_, hrun a w g p ((hv.cellv (by simp)).ptrv hg), .ofc (.ptr (.inr ⟨g, hg, rfl⟩))⟩
      · exact h.elim
    · rename_i b k i p hx
      split at h
      · rename_i k' l hb
        rw [bcase_iff] at h
        rcases h with ⟨_, h⟩ | ⟨_, h⟩
        · refine ok_pure h fun a f w S inj hop hf hi => ?_
          have hv := hop x hmem
          rw [hx] at hv
          obtain ⟨v, g, hg, _⟩ := hi.rows ((hf b (by simp)).trans hb)
          obtain ⟨g', n, c, hg', he⟩ := (hv.cellv (by simp)).epv (by rw [hg]; simp)
          exact ⟨_, hrun a w _ _ he, .ofc (.ep (.inr ⟨g', n, c, hg', by rw [Nat.add_assoc]⟩))⟩
        · exact h.elim
      · exact h.elim
    · rename_i cs hx
      refine ok_pure h fun a f w S inj hop hf hi => ?_
      have hv := hop x hmem
      rw [hx] at hv
      generalize he : a.eval x = v at hv
      have hv := hv.cellv (by simp)
      cases hv with
      | @rp _ g p vals hg hc hp' =>
        refine ⟨_, hrun a w g p he, .ofc (.rp (fun j => vals (oo + j)) hg (fun j hj => ?_) (fun j c hj => ?_))⟩
        · rw [dropR_eq] at hj
          have := hc (oo + j) (by simp at hj; omega)
          rwa [Nat.add_assoc]
        · rw [dropR_eq] at hj
          exact hp' (oo + j) c (by simpa using hj)
    · exact h.elim
  · exact h.elim
end Go.Proofs.Ytaiedakbmmgmaaa.E
