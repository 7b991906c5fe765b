/- Soundness of the operations, last part: literals, conversions; all operations together. -/
import Derived.Test.YtaiedakbmmgmaaaEvOps12
import Derived.Laws.Cover2
import Derived.Laws.FloatArith
import Derived.Laws.IdiomStrings
import Derived.Laws.BytesArg
set_option linter.unusedVariables false
set_option linter.unusedSimpArgs false
namespace Go.Proofs.Ytaiedakbmmgmaaa.E
open Go
variable {P : Program} {T : List TI} {t : List A} {σ : List Blk} {nx : Nat} {o : Oper} {K : Kont}

theorem chunk_spec (k : Nat) : ∀ (n : Nat) (ps : List PC), ps.length = n * k → (chunk k n ps).length = n ∧ (chunk k n ps).flatten = ps ∧ ∀ r ∈ chunk k n ps, r.length = k
  | 0, ps, h => by
    have : ps = [] := List.eq_nil_of_length_eq_zero (by simpa using h)
    subst this
    exact ⟨rfl, rfl, fun r hr => by cases hr⟩
  | n + 1, ps, h => by
    have e : chunk k (n + 1) ps = takeR ps k :: chunk k n (dropR ps k) := rfl
    rw [Nat.add_mul] at h
    obtain ⟨h1, h2, h3⟩ := chunk_spec k n (ps.drop k) (by simp; omega)
    rw [e, takeR_eq, dropR_eq]
    refine ⟨by simp [h1], by simp [h2], fun r hr => ?_⟩
    rcases List.mem_cons.1 hr with rfl | hr
    · simp; omega
    · exact h3 r hr
theorem F2_rep {α β : Type} {R : α → β → Prop} {l : List α} {m : List β} (h : F2 R l m) : ∀ n, F2 R (List.replicate n l).flatten (List.replicate n m).flatten
  | 0 => .nil
  | n + 1 => by simp only [List.replicate_succ, List.flatten_cons]; exact h.app (F2_rep h n)
theorem buildSlice_ok (hT : TOk P T) {s n : Nat} {ps : Array (Nat × Operand)} (ho : o.op = .buildSlice s n ps) (h : stepC T t σ nx (.buildSlice s n ps) K) : StepOk P t σ nx o K := by
  dsimp only [stepC] at h
  split at h
  · rename_i e hd
    have hD := ((hT s).desc (by rw [hd]; simp)).d
    rw [hd] at hD
    obtain ⟨cs', h, hl, hok⟩ := fillF_ok (place := fun i => some (i * (ty T e).sz, (ty T e).sz)) (fun i q hq => hq) _ h
    obtain ⟨qs, bs, h, hql, hnd, hokp⟩ := toPs_ok _ h
    have hb := (bcF h).1
    replace h := (bcF h).2
    simp only [Bool.and_eq_true] at hb
    have hb1 := Nat.le_of_ble_eq_true hb.1
    have hb2 := Nat.le_of_ble_eq_true hb.2
    have hI := (hT e).known (by omega)
    obtain ⟨i, zv, hi', hs1, hs2, hz, hzc, _⟩ := hI.info
    rw [mapR_eq] at h
    have hzl : (ty T e).z.length = (ty T e).sz := hI.z
    have hcl : cs'.length = n * (ty T e).sz := by
      rw [hl, flatR_eq, repR_eq, flatten_len (k := (ty T e).sz)]
      · simp
      · intro r hr
        rw [List.eq_of_mem_replicate hr, zeroC, mapR_eq, List.length_map]; exact hzl
    obtain ⟨hc1, hc2, hc3⟩ := chunk_spec (ty T e).sz n qs (by rw [hql]; exact hcl)
    refine new_rows h fun a w S inj f hop hi hf => ?_
    have hzs : F2 (VR w S inj) (flatR (repR (zeroC T e) n)) (List.replicate n (ty T e).z).flatten := by
      rw [flatR_eq, repR_eq]
      exact F2_rep (zeroC_ok hI) n
    have hops : F2 (fun (p : Nat × A) (q : Nat × Value) => p.1 = q.1 ∧ VA w S inj p.2 q.2) (mapR (fun p => (p.1, opd t p.2)) ps.toList) (ps.toList.map fun p => (p.1, a.eval p.2)) := by
      rw [mapR_eq]
      exact partsOf _ fun x hx => hop x (by simpa [ho, Op.operands] using hx)
    obtain ⟨vs', hfill, hvs'⟩ := hok hops hzs
    have hvl : vs'.length = n * (ty T e).sz := by rw [← hvs'.len]; exact hcl
    have hpr := hokp hi (fun b hb => hf b (by simp [hb])) hvs'
    refine ⟨fun b hb => by rw [hf b (by simp [hb])]; exact hnd b hb, w, vs'.toArray, e, n, n, fun _ _ => rfl, rfl, rfl, rfl, rfl, ?_, hb2, hc1.symm, Nat.le_refl _, ?_, by simpa using hvl, hc3, ?_⟩
    · have hmc := madeCells_flat (ty T e).z (by omega) n
      have hmade : ((Array.range (n * (ty T e).sz)).map fun j => zv.cells[j % zv.cells.size]!) = (List.replicate n (ty T e).z).flatten.toArray := by
        apply Array.ext'
        rw [← hmc, hzl, ← hzc]
        simp [madeCells]
      have hne : n * (ty T e).sz = 0 → n = 0 := fun h => by
        rcases Nat.mul_eq_zero.1 h with h | h
        · exact h
        · omega
      have hle : ¬ (2 ^ 24 < n * (ty T e).sz) := by omega
      have hle' : ¬ (16777216 < n * (ty T e).sz) := by omega
      unfold execOp
      simp only [ho, Instr.buildSlice, Sem.run_bind, run_underlying hD, Result.andThen_ok, hI.size]
      rw [if_neg (by omega)]
      by_cases h0 : n * (ty T e).sz = 0
      · have hn0 := hne h0
        subst hn0
        have hr : ∀ f : Nat → Value, Array.map f (Array.range 0) = #[] := by simp
        have hm : (Array.map (fun p : Nat × Operand => (p.1, a.eval p.2)) ps).toList = ps.toList.map fun p => (p.1, a.eval p.2) := by simp
        simp only [Nat.zero_mul, if_true, Sem.run_bind, Sem.run_pure, Result.andThen_ok]
        have hfill' : Instr.fill (fun i => some (i * (ty T e).sz, (ty T e).sz)) #[] (ps.toList.map fun p => (p.1, a.eval p.2)) = some vs'.toArray := by simpa using hfill
        rw [hm, hr]
        simp only [hfill']
        rfl
      · simp only [h0, if_false, Sem.run_bind, zeroValue, typeInfo, run_program, Result.andThen_ok, hi', hz, Sem.run_pure]
        rw [hmade]
        have hm : (Array.map (fun p : Nat × Operand => (p.1, a.eval p.2)) ps).toList = ps.toList.map fun p => (p.1, a.eval p.2) := by simp
        rw [hm]
        simp only [hfill]
        rfl
    · simp only [maxLen]
      have : n ≤ n * (ty T e).sz := Nat.le_mul_of_pos_right _ hb2
      omega
    · rw [hc2, ← hvl, List.take_length]
      exact hpr
  · exact h.elim

/-- memory that stays, one block more -/
theorem Inv.growS {w S w' S' inj f} (hi : Inv w S inj f) (hg : Grow w S w' S') (hw : ∀ g, g < w.heap.size → w'.heap[g]? = w.heap[g]?) (hs : ∀ g, S'.all g → S.all g ∨ (w.heap.size ≤ g ∧ g < w'.heap.size)) (hd : ∀ g, S'.fr g → ¬ S' g) : Inv w' S' inj f := by
  refine ⟨fun b => ?_, hi.sep, fun g hg' => ?_, hd⟩
  · by_cases hb : f b = .dead
    · rw [hb]; trivial
    · refine (hi.live b).grow hg (.refl _) (fun g hl => hw g ((hi.live b).blk hb hl).2) fun g hl h => ?_
      have h1 := (hi.live b).blk hb hl
      rcases hs g h with h | h
      · exact h1.1 h
      · omega
  · rcases hs g hg' with h | h
    · exact Nat.lt_of_lt_of_le (hi.lt g h) hg.size
    · exact h.2
theorem Inv.growG {w S w' S' inj f} (hi : Inv w S inj f) (hg : Grow w S w' S') (hw : ∀ b g, f b ≠ .dead → (inj b).blk = some g → w'.heap[g]? = w.heap[g]? ∧ ¬ S'.all g) (hlt : ∀ g, S'.all g → g < w'.heap.size) (hd : ∀ g, S'.fr g → ¬ S' g) : Inv w' S' inj f := by
  refine ⟨fun b => ?_, hi.sep, hlt, hd⟩
  by_cases hb : f b = .dead
  · rw [hb]; trivial
  · exact (hi.live b).grow hg (.refl _) (fun g hl => (hw b g hb hl).1) fun g hl => (hw b g hb hl).2
theorem PR.cells {w w' S c v} (h : PR w S c v) (hc : ∀ g o, S.s g → w'.cell? ⟨g, o, none⟩ = w.cell? ⟨g, o, none⟩) : PR w' S c v := by
  induction h with
  | v hf => exact .v hf
  | @sl rows base cap k vals hcap hk hrow hb hcc hv ih =>
    refine .sl vals hcap hk hrow hb (fun g o e i j hi hj => ?_) ih
    rcases hb with rfl | ⟨g', o', e', hs⟩
    · simp at hi
    · rw [e'] at e; injection e with e; injection e with e1 e2; subst e1; subst e2
      rw [hc _ _ hs]; exact hcc _ _ e' i j hi hj
theorem freeze_heap (w : World) (g n m : Nat) (hm : m ≠ 0) (g' : Nat) (hg : g' ≠ g) : (w.freeze ⟨g, n, none⟩ m).heap[g']? = w.heap[g']? := by
  unfold World.freeze
  rw [if_neg hm]
  show (w.heap.modify g _)[g']? = _
  rw [Array.getElem?_modify, if_neg (Ne.symm hg)]
theorem freeze_cell (w : World) (g n m g' o : Nat) : (w.freeze ⟨g, n, none⟩ m).cell? ⟨g', o, none⟩ = w.cell? ⟨g', o, none⟩ := by
  by_cases hm : m = 0
  · unfold World.freeze; rw [if_pos hm]
  · by_cases hg : g' = g
    · subst hg
      unfold World.freeze
      rw [if_neg hm]
      unfold World.cell?
      show (match (w.heap.modify g' _)[g']? with | some (.cells c _ _) => _ | _ => none) = _
      rw [Array.getElem?_modify, if_pos rfl]
      cases w.heap[g']? with
      | none => rfl
      | some o => cases o <;> rfl
    · exact World.cell?_of_block (freeze_heap w g n m hm g' hg)
theorem freeze_size (w : World) (g n m : Nat) : (w.freeze ⟨g, n, none⟩ m).heap.size = w.heap.size := by
  unfold World.freeze
  split
  · rfl
  · show (w.heap.modify g _).size = _
    simp
theorem freeze_os (w : World) (a : Addr) (m : Nat) : (w.freeze a m).os = w.os ∧ (w.freeze a m).tape = w.tape ∧ (w.freeze a m).output = w.output := by
  unfold World.freeze
  split <;> exact ⟨rfl, rfl, rfl⟩
def numOf : List PC → Int
  | [.v (.int .u8 n)] => n
  | _ => 0
theorem strOf_nums {l : List (List PC)} (h : strOk l = true) : strOfNums (l.map numOf) = strOf l := by
  unfold strOfNums strOf
  congr 2
  rw [List.map_map]
  refine List.map_congr_left fun r hr => ?_
  have := List.all_eq_true.1 h r hr
  unfold pcByte at this ⊢
  simp only [Function.comp]
  unfold numOf
  split <;> simp_all
theorem str_rows {w S l v} (hk : strOk l = true) (h : PR w S (.sl l) v) {s d e : Nat} (hs : P.underlying s = some (.slice e)) (he : P.underlying e = some (.int .u8)) (hd : P.underlying d = some .string) :
    (convert s d v).run P w = .ok (.string (strOf l)) w := by
  cases h with
  | @sl _ base cap k vals hcap hk0 hrow hb hc hv =>
    by_cases hl : l = []
    · subst hl
      cases base with
      | none =>
        rw [run_convert_bytes_string w s d e none _ cap hs he hd]
        simp [Conv.bytesToString, strOf, ByteArray.empty, ByteArray.emptyWithCapacity]
        rfl
      | some a =>
        rw [run_convert_bytes_string w s d e (some a) _ cap hs he hd]
        refine (run_bytesToString w a 0 cap [] (by simp [loadCells, loadCellsFrom])).trans ?_
        simp [strOf, ByteArray.empty, ByteArray.emptyWithCapacity]
        try rfl
    · obtain ⟨g, o, rfl, hg⟩ := hb.resolve_left hl
      have hone : ∀ r ∈ l, ∃ n, r = [.v (.int .u8 n)] := fun r hr => by
        have := List.all_eq_true.1 hk r hr
        unfold pcByte at this
        split at this
        · exact ⟨_, rfl⟩
        · cases this
      have hk1 : k = 1 := by
        cases l with
        | nil => exact absurd rfl hl
        | cons r l =>
          obtain ⟨n, rfl⟩ := hone r (by simp)
          have := hrow _ (List.mem_cons_self ..)
          simpa using this.symm
      subst hk1
      rw [run_convert_bytes_arg w s e hs he g o l.length cap (l.map numOf) (by simp) (fun i hi => ?_) d hd, strOf_nums hk]
      have h1 := hc g o rfl i 0 hi (by omega)
      rw [Nat.mul_one, Nat.add_zero] at h1
      rw [h1]
      obtain ⟨n, hn⟩ := hone (l[i]) (List.getElem_mem ..)
      have h2 := hv i 0 (l[i]) (.v (.int .u8 n)) (List.getElem?_eq_getElem hi) (by rw [hn]; rfl)
      have h3 : vals i 0 = .int .u8 n := by generalize vals i 0 = y at h2; cases h2; rfl
      rw [h3]
      rw [List.getD_eq_getElem?_getD, List.getElem?_map, List.getElem?_eq_getElem hi]
      simp only [Option.map_some, Option.getD_some, hn, numOf]
theorem bytes_pr {w' S' g cap} {s : ByteArray} {e : Nat} {fr : Nat × Nat} (hg : Zone.s S' g) (hh : w'.heap[g]? = some (.cells (bytesRow s cap) e fr)) (hcap : s.size ≤ cap) : PR w' S' (.sl (bytesS s)) (.slice (some ⟨g, 0, none⟩) s.size cap) := by
  have hl : (bytesS s).length = s.size := by
    show (List.map _ s.data.toList).length = s.data.size
    rw [List.length_map, Array.length_toList]
  have key := @PR.sl w' S' (bytesS s) (some ⟨g, 0, none⟩) cap 1 (fun i _ => .int .u8 ((s.data.toList.getD i 0).toNat : Int)) (by rw [hl]; exact hcap) (by omega)
    (fun r hr => by unfold bytesS at hr; obtain ⟨b, _, rfl⟩ := List.mem_map.1 hr; rfl)
    (.inr ⟨g, 0, rfl, hg⟩)
    (fun g' o' he i j hi hj => by
      injection he with he; injection he with h1 h2; subst h1; subst h2
      rw [hl] at hi
      have hi' : i < s.data.size := hi
      unfold World.cell?
      simp only [hh, Option.isSome_none, Bool.false_eq_true, if_false]
      have : 0 + i * 1 + j = i := by omega
      rw [this]
      unfold bytesRow
      rw [Array.getElem?_append_left (by simpa using hi')]
      rw [Array.getElem?_map, Array.getElem?_eq_getElem hi']
      simp [List.getD_eq_getElem?_getD, hi']
      rw [Array.getElem?_eq_getElem hi', Option.getD_some])
    (fun i j r c hr hc => by
      unfold bytesS at hr
      rw [List.getElem?_map] at hr
      obtain ⟨b, hb, rfl⟩ := Option.map_eq_some_iff.1 hr
      cases j with
      | zero => simp at hc; subst hc; rw [List.getD_eq_getElem?_getD, hb]; exact .v rfl
      | succ j => simp at hc)
  rw [hl] at key
  exact key

theorem convert_ok (hT : TOk P T) {s d : Nat} {x : Operand} (ho : o.op = .convert s d x) (h : stepC T t σ nx (.convert s d x) K) : StepOk P t σ nx o K := by
  dsimp only [stepC, convC] at h
  have hk := (bcF h).1
  replace h := (bcF h).2
  have hs : ∃ u, P.underlying s = some u := by
    have hd := ((hT s).desc (by rintro h; rw [h] at hk; cases hk)).d
    generalize (ty T s).d = y at hd hk
    cases y <;> first | exact ⟨_, hd⟩ | exact ⟨_, hd.choose_spec.1⟩ | exact ⟨_, hd.choose_spec⟩ | cases hk
  obtain ⟨u, hs⟩ := hs
  have hss : (P.underlying s).isSome = true := by rw [hs]; rfl
  split at h
  · rename_i _ k k' n hdd hx
    have hD := ((hT d).desc (by rw [hdd]; simp)).d
    rw [hdd] at hD
    have hik : P.intKind d = k := by unfold Program.intKind; rw [hD]
    refine ok_val h rfl fun a f w S inj hop hf hi => ?_
    have hv := hop x (by simp [ho, Op.operands])
    rw [hx] at hv
    have := run_convert_int (P := P) w s d k' n hss (by rw [hik]; exact hD)
    unfold execOp; simp [ho, hv.flatv.1, this, hik, wr]
  · rename_i _ k k' n hdd hx
    have hD := ((hT d).desc (by rw [hdd]; simp)).d
    rw [hdd] at hD
    refine ok_val h rfl fun a f w S inj hop hf hi => ?_
    have hv := hop x (by simp [ho, Op.operands])
    rw [hx] at hv
    have := run_convert_int_float (P := P) w s d k' k n hss hD
    unfold execOp; simp [ho, hv.flatv.1, this, ofI, floatOfInt]
  · rename_i _ k s' b hdd hx
    have hD := ((hT d).desc (by rw [hdd]; simp)).d
    rw [hdd] at hD
    have hb := (bcF h).1
    replace h := (bcF h).2
    refine ok_val h rfl fun a f w S inj hop hf hi => ?_
    have hv := hop x (by simp [ho, Op.operands])
    rw [hx] at hv
    have hq : floatToIntVal s' b k = some (toIV s' b) := by
      unfold toIOk at hb
      unfold floatToIntVal toIV
      split at hb
      · rename_i m hm
        simp only [decide_eq_true_eq] at hb
        simp [hm, hb.1, hb.2]
      · cases hb
    have := run_convert_float_int (P := P) w s d s' k b _ hss hD hq
    unfold execOp; simp [ho, hv.flatv.1, this]
  · rename_i u' hdd hsd hx
    have hD := ((hT d).desc (by rw [hdd]; simp)).d
    rw [hdd] at hD
    have hD' := ((hT s).desc (by rw [hsd]; simp)).d
    rw [hsd] at hD'
    refine ok_val h rfl fun a f w S inj hop hf hi => ?_
    have hv := hop x (by simp [ho, Op.operands])
    rw [hx] at hv
    unfold execOp; simp [ho, hv.flatv.1, convert, run_underlying hD, run_underlying hD']
  · rename_i e u' hdd hsd hx
    have hD := ((hT d).desc (by rw [hdd]; simp)).d
    rw [hdd] at hD
    have hD' := ((hT s).desc (by rw [hsd]; simp)).d
    rw [hsd] at hD'
    split at h
    · rename_i hee
      have hE := ((hT e).desc (by rw [hee]; simp)).d
      rw [hee] at hE
      refine ⟨_, _, _, _, h, fun a f w S inj next Q hop hf hi hfr hn => ?_⟩
      have hv := hop x (by simp [ho, Op.operands])
      rw [hx] at hv
      have hrun := run_bytes_of_string (P := P) w s d e u' hD' hD hE
      have hG : Grow w S (w.drew.alloc (.cells (bytesRow u' (grownCap w u'.size 0 e)) e ((bytesRow u' (grownCap w u'.size 0 e)).size, (bytesRow u' (grownCap w u'.size 0 e)).size + 1))) ⟨fun g => S.s g ∨ g = w.heap.size, S.fr⟩ :=
        ⟨rfl, rfl, rfl, by simp, fun g hg => hao w.drew _ g (hi.lt g hg), fun g hg => .inl hg, rfl⟩
      refine wp_of_value (v := .slice (some ⟨w.heap.size, 0, none⟩) u'.size (grownCap w u'.size 0 e)) (by unfold execOp; simp [ho, hv.flatv.1, hrun]) (hn _ _ _ inj ⟨hG, .refl _, fun _ h _ => h, .ofc (.p (bytes_pr (.inr rfl) (han w.drew _) (grownCap_ge ..))), ?_⟩)
      rw [upd_nil]
      refine hi.growS hG (fun g hg => hao w.drew _ g hg) (fun g hg => ?_) fun g hg h => ?_
      · rcases hg with (hg | rfl) | hg
        · exact .inl (.inl hg)
        · exact .inr ⟨Nat.le_refl _, by show w.heap.size < (w.heap.push _).size; simp⟩
        · exact .inl (.inr hg)
      · rcases h with h | rfl
        · exact hi.dj g hg h
        · exact absurd (hi.lt _ (.inr hg)) (Nat.lt_irrefl _)
    · exact h.elim
  · rename_i e e2 b hdd hsd hx
    have hD := ((hT d).desc (by rw [hdd]; simp)).d
    rw [hdd] at hD
    split at h
    · rename_i hee
      have hE := ((hT e).desc (by rw [hee]; simp)).d
      rw [hee] at hE
      split at h
      · rename_i k l hb
        have hsd' := Nat.eq_of_beq_eq_true (bcF h).1
        subst hsd'
        replace h := (bcF h).2
        have hlen := (bcF h).1
        replace h := (bcF h).2
        refine ⟨_, _, _, _, h, fun a f w S inj next Q hop hf hi hfr hn => ?_⟩
        have hv := hop x (by simp [ho, Op.operands])
        rw [hx] at hv
        have hfb := (hf b (by simp)).trans hb
        obtain ⟨v0, g0, hg0, hro⟩ := hi.rows hfb
        have he := (hv.cellv (by simp)).ownv hg0
        have hro' := hro
        rcases hro with ⟨rfl, _⟩ | ⟨g, cap, cur, e', hk0, rfl, rfl, hnS, hh, hcap, hmax, hcs, hrl, hfl⟩
        · simp [lenB] at hlen
        · have hfd : f b ≠ .dead := by rw [hfb]; simp
          have hblk : (inj b).blk = some g := by rw [hg0]; rfl
          have hgs : g < w.heap.size := ((hi.live b).blk hfd hblk).2
          have hG : Grow w S (w.freeze ⟨g, cur.size, none⟩ 1) ⟨fun g' => S.s g' ∨ g' = g, S.fr⟩ :=
            ⟨(freeze_os ..).1, (freeze_os ..).2.1, (freeze_os ..).2.2, by rw [freeze_size]; exact Nat.le_refl _, fun g' hg' => freeze_heap w g _ 1 (by omega) g' (by rintro rfl; exact hnS hg'), fun g' hg' => .inl hg', rfl⟩
          have hrun : (execOp a.eval o).run P w = .ok (.value (.slice (some ⟨g, 0, none⟩) l.length cap)) (w.freeze ⟨g, cur.size, none⟩ 1) := by
            have hsh : w.shape? g = some (e', cur.size) := by unfold World.shape?; rw [hh]
            unfold execOp
            simp [ho, he, convert, run_underlying hD, run_underlying hE, markStringish, hsh]
          have hpr : PR (w.freeze ⟨g, cur.size, none⟩ 1) ⟨fun g' => S.s g' ∨ g' = g, S.fr⟩ (.sl l) (.slice (some ⟨g, 0, none⟩) l.length cap) :=
            (hro'.pure (S' := ⟨fun g' => S.s g' ∨ g' = g, S.fr⟩) (fun _ h => .inl h) (fun g' e => by injection e with e; exact .inr e.symm)).cells fun g' o' _ => freeze_cell ..
          refine wp_of_value hrun (hn _ _ _ (injAt inj b .dead) ⟨hG, injAt_dead, fun c hc hcc => ?_, .ofc (.p hpr), ?_⟩)
          · rw [injAt_ne (by rintro rfl; rw [hg0] at hc; cases hc)]; exact hc
          · have hupd : upd f nx [(b, .dead)] [] = setB f b .dead := by
              funext c
              unfold upd setB
              rw [if_neg (by simp)]
              by_cases hcb : c = b
              · subst hcb; simp
              · simp [hcb, Ne.symm hcb]
            rw [hupd]
            refine hi.drop.growG hG (fun b' g' hd' hg' => ?_) (fun g' hg' => ?_) fun g' hg' h' => ?_
            · have hbb : b' ≠ b := by rintro rfl; rw [setB_same] at hd'; exact hd' rfl
              rw [setB_ne hbb] at hd'
              rw [injAt_ne hbb] at hg'
              have hne : g' ≠ g := by rintro rfl; exact hbb (hi.sep _ _ _ hd' hfd hg' hblk)
              have hns := ((hi.live b').blk hd' hg').1
              refine ⟨freeze_heap w g _ 1 (by omega) g' hne, ?_⟩
              rintro ((h | h) | h)
              · exact hns (.inl h)
              · exact hne h
              · exact hns (.inr h)
            · rw [freeze_size]
              rcases hg' with (h | rfl) | h
              · exact hi.lt _ (.inl h)
              · exact hgs
              · exact hi.lt _ (.inr h)
            · rcases h' with h | rfl
              · exact hi.dj _ hg' h
              · exact hnS (.inr hg')
      · exact h.elim
    · exact h.elim
  · rename_i e c hdd hsd hx
    have hD := ((hT d).desc (by rw [hdd]; simp)).d
    rw [hdd] at hD
    have hD' := ((hT s).desc (by rw [hsd]; simp)).d
    rw [hsd] at hD'
    split at h
    · rename_i hee
      have hE := ((hT e).desc (by rw [hee]; simp)).d
      rw [hee] at hE
      have hcj : c ≠ .junk := by
        rintro rfl
        exact h.elim
      obtain ⟨l, bs, h, hok⟩ := rowsF_ok h
      have hst := (bcF h).1
      replace h := (bcF h).2
      refine ok_val h rfl fun a f w S inj hop hf hi => ?_
      have hv := hop x (by simp [ho, Op.operands])
      rw [hx] at hv
      have := str_rows hst (hok hi hf (hv.cellv hcj)) hD' hE hD
      unfold execOp; simp [ho, this]
    · exact h.elim
  · exact h.elim
end Go.Proofs.Ytaiedakbmmgmaaa.E
