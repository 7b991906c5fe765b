/- Soundness of the operations, tenth part: append, slices of slices, literals, conversions, the other builtins. -/
import Derived.Test.YtaiedakbmmgmaaaEvOps9
set_option linter.unusedVariables false
set_option linter.unusedSimpArgs false
namespace Go.Proofs.Ytaiedakbmmgmaaa.E
open Go
variable {P : Program} {T : List TI} {t : List A} {σ : List Blk} {nx : Nat} {o : Oper} {K : Kont}

/-- what append's own row and what is appended come to -/
theorem rowOk_app {k : Nat} {l l' : List (List PC)} {w S g cap e} {olds news rest : List Value} (hk0 : 0 < k) (hs : ¬ S.all g) (hh : w.heap[g]? = some (.cells (olds ++ news ++ rest).toArray e (0, 0))) (hcap : l.length + l'.length ≤ cap) (hmax : cap ≤ maxLen)
    (hsz : (olds ++ news ++ rest).length = cap * k) (h1 : ∀ r ∈ l, r.length = k) (h2 : ∀ r ∈ l', r.length = k) (hf1 : F2 (PR w S) l.flatten olds) (hf2 : F2 (PR w S) l'.flatten news) :
    RowOk w S k (catL l l') (.slice (some ⟨g, 0, none⟩) (l.length + l'.length) cap) (some g) := by
  unfold catL
  refine .inr ⟨g, cap, _, e, hk0, rfl, by simp, hs, hh, by simpa using hcap, hmax, by simpa using hsz, fun r hr => ?_, ?_⟩
  · rcases List.mem_append.1 hr with hr | hr
    · exact h1 r hr
    · exact h2 r hr
  · rw [List.flatten_append]
    have e1 : (l ++ l').length * k = (olds ++ news).length := by
      rw [List.length_append, List.length_append, ← hf1.len, ← hf2.len, flatten_len h1, flatten_len h2, Nat.add_mul]
    rw [e1]
    show F2 _ _ (((olds ++ news) ++ rest).take (olds ++ news).length)
    rw [List.take_left]
    exact hf1.app hf2
theorem rowsOk_iff {l : List (List PC)} {k : Nat} (h : rowsOk l k = true) : ∀ r ∈ l, r.length = k := by
  unfold rowsOk at h; simp at h; exact h
/-- append -/
theorem appendC_ok (hT : TOk P T) {s s' e : Nat} {so xo : Operand} {sc xc : C} {news : List (List PC)} {rd : List Nat} (ho : o.op = .call { callee := .builtin .append, args := #[so, xo], argTypes := #[s, s'] })
    (hso : opd t so = .one sc) (hxo : opd t xo = .one xc) (hxj : xc ≠ .junk) (hd : P.underlying s = some (.slice e)) {d' : TypeDesc} (hd' : P.underlying s' = some d') (hdd : d' = .string ∨ ∃ e2, d' = .slice e2)
    (hsrc : ∀ {w S inj f v}, Inv w S inj f → (∀ b, b ∈ rd → f b = look σ b) → VR w S inj xc v → ∃ us, Src P w (ty T e).sz news.length v us ∧ F2 (PR w S) news.flatten us)
    (h : appendC T σ nx e sc news rd K) : StepOk P t σ nx o K := by
  have hms : so ∈ o.op.operands := by simp [ho, Op.operands, Call.operands]
  have hmx : xo ∈ o.op.operands := by simp [ho, Op.operands, Call.operands]
  have hrun : ∀ (a : Act) (w w' : World) (v' : Value), (Builtin.append_ #[s, s'] o.type #[a.eval so, a.eval xo]).run P w = .ok v' w' → (execOp a.eval o).run P w = .ok (.value v') w' := fun a w w' v' hr => by
    unfold execOp
    simp only [ho, resolve, invoke, builtin, Sem.run_bind, Sem.run_pure, Result.andThen_ok, List.map_toArray, List.map_cons, List.map_nil, hr]
  unfold appendC at h
  split at h
  · rename_i b
    split at h
    · rename_i k l hb
      obtain ⟨hc, h⟩ := bcF h
      obtain ⟨hsz, h⟩ := bcF h
      simp only [Bool.and_eq_true, Bool.or_eq_true] at hc
      obtain ⟨⟨hroom, hrows⟩, hk⟩ := hc
      have hsz := Nat.le_of_ble_eq_true hsz
      have hI := (hT e).known (by omega)
      have hrows := rowsOk_iff hrows
      unfold roomFor at hroom
      simp only [decide_eq_true_eq] at hroom
      refine ⟨_, _, _, _, h, fun a f w S inj next Q hop hf hi hfr hn => ?_⟩
      have hfb := (hf b (by simp)).trans hb
      have hvs := hop so hms
      have hvx := hop xo hmx
      rw [hso] at hvs
      rw [hxo] at hvx
      obtain ⟨v0, g0, hg0, hro⟩ := hi.rows hfb
      have he := (hvs.cellv (by simp)).ownv hg0
      obtain ⟨us, hS, hfu⟩ := hsrc hi (fun b hb => hf b (by simp [hb])) (hvx.cellv hxj)
      have h00 : inj nx = .free ∧ f nx = .dead := by simpa using hfr 0 (by simp)
      have hbn : b ≠ nx := by rintro rfl; rw [hfb] at h00; cases h00.2
      have hid := hi.drop (b := b)
      have hfree : injAt inj b .dead nx = .free := by rw [injAt_ne (Ne.symm hbn)]; exact h00.1
      have hupd : upd f nx [(b, .dead)] [.rows (ty T e).sz (catL l news)] = setB (setB f b .dead) nx (.rows (ty T e).sz (catL l news)) := by
        have := upd_kill_one f nx [b] (.rows (ty T e).sz (catL l news))
        simp only [List.map_cons, List.map_nil] at this
        rw [this]
        congr 1
        funext c
        by_cases hcb : c = b
        · subst hcb; rw [killB_dead (by simp), setB_same]
        · rw [killB_ne (by simpa using hcb), setB_ne hcb]
      -- the world w' and the new place
      have fin : ∀ (w' : World) (v' : Value) (g : Option Nat), Grow w S w' S → (execOp a.eval o).run P w = .ok (.value v') w' → (∃ ad n c, v' = .slice ad n c) →
          (∀ b' g', b' ≠ b → f b' ≠ .dead → (inj b').blk = some g' → w'.heap[g']? = w.heap[g']?) → RowOk w' S (ty T e).sz (catL l news) v' g →
          (∀ b' g', b' ≠ b → f b' ≠ .dead → g = some g' → (inj b').blk = some g' → False) → o.wp P a w next Q := by
        intro w' v' g hG hr hv' hw hR hsep
        obtain ⟨ad, n, c, rfl⟩ := hv'
        have hle := injAt_le (l := .row (.slice ad n c) g) hfree
        refine wp_of_value hr (hn _ _ S (injAt (injAt inj b .dead) nx (.row (.slice ad n c) g)) ⟨hG, injAt_dead.trans hle, fun c' hc' hcc => ?_, .ofc (.own (.inr ⟨_, injAt_same⟩)), ?_⟩)
        · rw [injAt_ne (by simp at hcc; omega), injAt_ne (by rintro rfl; rw [hg0] at hc'; cases hc')]; exact hc'
        · rw [hupd]
          refine hid.set hG hle (fun _ h => injAt_ne h) injAt_same (fun b' g' hb' hd' hg' => ?_) ⟨_, _, rfl, hR⟩ (fun _ b' g' hb' hd' hg1 hg2 => ?_) (fun g' hg' => Nat.lt_of_lt_of_le (hi.lt g' hg') hG.size)
          · have hbb : b' ≠ b := by rintro rfl; rw [setB_same] at hd'; exact hd' rfl
            rw [setB_ne hbb] at hd'
            rw [injAt_ne hbb] at hg'
            exact ⟨hw b' g' hbb hd' hg', ((hi.live b').blk hd' hg').1⟩
          · have hbb : b' ≠ b := by rintro rfl; rw [setB_same] at hd'; exact hd' rfl
            rw [setB_ne hbb] at hd'
            rw [injAt_ne hbb] at hg2
            exact hsep b' g' hbb hd' hg1 hg2
      rcases hro with ⟨rfl, rfl, ad, rfl⟩ | ⟨g, cap, cur, e', hk0, rfl, rfl, hnS, hh, hcap, hmax, hcs, hrl, hfl⟩
      · -- an empty slice without room
        by_cases hm : news.length = 0
        · have hnews : news = [] := List.eq_nil_of_length_eq_zero hm
          subst hnews
          have hus : us = [] := List.eq_nil_of_length_eq_zero (by rw [hS.l]; simp)
          subst hus
          have hr := append_none (ty := o.type) hd hd' hdd hI hS (base := ad) (n := 0) (cap := 0) (Nat.le_refl _)
          rw [← he] at hr
          rw [he] at hr
          refine fin w (.slice ad 0 0) none (.refl _ _) (hrun a w w _ (by rw [he]; exact hr)) ⟨_, _, _, rfl⟩ (fun _ _ _ _ _ => rfl) (.inl ⟨rfl, rfl, ad, rfl⟩) (fun _ _ _ _ h => by cases h)
        · have ho0 : (Builtin.firstCells (ty T e).sz 0 (.slice ad 0 0)).run P w.drew = .ok ([] : List Value).toArray w.drew := by
            cases ad <;> simp [Builtin.firstCells, loadCells, loadCellsFrom]
          obtain ⟨zs, hzl, hr⟩ := append_grow (ty := o.type) hd hd' hdd hI hS ho0 (by omega) (by simpa using hroom.1) (by simpa using hroom.2)
          have hge := grownCap_ge w (0 + news.length) 0 e
          have hgm := grownCap_le_maxLen w (0 + news.length) 0 e (by simp only [maxLen]; simp at hroom; omega)
          have hG : Grow w S (w.drew.alloc (.cells ([] ++ us ++ zs).toArray e)) S := ⟨rfl, rfl, rfl, by simp, fun g' hg' => hao w.drew _ g' (hi.lt g' hg'), fun _ h => h, rfl⟩
          refine fin _ _ (some w.heap.size) hG (hrun a w _ _ (by rw [he]; exact hr)) ⟨_, _, _, rfl⟩ (fun b' g' _ hd' hg' => hao w.drew _ g' ((hi.live b').blk hd' hg').2) ?_ (fun b' g' _ hd' hg1 hg2 => by
            injection hg1 with hg1
            have := ((hi.live b').blk hd' hg2).2
            omega)
          have := rowOk_app (l := []) (l' := news) (w := w.drew.alloc (.cells ([] ++ us ++ zs).toArray e)) (S := S) (g := w.heap.size) (cap := grownCap w (0 + news.length) 0 e) (e := e) (olds := []) (news := us) (rest := zs) hsz (fun hs => absurd (hi.lt _ hs) (by omega)) (han w.drew _) (by simpa using hge) hgm (by
              simp only [List.nil_append, List.length_append, hS.l, hzl]
              rw [← Nat.add_mul]; congr 1; omega) (by simp) hrows .nil (hfu.mono' fun _ _ h => h.grow hG)
          simpa using this
      · -- a row of its own
        have hkk : k = (ty T e).sz := by
          rcases hk with hk | hk
          · exact Nat.eq_of_beq_eq_true hk
          · have := Nat.eq_of_beq_eq_true hk; omega
        subst hkk
        have holdl : (cur.toList.take (l.length * (ty T e).sz)).length = l.length * (ty T e).sz := by
          have : l.length * (ty T e).sz ≤ cap * (ty T e).sz := Nat.mul_le_mul_right _ hcap
          simp; omega
        by_cases hm : l.length + news.length ≤ cap
        · have hfit : l.length * (ty T e).sz + us.length ≤ cur.size := by
            rw [hS.l, ← Nat.add_mul, hcs]; exact Nat.mul_le_mul_right _ hm
          have hr := append_room (ty := o.type) hd hd' hdd hI hS hh hm hfit
          refine fin _ _ (some g) (.setRow hnS) (hrun a w _ _ (by rw [he]; exact hr)) ⟨_, _, _, rfl⟩ (fun b' g' hbb hd' hg' => setRow_other w g g' _ (by
              rintro rfl
              exact hbb (hi.sep b' b _ hd' (by rw [hfb]; simp) hg' (by rw [hg0]; rfl)))) ?_ (fun b' g' hbb hd' hg1 hg2 => by
              injection hg1 with hg1; subst hg1
              exact hbb (hi.sep b' b _ hd' (by rw [hfb]; simp) hg2 (by rw [hg0]; rfl)))
          have hG : Grow w S (w.setRow g (cur.toList.take (l.length * (ty T e).sz) ++ us ++ cur.toList.drop (l.length * (ty T e).sz + us.length)).toArray) S := .setRow hnS
          exact rowOk_app hsz hnS (setRow_heap w g _ _ _ _ hh) hm hmax (by simp; omega) hrl hrows (hfl.mono' fun _ _ h => h.grow hG) (hfu.mono' fun _ _ h => h.grow hG)
        · have ho0 : (Builtin.firstCells (ty T e).sz l.length (.slice (some ⟨g, 0, none⟩) l.length cap)).run P w.drew = .ok (cur.toList.take (l.length * (ty T e).sz)).toArray w.drew := by
            refine run_firstCells_some w.drew _ _ _ _ _ _ holdl (fun j v hj => ?_)
            rw [List.getElem?_take] at hj
            split at hj
            · rw [addr_add, Nat.zero_add, World.cell?_drew]
              simpa [World.cell?, hh] using hj
            · cases hj
          obtain ⟨zs, hzl, hr⟩ := append_grow (ty := o.type) hd hd' hdd hI hS ho0 (by omega) hroom.1 hroom.2
          have hge := grownCap_ge w (l.length + news.length) cap e
          have hgm := grownCap_le_maxLen w (l.length + news.length) cap e (by simp only [maxLen]; omega)
          have hG : Grow w S (w.drew.alloc (.cells (cur.toList.take (l.length * (ty T e).sz) ++ us ++ zs).toArray e)) S := ⟨rfl, rfl, rfl, by simp, fun g' hg' => hao w.drew _ g' (hi.lt g' hg'), fun _ h => h, rfl⟩
          refine fin _ _ (some w.heap.size) hG (hrun a w _ _ (by rw [he]; exact hr)) ⟨_, _, _, rfl⟩ (fun b' g' _ hd' hg' => hao w.drew _ g' ((hi.live b').blk hd' hg').2) ?_ (fun b' g' _ hd' hg1 hg2 => by
            injection hg1 with hg1
            have := ((hi.live b').blk hd' hg2).2
            omega)
          exact rowOk_app hsz (fun hs => absurd (hi.lt _ hs) (by omega)) (han w.drew _) hge hgm (by
              simp only [List.length_append, hS.l, hzl, holdl]
              rw [← Nat.add_mul, ← Nat.add_mul]; congr 1; omega) hrl hrows (hfl.mono' fun _ _ h => h.grow hG) (hfu.mono' fun _ _ h => h.grow hG)
    · exact h.elim
  · -- nil
    obtain ⟨hc, h⟩ := bcF h
    obtain ⟨hsz, h⟩ := bcF h
    simp only [Bool.and_eq_true] at hc
    obtain ⟨hroom, hrows⟩ := hc
    have hsz := Nat.le_of_ble_eq_true hsz
    have hI := (hT e).known (by omega)
    have hrows := rowsOk_iff hrows
    unfold roomFor at hroom
    simp only [decide_eq_true_eq] at hroom
    refine ⟨_, _, _, _, h, fun a f w S inj next Q hop hf hi hfr hn => ?_⟩
    have hvs := hop so hms
    have hvx := hop xo hmx
    rw [hso] at hvs
    rw [hxo] at hvx
    have he := hvs.flatv.1
    obtain ⟨us, hS, hfu⟩ := hsrc hi (fun b hb => hf b (by simpa using hb)) (hvx.cellv hxj)
    have h00 : inj nx = .free ∧ f nx = .dead := by simpa using hfr 0 (by simp)
    have fin : ∀ (w' : World) (v' : Value) (g : Option Nat), Grow w S w' S → (execOp a.eval o).run P w = .ok (.value v') w' → (∃ ad n c, v' = .slice ad n c) →
        (∀ g', g' < w.heap.size → w'.heap[g']? = w.heap[g']?) → RowOk w' S (ty T e).sz (catL [] news) v' g → (∀ g', g = some g' → w.heap.size ≤ g') → o.wp P a w next Q := by
      intro w' v' g hG hr hv' hw hR hsep
      obtain ⟨ad, n, c, rfl⟩ := hv'
      have hle := injAt_le (l := .row (.slice ad n c) g) h00.1
      refine wp_of_value hr (hn _ _ S (injAt inj nx (.row (.slice ad n c) g)) ⟨hG, hle, fun c' hc' hcc => ?_, .ofc (.own (.inr ⟨_, injAt_same⟩)), ?_⟩)
      · rw [injAt_ne (by simp at hcc; omega)]; exact hc'
      · rw [upd_one]
        refine hi.set hG hle (fun _ h => injAt_ne h) injAt_same (fun b' g' hb' hd' hg' => ?_) ⟨_, _, rfl, hR⟩ (fun _ b' g' hb' hd' hg1 hg2 => ?_) (fun g' hg' => Nat.lt_of_lt_of_le (hi.lt g' hg') hG.size)
        · have := (hi.live b').blk hd' hg'
          exact ⟨hw g' this.2, this.1⟩
        · have h1 := ((hi.live b').blk hd' hg2).2
          have h2 := hsep g' hg1
          omega
    by_cases hm : news.length = 0
    · have hnews : news = [] := List.eq_nil_of_length_eq_zero hm
      subst hnews
      have hus : us = [] := List.eq_nil_of_length_eq_zero (by rw [hS.l]; simp)
      subst hus
      have hr := append_none (ty := o.type) hd hd' hdd hI hS (base := none) (n := 0) (cap := 0) (Nat.le_refl _)
      exact fin w (.slice none 0 0) none (.refl _ _) (hrun a w w _ (by rw [he]; exact hr)) ⟨_, _, _, rfl⟩ (fun _ _ => rfl) (.inl ⟨rfl, rfl, none, rfl⟩) (fun _ h => by cases h)
    · have ho0 : (Builtin.firstCells (ty T e).sz 0 (.slice none 0 0)).run P w.drew = .ok ([] : List Value).toArray w.drew := by simp [Builtin.firstCells]
      obtain ⟨zs, hzl, hr⟩ := append_grow (ty := o.type) hd hd' hdd hI hS ho0 (by omega) (by simpa using hroom.1) (by simpa using hroom.2)
      have hge := grownCap_ge w (0 + news.length) 0 e
      have hgm := grownCap_le_maxLen w (0 + news.length) 0 e (by simp only [maxLen]; simp at hroom; omega)
      have hG : Grow w S (w.drew.alloc (.cells ([] ++ us ++ zs).toArray e)) S := ⟨rfl, rfl, rfl, by simp, fun g' hg' => hao w.drew _ g' (hi.lt g' hg'), fun _ h => h, rfl⟩
      refine fin _ _ (some w.heap.size) hG (hrun a w _ _ (by rw [he]; exact hr)) ⟨_, _, _, rfl⟩ (fun g' hg' => hao w.drew _ g' hg') ?_ (fun g' hg1 => by injection hg1 with hg1; omega)
      have := rowOk_app (l := []) (l' := news) (w := w.drew.alloc (.cells ([] ++ us ++ zs).toArray e)) (S := S) (g := w.heap.size) (cap := grownCap w (0 + news.length) 0 e) (e := e) (olds := []) (news := us) (rest := zs) hsz (fun hs => absurd (hi.lt _ hs) (by omega)) (han w.drew _) (by simpa using hge) hgm (by
          simp only [List.nil_append, List.length_append, hS.l, hzl]
          rw [← Nat.add_mul]; congr 1; omega) (by simp) hrows .nil (hfu.mono' fun _ _ h => h.grow hG)
      simpa using this
  · exact h.elim
end Go.Proofs.Ytaiedakbmmgmaaa.E
