/- Soundness of calls: the return. -/
import Derived.Test.YtaiedakbmmgmaaaEvCall3
set_option linter.unusedVariables false
set_option linter.unusedSimpArgs false
namespace Go.Proofs.Ytaiedakbmmgmaaa.E
open Go
variable {P : Program} {T : List TI} {t : List A} {σ : List Blk} {nx : Nat} {L : List Nat}

theorem seq_get (nx n i : Nat) (h : i < n) : (seqFrom nx n)[i]? = some (nx + i) := by
  unfold seqFrom; rw [mapR_eq, upTo_eq]; simp [h]
theorem seq_len (nx n : Nat) : (seqFrom nx n).length = n := by unfold seqFrom; rw [mapR_eq, upTo_eq]; simp
theorem seq_mem {nx n b : Nat} : b ∈ seqFrom nx n ↔ nx ≤ b ∧ b < nx + n := by
  unfold seqFrom; rw [mapR_eq, upTo_eq]; simp
  constructor
  · rintro ⟨a, h, rfl⟩; omega
  · intro h; exact ⟨b - nx, by omega, by omega⟩
theorem seq_nodup (nx n : Nat) : (seqFrom nx n).Nodup := by
  unfold seqFrom; rw [mapR_eq, upTo_eq]
  exact List.pairwise_map.2 (List.Pairwise.imp (fun h e => h (by omega)) List.nodup_range)
theorem back_ok {w S inj} {f : Nat → Blk} {bs : List Nat} {σc' out : List Blk} {r r' : A} {v : Value} {w' : World} {S' : Zone} {inj' : Nat → Loc} {d : Nat}
    (hi : Inv w S inj f) (hd : ∀ b, b ∈ bs → f b ≠ .dead) (hL : L.Nodup) (hLn : ∀ b, b ∈ L → b < nx) (hbn : ∀ b, b ∈ bs → b < nx) (hlen : σc'.length = L.length + d)
    (hD : Done w (zoneCe S inj f bs L) (injCe inj bs L) L.length r σc' v w' S' inj') (hr : RenA (bwd (L ++ seqFrom nx d)) r r')
    (hout : F2 (fun B B' => (B = .dead → B' = .dead) ∧ RenB (bwd (L ++ seqFrom nx d)) B B') σc' out)
    (hfr : ∀ i, i < d → inj (nx + i) = .free ∧ f (nx + i) = .dead) :
    Post w S inj f nx r' (zipR L (out.take L.length) ++ bs.map fun b => (b, .dead)) (out.drop L.length) v w' ⟨S'.s, S.fr⟩ (injCr inj inj' bs (L ++ seqFrom nx d)) := by
  have hk := hi.kill hd
  generalize hM : L ++ seqFrom nx d = M at *
  have hol : out.length = L.length + d := by rw [← hout.len, hlen]
  have hMN : M.Nodup := by
    subst hM
    refine List.nodup_append.2 ⟨hL, seq_nodup _ _, fun a ha b hb e => ?_⟩
    subst e
    have := hLn a ha
    have := (seq_mem.1 hb).1
    omega
  have hMl : M.length = L.length + d := by subst hM; simp [seq_len]
  have hMlt : ∀ i, i < L.length → M[i]? = L[i]? := fun i h => by subst hM; rw [List.getElem?_append_left h]
  have hMge : ∀ i, i < d → M[L.length + i]? = some (nx + i) := fun i h => by
    subst hM; rw [List.getElem?_append_right (by omega), show L.length + i - L.length = i from by omega, seq_get _ _ _ h]
  have hMmem : ∀ b, b ∈ M ↔ b ∈ L ∨ (nx ≤ b ∧ b < nx + d) := fun b => by subst hM; rw [List.mem_append, seq_mem]
  -- the store
  have hU : ∀ b, upd f nx (zipR L (out.take L.length) ++ bs.map fun b => (b, .dead)) (out.drop L.length) b = match fwd M b with | some i => out.getD i .dead | none => killB f bs b := fun b => by
    have hdl : (out.drop L.length).length = d := by simp [hol]
    unfold upd
    rw [hdl]
    by_cases hnew : nx ≤ b ∧ b < nx + d
    · rw [if_pos hnew]
      have : fwd M b = some (L.length + (b - nx)) := fwd_of hMN (by rw [hMge _ (by omega)]; congr 1; omega)
      rw [this]
      simp only [List.getD_eq_getElem?_getD, List.getElem?_drop]
    · rw [if_neg hnew, List.find?_append, zip_find L b 0 _ (by simp [hol])]
      change (match ((fwd L b).map (fun i => (b, (out.take L.length).getD (i - 0) .dead))).or (List.find? (fun x : Nat × Blk => x.1 == b) (bs.map fun b => (b, Blk.dead))) with | some x => x.2 | none => f b) = _
      cases hf : fwd L b with
      | some i =>
        have h1 := fwd_some hf
        have hil := (List.getElem?_eq_some_iff.1 h1).1
        have : fwd M b = some i := fwd_of hMN (by rw [hMlt i hil, h1])
        rw [this]
        simp only [Option.map_some, Option.some_or, Nat.sub_zero, List.getD_eq_getElem?_getD, List.getElem?_take, if_pos hil]
      | none =>
        have h1 := fwd_none hf
        have : fwd M b = none := by
          cases h2 : fwd M b with
          | none => rfl
          | some i =>
            have := List.mem_of_getElem? (fwd_some h2)
            rcases (hMmem b).1 this with h | h
            · exact absurd h h1
            · exact absurd h hnew
        rw [this]
        simp only [Option.map_none, Option.none_or]
        have := congrFun (upd_kill f nx bs) b
        unfold upd at this
        rw [if_neg (by simp)] at this
        exact this
  have hi' : ∀ b i, fwd M b = some i → injCr inj inj' bs M b = inj' i := fun b i h => by unfold injCr; rw [h]
  have hn' : ∀ b, fwd M b = none → injCr inj inj' bs M b = kill inj bs b := fun b h => by unfold injCr; rw [h]
  have hfrz : ∀ b, fwd M b = none → b ∉ L := fun b h hb => fwd_none h ((hMmem b).2 (.inl hb))
  have hfrl : ∀ b g, fwd M b = none → b ∉ bs → f b ≠ .dead → (inj b).blk = some g → (zoneCe S inj f bs L).fr g := fun b g h1 h2 h3 h4 => .inr ⟨b, h3, hfrz b h1, h2, h4⟩
  have hG : Grow w S w' ⟨S'.s, S.fr⟩ := by
    refine ⟨hD.grow.os, hD.grow.tape, hD.grow.output, hD.grow.size, fun g hg => hD.grow.heap g ?_, fun g hg => hD.grow.sub g (.inl hg), rfl⟩
    rcases hg with hg | hg
    · exact .inl (.inl hg)
    · exact .inr (.inl hg)
  have hR : Ren (bwd M) inj' (injCr inj inj' bs M) := fun i b h => by
    right; exact hi' b i (fwd_of hMN (bwd_some h))
  have hle : Le inj (injCr inj inj' bs M) := fun b => by
    cases hf : fwd M b with
    | none =>
      rw [hn' b hf]; exact kill_le _ _ b
    | some i =>
      rw [hi' b i hf]
      rcases (hMmem b).1 (List.mem_of_getElem? (fwd_some hf)) with hb | hb
      · have h1 : L[i]? = some b := by
          obtain ⟨j, hj⟩ := List.mem_iff_getElem?.1 hb
          have hjl := (List.getElem?_eq_some_iff.1 hj).1
          have := fwd_of hMN (show M[j]? = some b by rw [hMlt j hjl, hj])
          rw [hf] at this; injection this with this; subst this; exact hj
        have h2 := hD.le i
        have h3 : injCe inj bs L i = kill inj bs b := by unfold injCe; rw [h1]
        rw [h3] at h2
        by_cases hbs : b ∈ bs
        · have : kill inj bs b = .dead := by unfold kill; rw [if_pos hbs]
          rw [this] at h2
          rcases h2 with h2 | h2 | h2
          · cases h2
          · exact .inr (.inr h2)
          · exact .inr (.inr h2)
        · rw [kill_ne hbs] at h2; exact h2
      · left
        have := (hfr (b - nx) (by omega)).1
        rwa [show nx + (b - nx) = b from by omega] at this
  refine ⟨hG, hle, fun b hb hbn' => ?_, ?_, ?_⟩
  · have hdl : (out.drop L.length).length = d := by simp [hol]
    rw [hdl] at hbn'
    cases hf : fwd M b with
    | none =>
      rw [hn' b hf]
      by_cases hbs : b ∈ bs
      · exfalso
        have h1 := hi.live b
        rw [hb] at h1
        have h2 := hd b hbs
        cases hB : f b with
        | dead => exact h2 hB
        | box cs => rw [hB] at h1; obtain ⟨_, _, _, h, _⟩ := h1; cases h
        | rows k l => rw [hB] at h1; obtain ⟨_, _, h, _⟩ := h1; cases h
        | mp es => rw [hB] at h1; obtain ⟨_, _, _, h, _⟩ := h1; cases h
      · rw [kill_ne hbs]; exact hb
    | some i =>
      rw [hi' b i hf]
      rcases (hMmem b).1 (List.mem_of_getElem? (fwd_some hf)) with hbL | hbL
      · obtain ⟨j, hj⟩ := List.mem_iff_getElem?.1 hbL
        have hjl := (List.getElem?_eq_some_iff.1 hj).1
        have := fwd_of hMN (show M[j]? = some b by rw [hMlt j hjl, hj])
        rw [hf] at this; injection this with this; subst this
        refine hD.fresh i ?_ (.inl hjl)
        unfold injCe; rw [hj]
        simp only
        have hbs : b ∉ bs := fun hbs => by
          have h1 := hi.live b
          rw [hb] at h1
          have h2 := hd b hbs
          cases hB : f b with
          | dead => exact h2 hB
          | box cs => rw [hB] at h1; obtain ⟨_, _, _, h, _⟩ := h1; cases h
          | rows k l => rw [hB] at h1; obtain ⟨_, _, h, _⟩ := h1; cases h
          | mp es => rw [hB] at h1; obtain ⟨_, _, _, h, _⟩ := h1; cases h
        rw [kill_ne hbs]; exact hb
      · omega
  · exact (hr hR hD.val).sub fun g h => h
  · have hlive : ∀ b, upd f nx (zipR L (out.take L.length) ++ bs.map fun b => (b, .dead)) (out.drop L.length) b ≠ .dead →
        (∃ i, fwd M b = some i ∧ look σc' i ≠ .dead) ∨ (fwd M b = none ∧ b ∉ bs ∧ f b ≠ .dead) := fun b hb => by
      rw [hU b] at hb
      cases hf : fwd M b with
      | none =>
        rw [hf] at hb
        have hbs : b ∉ bs := fun h => hb (killB_dead h)
        simp only [killB_ne hbs] at hb
        exact .inr ⟨rfl, hbs, hb⟩
      | some i =>
        rw [hf] at hb
        refine .inl ⟨i, rfl, fun hl => hb ?_⟩
        simp only
        cases ho : out[i]? with
        | none => rw [List.getD_eq_getElem?_getD, ho]; rfl
        | some B' =>
          obtain ⟨B, hB, h1, _⟩ := hout.getR ho
          rw [List.getD_eq_getElem?_getD, ho]
          refine h1 ?_
          rw [look_eq, List.getD_eq_getElem?_getD, hB] at hl
          exact hl
    refine ⟨fun b => ?_, fun b b' g h1 h2 h3 h4 => ?_, fun g hg => ?_, fun g hf hs => ?_⟩
    · rw [hU b]
      cases hf : fwd M b with
      | none =>
        simp only
        rw [hn' b hf]
        by_cases hbs : b ∈ bs
        · rw [killB_dead hbs]; trivial
        · rw [killB_ne hbs, kill_ne hbs]
          by_cases hfb : f b = .dead
          · rw [hfb]; trivial
          · refine (hi.live b).grow hG hle (fun g hg => hD.grow.heap g (.inr (hfrl b g hf hbs hfb hg))) (fun g hg hs => ?_)
            rcases hs with hs | hs
            · have := hD.inv.dj g (by rw [hD.grow.fr]; exact hfrl b g hf hbs hfb hg)
              exact this hs
            · exact ((hi.live b).blk hfb hg).1 (.inr hs)
      | some i =>
        simp only
        rw [hi' b i hf]
        cases ho : out[i]? with
        | none => rw [List.getD_eq_getElem?_getD, ho]; trivial
        | some B' =>
          obtain ⟨B, hB, h1, hren⟩ := hout.getR ho
          rw [List.getD_eq_getElem?_getD, ho]
          simp only [Option.getD_some]
          have hlive := hD.inv.live i
          rw [look_eq, List.getD_eq_getElem?_getD, hB] at hlive
          simp only [Option.getD_some] at hlive
          refine hren hR (hlive.zone (fun g h => h) fun hnB g hg hs => ?_)
          have := (hlive.blk hnB hg).1
          rcases hs with hs | hs
          · exact this (.inl hs)
          · exact this (.inr (by rw [hD.grow.fr]; exact .inl hs))
    · rcases hlive b h1 with ⟨i, hbi, hli⟩ | ⟨hbn, hbs, hfb⟩ <;> rcases hlive b' h2 with ⟨i', hbi', hli'⟩ | ⟨hbn', hbs', hfb'⟩
      · rw [hi' b i hbi] at h3; rw [hi' b' i' hbi'] at h4
        have := hD.inv.sep i i' g hli hli' h3 h4
        subst this
        have e1 := fwd_some hbi
        have e2 := fwd_some hbi'
        rw [e1] at e2; injection e2
      · rw [hi' b i hbi] at h3; rw [hn' b' hbn', kill_ne hbs'] at h4
        exfalso
        exact ((hD.inv.live i).blk hli h3).1 (.inr (by rw [hD.grow.fr]; exact hfrl b' g hbn' hbs' hfb' h4))
      · rw [hi' b' i' hbi'] at h4; rw [hn' b hbn, kill_ne hbs] at h3
        exfalso
        exact ((hD.inv.live i').blk hli' h4).1 (.inr (by rw [hD.grow.fr]; exact hfrl b g hbn hbs hfb h3))
      · rw [hn' b hbn, kill_ne hbs] at h3; rw [hn' b' hbn', kill_ne hbs'] at h4
        exact hi.sep b b' g hfb hfb' h3 h4
    · rcases hg with hg | hg
      · exact hD.inv.lt g (.inl hg)
      · exact Nat.lt_of_lt_of_le (hi.lt g (.inr hg)) hD.grow.size
    · exact hD.inv.dj g (by rw [hD.grow.fr]; exact .inl hf) hs
end Go.Proofs.Ytaiedakbmmgmaaa.E
