/- From what the evaluator shows of a law's call to the row's contract. -/
import Derived.Test.YtaiedakbmmgmaaaEvRow
import Derived.Test.YtaiedakbmmgmaaaEvDraw4
import Derived.Test.YtaiedakbmmgmaaaEvTab
import Derived.ProofKit
set_option linter.unusedVariables false
set_option linter.unusedSimpArgs false
namespace Go.Proofs.Ytaiedakbmmgmaaa.E
open Go Go.ChangeShapes Go.WideShapes Go.ChangeAt Go.RowKit

/-- all memory that is there stays -/
def zoneOf (W : World) : Zone := ⟨fun g => g < W.heap.size, fun _ => False⟩
def noLoc : Nat → Loc := fun _ => .free
section
variable {H : Type} {enc : TypeId × Value → H} {P : Program} {W : World} {base : Nat} {t : Nat} {s : Sh} {v : Value} {d : DataW H} {ps : List MemPlace} {r : Reach} {b0 : Nat}
theorem zone_inv : Inv W (zoneOf W) noLoc (look []) := by
  refine ⟨fun b => trivial, fun b b' g h => absurd rfl h, fun g hg => ?_, fun g hg => hg.elim⟩
  rcases hg with hg | hg
  · exact hg
  · exact hg.elim
theorem F2.mapC {w S inj} {pcs : List PC} {cs : List Value} (h : F2 (PR w S) pcs cs) : F2 (VR w S inj) (pcs.map C.p) cs := h.map fun _ _ _ h => .p h
/-- an argument: a struct, or an array -/
theorem arg_agg {sf : Nat → Sh} (hs : ∀ n, ShOk P n t (sf n)) (hagg : (∃ fs, P.underlying t = some (.struct fs)) ∨ ∃ n e, P.underlying t = some (.array n e)) (hv : Value.okWide P W r b0 t v) (h : DataW.Trod enc P W base (fun _ => true) true t v d ps) :
    ∃ n pcs, Fits (sf n) pcs ∧ VA W (zoneOf W) noLoc (.agg (pcs.map C.p)) v := by
  obtain ⟨cs, rfl⟩ : ∃ cs, v = .agg cs := by
    rcases hagg with ⟨fs, hu⟩ | ⟨n, e, hu⟩ <;>
    · simp only [Value.okWide, hu] at hv
      obtain ⟨cs, h1, _⟩ := hv
      exact ⟨cs, h1⟩
  obtain ⟨fuel, hf⟩ := h
  obtain ⟨pcs, h1, h2⟩ := read_ok (S := zoneOf W) (fun g hg => hg) fuel (hs fuel) hf
  have h3 := VA.one (VA1.agg (F2.mapC (inj := noLoc) h2))
  exact ⟨fuel, pcs, h1, by simpa [Value.cells] using h3⟩
theorem arg_one {sf : Nat → Sh} (hs : ∀ n, ShOk P n t (sf n)) (hv1 : v.cells = #[v]) (h : DataW.Trod enc P W base (fun _ => true) true t v d ps) :
    ∃ n pcs, Fits (sf n) pcs ∧ (∀ c, pcs = [c] → VA W (zoneOf W) noLoc (.one (.p c)) v) := by
  obtain ⟨fuel, hf⟩ := h
  obtain ⟨pcs, h1, h2⟩ := read_ok (S := zoneOf W) (fun g hg => hg) fuel (hs fuel) hf
  refine ⟨fuel, pcs, h1, fun c hc => ?_⟩
  subst hc
  rw [hv1] at h2
  cases h2 with
  | cons h2 _ => exact .one (.one (.p h2))
theorem arg_sl {e : Nat} {sf sl : Nat → Sh} (hs : ∀ n, ShOk P n t (sl n)) (hsl : ∀ n, sl n = .sl (sf n)) (hu : P.underlying t = some (.slice e)) (hv : Value.okWide P W r b0 t v) (h : DataW.Trod enc P W base (fun _ => true) true t v d ps) :
    ∃ n rows, rows.length ≤ maxLen ∧ (∀ r ∈ rows, Fits (sf n) r) ∧ VA W (zoneOf W) noLoc (.one (.p (.sl rows))) v := by
  obtain ⟨a, l, c, rfl⟩ := okWide_slice hu hv
  obtain ⟨n, pcs, h1, h2⟩ := arg_one hs rfl h
  rw [hsl] at h1
  obtain ⟨rows, rfl, h3, h4⟩ := h1
  exact ⟨n, rows, h3, h4, h2 _ rfl⟩
theorem arg_int {k : IntKind} (hu : P.underlying t = some (.int k)) (hv : Value.okWide P W r b0 t v) (h : DataW.Trod enc P W base (fun _ => true) true t v d ps) :
    ∃ n, (Lit.int k n).wf = true ∧ VA W (zoneOf W) noLoc (.one (.p (.v (.int k n)))) v := by
  obtain ⟨n, rfl⟩ := okWide_int hu hv
  obtain ⟨_, pcs, ⟨m, rfl, hw⟩, h2⟩ := arg_one (sf := fun _ => .int k) (fun _ => .int hu) rfl h
  exact ⟨m, hw, h2 _ rfl⟩
theorem arg_str (hu : P.underlying t = some .string) (hv : Value.okWide P W r b0 t v) (h : DataW.Trod enc P W base (fun _ => true) true t v d ps) :
    ∃ n : ByteArray, n.size ≤ maxLen ∧ VA W (zoneOf W) noLoc (.one (.p (.v (.string n)))) v := by
  obtain ⟨n, rfl⟩ := okWide_string hu hv
  obtain ⟨_, pcs, ⟨m, rfl, hw⟩, h2⟩ := arg_one (sf := fun _ => .str) (fun _ => .str hu) rfl h
  exact ⟨m, hw, h2 _ rfl⟩
theorem arg_bool (hu : P.underlying t = some .bool) (hv : Value.okWide P W r b0 t v) (h : DataW.Trod enc P W base (fun _ => true) true t v d ps) :
    ∃ n, VA W (zoneOf W) noLoc (.one (.p (.v (.bool n)))) v := by
  obtain ⟨n, rfl⟩ := okWide_bool hu hv
  obtain ⟨_, pcs, ⟨m, rfl⟩, h2⟩ := arg_one (sf := fun _ => .bool) (fun _ => .bool hu) rfl h
  exact ⟨m, h2 _ rfl⟩
theorem arg_flt {k : FloatKind} (hu : P.underlying t = some (.float k)) (hv : Value.okWide P W r b0 t v) (h : DataW.Trod enc P W base (fun _ => true) true t v d ps) :
    ∃ n, (Lit.float k n).wf = true ∧ VA W (zoneOf W) noLoc (.one (.p (.v (.float k n)))) v := by
  have hc : v.cells = #[v] := by
    simp only [Value.okWide, hu, Cell.okWide] at hv
    cases v <;> simp_all [Cell.ok, Value.cells]
  obtain ⟨_, pcs, ⟨m, rfl, hw⟩, h2⟩ := arg_one (sf := fun _ => .flt k) (fun _ => .flt hu) hc h
  exact ⟨m, hw, h2 _ rfl⟩
theorem all_below (hl : laidOutB P = true) : ∀ {ts : List TypeId} {vs : List Value} {ds : List (DataW H)} {ps : List MemPlace} {W' : World}, (∀ t ∈ ts, P.readableRec t = true) → (∀ t ∈ ts, t < P.types.size) →
    DataW.TrodAll enc P W 0 (fun _ => true) true ts vs ds ps → Below W.heap.size W W' → (∀ x ∈ ps, x.block < W.heap.size) → DataW.TrodAll enc P W' 0 (fun b => decide (b < W.heap.size)) true ts vs ds ps
  | [], [], [], ps, _, _, _, h, _, _ => h
  | t :: ts, v :: vs, d :: ds, ps, W', hr, hsz, ⟨p, q, h1, h2, h3⟩, hb, hlt =>
    ⟨p, q, Below.trod hl (hr t (by simp)) (hsz t (by simp)) h1 hb (fun x hx => hlt x (by simp [h3, hx])), all_below hl (fun t ht => hr t (by simp [ht])) (fun t ht => hsz t (by simp [ht])) h2 hb (fun x hx => hlt x (by simp [h3, hx])), h3⟩
  | [], _ :: _, _, _, _, _, _, h, _, _ => h.elim
  | [], [], _ :: _, _, _, _, _, h, _, _ => h.elim
  | _ :: _, [], _, _, _, _, _, h, _, _ => h.elim
  | _ :: _, _ :: _, [], _, _, _, _, h, _, _ => h.elim
/-- a law's contract -/
theorem law_calls {f : Nat} {fn : Func} {sp : ChangeSpec} {apart fresh handsOn : Bool} {args : Array Value} {ds gs : List (DataW H)} {before : List MemPlace} {xs : List A} {tb : Nat}
    (hl : laidOutB P = true) (hr : ∀ t ∈ fn.params.toList, P.readableRec t = true) (hsz : ∀ t ∈ fn.params.toList, t < P.types.size)
    (hres : fn.resultTypes = #[tb]) (hub : P.underlying tb = some .bool) (hvars : sp.vars = [])
    (hW : DataW.Whole enc P fn.params.toList sp.vars apart W args.toList ds gs before)
    (hspec : sp.fn H ds = { results := [.lit (.bool true)], args := ds })
    (hxs : F2 (VA W (zoneOf W) noLoc) xs args.toList) (hcall : CallOk P f xs [] (.one (.p (.v (.bool true)))) []) :
    Calls P f args W fun e W' => ∃ v, e = .returned v ∧ sp.post enc P fn apart fresh handsOn false W args v W' := by
  have key := hcall.2 W (zoneOf W) noLoc args.toList hxs zone_inv (fun _ _ => rfl)
  rw [Array.toArray_toList] at key
  refine key.mono fun e W' ⟨v, S', inj', he, hd⟩ => ⟨v, he, ?_⟩
  have hv : v = .bool true := by
    have := hd.val
    cases this with
    | one h => cases h with
      | one h => cases h with
        | p h => cases h; rfl
  subst hv
  have hbelow : Below W.heap.size W W' := ⟨hd.grow.os, hd.grow.tape, hd.grow.output, hd.grow.size, fun k hk => hd.grow.heap k (.inl hk)⟩
  have hW' := hW
  obtain ⟨p, q, hA, hV, rfl, hfz, hnd⟩ := hW
  rw [hvars] at hV
  obtain ⟨rfl, rfl⟩ : gs = [] ∧ q = [] := by
    cases gs with
    | nil => exact ⟨rfl, hV⟩
    | cons _ _ => exact hV.elim
  have hlt : ∀ x ∈ p, x.block < W.heap.size := fun x hx => hW'.lt x (by simp [hx])
  refine ⟨ds, [], p ++ [], [], p, [], hW', ?_, ?_, ?_, hbelow.frame _, fun h => by cases h⟩
  · rw [List.append_nil, hspec, hres]
    exact trodAll_mk1 (shut_bool hub true)
  · rw [List.append_nil, hspec]
    exact all_below hl hr hsz hA hbelow hlt
  · rw [hvars, List.append_nil, hspec]
    rfl
end
end Go.Proofs.Ytaiedakbmmgmaaa.E
