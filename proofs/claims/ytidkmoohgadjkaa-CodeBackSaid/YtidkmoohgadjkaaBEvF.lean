/- '==' of structs and arrays goes cell by cell. The table of types, row by row. What a call's arguments read as, as the evaluator's values. From what the evaluator shows of a law's call to the row's contract. Floating point numbers that are whole, and small: what the model's operations make of them. -/
import Derived.Test.YtidkmoohgadjkaaBEvB
import Derived.Laws.StructEq
import Derived.ChangeKeysEq
import Derived.Test.YtidkmoohgadjkaaBEvD
import Derived.Deep.Slices
import Derived.Test.YtidkmoohgadjkaaBEvE
import Derived.ProofKit
import Derived.Test.YtidkmoohgadjkaaBEvA
import Derived.KernelRfl
set_option linter.unusedVariables false
set_option linter.unusedSimpArgs false
set_option maxRecDepth 100000
namespace Go.Proofs.Ytidkmoohgadjkaa.E
open Go
def pk (ag : Bool) (l : List Value) : Value := match ag with
  | true => .agg l.toArray
  | false => l.headD .nilFunc
structure EqD (P : Program) (t : Nat) (ag : Bool) (z : List Value) (d : Nat) : Prop where
  guard : ∀ n, d ≤ n → P.eqGuardType n t = false
  run : ∀ (n : Nat) (xs ys : List Value) (b : Bool) (w : World), d ≤ n → eqZ z xs ys = some b → (Op.equalIn n t (pk ag xs) (pk ag ys)).run P w = .ok b w
  part : ∀ (xs : List Value) (off : Nat) (w : World), off + z.length ≤ xs.length → (part t xs.toArray off).run P w = .ok (pk ag ((xs.drop off).take z.length)) w
theorem EqD.mono {P t ag z d d'} (h : EqD P t ag z d) (hd : d ≤ d') : EqD P t ag z d' :=
  ⟨fun n hn => h.guard n (by omega), fun n xs ys b w hn => h.run n xs ys b w (by omega), h.part⟩
theorem eqZ_app : ∀ {z1 z2 xs ys : List Value} {b : Bool}, eqZ (z1 ++ z2) xs ys = some b →
    ∃ b1, eqZ z1 (xs.take z1.length) (ys.take z1.length) = some b1 ∧ (b1 = true → eqZ z2 (xs.drop z1.length) (ys.drop z1.length) = some b) ∧ (b1 = false → b = false)
  | [], z2, xs, ys, b, h => ⟨true, by simp [eqZ], fun _ => by simpa using h, fun h => by cases h⟩
  | z :: z1, z2, [], ys, b, h => by simp [eqZ] at h
  | z :: z1, z2, x :: xs, [], b, h => by simp [eqZ] at h
  | z :: z1, z2, x :: xs, y :: ys, b, h => by
    have hl := eqZ_len h
    simp only [List.cons_append, eqZ] at h
    cases he : eqV z x y with
    | none => simp [he] at h
    | some c =>
      cases c with
      | true =>
        simp only [he] at h
        obtain ⟨b1, h1, h2, h3⟩ := eqZ_app h
        exact ⟨b1, by simp only [List.length_cons, List.take_succ_cons, eqZ, he, h1], fun hb => by simpa using h2 hb, h3⟩
      | false =>
        simp only [he] at h
        split at h
        · injection h with h
          simp at hl
          refine ⟨false, ?_, nofun, fun _ => h.symm⟩
          simp only [List.length_cons, List.take_succ_cons, eqZ, he]
          rw [if_pos]
          simp [List.length_take]; omega
        · cases h
section
variable {P : Program} {t : Nat}
theorem eqZ_one {z : Value} {xs ys : List Value} {b : Bool} (h : eqZ [z] xs ys = some b) : ∃ x y, xs = [x] ∧ ys = [y] ∧ eqV z x y = some b := by
  obtain ⟨h1, h2⟩ := eqZ_len h
  match xs, ys, h1, h2 with
  | [x], [y], _, _ =>
    refine ⟨x, y, rfl, rfl, ?_⟩
    simp only [eqZ] at h
    cases he : eqV z x y with
    | none => simp [he] at h
    | some c => cases c <;> simp [he] at h <;> simp [h]
theorem part_flat {d : TypeDesc} (hu : P.underlying t = some d) (hd : (∃ k, d = .int k) ∨ d = .bool ∨ d = .string ∨ ∃ k, d = .complex k) (v : Value) (xs : List Value) (off : Nat) (w : World) (ho : off + [v].length ≤ xs.length) :
    (part t xs.toArray off).run P w = .ok (pk false ((xs.drop off).take [v].length)) w := by
  simp at ho
  have h1 : (xs.drop off).take 1 = [xs[off]'(by omega)] := by
    rw [List.take_one, List.head?_drop, List.getElem?_eq_getElem (by omega)]; rfl
  have h2 : xs.toArray[off]? = some (xs[off]'(by omega)) := by simp
  rcases hd with ⟨k, rfl⟩ | rfl | rfl | ⟨k, rfl⟩ <;> simp [part, Go.isAgg, run_underlying hu, h1, h2, pk]
theorem EqD.int {k : IntKind} {a : Int} (hu : P.underlying t = some (.int k)) : EqD P t false [.int k a] 1 := by
  refine ⟨fun n hn => ?_, fun n xs ys b w hn h => ?_, part_flat hu (.inl ⟨k, rfl⟩) _⟩
  · obtain ⟨n, rfl⟩ : ∃ m, n = m + 1 := ⟨n - 1, by omega⟩
    simp [Program.eqGuardType, hu]
  · obtain ⟨n, rfl⟩ : ∃ m, n = m + 1 := ⟨n - 1, by omega⟩
    obtain ⟨x, y, rfl, rfl, he⟩ := eqZ_one h
    clear h
    cases x <;> cases y <;> simp [eqV] at he
    obtain ⟨⟨rfl, rfl⟩, rfl⟩ := he
    simp only [pk, List.headD_cons]; rw [run_equalIn_int (k' := k) w n t k _ _ hu]
theorem EqD.str {a : ByteArray} (hu : P.underlying t = some .string) : EqD P t false [.string a] 1 := by
  refine ⟨fun n hn => ?_, fun n xs ys b w hn h => ?_, part_flat hu (.inr (.inr (.inl rfl))) _⟩
  · obtain ⟨n, rfl⟩ : ∃ m, n = m + 1 := ⟨n - 1, by omega⟩
    simp [Program.eqGuardType, hu]
  · obtain ⟨n, rfl⟩ : ∃ m, n = m + 1 := ⟨n - 1, by omega⟩
    obtain ⟨x, y, rfl, rfl, he⟩ := eqZ_one h
    clear h
    cases x <;> cases y <;> simp [eqV] at he
    subst he
    simp only [pk, List.headD_cons]; rw [run_equalIn_string w n t _ _ hu]
theorem EqD.bool {a : Bool} (hu : P.underlying t = some .bool) : EqD P t false [.bool a] 1 := by
  refine ⟨fun n hn => ?_, fun n xs ys b w hn h => ?_, part_flat hu (.inr (.inl rfl)) _⟩
  · obtain ⟨n, rfl⟩ : ∃ m, n = m + 1 := ⟨n - 1, by omega⟩
    simp [Program.eqGuardType, hu]
  · obtain ⟨n, rfl⟩ : ∃ m, n = m + 1 := ⟨n - 1, by omega⟩
    obtain ⟨x, y, rfl, rfl, he⟩ := eqZ_one h
    clear h
    cases x <;> cases y <;> simp [eqV] at he
    subst he
    simp only [pk, List.headD_cons]; rw [run_equalIn_bool' w n t _ _ hu]
theorem EqD.cplx {k : FloatKind} {a b : Nat} (hu : P.underlying t = some (.complex k)) : EqD P t false [.complex k a b] 1 := by
  refine ⟨fun n hn => ?_, fun n xs ys b w hn h => ?_, part_flat hu (.inr (.inr (.inr ⟨k, rfl⟩))) _⟩
  · obtain ⟨n, rfl⟩ : ∃ m, n = m + 1 := ⟨n - 1, by omega⟩
    simp [Program.eqGuardType, hu]
  · obtain ⟨n, rfl⟩ : ∃ m, n = m + 1 := ⟨n - 1, by omega⟩
    obtain ⟨x, y, rfl, rfl, he⟩ := eqZ_one h
    clear h
    cases x <;> cases y <;> simp [eqV] at he
    obtain ⟨⟨rfl, rfl⟩, rfl⟩ := he
    simp [pk, Op.equalIn, run_underlying hu]
inductive EqFs (P : Program) (D : Nat) : Nat → List Field → List Value → Prop
  | nil {off} : EqFs P D off [] []
  | cons {off f fs ag z1 z2} : f.name ≠ "_" → f.offset = off → EqD P f.type ag z1 D → EqFs P D (off + z1.length) fs z2 → EqFs P D off (f :: fs) (z1 ++ z2)
theorem EqFs.run {D : Nat} {off : Nat} {fs : List Field} {z : List Value} (h : EqFs P D off fs z) : ∀ (n : Nat) (xs ys : List Value) (b : Bool) (w : World), D ≤ n → off ≤ xs.length → off ≤ ys.length → eqZ z (xs.drop off) (ys.drop off) = some b →
    (Op.eqFields n xs.toArray ys.toArray fs).run P w = .ok b w := by
  induction h with
  | nil =>
    intro n xs ys b w hn _ _ h
    obtain ⟨h1, h2⟩ := eqZ_len h
    rw [List.eq_nil_of_length_eq_zero h1, List.eq_nil_of_length_eq_zero h2] at h
    simp [eqZ] at h; subst h; simp [Op.eqFields]
  | cons hn hoff hE hrest ih =>
    rename_i off f fs ag z1 z2
    intro n xs ys b w hd hxl hyl h
    have hl := eqZ_len h
    simp at hl
    obtain ⟨b1, h1, h2, h3⟩ := eqZ_app h
    simp only [Op.eqFields, ne_eq, hn, not_false_eq_true, if_true, Sem.run_bind]
    rw [hoff, hE.part xs off w (by omega), Result.andThen_ok, hE.part ys off w (by omega), Result.andThen_ok, hE.run n _ _ _ w hd h1, Result.andThen_ok]
    cases b1 with
    | false => rw [h3 rfl]; simp
    | true =>
      have := h2 rfl
      rw [List.drop_drop, List.drop_drop] at this
      simpa using ih n xs ys b w hd (by omega) (by omega) this
theorem EqFs.guard {D : Nat} {off : Nat} {fs : List Field} {z : List Value} (h : EqFs P D off fs z) (n : Nat) (hn : D ≤ n) : (fs.any fun f => f.name != "_" && P.eqGuardType n f.type) = false := by
  induction h with
  | nil => rfl
  | cons _ _ hE _ ih => simp [hE.guard n hn]; simpa using ih
theorem part_agg {i : TypeInfo} {z : List Value} (hi : P.info? t = some i) (hs : i.size = z.length) (ha : ∀ w, (Go.isAgg t).run P w = .ok true w) (xs : List Value) (off : Nat) (w : World) (ho : off + z.length ≤ xs.length) :
    (part t xs.toArray off).run P w = .ok (pk true ((xs.drop off).take z.length)) w := by
  simp only [part, Sem.run_bind, ha, Result.andThen_ok, if_true, run_sizeOf w hi, Sem.run_pure, pk]
  have hc : P.cellsOf t = z.length := by simp [Program.cellsOf, hi, hs]
  rw [hc]
  simp
theorem EqD.struct {D : Nat} {fs : Array Field} {z : List Value} {i : TypeInfo} (hu : P.underlying t = some (.struct fs)) (hp : P.stoodInHeld t = false) (hi : P.info? t = some i) (hs : i.size = z.length) (h : EqFs P D 0 fs.toList z) : EqD P t true z (D + 1) := by
  have hf : P.fieldsOf t = fs := by simp [Program.fieldsOf, hu]
  refine ⟨fun n hn => ?_, fun n xs ys b w hn he => ?_, part_agg hi hs fun w => by simp [Go.isAgg, run_underlying hu]⟩
  · obtain ⟨n, rfl⟩ : ∃ m, n = m + 1 := ⟨n - 1, by omega⟩
    simp only [Program.eqGuardType, hu]
    rw [← Array.any_toList]
    exact h.guard n (by omega)
  · obtain ⟨n, rfl⟩ : ∃ m, n = m + 1 := ⟨n - 1, by omega⟩
    simp only [pk]
    rw [run_equalIn_struct w n t _ _ (by rw [hf]; exact hu) hp, hf]
    exact h.run n xs ys b w (by omega) (by omega) (by omega) (by simpa using he)
theorem eqItems_run {D e : Nat} {ag : Bool} {ze : List Value} (hE : EqD P e ag ze D) (hc : P.cellsOf e = ze.length) : ∀ (m s : Nat) (n : Nat) (xs ys : List Value) (b : Bool) (w : World), D ≤ n → s * ze.length ≤ xs.length → s * ze.length ≤ ys.length → eqZ (List.replicate m ze).flatten (xs.drop (s * ze.length)) (ys.drop (s * ze.length)) = some b →
    (Op.eqItems n e (P.cellsOf e) xs.toArray ys.toArray (List.range' s m)).run P w = .ok b w
  | 0, s, n, xs, ys, b, w, hn, _, _, h => by
    obtain ⟨h1, h2⟩ := eqZ_len h
    simp only [List.replicate_zero, List.flatten_nil, List.length_nil] at h1 h2
    rw [List.eq_nil_of_length_eq_zero h1, List.eq_nil_of_length_eq_zero h2] at h
    simp [eqZ] at h; subst h; simp [Op.eqItems]
  | m + 1, s, n, xs, ys, b, w, hn, hx, hy, h => by
    have hl := eqZ_len h
    rw [List.replicate_succ, List.flatten_cons] at h hl
    simp only [List.length_drop, List.length_append] at hl
    have hs : (s + 1) * ze.length = s * ze.length + ze.length := Nat.succ_mul _ _
    obtain ⟨b1, h1, h2, h3⟩ := eqZ_app h
    simp only [List.range'_succ, Op.eqItems, Sem.run_bind]
    rw [hc, hE.part xs (s * ze.length) w (by omega), Result.andThen_ok, hE.part ys (s * ze.length) w (by omega), Result.andThen_ok, hE.run n _ _ _ w hn h1, Result.andThen_ok]
    cases b1 with
    | false => rw [h3 rfl]; simp
    | true =>
      have h2 := h2 rfl
      rw [List.drop_drop, List.drop_drop, ← hs] at h2
      have := eqItems_run hE hc m (s + 1) n xs ys b w hn (by omega) (by omega) h2
      rw [hc] at this
      simpa using this
theorem EqD.array {D e n : Nat} {ag : Bool} {ze z : List Value} {i ie : TypeInfo} (hu : P.underlying t = some (.array n e)) (hi : P.info? t = some i) (hs : i.size = z.length) (hie : P.info? e = some ie) (hse : ie.size = ze.length) (hz : z = (List.replicate n ze).flatten)
    (hE : EqD P e ag ze D) : EqD P t true z (D + 1) := by
  have hc : P.cellsOf e = ze.length := by simp [Program.cellsOf, hie, hse]
  refine ⟨fun m hn => ?_, fun m xs ys b w hn he => ?_, part_agg hi hs fun w => by simp [Go.isAgg, run_underlying hu]⟩
  · obtain ⟨m, rfl⟩ : ∃ k, m = k + 1 := ⟨m - 1, by omega⟩
    simp only [Program.eqGuardType, hu]
    exact hE.guard m (by omega)
  · obtain ⟨m, rfl⟩ : ∃ k, m = k + 1 := ⟨m - 1, by omega⟩
    simp only [pk]
    rw [run_equalIn_array w m _ _ hu hie, List.range_eq_range']
    exact eqItems_run hE hc n 0 m xs ys b w (by omega) (by simp) (by simp) (by rw [← hz]; simpa using he)
end
end Go.Proofs.Ytidkmoohgadjkaa.E
namespace Go.Proofs.Ytidkmoohgadjkaa.E
open Go
def TFrom (P : Program) : Nat → List TI → Prop
  | _, [] => True
  | n, x :: l => TIOk P n x ∧ TFrom P (n + 1) l
theorem TFrom.get {P : Program} : ∀ {l : List TI} {n : Nat}, TFrom P n l → ∀ i, TIOk P (n + i) (l.getD i TI.none)
  | [], n, _, i => Or.inl (by simp)
  | x :: l, n, h, 0 => h.1
  | x :: l, n, h, i + 1 => by
    have := TFrom.get h.2 i
    rw [Nat.add_assoc, Nat.add_comm 1 i] at this
    simpa using this
theorem TOk.of {P : Program} {l : List TI} (h : TFrom P 0 l) : TOk P l := fun t => by
  have := h.get t
  simp only [ty, nth_eq]
  simpa using this
theorem knownD_ne {d : TD} (h : knownD d = true) : d ≠ .other := fun e => by rw [e] at h; cases h
theorem row {P : Program} {t : Nat} {x : TI} {i : TypeInfo} {zv : Value} (hd : DescOk P t x.d) (hk : knownD x.d = true) (hi : P.info? t = some i) (hs : i.size = x.sz) (hb : i.bytes = x.bytes) (hz : i.zero = some zv) (hc : zv.cells.toList = x.z)
    (ha : isAgg x.d = true ∨ x.z = [zv]) (hg : isAgg x.d = false ∨ ∃ cs, zv = .agg cs) (hcmp : i.comparable = true ∨ ∀ k, x.d ≠ .int k) (hl : x.z.length = x.sz) (hf : x.z.all flat = true) (he : x.eq = false) : TIOk P t x :=
  .inr ⟨hd, knownD_ne hk, ⟨i, zv, hi, hs, hb, hz, hc, fun h => ha.resolve_left (by rw [h]; decide), fun ⟨k, hk⟩ => hcmp.resolve_right fun h => h k hk, fun h => hg.resolve_left (by rw [h]; decide)⟩, hl, fun v hv => List.all_eq_true.mp hf v hv, fun h => by rw [he] at h; cases h⟩
end Go.Proofs.Ytidkmoohgadjkaa.E
namespace Go.Proofs.Ytidkmoohgadjkaa.E
open Go Go.Deep Go.ChangeShapes Go.WideShapes
inductive Sh where
  | int (k : IntKind)
  | bool
  | str
  | flt (k : FloatKind)
  | sl (e : Sh)
  | nil
  | cat (a b : Sh)
  | no (n : Nat)
def Sh.size : Sh → Nat
  | .nil => 0
  | .no n => n
  | .cat a b => a.size + b.size
  | _ => 1
def repS (s : Sh) : Nat → Sh
  | 0 => .nil
  | n + 1 => .cat s (repS s n)
def Fits : Sh → List PC → Prop
  | .int k, cs => ∃ n, cs = [.v (.int k n)] ∧ (Lit.int k n).wf = true
  | .bool, cs => ∃ b, cs = [.v (.bool b)]
  | .str, cs => ∃ s : ByteArray, cs = [.v (.string s)] ∧ s.size ≤ maxLen
  | .flt k, cs => ∃ b, cs = [.v (.float k b)] ∧ (Lit.float k b).wf = true
  | .sl e, cs => ∃ rows, cs = [.sl rows] ∧ rows.length ≤ maxLen ∧ ∀ r ∈ rows, Fits e r
  | .nil, cs => cs = []
  | .no _, _ => False
  | .cat a b, cs => ∃ x y, cs = x ++ y ∧ Fits a x ∧ Fits b y
theorem Fits.len : ∀ {s : Sh} {cs : List PC}, Fits s cs → cs.length = s.size
  | .int _, _, ⟨_, rfl, _⟩ => rfl
  | .bool, _, ⟨_, rfl⟩ => rfl
  | .str, _, ⟨_, rfl, _⟩ => rfl
  | .flt _, _, ⟨_, rfl, _⟩ => rfl
  | .sl _, _, ⟨_, rfl, _⟩ => rfl
  | .no _, _, h => h.elim
  | .nil, _, h => by rw [show _ = [] from h]; rfl
  | .cat a b, _, ⟨x, y, rfl, h1, h2⟩ => by rw [List.length_append, h1.len, h2.len]; rfl
mutual
inductive ShOk (P : Program) : Nat → Nat → Sh → Prop
  | zero {t s} : ShOk P 0 t s
  | int {n t k} : P.underlying t = some (.int k) → ShOk P n t (.int k)
  | bool {n t} : P.underlying t = some .bool → ShOk P n t .bool
  | str {n t} : P.underlying t = some .string → ShOk P n t .str
  | flt {n t k} : P.underlying t = some (.float k) → ShOk P n t (.flt k)
  | sl {n t e s} : P.underlying t = some (.slice e) → P.cellsOf e = s.size → 0 < s.size → ShOk P n e s → ShOk P (n + 1) t (.sl s)
  | struct {n t fs s} : P.underlying t = some (.struct fs) → P.cellsOf t = s.size → ShFs P n 0 fs.toList s → ShOk P (n + 1) t s
  | arr {n t k e s s'} : P.underlying t = some (.array k e) → P.cellsOf e = s.size → P.cellsOf t = k * s.size → ShOk P n e s → s' = repS s k → ShOk P (n + 1) t s'
inductive ShFs (P : Program) : Nat → Nat → List Field → Sh → Prop
  | nil {n off} : ShFs P n off [] .nil
  | cons {n off f fs a b} : f.offset = off → P.cellsOf f.type = a.size → ShOk P n f.type a → ShFs P n (off + a.size) fs b → ShFs P n off (f :: fs) (.cat a b)
end
section
variable {H : Type} {enc : TypeId × Value → H} {P : Program} {w : World} {base : Nat} {spare : Nat → Bool} {held : Bool} {S : Zone}
theorem trod_float {t fuel : Nat} {cs : List Value} {x : DataW H × List MemPlace} {k : FloatKind} (ht : P.underlying t = some (.float k)) (h : DataW.trod enc P w base spare held fuel t cs = some x) : ∃ n, cs = [.float k n] ∧ (Lit.float k n).wf = true := by
  cases fuel with
  | zero => simp [DataW.trod] at h
  | succ n =>
    unfold DataW.trod at h
    rw [ht] at h
    split at h <;> simp_all
theorem trod_array' {t fuel e n : Nat} {cs : List Value} {x : DataW H × List MemPlace} (ht : P.underlying t = some (.array n e)) (h : DataW.trod enc P w base spare held fuel t cs = some x) :
    cs.length = P.cellsOf t ∧ ∃ m, fuel = m + 1 ∧ ∀ i, i < n → ∃ y, DataW.trod enc P w base spare held m e ((cs.drop (i * P.cellsOf e)).take (P.cellsOf e)) = some y := by
  cases fuel with
  | zero => simp [DataW.trod] at h
  | succ m =>
    unfold DataW.trod at h
    rw [ht] at h
    simp only at h
    split at h
    · rename_i hl
      refine ⟨hl, m, rfl, fun i hi => ?_⟩
      obtain ⟨xs, hxs, _⟩ := Option.map_eq_some_iff.1 h
      have h1 := mapM_some_get hxs i i (by simp [hi])
      have hl' := mapM_some_length hxs
      rw [List.length_range] at hl'
      rw [List.getElem?_eq_getElem (by omega)] at h1
      exact ⟨_, h1⟩
    · cases h
theorem fields_read {n : Nat} {cs : List Value} (ih : ∀ {t : Nat} {s : Sh} {cs : List Value} {x : DataW H × List MemPlace}, ShOk P n t s → DataW.trod enc P w base spare held n t cs = some x → ∃ pcs, Fits s pcs ∧ F2 (PR w S) pcs cs) :
    ∀ (fl : List Field) {off : Nat} {s : Sh}, ShFs P n off fl s → (∀ f ∈ fl, ∃ x, DataW.trod enc P w base spare held n f.type ((cs.drop f.offset).take (P.cellsOf f.type)) = some x) →
      ∃ pcs, Fits s pcs ∧ F2 (PR w S) pcs ((cs.drop off).take s.size)
  | [], off, s, h, hx => by cases h; exact ⟨[], rfl, by simp [Sh.size]; exact .nil⟩
  | f :: fl, off, s, h, hx => by
    cases h with
    | cons hoff hc ha hr =>
      rename_i a b
      obtain ⟨x, hx1⟩ := hx f (by simp)
      rw [hoff, hc] at hx1
      obtain ⟨p1, hf1, hr1⟩ := ih ha hx1
      obtain ⟨p2, hf2, hr2⟩ := fields_read ih fl hr fun g hg => hx g (by simp [hg])
      refine ⟨p1 ++ p2, ⟨p1, p2, rfl, hf1, hf2⟩, ?_⟩
      rw [show (Sh.cat a b).size = a.size + b.size from rfl, List.take_add, List.drop_drop]
      exact hr1.app hr2
theorem items_read {n e : Nat} {se : Sh} {cs : List Value} (hc : P.cellsOf e = se.size) (he : ShOk P n e se) (ih : ∀ {t : Nat} {s : Sh} {cs : List Value} {x : DataW H × List MemPlace}, ShOk P n t s → DataW.trod enc P w base spare held n t cs = some x → ∃ pcs, Fits s pcs ∧ F2 (PR w S) pcs cs) :
    ∀ (m s : Nat), (∀ i, s ≤ i → i < s + m → ∃ y, DataW.trod enc P w base spare held n e ((cs.drop (i * P.cellsOf e)).take (P.cellsOf e)) = some y) →
      ∃ pcs, Fits (repS se m) pcs ∧ F2 (PR w S) pcs ((cs.drop (s * se.size)).take (m * se.size))
  | 0, s, hx => ⟨[], rfl, by simp; exact .nil⟩
  | m + 1, s, hx => by
    obtain ⟨x, hx1⟩ := hx s (by omega) (by omega)
    rw [hc] at hx1
    obtain ⟨p1, hf1, hr1⟩ := ih he hx1
    obtain ⟨p2, hf2, hr2⟩ := items_read hc he ih m (s + 1) fun i h1 h2 => hx i (by omega) (by omega)
    refine ⟨p1 ++ p2, ⟨p1, p2, rfl, hf1, hf2⟩, ?_⟩
    rw [Nat.succ_mul, Nat.add_comm (m * se.size), List.take_add, List.drop_drop, ← Nat.succ_mul]
    exact hr1.app hr2
theorem read_ok (hS : ∀ g, g < w.heap.size → S.s g) : ∀ (fuel : Nat) {t : Nat} {s : Sh} {cs : List Value} {x : DataW H × List MemPlace}, ShOk P fuel t s → DataW.trod enc P w base spare held fuel t cs = some x → ∃ pcs, Fits s pcs ∧ F2 (PR w S) pcs cs
  | 0, t, s, cs, x, hs, h => by simp [DataW.trod] at h
  | n + 1, t, s, cs, x, hs, h => by
    cases hs with
    | int hu => obtain ⟨m, rfl, _, hw⟩ := DataW.trod_int hu h; exact ⟨_, ⟨m, rfl, hw⟩, .cons (.v rfl) .nil⟩
    | bool hu => obtain ⟨m, rfl, _⟩ := DataW.trod_bool hu h; exact ⟨_, ⟨m, rfl⟩, .cons (.v rfl) .nil⟩
    | str hu => obtain ⟨m, rfl, _, hw⟩ := DataW.trod_string hu h; exact ⟨_, ⟨m, rfl, hw⟩, .cons (.v rfl) .nil⟩
    | flt hu => obtain ⟨m, rfl, hw⟩ := trod_float hu h; exact ⟨_, ⟨m, rfl, hw⟩, .cons (.v rfl) .nil⟩
    | struct hu hc hf =>
      rename_i fs
      obtain ⟨xs, m, hm, _, hl, hxl, hx⟩ := DataW.trod_struct hu h
      injection hm with hm; subst hm
      obtain ⟨pcs, h1, h2⟩ := fields_read (S := S) (cs := cs) (fun a b => read_ok hS n a b) fs.toList hf fun f hf' => by
        obtain ⟨i, hi, he⟩ := List.getElem_of_mem hf'
        have h1 : fs[i]? = some f := by rw [Array.getElem?_eq_getElem (by simpa using hi)]; simpa using he
        have := hx i f h1
        rw [List.getElem?_eq_getElem (by rw [hxl]; simpa using hi)] at this
        exact ⟨_, this⟩
      refine ⟨pcs, h1, ?_⟩
      rw [List.drop_zero, ← hc, ← hl, List.take_length] at h2
      exact h2
    | arr hu hce hct he hs' =>
      rename_i k e se
      subst hs'
      obtain ⟨hl, m, hm, hx⟩ := trod_array' hu h
      injection hm with hm; subst hm
      obtain ⟨pcs, h1, h2⟩ := items_read (S := S) (cs := cs) hce he (fun a b => read_ok hS n a b) k 0 fun i _ hi => hx i (by omega)
      refine ⟨pcs, h1, ?_⟩
      rw [Nat.zero_mul, List.drop_zero, ← hct, ← hl, List.take_length] at h2
      exact h2
    | sl hu hc hpos he =>
      rename_i e se
      rcases DataW.trod_slice hu h with ⟨rfl, _⟩ | ⟨a, len, cap, elems, rest, m, hm, rfl, _, _, hlc, hcm, hlen, hel, _, _⟩
      · exact ⟨_, ⟨[], rfl, Nat.zero_le _, by simp⟩, .cons (.sl (k := 1) (fun _ _ => .nilFunc) (Nat.le_refl _) (by omega) (by simp) (.inl rfl) (fun g o _ i j hi => by simp at hi) (fun i j r c hr => by simp at hr)) .nil⟩
      · injection hm with hm; subst hm
        obtain ⟨R, hR⟩ := choose_lt (α := List PC × List Value) (n := len) (p := fun i p => Fits se p.1 ∧ F2 (PR w S) p.1 p.2 ∧ w.cells? base (a.add (i * se.size)) se.size = some p.2) (fun i hi => by
          have h1 := hel i hi
          rw [List.getElem?_eq_getElem (by omega)] at h1
          obtain ⟨cs', h2, h3⟩ := Option.bind_eq_some_iff.1 h1
          obtain ⟨pcs, h4, h5⟩ := read_ok hS n he h3
          rw [hc] at h2
          exact ⟨(pcs, cs'), h4, h5, h2⟩)
        have hcell : ∀ i j, i < len → j < se.size → w.cell? ((a.add (i * se.size)).add j) = (R i).2[j]? := fun i j hi hj => (World.cells?_some (hR i hi).2.2).2.2 j hj
        have hRl : ∀ i, i < len → (R i).2.length = se.size := fun i hi => (World.cells?_some (hR i hi).2.2).2.1
        have hspot : 0 < len → a = ⟨a.block, a.off, none⟩ ∧ a.block < w.heap.size := fun h0 => by
          have h1 := hcell 0 0 h0 hpos
          rw [Nat.zero_mul] at h1
          have h2 : (a.add 0).add 0 = a := by simp [Addr.add]
          rw [h2, List.getElem?_eq_getElem (by rw [hRl 0 h0]; exact hpos)] at h1
          unfold World.cell? at h1
          split at h1
          · rename_i c t r hh
            split at h1
            · cases h1
            · rename_i hs
              refine ⟨?_, (Array.getElem?_eq_some_iff.1 hh).1⟩
              cases a with | mk b o s => cases s with | none => rfl | some s => exact absurd rfl hs
          · cases h1
        have hadd : ∀ (g o n : Nat), (⟨g, o, none⟩ : Addr).add n = ⟨g, o + n, none⟩ := fun g o n => by unfold Addr.add; split <;> simp_all
        have hrl : ((List.range len).map fun i => (R i).1).length = len := by simp
        refine ⟨[.sl ((List.range len).map fun i => (R i).1)], ⟨_, rfl, by rw [hrl]; omega, fun r hr => ?_⟩, .cons ?_ .nil⟩
        · obtain ⟨i, hi, rfl⟩ := List.mem_map.1 hr
          exact (hR i (List.mem_range.1 hi)).1
        · have key := @PR.sl w S ((List.range len).map fun i => (R i).1) (some a) cap se.size (fun i j => ((R i).2).getD j .nilFunc) (by rw [hrl]; exact hlc) hpos
            (fun r hr => by obtain ⟨i, hi, rfl⟩ := List.mem_map.1 hr; exact (hR i (List.mem_range.1 hi)).1.len)
            (by
              rcases Nat.eq_zero_or_pos len with h0 | h0
              · left; rw [h0]; rfl
              · right; exact ⟨_, _, congrArg some (hspot h0).1, hS _ (hspot h0).2⟩)
            (fun g o ha i j hi hj => by
              rw [hrl] at hi
              injection ha with ha
              have h1 := hcell i j hi hj
              rw [ha, hadd, hadd] at h1
              rw [h1, List.getD_eq_getElem?_getD, List.getElem?_eq_getElem (by rw [hRl i hi]; exact hj)]; rfl)
            (fun i j r c hr hc' => by
              have hi : i < len := by
                have := (List.getElem?_eq_some_iff.1 hr).1
                rw [hrl] at this; exact this
              rw [List.getElem?_map, List.getElem?_range hi] at hr
              injection hr with hr; subst hr
              obtain ⟨v, h1, h2⟩ := (hR i hi).2.1.get hc'
              rw [List.getD_eq_getElem?_getD, h1]; exact h2)
          rw [hrl] at key
          exact key
end
end Go.Proofs.Ytidkmoohgadjkaa.E
namespace Go.Proofs.Ytidkmoohgadjkaa.E
open Go Go.ChangeShapes Go.WideShapes Go.ChangeAt Go.RowKit
def zoneOf (W : World) : Zone := ⟨fun g => g < W.heap.size, fun _ => False⟩
def noLoc : Nat → Loc := fun _ => .free
section
variable {H : Type} {enc : TypeId × Value → H} {P : Program} {W : World} {base : Nat} {t : Nat} {s : Sh} {v : Value} {d : DataW H} {ps : List MemPlace} {r : Reach} {b0 : Nat}
theorem zone_inv : Inv W (zoneOf W) noLoc (look []) := by
  refine ⟨fun b => trivial, fun b b' g h => absurd rfl h, fun g hg => ?_, fun g hg => hg.elim⟩
  rcases hg with hg | hg
  · exact hg
  · exact hg.elim
theorem arg_one {sf : Nat → Sh} (hs : ∀ n, ShOk P n t (sf n)) (hv1 : v.cells = #[v]) (h : DataW.Trod enc P W base (fun _ => true) true t v d ps) :
    ∃ n pcs, Fits (sf n) pcs ∧ (∀ c, pcs = [c] → VA W (zoneOf W) noLoc (.one (.p c)) v) := by
  obtain ⟨fuel, hf⟩ := h
  obtain ⟨pcs, h1, h2⟩ := read_ok (S := zoneOf W) (fun g hg => hg) fuel (hs fuel) hf
  refine ⟨fuel, pcs, h1, fun c hc => ?_⟩
  subst hc
  rw [hv1] at h2
  cases h2 with
  | cons h2 _ => exact .one (.one (.p h2))
theorem arg_sl {e : Nat} {sf sl : Nat → Sh} (hs : ∀ n, ShOk P n t (sl n)) (hsl : ∀ n, sl n = .sl (sf n)) (hu : P.underlying t = some (.slice e)) (hv : Value.okWide P W r b0 t v) (h : DataW.Trod enc P W base (fun _ => true) true t v d ps) :
    ∃ n rows, rows.length ≤ maxLen ∧ (∀ r ∈ rows, Fits (sf n) r) ∧ VA W (zoneOf W) noLoc (.one (.p (.sl rows))) v := by
  obtain ⟨a, l, c, rfl⟩ := okWide_slice hu hv
  obtain ⟨n, pcs, h1, h2⟩ := arg_one hs rfl h
  rw [hsl] at h1
  obtain ⟨rows, rfl, h3, h4⟩ := h1
  exact ⟨n, rows, h3, h4, h2 _ rfl⟩
theorem arg_int {k : IntKind} (hu : P.underlying t = some (.int k)) (hv : Value.okWide P W r b0 t v) (h : DataW.Trod enc P W base (fun _ => true) true t v d ps) :
    ∃ n, (Lit.int k n).wf = true ∧ VA W (zoneOf W) noLoc (.one (.p (.v (.int k n)))) v := by
  obtain ⟨n, rfl⟩ := okWide_int hu hv
  obtain ⟨_, pcs, ⟨m, rfl, hw⟩, h2⟩ := arg_one (sf := fun _ => .int k) (fun _ => .int hu) rfl h
  exact ⟨m, hw, h2 _ rfl⟩
theorem arg_str (hu : P.underlying t = some .string) (hv : Value.okWide P W r b0 t v) (h : DataW.Trod enc P W base (fun _ => true) true t v d ps) :
    ∃ n : ByteArray, n.size ≤ maxLen ∧ VA W (zoneOf W) noLoc (.one (.p (.v (.string n)))) v := by
  obtain ⟨n, rfl⟩ := okWide_string hu hv
  obtain ⟨_, pcs, ⟨m, rfl, hw⟩, h2⟩ := arg_one (sf := fun _ => .str) (fun _ => .str hu) rfl h
  exact ⟨m, hw, h2 _ rfl⟩
theorem all_below (hl : laidOutB P = true) : ∀ {ts : List TypeId} {vs : List Value} {ds : List (DataW H)} {ps : List MemPlace} {W' : World}, (∀ t ∈ ts, P.readableRec t = true) → (∀ t ∈ ts, t < P.types.size) →
    DataW.TrodAll enc P W 0 (fun _ => true) true ts vs ds ps → Below W.heap.size W W' → (∀ x ∈ ps, x.block < W.heap.size) → DataW.TrodAll enc P W' 0 (fun b => decide (b < W.heap.size)) true ts vs ds ps
  | [], [], [], ps, _, _, _, h, _, _ => h
  | t :: ts, v :: vs, d :: ds, ps, W', hr, hsz, ⟨p, q, h1, h2, h3⟩, hb, hlt =>
    ⟨p, q, Below.trod hl (hr t (by simp)) (hsz t (by simp)) h1 hb (fun x hx => hlt x (by simp [h3, hx])), all_below hl (fun t ht => hr t (by simp [ht])) (fun t ht => hsz t (by simp [ht])) h2 hb (fun x hx => hlt x (by simp [h3, hx])), h3⟩
  | [], _ :: _, _, _, _, _, _, h, _, _ => h.elim
  | [], [], _ :: _, _, _, _, _, h, _, _ => h.elim
  | _ :: _, [], _, _, _, _, _, h, _, _ => h.elim
  | _ :: _, _ :: _, [], _, _, _, _, h, _, _ => h.elim
theorem law_calls {f : Nat} {fn : Func} {sp : ChangeSpec} {apart fresh handsOn : Bool} {args : Array Value} {ds gs : List (DataW H)} {before : List MemPlace} {xs : List A} {tb : Nat}
    (hl : laidOutB P = true) (hr : ∀ t ∈ fn.params.toList, P.readableRec t = true) (hsz : ∀ t ∈ fn.params.toList, t < P.types.size)
    (hres : fn.resultTypes = #[tb]) (hub : P.underlying tb = some .bool) (hvars : sp.vars = [])
    (hW : DataW.Whole enc P fn.params.toList sp.vars apart W args.toList ds gs before)
    (hspec : sp.fn H ds = { results := [.lit (.bool true)], args := ds })
    (hxs : F2 (VA W (zoneOf W) noLoc) xs args.toList) (hcall : CallOk P f xs [] (.one (.p (.v (.bool true)))) []) :
    Calls P f args W fun e W' => ∃ v, e = .returned v ∧ sp.post enc P fn apart fresh handsOn false W args v W' := by
  have key := hcall.2 W (zoneOf W) noLoc args.toList hxs zone_inv (fun _ _ => rfl)
  rw [Array.toArray_toList] at key
  refine key.mono fun e W' ⟨v, S', inj', he, hd⟩ => ⟨v, he, ?_⟩
  have hv : v = .bool true := by
    have := hd.val
    cases this with
    | one h => cases h with
      | one h => cases h with
        | p h => cases h; rfl
  subst hv
  have hbelow : Below W.heap.size W W' := ⟨hd.grow.os, hd.grow.tape, hd.grow.output, hd.grow.size, fun k hk => hd.grow.heap k (.inl hk)⟩
  have hW' := hW
  obtain ⟨p, q, hA, hV, rfl, hfz, hnd⟩ := hW
  rw [hvars] at hV
  obtain ⟨rfl, rfl⟩ : gs = [] ∧ q = [] := by
    cases gs with
    | nil => exact ⟨rfl, hV⟩
    | cons _ _ => exact hV.elim
  have hlt : ∀ x ∈ p, x.block < W.heap.size := fun x hx => hW'.lt x (by simp [hx])
  refine ⟨ds, [], p ++ [], [], p, [], hW', ?_, ?_, ?_, hbelow.frame _, fun h => by cases h⟩
  · rw [List.append_nil, hspec, hres]
    exact trodAll_mk1 (shut_bool hub true)
  · rw [List.append_nil, hspec]
    exact all_below hl hr hsz hA hbelow hlt
  · rw [hvars, List.append_nil, hspec]
    rfl
end
end Go.Proofs.Ytidkmoohgadjkaa.E
namespace Go.Proofs.Ytidkmoohgadjkaa.E
open Go Ieee
def Wh (x : Nat) (v : Int) : Prop := ∃ s m i, double.read x = .number s m i ∧ i ≤ 0 ∧ signed s m 0 = v * (2 ^ (-i).toNat : Nat)
theorem signed_abs (s : Bool) (m : Nat) : (signed s m 0).natAbs = m := by cases s <;> simp [signed]
theorem cut_zero (s : Bool) (n d : Nat) : Toward.zero.cut s n d = n / 2 ^ d := by
  unfold Toward.cut
  simp only [Bool.toNat_false, Nat.add_zero, Nat.shiftLeft_eq, Nat.one_mul]
  by_cases h : d ≤ n.log2 + 2
  · rw [Nat.min_eq_left h]
  · rw [Nat.min_eq_right (by omega), Nat.div_eq_of_lt, Nat.div_eq_of_lt]
    · have := @Nat.lt_log2_self n
      exact Nat.lt_of_lt_of_le this (Nat.pow_le_pow_right (by decide) (by omega))
    · have := @Nat.lt_log2_self n
      exact Nat.lt_of_lt_of_le this (Nat.pow_le_pow_right (by decide) (by omega))
theorem Wh.toI {x : Nat} {v : Int} (h : Wh x v) : (double.read x).toInt .zero = some v := by
  obtain ⟨s, m, i, hr, hi, hs⟩ := h
  have hp : 0 < 2 ^ (-i).toNat := Nat.two_pow_pos _
  rw [hr]
  unfold Datum.toInt Datum.integral
  simp only [cut_zero]
  have hm : m = v.natAbs * 2 ^ (-i).toNat := by
    have := congrArg Int.natAbs hs
    rw [signed_abs, Int.natAbs_mul, Int.natAbs_natCast] at this
    exact this
  have h0 : i.toNat = 0 := by omega
  rw [h0, Nat.shiftLeft_zero, hm, Nat.mul_div_cancel _ hp]
  congr 1
  subst hm
  by_cases hv : v = 0
  · subst hv; cases s <;> rfl
  · have hq : (0 : Int) < (2 ^ (-i).toNat : Nat) := by exact_mod_cast hp
    generalize ((2 ^ (-i).toNat : Nat)) = g at *
    unfold signed at *
    simp only [Nat.shiftLeft_zero, Int.natCast_mul] at *
    cases s
    · simp only [Bool.false_eq_true, if_false] at *
      exact Int.eq_of_mul_eq_mul_right (by omega) hs
    · simp only [if_true] at *
      rw [← Int.neg_mul] at hs
      exact Int.eq_of_mul_eq_mul_right (by omega) hs
theorem Wh.toIV {x : Nat} {v : Int} (h : Wh x v) : toIV .f64 x = v := by
  unfold E.toIV FloatKind.decode
  show (((double.read x).toInt .zero).getD 0) = v
  rw [h.toI]; rfl
theorem Wh.toIOk {x : Nat} {v : Int} (h : Wh x v) (h1 : -2000 ≤ v) (h2 : v ≤ 2000) : toIOk .f64 x .i64 = true := by
  unfold E.toIOk FloatKind.decode
  show (match (double.read x).toInt .zero with | some n => decide (IntKind.i64.min ≤ n ∧ n ≤ IntKind.i64.max) | none => false) = true
  rw [h.toI]
  simp [IntKind.min, IntKind.max, IntKind.signed, IntKind.bits]
  omega
def cm : Nat := double.nearest true 1000 0
def cp : Nat := double.nearest false 1000 0
end Go.Proofs.Ytidkmoohgadjkaa.E
