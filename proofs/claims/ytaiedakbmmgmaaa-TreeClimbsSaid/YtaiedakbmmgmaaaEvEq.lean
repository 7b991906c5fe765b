/- '==' of structs and arrays goes cell by cell. -/
import Derived.Test.YtaiedakbmmgmaaaEvOps5
import Derived.Laws.StructEq
import Derived.ChangeKeysEq
set_option linter.unusedVariables false
set_option linter.unusedSimpArgs false
namespace Go.Proofs.Ytaiedakbmmgmaaa.E
open Go

def pk (ag : Bool) (l : List Value) : Value := match ag with
  | true => .agg l.toArray
  | false => l.headD .nilFunc
structure EqD (P : Program) (t : Nat) (ag : Bool) (z : List Value) (d : Nat) : Prop where
  guard : ∀ n, d ≤ n → P.eqGuardType n t = false
  run : ∀ (n : Nat) (xs ys : List Value) (b : Bool) (w : World), d ≤ n → eqZ z xs ys = some b → (Op.equalIn n t (pk ag xs) (pk ag ys)).run P w = .ok b w
  part : ∀ (xs : List Value) (off : Nat) (w : World), off + z.length ≤ xs.length → (part t xs.toArray off).run P w = .ok (pk ag ((xs.drop off).take z.length)) w
theorem EqD.mono {P t ag z d d'} (h : EqD P t ag z d) (hd : d ≤ d') : EqD P t ag z d' :=
  ⟨fun n hn => h.guard n (by omega), fun n xs ys b w hn => h.run n xs ys b w (by omega), h.part⟩
theorem eqZ_app : ∀ {z1 z2 xs ys : List Value} {b : Bool}, eqZ (z1 ++ z2) xs ys = some b →
    ∃ b1, eqZ z1 (xs.take z1.length) (ys.take z1.length) = some b1 ∧ (b1 = true → eqZ z2 (xs.drop z1.length) (ys.drop z1.length) = some b) ∧ (b1 = false → b = false)
  | [], z2, xs, ys, b, h => ⟨true, by simp [eqZ], fun _ => by simpa using h, fun h => by cases h⟩
  | z :: z1, z2, [], ys, b, h => by simp [eqZ] at h
  | z :: z1, z2, x :: xs, [], b, h => by simp [eqZ] at h
  | z :: z1, z2, x :: xs, y :: ys, b, h => by
    have hl := eqZ_len h
    simp only [List.cons_append, eqZ] at h
    cases he : eqV z x y with
    | none => simp [he] at h
    | some c =>
      cases c with
      | true =>
        simp only [he] at h
        obtain ⟨b1, h1, h2, h3⟩ := eqZ_app h
        exact ⟨b1, by simp only [List.length_cons, List.take_succ_cons, eqZ, he, h1], fun hb => by simpa using h2 hb, h3⟩
      | false =>
        simp only [he] at h
        split at h
        · injection h with h
          simp at hl
          refine ⟨false, ?_, nofun, fun _ => h.symm⟩
          simp only [List.length_cons, List.take_succ_cons, eqZ, he]
          rw [if_pos]
          simp [List.length_take]; omega
        · cases h

section
variable {P : Program} {t : Nat}
theorem eqZ_one {z : Value} {xs ys : List Value} {b : Bool} (h : eqZ [z] xs ys = some b) : ∃ x y, xs = [x] ∧ ys = [y] ∧ eqV z x y = some b := by
  obtain ⟨h1, h2⟩ := eqZ_len h
  match xs, ys, h1, h2 with
  | [x], [y], _, _ =>
    refine ⟨x, y, rfl, rfl, ?_⟩
    simp only [eqZ] at h
    cases he : eqV z x y with
    | none => simp [he] at h
    | some c => cases c <;> simp [he] at h <;> simp [h]
theorem part_flat {d : TypeDesc} (hu : P.underlying t = some d) (hd : (∃ k, d = .int k) ∨ d = .bool ∨ d = .string ∨ ∃ k, d = .complex k) (v : Value) (xs : List Value) (off : Nat) (w : World) (ho : off + [v].length ≤ xs.length) :
    (part t xs.toArray off).run P w = .ok (pk false ((xs.drop off).take [v].length)) w := by
  simp at ho
  have h1 : (xs.drop off).take 1 = [xs[off]'(by omega)] := by
    rw [List.take_one, List.head?_drop, List.getElem?_eq_getElem (by omega)]; rfl
  have h2 : xs.toArray[off]? = some (xs[off]'(by omega)) := by simp
  rcases hd with ⟨k, rfl⟩ | rfl | rfl | ⟨k, rfl⟩ <;> simp [part, Go.isAgg, run_underlying hu, h1, h2, pk]
theorem EqD.int {k : IntKind} {a : Int} (hu : P.underlying t = some (.int k)) : EqD P t false [.int k a] 1 := by
  refine ⟨fun n hn => ?_, fun n xs ys b w hn h => ?_, part_flat hu (.inl ⟨k, rfl⟩) _⟩
  · obtain ⟨n, rfl⟩ : ∃ m, n = m + 1 := ⟨n - 1, by omega⟩
    simp [Program.eqGuardType, hu]
  · obtain ⟨n, rfl⟩ : ∃ m, n = m + 1 := ⟨n - 1, by omega⟩
    obtain ⟨x, y, rfl, rfl, he⟩ := eqZ_one h
    clear h
    cases x <;> cases y <;> simp [eqV] at he
    obtain ⟨⟨rfl, rfl⟩, rfl⟩ := he
    simp only [pk, List.headD_cons]; rw [run_equalIn_int (k' := k) w n t k _ _ hu]
theorem EqD.str {a : ByteArray} (hu : P.underlying t = some .string) : EqD P t false [.string a] 1 := by
  refine ⟨fun n hn => ?_, fun n xs ys b w hn h => ?_, part_flat hu (.inr (.inr (.inl rfl))) _⟩
  · obtain ⟨n, rfl⟩ : ∃ m, n = m + 1 := ⟨n - 1, by omega⟩
    simp [Program.eqGuardType, hu]
  · obtain ⟨n, rfl⟩ : ∃ m, n = m + 1 := ⟨n - 1, by omega⟩
    obtain ⟨x, y, rfl, rfl, he⟩ := eqZ_one h
    clear h
    cases x <;> cases y <;> simp [eqV] at he
    subst he
    simp only [pk, List.headD_cons]; rw [run_equalIn_string w n t _ _ hu]
theorem EqD.bool {a : Bool} (hu : P.underlying t = some .bool) : EqD P t false [.bool a] 1 := by
  refine ⟨fun n hn => ?_, fun n xs ys b w hn h => ?_, part_flat hu (.inr (.inl rfl)) _⟩
  · obtain ⟨n, rfl⟩ : ∃ m, n = m + 1 := ⟨n - 1, by omega⟩
    simp [Program.eqGuardType, hu]
  · obtain ⟨n, rfl⟩ : ∃ m, n = m + 1 := ⟨n - 1, by omega⟩
    obtain ⟨x, y, rfl, rfl, he⟩ := eqZ_one h
    clear h
    cases x <;> cases y <;> simp [eqV] at he
    subst he
    simp only [pk, List.headD_cons]; rw [run_equalIn_bool' w n t _ _ hu]
theorem EqD.cplx {k : FloatKind} {a b : Nat} (hu : P.underlying t = some (.complex k)) : EqD P t false [.complex k a b] 1 := by
  refine ⟨fun n hn => ?_, fun n xs ys b w hn h => ?_, part_flat hu (.inr (.inr (.inr ⟨k, rfl⟩))) _⟩
  · obtain ⟨n, rfl⟩ : ∃ m, n = m + 1 := ⟨n - 1, by omega⟩
    simp [Program.eqGuardType, hu]
  · obtain ⟨n, rfl⟩ : ∃ m, n = m + 1 := ⟨n - 1, by omega⟩
    obtain ⟨x, y, rfl, rfl, he⟩ := eqZ_one h
    clear h
    cases x <;> cases y <;> simp [eqV] at he
    obtain ⟨⟨rfl, rfl⟩, rfl⟩ := he
    simp [pk, Op.equalIn, run_underlying hu]
/-- fields, one behind the other -/
inductive EqFs (P : Program) (D : Nat) : Nat → List Field → List Value → Prop
  | nil {off} : EqFs P D off [] []
  | cons {off f fs ag z1 z2} : f.name ≠ "_" → f.offset = off → EqD P f.type ag z1 D → EqFs P D (off + z1.length) fs z2 → EqFs P D off (f :: fs) (z1 ++ z2)
theorem EqFs.cons' {P : Program} {D off : Nat} {f : Field} {fs : List Field} {ag : Bool} {z z1 z2 : List Value} (hn : f.name ≠ "_") (ho : f.offset = off) (h : EqD P f.type ag z1 D) (hr : EqFs P D (off + z1.length) fs z2) (hz : z = z1 ++ z2) : EqFs P D off (f :: fs) z := by
  subst hz; exact .cons hn ho h hr
theorem EqFs.run {D : Nat} {off : Nat} {fs : List Field} {z : List Value} (h : EqFs P D off fs z) : ∀ (n : Nat) (xs ys : List Value) (b : Bool) (w : World), D ≤ n → off ≤ xs.length → off ≤ ys.length → eqZ z (xs.drop off) (ys.drop off) = some b →
    (Op.eqFields n xs.toArray ys.toArray fs).run P w = .ok b w := by
  induction h with
  | nil =>
    intro n xs ys b w hn _ _ h
    obtain ⟨h1, h2⟩ := eqZ_len h
    rw [List.eq_nil_of_length_eq_zero h1, List.eq_nil_of_length_eq_zero h2] at h
    simp [eqZ] at h; subst h; simp [Op.eqFields]
  | cons hn hoff hE hrest ih =>
    rename_i off f fs ag z1 z2
    intro n xs ys b w hd hxl hyl h
    have hl := eqZ_len h
    simp at hl
    obtain ⟨b1, h1, h2, h3⟩ := eqZ_app h
    simp only [Op.eqFields, ne_eq, hn, not_false_eq_true, if_true, Sem.run_bind]
    rw [hoff, hE.part xs off w (by omega), Result.andThen_ok, hE.part ys off w (by omega), Result.andThen_ok, hE.run n _ _ _ w hd h1, Result.andThen_ok]
    cases b1 with
    | false => rw [h3 rfl]; simp
    | true =>
      have := h2 rfl
      rw [List.drop_drop, List.drop_drop] at this
      simpa using ih n xs ys b w hd (by omega) (by omega) this
theorem EqFs.guard {D : Nat} {off : Nat} {fs : List Field} {z : List Value} (h : EqFs P D off fs z) (n : Nat) (hn : D ≤ n) : (fs.any fun f => f.name != "_" && P.eqGuardType n f.type) = false := by
  induction h with
  | nil => rfl
  | cons _ _ hE _ ih => simp [hE.guard n hn]; simpa using ih
theorem part_agg {i : TypeInfo} {z : List Value} (hi : P.info? t = some i) (hs : i.size = z.length) (ha : ∀ w, (Go.isAgg t).run P w = .ok true w) (xs : List Value) (off : Nat) (w : World) (ho : off + z.length ≤ xs.length) :
    (part t xs.toArray off).run P w = .ok (pk true ((xs.drop off).take z.length)) w := by
  simp only [part, Sem.run_bind, ha, Result.andThen_ok, if_true, run_sizeOf w hi, Sem.run_pure, pk]
  have hc : P.cellsOf t = z.length := by simp [Program.cellsOf, hi, hs]
  rw [hc]
  simp
theorem EqD.struct {D : Nat} {fs : Array Field} {z : List Value} {i : TypeInfo} (hu : P.underlying t = some (.struct fs)) (hp : P.stoodInHeld t = false) (hi : P.info? t = some i) (hs : i.size = z.length) (h : EqFs P D 0 fs.toList z) : EqD P t true z (D + 1) := by
  have hf : P.fieldsOf t = fs := by simp [Program.fieldsOf, hu]
  refine ⟨fun n hn => ?_, fun n xs ys b w hn he => ?_, part_agg hi hs fun w => by simp [Go.isAgg, run_underlying hu]⟩
  · obtain ⟨n, rfl⟩ : ∃ m, n = m + 1 := ⟨n - 1, by omega⟩
    simp only [Program.eqGuardType, hu]
    rw [← Array.any_toList]
    exact h.guard n (by omega)
  · obtain ⟨n, rfl⟩ : ∃ m, n = m + 1 := ⟨n - 1, by omega⟩
    simp only [pk]
    rw [run_equalIn_struct w n t _ _ (by rw [hf]; exact hu) hp, hf]
    exact h.run n xs ys b w (by omega) (by omega) (by omega) (by simpa using he)
theorem eqItems_run {D e : Nat} {ag : Bool} {ze : List Value} (hE : EqD P e ag ze D) (hc : P.cellsOf e = ze.length) : ∀ (m s : Nat) (n : Nat) (xs ys : List Value) (b : Bool) (w : World), D ≤ n → s * ze.length ≤ xs.length → s * ze.length ≤ ys.length → eqZ (List.replicate m ze).flatten (xs.drop (s * ze.length)) (ys.drop (s * ze.length)) = some b →
    (Op.eqItems n e (P.cellsOf e) xs.toArray ys.toArray (List.range' s m)).run P w = .ok b w
  | 0, s, n, xs, ys, b, w, hn, _, _, h => by
    obtain ⟨h1, h2⟩ := eqZ_len h
    simp only [List.replicate_zero, List.flatten_nil, List.length_nil] at h1 h2
    rw [List.eq_nil_of_length_eq_zero h1, List.eq_nil_of_length_eq_zero h2] at h
    simp [eqZ] at h; subst h; simp [Op.eqItems]
  | m + 1, s, n, xs, ys, b, w, hn, hx, hy, h => by
    have hl := eqZ_len h
    rw [List.replicate_succ, List.flatten_cons] at h hl
    simp only [List.length_drop, List.length_append] at hl
    have hs : (s + 1) * ze.length = s * ze.length + ze.length := Nat.succ_mul _ _
    obtain ⟨b1, h1, h2, h3⟩ := eqZ_app h
    simp only [List.range'_succ, Op.eqItems, Sem.run_bind]
    rw [hc, hE.part xs (s * ze.length) w (by omega), Result.andThen_ok, hE.part ys (s * ze.length) w (by omega), Result.andThen_ok, hE.run n _ _ _ w hn h1, Result.andThen_ok]
    cases b1 with
    | false => rw [h3 rfl]; simp
    | true =>
      have h2 := h2 rfl
      rw [List.drop_drop, List.drop_drop, ← hs] at h2
      have := eqItems_run hE hc m (s + 1) n xs ys b w hn (by omega) (by omega) h2
      rw [hc] at this
      simpa using this
theorem EqD.array {D e n : Nat} {ag : Bool} {ze z : List Value} {i ie : TypeInfo} (hu : P.underlying t = some (.array n e)) (hi : P.info? t = some i) (hs : i.size = z.length) (hie : P.info? e = some ie) (hse : ie.size = ze.length) (hz : z = (List.replicate n ze).flatten)
    (hE : EqD P e ag ze D) : EqD P t true z (D + 1) := by
  have hc : P.cellsOf e = ze.length := by simp [Program.cellsOf, hie, hse]
  refine ⟨fun m hn => ?_, fun m xs ys b w hn he => ?_, part_agg hi hs fun w => by simp [Go.isAgg, run_underlying hu]⟩
  · obtain ⟨m, rfl⟩ : ∃ k, m = k + 1 := ⟨m - 1, by omega⟩
    simp only [Program.eqGuardType, hu]
    exact hE.guard m (by omega)
  · obtain ⟨m, rfl⟩ : ∃ k, m = k + 1 := ⟨m - 1, by omega⟩
    simp only [pk]
    rw [run_equalIn_array w m _ _ hu hie, List.range_eq_range']
    exact eqItems_run hE hc n 0 m xs ys b w (by omega) (by simp) (by simp) (by rw [← hz]; simpa using he)
theorem EqD.eqP {z : List Value} {D : Nat} (h : EqD P t true z D) (hD : D ≤ P.depth) (hm : D ≤ 10000) : EqP P t z :=
  ⟨h.guard _ hD, fun xs ys b w he => h.run _ xs ys b w (show D ≤ 10000 from hm) he⟩
end
end Go.Proofs.Ytaiedakbmmgmaaa.E
