/- The contracts of code's functions, as decomp.py asks for them. -/
import Derived.Test.YtidkmoohgadjkaaBTypes
import Derived.Test.YtidkmoohgadjkaaBCode2
set_option linter.unusedVariables false
set_option linter.unusedSimpArgs false
namespace Go.Proofs.Ytidkmoohgadjkaa
open Go E N C
noncomputable section
open Classical
def bytesB (l : List Nat) : Bool := decide ((∀ x ∈ l, x < 256) ∧ l.length ≤ 20000)
theorem bytesB_t {l : List Nat} (h : bytesB l = true) : (∀ x ∈ l, x < 256) ∧ l.length ≤ 20000 := of_decide_eq_true h
def numN (n : Int) : List Nat := if -2147483648 ≤ n ∧ n ≤ 2147483647 then encN 4 (numU n) else []
def code_Num_s (n : Int) : Option (List Nat) := some (numN n)
theorem code_Num_c {X : Task → Prop} (hX : Closed X) {n : Int} {r : List Nat} {Q : A → List Blk → Prop} (h : code_Num_s n = some r) (hQ : Q (.one (.p (.sl (r.map brw)))) []) : X (.call 5 [iv n] [] Q) := by
  injection h with h; subst h
  have hp : CallOk Try.prog 5 [iv n] [] (sl (bs (numN n))) [] := by
    obtain ⟨r, s, ⟨rfl, rfl⟩, h⟩ := D.num_ok (X := TaskOk Try.prog) (n := n) (Q := fun r s => r = sl (bs (numN n)) ∧ s = []) sound2 (fun h1 h2 => ⟨by unfold numN; rw [if_pos ⟨h1, h2⟩], rfl⟩) (fun h => ⟨by unfold numN; rw [if_neg (by omega)]; rfl, rfl⟩)
    exact h
  exact prim_call hX hp hQ
def code_Text_s (s : ByteArray) : Option (List Nat) := some (textL s)
theorem code_Text_c {X : Task → Prop} (hX : Closed X) {s : ByteArray} {r : List Nat} {Q : A → List Blk → Prop} (h : code_Text_s s = some r) (hQ : Q (.one (.p (.sl (r.map brw)))) []) : X (.call 7 [.one (.p (.v (.string s)))] [] Q) := by
  injection h with h; subst h
  obtain ⟨r, s', ⟨rfl, rfl⟩, h⟩ := text_ok (X := TaskOk Try.prog) (s := s) (Q := fun r s' => r = sl (bs (textL s)) ∧ s' = []) sound1 ⟨rfl, rfl⟩
  exact prim_call hX h hQ
def code_GetNum_s (l : List Nat) : Option (Int × Int) := chk (bytesB l) (some (gN l))
theorem code_GetNum_c {X : Task → Prop} (hX : Closed X) {l : List Nat} {r : Int × Int} {Q : A → List Blk → Prop} (h : code_GetNum_s l = some r) (hQ : Q (.tup [iv r.1, iv r.2]) []) : X (.call 6 [.one (.p (.sl (l.map brw)))] [] Q) := by
  obtain ⟨hb, h⟩ := chk_some h
  injection h with h; subst h
  obtain ⟨hb, hl⟩ := bytesB_t hb
  obtain ⟨r, s, ⟨rfl, rfl⟩, h⟩ := getnum_ok (X := TaskOk Try.prog) (Q := fun r s => r = .tup [iv (gN l).1, iv (gN l).2] ∧ s = []) sound1 ⟨rfl, hb⟩ hl ⟨rfl, rfl⟩
  exact prim_call hX h hQ
def code_GetText_s (l : List Nat) : Option (ByteArray × Int) := chk (bytesB l) (some (gT l))
theorem code_GetText_c {X : Task → Prop} (hX : Closed X) {l : List Nat} {r : ByteArray × Int} {Q : A → List Blk → Prop} (h : code_GetText_s l = some r) (hQ : Q (.tup [.one (.p (.v (.string r.1))), iv r.2]) []) : X (.call 8 [.one (.p (.sl (l.map brw)))] [] Q) := by
  obtain ⟨hb, h⟩ := chk_some h
  injection h with h; subst h
  obtain ⟨hb, hl⟩ := bytesB_t hb
  obtain ⟨r, s, ⟨rfl, rfl⟩, h⟩ := gettext_ok (X := TaskOk Try.prog) (Q := fun r s => r = .tup [sv (gT l).1, iv (gT l).2] ∧ s = []) sound1 ⟨rfl, hb⟩ hl ⟨rfl, rfl⟩
  exact prim_call hX h hQ
def code_Seal_s (l : List Nat) : Option (List Nat) := chk (bytesB l) (some (sealN l))
theorem code_Seal_c {X : Task → Prop} (hX : Closed X) {l r : List Nat} {Q : A → List Blk → Prop} (h : code_Seal_s l = some r) (hQ : Q (.one (.p (.sl (r.map brw)))) []) : X (.call 10 [.one (.p (.sl (l.map brw)))] [] Q) := by
  obtain ⟨hb, h⟩ := chk_some h
  injection h with h; subst h
  obtain ⟨hb, hl⟩ := bytesB_t hb
  obtain ⟨r, s, ⟨rfl, rfl⟩, h⟩ := seal_ok (X := TaskOk Try.prog) (Q := fun r s => r = sl (bs (sealN l)) ∧ s = []) sound1 ⟨rfl, hb⟩ hl ⟨rfl, rfl⟩
  exact prim_call hX h hQ
def openN (l : List Nat) : List Nat × Option Int := if okN l = true then (l.take (l.length - 4), none) else ([], some 7)
def code_Open_s (l : List Nat) : Option (List Nat × Option Int) := chk (bytesB l) (some (openN l))
theorem code_Open_c {X : Task → Prop} (hX : Closed X) {l : List Nat} {r : List Nat × Option Int} {Q : A → List Blk → Prop} (h : code_Open_s l = some r) (hQ : Q (.tup [.one (.p (.sl (r.1.map brw))), errA 39 r.2]) []) : X (.call 9 [.one (.p (.sl (l.map brw)))] [] Q) := by
  obtain ⟨hb, h⟩ := chk_some h
  injection h with h; subst h
  obtain ⟨hb, hl⟩ := bytesB_t hb
  have hp : CallOk Try.prog 9 [.one (.p (.sl (l.map brw)))] [] (.tup [sl (bs (openN l).1), errA 39 (openN l).2]) [] := by
    obtain ⟨r, s, ⟨rfl, rfl⟩, h⟩ := open_ok (X := TaskOk Try.prog) (Q := fun r s => r = .tup [sl (bs (openN l).1), errA 39 (openN l).2] ∧ s = []) sound1 ⟨rfl, hb⟩ hl (fun h => ⟨by unfold openN; rw [if_pos h]; rfl, rfl⟩) (fun h => ⟨by unfold openN; rw [if_neg (by rw [h]; decide)]; rfl, rfl⟩)
    exact h
  exact prim_call hX hp hQ
def law16_up_s : Option Bool := some true
theorem law16_up_c {X : Task → Prop} (hX : Closed X) {r : Bool} {Q : A → List Blk → Prop} (h : law16_up_s = some r) (hQ : Q (.one (.p (.v (.bool r)))) []) : X (.call 4 [] [] Q) := by
  injection h with h; subst h
  obtain ⟨r, s, ⟨rfl, rfl⟩, h⟩ := cup_ok (X := TaskOk Try.prog) (Q := fun r s => r = bv true ∧ s = []) sound1 ⟨rfl, rfl⟩
  exact prim_call hX h hQ
end
end Go.Proofs.Ytidkmoohgadjkaa
