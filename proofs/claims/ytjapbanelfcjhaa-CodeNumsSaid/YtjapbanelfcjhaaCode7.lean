/- Texts as bytes; the number with which bytes begin. -/
import Derived.Test.YtjapbanelfcjhaaCode6
set_option linter.unusedVariables false
set_option linter.unusedSimpArgs false
set_option maxRecDepth 100000
namespace Go.Proofs.Ytjapbanelfcjhaa.C
open Go E N
def sB (s : ByteArray) : List Nat := s.data.toList.map UInt8.toNat
theorem bytesS_bs (s : ByteArray) : bytesS s = bs (sB s) := by
  show List.map _ s.data.toList = List.map bRow (List.map UInt8.toNat s.data.toList)
  rw [List.map_map]; rfl
theorem sB_len (s : ByteArray) : (sB s).length = s.size := by
  show (List.map UInt8.toNat s.data.toList).length = s.data.size
  rw [List.length_map, Array.length_toList]
theorem sB_lt (s : ByteArray) : ∀ x ∈ sB s, x < 256 := fun x hx => by
  obtain ⟨b, _, rfl⟩ := List.mem_map.1 hx
  exact b.toNat_lt
theorem lenS_eq (s : ByteArray) : lenS s = (s.size : Int) := rfl
def textL (s : ByteArray) : List Nat := if s.size ≤ 8 then 2 * s.size :: sB s else []
theorem text_lt (s : ByteArray) : ∀ x ∈ textL s, x < 256 := fun x hx => by
  unfold textL at hx
  split at hx
  · rcases List.mem_cons.1 hx with rfl | hx
    · omega
    · exact sB_lt s x hx
  · simp at hx
section
variable {X : Task → Prop} (hX : Closed X) {Q : A → List Blk → Prop} {c : PC} {xs : List Nat}
include hX
theorem text_ok {s : ByteArray} (hQ : Q (sl (bs (textL s))) []) : X (.call 60 [.one (.p (.v (.string s)))] [] Q) := by
  refine call_intro hX Try.func60 rfl rfl ?_
  by_cases h : s.size ≤ 8
  · have q1 : ltI 8 (lenS s) = false := by rw [lenS_eq, ltI_f]; omega
    have e : encN 4 (numU (lenS s)) = [2 * s.size] := by
      have : numU (lenS s) = 2 * s.size := by rw [lenS_eq]; unfold numU; rw [if_neg (by omega)]; omega
      rw [this, encN, if_neg (by omega)]
    have q2 : (roomFor (bs [2 * s.size]) (bytesS s) 1 && rowsOk (bytesS s) 1 && (Nat.beq 1 1 || Nat.beq 1 0)) = true := by
      rw [bytesS_bs]; exact room_bs (by rw [sB_len]; simp; omega)
    have fin : Q (sl (catL (bs [2 * s.size]) (bytesS s))) [] := by
      rw [bytesS_bs, cat_bs]; unfold textL at hQ; rw [if_pos h] at hQ; exact hQ
    repeat' ((conv => whnf); first | exact fin | refine num_ok hX (fun _ _ => e ▸ ?_) (fun h' => absurd h' (by rw [lenS_eq]; omega)) | refine bct (by assumption) ?_ | refine bcf (by assumption) ?_)
  · have q1 : ltI 8 (lenS s) = true := by rw [lenS_eq, ltI_t]; omega
    unfold textL at hQ; rw [if_neg h] at hQ
    repeat' ((conv => whnf); first | exact hQ | refine bct (by assumption) ?_ | refine bcf (by assumption) ?_)
theorem rtext_ok {s : ByteArray} (hQ : Q (sl (bs (textL s))) []) : X (.call 61 [.one (.p (.v (.string s)))] [] Q) := by
  refine call_intro hX Try.func61 rfl rfl ?_
  by_cases h : s.size ≤ 8
  · have q1 : ltI 8 (lenS s) = false := by rw [lenS_eq, ltI_f]; omega
    have e : wr .u8 (wr .i64 (2 * lenS s)) = ((2 * s.size : Nat) : Int) := by
      rw [lenS_eq, wr64 (by omega) (by omega), show (2 * (s.size : Int)) = ((2 * s.size : Nat) : Int) by omega, wr8]; omega
    have q2 : (roomFor [[.v (.int .u8 (wr .u8 (wr .i64 (2 * lenS s))))]] (bytesS s) 1 && rowsOk (bytesS s) 1 && (Nat.beq 1 1 || Nat.beq 1 0)) = true := by
      rw [bytesS_bs]; exact room_bs (xs := [2 * s.size]) (by rw [sB_len]; simp; omega)
    have fin : Q (sl (catL [[.v (.int .u8 (wr .u8 (wr .i64 (2 * lenS s))))]] (bytesS s))) [] := by
      rw [bytesS_bs, e]; unfold textL at hQ; rw [if_pos h] at hQ; exact hQ
    repeat' ((conv => whnf); first | exact fin | refine bct (by assumption) ?_ | refine bcf (by assumption) ?_)
  · have q1 : ltI 8 (lenS s) = true := by rw [lenS_eq, ltI_t]; omega
    unfold textL at hQ; rw [if_neg h] at hQ
    repeat' ((conv => whnf); first | exact hQ | refine bct (by assumption) ?_ | refine bcf (by assumption) ?_)
end
end Go.Proofs.Ytjapbanelfcjhaa.C
