/- Items (layer 2): what each function computes, the program's and the document's. -/
import Derived.Test.YtijkfjahgijphaaKPlace
set_option linter.unusedVariables false
set_option linter.unusedSimpArgs false
set_option maxRecDepth 100000
set_option maxHeartbeats 4000000
namespace Go.Proofs.Ytijkfjahgijphaa
open Go E
theorem all_take {α : Type} {l : List α} {p : α → Bool} {j : Nat} (h : j < l.length) (h1 : (l.take j).all p = true) (h2 : p l[j] = true) : (l.take (j + 1)).all p = true := by
  rw [List.take_succ_eq_append_getElem h, List.all_append, h1]; simp [h2]
theorem all_bad {α : Type} {l : List α} {p : α → Bool} {j : Nat} (h : j < l.length) (h2 : p l[j] = false) : l.all p = false := by
  rw [List.all_eq_false]; exact ⟨_, List.getElem_mem h, by simp [h2]⟩
def bytesOf (s : ByteArray) : List UInt8 := s.data.toList
theorem bytes_len (s : ByteArray) : (bytesOf s).length = s.size := by unfold bytesOf; rw [Array.length_toList]; rfl
theorem atS_eq {s : ByteArray} {j : Nat} (h : j < (bytesOf s).length) : atS s (j : Int) = (((bytesOf s)[j].toNat : Nat) : Int) := by
  unfold atS
  rw [List.getD_eq_getElem?_getD, Int.toNat_natCast]
  show (((bytesOf s)[j]?.getD 0).toNat : Int) = _
  rw [List.getElem?_eq_getElem h]; rfl
theorem inB_j {s : ByteArray} {j : Nat} (h : j < (bytesOf s).length) : inB (j : Int) s.size = true := by
  rw [bytes_len] at h; unfold inB; simp; omega
def lowC (b : UInt8) : Bool := !ltI (b.toNat : Int) 97 && !ltI 122 (b.toNat : Int)
def lettersB (s : ByteArray) (n : Int) : Bool := !ltI (lenS s) n && (!ltI 8 (lenS s) && (bytesOf s).all lowC)
theorem len_bytes (s : ByteArray) : lenS s = ((bytesOf s).length : Int) := by rw [bytes_len]; rfl
theorem leI_not (a b : Int) : leI a b = !ltI b a := by
  cases h : ltI b a with
  | true => rw [ltI_t] at h; exact leI_f.2 (by omega)
  | false => rw [ltI_f] at h; exact leI_t.2 (by omega)
theorem letters_ok {X : Task → Prop} (hX : Closed X) {s : ByteArray} {n : Int} {Q : A → List Blk → Prop} (hs : s.size ≤ 9223372036854775807) (hQ : Q (bv (lettersB s n)) []) : X (.call 140 [sv s, iv n] [] Q) := by
  refine call_intro hX Try.func140 rfl rfl ?_
  cases h1 : ltI (lenS s) n with
  | true => repeat' ((conv => whnf); first | exact hQ | refine eqv_id ?_ | refine Two.l ?_ | refine ⟨by kernel_rfl, ?_⟩ | refine bct (by assumption) ?_ | refine bcf (by assumption) ?_ | refine bcf (nt (by assumption)) ?_ | refine bct (nf (by assumption)) ?_ | (exact Qb hQ (by unfold lettersB; rw [h1]; rfl)))
  | false =>
    cases h2 : ltI 8 (lenS s) with
    | true => repeat' ((conv => whnf); first | exact hQ | refine eqv_id ?_ | refine Two.l ?_ | refine ⟨by kernel_rfl, ?_⟩ | refine bct (by assumption) ?_ | refine bcf (by assumption) ?_ | refine bcf (nt (by assumption)) ?_ | refine bct (nf (by assumption)) ?_ | (exact Qb hQ (by unfold lettersB; rw [h1, h2]; rfl)))
    | false =>
      repeat' ((conv => whnf); first | exact hQ | refine eqv_id ?_ | refine Two.l ?_ | refine ⟨by kernel_rfl, ?_⟩ | refine bct (by assumption) ?_ | refine bcf (by assumption) ?_ | refine bcf (nt (by assumption)) ?_ | refine bct (nf (by assumption)) ?_)
      refine range_loop (fun j (_ : Unit) => pad [(0, sv s), (15, iv (lenS s)), (0, iv (j : Int))] 13) (fun _ _ => []) (fun j _ => ((bytesOf s).take j).all lowC = true) (bytesOf s).length (fun j st hj hI ih => ?_) (fun st hI => ?_) () rfl
      · refine loop_intro hX ?_
        have q1 : ltI (j : Int) (lenS s) = true := by rw [len_bytes, ltI_t]; omega
        have q2 := inB_j hj
        have q3 := atS_eq hj
        have q4 := bytes_len s
        cases h3 : ltI (((bytesOf s)[j].toNat : Nat) : Int) 97 with
        | true =>
          rw [← q3] at h3
          repeat' ((conv => whnf); first | exact hQ | refine eqv_id ?_ | refine Two.l ?_ | refine ⟨by kernel_rfl, ?_⟩ | refine bct (by assumption) ?_ | refine bcf (by assumption) ?_ | refine bcf (nt (by assumption)) ?_ | refine bct (nf (by assumption)) ?_ | (exact Qb hQ (by unfold lettersB; rw [all_bad hj (by unfold lowC; rw [← q3, h3]; rfl)]; simp)))
        | false =>
          cases h4 : ltI 122 (((bytesOf s)[j].toNat : Nat) : Int) with
          | true =>
            rw [← q3] at h3 h4
            repeat' ((conv => whnf); first | exact hQ | refine eqv_id ?_ | refine Two.l ?_ | refine ⟨by kernel_rfl, ?_⟩ | refine bct (by assumption) ?_ | refine bcf (by assumption) ?_ | refine bcf (nt (by assumption)) ?_ | refine bct (nf (by assumption)) ?_ | (exact Qb hQ (by unfold lettersB; rw [all_bad hj (by unfold lowC; rw [← q3, h4]; simp)]; simp)))
          | false =>
            have hl := all_take hj hI (by unfold lowC; rw [h3, h4]; rfl)
            rw [← q3] at h3 h4
            repeat' ((conv => whnf); first | exact hQ | refine eqv_id ?_ | refine Two.l ?_ | refine ⟨by kernel_rfl, ?_⟩ | refine bct (by assumption) ?_ | refine bcf (by assumption) ?_ | refine bcf (nt (by assumption)) ?_ | refine bct (nf (by assumption)) ?_ | (rw [wrS (by omega)]; exact ih () hl))
      · rw [List.take_length] at hI
        have q1 : ltI ((bytesOf s).length : Int) (lenS s) = false := by rw [len_bytes, ltI_f]; omega
        refine loop_intro hX ?_
        repeat' ((conv => whnf); first | exact hQ | refine eqv_id ?_ | refine Two.l ?_ | refine ⟨by kernel_rfl, ?_⟩ | refine bct (by assumption) ?_ | refine bcf (by assumption) ?_ | refine bcf (nt (by assumption)) ?_ | refine bct (nf (by assumption)) ?_ | (exact Qb hQ (by unfold lettersB; rw [h1, h2, hI]; rfl)))
theorem rletters_ok {X : Task → Prop} (hX : Closed X) {s : ByteArray} {n : Int} {Q : A → List Blk → Prop} (hs : s.size ≤ 9223372036854775807) (hQ : Q (bv (lettersB s n)) []) : X (.call 150 [sv s, iv n] [] Q) := by
  refine call_intro hX Try.func150 rfl rfl ?_
  repeat' ((conv => whnf); first | exact hQ | refine eqv_id ?_ | refine Two.l ?_ | refine ⟨by kernel_rfl, ?_⟩ | refine bct (by assumption) ?_ | refine bcf (by assumption) ?_ | refine bcf (nt (by assumption)) ?_ | refine bct (nf (by assumption)) ?_)
  refine range_loop (fun j (_ : Unit) => pad [(0, sv s), (0, iv n), (3, iv (j : Int))] 24) (fun _ _ => []) (fun j _ => ((bytesOf s).take j).all lowC = true ∧ j ≤ 8) (bytesOf s).length (fun j st hj hI ih => ?_) (fun st hI => ?_) () ⟨rfl, by omega⟩
  · obtain ⟨hI, hj8⟩ := hI
    refine loop_intro hX ?_
    have q1 : ltI (j : Int) (lenS s) = true := by rw [len_bytes, ltI_t]; omega
    have q2 := inB_j hj
    have q3 := atS_eq hj
    have q4 := bytes_len s
    cases h2 : eqI (j : Int) 8 with
    | true =>
      have h8 : ltI 8 (lenS s) = true := by rw [eqI_t] at h2; rw [len_bytes, ltI_t]; omega
      repeat' ((conv => whnf); first | exact hQ | refine eqv_id ?_ | refine Two.l ?_ | refine ⟨by kernel_rfl, ?_⟩ | refine bct (by assumption) ?_ | refine bcf (by assumption) ?_ | refine bcf (nt (by assumption)) ?_ | refine bct (nf (by assumption)) ?_ | (exact Qb hQ (by unfold lettersB; rw [h8]; simp)))
    | false =>
      cases h3 : ltI (((bytesOf s)[j].toNat : Nat) : Int) 97 with
      | true =>
        rw [← q3] at h3
        repeat' ((conv => whnf); first | exact hQ | refine eqv_id ?_ | refine Two.l ?_ | refine ⟨by kernel_rfl, ?_⟩ | refine bct (by assumption) ?_ | refine bcf (by assumption) ?_ | refine bcf (nt (by assumption)) ?_ | refine bct (nf (by assumption)) ?_ | (exact Qb hQ (by unfold lettersB; rw [all_bad hj (by unfold lowC; rw [← q3, h3]; rfl)]; simp)))
      | false =>
        cases h4 : ltI 122 (((bytesOf s)[j].toNat : Nat) : Int) with
        | true =>
          rw [← q3] at h3 h4
          repeat' ((conv => whnf); first | exact hQ | refine eqv_id ?_ | refine Two.l ?_ | refine ⟨by kernel_rfl, ?_⟩ | refine bct (by assumption) ?_ | refine bcf (by assumption) ?_ | refine bcf (nt (by assumption)) ?_ | refine bct (nf (by assumption)) ?_ | (exact Qb hQ (by unfold lettersB; rw [all_bad hj (by unfold lowC; rw [← q3, h4]; simp)]; simp)))
        | false =>
          have hl := all_take hj hI (by unfold lowC; rw [h3, h4]; rfl)
          have h9 : j + 1 ≤ 8 := by rw [eqI_f] at h2; omega
          rw [← q3] at h3 h4
          repeat' ((conv => whnf); first | exact hQ | refine eqv_id ?_ | refine Two.l ?_ | refine ⟨by kernel_rfl, ?_⟩ | refine bct (by assumption) ?_ | refine bcf (by assumption) ?_ | refine bcf (nt (by assumption)) ?_ | refine bct (nf (by assumption)) ?_ | (rw [wrS (by omega)]; exact ih () ⟨hl, h9⟩))
  · obtain ⟨hI, hj8⟩ := hI
    rw [List.take_length] at hI
    have q1 : ltI ((bytesOf s).length : Int) (lenS s) = false := by rw [len_bytes, ltI_f]; omega
    have q2 : ltI 8 (lenS s) = false := by rw [len_bytes, ltI_f]; omega
    refine loop_intro hX ?_
    repeat' ((conv => whnf); first | exact hQ | refine eqv_id ?_ | refine Two.l ?_ | refine ⟨by kernel_rfl, ?_⟩ | refine bct (by assumption) ?_ | refine bcf (by assumption) ?_ | refine bcf (nt (by assumption)) ?_ | refine bct (nf (by assumption)) ?_ | (exact Qb hQ (by unfold lettersB; rw [q2, hI, leI_not]; simp)))
theorem name_ok {X : Task → Prop} (hX : Closed X) {s : ByteArray} {Q : A → List Blk → Prop} (hs : s.size ≤ 9223372036854775807) (hQ : Q (bv (lettersB s 1)) []) : X (.call 126 [sv s] [] Q) := by
  refine call_intro hX Try.func126 rfl rfl ?_
  repeat' ((conv => whnf); first | exact hQ | refine eqv_id ?_ | refine Two.l ?_ | refine ⟨by kernel_rfl, ?_⟩ | refine bct (by assumption) ?_ | refine bcf (by assumption) ?_ | refine bcf (nt (by assumption)) ?_ | refine bct (nf (by assumption)) ?_ | refine letters_ok hX hs ?_)
theorem rname_ok {X : Task → Prop} (hX : Closed X) {s : ByteArray} {Q : A → List Blk → Prop} (hs : s.size ≤ 9223372036854775807) (hQ : Q (bv (lettersB s 1)) []) : X (.call 104 [sv s] [] Q) := by
  refine call_intro hX Try.func104 rfl rfl ?_
  repeat' ((conv => whnf); first | exact hQ | refine eqv_id ?_ | refine Two.l ?_ | refine ⟨by kernel_rfl, ?_⟩ | refine bct (by assumption) ?_ | refine bcf (by assumption) ?_ | refine bcf (nt (by assumption)) ?_ | refine bct (nf (by assumption)) ?_ | refine rletters_ok hX hs ?_)
structure Item where
  id : ByteArray
  vr : Int
  vc : Int
  stamp : Int
  kind : ByteArray
  num : Int
  re : Nat
  im : Nat
  dead : Bool
abbrev Item.row (x : Item) : List PC := [.v (.string x.id), ip x.vr, ip x.vc, ip x.stamp, .v (.string x.kind), ip x.num, .v (.complex .f64 x.re x.im), .v (.bool x.dead)]
abbrev Item.cs (x : Item) : List C := [.p (.v (.string x.id)), ic x.vr, ic x.vc, ic x.stamp, .p (.v (.string x.kind)), ic x.num, .p (.v (.complex .f64 x.re x.im)), .p (.v (.bool x.dead))]
abbrev Item.a (x : Item) : A := .agg x.cs
abbrev Item.lrow (x : Item) : List PC := [.v (.string x.id), ip x.vr, ip x.vc, ip x.stamp, .v (.string x.kind), ip x.num, .v (.float .f64 x.re), .v (.float .f64 x.im), .v (.bool x.dead)]
abbrev Item.la (x : Item) : A := .agg [.p (.v (.string x.id)), ic x.vr, ic x.vc, ic x.stamp, .p (.v (.string x.kind)), ic x.num, .p (.v (.float .f64 x.re)), .p (.v (.float .f64 x.im)), .p (.v (.bool x.dead))]
abbrev verA (r c : Int) : A := .agg [ic r, ic c]
structure Item.Ok (x : Item) : Prop where
  id : x.id.size ≤ 9223372036854775807
  kind : x.kind.size ≤ 9223372036854775807
  vr : -9223372036854775808 ≤ x.vr ∧ x.vr ≤ 9223372036854775807
  vc : -9223372036854775808 ≤ x.vc ∧ x.vc ≤ 9223372036854775807
  stamp : -9223372036854775808 ≤ x.stamp ∧ x.stamp ≤ 9223372036854775807
  num : -9223372036854775808 ≤ x.num ∧ x.num ≤ 9223372036854775807
attribute [irreducible] lettersB
end Go.Proofs.Ytijkfjahgijphaa
