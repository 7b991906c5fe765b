/-
  NARROWER THAN 'FOR EVERY INPUT', by the rows' own cells (each row's printed sentence says how): AskOpens: loops · AskHas: loops.
  DERIVED. THE GIVEN ROWS OF THIS SEAT. 12 by the template 'for every input the law returns true; each argument reads behind the call as it read before'; 0 by the template 'total and deterministic' (their statements: YtjapbanelfcjhaaTotals.lean).
  GIVEN WITH THE SEED: the statements are not yours to turn. If you find one false, say at which input.
  Laid BY PROGRAM, IN A SANDBOX (cutbox-rows.mjs): the forced cells as the released guide's own fill.sh prints them over the translation 4ec50ca6df8981eb… (all of the seat's roots in one cut). By AI agents, Wed Nov 11 2026. No macro, syntax, notation, axiom, sorry.
-/
import Derived.Test.YtjapbanelfcjhaaChecked
import GoSem.Claim
import GoSem.ClaimJoined
import GoSem.ClaimMapViews
import Derived.JoinedTies
import Derived.KernelRfl
namespace Go.Proofs.Ytjapbanelfcjhaa
/- THE CELL 'sum', in the pinned program and in every row, IS THE sha256 OF THE DUMP (.gsa) THAT YtjapbanelfcjhaaProg.lean LOADS. Nothing in Lean hashes anything: it is a label: what it is worth is what the hold of that sum in a sandbox is worth. -/
noncomputable def Try.pinned : Pinned := { name := "ytjapbanelfcjhaa", sum := "4ec50ca6df8981eb93062e0a9704098ee37ef9c9f15d36ad75397e99aa761657", checked := Try.checked }
namespace Rows
def none {H : Type} : Left H := { results := [], args := [] }

/-- 'gallipotlaw18.DiskCuts': WHATEVER THE INPUT: true; the input reads as it did. -/
def diskCutsSpec : ChangeSpec := { name := "diskCuts", fn := fun _ => fun
  | [d1, d2, d3, d4] => { results := [.lit (.bool true)], args := [d1, d2, d3, d4] }
  | _ => none }
def diskCutsRow : OpenClaim := { program := "ytjapbanelfcjhaa", sum := "4ec50ca6df8981eb93062e0a9704098ee37ef9c9f15d36ad75397e99aa761657", func := "gallipot/gallipotlaw18.DiskCuts", spec := "diskCuts", apart := false }
def DiskCutsSaid : Prop := diskCutsRow.holds Try.pinned (OpenSpec.ofChange diskCutsSpec)

/-- ITS FALSE NEIGHBOUR: 'it returns false'. Refute it at one input. -/
def diskCutsWrong : ChangeSpec := { name := "diskCuts", fn := fun _ => fun
  | [d1, d2, d3, d4] => { results := [.lit (.bool false)], args := [d1, d2, d3, d4] }
  | _ => none }
def DiskCutsWrongFalsely : Prop := diskCutsRow.holds Try.pinned (OpenSpec.ofChange diskCutsWrong)

/-- 'gallipotlaw11.AskOpens': WHATEVER THE INPUT: true; the input reads as it did. -/
def askOpensSpec : ChangeSpec := { name := "askOpens", fn := fun _ => fun
  | [d1, d2, d3] => { results := [.lit (.bool true)], args := [d1, d2, d3] }
  | _ => none }
def askOpensRow : OpenClaim := { program := "ytjapbanelfcjhaa", sum := "4ec50ca6df8981eb93062e0a9704098ee37ef9c9f15d36ad75397e99aa761657", func := "gallipot/gallipotlaw11.AskOpens", spec := "askOpens", recurses := true, loops := true, apart := false }
def AskOpensSaid : Prop := askOpensRow.holds Try.pinned (OpenSpec.ofChange askOpensSpec)

/-- ITS FALSE NEIGHBOUR: 'it returns false'. Refute it at one input. -/
def askOpensWrong : ChangeSpec := { name := "askOpens", fn := fun _ => fun
  | [d1, d2, d3] => { results := [.lit (.bool false)], args := [d1, d2, d3] }
  | _ => none }
def AskOpensWrongFalsely : Prop := askOpensRow.holds Try.pinned (OpenSpec.ofChange askOpensWrong)

/-- 'gallipotlaw11.AskHas': WHATEVER THE INPUT: true; the input reads as it did. -/
def askHasSpec : ChangeSpec := { name := "askHas", fn := fun _ => fun
  | [d1, d2, d3, d4] => { results := [.lit (.bool true)], args := [d1, d2, d3, d4] }
  | _ => none }
def askHasRow : OpenClaim := { program := "ytjapbanelfcjhaa", sum := "4ec50ca6df8981eb93062e0a9704098ee37ef9c9f15d36ad75397e99aa761657", func := "gallipot/gallipotlaw11.AskHas", spec := "askHas", recurses := true, loops := true, apart := false }
def AskHasSaid : Prop := askHasRow.holds Try.pinned (OpenSpec.ofChange askHasSpec)

/-- ITS FALSE NEIGHBOUR: 'it returns false'. Refute it at one input. -/
def askHasWrong : ChangeSpec := { name := "askHas", fn := fun _ => fun
  | [d1, d2, d3, d4] => { results := [.lit (.bool false)], args := [d1, d2, d3, d4] }
  | _ => none }
def AskHasWrongFalsely : Prop := askHasRow.holds Try.pinned (OpenSpec.ofChange askHasWrong)

/-- 'gallipotlaw06.VecTells': WHATEVER THE INPUT: true; the input reads as it did. -/
def vecTellsSpec : ChangeSpec := { name := "vecTells", fn := fun _ => fun
  | [d1, d2, d3] => { results := [.lit (.bool true)], args := [d1, d2, d3] }
  | _ => none }
def vecTellsRow : OpenClaim := { program := "ytjapbanelfcjhaa", sum := "4ec50ca6df8981eb93062e0a9704098ee37ef9c9f15d36ad75397e99aa761657", func := "gallipot/gallipotlaw06.VecTells", spec := "vecTells", apart := false }
def VecTellsSaid : Prop := vecTellsRow.holds Try.pinned (OpenSpec.ofChange vecTellsSpec)

/-- ITS FALSE NEIGHBOUR: 'it returns false'. Refute it at one input. -/
def vecTellsWrong : ChangeSpec := { name := "vecTells", fn := fun _ => fun
  | [d1, d2, d3] => { results := [.lit (.bool false)], args := [d1, d2, d3] }
  | _ => none }
def VecTellsWrongFalsely : Prop := vecTellsRow.holds Try.pinned (OpenSpec.ofChange vecTellsWrong)

/-- 'gallipotlaw06.VecJoins': WHATEVER THE INPUT: true; the input reads as it did. -/
def vecJoinsSpec : ChangeSpec := { name := "vecJoins", fn := fun _ => fun
  | [d1, d2, d3, d4] => { results := [.lit (.bool true)], args := [d1, d2, d3, d4] }
  | _ => none }
def vecJoinsRow : OpenClaim := { program := "ytjapbanelfcjhaa", sum := "4ec50ca6df8981eb93062e0a9704098ee37ef9c9f15d36ad75397e99aa761657", func := "gallipot/gallipotlaw06.VecJoins", spec := "vecJoins", apart := false }
def VecJoinsSaid : Prop := vecJoinsRow.holds Try.pinned (OpenSpec.ofChange vecJoinsSpec)

/-- ITS FALSE NEIGHBOUR: 'it returns false'. Refute it at one input. -/
def vecJoinsWrong : ChangeSpec := { name := "vecJoins", fn := fun _ => fun
  | [d1, d2, d3, d4] => { results := [.lit (.bool false)], args := [d1, d2, d3, d4] }
  | _ => none }
def VecJoinsWrongFalsely : Prop := vecJoinsRow.holds Try.pinned (OpenSpec.ofChange vecJoinsWrong)

/-- 'gallipotlaw18.DiskPlays': WHATEVER THE INPUT: true; the input reads as it did. -/
def diskPlaysSpec : ChangeSpec := { name := "diskPlays", fn := fun _ => fun
  | [d] => { results := [.lit (.bool true)], args := [d] }
  | _ => none }
def diskPlaysRow : OpenClaim := { program := "ytjapbanelfcjhaa", sum := "4ec50ca6df8981eb93062e0a9704098ee37ef9c9f15d36ad75397e99aa761657", func := "gallipot/gallipotlaw18.DiskPlays", spec := "diskPlays", apart := false }
def DiskPlaysSaid : Prop := diskPlaysRow.holds Try.pinned (OpenSpec.ofChange diskPlaysSpec)

/-- ITS FALSE NEIGHBOUR: 'it returns false'. Refute it at one input. -/
def diskPlaysWrong : ChangeSpec := { name := "diskPlays", fn := fun _ => fun
  | [d] => { results := [.lit (.bool false)], args := [d] }
  | _ => none }
def DiskPlaysWrongFalsely : Prop := diskPlaysRow.holds Try.pinned (OpenSpec.ofChange diskPlaysWrong)

/-- 'gallipotlaw01.PlaceTells': WHATEVER THE INPUT: true; the input reads as it did. -/
def placeTellsSpec : ChangeSpec := { name := "placeTells", fn := fun _ => fun
  | [d1, d2, d3, d4, d5] => { results := [.lit (.bool true)], args := [d1, d2, d3, d4, d5] }
  | _ => none }
def placeTellsRow : OpenClaim := { program := "ytjapbanelfcjhaa", sum := "4ec50ca6df8981eb93062e0a9704098ee37ef9c9f15d36ad75397e99aa761657", func := "gallipot/gallipotlaw01.PlaceTells", spec := "placeTells", inPlace := ["math.archTrunc", "math.Float64bits", "math.Float64frombits"], apart := false }
def PlaceTellsSaid : Prop := placeTellsRow.holds Try.pinned (OpenSpec.ofChange placeTellsSpec)

/-- ITS FALSE NEIGHBOUR: 'it returns false'. Refute it at one input. -/
def placeTellsWrong : ChangeSpec := { name := "placeTells", fn := fun _ => fun
  | [d1, d2, d3, d4, d5] => { results := [.lit (.bool false)], args := [d1, d2, d3, d4, d5] }
  | _ => none }
def PlaceTellsWrongFalsely : Prop := placeTellsRow.holds Try.pinned (OpenSpec.ofChange placeTellsWrong)

/-- 'gallipotlaw01.PlaceMoves': WHATEVER THE INPUT: true; the input reads as it did. -/
def placeMovesSpec : ChangeSpec := { name := "placeMoves", fn := fun _ => fun
  | [d1, d2, d3, d4, d5, d6] => { results := [.lit (.bool true)], args := [d1, d2, d3, d4, d5, d6] }
  | _ => none }
def placeMovesRow : OpenClaim := { program := "ytjapbanelfcjhaa", sum := "4ec50ca6df8981eb93062e0a9704098ee37ef9c9f15d36ad75397e99aa761657", func := "gallipot/gallipotlaw01.PlaceMoves", spec := "placeMoves", inPlace := ["math.archTrunc", "math.Float64bits", "math.Float64frombits"], apart := false }
def PlaceMovesSaid : Prop := placeMovesRow.holds Try.pinned (OpenSpec.ofChange placeMovesSpec)

/-- ITS FALSE NEIGHBOUR: 'it returns false'. Refute it at one input. -/
def placeMovesWrong : ChangeSpec := { name := "placeMoves", fn := fun _ => fun
  | [d1, d2, d3, d4, d5, d6] => { results := [.lit (.bool false)], args := [d1, d2, d3, d4, d5, d6] }
  | _ => none }
def PlaceMovesWrongFalsely : Prop := placeMovesRow.holds Try.pinned (OpenSpec.ofChange placeMovesWrong)

/-- 'gallipotlaw16.CodeNums': WHATEVER THE INPUT: true; the input reads as it did. -/
def codeNumsSpec : ChangeSpec := { name := "codeNums", fn := fun _ => fun
  | [d1, d2, d3] => { results := [.lit (.bool true)], args := [d1, d2, d3] }
  | _ => none }
def codeNumsRow : OpenClaim := { program := "ytjapbanelfcjhaa", sum := "4ec50ca6df8981eb93062e0a9704098ee37ef9c9f15d36ad75397e99aa761657", func := "gallipot/gallipotlaw16.CodeNums", spec := "codeNums", apart := false }
def CodeNumsSaid : Prop := codeNumsRow.holds Try.pinned (OpenSpec.ofChange codeNumsSpec)

/-- ITS FALSE NEIGHBOUR: 'it returns false'. Refute it at one input. -/
def codeNumsWrong : ChangeSpec := { name := "codeNums", fn := fun _ => fun
  | [d1, d2, d3] => { results := [.lit (.bool false)], args := [d1, d2, d3] }
  | _ => none }
def CodeNumsWrongFalsely : Prop := codeNumsRow.holds Try.pinned (OpenSpec.ofChange codeNumsWrong)

/-- 'gallipotlaw16.CodeSums': WHATEVER THE INPUT: true; the input reads as it did. -/
def codeSumsSpec : ChangeSpec := { name := "codeSums", fn := fun _ => fun
  | [d] => { results := [.lit (.bool true)], args := [d] }
  | _ => none }
def codeSumsRow : OpenClaim := { program := "ytjapbanelfcjhaa", sum := "4ec50ca6df8981eb93062e0a9704098ee37ef9c9f15d36ad75397e99aa761657", func := "gallipot/gallipotlaw16.CodeSums", spec := "codeSums", apart := false }
def CodeSumsSaid : Prop := codeSumsRow.holds Try.pinned (OpenSpec.ofChange codeSumsSpec)

/-- ITS FALSE NEIGHBOUR: 'it returns false'. Refute it at one input. -/
def codeSumsWrong : ChangeSpec := { name := "codeSums", fn := fun _ => fun
  | [d] => { results := [.lit (.bool false)], args := [d] }
  | _ => none }
def CodeSumsWrongFalsely : Prop := codeSumsRow.holds Try.pinned (OpenSpec.ofChange codeSumsWrong)

/-- 'gallipotlaw16.CodeBack': WHATEVER THE INPUT: true; the input reads as it did. -/
def codeBackSpec : ChangeSpec := { name := "codeBack", fn := fun _ => fun
  | [d1, d2, d3] => { results := [.lit (.bool true)], args := [d1, d2, d3] }
  | _ => none }
def codeBackRow : OpenClaim := { program := "ytjapbanelfcjhaa", sum := "4ec50ca6df8981eb93062e0a9704098ee37ef9c9f15d36ad75397e99aa761657", func := "gallipot/gallipotlaw16.CodeBack", spec := "codeBack", apart := false }
def CodeBackSaid : Prop := codeBackRow.holds Try.pinned (OpenSpec.ofChange codeBackSpec)

/-- ITS FALSE NEIGHBOUR: 'it returns false'. Refute it at one input. -/
def codeBackWrong : ChangeSpec := { name := "codeBack", fn := fun _ => fun
  | [d1, d2, d3] => { results := [.lit (.bool false)], args := [d1, d2, d3] }
  | _ => none }
def CodeBackWrongFalsely : Prop := codeBackRow.holds Try.pinned (OpenSpec.ofChange codeBackWrong)

/-- 'gallipotlaw16.CodeTurns': WHATEVER THE INPUT: true; the input reads as it did. -/
def codeTurnsSpec : ChangeSpec := { name := "codeTurns", fn := fun _ => fun
  | [d1, d2, d3] => { results := [.lit (.bool true)], args := [d1, d2, d3] }
  | _ => none }
def codeTurnsRow : OpenClaim := { program := "ytjapbanelfcjhaa", sum := "4ec50ca6df8981eb93062e0a9704098ee37ef9c9f15d36ad75397e99aa761657", func := "gallipot/gallipotlaw16.CodeTurns", spec := "codeTurns", apart := false }
def CodeTurnsSaid : Prop := codeTurnsRow.holds Try.pinned (OpenSpec.ofChange codeTurnsSpec)

/-- ITS FALSE NEIGHBOUR: 'it returns false'. Refute it at one input. -/
def codeTurnsWrong : ChangeSpec := { name := "codeTurns", fn := fun _ => fun
  | [d1, d2, d3] => { results := [.lit (.bool false)], args := [d1, d2, d3] }
  | _ => none }
def CodeTurnsWrongFalsely : Prop := codeTurnsRow.holds Try.pinned (OpenSpec.ofChange codeTurnsWrong)

/- THE SECOND FORM. 'bulk': how many values and letters a reading holds, each counted each time it is reached (what is shared counts as often as it is met; a slice's spare places count too). A statement '..UptoSaid' is the law's where the arguments, and the package variables that the reading takes, are together of bulk at most 1048576: NARROWER than '..Said'. Prove '..Said' where nothing that the law and all that it calls make is longer than what came in: it says more and counts as full. Else prove '..UptoSaid'. A law counts once. -/
mutual
def uptoBulk {H : Type} : DataW H → Nat
  | .lit (.string bytes) => bytes.length + 1
  | .lit _ => 1
  | .nil => 1
  | .ptr d => uptoBulk d + 1
  | .slice elems spare => uptoBulkAll elems + uptoBulkAll spare + 1
  | .agg parts => uptoBulkAll parts + 1
  | .iface _ d => uptoBulk d + 1
  | .map entries => uptoBulkEntries entries + 1
  | .held _ => 1
def uptoBulkAll {H : Type} : List (DataW H) → Nat
  | [] => 0
  | d :: r => uptoBulk d + uptoBulkAll r
def uptoBulkEntries {H : Type} : List (Lit × DataW H) → Nat
  | [] => 0
  | x :: r => uptoBulkEntry x + uptoBulkEntries r
def uptoBulkEntry {H : Type} : Lit × DataW H → Nat
  | (.string bytes, d) => bytes.length + uptoBulk d + 1
  | (_, d) => uptoBulk d + 1
 end
def uptoSmall : (H : Type) → List (DataW H) → Bool := fun _ ds => decide (uptoBulkAll ds ≤ 1048576)
def OpenSpec.upto (s : _root_.Go.ChangeSpec) : _root_.Go.OpenSpec := { _root_.Go.OpenSpec.ofChange s with cond := some uptoSmall }

/-- 'gallipotlaw18.DiskCuts', WHERE WHAT IT READS IS OF BULK AT MOST 1048576: true; the input reads as it did. -/
def diskCutsUptoRow : OpenClaim := { program := "ytjapbanelfcjhaa", sum := "4ec50ca6df8981eb93062e0a9704098ee37ef9c9f15d36ad75397e99aa761657", func := "gallipot/gallipotlaw18.DiskCuts", spec := "diskCuts", apart := false, narrowed := true }
def DiskCutsUptoSaid : Prop := diskCutsUptoRow.holds Try.pinned (OpenSpec.upto diskCutsSpec)

/-- 'gallipotlaw11.AskOpens', WHERE WHAT IT READS IS OF BULK AT MOST 1048576: true; the input reads as it did. -/
def askOpensUptoRow : OpenClaim := { program := "ytjapbanelfcjhaa", sum := "4ec50ca6df8981eb93062e0a9704098ee37ef9c9f15d36ad75397e99aa761657", func := "gallipot/gallipotlaw11.AskOpens", spec := "askOpens", recurses := true, loops := true, apart := false, narrowed := true }
def AskOpensUptoSaid : Prop := askOpensUptoRow.holds Try.pinned (OpenSpec.upto askOpensSpec)

/-- 'gallipotlaw11.AskHas', WHERE WHAT IT READS IS OF BULK AT MOST 1048576: true; the input reads as it did. -/
def askHasUptoRow : OpenClaim := { program := "ytjapbanelfcjhaa", sum := "4ec50ca6df8981eb93062e0a9704098ee37ef9c9f15d36ad75397e99aa761657", func := "gallipot/gallipotlaw11.AskHas", spec := "askHas", recurses := true, loops := true, apart := false, narrowed := true }
def AskHasUptoSaid : Prop := askHasUptoRow.holds Try.pinned (OpenSpec.upto askHasSpec)

/-- 'gallipotlaw06.VecTells', WHERE WHAT IT READS IS OF BULK AT MOST 1048576: true; the input reads as it did. -/
def vecTellsUptoRow : OpenClaim := { program := "ytjapbanelfcjhaa", sum := "4ec50ca6df8981eb93062e0a9704098ee37ef9c9f15d36ad75397e99aa761657", func := "gallipot/gallipotlaw06.VecTells", spec := "vecTells", apart := false, narrowed := true }
def VecTellsUptoSaid : Prop := vecTellsUptoRow.holds Try.pinned (OpenSpec.upto vecTellsSpec)

/-- 'gallipotlaw06.VecJoins', WHERE WHAT IT READS IS OF BULK AT MOST 1048576: true; the input reads as it did. -/
def vecJoinsUptoRow : OpenClaim := { program := "ytjapbanelfcjhaa", sum := "4ec50ca6df8981eb93062e0a9704098ee37ef9c9f15d36ad75397e99aa761657", func := "gallipot/gallipotlaw06.VecJoins", spec := "vecJoins", apart := false, narrowed := true }
def VecJoinsUptoSaid : Prop := vecJoinsUptoRow.holds Try.pinned (OpenSpec.upto vecJoinsSpec)

/-- 'gallipotlaw18.DiskPlays', WHERE WHAT IT READS IS OF BULK AT MOST 1048576: true; the input reads as it did. -/
def diskPlaysUptoRow : OpenClaim := { program := "ytjapbanelfcjhaa", sum := "4ec50ca6df8981eb93062e0a9704098ee37ef9c9f15d36ad75397e99aa761657", func := "gallipot/gallipotlaw18.DiskPlays", spec := "diskPlays", apart := false, narrowed := true }
def DiskPlaysUptoSaid : Prop := diskPlaysUptoRow.holds Try.pinned (OpenSpec.upto diskPlaysSpec)

/-- 'gallipotlaw01.PlaceTells', WHERE WHAT IT READS IS OF BULK AT MOST 1048576: true; the input reads as it did. -/
def placeTellsUptoRow : OpenClaim := { program := "ytjapbanelfcjhaa", sum := "4ec50ca6df8981eb93062e0a9704098ee37ef9c9f15d36ad75397e99aa761657", func := "gallipot/gallipotlaw01.PlaceTells", spec := "placeTells", inPlace := ["math.archTrunc", "math.Float64bits", "math.Float64frombits"], apart := false, narrowed := true }
def PlaceTellsUptoSaid : Prop := placeTellsUptoRow.holds Try.pinned (OpenSpec.upto placeTellsSpec)

/-- 'gallipotlaw01.PlaceMoves', WHERE WHAT IT READS IS OF BULK AT MOST 1048576: true; the input reads as it did. -/
def placeMovesUptoRow : OpenClaim := { program := "ytjapbanelfcjhaa", sum := "4ec50ca6df8981eb93062e0a9704098ee37ef9c9f15d36ad75397e99aa761657", func := "gallipot/gallipotlaw01.PlaceMoves", spec := "placeMoves", inPlace := ["math.archTrunc", "math.Float64bits", "math.Float64frombits"], apart := false, narrowed := true }
def PlaceMovesUptoSaid : Prop := placeMovesUptoRow.holds Try.pinned (OpenSpec.upto placeMovesSpec)

/-- 'gallipotlaw16.CodeNums', WHERE WHAT IT READS IS OF BULK AT MOST 1048576: true; the input reads as it did. -/
def codeNumsUptoRow : OpenClaim := { program := "ytjapbanelfcjhaa", sum := "4ec50ca6df8981eb93062e0a9704098ee37ef9c9f15d36ad75397e99aa761657", func := "gallipot/gallipotlaw16.CodeNums", spec := "codeNums", apart := false, narrowed := true }
def CodeNumsUptoSaid : Prop := codeNumsUptoRow.holds Try.pinned (OpenSpec.upto codeNumsSpec)

/-- 'gallipotlaw16.CodeSums', WHERE WHAT IT READS IS OF BULK AT MOST 1048576: true; the input reads as it did. -/
def codeSumsUptoRow : OpenClaim := { program := "ytjapbanelfcjhaa", sum := "4ec50ca6df8981eb93062e0a9704098ee37ef9c9f15d36ad75397e99aa761657", func := "gallipot/gallipotlaw16.CodeSums", spec := "codeSums", apart := false, narrowed := true }
def CodeSumsUptoSaid : Prop := codeSumsUptoRow.holds Try.pinned (OpenSpec.upto codeSumsSpec)

/-- 'gallipotlaw16.CodeBack', WHERE WHAT IT READS IS OF BULK AT MOST 1048576: true; the input reads as it did. -/
def codeBackUptoRow : OpenClaim := { program := "ytjapbanelfcjhaa", sum := "4ec50ca6df8981eb93062e0a9704098ee37ef9c9f15d36ad75397e99aa761657", func := "gallipot/gallipotlaw16.CodeBack", spec := "codeBack", apart := false, narrowed := true }
def CodeBackUptoSaid : Prop := codeBackUptoRow.holds Try.pinned (OpenSpec.upto codeBackSpec)

/-- 'gallipotlaw16.CodeTurns', WHERE WHAT IT READS IS OF BULK AT MOST 1048576: true; the input reads as it did. -/
def codeTurnsUptoRow : OpenClaim := { program := "ytjapbanelfcjhaa", sum := "4ec50ca6df8981eb93062e0a9704098ee37ef9c9f15d36ad75397e99aa761657", func := "gallipot/gallipotlaw16.CodeTurns", spec := "codeTurns", apart := false, narrowed := true }
def CodeTurnsUptoSaid : Prop := codeTurnsUptoRow.holds Try.pinned (OpenSpec.upto codeTurnsSpec)

end Rows
end Go.Proofs.Ytjapbanelfcjhaa
