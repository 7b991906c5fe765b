/-
  NARROWER THAN 'FOR EVERY INPUT', by the rows' own cells (each row's printed sentence says how): AskOpens: loops · AskHas: loops · EvalTells: loops · EvalPlain: loops.
  DERIVED. THE GIVEN ROWS OF THIS SEAT. 10 by the template 'for every input the law returns true; each argument reads behind the call as it read before'; 0 by the template 'total and deterministic' (their statements: YtijkfjahgijphaaTotals.lean).
  GIVEN WITH THE SEED: the statements are not yours to turn. If you find one false, say at which input.
  Laid BY PROGRAM, IN A SANDBOX (cutbox-rows.mjs): the forced cells as the released guide's own fill.sh prints them over the translation d853b4dbaaf61d20… (all of the seat's roots in one cut). By AI agents, Wed Nov 11 2026. No macro, syntax, notation, axiom, sorry.
-/
import Derived.Test.YtijkfjahgijphaaChecked
import GoSem.Claim
import GoSem.ClaimJoined
import GoSem.ClaimMapViews
import Derived.JoinedTies
import Derived.KernelRfl
namespace Go.Proofs.Ytijkfjahgijphaa
/- THE CELL 'sum', in the pinned program and in every row, IS THE sha256 OF THE DUMP (.gsa) THAT YtijkfjahgijphaaProg.lean LOADS. Nothing in Lean hashes anything: it is a label: what it is worth is what the hold of that sum in a sandbox is worth. -/
noncomputable def Try.pinned : Pinned := { name := "ytijkfjahgijphaa", sum := "d853b4dbaaf61d20fd23b1ec4e582ffc450e9f7631e784b4f4ad0faab747f310", checked := Try.checked }
namespace Rows
def none {H : Type} : Left H := { results := [], args := [] }

/-- 'gallipotlaw11.AskOpens': WHATEVER THE INPUT: true; the input reads as it did. -/
def askOpensSpec : ChangeSpec := { name := "askOpens", fn := fun _ => fun
  | [d1, d2, d3] => { results := [.lit (.bool true)], args := [d1, d2, d3] }
  | _ => none }
def askOpensRow : OpenClaim := { program := "ytijkfjahgijphaa", sum := "d853b4dbaaf61d20fd23b1ec4e582ffc450e9f7631e784b4f4ad0faab747f310", func := "gallipot/gallipotlaw11.AskOpens", spec := "askOpens", recurses := true, loops := true, plainKeys := false, apart := false }
def AskOpensSaid : Prop := askOpensRow.holds Try.pinned (OpenSpec.ofChange askOpensSpec)

/-- ITS FALSE NEIGHBOUR: 'it returns false'. Refute it at one input. -/
def askOpensWrong : ChangeSpec := { name := "askOpens", fn := fun _ => fun
  | [d1, d2, d3] => { results := [.lit (.bool false)], args := [d1, d2, d3] }
  | _ => none }
def AskOpensWrongFalsely : Prop := askOpensRow.holds Try.pinned (OpenSpec.ofChange askOpensWrong)

/-- 'gallipotlaw11.AskHas': WHATEVER THE INPUT: true; the input reads as it did. -/
def askHasSpec : ChangeSpec := { name := "askHas", fn := fun _ => fun
  | [d1, d2, d3, d4] => { results := [.lit (.bool true)], args := [d1, d2, d3, d4] }
  | _ => none }
def askHasRow : OpenClaim := { program := "ytijkfjahgijphaa", sum := "d853b4dbaaf61d20fd23b1ec4e582ffc450e9f7631e784b4f4ad0faab747f310", func := "gallipot/gallipotlaw11.AskHas", spec := "askHas", recurses := true, loops := true, plainKeys := false, apart := false }
def AskHasSaid : Prop := askHasRow.holds Try.pinned (OpenSpec.ofChange askHasSpec)

/-- ITS FALSE NEIGHBOUR: 'it returns false'. Refute it at one input. -/
def askHasWrong : ChangeSpec := { name := "askHas", fn := fun _ => fun
  | [d1, d2, d3, d4] => { results := [.lit (.bool false)], args := [d1, d2, d3, d4] }
  | _ => none }
def AskHasWrongFalsely : Prop := askHasRow.holds Try.pinned (OpenSpec.ofChange askHasWrong)

/-- 'gallipotlaw16.CodeBack': WHATEVER THE INPUT: true; the input reads as it did. -/
def codeBackSpec : ChangeSpec := { name := "codeBack", fn := fun _ => fun
  | [d1, d2, d3] => { results := [.lit (.bool true)], args := [d1, d2, d3] }
  | _ => none }
def codeBackRow : OpenClaim := { program := "ytijkfjahgijphaa", sum := "d853b4dbaaf61d20fd23b1ec4e582ffc450e9f7631e784b4f4ad0faab747f310", func := "gallipot/gallipotlaw16.CodeBack", spec := "codeBack", plainKeys := false, apart := false }
def CodeBackSaid : Prop := codeBackRow.holds Try.pinned (OpenSpec.ofChange codeBackSpec)

/-- ITS FALSE NEIGHBOUR: 'it returns false'. Refute it at one input. -/
def codeBackWrong : ChangeSpec := { name := "codeBack", fn := fun _ => fun
  | [d1, d2, d3] => { results := [.lit (.bool false)], args := [d1, d2, d3] }
  | _ => none }
def CodeBackWrongFalsely : Prop := codeBackRow.holds Try.pinned (OpenSpec.ofChange codeBackWrong)

/-- 'gallipotlaw04.EvalTells': WHATEVER THE INPUT: true; the input reads as it did. -/
def evalTellsSpec : ChangeSpec := { name := "evalTells", fn := fun _ => fun
  | [d1, d2] => { results := [.lit (.bool true)], args := [d1, d2] }
  | _ => none }
def evalTellsRow : OpenClaim := { program := "ytijkfjahgijphaa", sum := "d853b4dbaaf61d20fd23b1ec4e582ffc450e9f7631e784b4f4ad0faab747f310", func := "gallipot/gallipotlaw04.EvalTells", spec := "evalTells", inPlace := ["math.archTrunc", "math.Float64bits", "math.Float64frombits"], unfollowed := true, recurses := true, loops := true, plainKeys := false, apart := false }
def EvalTellsSaid : Prop := evalTellsRow.holds Try.pinned (OpenSpec.ofChange evalTellsSpec)

/-- ITS FALSE NEIGHBOUR: 'it returns false'. Refute it at one input. -/
def evalTellsWrong : ChangeSpec := { name := "evalTells", fn := fun _ => fun
  | [d1, d2] => { results := [.lit (.bool false)], args := [d1, d2] }
  | _ => none }
def EvalTellsWrongFalsely : Prop := evalTellsRow.holds Try.pinned (OpenSpec.ofChange evalTellsWrong)

/-- 'gallipotlaw04.EvalPlain': WHATEVER THE INPUT: true; the input reads as it did. -/
def evalPlainSpec : ChangeSpec := { name := "evalPlain", fn := fun _ => fun
  | [d1, d2] => { results := [.lit (.bool true)], args := [d1, d2] }
  | _ => none }
def evalPlainRow : OpenClaim := { program := "ytijkfjahgijphaa", sum := "d853b4dbaaf61d20fd23b1ec4e582ffc450e9f7631e784b4f4ad0faab747f310", func := "gallipot/gallipotlaw04.EvalPlain", spec := "evalPlain", inPlace := ["math.archTrunc", "math.Float64bits", "math.Float64frombits"], unfollowed := true, recurses := true, loops := true, plainKeys := false, apart := false }
def EvalPlainSaid : Prop := evalPlainRow.holds Try.pinned (OpenSpec.ofChange evalPlainSpec)

/-- ITS FALSE NEIGHBOUR: 'it returns false'. Refute it at one input. -/
def evalPlainWrong : ChangeSpec := { name := "evalPlain", fn := fun _ => fun
  | [d1, d2] => { results := [.lit (.bool false)], args := [d1, d2] }
  | _ => none }
def EvalPlainWrongFalsely : Prop := evalPlainRow.holds Try.pinned (OpenSpec.ofChange evalPlainWrong)

/-- 'gallipotlaw08.ListTells': WHATEVER THE INPUT: true; the input reads as it did. -/
def listTellsSpec : ChangeSpec := { name := "listTells", fn := fun _ => fun
  | [d1, d2, d3, d4] => { results := [.lit (.bool true)], args := [d1, d2, d3, d4] }
  | _ => none }
def listTellsRow : OpenClaim := { program := "ytijkfjahgijphaa", sum := "d853b4dbaaf61d20fd23b1ec4e582ffc450e9f7631e784b4f4ad0faab747f310", func := "gallipot/gallipotlaw08.ListTells", spec := "listTells", inPlace := ["slices.overlaps[gallipot/api.Item]", "math.archTrunc", "math.Float64bits", "math.Float64frombits"], unfollowed := true, recurses := true, plainKeys := false, apart := false }
def ListTellsSaid : Prop := listTellsRow.holds Try.pinned (OpenSpec.ofChange listTellsSpec)

/-- ITS FALSE NEIGHBOUR: 'it returns false'. Refute it at one input. -/
def listTellsWrong : ChangeSpec := { name := "listTells", fn := fun _ => fun
  | [d1, d2, d3, d4] => { results := [.lit (.bool false)], args := [d1, d2, d3, d4] }
  | _ => none }
def ListTellsWrongFalsely : Prop := listTellsRow.holds Try.pinned (OpenSpec.ofChange listTellsWrong)

/-- 'gallipotlaw08.ListKeeps': WHATEVER THE INPUT: true; the input reads as it did. -/
def listKeepsSpec : ChangeSpec := { name := "listKeeps", fn := fun _ => fun
  | [d1, d2, d3, d4] => { results := [.lit (.bool true)], args := [d1, d2, d3, d4] }
  | _ => none }
def listKeepsRow : OpenClaim := { program := "ytijkfjahgijphaa", sum := "d853b4dbaaf61d20fd23b1ec4e582ffc450e9f7631e784b4f4ad0faab747f310", func := "gallipot/gallipotlaw08.ListKeeps", spec := "listKeeps", inPlace := ["slices.overlaps[gallipot/api.Item]", "math.archTrunc", "math.Float64bits", "math.Float64frombits"], unfollowed := true, recurses := true, plainKeys := false, apart := false }
def ListKeepsSaid : Prop := listKeepsRow.holds Try.pinned (OpenSpec.ofChange listKeepsSpec)

/-- ITS FALSE NEIGHBOUR: 'it returns false'. Refute it at one input. -/
def listKeepsWrong : ChangeSpec := { name := "listKeeps", fn := fun _ => fun
  | [d1, d2, d3, d4] => { results := [.lit (.bool false)], args := [d1, d2, d3, d4] }
  | _ => none }
def ListKeepsWrongFalsely : Prop := listKeepsRow.holds Try.pinned (OpenSpec.ofChange listKeepsWrong)

/-- 'gallipotlaw07.KnowJoins': WHATEVER THE INPUT: true; the input reads as it did. -/
def knowJoinsSpec : ChangeSpec := { name := "knowJoins", fn := fun _ => fun
  | [d1, d2] => { results := [.lit (.bool true)], args := [d1, d2] }
  | _ => none }
def knowJoinsRow : OpenClaim := { program := "ytijkfjahgijphaa", sum := "d853b4dbaaf61d20fd23b1ec4e582ffc450e9f7631e784b4f4ad0faab747f310", func := "gallipot/gallipotlaw07.KnowJoins", spec := "knowJoins", unfollowed := true, recurses := true, plainKeys := false, apart := false }
def KnowJoinsSaid : Prop := knowJoinsRow.holds Try.pinned (OpenSpec.ofChange knowJoinsSpec)

/-- ITS FALSE NEIGHBOUR: 'it returns false'. Refute it at one input. -/
def knowJoinsWrong : ChangeSpec := { name := "knowJoins", fn := fun _ => fun
  | [d1, d2] => { results := [.lit (.bool false)], args := [d1, d2] }
  | _ => none }
def KnowJoinsWrongFalsely : Prop := knowJoinsRow.holds Try.pinned (OpenSpec.ofChange knowJoinsWrong)

/-- 'gallipotlaw07.KnowTells': WHATEVER THE INPUT: true; the input reads as it did. -/
def knowTellsSpec : ChangeSpec := { name := "knowTells", fn := fun _ => fun
  | [d1, d2, d3] => { results := [.lit (.bool true)], args := [d1, d2, d3] }
  | _ => none }
def knowTellsRow : OpenClaim := { program := "ytijkfjahgijphaa", sum := "d853b4dbaaf61d20fd23b1ec4e582ffc450e9f7631e784b4f4ad0faab747f310", func := "gallipot/gallipotlaw07.KnowTells", spec := "knowTells", unfollowed := true, recurses := true, plainKeys := false, apart := false }
def KnowTellsSaid : Prop := knowTellsRow.holds Try.pinned (OpenSpec.ofChange knowTellsSpec)

/-- ITS FALSE NEIGHBOUR: 'it returns false'. Refute it at one input. -/
def knowTellsWrong : ChangeSpec := { name := "knowTells", fn := fun _ => fun
  | [d1, d2, d3] => { results := [.lit (.bool false)], args := [d1, d2, d3] }
  | _ => none }
def KnowTellsWrongFalsely : Prop := knowTellsRow.holds Try.pinned (OpenSpec.ofChange knowTellsWrong)

/-- 'gallipotlaw07.KnowKeeps': WHATEVER THE INPUT: true; the input reads as it did. -/
def knowKeepsSpec : ChangeSpec := { name := "knowKeeps", fn := fun _ => fun
  | [d1, d2, d3, d4, d5, d6] => { results := [.lit (.bool true)], args := [d1, d2, d3, d4, d5, d6] }
  | _ => none }
def knowKeepsRow : OpenClaim := { program := "ytijkfjahgijphaa", sum := "d853b4dbaaf61d20fd23b1ec4e582ffc450e9f7631e784b4f4ad0faab747f310", func := "gallipot/gallipotlaw07.KnowKeeps", spec := "knowKeeps", unfollowed := true, recurses := true, plainKeys := false, apart := false }
def KnowKeepsSaid : Prop := knowKeepsRow.holds Try.pinned (OpenSpec.ofChange knowKeepsSpec)

/-- ITS FALSE NEIGHBOUR: 'it returns false'. Refute it at one input. -/
def knowKeepsWrong : ChangeSpec := { name := "knowKeeps", fn := fun _ => fun
  | [d1, d2, d3, d4, d5, d6] => { results := [.lit (.bool false)], args := [d1, d2, d3, d4, d5, d6] }
  | _ => none }
def KnowKeepsWrongFalsely : Prop := knowKeepsRow.holds Try.pinned (OpenSpec.ofChange knowKeepsWrong)

/- THE SECOND FORM. 'bulk': how many values and letters a reading holds, each counted each time it is reached (what is shared counts as often as it is met; a slice's spare places count too). A statement '..UptoSaid' is the law's where the arguments, and the package variables that the reading takes, are together of bulk at most 1048576: NARROWER than '..Said'. Prove '..Said' where nothing that the law and all that it calls make is longer than what came in: it says more and counts as full. Else prove '..UptoSaid'. A law counts once. -/
mutual
def uptoBulk {H : Type} : DataW H → Nat
  | .lit (.string bytes) => bytes.length + 1
  | .lit _ => 1
  | .nil => 1
  | .ptr d => uptoBulk d + 1
  | .slice elems spare => uptoBulkAll elems + uptoBulkAll spare + 1
  | .agg parts => uptoBulkAll parts + 1
  | .iface _ d => uptoBulk d + 1
  | .map entries => uptoBulkEntries entries + 1
  | .held _ => 1
def uptoBulkAll {H : Type} : List (DataW H) → Nat
  | [] => 0
  | d :: r => uptoBulk d + uptoBulkAll r
def uptoBulkEntries {H : Type} : List (Lit × DataW H) → Nat
  | [] => 0
  | x :: r => uptoBulkEntry x + uptoBulkEntries r
def uptoBulkEntry {H : Type} : Lit × DataW H → Nat
  | (.string bytes, d) => bytes.length + uptoBulk d + 1
  | (_, d) => uptoBulk d + 1
 end
def uptoSmall : (H : Type) → List (DataW H) → Bool := fun _ ds => decide (uptoBulkAll ds ≤ 1048576)
def OpenSpec.upto (s : _root_.Go.ChangeSpec) : _root_.Go.OpenSpec := { _root_.Go.OpenSpec.ofChange s with cond := some uptoSmall }

/-- 'gallipotlaw11.AskOpens', WHERE WHAT IT READS IS OF BULK AT MOST 1048576: true; the input reads as it did. -/
def askOpensUptoRow : OpenClaim := { program := "ytijkfjahgijphaa", sum := "d853b4dbaaf61d20fd23b1ec4e582ffc450e9f7631e784b4f4ad0faab747f310", func := "gallipot/gallipotlaw11.AskOpens", spec := "askOpens", recurses := true, loops := true, plainKeys := false, apart := false, narrowed := true }
def AskOpensUptoSaid : Prop := askOpensUptoRow.holds Try.pinned (OpenSpec.upto askOpensSpec)

/-- 'gallipotlaw11.AskHas', WHERE WHAT IT READS IS OF BULK AT MOST 1048576: true; the input reads as it did. -/
def askHasUptoRow : OpenClaim := { program := "ytijkfjahgijphaa", sum := "d853b4dbaaf61d20fd23b1ec4e582ffc450e9f7631e784b4f4ad0faab747f310", func := "gallipot/gallipotlaw11.AskHas", spec := "askHas", recurses := true, loops := true, plainKeys := false, apart := false, narrowed := true }
def AskHasUptoSaid : Prop := askHasUptoRow.holds Try.pinned (OpenSpec.upto askHasSpec)

/-- 'gallipotlaw16.CodeBack', WHERE WHAT IT READS IS OF BULK AT MOST 1048576: true; the input reads as it did. -/
def codeBackUptoRow : OpenClaim := { program := "ytijkfjahgijphaa", sum := "d853b4dbaaf61d20fd23b1ec4e582ffc450e9f7631e784b4f4ad0faab747f310", func := "gallipot/gallipotlaw16.CodeBack", spec := "codeBack", plainKeys := false, apart := false, narrowed := true }
def CodeBackUptoSaid : Prop := codeBackUptoRow.holds Try.pinned (OpenSpec.upto codeBackSpec)

/-- 'gallipotlaw04.EvalTells', WHERE WHAT IT READS IS OF BULK AT MOST 1048576: true; the input reads as it did. -/
def evalTellsUptoRow : OpenClaim := { program := "ytijkfjahgijphaa", sum := "d853b4dbaaf61d20fd23b1ec4e582ffc450e9f7631e784b4f4ad0faab747f310", func := "gallipot/gallipotlaw04.EvalTells", spec := "evalTells", inPlace := ["math.archTrunc", "math.Float64bits", "math.Float64frombits"], unfollowed := true, recurses := true, loops := true, plainKeys := false, apart := false, narrowed := true }
def EvalTellsUptoSaid : Prop := evalTellsUptoRow.holds Try.pinned (OpenSpec.upto evalTellsSpec)

/-- 'gallipotlaw04.EvalPlain', WHERE WHAT IT READS IS OF BULK AT MOST 1048576: true; the input reads as it did. -/
def evalPlainUptoRow : OpenClaim := { program := "ytijkfjahgijphaa", sum := "d853b4dbaaf61d20fd23b1ec4e582ffc450e9f7631e784b4f4ad0faab747f310", func := "gallipot/gallipotlaw04.EvalPlain", spec := "evalPlain", inPlace := ["math.archTrunc", "math.Float64bits", "math.Float64frombits"], unfollowed := true, recurses := true, loops := true, plainKeys := false, apart := false, narrowed := true }
def EvalPlainUptoSaid : Prop := evalPlainUptoRow.holds Try.pinned (OpenSpec.upto evalPlainSpec)

/-- 'gallipotlaw08.ListTells', WHERE WHAT IT READS IS OF BULK AT MOST 1048576: true; the input reads as it did. -/
def listTellsUptoRow : OpenClaim := { program := "ytijkfjahgijphaa", sum := "d853b4dbaaf61d20fd23b1ec4e582ffc450e9f7631e784b4f4ad0faab747f310", func := "gallipot/gallipotlaw08.ListTells", spec := "listTells", inPlace := ["slices.overlaps[gallipot/api.Item]", "math.archTrunc", "math.Float64bits", "math.Float64frombits"], unfollowed := true, recurses := true, plainKeys := false, apart := false, narrowed := true }
def ListTellsUptoSaid : Prop := listTellsUptoRow.holds Try.pinned (OpenSpec.upto listTellsSpec)

/-- 'gallipotlaw08.ListKeeps', WHERE WHAT IT READS IS OF BULK AT MOST 1048576: true; the input reads as it did. -/
def listKeepsUptoRow : OpenClaim := { program := "ytijkfjahgijphaa", sum := "d853b4dbaaf61d20fd23b1ec4e582ffc450e9f7631e784b4f4ad0faab747f310", func := "gallipot/gallipotlaw08.ListKeeps", spec := "listKeeps", inPlace := ["slices.overlaps[gallipot/api.Item]", "math.archTrunc", "math.Float64bits", "math.Float64frombits"], unfollowed := true, recurses := true, plainKeys := false, apart := false, narrowed := true }
def ListKeepsUptoSaid : Prop := listKeepsUptoRow.holds Try.pinned (OpenSpec.upto listKeepsSpec)

/-- 'gallipotlaw07.KnowJoins', WHERE WHAT IT READS IS OF BULK AT MOST 1048576: true; the input reads as it did. -/
def knowJoinsUptoRow : OpenClaim := { program := "ytijkfjahgijphaa", sum := "d853b4dbaaf61d20fd23b1ec4e582ffc450e9f7631e784b4f4ad0faab747f310", func := "gallipot/gallipotlaw07.KnowJoins", spec := "knowJoins", unfollowed := true, recurses := true, plainKeys := false, apart := false, narrowed := true }
def KnowJoinsUptoSaid : Prop := knowJoinsUptoRow.holds Try.pinned (OpenSpec.upto knowJoinsSpec)

/-- 'gallipotlaw07.KnowTells', WHERE WHAT IT READS IS OF BULK AT MOST 1048576: true; the input reads as it did. -/
def knowTellsUptoRow : OpenClaim := { program := "ytijkfjahgijphaa", sum := "d853b4dbaaf61d20fd23b1ec4e582ffc450e9f7631e784b4f4ad0faab747f310", func := "gallipot/gallipotlaw07.KnowTells", spec := "knowTells", unfollowed := true, recurses := true, plainKeys := false, apart := false, narrowed := true }
def KnowTellsUptoSaid : Prop := knowTellsUptoRow.holds Try.pinned (OpenSpec.upto knowTellsSpec)

/-- 'gallipotlaw07.KnowKeeps', WHERE WHAT IT READS IS OF BULK AT MOST 1048576: true; the input reads as it did. -/
def knowKeepsUptoRow : OpenClaim := { program := "ytijkfjahgijphaa", sum := "d853b4dbaaf61d20fd23b1ec4e582ffc450e9f7631e784b4f4ad0faab747f310", func := "gallipot/gallipotlaw07.KnowKeeps", spec := "knowKeeps", unfollowed := true, recurses := true, plainKeys := false, apart := false, narrowed := true }
def KnowKeepsUptoSaid : Prop := knowKeepsUptoRow.holds Try.pinned (OpenSpec.upto knowKeepsSpec)

end Rows
end Go.Proofs.Ytijkfjahgijphaa
