/-
  NARROWER THAN 'FOR EVERY INPUT', by the rows' own cells (each row's printed sentence says how): PredTells: loops · PredParts: loops · ContainTells: loops · ContainGrows: loops · EvalTells: loops · TreePlaces: loops · TreeClimbs: loops · ContainSound: loops · EvalPlain: loops.
  DERIVED. THE GIVEN ROWS OF THIS SEAT. 12 by the template 'for every input the law returns true; each argument reads behind the call as it read before'; 0 by the template 'total and deterministic' (their statements: YtaiedakbmmgmaaaTotals.lean).
  GIVEN WITH THE SEED: the statements are not yours to turn. If you find one false, say at which input.
  Laid BY PROGRAM, IN A SANDBOX (cutbox-rows.mjs): the forced cells as the released guide's own fill.sh prints them over the translation 1bbc3946077a73e8… (all of the seat's roots in one cut). By AI agents, Wed Nov 11 2026. No macro, syntax, notation, axiom, sorry.
-/
import Derived.Test.YtaiedakbmmgmaaaChecked
import GoSem.Claim
import GoSem.ClaimJoined
import GoSem.ClaimMapViews
import Derived.JoinedTies
import Derived.KernelRfl
namespace Go.Proofs.Ytaiedakbmmgmaaa
/- THE CELL 'sum', in the pinned program and in every row, IS THE sha256 OF THE DUMP (.gsa) THAT YtaiedakbmmgmaaaProg.lean LOADS. Nothing in Lean hashes anything: it is a label: what it is worth is what the hold of that sum in a sandbox is worth. -/
noncomputable def Try.pinned : Pinned := { name := "ytaiedakbmmgmaaa", sum := "1bbc3946077a73e80ffcaa2904414f3debdcb3fc0a8868cdd63f71b2af447a08", checked := Try.checked }
namespace Rows
def none {H : Type} : Left H := { results := [], args := [] }

/-- 'gallipotlaw02.ItemTells': WHATEVER THE INPUT: true; the input reads as it did. -/
def itemTellsSpec : ChangeSpec := { name := "itemTells", fn := fun _ => fun
  | [d1, d2, d3] => { results := [.lit (.bool true)], args := [d1, d2, d3] }
  | _ => none }
def itemTellsRow : OpenClaim := { program := "ytaiedakbmmgmaaa", sum := "1bbc3946077a73e80ffcaa2904414f3debdcb3fc0a8868cdd63f71b2af447a08", func := "gallipot/gallipotlaw02.ItemTells", spec := "itemTells", inPlace := ["math.archTrunc", "math.Float64bits", "math.Float64frombits"], apart := false }
def ItemTellsSaid : Prop := itemTellsRow.holds Try.pinned (OpenSpec.ofChange itemTellsSpec)

/-- ITS FALSE NEIGHBOUR: 'it returns false'. Refute it at one input. -/
def itemTellsWrong : ChangeSpec := { name := "itemTells", fn := fun _ => fun
  | [d1, d2, d3] => { results := [.lit (.bool false)], args := [d1, d2, d3] }
  | _ => none }
def ItemTellsWrongFalsely : Prop := itemTellsRow.holds Try.pinned (OpenSpec.ofChange itemTellsWrong)

/-- 'gallipotlaw02.ItemOrders': WHATEVER THE INPUT: true; the input reads as it did. -/
def itemOrdersSpec : ChangeSpec := { name := "itemOrders", fn := fun _ => fun
  | [d1, d2, d3] => { results := [.lit (.bool true)], args := [d1, d2, d3] }
  | _ => none }
def itemOrdersRow : OpenClaim := { program := "ytaiedakbmmgmaaa", sum := "1bbc3946077a73e80ffcaa2904414f3debdcb3fc0a8868cdd63f71b2af447a08", func := "gallipot/gallipotlaw02.ItemOrders", spec := "itemOrders", inPlace := ["math.archTrunc", "math.Float64bits", "math.Float64frombits"], apart := false }
def ItemOrdersSaid : Prop := itemOrdersRow.holds Try.pinned (OpenSpec.ofChange itemOrdersSpec)

/-- ITS FALSE NEIGHBOUR: 'it returns false'. Refute it at one input. -/
def itemOrdersWrong : ChangeSpec := { name := "itemOrders", fn := fun _ => fun
  | [d1, d2, d3] => { results := [.lit (.bool false)], args := [d1, d2, d3] }
  | _ => none }
def ItemOrdersWrongFalsely : Prop := itemOrdersRow.holds Try.pinned (OpenSpec.ofChange itemOrdersWrong)

/-- 'gallipotlaw03.PredTells': WHATEVER THE INPUT: true; the input reads as it did. -/
def predTellsSpec : ChangeSpec := { name := "predTells", fn := fun _ => fun
  | [d1, d2] => { results := [.lit (.bool true)], args := [d1, d2] }
  | _ => none }
def predTellsRow : OpenClaim := { program := "ytaiedakbmmgmaaa", sum := "1bbc3946077a73e80ffcaa2904414f3debdcb3fc0a8868cdd63f71b2af447a08", func := "gallipot/gallipotlaw03.PredTells", spec := "predTells", inPlace := ["math.archTrunc", "math.Float64bits", "math.Float64frombits"], recurses := true, loops := true, apart := false }
def PredTellsSaid : Prop := predTellsRow.holds Try.pinned (OpenSpec.ofChange predTellsSpec)

/-- ITS FALSE NEIGHBOUR: 'it returns false'. Refute it at one input. -/
def predTellsWrong : ChangeSpec := { name := "predTells", fn := fun _ => fun
  | [d1, d2] => { results := [.lit (.bool false)], args := [d1, d2] }
  | _ => none }
def PredTellsWrongFalsely : Prop := predTellsRow.holds Try.pinned (OpenSpec.ofChange predTellsWrong)

/-- 'gallipotlaw03.PredParts': WHATEVER THE INPUT: true; the input reads as it did. -/
def predPartsSpec : ChangeSpec := { name := "predParts", fn := fun _ => fun
  | [d1, d2] => { results := [.lit (.bool true)], args := [d1, d2] }
  | _ => none }
def predPartsRow : OpenClaim := { program := "ytaiedakbmmgmaaa", sum := "1bbc3946077a73e80ffcaa2904414f3debdcb3fc0a8868cdd63f71b2af447a08", func := "gallipot/gallipotlaw03.PredParts", spec := "predParts", inPlace := ["math.archTrunc", "math.Float64bits", "math.Float64frombits"], recurses := true, loops := true, apart := false }
def PredPartsSaid : Prop := predPartsRow.holds Try.pinned (OpenSpec.ofChange predPartsSpec)

/-- ITS FALSE NEIGHBOUR: 'it returns false'. Refute it at one input. -/
def predPartsWrong : ChangeSpec := { name := "predParts", fn := fun _ => fun
  | [d1, d2] => { results := [.lit (.bool false)], args := [d1, d2] }
  | _ => none }
def PredPartsWrongFalsely : Prop := predPartsRow.holds Try.pinned (OpenSpec.ofChange predPartsWrong)

/-- 'gallipotlaw05.ContainTells': WHATEVER THE INPUT: true; the input reads as it did. -/
def containTellsSpec : ChangeSpec := { name := "containTells", fn := fun _ => fun
  | [d1, d2] => { results := [.lit (.bool true)], args := [d1, d2] }
  | _ => none }
def containTellsRow : OpenClaim := { program := "ytaiedakbmmgmaaa", sum := "1bbc3946077a73e80ffcaa2904414f3debdcb3fc0a8868cdd63f71b2af447a08", func := "gallipot/gallipotlaw05.ContainTells", spec := "containTells", inPlace := ["math.archTrunc", "math.Float64bits", "math.Float64frombits"], unfollowed := true, recurses := true, loops := true, apart := false }
def ContainTellsSaid : Prop := containTellsRow.holds Try.pinned (OpenSpec.ofChange containTellsSpec)

/-- ITS FALSE NEIGHBOUR: 'it returns false'. Refute it at one input. -/
def containTellsWrong : ChangeSpec := { name := "containTells", fn := fun _ => fun
  | [d1, d2] => { results := [.lit (.bool false)], args := [d1, d2] }
  | _ => none }
def ContainTellsWrongFalsely : Prop := containTellsRow.holds Try.pinned (OpenSpec.ofChange containTellsWrong)

/-- 'gallipotlaw05.ContainGrows': WHATEVER THE INPUT: true; the input reads as it did. -/
def containGrowsSpec : ChangeSpec := { name := "containGrows", fn := fun _ => fun
  | [d1, d2, d3] => { results := [.lit (.bool true)], args := [d1, d2, d3] }
  | _ => none }
def containGrowsRow : OpenClaim := { program := "ytaiedakbmmgmaaa", sum := "1bbc3946077a73e80ffcaa2904414f3debdcb3fc0a8868cdd63f71b2af447a08", func := "gallipot/gallipotlaw05.ContainGrows", spec := "containGrows", inPlace := ["math.archTrunc", "math.Float64bits", "math.Float64frombits"], unfollowed := true, recurses := true, loops := true, apart := false }
def ContainGrowsSaid : Prop := containGrowsRow.holds Try.pinned (OpenSpec.ofChange containGrowsSpec)

/-- ITS FALSE NEIGHBOUR: 'it returns false'. Refute it at one input. -/
def containGrowsWrong : ChangeSpec := { name := "containGrows", fn := fun _ => fun
  | [d1, d2, d3] => { results := [.lit (.bool false)], args := [d1, d2, d3] }
  | _ => none }
def ContainGrowsWrongFalsely : Prop := containGrowsRow.holds Try.pinned (OpenSpec.ofChange containGrowsWrong)

/-- 'gallipotlaw04.EvalTells': WHATEVER THE INPUT: true; the input reads as it did. -/
def evalTellsSpec : ChangeSpec := { name := "evalTells", fn := fun _ => fun
  | [d1, d2] => { results := [.lit (.bool true)], args := [d1, d2] }
  | _ => none }
def evalTellsRow : OpenClaim := { program := "ytaiedakbmmgmaaa", sum := "1bbc3946077a73e80ffcaa2904414f3debdcb3fc0a8868cdd63f71b2af447a08", func := "gallipot/gallipotlaw04.EvalTells", spec := "evalTells", inPlace := ["math.archTrunc", "math.Float64bits", "math.Float64frombits"], unfollowed := true, recurses := true, loops := true, apart := false }
def EvalTellsSaid : Prop := evalTellsRow.holds Try.pinned (OpenSpec.ofChange evalTellsSpec)

/-- ITS FALSE NEIGHBOUR: 'it returns false'. Refute it at one input. -/
def evalTellsWrong : ChangeSpec := { name := "evalTells", fn := fun _ => fun
  | [d1, d2] => { results := [.lit (.bool false)], args := [d1, d2] }
  | _ => none }
def EvalTellsWrongFalsely : Prop := evalTellsRow.holds Try.pinned (OpenSpec.ofChange evalTellsWrong)

/-- 'gallipotlaw20.TreePlaces': WHATEVER THE INPUT: true; the input reads as it did. -/
def treePlacesSpec : ChangeSpec := { name := "treePlaces", fn := fun _ => fun
  | [d] => { results := [.lit (.bool true)], args := [d] }
  | _ => none }
def treePlacesRow : OpenClaim := { program := "ytaiedakbmmgmaaa", sum := "1bbc3946077a73e80ffcaa2904414f3debdcb3fc0a8868cdd63f71b2af447a08", func := "gallipot/gallipotlaw20.TreePlaces", spec := "treePlaces", inPlace := ["math.archTrunc", "math.Float64bits", "math.Float64frombits"], unfollowed := true, recurses := true, loops := true, apart := false }
def TreePlacesSaid : Prop := treePlacesRow.holds Try.pinned (OpenSpec.ofChange treePlacesSpec)

/-- ITS FALSE NEIGHBOUR: 'it returns false'. Refute it at one input. -/
def treePlacesWrong : ChangeSpec := { name := "treePlaces", fn := fun _ => fun
  | [d] => { results := [.lit (.bool false)], args := [d] }
  | _ => none }
def TreePlacesWrongFalsely : Prop := treePlacesRow.holds Try.pinned (OpenSpec.ofChange treePlacesWrong)

/-- 'gallipotlaw20.TreeClimbs': WHATEVER THE INPUT: true; the input reads as it did. -/
def treeClimbsSpec : ChangeSpec := { name := "treeClimbs", fn := fun _ => fun
  | [d] => { results := [.lit (.bool true)], args := [d] }
  | _ => none }
def treeClimbsRow : OpenClaim := { program := "ytaiedakbmmgmaaa", sum := "1bbc3946077a73e80ffcaa2904414f3debdcb3fc0a8868cdd63f71b2af447a08", func := "gallipot/gallipotlaw20.TreeClimbs", spec := "treeClimbs", inPlace := ["math.archTrunc", "math.Float64bits", "math.Float64frombits"], unfollowed := true, recurses := true, loops := true, apart := false }
def TreeClimbsSaid : Prop := treeClimbsRow.holds Try.pinned (OpenSpec.ofChange treeClimbsSpec)

/-- ITS FALSE NEIGHBOUR: 'it returns false'. Refute it at one input. -/
def treeClimbsWrong : ChangeSpec := { name := "treeClimbs", fn := fun _ => fun
  | [d] => { results := [.lit (.bool false)], args := [d] }
  | _ => none }
def TreeClimbsWrongFalsely : Prop := treeClimbsRow.holds Try.pinned (OpenSpec.ofChange treeClimbsWrong)

/-- 'gallipotlaw05.ContainSound': WHATEVER THE INPUT: true; the input reads as it did. -/
def containSoundSpec : ChangeSpec := { name := "containSound", fn := fun _ => fun
  | [d1, d2, d3] => { results := [.lit (.bool true)], args := [d1, d2, d3] }
  | _ => none }
def containSoundRow : OpenClaim := { program := "ytaiedakbmmgmaaa", sum := "1bbc3946077a73e80ffcaa2904414f3debdcb3fc0a8868cdd63f71b2af447a08", func := "gallipot/gallipotlaw05.ContainSound", spec := "containSound", inPlace := ["math.archTrunc", "math.Float64bits", "math.Float64frombits"], unfollowed := true, recurses := true, loops := true, apart := false }
def ContainSoundSaid : Prop := containSoundRow.holds Try.pinned (OpenSpec.ofChange containSoundSpec)

/-- ITS FALSE NEIGHBOUR: 'it returns false'. Refute it at one input. -/
def containSoundWrong : ChangeSpec := { name := "containSound", fn := fun _ => fun
  | [d1, d2, d3] => { results := [.lit (.bool false)], args := [d1, d2, d3] }
  | _ => none }
def ContainSoundWrongFalsely : Prop := containSoundRow.holds Try.pinned (OpenSpec.ofChange containSoundWrong)

/-- 'gallipotlaw04.EvalPlain': WHATEVER THE INPUT: true; the input reads as it did. -/
def evalPlainSpec : ChangeSpec := { name := "evalPlain", fn := fun _ => fun
  | [d1, d2] => { results := [.lit (.bool true)], args := [d1, d2] }
  | _ => none }
def evalPlainRow : OpenClaim := { program := "ytaiedakbmmgmaaa", sum := "1bbc3946077a73e80ffcaa2904414f3debdcb3fc0a8868cdd63f71b2af447a08", func := "gallipot/gallipotlaw04.EvalPlain", spec := "evalPlain", inPlace := ["math.archTrunc", "math.Float64bits", "math.Float64frombits"], unfollowed := true, recurses := true, loops := true, apart := false }
def EvalPlainSaid : Prop := evalPlainRow.holds Try.pinned (OpenSpec.ofChange evalPlainSpec)

/-- ITS FALSE NEIGHBOUR: 'it returns false'. Refute it at one input. -/
def evalPlainWrong : ChangeSpec := { name := "evalPlain", fn := fun _ => fun
  | [d1, d2] => { results := [.lit (.bool false)], args := [d1, d2] }
  | _ => none }
def EvalPlainWrongFalsely : Prop := evalPlainRow.holds Try.pinned (OpenSpec.ofChange evalPlainWrong)

/-- 'gallipotlaw08.ListTells': WHATEVER THE INPUT: true; the input reads as it did. -/
def listTellsSpec : ChangeSpec := { name := "listTells", fn := fun _ => fun
  | [d1, d2, d3, d4] => { results := [.lit (.bool true)], args := [d1, d2, d3, d4] }
  | _ => none }
def listTellsRow : OpenClaim := { program := "ytaiedakbmmgmaaa", sum := "1bbc3946077a73e80ffcaa2904414f3debdcb3fc0a8868cdd63f71b2af447a08", func := "gallipot/gallipotlaw08.ListTells", spec := "listTells", inPlace := ["slices.overlaps[gallipot/api.Item]", "math.archTrunc", "math.Float64bits", "math.Float64frombits"], unfollowed := true, recurses := true, apart := false }
def ListTellsSaid : Prop := listTellsRow.holds Try.pinned (OpenSpec.ofChange listTellsSpec)

/-- ITS FALSE NEIGHBOUR: 'it returns false'. Refute it at one input. -/
def listTellsWrong : ChangeSpec := { name := "listTells", fn := fun _ => fun
  | [d1, d2, d3, d4] => { results := [.lit (.bool false)], args := [d1, d2, d3, d4] }
  | _ => none }
def ListTellsWrongFalsely : Prop := listTellsRow.holds Try.pinned (OpenSpec.ofChange listTellsWrong)

/- THE SECOND FORM. 'bulk': how many values and letters a reading holds, each counted each time it is reached (what is shared counts as often as it is met; a slice's spare places count too). A statement '..UptoSaid' is the law's where the arguments, and the package variables that the reading takes, are together of bulk at most 1048576: NARROWER than '..Said'. Prove '..Said' where nothing that the law and all that it calls make is longer than what came in: it says more and counts as full. Else prove '..UptoSaid'. A law counts once. -/
mutual
def uptoBulk {H : Type} : DataW H → Nat
  | .lit (.string bytes) => bytes.length + 1
  | .lit _ => 1
  | .nil => 1
  | .ptr d => uptoBulk d + 1
  | .slice elems spare => uptoBulkAll elems + uptoBulkAll spare + 1
  | .agg parts => uptoBulkAll parts + 1
  | .iface _ d => uptoBulk d + 1
  | .map entries => uptoBulkEntries entries + 1
  | .held _ => 1
def uptoBulkAll {H : Type} : List (DataW H) → Nat
  | [] => 0
  | d :: r => uptoBulk d + uptoBulkAll r
def uptoBulkEntries {H : Type} : List (Lit × DataW H) → Nat
  | [] => 0
  | x :: r => uptoBulkEntry x + uptoBulkEntries r
def uptoBulkEntry {H : Type} : Lit × DataW H → Nat
  | (.string bytes, d) => bytes.length + uptoBulk d + 1
  | (_, d) => uptoBulk d + 1
 end
def uptoSmall : (H : Type) → List (DataW H) → Bool := fun _ ds => decide (uptoBulkAll ds ≤ 1048576)
def OpenSpec.upto (s : _root_.Go.ChangeSpec) : _root_.Go.OpenSpec := { _root_.Go.OpenSpec.ofChange s with cond := some uptoSmall }

/-- 'gallipotlaw02.ItemTells', WHERE WHAT IT READS IS OF BULK AT MOST 1048576: true; the input reads as it did. -/
def itemTellsUptoRow : OpenClaim := { program := "ytaiedakbmmgmaaa", sum := "1bbc3946077a73e80ffcaa2904414f3debdcb3fc0a8868cdd63f71b2af447a08", func := "gallipot/gallipotlaw02.ItemTells", spec := "itemTells", inPlace := ["math.archTrunc", "math.Float64bits", "math.Float64frombits"], apart := false, narrowed := true }
def ItemTellsUptoSaid : Prop := itemTellsUptoRow.holds Try.pinned (OpenSpec.upto itemTellsSpec)

/-- 'gallipotlaw02.ItemOrders', WHERE WHAT IT READS IS OF BULK AT MOST 1048576: true; the input reads as it did. -/
def itemOrdersUptoRow : OpenClaim := { program := "ytaiedakbmmgmaaa", sum := "1bbc3946077a73e80ffcaa2904414f3debdcb3fc0a8868cdd63f71b2af447a08", func := "gallipot/gallipotlaw02.ItemOrders", spec := "itemOrders", inPlace := ["math.archTrunc", "math.Float64bits", "math.Float64frombits"], apart := false, narrowed := true }
def ItemOrdersUptoSaid : Prop := itemOrdersUptoRow.holds Try.pinned (OpenSpec.upto itemOrdersSpec)

/-- 'gallipotlaw03.PredTells', WHERE WHAT IT READS IS OF BULK AT MOST 1048576: true; the input reads as it did. -/
def predTellsUptoRow : OpenClaim := { program := "ytaiedakbmmgmaaa", sum := "1bbc3946077a73e80ffcaa2904414f3debdcb3fc0a8868cdd63f71b2af447a08", func := "gallipot/gallipotlaw03.PredTells", spec := "predTells", inPlace := ["math.archTrunc", "math.Float64bits", "math.Float64frombits"], recurses := true, loops := true, apart := false, narrowed := true }
def PredTellsUptoSaid : Prop := predTellsUptoRow.holds Try.pinned (OpenSpec.upto predTellsSpec)

/-- 'gallipotlaw03.PredParts', WHERE WHAT IT READS IS OF BULK AT MOST 1048576: true; the input reads as it did. -/
def predPartsUptoRow : OpenClaim := { program := "ytaiedakbmmgmaaa", sum := "1bbc3946077a73e80ffcaa2904414f3debdcb3fc0a8868cdd63f71b2af447a08", func := "gallipot/gallipotlaw03.PredParts", spec := "predParts", inPlace := ["math.archTrunc", "math.Float64bits", "math.Float64frombits"], recurses := true, loops := true, apart := false, narrowed := true }
def PredPartsUptoSaid : Prop := predPartsUptoRow.holds Try.pinned (OpenSpec.upto predPartsSpec)

/-- 'gallipotlaw05.ContainTells', WHERE WHAT IT READS IS OF BULK AT MOST 1048576: true; the input reads as it did. -/
def containTellsUptoRow : OpenClaim := { program := "ytaiedakbmmgmaaa", sum := "1bbc3946077a73e80ffcaa2904414f3debdcb3fc0a8868cdd63f71b2af447a08", func := "gallipot/gallipotlaw05.ContainTells", spec := "containTells", inPlace := ["math.archTrunc", "math.Float64bits", "math.Float64frombits"], unfollowed := true, recurses := true, loops := true, apart := false, narrowed := true }
def ContainTellsUptoSaid : Prop := containTellsUptoRow.holds Try.pinned (OpenSpec.upto containTellsSpec)

/-- 'gallipotlaw05.ContainGrows', WHERE WHAT IT READS IS OF BULK AT MOST 1048576: true; the input reads as it did. -/
def containGrowsUptoRow : OpenClaim := { program := "ytaiedakbmmgmaaa", sum := "1bbc3946077a73e80ffcaa2904414f3debdcb3fc0a8868cdd63f71b2af447a08", func := "gallipot/gallipotlaw05.ContainGrows", spec := "containGrows", inPlace := ["math.archTrunc", "math.Float64bits", "math.Float64frombits"], unfollowed := true, recurses := true, loops := true, apart := false, narrowed := true }
def ContainGrowsUptoSaid : Prop := containGrowsUptoRow.holds Try.pinned (OpenSpec.upto containGrowsSpec)

/-- 'gallipotlaw04.EvalTells', WHERE WHAT IT READS IS OF BULK AT MOST 1048576: true; the input reads as it did. -/
def evalTellsUptoRow : OpenClaim := { program := "ytaiedakbmmgmaaa", sum := "1bbc3946077a73e80ffcaa2904414f3debdcb3fc0a8868cdd63f71b2af447a08", func := "gallipot/gallipotlaw04.EvalTells", spec := "evalTells", inPlace := ["math.archTrunc", "math.Float64bits", "math.Float64frombits"], unfollowed := true, recurses := true, loops := true, apart := false, narrowed := true }
def EvalTellsUptoSaid : Prop := evalTellsUptoRow.holds Try.pinned (OpenSpec.upto evalTellsSpec)

/-- 'gallipotlaw20.TreePlaces', WHERE WHAT IT READS IS OF BULK AT MOST 1048576: true; the input reads as it did. -/
def treePlacesUptoRow : OpenClaim := { program := "ytaiedakbmmgmaaa", sum := "1bbc3946077a73e80ffcaa2904414f3debdcb3fc0a8868cdd63f71b2af447a08", func := "gallipot/gallipotlaw20.TreePlaces", spec := "treePlaces", inPlace := ["math.archTrunc", "math.Float64bits", "math.Float64frombits"], unfollowed := true, recurses := true, loops := true, apart := false, narrowed := true }
def TreePlacesUptoSaid : Prop := treePlacesUptoRow.holds Try.pinned (OpenSpec.upto treePlacesSpec)

/-- 'gallipotlaw20.TreeClimbs', WHERE WHAT IT READS IS OF BULK AT MOST 1048576: true; the input reads as it did. -/
def treeClimbsUptoRow : OpenClaim := { program := "ytaiedakbmmgmaaa", sum := "1bbc3946077a73e80ffcaa2904414f3debdcb3fc0a8868cdd63f71b2af447a08", func := "gallipot/gallipotlaw20.TreeClimbs", spec := "treeClimbs", inPlace := ["math.archTrunc", "math.Float64bits", "math.Float64frombits"], unfollowed := true, recurses := true, loops := true, apart := false, narrowed := true }
def TreeClimbsUptoSaid : Prop := treeClimbsUptoRow.holds Try.pinned (OpenSpec.upto treeClimbsSpec)

/-- 'gallipotlaw05.ContainSound', WHERE WHAT IT READS IS OF BULK AT MOST 1048576: true; the input reads as it did. -/
def containSoundUptoRow : OpenClaim := { program := "ytaiedakbmmgmaaa", sum := "1bbc3946077a73e80ffcaa2904414f3debdcb3fc0a8868cdd63f71b2af447a08", func := "gallipot/gallipotlaw05.ContainSound", spec := "containSound", inPlace := ["math.archTrunc", "math.Float64bits", "math.Float64frombits"], unfollowed := true, recurses := true, loops := true, apart := false, narrowed := true }
def ContainSoundUptoSaid : Prop := containSoundUptoRow.holds Try.pinned (OpenSpec.upto containSoundSpec)

/-- 'gallipotlaw04.EvalPlain', WHERE WHAT IT READS IS OF BULK AT MOST 1048576: true; the input reads as it did. -/
def evalPlainUptoRow : OpenClaim := { program := "ytaiedakbmmgmaaa", sum := "1bbc3946077a73e80ffcaa2904414f3debdcb3fc0a8868cdd63f71b2af447a08", func := "gallipot/gallipotlaw04.EvalPlain", spec := "evalPlain", inPlace := ["math.archTrunc", "math.Float64bits", "math.Float64frombits"], unfollowed := true, recurses := true, loops := true, apart := false, narrowed := true }
def EvalPlainUptoSaid : Prop := evalPlainUptoRow.holds Try.pinned (OpenSpec.upto evalPlainSpec)

/-- 'gallipotlaw08.ListTells', WHERE WHAT IT READS IS OF BULK AT MOST 1048576: true; the input reads as it did. -/
def listTellsUptoRow : OpenClaim := { program := "ytaiedakbmmgmaaa", sum := "1bbc3946077a73e80ffcaa2904414f3debdcb3fc0a8868cdd63f71b2af447a08", func := "gallipot/gallipotlaw08.ListTells", spec := "listTells", inPlace := ["slices.overlaps[gallipot/api.Item]", "math.archTrunc", "math.Float64bits", "math.Float64frombits"], unfollowed := true, recurses := true, apart := false, narrowed := true }
def ListTellsUptoSaid : Prop := listTellsUptoRow.holds Try.pinned (OpenSpec.upto listTellsSpec)

end Rows
end Go.Proofs.Ytaiedakbmmgmaaa
