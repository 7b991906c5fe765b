/-
  NARROWER THAN 'FOR EVERY INPUT', by the rows' own cells (each row's printed sentence says how): ServeTells: loops · ServeAsks: loops · ServeNew: loops · RecvTells: loops · RecvOnce: loops · RecvPlays: loops · LocalStarts: loops · TakeTells: loops · TakePlays: loops · LocalDoes: loops · LocalPlays: loops · LocalKeeps: loops.
  DERIVED. THE GIVEN ROWS OF THIS SEAT. 12 by the template 'for every input the law returns true; each argument reads behind the call as it read before'; 0 by the template 'total and deterministic' (their statements: YtidkmoohgadjkaaGreatTotals.lean).
  GIVEN WITH THE SEED: the statements are not yours to turn. If you find one false, say at which input.
  Laid BY PROGRAM, IN A SANDBOX (cutbox-rows.mjs): the forced cells as the released guide's own fill.sh prints them over the translation 5105450a11fc8a1d… (all of the seat's roots in one cut). By AI agents, Wed Nov 11 2026. No macro, syntax, notation, axiom, sorry.
-/
import Derived.Test.YtidkmoohgadjkaaGreatChecked
import GoSem.Claim
import GoSem.ClaimJoined
import GoSem.ClaimMapViews
import Derived.JoinedTies
import Derived.KernelRfl
namespace Go.Proofs.YtidkmoohgadjkaaGreat
/- THE CELL 'sum', in the pinned program and in every row, IS THE sha256 OF THE DUMP (.gsa) THAT YtidkmoohgadjkaaGreatProg.lean LOADS. Nothing in Lean hashes anything: it is a label: what it is worth is what the hold of that sum in a sandbox is worth. -/
noncomputable def Tryz.pinned : Pinned := { name := "ytidkmoohgadjkaagreat", sum := "5105450a11fc8a1d7c4e91331a9e4d78897df317d1f419403ccadebf36d0e496", checked := Tryz.checked }
namespace Rows
def none {H : Type} : Left H := { results := [], args := [] }

/-- 'gallipotlaw12.ServeTells': WHATEVER THE INPUT: true; the input reads as it did. -/
def serveTellsSpec : ChangeSpec := { name := "serveTells", fn := fun _ => fun
  | [d1, d2, d3] => { results := [.lit (.bool true)], args := [d1, d2, d3] }
  | _ => none }
def serveTellsRow : OpenClaim := { program := "ytidkmoohgadjkaagreat", sum := "5105450a11fc8a1d7c4e91331a9e4d78897df317d1f419403ccadebf36d0e496", func := "gallipot/gallipotlaw12.ServeTells", spec := "serveTells", inPlace := ["math.archTrunc", "math.Float64bits", "math.Float64frombits"], unfollowed := true, recurses := true, loops := true, plainKeys := false, apart := false }
def ServeTellsSaid : Prop := serveTellsRow.holds Tryz.pinned (OpenSpec.ofChange serveTellsSpec)

/-- ITS FALSE NEIGHBOUR: 'it returns false'. Refute it at one input. -/
def serveTellsWrong : ChangeSpec := { name := "serveTells", fn := fun _ => fun
  | [d1, d2, d3] => { results := [.lit (.bool false)], args := [d1, d2, d3] }
  | _ => none }
def ServeTellsWrongFalsely : Prop := serveTellsRow.holds Tryz.pinned (OpenSpec.ofChange serveTellsWrong)

/-- 'gallipotlaw12.ServeAsks': WHATEVER THE INPUT: true; the input reads as it did. -/
def serveAsksSpec : ChangeSpec := { name := "serveAsks", fn := fun _ => fun
  | [d1, d2, d3] => { results := [.lit (.bool true)], args := [d1, d2, d3] }
  | _ => none }
def serveAsksRow : OpenClaim := { program := "ytidkmoohgadjkaagreat", sum := "5105450a11fc8a1d7c4e91331a9e4d78897df317d1f419403ccadebf36d0e496", func := "gallipot/gallipotlaw12.ServeAsks", spec := "serveAsks", inPlace := ["math.archTrunc", "math.Float64bits", "math.Float64frombits"], unfollowed := true, recurses := true, loops := true, plainKeys := false, apart := false }
def ServeAsksSaid : Prop := serveAsksRow.holds Tryz.pinned (OpenSpec.ofChange serveAsksSpec)

/-- ITS FALSE NEIGHBOUR: 'it returns false'. Refute it at one input. -/
def serveAsksWrong : ChangeSpec := { name := "serveAsks", fn := fun _ => fun
  | [d1, d2, d3] => { results := [.lit (.bool false)], args := [d1, d2, d3] }
  | _ => none }
def ServeAsksWrongFalsely : Prop := serveAsksRow.holds Tryz.pinned (OpenSpec.ofChange serveAsksWrong)

/-- 'gallipotlaw12.ServeNew': WHATEVER THE INPUT: true; the input reads as it did. -/
def serveNewSpec : ChangeSpec := { name := "serveNew", fn := fun _ => fun
  | [d1, d2, d3] => { results := [.lit (.bool true)], args := [d1, d2, d3] }
  | _ => none }
def serveNewRow : OpenClaim := { program := "ytidkmoohgadjkaagreat", sum := "5105450a11fc8a1d7c4e91331a9e4d78897df317d1f419403ccadebf36d0e496", func := "gallipot/gallipotlaw12.ServeNew", spec := "serveNew", inPlace := ["math.archTrunc", "math.Float64bits", "math.Float64frombits"], unfollowed := true, recurses := true, loops := true, plainKeys := false, apart := false }
def ServeNewSaid : Prop := serveNewRow.holds Tryz.pinned (OpenSpec.ofChange serveNewSpec)

/-- ITS FALSE NEIGHBOUR: 'it returns false'. Refute it at one input. -/
def serveNewWrong : ChangeSpec := { name := "serveNew", fn := fun _ => fun
  | [d1, d2, d3] => { results := [.lit (.bool false)], args := [d1, d2, d3] }
  | _ => none }
def ServeNewWrongFalsely : Prop := serveNewRow.holds Tryz.pinned (OpenSpec.ofChange serveNewWrong)

/-- 'gallipotlaw10.RecvTells': WHATEVER THE INPUT: true; the input reads as it did. -/
def recvTellsSpec : ChangeSpec := { name := "recvTells", fn := fun _ => fun
  | [d1, d2, d3, d4, d5] => { results := [.lit (.bool true)], args := [d1, d2, d3, d4, d5] }
  | _ => none }
def recvTellsRow : OpenClaim := { program := "ytidkmoohgadjkaagreat", sum := "5105450a11fc8a1d7c4e91331a9e4d78897df317d1f419403ccadebf36d0e496", func := "gallipot/gallipotlaw10.RecvTells", spec := "recvTells", inPlace := ["math.archTrunc", "math.Float64bits", "math.Float64frombits", "slices.overlaps[gallipot/api.Item]"], unfollowed := true, recurses := true, loops := true, plainKeys := false, apart := false }
def RecvTellsSaid : Prop := recvTellsRow.holds Tryz.pinned (OpenSpec.ofChange recvTellsSpec)

/-- ITS FALSE NEIGHBOUR: 'it returns false'. Refute it at one input. -/
def recvTellsWrong : ChangeSpec := { name := "recvTells", fn := fun _ => fun
  | [d1, d2, d3, d4, d5] => { results := [.lit (.bool false)], args := [d1, d2, d3, d4, d5] }
  | _ => none }
def RecvTellsWrongFalsely : Prop := recvTellsRow.holds Tryz.pinned (OpenSpec.ofChange recvTellsWrong)

/-- 'gallipotlaw10.RecvOnce': WHATEVER THE INPUT: true; the input reads as it did. -/
def recvOnceSpec : ChangeSpec := { name := "recvOnce", fn := fun _ => fun
  | [d1, d2, d3, d4] => { results := [.lit (.bool true)], args := [d1, d2, d3, d4] }
  | _ => none }
def recvOnceRow : OpenClaim := { program := "ytidkmoohgadjkaagreat", sum := "5105450a11fc8a1d7c4e91331a9e4d78897df317d1f419403ccadebf36d0e496", func := "gallipot/gallipotlaw10.RecvOnce", spec := "recvOnce", inPlace := ["math.archTrunc", "math.Float64bits", "math.Float64frombits", "slices.overlaps[gallipot/api.Item]"], unfollowed := true, recurses := true, loops := true, plainKeys := false, apart := false }
def RecvOnceSaid : Prop := recvOnceRow.holds Tryz.pinned (OpenSpec.ofChange recvOnceSpec)

/-- ITS FALSE NEIGHBOUR: 'it returns false'. Refute it at one input. -/
def recvOnceWrong : ChangeSpec := { name := "recvOnce", fn := fun _ => fun
  | [d1, d2, d3, d4] => { results := [.lit (.bool false)], args := [d1, d2, d3, d4] }
  | _ => none }
def RecvOnceWrongFalsely : Prop := recvOnceRow.holds Tryz.pinned (OpenSpec.ofChange recvOnceWrong)

/-- 'gallipotlaw10.RecvPlays': WHATEVER THE INPUT: true; the input reads as it did. -/
def recvPlaysSpec : ChangeSpec := { name := "recvPlays", fn := fun _ => fun
  | [d1, d2, d3] => { results := [.lit (.bool true)], args := [d1, d2, d3] }
  | _ => none }
def recvPlaysRow : OpenClaim := { program := "ytidkmoohgadjkaagreat", sum := "5105450a11fc8a1d7c4e91331a9e4d78897df317d1f419403ccadebf36d0e496", func := "gallipot/gallipotlaw10.RecvPlays", spec := "recvPlays", inPlace := ["math.archTrunc", "math.Float64bits", "math.Float64frombits", "slices.overlaps[gallipot/api.Item]"], unfollowed := true, recurses := true, loops := true, plainKeys := false, apart := false }
def RecvPlaysSaid : Prop := recvPlaysRow.holds Tryz.pinned (OpenSpec.ofChange recvPlaysSpec)

/-- ITS FALSE NEIGHBOUR: 'it returns false'. Refute it at one input. -/
def recvPlaysWrong : ChangeSpec := { name := "recvPlays", fn := fun _ => fun
  | [d1, d2, d3] => { results := [.lit (.bool false)], args := [d1, d2, d3] }
  | _ => none }
def RecvPlaysWrongFalsely : Prop := recvPlaysRow.holds Tryz.pinned (OpenSpec.ofChange recvPlaysWrong)

/-- 'gallipotlaw09.LocalStarts': WHATEVER THE INPUT: true; the input reads as it did. -/
def localStartsSpec : ChangeSpec := { name := "localStarts", fn := fun _ => fun
  | [d1, d2, d3] => { results := [.lit (.bool true)], args := [d1, d2, d3] }
  | _ => none }
def localStartsRow : OpenClaim := { program := "ytidkmoohgadjkaagreat", sum := "5105450a11fc8a1d7c4e91331a9e4d78897df317d1f419403ccadebf36d0e496", func := "gallipot/gallipotlaw09.LocalStarts", spec := "localStarts", inPlace := ["math.archTrunc", "math.Float64bits", "math.Float64frombits", "slices.overlaps[gallipot/api.Item]"], unfollowed := true, recurses := true, loops := true, plainKeys := false, apart := false }
def LocalStartsSaid : Prop := localStartsRow.holds Tryz.pinned (OpenSpec.ofChange localStartsSpec)

/-- ITS FALSE NEIGHBOUR: 'it returns false'. Refute it at one input. -/
def localStartsWrong : ChangeSpec := { name := "localStarts", fn := fun _ => fun
  | [d1, d2, d3] => { results := [.lit (.bool false)], args := [d1, d2, d3] }
  | _ => none }
def LocalStartsWrongFalsely : Prop := localStartsRow.holds Tryz.pinned (OpenSpec.ofChange localStartsWrong)

/-- 'gallipotlaw13.TakeTells': WHATEVER THE INPUT: true; the input reads as it did. -/
def takeTellsSpec : ChangeSpec := { name := "takeTells", fn := fun _ => fun
  | [d1, d2, d3] => { results := [.lit (.bool true)], args := [d1, d2, d3] }
  | _ => none }
def takeTellsRow : OpenClaim := { program := "ytidkmoohgadjkaagreat", sum := "5105450a11fc8a1d7c4e91331a9e4d78897df317d1f419403ccadebf36d0e496", func := "gallipot/gallipotlaw13.TakeTells", spec := "takeTells", inPlace := ["math.archTrunc", "math.Float64bits", "math.Float64frombits", "slices.overlaps[gallipot/api.Item]", "slices.overlaps[int]"], unfollowed := true, recurses := true, loops := true, plainKeys := false, apart := false }
def TakeTellsSaid : Prop := takeTellsRow.holds Tryz.pinned (OpenSpec.ofChange takeTellsSpec)

/-- ITS FALSE NEIGHBOUR: 'it returns false'. Refute it at one input. -/
def takeTellsWrong : ChangeSpec := { name := "takeTells", fn := fun _ => fun
  | [d1, d2, d3] => { results := [.lit (.bool false)], args := [d1, d2, d3] }
  | _ => none }
def TakeTellsWrongFalsely : Prop := takeTellsRow.holds Tryz.pinned (OpenSpec.ofChange takeTellsWrong)

/-- 'gallipotlaw13.TakePlays': WHATEVER THE INPUT: true; the input reads as it did. -/
def takePlaysSpec : ChangeSpec := { name := "takePlays", fn := fun _ => fun
  | [d1, d2, d3] => { results := [.lit (.bool true)], args := [d1, d2, d3] }
  | _ => none }
def takePlaysRow : OpenClaim := { program := "ytidkmoohgadjkaagreat", sum := "5105450a11fc8a1d7c4e91331a9e4d78897df317d1f419403ccadebf36d0e496", func := "gallipot/gallipotlaw13.TakePlays", spec := "takePlays", inPlace := ["math.archTrunc", "math.Float64bits", "math.Float64frombits", "slices.overlaps[gallipot/api.Item]", "slices.overlaps[int]"], unfollowed := true, recurses := true, loops := true, plainKeys := false, apart := false }
def TakePlaysSaid : Prop := takePlaysRow.holds Tryz.pinned (OpenSpec.ofChange takePlaysSpec)

/-- ITS FALSE NEIGHBOUR: 'it returns false'. Refute it at one input. -/
def takePlaysWrong : ChangeSpec := { name := "takePlays", fn := fun _ => fun
  | [d1, d2, d3] => { results := [.lit (.bool false)], args := [d1, d2, d3] }
  | _ => none }
def TakePlaysWrongFalsely : Prop := takePlaysRow.holds Tryz.pinned (OpenSpec.ofChange takePlaysWrong)

/-- 'gallipotlaw09.LocalDoes': WHATEVER THE INPUT: true; the input reads as it did. -/
def localDoesSpec : ChangeSpec := { name := "localDoes", fn := fun _ => fun
  | [d1, d2] => { results := [.lit (.bool true)], args := [d1, d2] }
  | _ => none }
def localDoesRow : OpenClaim := { program := "ytidkmoohgadjkaagreat", sum := "5105450a11fc8a1d7c4e91331a9e4d78897df317d1f419403ccadebf36d0e496", func := "gallipot/gallipotlaw09.LocalDoes", spec := "localDoes", inPlace := ["math.archTrunc", "math.Float64bits", "math.Float64frombits", "slices.overlaps[gallipot/api.Item]"], unfollowed := true, recurses := true, loops := true, plainKeys := false, apart := false }
def LocalDoesSaid : Prop := localDoesRow.holds Tryz.pinned (OpenSpec.ofChange localDoesSpec)

/-- ITS FALSE NEIGHBOUR: 'it returns false'. Refute it at one input. -/
def localDoesWrong : ChangeSpec := { name := "localDoes", fn := fun _ => fun
  | [d1, d2] => { results := [.lit (.bool false)], args := [d1, d2] }
  | _ => none }
def LocalDoesWrongFalsely : Prop := localDoesRow.holds Tryz.pinned (OpenSpec.ofChange localDoesWrong)

/-- 'gallipotlaw09.LocalPlays': WHATEVER THE INPUT: true; the input reads as it did. -/
def localPlaysSpec : ChangeSpec := { name := "localPlays", fn := fun _ => fun
  | [d1, d2, d3] => { results := [.lit (.bool true)], args := [d1, d2, d3] }
  | _ => none }
def localPlaysRow : OpenClaim := { program := "ytidkmoohgadjkaagreat", sum := "5105450a11fc8a1d7c4e91331a9e4d78897df317d1f419403ccadebf36d0e496", func := "gallipot/gallipotlaw09.LocalPlays", spec := "localPlays", inPlace := ["math.archTrunc", "math.Float64bits", "math.Float64frombits", "slices.overlaps[gallipot/api.Item]"], unfollowed := true, recurses := true, loops := true, plainKeys := false, apart := false }
def LocalPlaysSaid : Prop := localPlaysRow.holds Tryz.pinned (OpenSpec.ofChange localPlaysSpec)

/-- ITS FALSE NEIGHBOUR: 'it returns false'. Refute it at one input. -/
def localPlaysWrong : ChangeSpec := { name := "localPlays", fn := fun _ => fun
  | [d1, d2, d3] => { results := [.lit (.bool false)], args := [d1, d2, d3] }
  | _ => none }
def LocalPlaysWrongFalsely : Prop := localPlaysRow.holds Tryz.pinned (OpenSpec.ofChange localPlaysWrong)

/-- 'gallipotlaw09.LocalKeeps': WHATEVER THE INPUT: true; the input reads as it did. -/
def localKeepsSpec : ChangeSpec := { name := "localKeeps", fn := fun _ => fun
  | [d1, d2, d3] => { results := [.lit (.bool true)], args := [d1, d2, d3] }
  | _ => none }
def localKeepsRow : OpenClaim := { program := "ytidkmoohgadjkaagreat", sum := "5105450a11fc8a1d7c4e91331a9e4d78897df317d1f419403ccadebf36d0e496", func := "gallipot/gallipotlaw09.LocalKeeps", spec := "localKeeps", inPlace := ["math.archTrunc", "math.Float64bits", "math.Float64frombits", "slices.overlaps[gallipot/api.Item]"], unfollowed := true, recurses := true, loops := true, plainKeys := false, apart := false }
def LocalKeepsSaid : Prop := localKeepsRow.holds Tryz.pinned (OpenSpec.ofChange localKeepsSpec)

/-- ITS FALSE NEIGHBOUR: 'it returns false'. Refute it at one input. -/
def localKeepsWrong : ChangeSpec := { name := "localKeeps", fn := fun _ => fun
  | [d1, d2, d3] => { results := [.lit (.bool false)], args := [d1, d2, d3] }
  | _ => none }
def LocalKeepsWrongFalsely : Prop := localKeepsRow.holds Tryz.pinned (OpenSpec.ofChange localKeepsWrong)

/- THE SECOND FORM. 'bulk': how many values and letters a reading holds, each counted each time it is reached (what is shared counts as often as it is met; a slice's spare places count too). A statement '..UptoSaid' is the law's where the arguments, and the package variables that the reading takes, are together of bulk at most 1048576: NARROWER than '..Said'. Prove '..Said' where nothing that the law and all that it calls make is longer than what came in: it says more and counts as full. Else prove '..UptoSaid'. A law counts once. -/
mutual
def uptoBulk {H : Type} : DataW H → Nat
  | .lit (.string bytes) => bytes.length + 1
  | .lit _ => 1
  | .nil => 1
  | .ptr d => uptoBulk d + 1
  | .slice elems spare => uptoBulkAll elems + uptoBulkAll spare + 1
  | .agg parts => uptoBulkAll parts + 1
  | .iface _ d => uptoBulk d + 1
  | .map entries => uptoBulkEntries entries + 1
  | .held _ => 1
def uptoBulkAll {H : Type} : List (DataW H) → Nat
  | [] => 0
  | d :: r => uptoBulk d + uptoBulkAll r
def uptoBulkEntries {H : Type} : List (Lit × DataW H) → Nat
  | [] => 0
  | x :: r => uptoBulkEntry x + uptoBulkEntries r
def uptoBulkEntry {H : Type} : Lit × DataW H → Nat
  | (.string bytes, d) => bytes.length + uptoBulk d + 1
  | (_, d) => uptoBulk d + 1
 end
def uptoSmall : (H : Type) → List (DataW H) → Bool := fun _ ds => decide (uptoBulkAll ds ≤ 1048576)
def OpenSpec.upto (s : _root_.Go.ChangeSpec) : _root_.Go.OpenSpec := { _root_.Go.OpenSpec.ofChange s with cond := some uptoSmall }

/-- 'gallipotlaw12.ServeTells', WHERE WHAT IT READS IS OF BULK AT MOST 1048576: true; the input reads as it did. -/
def serveTellsUptoRow : OpenClaim := { program := "ytidkmoohgadjkaagreat", sum := "5105450a11fc8a1d7c4e91331a9e4d78897df317d1f419403ccadebf36d0e496", func := "gallipot/gallipotlaw12.ServeTells", spec := "serveTells", inPlace := ["math.archTrunc", "math.Float64bits", "math.Float64frombits"], unfollowed := true, recurses := true, loops := true, plainKeys := false, apart := false, narrowed := true }
def ServeTellsUptoSaid : Prop := serveTellsUptoRow.holds Tryz.pinned (OpenSpec.upto serveTellsSpec)

/-- 'gallipotlaw12.ServeAsks', WHERE WHAT IT READS IS OF BULK AT MOST 1048576: true; the input reads as it did. -/
def serveAsksUptoRow : OpenClaim := { program := "ytidkmoohgadjkaagreat", sum := "5105450a11fc8a1d7c4e91331a9e4d78897df317d1f419403ccadebf36d0e496", func := "gallipot/gallipotlaw12.ServeAsks", spec := "serveAsks", inPlace := ["math.archTrunc", "math.Float64bits", "math.Float64frombits"], unfollowed := true, recurses := true, loops := true, plainKeys := false, apart := false, narrowed := true }
def ServeAsksUptoSaid : Prop := serveAsksUptoRow.holds Tryz.pinned (OpenSpec.upto serveAsksSpec)

/-- 'gallipotlaw12.ServeNew', WHERE WHAT IT READS IS OF BULK AT MOST 1048576: true; the input reads as it did. -/
def serveNewUptoRow : OpenClaim := { program := "ytidkmoohgadjkaagreat", sum := "5105450a11fc8a1d7c4e91331a9e4d78897df317d1f419403ccadebf36d0e496", func := "gallipot/gallipotlaw12.ServeNew", spec := "serveNew", inPlace := ["math.archTrunc", "math.Float64bits", "math.Float64frombits"], unfollowed := true, recurses := true, loops := true, plainKeys := false, apart := false, narrowed := true }
def ServeNewUptoSaid : Prop := serveNewUptoRow.holds Tryz.pinned (OpenSpec.upto serveNewSpec)

/-- 'gallipotlaw10.RecvTells', WHERE WHAT IT READS IS OF BULK AT MOST 1048576: true; the input reads as it did. -/
def recvTellsUptoRow : OpenClaim := { program := "ytidkmoohgadjkaagreat", sum := "5105450a11fc8a1d7c4e91331a9e4d78897df317d1f419403ccadebf36d0e496", func := "gallipot/gallipotlaw10.RecvTells", spec := "recvTells", inPlace := ["math.archTrunc", "math.Float64bits", "math.Float64frombits", "slices.overlaps[gallipot/api.Item]"], unfollowed := true, recurses := true, loops := true, plainKeys := false, apart := false, narrowed := true }
def RecvTellsUptoSaid : Prop := recvTellsUptoRow.holds Tryz.pinned (OpenSpec.upto recvTellsSpec)

/-- 'gallipotlaw10.RecvOnce', WHERE WHAT IT READS IS OF BULK AT MOST 1048576: true; the input reads as it did. -/
def recvOnceUptoRow : OpenClaim := { program := "ytidkmoohgadjkaagreat", sum := "5105450a11fc8a1d7c4e91331a9e4d78897df317d1f419403ccadebf36d0e496", func := "gallipot/gallipotlaw10.RecvOnce", spec := "recvOnce", inPlace := ["math.archTrunc", "math.Float64bits", "math.Float64frombits", "slices.overlaps[gallipot/api.Item]"], unfollowed := true, recurses := true, loops := true, plainKeys := false, apart := false, narrowed := true }
def RecvOnceUptoSaid : Prop := recvOnceUptoRow.holds Tryz.pinned (OpenSpec.upto recvOnceSpec)

/-- 'gallipotlaw10.RecvPlays', WHERE WHAT IT READS IS OF BULK AT MOST 1048576: true; the input reads as it did. -/
def recvPlaysUptoRow : OpenClaim := { program := "ytidkmoohgadjkaagreat", sum := "5105450a11fc8a1d7c4e91331a9e4d78897df317d1f419403ccadebf36d0e496", func := "gallipot/gallipotlaw10.RecvPlays", spec := "recvPlays", inPlace := ["math.archTrunc", "math.Float64bits", "math.Float64frombits", "slices.overlaps[gallipot/api.Item]"], unfollowed := true, recurses := true, loops := true, plainKeys := false, apart := false, narrowed := true }
def RecvPlaysUptoSaid : Prop := recvPlaysUptoRow.holds Tryz.pinned (OpenSpec.upto recvPlaysSpec)

/-- 'gallipotlaw09.LocalStarts', WHERE WHAT IT READS IS OF BULK AT MOST 1048576: true; the input reads as it did. -/
def localStartsUptoRow : OpenClaim := { program := "ytidkmoohgadjkaagreat", sum := "5105450a11fc8a1d7c4e91331a9e4d78897df317d1f419403ccadebf36d0e496", func := "gallipot/gallipotlaw09.LocalStarts", spec := "localStarts", inPlace := ["math.archTrunc", "math.Float64bits", "math.Float64frombits", "slices.overlaps[gallipot/api.Item]"], unfollowed := true, recurses := true, loops := true, plainKeys := false, apart := false, narrowed := true }
def LocalStartsUptoSaid : Prop := localStartsUptoRow.holds Tryz.pinned (OpenSpec.upto localStartsSpec)

/-- 'gallipotlaw13.TakeTells', WHERE WHAT IT READS IS OF BULK AT MOST 1048576: true; the input reads as it did. -/
def takeTellsUptoRow : OpenClaim := { program := "ytidkmoohgadjkaagreat", sum := "5105450a11fc8a1d7c4e91331a9e4d78897df317d1f419403ccadebf36d0e496", func := "gallipot/gallipotlaw13.TakeTells", spec := "takeTells", inPlace := ["math.archTrunc", "math.Float64bits", "math.Float64frombits", "slices.overlaps[gallipot/api.Item]", "slices.overlaps[int]"], unfollowed := true, recurses := true, loops := true, plainKeys := false, apart := false, narrowed := true }
def TakeTellsUptoSaid : Prop := takeTellsUptoRow.holds Tryz.pinned (OpenSpec.upto takeTellsSpec)

/-- 'gallipotlaw13.TakePlays', WHERE WHAT IT READS IS OF BULK AT MOST 1048576: true; the input reads as it did. -/
def takePlaysUptoRow : OpenClaim := { program := "ytidkmoohgadjkaagreat", sum := "5105450a11fc8a1d7c4e91331a9e4d78897df317d1f419403ccadebf36d0e496", func := "gallipot/gallipotlaw13.TakePlays", spec := "takePlays", inPlace := ["math.archTrunc", "math.Float64bits", "math.Float64frombits", "slices.overlaps[gallipot/api.Item]", "slices.overlaps[int]"], unfollowed := true, recurses := true, loops := true, plainKeys := false, apart := false, narrowed := true }
def TakePlaysUptoSaid : Prop := takePlaysUptoRow.holds Tryz.pinned (OpenSpec.upto takePlaysSpec)

/-- 'gallipotlaw09.LocalDoes', WHERE WHAT IT READS IS OF BULK AT MOST 1048576: true; the input reads as it did. -/
def localDoesUptoRow : OpenClaim := { program := "ytidkmoohgadjkaagreat", sum := "5105450a11fc8a1d7c4e91331a9e4d78897df317d1f419403ccadebf36d0e496", func := "gallipot/gallipotlaw09.LocalDoes", spec := "localDoes", inPlace := ["math.archTrunc", "math.Float64bits", "math.Float64frombits", "slices.overlaps[gallipot/api.Item]"], unfollowed := true, recurses := true, loops := true, plainKeys := false, apart := false, narrowed := true }
def LocalDoesUptoSaid : Prop := localDoesUptoRow.holds Tryz.pinned (OpenSpec.upto localDoesSpec)

/-- 'gallipotlaw09.LocalPlays', WHERE WHAT IT READS IS OF BULK AT MOST 1048576: true; the input reads as it did. -/
def localPlaysUptoRow : OpenClaim := { program := "ytidkmoohgadjkaagreat", sum := "5105450a11fc8a1d7c4e91331a9e4d78897df317d1f419403ccadebf36d0e496", func := "gallipot/gallipotlaw09.LocalPlays", spec := "localPlays", inPlace := ["math.archTrunc", "math.Float64bits", "math.Float64frombits", "slices.overlaps[gallipot/api.Item]"], unfollowed := true, recurses := true, loops := true, plainKeys := false, apart := false, narrowed := true }
def LocalPlaysUptoSaid : Prop := localPlaysUptoRow.holds Tryz.pinned (OpenSpec.upto localPlaysSpec)

/-- 'gallipotlaw09.LocalKeeps', WHERE WHAT IT READS IS OF BULK AT MOST 1048576: true; the input reads as it did. -/
def localKeepsUptoRow : OpenClaim := { program := "ytidkmoohgadjkaagreat", sum := "5105450a11fc8a1d7c4e91331a9e4d78897df317d1f419403ccadebf36d0e496", func := "gallipot/gallipotlaw09.LocalKeeps", spec := "localKeeps", inPlace := ["math.archTrunc", "math.Float64bits", "math.Float64frombits", "slices.overlaps[gallipot/api.Item]"], unfollowed := true, recurses := true, loops := true, plainKeys := false, apart := false, narrowed := true }
def LocalKeepsUptoSaid : Prop := localKeepsUptoRow.holds Tryz.pinned (OpenSpec.upto localKeepsSpec)

end Rows
end Go.Proofs.YtidkmoohgadjkaaGreat
