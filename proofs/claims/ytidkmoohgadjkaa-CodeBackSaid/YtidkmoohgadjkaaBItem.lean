/- Items (layer 2): what each function computes, the program's and the document's. -/
import Derived.Test.YtidkmoohgadjkaaBPlace
set_option linter.unusedVariables false
set_option linter.unusedSimpArgs false
set_option maxRecDepth 100000
set_option maxHeartbeats 4000000
namespace Go.Proofs.Ytidkmoohgadjkaa
open Go E
structure Item where
  id : ByteArray
  vr : Int
  vc : Int
  stamp : Int
  kind : ByteArray
  num : Int
  re : Nat
  im : Nat
  dead : Bool
abbrev Item.row (x : Item) : List PC := [.v (.string x.id), ip x.vr, ip x.vc, ip x.stamp, .v (.string x.kind), ip x.num, .v (.complex .f64 x.re x.im), .v (.bool x.dead)]
abbrev Item.cs (x : Item) : List C := [.p (.v (.string x.id)), ic x.vr, ic x.vc, ic x.stamp, .p (.v (.string x.kind)), ic x.num, .p (.v (.complex .f64 x.re x.im)), .p (.v (.bool x.dead))]
abbrev Item.a (x : Item) : A := .agg x.cs
abbrev Item.lrow (x : Item) : List PC := [.v (.string x.id), ip x.vr, ip x.vc, ip x.stamp, .v (.string x.kind), ip x.num, .v (.float .f64 x.re), .v (.float .f64 x.im), .v (.bool x.dead)]
abbrev Item.la (x : Item) : A := .agg [.p (.v (.string x.id)), ic x.vr, ic x.vc, ic x.stamp, .p (.v (.string x.kind)), ic x.num, .p (.v (.float .f64 x.re)), .p (.v (.float .f64 x.im)), .p (.v (.bool x.dead))]
abbrev verA (r c : Int) : A := .agg [ic r, ic c]
structure Item.Ok (x : Item) : Prop where
  id : x.id.size ≤ 9223372036854775807
  kind : x.kind.size ≤ 9223372036854775807
  vr : -9223372036854775808 ≤ x.vr ∧ x.vr ≤ 9223372036854775807
  vc : -9223372036854775808 ≤ x.vc ∧ x.vc ≤ 9223372036854775807
  stamp : -9223372036854775808 ≤ x.stamp ∧ x.stamp ≤ 9223372036854775807
  num : -9223372036854775808 ≤ x.num ∧ x.num ≤ 9223372036854775807
end Go.Proofs.Ytidkmoohgadjkaa
