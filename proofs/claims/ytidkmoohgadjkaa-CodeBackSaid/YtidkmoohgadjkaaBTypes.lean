/- The cluster's values by their Go types; rows of filters. -/
import Derived.Test.YtidkmoohgadjkaaBSpec
import Derived.Test.YtidkmoohgadjkaaBPred
import Derived.Test.YtidkmoohgadjkaaBVec
set_option linter.unusedVariables false
set_option linter.unusedSimpArgs false
namespace Go.Proofs.Ytidkmoohgadjkaa
open Go E
abbrev V8.row (v : V8) : List PC := [ip v.x0, ip v.x1, ip v.x2, ip v.x3, ip v.x4, ip v.x5, ip v.x6, ip v.x7]
structure Ver where
  r : Int
  c : Int
abbrev Ver.row (v : Ver) : List PC := [ip v.r, ip v.c]
structure Frag where
  ids : List ByteArray
  vec : V8
abbrev Frag.row (x : Frag) : List PC := [.sl (x.ids.map srw), ip x.vec.x0, ip x.vec.x1, ip x.vec.x2, ip x.vec.x3, ip x.vec.x4, ip x.vec.x5, ip x.vec.x6, ip x.vec.x7]
structure Know where
  star : V8
  l : List Frag
abbrev Know.row (x : Know) : List PC := [ip x.star.x0, ip x.star.x1, ip x.star.x2, ip x.star.x3, ip x.star.x4, ip x.star.x5, ip x.star.x6, ip x.star.x7, .sl (x.l.map Frag.row)]
structure Has where
  id : ByteArray
  vr : Int
  vc : Int
  stamp : Int
abbrev Has.row (x : Has) : List PC := [.v (.string x.id), ip x.vr, ip x.vc, ip x.stamp]
structure Entry where
  item : Item
  goes : Bool
  nr : Int
  nc : Int
abbrev Entry.row (x : Entry) : List PC := [.v (.string x.item.id), ip x.item.vr, ip x.item.vc, ip x.item.stamp, .v (.string x.item.kind), ip x.item.num, .v (.complex .f64 x.item.re x.item.im), .v (.bool x.item.dead), .v (.bool x.goes), ip x.nr, ip x.nc]
structure State where
  r : Int
  f : Pred
  store : List Item
  out : List Item
  k : Know
  count : Int
  clock : Int
  epoch : Int
structure Msg where
  kind : Int
  src : Int
  dst : Int
  sid : Int
  turn : Int
  f : Pred
  k : Know
  have_ : List Has
  n : Int
  l : List Entry
  star : Bool
structure Sess where
  sid : Int
  with_ : Int
  epoch : Int
  turn : Int
  got : List Int
  bad : Bool
  told : Bool
  over : Bool
  n : Int
  k : Know
  l : List Entry
structure Sit where
  r : Int
  f : Pred
  store : List Item
  out : List Item
  k : Know
  count : Int
  clock : Int
  epoch : Int
structure Line where
  item : Item
  goes : Bool
  r : Int
  c : Int
abbrev Line.row (x : Line) : List PC := [.v (.string x.item.id), ip x.item.vr, ip x.item.vc, ip x.item.stamp, .v (.string x.item.kind), ip x.item.num, .v (.float .f64 x.item.re), .v (.float .f64 x.item.im), .v (.bool x.item.dead), .v (.bool x.goes), ip x.r, ip x.c]
structure Note where
  kind : Int
  src : Int
  dst : Int
  sid : Int
  turn : Int
  f : Pred
  k : Know
  have_ : List Has
  n : Int
  l : List Line
  star : Bool
structure Deed9 where
  what : Int
  id : ByteArray
  kind : ByteArray
  num : Int
  re : Nat
  im : Nat
  f : Pred
abbrev Deed9.row (x : Deed9) : List PC := [ip x.what, .v (.string x.id), .v (.string x.kind), ip x.num, .v (.float .f64 x.re), .v (.float .f64 x.im), ip x.f.op, .v (.string x.f.text), ip x.f.n, .v (.float .f64 x.f.re), .v (.float .f64 x.f.im), .sl (Pred.lrows x.f.kids)]
structure Deed10 where
  what : Int
  n : Int
  x : Item
  old : Ver
  new : Ver
  d : Deed9
abbrev Deed10.row (y : Deed10) : List PC := [ip y.what, ip y.n, .v (.string y.x.id), ip y.x.vr, ip y.x.vc, ip y.x.stamp, .v (.string y.x.kind), ip y.x.num, .v (.float .f64 y.x.re), .v (.float .f64 y.x.im), .v (.bool y.x.dead), ip y.old.r, ip y.old.c, ip y.new.r, ip y.new.c,
  ip y.d.what, .v (.string y.d.id), .v (.string y.d.kind), ip y.d.num, .v (.float .f64 y.d.re), .v (.float .f64 y.d.im), ip y.d.f.op, .v (.string y.d.f.text), ip y.d.f.n, .v (.float .f64 y.d.f.re), .v (.float .f64 y.d.f.im), .sl (Pred.lrows y.d.f.kids)]
structure Talk where
  sid : Int
  with_ : Int
  epoch : Int
  turn : Int
  got : List Int
  bad : Bool
  told : Bool
  over : Bool
  n : Int
  k : Know
  l : List Line
namespace Msg
abbrev row (x : Msg) : List PC := [ip x.kind, ip x.src, ip x.dst, ip x.sid, ip x.turn, ip x.f.op, .v (.string x.f.text), ip x.f.n, .v (.complex .f64 x.f.re x.f.im), .sl (Pred.rows x.f.kids),
  ip x.k.star.x0, ip x.k.star.x1, ip x.k.star.x2, ip x.k.star.x3, ip x.k.star.x4, ip x.k.star.x5, ip x.k.star.x6, ip x.k.star.x7, .sl (x.k.l.map Frag.row), .sl (x.have_.map Has.row), ip x.n, .sl (x.l.map Entry.row), .v (.bool x.star)]
end Msg
namespace Pred
end Pred
end Go.Proofs.Ytidkmoohgadjkaa
