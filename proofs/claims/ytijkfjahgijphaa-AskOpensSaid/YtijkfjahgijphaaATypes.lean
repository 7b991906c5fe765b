/- The cluster's values by their Go types; rows of filters. -/
import Derived.Test.YtijkfjahgijphaaASpec
import Derived.Test.YtijkfjahgijphaaAPred
import Derived.Test.YtijkfjahgijphaaAVec
set_option linter.unusedVariables false
set_option linter.unusedSimpArgs false
namespace Go.Proofs.Ytijkfjahgijphaa
open Go E
abbrev V8.row (v : V8) : List PC := [ip v.x0, ip v.x1, ip v.x2, ip v.x3, ip v.x4, ip v.x5, ip v.x6, ip v.x7]
structure Ver where
  r : Int
  c : Int
abbrev Ver.row (v : Ver) : List PC := [ip v.r, ip v.c]
structure Frag where
  ids : List ByteArray
  vec : V8
abbrev Frag.row (x : Frag) : List PC := [.sl (x.ids.map srw), ip x.vec.x0, ip x.vec.x1, ip x.vec.x2, ip x.vec.x3, ip x.vec.x4, ip x.vec.x5, ip x.vec.x6, ip x.vec.x7]
structure Know where
  star : V8
  l : List Frag
abbrev Know.row (x : Know) : List PC := [ip x.star.x0, ip x.star.x1, ip x.star.x2, ip x.star.x3, ip x.star.x4, ip x.star.x5, ip x.star.x6, ip x.star.x7, .sl (x.l.map Frag.row)]
structure Has where
  id : ByteArray
  vr : Int
  vc : Int
  stamp : Int
abbrev Has.row (x : Has) : List PC := [.v (.string x.id), ip x.vr, ip x.vc, ip x.stamp]
structure Entry where
  item : Item
  goes : Bool
  nr : Int
  nc : Int
abbrev Entry.row (x : Entry) : List PC := [.v (.string x.item.id), ip x.item.vr, ip x.item.vc, ip x.item.stamp, .v (.string x.item.kind), ip x.item.num, .v (.complex .f64 x.item.re x.item.im), .v (.bool x.item.dead), .v (.bool x.goes), ip x.nr, ip x.nc]
structure State where
  r : Int
  f : Pred
  store : List Item
  out : List Item
  k : Know
  count : Int
  clock : Int
  epoch : Int
structure Msg where
  kind : Int
  src : Int
  dst : Int
  sid : Int
  turn : Int
  f : Pred
  k : Know
  have_ : List Has
  n : Int
  l : List Entry
  star : Bool
structure Sess where
  sid : Int
  with_ : Int
  epoch : Int
  turn : Int
  got : List Int
  bad : Bool
  told : Bool
  over : Bool
  n : Int
  k : Know
  l : List Entry
structure Sit where
  r : Int
  f : Pred
  store : List Item
  out : List Item
  k : Know
  count : Int
  clock : Int
  epoch : Int
structure Line where
  item : Item
  goes : Bool
  r : Int
  c : Int
abbrev Line.row (x : Line) : List PC := [.v (.string x.item.id), ip x.item.vr, ip x.item.vc, ip x.item.stamp, .v (.string x.item.kind), ip x.item.num, .v (.float .f64 x.item.re), .v (.float .f64 x.item.im), .v (.bool x.item.dead), .v (.bool x.goes), ip x.r, ip x.c]
structure Note where
  kind : Int
  src : Int
  dst : Int
  sid : Int
  turn : Int
  f : Pred
  k : Know
  have_ : List Has
  n : Int
  l : List Line
  star : Bool
namespace Pred
theorem pmap_len (l : List Pred) : lenL (rows l) = (l.length : Int) := len_rows l
theorem pat_in {l : List Pred} {j : Int} {x : Pred} (h : atL l j = some x) : lenB (rows l) j = true := by rw [rows_eq]; exact at_in h
theorem pat_row {l : List Pred} {j : Int} {x : Pred} (h : atL l j = some x) : E.rowAt (rows l) j = [ip x.op, .v (.string x.text), ip x.n, .v (.complex .f64 x.re x.im), .sl (rows x.kids)] := by rw [rows_eq, at_row h, row_eq]
theorem one_rows (x : Pred) : rows [x] = [[ip x.op, .v (.string x.text), ip x.n, .v (.complex .f64 x.re x.im), .sl (rows x.kids)]] := by rw [rows_eq, List.map_cons, row_eq]; rfl
theorem pcat_one (l : List Pred) (x : Pred) : catL (rows l) [[ip x.op, .v (.string x.text), ip x.n, .v (.complex .f64 x.re x.im), .sl (rows x.kids)]] = rows (l ++ [x]) := by rw [← one_rows, rows_eq, rows_eq, rows_eq]; exact cat_map l [x]
theorem proom_map {l : List Pred} {news : List (List PC)} {m b sz k : Nat} (c : roomL l.length m = true) (hn : news.length = m) (hb : Nat.ble b 100000000 = true) (h2 : rowsOk news sz = true) (h3 : (Nat.beq k sz || Nat.beq k 0) = true) : (roomFor (rows l) news b && rowsOk news sz && (Nat.beq k sz || Nat.beq k 0)) = true := by rw [rows_eq]; exact room_map c hn hb h2 h3
end Pred
end Go.Proofs.Ytijkfjahgijphaa
