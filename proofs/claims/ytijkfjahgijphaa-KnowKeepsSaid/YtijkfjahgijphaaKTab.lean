/- The table of the seat's types, and that it fits the program. Written by gentabp.py. -/
import Derived.Test.YtijkfjahgijphaaKEvF
import Derived.Test.YtijkfjahgijphaaChecked
import Derived.KernelRfl
set_option linter.unusedVariables false
set_option maxRecDepth 100000
namespace Go.Proofs.Ytijkfjahgijphaa
open Go E
def T : List TI := [
  TI.none,
  TI.none,
  ⟨(.int .i64), 1, 8, [(.int .i64 0)], false⟩,
  ⟨(.int .i64), 1, 8, [(.int .i64 0)], false⟩,
  ⟨.bool, 1, 1, [(.bool false)], false⟩,
  ⟨(.int .u8), 1, 1, [(.int .u8 0)], false⟩,
  ⟨(.int .u8), 1, 1, [(.int .u8 0)], false⟩,
  ⟨(.struct [(0, 2), (1, 3), (2, 4), (3, 6)]), 4, 24, [(.int .i64 0), (.int .i64 0), (.bool false), (.int .u8 0)], false⟩,
  ⟨(.struct [(0, 2), (1, 3), (2, 4), (3, 6)]), 4, 24, [(.int .i64 0), (.int .i64 0), (.bool false), (.int .u8 0)], false⟩,
  ⟨.str, 1, 16, [(.string ⟨#[]⟩)], false⟩,
  ⟨.str, 1, 16, [(.string ⟨#[]⟩)], false⟩,
  ⟨.str, 1, 16, [(.string ⟨#[]⟩)], false⟩,
  ⟨(.int .u64), 1, 8, [(.int .u64 0)], false⟩,
  ⟨(.struct [(0, 9), (1, 12)]), 2, 24, [(.string ⟨#[]⟩), (.int .u64 0)], false⟩,
  ⟨(.struct [(0, 9), (1, 12)]), 2, 24, [(.string ⟨#[]⟩), (.int .u64 0)], false⟩,
  ⟨(.ptr 212), 1, 8, [(.pointer none)], false⟩,
  ⟨(.ptr 215), 1, 8, [(.pointer none)], false⟩,
  ⟨(.ptr 224), 1, 8, [(.pointer none)], false⟩,
  ⟨(.struct [(0, 17)]), 1, 8, [(.pointer none)], false⟩,
  ⟨(.struct [(0, 17)]), 1, 8, [(.pointer none)], false⟩,
  ⟨.iface, 1, 16, [.nilIface], false⟩,
  ⟨(.int .i32), 1, 4, [(.int .i32 0)], false⟩,
  ⟨(.flt .f64), 1, 8, [(.float .f64 0)], false⟩,
  ⟨(.slice 25), 1, 24, [(.slice none 0 0)], false⟩,
  ⟨(.struct [(0, 3), (1, 9), (2, 3), (3, 22), (4, 22), (5, 23)]), 6, 72, [(.int .i64 0), (.string ⟨#[]⟩), (.int .i64 0), (.float .f64 0), (.float .f64 0), (.slice none 0 0)], false⟩,
  ⟨(.struct [(0, 3), (1, 9), (2, 3), (3, 22), (4, 22), (5, 23)]), 6, 72, [(.int .i64 0), (.string ⟨#[]⟩), (.int .i64 0), (.float .f64 0), (.float .f64 0), (.slice none 0 0)], false⟩,
  ⟨(.slice 82), 1, 24, [(.slice none 0 0)], false⟩,
  ⟨(.arr 8 3), 8, 64, [(.int .i64 0), (.int .i64 0), (.int .i64 0), (.int .i64 0), (.int .i64 0), (.int .i64 0), (.int .i64 0), (.int .i64 0)], false⟩,
  ⟨(.arr 8 3), 8, 64, [(.int .i64 0), (.int .i64 0), (.int .i64 0), (.int .i64 0), (.int .i64 0), (.int .i64 0), (.int .i64 0), (.int .i64 0)], true⟩,
  ⟨(.slice 141), 1, 24, [(.slice none 0 0)], false⟩,
  ⟨(.struct [(0, 28), (8, 29)]), 9, 88, [(.int .i64 0), (.int .i64 0), (.int .i64 0), (.int .i64 0), (.int .i64 0), (.int .i64 0), (.int .i64 0), (.int .i64 0), (.slice none 0 0)], false⟩,
  ⟨(.struct [(0, 28), (8, 29)]), 9, 88, [(.int .i64 0), (.int .i64 0), (.int .i64 0), (.int .i64 0), (.int .i64 0), (.int .i64 0), (.int .i64 0), (.int .i64 0), (.slice none 0 0)], false⟩,
  ⟨(.struct [(0, 3), (1, 25), (7, 26), (8, 26), (9, 31), (18, 3), (19, 3), (20, 3)]), 21, 240, [(.int .i64 0), (.int .i64 0), (.string ⟨#[]⟩), (.int .i64 0), (.float .f64 0), (.float .f64 0), (.slice none 0 0), (.slice none 0 0), (.slice none 0 0), (.int .i64 0), (.int .i64 0), (.int .i64 0), (.int .i64 0), (.int .i64 0), (.int .i64 0), (.int .i64 0), (.int .i64 0), (.slice none 0 0), (.int .i64 0), (.int .i64 0), (.int .i64 0)], false⟩,
  ⟨(.struct [(0, 3), (1, 25), (7, 26), (8, 26), (9, 31), (18, 3), (19, 3), (20, 3)]), 21, 240, [(.int .i64 0), (.int .i64 0), (.string ⟨#[]⟩), (.int .i64 0), (.float .f64 0), (.float .f64 0), (.slice none 0 0), (.slice none 0 0), (.slice none 0 0), (.int .i64 0), (.int .i64 0), (.int .i64 0), (.int .i64 0), (.int .i64 0), (.int .i64 0), (.int .i64 0), (.int .i64 0), (.slice none 0 0), (.int .i64 0), (.int .i64 0), (.int .i64 0)], false⟩,
  TI.none,
  TI.none,
  ⟨(.cplx .f64), 1, 16, [(.complex .f64 0 0)], false⟩,
  ⟨(.slice 39), 1, 24, [(.slice none 0 0)], false⟩,
  ⟨(.struct [(0, 3), (1, 9), (2, 3), (3, 36), (4, 37)]), 5, 72, [(.int .i64 0), (.string ⟨#[]⟩), (.int .i64 0), (.complex .f64 0 0), (.slice none 0 0)], false⟩,
  ⟨(.struct [(0, 3), (1, 9), (2, 3), (3, 36), (4, 37)]), 5, 72, [(.int .i64 0), (.string ⟨#[]⟩), (.int .i64 0), (.complex .f64 0 0), (.slice none 0 0)], false⟩,
  ⟨(.slice 66), 1, 24, [(.slice none 0 0)], false⟩,
  ⟨(.struct [(0, 3), (1, 39), (6, 40), (7, 40), (8, 31), (17, 3), (18, 3), (19, 3)]), 20, 240, [(.int .i64 0), (.int .i64 0), (.string ⟨#[]⟩), (.int .i64 0), (.complex .f64 0 0), (.slice none 0 0), (.slice none 0 0), (.slice none 0 0), (.int .i64 0), (.int .i64 0), (.int .i64 0), (.int .i64 0), (.int .i64 0), (.int .i64 0), (.int .i64 0), (.int .i64 0), (.slice none 0 0), (.int .i64 0), (.int .i64 0), (.int .i64 0)], false⟩,
  ⟨(.struct [(0, 3), (1, 39), (6, 40), (7, 40), (8, 31), (17, 3), (18, 3), (19, 3)]), 20, 240, [(.int .i64 0), (.int .i64 0), (.string ⟨#[]⟩), (.int .i64 0), (.complex .f64 0 0), (.slice none 0 0), (.slice none 0 0), (.slice none 0 0), (.int .i64 0), (.int .i64 0), (.int .i64 0), (.int .i64 0), (.int .i64 0), (.int .i64 0), (.int .i64 0), (.int .i64 0), (.slice none 0 0), (.int .i64 0), (.int .i64 0), (.int .i64 0)], false⟩,
  TI.none,
  TI.none,
  ⟨(.slice 3), 1, 24, [(.slice none 0 0)], false⟩,
  ⟨(.slice 162), 1, 24, [(.slice none 0 0)], false⟩,
  ⟨(.struct [(0, 3), (1, 3), (2, 3), (3, 3), (4, 45), (5, 4), (6, 4), (7, 4), (8, 3), (9, 31), (18, 46)]), 19, 184, [(.int .i64 0), (.int .i64 0), (.int .i64 0), (.int .i64 0), (.slice none 0 0), (.bool false), (.bool false), (.bool false), (.int .i64 0), (.int .i64 0), (.int .i64 0), (.int .i64 0), (.int .i64 0), (.int .i64 0), (.int .i64 0), (.int .i64 0), (.int .i64 0), (.slice none 0 0), (.slice none 0 0)], false⟩,
  ⟨(.struct [(0, 3), (1, 3), (2, 3), (3, 3), (4, 45), (5, 4), (6, 4), (7, 4), (8, 3), (9, 31), (18, 46)]), 19, 184, [(.int .i64 0), (.int .i64 0), (.int .i64 0), (.int .i64 0), (.slice none 0 0), (.bool false), (.bool false), (.bool false), (.int .i64 0), (.int .i64 0), (.int .i64 0), (.int .i64 0), (.int .i64 0), (.int .i64 0), (.int .i64 0), (.int .i64 0), (.int .i64 0), (.slice none 0 0), (.slice none 0 0)], false⟩,
  ⟨(.slice 64), 1, 24, [(.slice none 0 0)], false⟩,
  ⟨(.struct [(0, 3), (1, 3), (2, 3), (3, 3), (4, 3), (5, 39), (10, 31), (19, 49), (20, 3), (21, 46), (22, 4)]), 23, 264, [(.int .i64 0), (.int .i64 0), (.int .i64 0), (.int .i64 0), (.int .i64 0), (.int .i64 0), (.string ⟨#[]⟩), (.int .i64 0), (.complex .f64 0 0), (.slice none 0 0), (.int .i64 0), (.int .i64 0), (.int .i64 0), (.int .i64 0), (.int .i64 0), (.int .i64 0), (.int .i64 0), (.int .i64 0), (.slice none 0 0), (.slice none 0 0), (.int .i64 0), (.slice none 0 0), (.bool false)], false⟩,
  ⟨(.struct [(0, 3), (1, 3), (2, 3), (3, 3), (4, 3), (5, 39), (10, 31), (19, 49), (20, 3), (21, 46), (22, 4)]), 23, 264, [(.int .i64 0), (.int .i64 0), (.int .i64 0), (.int .i64 0), (.int .i64 0), (.int .i64 0), (.string ⟨#[]⟩), (.int .i64 0), (.complex .f64 0 0), (.slice none 0 0), (.int .i64 0), (.int .i64 0), (.int .i64 0), (.int .i64 0), (.int .i64 0), (.int .i64 0), (.int .i64 0), (.int .i64 0), (.slice none 0 0), (.slice none 0 0), (.int .i64 0), (.slice none 0 0), (.bool false)], false⟩,
  TI.none,
  TI.none,
  ⟨(.struct [(0, 3), (1, 3), (2, 3), (3, 3), (4, 45), (5, 4), (6, 4), (7, 4), (8, 3), (9, 31), (18, 46)]), 19, 184, [(.int .i64 0), (.int .i64 0), (.int .i64 0), (.int .i64 0), (.slice none 0 0), (.bool false), (.bool false), (.bool false), (.int .i64 0), (.int .i64 0), (.int .i64 0), (.int .i64 0), (.int .i64 0), (.int .i64 0), (.int .i64 0), (.int .i64 0), (.int .i64 0), (.slice none 0 0), (.slice none 0 0)], false⟩,
  TI.none,
  TI.none,
  TI.none,
  TI.none,
  TI.none,
  TI.none,
  ⟨(.struct [(0, 3), (1, 3)]), 2, 16, [(.int .i64 0), (.int .i64 0)], false⟩,
  ⟨(.struct [(0, 3), (1, 3)]), 2, 16, [(.int .i64 0), (.int .i64 0)], true⟩,
  ⟨(.struct [(0, 9), (1, 62), (3, 3)]), 4, 40, [(.string ⟨#[]⟩), (.int .i64 0), (.int .i64 0), (.int .i64 0)], false⟩,
  ⟨(.struct [(0, 9), (1, 62), (3, 3)]), 4, 40, [(.string ⟨#[]⟩), (.int .i64 0), (.int .i64 0), (.int .i64 0)], false⟩,
  ⟨(.struct [(0, 9), (1, 62), (3, 3), (4, 9), (5, 3), (6, 36), (7, 4)]), 8, 88, [(.string ⟨#[]⟩), (.int .i64 0), (.int .i64 0), (.int .i64 0), (.string ⟨#[]⟩), (.int .i64 0), (.complex .f64 0 0), (.bool false)], false⟩,
  ⟨(.struct [(0, 9), (1, 62), (3, 3), (4, 9), (5, 3), (6, 36), (7, 4)]), 8, 88, [(.string ⟨#[]⟩), (.int .i64 0), (.int .i64 0), (.int .i64 0), (.string ⟨#[]⟩), (.int .i64 0), (.complex .f64 0 0), (.bool false)], true⟩,
  TI.none,
  ⟨(.slice 5), 1, 24, [(.slice none 0 0)], false⟩,
  TI.none,
  TI.none,
  TI.none,
  TI.none,
  TI.none,
  TI.none,
  ⟨.iface, 1, 16, [.nilIface], false⟩,
  ⟨.iface, 1, 16, [.nilIface], false⟩,
  TI.none,
  TI.none,
  TI.none,
  TI.none,
  ⟨(.struct [(0, 9), (1, 3), (2, 3), (3, 3), (4, 9), (5, 3), (6, 22), (7, 22), (8, 4)]), 9, 88, [(.string ⟨#[]⟩), (.int .i64 0), (.int .i64 0), (.int .i64 0), (.string ⟨#[]⟩), (.int .i64 0), (.float .f64 0), (.float .f64 0), (.bool false)], false⟩,
  ⟨(.struct [(0, 9), (1, 3), (2, 3), (3, 3), (4, 9), (5, 3), (6, 22), (7, 22), (8, 4)]), 9, 88, [(.string ⟨#[]⟩), (.int .i64 0), (.int .i64 0), (.int .i64 0), (.string ⟨#[]⟩), (.int .i64 0), (.float .f64 0), (.float .f64 0), (.bool false)], false⟩,
  TI.none,
  TI.none,
  TI.none,
  TI.none,
  TI.none,
  TI.none,
  TI.none,
  TI.none,
  TI.none,
  TI.none,
  TI.none,
  TI.none,
  TI.none,
  TI.none,
  TI.none,
  TI.none,
  TI.none,
  TI.none,
  TI.none,
  TI.none,
  TI.none,
  TI.none,
  TI.none,
  TI.none,
  TI.none,
  TI.none,
  TI.none,
  TI.none,
  TI.none,
  TI.none,
  TI.none,
  TI.none,
  TI.none,
  ⟨(.int .u32), 1, 4, [(.int .u32 0)], false⟩,
  TI.none,
  ⟨(.int .u64), 1, 8, [(.int .u64 0)], false⟩,
  ⟨(.int .i64), 1, 8, [(.int .i64 0)], false⟩,
  ⟨(.int .u64), 1, 8, [(.int .u64 0)], false⟩,
  TI.none,
  TI.none,
  TI.none,
  TI.none,
  TI.none,
  TI.none,
  TI.none,
  ⟨(.ptr 3), 1, 8, [(.pointer none)], false⟩,
  TI.none,
  TI.none,
  TI.none,
  TI.none,
  TI.none,
  TI.none,
  TI.none,
  TI.none,
  TI.none,
  TI.none,
  ⟨(.slice 9), 1, 24, [(.slice none 0 0)], false⟩,
  ⟨(.struct [(0, 139), (1, 28)]), 9, 88, [(.slice none 0 0), (.int .i64 0), (.int .i64 0), (.int .i64 0), (.int .i64 0), (.int .i64 0), (.int .i64 0), (.int .i64 0), (.int .i64 0)], false⟩,
  ⟨(.struct [(0, 139), (1, 28)]), 9, 88, [(.slice none 0 0), (.int .i64 0), (.int .i64 0), (.int .i64 0), (.int .i64 0), (.int .i64 0), (.int .i64 0), (.int .i64 0), (.int .i64 0)], false⟩,
  TI.none,
  TI.none,
  ⟨(.map 9 28), 1, 8, [(.map none)], false⟩,
  ⟨(.map 28 3), 1, 8, [(.map none)], false⟩,
  TI.none,
  TI.none,
  TI.none,
  TI.none,
  TI.none,
  TI.none,
  TI.none,
  TI.none,
  TI.none,
  TI.none,
  TI.none,
  TI.none,
  TI.none,
  TI.none,
  TI.none,
  ⟨(.struct [(0, 66), (8, 4), (9, 62)]), 11, 112, [(.string ⟨#[]⟩), (.int .i64 0), (.int .i64 0), (.int .i64 0), (.string ⟨#[]⟩), (.int .i64 0), (.complex .f64 0 0), (.bool false), (.bool false), (.int .i64 0), (.int .i64 0)], false⟩,
  ⟨(.struct [(0, 66), (8, 4), (9, 62)]), 11, 112, [(.string ⟨#[]⟩), (.int .i64 0), (.int .i64 0), (.int .i64 0), (.string ⟨#[]⟩), (.int .i64 0), (.complex .f64 0 0), (.bool false), (.bool false), (.int .i64 0), (.int .i64 0)], false⟩,
  TI.none,
  TI.none,
  TI.none,
  TI.none,
  TI.none,
  TI.none,
  TI.none,
  TI.none,
  TI.none,
  TI.none,
  TI.none,
  TI.none,
  ⟨(.slice 29), 1, 24, [(.slice none 0 0)], false⟩,
  TI.none,
  TI.none,
  TI.none,
  TI.none,
  TI.none,
  TI.none,
  TI.none,
  TI.none,
  TI.none,
  TI.none,
  TI.none,
  TI.none,
  TI.none,
  TI.none,
  TI.none,
  TI.none,
  ⟨(.int .i64), 1, 8, [(.int .i64 0)], false⟩,
  TI.none,
  TI.none,
  TI.none,
  TI.none,
  TI.none,
  TI.none,
  TI.none,
  ⟨(.int .u64), 1, 8, [(.int .u64 0)], false⟩,
  TI.none,
  TI.none,
  TI.none,
  TI.none,
  TI.none,
  TI.none,
  TI.none,
  ⟨(.ptr 200), 1, 8, [(.pointer none)], false⟩,
  TI.none,
  TI.none,
  ⟨(.struct [(0, 17), (1, 17), (2, 17), (3, 9)]), 4, 40, [(.pointer none), (.pointer none), (.pointer none), (.string ⟨#[]⟩)], false⟩,
  ⟨(.struct [(0, 17), (1, 17), (2, 17), (3, 9)]), 4, 40, [(.pointer none), (.pointer none), (.pointer none), (.string ⟨#[]⟩)], false⟩,
  ⟨(.arr 0 16), 0, 0, [], false⟩,
  ⟨(.struct [(0, 213)]), 0, 0, [], false⟩,
  ⟨(.struct [(0, 213)]), 0, 0, [], false⟩,
  TI.none,
  ⟨(.int .u8), 1, 1, [(.int .u8 0)], false⟩,
  ⟨(.int .u8), 1, 1, [(.int .u8 0)], false⟩,
  TI.none,
  ⟨(.ptr 5), 1, 8, [(.pointer none)], false⟩,
  ⟨(.int .i32), 1, 4, [(.int .i32 0)], false⟩,
  ⟨(.int .i32), 1, 4, [(.int .i32 0)], false⟩,
  ⟨(.struct [(0, 12), (1, 12), (2, 116), (3, 217), (4, 5), (5, 5), (6, 218), (7, 219), (8, 220), (9, 221), (10, 222)]), 11, 48, [(.int .u64 0), (.int .u64 0), (.int .u32 0), (.int .u8 0), (.int .u8 0), (.int .u8 0), (.int .u8 0), .nilFunc, (.pointer none), (.int .i32 0), (.int .i32 0)], false⟩,
  ⟨(.struct [(0, 12), (1, 12), (2, 116), (3, 217), (4, 5), (5, 5), (6, 218), (7, 219), (8, 220), (9, 221), (10, 222)]), 11, 48, [(.int .u64 0), (.int .u64 0), (.int .u32 0), (.int .u8 0), (.int .u8 0), (.int .u8 0), (.int .u8 0), .nilFunc, (.pointer none), (.int .i32 0), (.int .i32 0)], false⟩,
  TI.none]
theorem eqd3 : EqD Try.prog 3 false [(.int .i64 0)] 1 := .int Try.underlying3
theorem eqd28 : EqD Try.prog 28 true [(.int .i64 0), (.int .i64 0), (.int .i64 0), (.int .i64 0), (.int .i64 0), (.int .i64 0), (.int .i64 0), (.int .i64 0)] 2 := .array Try.underlying28 (i := Try.t28) (by kernel_rfl) rfl (ie := Try.t3) (by kernel_rfl) rfl rfl eqd3
theorem eqd62 : EqD Try.prog 62 true [(.int .i64 0), (.int .i64 0)] 2 := .struct Try.underlying62 (by kernel_rfl) (i := Try.t62) (by kernel_rfl) rfl (.cons' (by decide) rfl (eqd3) (.cons' (by decide) rfl (eqd3) (.nil) rfl) rfl)
theorem eqd9 : EqD Try.prog 9 false [(.string ⟨#[]⟩)] 1 := .str Try.underlying9
theorem eqd36 : EqD Try.prog 36 false [(.complex .f64 0 0)] 1 := .cplx Try.underlying36
theorem eqd4 : EqD Try.prog 4 false [(.bool false)] 1 := .bool Try.underlying4
theorem eqd66 : EqD Try.prog 66 true [(.string ⟨#[]⟩), (.int .i64 0), (.int .i64 0), (.int .i64 0), (.string ⟨#[]⟩), (.int .i64 0), (.complex .f64 0 0), (.bool false)] 3 := .struct Try.underlying66 (by kernel_rfl) (i := Try.t66) (by kernel_rfl) rfl (.cons' (by decide) rfl (eqd9.mono (by decide)) (.cons' (by decide) rfl (eqd62) (.cons' (by decide) rfl (eqd3.mono (by decide)) (.cons' (by decide) rfl (eqd9.mono (by decide)) (.cons' (by decide) rfl (eqd3.mono (by decide)) (.cons' (by decide) rfl (eqd36.mono (by decide)) (.cons' (by decide) rfl (eqd4.mono (by decide)) (.nil) rfl) rfl) rfl) rfl) rfl) rfl) rfl)
theorem tab2 : TIOk Try.prog 2 ⟨(.int .i64), 1, 8, [(.int .i64 0)], false⟩ := row (i := Try.t2) (zv := (.int .i64 0)) Try.underlying2 rfl (by kernel_rfl) rfl rfl rfl rfl (.inr rfl) (.inl rfl) (.inl rfl) rfl rfl rfl
theorem tab3 : TIOk Try.prog 3 ⟨(.int .i64), 1, 8, [(.int .i64 0)], false⟩ := row (i := Try.t3) (zv := (.int .i64 0)) Try.underlying3 rfl (by kernel_rfl) rfl rfl rfl rfl (.inr rfl) (.inl rfl) (.inl rfl) rfl rfl rfl
theorem tab4 : TIOk Try.prog 4 ⟨.bool, 1, 1, [(.bool false)], false⟩ := row (i := Try.t4) (zv := (.bool false)) Try.underlying4 rfl (by kernel_rfl) rfl rfl rfl rfl (.inr rfl) (.inl rfl) (.inr nofun) rfl rfl rfl
theorem tab5 : TIOk Try.prog 5 ⟨(.int .u8), 1, 1, [(.int .u8 0)], false⟩ := row (i := Try.t5) (zv := (.int .u8 0)) Try.underlying5 rfl (by kernel_rfl) rfl rfl rfl rfl (.inr rfl) (.inl rfl) (.inl rfl) rfl rfl rfl
theorem tab6 : TIOk Try.prog 6 ⟨(.int .u8), 1, 1, [(.int .u8 0)], false⟩ := row (i := Try.t6) (zv := (.int .u8 0)) Try.underlying6 rfl (by kernel_rfl) rfl rfl rfl rfl (.inr rfl) (.inl rfl) (.inl rfl) rfl rfl rfl
theorem tab7 : TIOk Try.prog 7 ⟨(.struct [(0, 2), (1, 3), (2, 4), (3, 6)]), 4, 24, [(.int .i64 0), (.int .i64 0), (.bool false), (.int .u8 0)], false⟩ := row (i := Try.t7) (zv := (.agg #[(.int .i64 0), (.int .i64 0), (.bool false), (.int .u8 0)])) ⟨_, Try.underlying7, rfl⟩ rfl (by kernel_rfl) rfl rfl rfl rfl (.inl rfl) (.inr ⟨_, rfl⟩) (.inr nofun) rfl rfl rfl
theorem tab8 : TIOk Try.prog 8 ⟨(.struct [(0, 2), (1, 3), (2, 4), (3, 6)]), 4, 24, [(.int .i64 0), (.int .i64 0), (.bool false), (.int .u8 0)], false⟩ := row (i := Try.t8) (zv := (.agg #[(.int .i64 0), (.int .i64 0), (.bool false), (.int .u8 0)])) ⟨_, Try.underlying8, rfl⟩ rfl (by kernel_rfl) rfl rfl rfl rfl (.inl rfl) (.inr ⟨_, rfl⟩) (.inr nofun) rfl rfl rfl
theorem tab9 : TIOk Try.prog 9 ⟨.str, 1, 16, [(.string ⟨#[]⟩)], false⟩ := row (i := Try.t9) (zv := (.string ⟨#[]⟩)) Try.underlying9 rfl (by kernel_rfl) rfl rfl rfl rfl (.inr rfl) (.inl rfl) (.inr nofun) rfl rfl rfl
theorem tab10 : TIOk Try.prog 10 ⟨.str, 1, 16, [(.string ⟨#[]⟩)], false⟩ := row (i := Try.t10) (zv := (.string ⟨#[]⟩)) Try.underlying10 rfl (by kernel_rfl) rfl rfl rfl rfl (.inr rfl) (.inl rfl) (.inr nofun) rfl rfl rfl
theorem tab11 : TIOk Try.prog 11 ⟨.str, 1, 16, [(.string ⟨#[]⟩)], false⟩ := row (i := Try.t11) (zv := (.string ⟨#[]⟩)) Try.underlying11 rfl (by kernel_rfl) rfl rfl rfl rfl (.inr rfl) (.inl rfl) (.inr nofun) rfl rfl rfl
theorem tab12 : TIOk Try.prog 12 ⟨(.int .u64), 1, 8, [(.int .u64 0)], false⟩ := row (i := Try.t12) (zv := (.int .u64 0)) Try.underlying12 rfl (by kernel_rfl) rfl rfl rfl rfl (.inr rfl) (.inl rfl) (.inl rfl) rfl rfl rfl
theorem tab13 : TIOk Try.prog 13 ⟨(.struct [(0, 9), (1, 12)]), 2, 24, [(.string ⟨#[]⟩), (.int .u64 0)], false⟩ := row (i := Try.t13) (zv := (.agg #[(.string ⟨#[]⟩), (.int .u64 0)])) ⟨_, Try.underlying13, rfl⟩ rfl (by kernel_rfl) rfl rfl rfl rfl (.inl rfl) (.inr ⟨_, rfl⟩) (.inr nofun) rfl rfl rfl
theorem tab14 : TIOk Try.prog 14 ⟨(.struct [(0, 9), (1, 12)]), 2, 24, [(.string ⟨#[]⟩), (.int .u64 0)], false⟩ := row (i := Try.t14) (zv := (.agg #[(.string ⟨#[]⟩), (.int .u64 0)])) ⟨_, Try.underlying14, rfl⟩ rfl (by kernel_rfl) rfl rfl rfl rfl (.inl rfl) (.inr ⟨_, rfl⟩) (.inr nofun) rfl rfl rfl
theorem tab15 : TIOk Try.prog 15 ⟨(.ptr 212), 1, 8, [(.pointer none)], false⟩ := row (i := Try.t15) (zv := (.pointer none)) Try.underlying15 rfl (by kernel_rfl) rfl rfl rfl rfl (.inr rfl) (.inl rfl) (.inr nofun) rfl rfl rfl
theorem tab16 : TIOk Try.prog 16 ⟨(.ptr 215), 1, 8, [(.pointer none)], false⟩ := row (i := Try.t16) (zv := (.pointer none)) Try.underlying16 rfl (by kernel_rfl) rfl rfl rfl rfl (.inr rfl) (.inl rfl) (.inr nofun) rfl rfl rfl
theorem tab17 : TIOk Try.prog 17 ⟨(.ptr 224), 1, 8, [(.pointer none)], false⟩ := row (i := Try.t17) (zv := (.pointer none)) Try.underlying17 rfl (by kernel_rfl) rfl rfl rfl rfl (.inr rfl) (.inl rfl) (.inr nofun) rfl rfl rfl
theorem tab18 : TIOk Try.prog 18 ⟨(.struct [(0, 17)]), 1, 8, [(.pointer none)], false⟩ := row (i := Try.t18) (zv := (.agg #[(.pointer none)])) ⟨_, Try.underlying18, rfl⟩ rfl (by kernel_rfl) rfl rfl rfl rfl (.inl rfl) (.inr ⟨_, rfl⟩) (.inr nofun) rfl rfl rfl
theorem tab19 : TIOk Try.prog 19 ⟨(.struct [(0, 17)]), 1, 8, [(.pointer none)], false⟩ := row (i := Try.t19) (zv := (.agg #[(.pointer none)])) ⟨_, Try.underlying19, rfl⟩ rfl (by kernel_rfl) rfl rfl rfl rfl (.inl rfl) (.inr ⟨_, rfl⟩) (.inr nofun) rfl rfl rfl
theorem tab20 : TIOk Try.prog 20 ⟨.iface, 1, 16, [.nilIface], false⟩ := row (i := Try.t20) (zv := .nilIface) ⟨_, Try.underlying20⟩ rfl (by kernel_rfl) rfl rfl rfl rfl (.inr rfl) (.inl rfl) (.inr nofun) rfl rfl rfl
theorem tab21 : TIOk Try.prog 21 ⟨(.int .i32), 1, 4, [(.int .i32 0)], false⟩ := row (i := Try.t21) (zv := (.int .i32 0)) Try.underlying21 rfl (by kernel_rfl) rfl rfl rfl rfl (.inr rfl) (.inl rfl) (.inl rfl) rfl rfl rfl
theorem tab22 : TIOk Try.prog 22 ⟨(.flt .f64), 1, 8, [(.float .f64 0)], false⟩ := row (i := Try.t22) (zv := (.float .f64 0)) Try.underlying22 rfl (by kernel_rfl) rfl rfl rfl rfl (.inr rfl) (.inl rfl) (.inr nofun) rfl rfl rfl
theorem tab23 : TIOk Try.prog 23 ⟨(.slice 25), 1, 24, [(.slice none 0 0)], false⟩ := row (i := Try.t23) (zv := (.slice none 0 0)) Try.underlying23 rfl (by kernel_rfl) rfl rfl rfl rfl (.inr rfl) (.inl rfl) (.inr nofun) rfl rfl rfl
theorem tab24 : TIOk Try.prog 24 ⟨(.struct [(0, 3), (1, 9), (2, 3), (3, 22), (4, 22), (5, 23)]), 6, 72, [(.int .i64 0), (.string ⟨#[]⟩), (.int .i64 0), (.float .f64 0), (.float .f64 0), (.slice none 0 0)], false⟩ := row (i := Try.t24) (zv := (.agg #[(.int .i64 0), (.string ⟨#[]⟩), (.int .i64 0), (.float .f64 0), (.float .f64 0), (.slice none 0 0)])) ⟨_, Try.underlying24, rfl⟩ rfl (by kernel_rfl) rfl rfl rfl rfl (.inl rfl) (.inr ⟨_, rfl⟩) (.inr nofun) rfl rfl rfl
theorem tab25 : TIOk Try.prog 25 ⟨(.struct [(0, 3), (1, 9), (2, 3), (3, 22), (4, 22), (5, 23)]), 6, 72, [(.int .i64 0), (.string ⟨#[]⟩), (.int .i64 0), (.float .f64 0), (.float .f64 0), (.slice none 0 0)], false⟩ := row (i := Try.t25) (zv := (.agg #[(.int .i64 0), (.string ⟨#[]⟩), (.int .i64 0), (.float .f64 0), (.float .f64 0), (.slice none 0 0)])) ⟨_, Try.underlying25, rfl⟩ rfl (by kernel_rfl) rfl rfl rfl rfl (.inl rfl) (.inr ⟨_, rfl⟩) (.inr nofun) rfl rfl rfl
theorem tab26 : TIOk Try.prog 26 ⟨(.slice 82), 1, 24, [(.slice none 0 0)], false⟩ := row (i := Try.t26) (zv := (.slice none 0 0)) Try.underlying26 rfl (by kernel_rfl) rfl rfl rfl rfl (.inr rfl) (.inl rfl) (.inr nofun) rfl rfl rfl
theorem tab27 : TIOk Try.prog 27 ⟨(.arr 8 3), 8, 64, [(.int .i64 0), (.int .i64 0), (.int .i64 0), (.int .i64 0), (.int .i64 0), (.int .i64 0), (.int .i64 0), (.int .i64 0)], false⟩ := row (i := Try.t27) (zv := (.agg #[(.int .i64 0), (.int .i64 0), (.int .i64 0), (.int .i64 0), (.int .i64 0), (.int .i64 0), (.int .i64 0), (.int .i64 0)])) Try.underlying27 rfl (by kernel_rfl) rfl rfl rfl rfl (.inl rfl) (.inr ⟨_, rfl⟩) (.inr nofun) rfl rfl rfl
theorem tab28 : TIOk Try.prog 28 ⟨(.arr 8 3), 8, 64, [(.int .i64 0), (.int .i64 0), (.int .i64 0), (.int .i64 0), (.int .i64 0), (.int .i64 0), (.int .i64 0), (.int .i64 0)], true⟩ := rowEq (i := Try.t28) (zv := (.agg #[(.int .i64 0), (.int .i64 0), (.int .i64 0), (.int .i64 0), (.int .i64 0), (.int .i64 0), (.int .i64 0), (.int .i64 0)])) Try.underlying28 rfl (by kernel_rfl) rfl rfl rfl rfl rfl ⟨_, rfl⟩ nofun rfl rfl (eqd28.eqP (Nat.le_trans (by decide) (depth_ge _)) (by decide))
theorem tab29 : TIOk Try.prog 29 ⟨(.slice 141), 1, 24, [(.slice none 0 0)], false⟩ := row (i := Try.t29) (zv := (.slice none 0 0)) Try.underlying29 rfl (by kernel_rfl) rfl rfl rfl rfl (.inr rfl) (.inl rfl) (.inr nofun) rfl rfl rfl
theorem tab30 : TIOk Try.prog 30 ⟨(.struct [(0, 28), (8, 29)]), 9, 88, [(.int .i64 0), (.int .i64 0), (.int .i64 0), (.int .i64 0), (.int .i64 0), (.int .i64 0), (.int .i64 0), (.int .i64 0), (.slice none 0 0)], false⟩ := row (i := Try.t30) (zv := (.agg #[(.int .i64 0), (.int .i64 0), (.int .i64 0), (.int .i64 0), (.int .i64 0), (.int .i64 0), (.int .i64 0), (.int .i64 0), (.slice none 0 0)])) ⟨_, Try.underlying30, rfl⟩ rfl (by kernel_rfl) rfl rfl rfl rfl (.inl rfl) (.inr ⟨_, rfl⟩) (.inr nofun) rfl rfl rfl
theorem tab31 : TIOk Try.prog 31 ⟨(.struct [(0, 28), (8, 29)]), 9, 88, [(.int .i64 0), (.int .i64 0), (.int .i64 0), (.int .i64 0), (.int .i64 0), (.int .i64 0), (.int .i64 0), (.int .i64 0), (.slice none 0 0)], false⟩ := row (i := Try.t31) (zv := (.agg #[(.int .i64 0), (.int .i64 0), (.int .i64 0), (.int .i64 0), (.int .i64 0), (.int .i64 0), (.int .i64 0), (.int .i64 0), (.slice none 0 0)])) ⟨_, Try.underlying31, rfl⟩ rfl (by kernel_rfl) rfl rfl rfl rfl (.inl rfl) (.inr ⟨_, rfl⟩) (.inr nofun) rfl rfl rfl
theorem tab32 : TIOk Try.prog 32 ⟨(.struct [(0, 3), (1, 25), (7, 26), (8, 26), (9, 31), (18, 3), (19, 3), (20, 3)]), 21, 240, [(.int .i64 0), (.int .i64 0), (.string ⟨#[]⟩), (.int .i64 0), (.float .f64 0), (.float .f64 0), (.slice none 0 0), (.slice none 0 0), (.slice none 0 0), (.int .i64 0), (.int .i64 0), (.int .i64 0), (.int .i64 0), (.int .i64 0), (.int .i64 0), (.int .i64 0), (.int .i64 0), (.slice none 0 0), (.int .i64 0), (.int .i64 0), (.int .i64 0)], false⟩ := row (i := Try.t32) (zv := (.agg #[(.int .i64 0), (.int .i64 0), (.string ⟨#[]⟩), (.int .i64 0), (.float .f64 0), (.float .f64 0), (.slice none 0 0), (.slice none 0 0), (.slice none 0 0), (.int .i64 0), (.int .i64 0), (.int .i64 0), (.int .i64 0), (.int .i64 0), (.int .i64 0), (.int .i64 0), (.int .i64 0), (.slice none 0 0), (.int .i64 0), (.int .i64 0), (.int .i64 0)])) ⟨_, Try.underlying32, rfl⟩ rfl (by kernel_rfl) rfl rfl rfl rfl (.inl rfl) (.inr ⟨_, rfl⟩) (.inr nofun) rfl rfl rfl
theorem tab33 : TIOk Try.prog 33 ⟨(.struct [(0, 3), (1, 25), (7, 26), (8, 26), (9, 31), (18, 3), (19, 3), (20, 3)]), 21, 240, [(.int .i64 0), (.int .i64 0), (.string ⟨#[]⟩), (.int .i64 0), (.float .f64 0), (.float .f64 0), (.slice none 0 0), (.slice none 0 0), (.slice none 0 0), (.int .i64 0), (.int .i64 0), (.int .i64 0), (.int .i64 0), (.int .i64 0), (.int .i64 0), (.int .i64 0), (.int .i64 0), (.slice none 0 0), (.int .i64 0), (.int .i64 0), (.int .i64 0)], false⟩ := row (i := Try.t33) (zv := (.agg #[(.int .i64 0), (.int .i64 0), (.string ⟨#[]⟩), (.int .i64 0), (.float .f64 0), (.float .f64 0), (.slice none 0 0), (.slice none 0 0), (.slice none 0 0), (.int .i64 0), (.int .i64 0), (.int .i64 0), (.int .i64 0), (.int .i64 0), (.int .i64 0), (.int .i64 0), (.int .i64 0), (.slice none 0 0), (.int .i64 0), (.int .i64 0), (.int .i64 0)])) ⟨_, Try.underlying33, rfl⟩ rfl (by kernel_rfl) rfl rfl rfl rfl (.inl rfl) (.inr ⟨_, rfl⟩) (.inr nofun) rfl rfl rfl
theorem tab36 : TIOk Try.prog 36 ⟨(.cplx .f64), 1, 16, [(.complex .f64 0 0)], false⟩ := row (i := Try.t36) (zv := (.complex .f64 0 0)) Try.underlying36 rfl (by kernel_rfl) rfl rfl rfl rfl (.inr rfl) (.inl rfl) (.inr nofun) rfl rfl rfl
theorem tab37 : TIOk Try.prog 37 ⟨(.slice 39), 1, 24, [(.slice none 0 0)], false⟩ := row (i := Try.t37) (zv := (.slice none 0 0)) Try.underlying37 rfl (by kernel_rfl) rfl rfl rfl rfl (.inr rfl) (.inl rfl) (.inr nofun) rfl rfl rfl
theorem tab38 : TIOk Try.prog 38 ⟨(.struct [(0, 3), (1, 9), (2, 3), (3, 36), (4, 37)]), 5, 72, [(.int .i64 0), (.string ⟨#[]⟩), (.int .i64 0), (.complex .f64 0 0), (.slice none 0 0)], false⟩ := row (i := Try.t38) (zv := (.agg #[(.int .i64 0), (.string ⟨#[]⟩), (.int .i64 0), (.complex .f64 0 0), (.slice none 0 0)])) ⟨_, Try.underlying38, rfl⟩ rfl (by kernel_rfl) rfl rfl rfl rfl (.inl rfl) (.inr ⟨_, rfl⟩) (.inr nofun) rfl rfl rfl
theorem tab39 : TIOk Try.prog 39 ⟨(.struct [(0, 3), (1, 9), (2, 3), (3, 36), (4, 37)]), 5, 72, [(.int .i64 0), (.string ⟨#[]⟩), (.int .i64 0), (.complex .f64 0 0), (.slice none 0 0)], false⟩ := row (i := Try.t39) (zv := (.agg #[(.int .i64 0), (.string ⟨#[]⟩), (.int .i64 0), (.complex .f64 0 0), (.slice none 0 0)])) ⟨_, Try.underlying39, rfl⟩ rfl (by kernel_rfl) rfl rfl rfl rfl (.inl rfl) (.inr ⟨_, rfl⟩) (.inr nofun) rfl rfl rfl
theorem tab40 : TIOk Try.prog 40 ⟨(.slice 66), 1, 24, [(.slice none 0 0)], false⟩ := row (i := Try.t40) (zv := (.slice none 0 0)) Try.underlying40 rfl (by kernel_rfl) rfl rfl rfl rfl (.inr rfl) (.inl rfl) (.inr nofun) rfl rfl rfl
theorem tab41 : TIOk Try.prog 41 ⟨(.struct [(0, 3), (1, 39), (6, 40), (7, 40), (8, 31), (17, 3), (18, 3), (19, 3)]), 20, 240, [(.int .i64 0), (.int .i64 0), (.string ⟨#[]⟩), (.int .i64 0), (.complex .f64 0 0), (.slice none 0 0), (.slice none 0 0), (.slice none 0 0), (.int .i64 0), (.int .i64 0), (.int .i64 0), (.int .i64 0), (.int .i64 0), (.int .i64 0), (.int .i64 0), (.int .i64 0), (.slice none 0 0), (.int .i64 0), (.int .i64 0), (.int .i64 0)], false⟩ := row (i := Try.t41) (zv := (.agg #[(.int .i64 0), (.int .i64 0), (.string ⟨#[]⟩), (.int .i64 0), (.complex .f64 0 0), (.slice none 0 0), (.slice none 0 0), (.slice none 0 0), (.int .i64 0), (.int .i64 0), (.int .i64 0), (.int .i64 0), (.int .i64 0), (.int .i64 0), (.int .i64 0), (.int .i64 0), (.slice none 0 0), (.int .i64 0), (.int .i64 0), (.int .i64 0)])) ⟨_, Try.underlying41, rfl⟩ rfl (by kernel_rfl) rfl rfl rfl rfl (.inl rfl) (.inr ⟨_, rfl⟩) (.inr nofun) rfl rfl rfl
theorem tab42 : TIOk Try.prog 42 ⟨(.struct [(0, 3), (1, 39), (6, 40), (7, 40), (8, 31), (17, 3), (18, 3), (19, 3)]), 20, 240, [(.int .i64 0), (.int .i64 0), (.string ⟨#[]⟩), (.int .i64 0), (.complex .f64 0 0), (.slice none 0 0), (.slice none 0 0), (.slice none 0 0), (.int .i64 0), (.int .i64 0), (.int .i64 0), (.int .i64 0), (.int .i64 0), (.int .i64 0), (.int .i64 0), (.int .i64 0), (.slice none 0 0), (.int .i64 0), (.int .i64 0), (.int .i64 0)], false⟩ := row (i := Try.t42) (zv := (.agg #[(.int .i64 0), (.int .i64 0), (.string ⟨#[]⟩), (.int .i64 0), (.complex .f64 0 0), (.slice none 0 0), (.slice none 0 0), (.slice none 0 0), (.int .i64 0), (.int .i64 0), (.int .i64 0), (.int .i64 0), (.int .i64 0), (.int .i64 0), (.int .i64 0), (.int .i64 0), (.slice none 0 0), (.int .i64 0), (.int .i64 0), (.int .i64 0)])) ⟨_, Try.underlying42, rfl⟩ rfl (by kernel_rfl) rfl rfl rfl rfl (.inl rfl) (.inr ⟨_, rfl⟩) (.inr nofun) rfl rfl rfl
theorem tab45 : TIOk Try.prog 45 ⟨(.slice 3), 1, 24, [(.slice none 0 0)], false⟩ := row (i := Try.t45) (zv := (.slice none 0 0)) Try.underlying45 rfl (by kernel_rfl) rfl rfl rfl rfl (.inr rfl) (.inl rfl) (.inr nofun) rfl rfl rfl
theorem tab46 : TIOk Try.prog 46 ⟨(.slice 162), 1, 24, [(.slice none 0 0)], false⟩ := row (i := Try.t46) (zv := (.slice none 0 0)) Try.underlying46 rfl (by kernel_rfl) rfl rfl rfl rfl (.inr rfl) (.inl rfl) (.inr nofun) rfl rfl rfl
theorem tab47 : TIOk Try.prog 47 ⟨(.struct [(0, 3), (1, 3), (2, 3), (3, 3), (4, 45), (5, 4), (6, 4), (7, 4), (8, 3), (9, 31), (18, 46)]), 19, 184, [(.int .i64 0), (.int .i64 0), (.int .i64 0), (.int .i64 0), (.slice none 0 0), (.bool false), (.bool false), (.bool false), (.int .i64 0), (.int .i64 0), (.int .i64 0), (.int .i64 0), (.int .i64 0), (.int .i64 0), (.int .i64 0), (.int .i64 0), (.int .i64 0), (.slice none 0 0), (.slice none 0 0)], false⟩ := row (i := Try.t47) (zv := (.agg #[(.int .i64 0), (.int .i64 0), (.int .i64 0), (.int .i64 0), (.slice none 0 0), (.bool false), (.bool false), (.bool false), (.int .i64 0), (.int .i64 0), (.int .i64 0), (.int .i64 0), (.int .i64 0), (.int .i64 0), (.int .i64 0), (.int .i64 0), (.int .i64 0), (.slice none 0 0), (.slice none 0 0)])) ⟨_, Try.underlying47, rfl⟩ rfl (by kernel_rfl) rfl rfl rfl rfl (.inl rfl) (.inr ⟨_, rfl⟩) (.inr nofun) rfl rfl rfl
theorem tab48 : TIOk Try.prog 48 ⟨(.struct [(0, 3), (1, 3), (2, 3), (3, 3), (4, 45), (5, 4), (6, 4), (7, 4), (8, 3), (9, 31), (18, 46)]), 19, 184, [(.int .i64 0), (.int .i64 0), (.int .i64 0), (.int .i64 0), (.slice none 0 0), (.bool false), (.bool false), (.bool false), (.int .i64 0), (.int .i64 0), (.int .i64 0), (.int .i64 0), (.int .i64 0), (.int .i64 0), (.int .i64 0), (.int .i64 0), (.int .i64 0), (.slice none 0 0), (.slice none 0 0)], false⟩ := row (i := Try.t48) (zv := (.agg #[(.int .i64 0), (.int .i64 0), (.int .i64 0), (.int .i64 0), (.slice none 0 0), (.bool false), (.bool false), (.bool false), (.int .i64 0), (.int .i64 0), (.int .i64 0), (.int .i64 0), (.int .i64 0), (.int .i64 0), (.int .i64 0), (.int .i64 0), (.int .i64 0), (.slice none 0 0), (.slice none 0 0)])) ⟨_, Try.underlying48, rfl⟩ rfl (by kernel_rfl) rfl rfl rfl rfl (.inl rfl) (.inr ⟨_, rfl⟩) (.inr nofun) rfl rfl rfl
theorem tab49 : TIOk Try.prog 49 ⟨(.slice 64), 1, 24, [(.slice none 0 0)], false⟩ := row (i := Try.t49) (zv := (.slice none 0 0)) Try.underlying49 rfl (by kernel_rfl) rfl rfl rfl rfl (.inr rfl) (.inl rfl) (.inr nofun) rfl rfl rfl
theorem tab50 : TIOk Try.prog 50 ⟨(.struct [(0, 3), (1, 3), (2, 3), (3, 3), (4, 3), (5, 39), (10, 31), (19, 49), (20, 3), (21, 46), (22, 4)]), 23, 264, [(.int .i64 0), (.int .i64 0), (.int .i64 0), (.int .i64 0), (.int .i64 0), (.int .i64 0), (.string ⟨#[]⟩), (.int .i64 0), (.complex .f64 0 0), (.slice none 0 0), (.int .i64 0), (.int .i64 0), (.int .i64 0), (.int .i64 0), (.int .i64 0), (.int .i64 0), (.int .i64 0), (.int .i64 0), (.slice none 0 0), (.slice none 0 0), (.int .i64 0), (.slice none 0 0), (.bool false)], false⟩ := row (i := Try.t50) (zv := (.agg #[(.int .i64 0), (.int .i64 0), (.int .i64 0), (.int .i64 0), (.int .i64 0), (.int .i64 0), (.string ⟨#[]⟩), (.int .i64 0), (.complex .f64 0 0), (.slice none 0 0), (.int .i64 0), (.int .i64 0), (.int .i64 0), (.int .i64 0), (.int .i64 0), (.int .i64 0), (.int .i64 0), (.int .i64 0), (.slice none 0 0), (.slice none 0 0), (.int .i64 0), (.slice none 0 0), (.bool false)])) ⟨_, Try.underlying50, rfl⟩ rfl (by kernel_rfl) rfl rfl rfl rfl (.inl rfl) (.inr ⟨_, rfl⟩) (.inr nofun) rfl rfl rfl
theorem tab51 : TIOk Try.prog 51 ⟨(.struct [(0, 3), (1, 3), (2, 3), (3, 3), (4, 3), (5, 39), (10, 31), (19, 49), (20, 3), (21, 46), (22, 4)]), 23, 264, [(.int .i64 0), (.int .i64 0), (.int .i64 0), (.int .i64 0), (.int .i64 0), (.int .i64 0), (.string ⟨#[]⟩), (.int .i64 0), (.complex .f64 0 0), (.slice none 0 0), (.int .i64 0), (.int .i64 0), (.int .i64 0), (.int .i64 0), (.int .i64 0), (.int .i64 0), (.int .i64 0), (.int .i64 0), (.slice none 0 0), (.slice none 0 0), (.int .i64 0), (.slice none 0 0), (.bool false)], false⟩ := row (i := Try.t51) (zv := (.agg #[(.int .i64 0), (.int .i64 0), (.int .i64 0), (.int .i64 0), (.int .i64 0), (.int .i64 0), (.string ⟨#[]⟩), (.int .i64 0), (.complex .f64 0 0), (.slice none 0 0), (.int .i64 0), (.int .i64 0), (.int .i64 0), (.int .i64 0), (.int .i64 0), (.int .i64 0), (.int .i64 0), (.int .i64 0), (.slice none 0 0), (.slice none 0 0), (.int .i64 0), (.slice none 0 0), (.bool false)])) ⟨_, Try.underlying51, rfl⟩ rfl (by kernel_rfl) rfl rfl rfl rfl (.inl rfl) (.inr ⟨_, rfl⟩) (.inr nofun) rfl rfl rfl
theorem tab54 : TIOk Try.prog 54 ⟨(.struct [(0, 3), (1, 3), (2, 3), (3, 3), (4, 45), (5, 4), (6, 4), (7, 4), (8, 3), (9, 31), (18, 46)]), 19, 184, [(.int .i64 0), (.int .i64 0), (.int .i64 0), (.int .i64 0), (.slice none 0 0), (.bool false), (.bool false), (.bool false), (.int .i64 0), (.int .i64 0), (.int .i64 0), (.int .i64 0), (.int .i64 0), (.int .i64 0), (.int .i64 0), (.int .i64 0), (.int .i64 0), (.slice none 0 0), (.slice none 0 0)], false⟩ := row (i := Try.t54) (zv := (.agg #[(.int .i64 0), (.int .i64 0), (.int .i64 0), (.int .i64 0), (.slice none 0 0), (.bool false), (.bool false), (.bool false), (.int .i64 0), (.int .i64 0), (.int .i64 0), (.int .i64 0), (.int .i64 0), (.int .i64 0), (.int .i64 0), (.int .i64 0), (.int .i64 0), (.slice none 0 0), (.slice none 0 0)])) ⟨_, Try.underlying54, rfl⟩ rfl (by kernel_rfl) rfl rfl rfl rfl (.inl rfl) (.inr ⟨_, rfl⟩) (.inr nofun) rfl rfl rfl
theorem tab61 : TIOk Try.prog 61 ⟨(.struct [(0, 3), (1, 3)]), 2, 16, [(.int .i64 0), (.int .i64 0)], false⟩ := row (i := Try.t61) (zv := (.agg #[(.int .i64 0), (.int .i64 0)])) ⟨_, Try.underlying61, rfl⟩ rfl (by kernel_rfl) rfl rfl rfl rfl (.inl rfl) (.inr ⟨_, rfl⟩) (.inr nofun) rfl rfl rfl
theorem tab62 : TIOk Try.prog 62 ⟨(.struct [(0, 3), (1, 3)]), 2, 16, [(.int .i64 0), (.int .i64 0)], true⟩ := rowEq (i := Try.t62) (zv := (.agg #[(.int .i64 0), (.int .i64 0)])) ⟨_, Try.underlying62, rfl⟩ rfl (by kernel_rfl) rfl rfl rfl rfl rfl ⟨_, rfl⟩ nofun rfl rfl (eqd62.eqP (Nat.le_trans (by decide) (depth_ge _)) (by decide))
theorem tab63 : TIOk Try.prog 63 ⟨(.struct [(0, 9), (1, 62), (3, 3)]), 4, 40, [(.string ⟨#[]⟩), (.int .i64 0), (.int .i64 0), (.int .i64 0)], false⟩ := row (i := Try.t63) (zv := (.agg #[(.string ⟨#[]⟩), (.int .i64 0), (.int .i64 0), (.int .i64 0)])) ⟨_, Try.underlying63, rfl⟩ rfl (by kernel_rfl) rfl rfl rfl rfl (.inl rfl) (.inr ⟨_, rfl⟩) (.inr nofun) rfl rfl rfl
theorem tab64 : TIOk Try.prog 64 ⟨(.struct [(0, 9), (1, 62), (3, 3)]), 4, 40, [(.string ⟨#[]⟩), (.int .i64 0), (.int .i64 0), (.int .i64 0)], false⟩ := row (i := Try.t64) (zv := (.agg #[(.string ⟨#[]⟩), (.int .i64 0), (.int .i64 0), (.int .i64 0)])) ⟨_, Try.underlying64, rfl⟩ rfl (by kernel_rfl) rfl rfl rfl rfl (.inl rfl) (.inr ⟨_, rfl⟩) (.inr nofun) rfl rfl rfl
theorem tab65 : TIOk Try.prog 65 ⟨(.struct [(0, 9), (1, 62), (3, 3), (4, 9), (5, 3), (6, 36), (7, 4)]), 8, 88, [(.string ⟨#[]⟩), (.int .i64 0), (.int .i64 0), (.int .i64 0), (.string ⟨#[]⟩), (.int .i64 0), (.complex .f64 0 0), (.bool false)], false⟩ := row (i := Try.t65) (zv := (.agg #[(.string ⟨#[]⟩), (.int .i64 0), (.int .i64 0), (.int .i64 0), (.string ⟨#[]⟩), (.int .i64 0), (.complex .f64 0 0), (.bool false)])) ⟨_, Try.underlying65, rfl⟩ rfl (by kernel_rfl) rfl rfl rfl rfl (.inl rfl) (.inr ⟨_, rfl⟩) (.inr nofun) rfl rfl rfl
theorem tab66 : TIOk Try.prog 66 ⟨(.struct [(0, 9), (1, 62), (3, 3), (4, 9), (5, 3), (6, 36), (7, 4)]), 8, 88, [(.string ⟨#[]⟩), (.int .i64 0), (.int .i64 0), (.int .i64 0), (.string ⟨#[]⟩), (.int .i64 0), (.complex .f64 0 0), (.bool false)], true⟩ := rowEq (i := Try.t66) (zv := (.agg #[(.string ⟨#[]⟩), (.int .i64 0), (.int .i64 0), (.int .i64 0), (.string ⟨#[]⟩), (.int .i64 0), (.complex .f64 0 0), (.bool false)])) ⟨_, Try.underlying66, rfl⟩ rfl (by kernel_rfl) rfl rfl rfl rfl rfl ⟨_, rfl⟩ nofun rfl rfl (eqd66.eqP (Nat.le_trans (by decide) (depth_ge _)) (by decide))
theorem tab68 : TIOk Try.prog 68 ⟨(.slice 5), 1, 24, [(.slice none 0 0)], false⟩ := row (i := Try.t68) (zv := (.slice none 0 0)) Try.underlying68 rfl (by kernel_rfl) rfl rfl rfl rfl (.inr rfl) (.inl rfl) (.inr nofun) rfl rfl rfl
theorem tab75 : TIOk Try.prog 75 ⟨.iface, 1, 16, [.nilIface], false⟩ := row (i := Try.t75) (zv := .nilIface) ⟨_, Try.underlying75⟩ rfl (by kernel_rfl) rfl rfl rfl rfl (.inr rfl) (.inl rfl) (.inr nofun) rfl rfl rfl
theorem tab76 : TIOk Try.prog 76 ⟨.iface, 1, 16, [.nilIface], false⟩ := row (i := Try.t76) (zv := .nilIface) ⟨_, Try.underlying76⟩ rfl (by kernel_rfl) rfl rfl rfl rfl (.inr rfl) (.inl rfl) (.inr nofun) rfl rfl rfl
theorem tab81 : TIOk Try.prog 81 ⟨(.struct [(0, 9), (1, 3), (2, 3), (3, 3), (4, 9), (5, 3), (6, 22), (7, 22), (8, 4)]), 9, 88, [(.string ⟨#[]⟩), (.int .i64 0), (.int .i64 0), (.int .i64 0), (.string ⟨#[]⟩), (.int .i64 0), (.float .f64 0), (.float .f64 0), (.bool false)], false⟩ := row (i := Try.t81) (zv := (.agg #[(.string ⟨#[]⟩), (.int .i64 0), (.int .i64 0), (.int .i64 0), (.string ⟨#[]⟩), (.int .i64 0), (.float .f64 0), (.float .f64 0), (.bool false)])) ⟨_, Try.underlying81, rfl⟩ rfl (by kernel_rfl) rfl rfl rfl rfl (.inl rfl) (.inr ⟨_, rfl⟩) (.inr nofun) rfl rfl rfl
theorem tab82 : TIOk Try.prog 82 ⟨(.struct [(0, 9), (1, 3), (2, 3), (3, 3), (4, 9), (5, 3), (6, 22), (7, 22), (8, 4)]), 9, 88, [(.string ⟨#[]⟩), (.int .i64 0), (.int .i64 0), (.int .i64 0), (.string ⟨#[]⟩), (.int .i64 0), (.float .f64 0), (.float .f64 0), (.bool false)], false⟩ := row (i := Try.t82) (zv := (.agg #[(.string ⟨#[]⟩), (.int .i64 0), (.int .i64 0), (.int .i64 0), (.string ⟨#[]⟩), (.int .i64 0), (.float .f64 0), (.float .f64 0), (.bool false)])) ⟨_, Try.underlying82, rfl⟩ rfl (by kernel_rfl) rfl rfl rfl rfl (.inl rfl) (.inr ⟨_, rfl⟩) (.inr nofun) rfl rfl rfl
theorem tab116 : TIOk Try.prog 116 ⟨(.int .u32), 1, 4, [(.int .u32 0)], false⟩ := row (i := Try.t116) (zv := (.int .u32 0)) Try.underlying116 rfl (by kernel_rfl) rfl rfl rfl rfl (.inr rfl) (.inl rfl) (.inl rfl) rfl rfl rfl
theorem tab118 : TIOk Try.prog 118 ⟨(.int .u64), 1, 8, [(.int .u64 0)], false⟩ := row (i := Try.t118) (zv := (.int .u64 0)) Try.underlying118 rfl (by kernel_rfl) rfl rfl rfl rfl (.inr rfl) (.inl rfl) (.inl rfl) rfl rfl rfl
theorem tab119 : TIOk Try.prog 119 ⟨(.int .i64), 1, 8, [(.int .i64 0)], false⟩ := row (i := Try.t119) (zv := (.int .i64 0)) Try.underlying119 rfl (by kernel_rfl) rfl rfl rfl rfl (.inr rfl) (.inl rfl) (.inl rfl) rfl rfl rfl
theorem tab120 : TIOk Try.prog 120 ⟨(.int .u64), 1, 8, [(.int .u64 0)], false⟩ := row (i := Try.t120) (zv := (.int .u64 0)) Try.underlying120 rfl (by kernel_rfl) rfl rfl rfl rfl (.inr rfl) (.inl rfl) (.inl rfl) rfl rfl rfl
theorem tab128 : TIOk Try.prog 128 ⟨(.ptr 3), 1, 8, [(.pointer none)], false⟩ := row (i := Try.t128) (zv := (.pointer none)) Try.underlying128 rfl (by kernel_rfl) rfl rfl rfl rfl (.inr rfl) (.inl rfl) (.inr nofun) rfl rfl rfl
theorem tab139 : TIOk Try.prog 139 ⟨(.slice 9), 1, 24, [(.slice none 0 0)], false⟩ := row (i := Try.t139) (zv := (.slice none 0 0)) Try.underlying139 rfl (by kernel_rfl) rfl rfl rfl rfl (.inr rfl) (.inl rfl) (.inr nofun) rfl rfl rfl
theorem tab140 : TIOk Try.prog 140 ⟨(.struct [(0, 139), (1, 28)]), 9, 88, [(.slice none 0 0), (.int .i64 0), (.int .i64 0), (.int .i64 0), (.int .i64 0), (.int .i64 0), (.int .i64 0), (.int .i64 0), (.int .i64 0)], false⟩ := row (i := Try.t140) (zv := (.agg #[(.slice none 0 0), (.int .i64 0), (.int .i64 0), (.int .i64 0), (.int .i64 0), (.int .i64 0), (.int .i64 0), (.int .i64 0), (.int .i64 0)])) ⟨_, Try.underlying140, rfl⟩ rfl (by kernel_rfl) rfl rfl rfl rfl (.inl rfl) (.inr ⟨_, rfl⟩) (.inr nofun) rfl rfl rfl
theorem tab141 : TIOk Try.prog 141 ⟨(.struct [(0, 139), (1, 28)]), 9, 88, [(.slice none 0 0), (.int .i64 0), (.int .i64 0), (.int .i64 0), (.int .i64 0), (.int .i64 0), (.int .i64 0), (.int .i64 0), (.int .i64 0)], false⟩ := row (i := Try.t141) (zv := (.agg #[(.slice none 0 0), (.int .i64 0), (.int .i64 0), (.int .i64 0), (.int .i64 0), (.int .i64 0), (.int .i64 0), (.int .i64 0), (.int .i64 0)])) ⟨_, Try.underlying141, rfl⟩ rfl (by kernel_rfl) rfl rfl rfl rfl (.inl rfl) (.inr ⟨_, rfl⟩) (.inr nofun) rfl rfl rfl
theorem tab144 : TIOk Try.prog 144 ⟨(.map 9 28), 1, 8, [(.map none)], false⟩ := row (i := Try.t144) (zv := (.map none)) Try.underlying144 rfl (by kernel_rfl) rfl rfl rfl rfl (.inr rfl) (.inl rfl) (.inr nofun) rfl rfl rfl
theorem tab145 : TIOk Try.prog 145 ⟨(.map 28 3), 1, 8, [(.map none)], false⟩ := row (i := Try.t145) (zv := (.map none)) Try.underlying145 rfl (by kernel_rfl) rfl rfl rfl rfl (.inr rfl) (.inl rfl) (.inr nofun) rfl rfl rfl
theorem tab161 : TIOk Try.prog 161 ⟨(.struct [(0, 66), (8, 4), (9, 62)]), 11, 112, [(.string ⟨#[]⟩), (.int .i64 0), (.int .i64 0), (.int .i64 0), (.string ⟨#[]⟩), (.int .i64 0), (.complex .f64 0 0), (.bool false), (.bool false), (.int .i64 0), (.int .i64 0)], false⟩ := row (i := Try.t161) (zv := (.agg #[(.string ⟨#[]⟩), (.int .i64 0), (.int .i64 0), (.int .i64 0), (.string ⟨#[]⟩), (.int .i64 0), (.complex .f64 0 0), (.bool false), (.bool false), (.int .i64 0), (.int .i64 0)])) ⟨_, Try.underlying161, rfl⟩ rfl (by kernel_rfl) rfl rfl rfl rfl (.inl rfl) (.inr ⟨_, rfl⟩) (.inr nofun) rfl rfl rfl
theorem tab162 : TIOk Try.prog 162 ⟨(.struct [(0, 66), (8, 4), (9, 62)]), 11, 112, [(.string ⟨#[]⟩), (.int .i64 0), (.int .i64 0), (.int .i64 0), (.string ⟨#[]⟩), (.int .i64 0), (.complex .f64 0 0), (.bool false), (.bool false), (.int .i64 0), (.int .i64 0)], false⟩ := row (i := Try.t162) (zv := (.agg #[(.string ⟨#[]⟩), (.int .i64 0), (.int .i64 0), (.int .i64 0), (.string ⟨#[]⟩), (.int .i64 0), (.complex .f64 0 0), (.bool false), (.bool false), (.int .i64 0), (.int .i64 0)])) ⟨_, Try.underlying162, rfl⟩ rfl (by kernel_rfl) rfl rfl rfl rfl (.inl rfl) (.inr ⟨_, rfl⟩) (.inr nofun) rfl rfl rfl
theorem tab175 : TIOk Try.prog 175 ⟨(.slice 29), 1, 24, [(.slice none 0 0)], false⟩ := row (i := Try.t175) (zv := (.slice none 0 0)) Try.underlying175 rfl (by kernel_rfl) rfl rfl rfl rfl (.inr rfl) (.inl rfl) (.inr nofun) rfl rfl rfl
theorem tab192 : TIOk Try.prog 192 ⟨(.int .i64), 1, 8, [(.int .i64 0)], false⟩ := row (i := Try.t192) (zv := (.int .i64 0)) Try.underlying192 rfl (by kernel_rfl) rfl rfl rfl rfl (.inr rfl) (.inl rfl) (.inl rfl) rfl rfl rfl
theorem tab200 : TIOk Try.prog 200 ⟨(.int .u64), 1, 8, [(.int .u64 0)], false⟩ := row (i := Try.t200) (zv := (.int .u64 0)) Try.underlying200 rfl (by kernel_rfl) rfl rfl rfl rfl (.inr rfl) (.inl rfl) (.inl rfl) rfl rfl rfl
theorem tab208 : TIOk Try.prog 208 ⟨(.ptr 200), 1, 8, [(.pointer none)], false⟩ := row (i := Try.t208) (zv := (.pointer none)) Try.underlying208 rfl (by kernel_rfl) rfl rfl rfl rfl (.inr rfl) (.inl rfl) (.inr nofun) rfl rfl rfl
theorem tab211 : TIOk Try.prog 211 ⟨(.struct [(0, 17), (1, 17), (2, 17), (3, 9)]), 4, 40, [(.pointer none), (.pointer none), (.pointer none), (.string ⟨#[]⟩)], false⟩ := row (i := Try.t211) (zv := (.agg #[(.pointer none), (.pointer none), (.pointer none), (.string ⟨#[]⟩)])) ⟨_, Try.underlying211, rfl⟩ rfl (by kernel_rfl) rfl rfl rfl rfl (.inl rfl) (.inr ⟨_, rfl⟩) (.inr nofun) rfl rfl rfl
theorem tab212 : TIOk Try.prog 212 ⟨(.struct [(0, 17), (1, 17), (2, 17), (3, 9)]), 4, 40, [(.pointer none), (.pointer none), (.pointer none), (.string ⟨#[]⟩)], false⟩ := row (i := Try.t212) (zv := (.agg #[(.pointer none), (.pointer none), (.pointer none), (.string ⟨#[]⟩)])) ⟨_, Try.underlying212, rfl⟩ rfl (by kernel_rfl) rfl rfl rfl rfl (.inl rfl) (.inr ⟨_, rfl⟩) (.inr nofun) rfl rfl rfl
theorem tab213 : TIOk Try.prog 213 ⟨(.arr 0 16), 0, 0, [], false⟩ := row (i := Try.t213) (zv := (.agg #[])) Try.underlying213 rfl (by kernel_rfl) rfl rfl rfl rfl (.inl rfl) (.inr ⟨_, rfl⟩) (.inr nofun) rfl rfl rfl
theorem tab214 : TIOk Try.prog 214 ⟨(.struct [(0, 213)]), 0, 0, [], false⟩ := row (i := Try.t214) (zv := (.agg #[])) ⟨_, Try.underlying214, rfl⟩ rfl (by kernel_rfl) rfl rfl rfl rfl (.inl rfl) (.inr ⟨_, rfl⟩) (.inr nofun) rfl rfl rfl
theorem tab215 : TIOk Try.prog 215 ⟨(.struct [(0, 213)]), 0, 0, [], false⟩ := row (i := Try.t215) (zv := (.agg #[])) ⟨_, Try.underlying215, rfl⟩ rfl (by kernel_rfl) rfl rfl rfl rfl (.inl rfl) (.inr ⟨_, rfl⟩) (.inr nofun) rfl rfl rfl
theorem tab217 : TIOk Try.prog 217 ⟨(.int .u8), 1, 1, [(.int .u8 0)], false⟩ := row (i := Try.t217) (zv := (.int .u8 0)) Try.underlying217 rfl (by kernel_rfl) rfl rfl rfl rfl (.inr rfl) (.inl rfl) (.inl rfl) rfl rfl rfl
theorem tab218 : TIOk Try.prog 218 ⟨(.int .u8), 1, 1, [(.int .u8 0)], false⟩ := row (i := Try.t218) (zv := (.int .u8 0)) Try.underlying218 rfl (by kernel_rfl) rfl rfl rfl rfl (.inr rfl) (.inl rfl) (.inl rfl) rfl rfl rfl
theorem tab220 : TIOk Try.prog 220 ⟨(.ptr 5), 1, 8, [(.pointer none)], false⟩ := row (i := Try.t220) (zv := (.pointer none)) Try.underlying220 rfl (by kernel_rfl) rfl rfl rfl rfl (.inr rfl) (.inl rfl) (.inr nofun) rfl rfl rfl
theorem tab221 : TIOk Try.prog 221 ⟨(.int .i32), 1, 4, [(.int .i32 0)], false⟩ := row (i := Try.t221) (zv := (.int .i32 0)) Try.underlying221 rfl (by kernel_rfl) rfl rfl rfl rfl (.inr rfl) (.inl rfl) (.inl rfl) rfl rfl rfl
theorem tab222 : TIOk Try.prog 222 ⟨(.int .i32), 1, 4, [(.int .i32 0)], false⟩ := row (i := Try.t222) (zv := (.int .i32 0)) Try.underlying222 rfl (by kernel_rfl) rfl rfl rfl rfl (.inr rfl) (.inl rfl) (.inl rfl) rfl rfl rfl
theorem tab223 : TIOk Try.prog 223 ⟨(.struct [(0, 12), (1, 12), (2, 116), (3, 217), (4, 5), (5, 5), (6, 218), (7, 219), (8, 220), (9, 221), (10, 222)]), 11, 48, [(.int .u64 0), (.int .u64 0), (.int .u32 0), (.int .u8 0), (.int .u8 0), (.int .u8 0), (.int .u8 0), .nilFunc, (.pointer none), (.int .i32 0), (.int .i32 0)], false⟩ := row (i := Try.t223) (zv := (.agg #[(.int .u64 0), (.int .u64 0), (.int .u32 0), (.int .u8 0), (.int .u8 0), (.int .u8 0), (.int .u8 0), .nilFunc, (.pointer none), (.int .i32 0), (.int .i32 0)])) ⟨_, Try.underlying223, rfl⟩ rfl (by kernel_rfl) rfl rfl rfl rfl (.inl rfl) (.inr ⟨_, rfl⟩) (.inr nofun) rfl rfl rfl
theorem tab224 : TIOk Try.prog 224 ⟨(.struct [(0, 12), (1, 12), (2, 116), (3, 217), (4, 5), (5, 5), (6, 218), (7, 219), (8, 220), (9, 221), (10, 222)]), 11, 48, [(.int .u64 0), (.int .u64 0), (.int .u32 0), (.int .u8 0), (.int .u8 0), (.int .u8 0), (.int .u8 0), .nilFunc, (.pointer none), (.int .i32 0), (.int .i32 0)], false⟩ := row (i := Try.t224) (zv := (.agg #[(.int .u64 0), (.int .u64 0), (.int .u32 0), (.int .u8 0), (.int .u8 0), (.int .u8 0), (.int .u8 0), .nilFunc, (.pointer none), (.int .i32 0), (.int .i32 0)])) ⟨_, Try.underlying224, rfl⟩ rfl (by kernel_rfl) rfl rfl rfl rfl (.inl rfl) (.inr ⟨_, rfl⟩) (.inr nofun) rfl rfl rfl
theorem T_ok : TOk Try.prog T := TOk.of (⟨.inl rfl, ⟨.inl rfl, ⟨tab2, ⟨tab3, ⟨tab4, ⟨tab5, ⟨tab6, ⟨tab7, ⟨tab8, ⟨tab9, ⟨tab10, ⟨tab11, ⟨tab12, ⟨tab13, ⟨tab14, ⟨tab15, ⟨tab16, ⟨tab17, ⟨tab18, ⟨tab19, ⟨tab20, ⟨tab21, ⟨tab22, ⟨tab23, ⟨tab24, ⟨tab25, ⟨tab26, ⟨tab27, ⟨tab28, ⟨tab29, ⟨tab30, ⟨tab31, ⟨tab32, ⟨tab33, ⟨.inl rfl, ⟨.inl rfl, ⟨tab36, ⟨tab37, ⟨tab38, ⟨tab39, ⟨tab40, ⟨tab41, ⟨tab42, ⟨.inl rfl, ⟨.inl rfl, ⟨tab45, ⟨tab46, ⟨tab47, ⟨tab48, ⟨tab49, ⟨tab50, ⟨tab51, ⟨.inl rfl, ⟨.inl rfl, ⟨tab54, ⟨.inl rfl, ⟨.inl rfl, ⟨.inl rfl, ⟨.inl rfl, ⟨.inl rfl, ⟨.inl rfl, ⟨tab61, ⟨tab62, ⟨tab63, ⟨tab64, ⟨tab65, ⟨tab66, ⟨.inl rfl, ⟨tab68, ⟨.inl rfl, ⟨.inl rfl, ⟨.inl rfl, ⟨.inl rfl, ⟨.inl rfl, ⟨.inl rfl, ⟨tab75, ⟨tab76, ⟨.inl rfl, ⟨.inl rfl, ⟨.inl rfl, ⟨.inl rfl, ⟨tab81, ⟨tab82, ⟨.inl rfl, ⟨.inl rfl, ⟨.inl rfl, ⟨.inl rfl, ⟨.inl rfl, ⟨.inl rfl, ⟨.inl rfl, ⟨.inl rfl, ⟨.inl rfl, ⟨.inl rfl, ⟨.inl rfl, ⟨.inl rfl, ⟨.inl rfl, ⟨.inl rfl, ⟨.inl rfl, ⟨.inl rfl, ⟨.inl rfl, ⟨.inl rfl, ⟨.inl rfl, ⟨.inl rfl, ⟨.inl rfl, ⟨.inl rfl, ⟨.inl rfl, ⟨.inl rfl, ⟨.inl rfl, ⟨.inl rfl, ⟨.inl rfl, ⟨.inl rfl, ⟨.inl rfl, ⟨.inl rfl, ⟨.inl rfl, ⟨.inl rfl, ⟨.inl rfl, ⟨tab116, ⟨.inl rfl, ⟨tab118, ⟨tab119, ⟨tab120, ⟨.inl rfl, ⟨.inl rfl, ⟨.inl rfl, ⟨.inl rfl, ⟨.inl rfl, ⟨.inl rfl, ⟨.inl rfl, ⟨tab128, ⟨.inl rfl, ⟨.inl rfl, ⟨.inl rfl, ⟨.inl rfl, ⟨.inl rfl, ⟨.inl rfl, ⟨.inl rfl, ⟨.inl rfl, ⟨.inl rfl, ⟨.inl rfl, ⟨tab139, ⟨tab140, ⟨tab141, ⟨.inl rfl, ⟨.inl rfl, ⟨tab144, ⟨tab145, ⟨.inl rfl, ⟨.inl rfl, ⟨.inl rfl, ⟨.inl rfl, ⟨.inl rfl, ⟨.inl rfl, ⟨.inl rfl, ⟨.inl rfl, ⟨.inl rfl, ⟨.inl rfl, ⟨.inl rfl, ⟨.inl rfl, ⟨.inl rfl, ⟨.inl rfl, ⟨.inl rfl, ⟨tab161, ⟨tab162, ⟨.inl rfl, ⟨.inl rfl, ⟨.inl rfl, ⟨.inl rfl, ⟨.inl rfl, ⟨.inl rfl, ⟨.inl rfl, ⟨.inl rfl, ⟨.inl rfl, ⟨.inl rfl, ⟨.inl rfl, ⟨.inl rfl, ⟨tab175, ⟨.inl rfl, ⟨.inl rfl, ⟨.inl rfl, ⟨.inl rfl, ⟨.inl rfl, ⟨.inl rfl, ⟨.inl rfl, ⟨.inl rfl, ⟨.inl rfl, ⟨.inl rfl, ⟨.inl rfl, ⟨.inl rfl, ⟨.inl rfl, ⟨.inl rfl, ⟨.inl rfl, ⟨.inl rfl, ⟨tab192, ⟨.inl rfl, ⟨.inl rfl, ⟨.inl rfl, ⟨.inl rfl, ⟨.inl rfl, ⟨.inl rfl, ⟨.inl rfl, ⟨tab200, ⟨.inl rfl, ⟨.inl rfl, ⟨.inl rfl, ⟨.inl rfl, ⟨.inl rfl, ⟨.inl rfl, ⟨.inl rfl, ⟨tab208, ⟨.inl rfl, ⟨.inl rfl, ⟨tab211, ⟨tab212, ⟨tab213, ⟨tab214, ⟨tab215, ⟨.inl rfl, ⟨tab217, ⟨tab218, ⟨.inl rfl, ⟨tab220, ⟨tab221, ⟨tab222, ⟨tab223, ⟨tab224, ⟨.inl rfl, trivial⟩⟩⟩⟩⟩⟩⟩⟩⟩⟩⟩⟩⟩⟩⟩⟩⟩⟩⟩⟩⟩⟩⟩⟩⟩⟩⟩⟩⟩⟩⟩⟩⟩⟩⟩⟩⟩⟩⟩⟩⟩⟩⟩⟩⟩⟩⟩⟩⟩⟩⟩⟩⟩⟩⟩⟩⟩⟩⟩⟩⟩⟩⟩⟩⟩⟩⟩⟩⟩⟩⟩⟩⟩⟩⟩⟩⟩⟩⟩⟩⟩⟩⟩⟩⟩⟩⟩⟩⟩⟩⟩⟩⟩⟩⟩⟩⟩⟩⟩⟩⟩⟩⟩⟩⟩⟩⟩⟩⟩⟩⟩⟩⟩⟩⟩⟩⟩⟩⟩⟩⟩⟩⟩⟩⟩⟩⟩⟩⟩⟩⟩⟩⟩⟩⟩⟩⟩⟩⟩⟩⟩⟩⟩⟩⟩⟩⟩⟩⟩⟩⟩⟩⟩⟩⟩⟩⟩⟩⟩⟩⟩⟩⟩⟩⟩⟩⟩⟩⟩⟩⟩⟩⟩⟩⟩⟩⟩⟩⟩⟩⟩⟩⟩⟩⟩⟩⟩⟩⟩⟩⟩⟩⟩⟩⟩⟩⟩⟩⟩⟩⟩⟩⟩⟩⟩⟩⟩⟩⟩⟩⟩⟩⟩⟩⟩⟩⟩⟩⟩⟩⟩⟩⟩⟩⟩⟩)
end Go.Proofs.Ytijkfjahgijphaa
