/- The table of the seat's types, and that it fits the program. Written by gentabp.py. -/
import Derived.Test.YtjapbanelfcjhaaEvTab
import Derived.Test.YtjapbanelfcjhaaChecked
import Derived.KernelRfl
set_option linter.unusedVariables false
set_option maxRecDepth 100000
namespace Go.Proofs.Ytjapbanelfcjhaa
open Go E
def T : List TI := [
  TI.none,
  TI.none,
  ⟨(.int .i64), 1, 8, [(.int .i64 0)], false⟩,
  ⟨(.int .i64), 1, 8, [(.int .i64 0)], false⟩,
  ⟨.bool, 1, 1, [(.bool false)], false⟩,
  ⟨(.int .u8), 1, 1, [(.int .u8 0)], false⟩,
  ⟨(.int .u8), 1, 1, [(.int .u8 0)], false⟩,
  ⟨(.struct [(0, 2), (1, 3), (2, 4), (3, 6)]), 4, 24, [(.int .i64 0), (.int .i64 0), (.bool false), (.int .u8 0)], false⟩,
  ⟨(.struct [(0, 2), (1, 3), (2, 4), (3, 6)]), 4, 24, [(.int .i64 0), (.int .i64 0), (.bool false), (.int .u8 0)], false⟩,
  ⟨.str, 1, 16, [(.string ⟨#[]⟩)], false⟩,
  ⟨.str, 1, 16, [(.string ⟨#[]⟩)], false⟩,
  ⟨.str, 1, 16, [(.string ⟨#[]⟩)], false⟩,
  ⟨(.int .u64), 1, 8, [(.int .u64 0)], false⟩,
  ⟨(.struct [(0, 9), (1, 12)]), 2, 24, [(.string ⟨#[]⟩), (.int .u64 0)], false⟩,
  ⟨(.struct [(0, 9), (1, 12)]), 2, 24, [(.string ⟨#[]⟩), (.int .u64 0)], false⟩,
  ⟨(.ptr 173), 1, 8, [(.pointer none)], false⟩,
  ⟨(.ptr 176), 1, 8, [(.pointer none)], false⟩,
  ⟨(.ptr 185), 1, 8, [(.pointer none)], false⟩,
  ⟨(.struct [(0, 17)]), 1, 8, [(.pointer none)], false⟩,
  ⟨(.struct [(0, 17)]), 1, 8, [(.pointer none)], false⟩,
  ⟨.iface, 1, 16, [.nilIface], false⟩,
  ⟨(.int .i32), 1, 4, [(.int .i32 0)], false⟩,
  ⟨(.slice 26), 1, 24, [(.slice none 0 0)], false⟩,
  TI.none,
  ⟨(.ptr 120), 1, 8, [(.pointer none)], false⟩,
  TI.none,
  ⟨(.slice 5), 1, 24, [(.slice none 0 0)], false⟩,
  ⟨.iface, 1, 16, [.nilIface], false⟩,
  ⟨.iface, 1, 16, [.nilIface], false⟩,
  TI.none,
  TI.none,
  ⟨(.int .i64), 1, 8, [(.int .i64 0)], false⟩,
  TI.none,
  TI.none,
  ⟨(.flt .f64), 1, 8, [(.float .f64 0)], false⟩,
  ⟨(.slice 37), 1, 24, [(.slice none 0 0)], false⟩,
  ⟨(.struct [(0, 3), (1, 9), (2, 3), (3, 34), (4, 34), (5, 35)]), 6, 72, [(.int .i64 0), (.string ⟨#[]⟩), (.int .i64 0), (.float .f64 0), (.float .f64 0), (.slice none 0 0)], false⟩,
  ⟨(.struct [(0, 3), (1, 9), (2, 3), (3, 34), (4, 34), (5, 35)]), 6, 72, [(.int .i64 0), (.string ⟨#[]⟩), (.int .i64 0), (.float .f64 0), (.float .f64 0), (.slice none 0 0)], false⟩,
  ⟨(.slice 148), 1, 24, [(.slice none 0 0)], false⟩,
  ⟨(.arr 8 3), 8, 64, [(.int .i64 0), (.int .i64 0), (.int .i64 0), (.int .i64 0), (.int .i64 0), (.int .i64 0), (.int .i64 0), (.int .i64 0)], false⟩,
  ⟨(.arr 8 3), 8, 64, [(.int .i64 0), (.int .i64 0), (.int .i64 0), (.int .i64 0), (.int .i64 0), (.int .i64 0), (.int .i64 0), (.int .i64 0)], true⟩,
  ⟨(.slice 145), 1, 24, [(.slice none 0 0)], false⟩,
  ⟨(.struct [(0, 40), (8, 41)]), 9, 88, [(.int .i64 0), (.int .i64 0), (.int .i64 0), (.int .i64 0), (.int .i64 0), (.int .i64 0), (.int .i64 0), (.int .i64 0), (.slice none 0 0)], false⟩,
  ⟨(.struct [(0, 40), (8, 41)]), 9, 88, [(.int .i64 0), (.int .i64 0), (.int .i64 0), (.int .i64 0), (.int .i64 0), (.int .i64 0), (.int .i64 0), (.int .i64 0), (.slice none 0 0)], false⟩,
  ⟨(.struct [(0, 3), (1, 37), (7, 38), (8, 38), (9, 43), (18, 3), (19, 3), (20, 3)]), 21, 240, [(.int .i64 0), (.int .i64 0), (.string ⟨#[]⟩), (.int .i64 0), (.float .f64 0), (.float .f64 0), (.slice none 0 0), (.slice none 0 0), (.slice none 0 0), (.int .i64 0), (.int .i64 0), (.int .i64 0), (.int .i64 0), (.int .i64 0), (.int .i64 0), (.int .i64 0), (.int .i64 0), (.slice none 0 0), (.int .i64 0), (.int .i64 0), (.int .i64 0)], false⟩,
  ⟨(.struct [(0, 3), (1, 37), (7, 38), (8, 38), (9, 43), (18, 3), (19, 3), (20, 3)]), 21, 240, [(.int .i64 0), (.int .i64 0), (.string ⟨#[]⟩), (.int .i64 0), (.float .f64 0), (.float .f64 0), (.slice none 0 0), (.slice none 0 0), (.slice none 0 0), (.int .i64 0), (.int .i64 0), (.int .i64 0), (.int .i64 0), (.int .i64 0), (.int .i64 0), (.int .i64 0), (.int .i64 0), (.slice none 0 0), (.int .i64 0), (.int .i64 0), (.int .i64 0)], false⟩,
  TI.none,
  ⟨(.cplx .f64), 1, 16, [(.complex .f64 0 0)], false⟩,
  ⟨(.slice 50), 1, 24, [(.slice none 0 0)], false⟩,
  ⟨(.struct [(0, 3), (1, 9), (2, 3), (3, 47), (4, 48)]), 5, 72, [(.int .i64 0), (.string ⟨#[]⟩), (.int .i64 0), (.complex .f64 0 0), (.slice none 0 0)], false⟩,
  ⟨(.struct [(0, 3), (1, 9), (2, 3), (3, 47), (4, 48)]), 5, 72, [(.int .i64 0), (.string ⟨#[]⟩), (.int .i64 0), (.complex .f64 0 0), (.slice none 0 0)], false⟩,
  ⟨(.slice 77), 1, 24, [(.slice none 0 0)], false⟩,
  ⟨(.struct [(0, 3), (1, 50), (6, 51), (7, 51), (8, 43), (17, 3), (18, 3), (19, 3)]), 20, 240, [(.int .i64 0), (.int .i64 0), (.string ⟨#[]⟩), (.int .i64 0), (.complex .f64 0 0), (.slice none 0 0), (.slice none 0 0), (.slice none 0 0), (.int .i64 0), (.int .i64 0), (.int .i64 0), (.int .i64 0), (.int .i64 0), (.int .i64 0), (.int .i64 0), (.int .i64 0), (.slice none 0 0), (.int .i64 0), (.int .i64 0), (.int .i64 0)], false⟩,
  ⟨(.struct [(0, 3), (1, 50), (6, 51), (7, 51), (8, 43), (17, 3), (18, 3), (19, 3)]), 20, 240, [(.int .i64 0), (.int .i64 0), (.string ⟨#[]⟩), (.int .i64 0), (.complex .f64 0 0), (.slice none 0 0), (.slice none 0 0), (.slice none 0 0), (.int .i64 0), (.int .i64 0), (.int .i64 0), (.int .i64 0), (.int .i64 0), (.int .i64 0), (.int .i64 0), (.int .i64 0), (.slice none 0 0), (.int .i64 0), (.int .i64 0), (.int .i64 0)], false⟩,
  TI.none,
  TI.none,
  ⟨(.slice 3), 1, 24, [(.slice none 0 0)], false⟩,
  ⟨(.slice 157), 1, 24, [(.slice none 0 0)], false⟩,
  ⟨(.struct [(0, 3), (1, 3), (2, 3), (3, 3), (4, 56), (5, 4), (6, 4), (7, 4), (8, 3), (9, 43), (18, 57)]), 19, 184, [(.int .i64 0), (.int .i64 0), (.int .i64 0), (.int .i64 0), (.slice none 0 0), (.bool false), (.bool false), (.bool false), (.int .i64 0), (.int .i64 0), (.int .i64 0), (.int .i64 0), (.int .i64 0), (.int .i64 0), (.int .i64 0), (.int .i64 0), (.int .i64 0), (.slice none 0 0), (.slice none 0 0)], false⟩,
  ⟨(.struct [(0, 3), (1, 3), (2, 3), (3, 3), (4, 56), (5, 4), (6, 4), (7, 4), (8, 3), (9, 43), (18, 57)]), 19, 184, [(.int .i64 0), (.int .i64 0), (.int .i64 0), (.int .i64 0), (.slice none 0 0), (.bool false), (.bool false), (.bool false), (.int .i64 0), (.int .i64 0), (.int .i64 0), (.int .i64 0), (.int .i64 0), (.int .i64 0), (.int .i64 0), (.int .i64 0), (.int .i64 0), (.slice none 0 0), (.slice none 0 0)], false⟩,
  ⟨(.slice 75), 1, 24, [(.slice none 0 0)], false⟩,
  ⟨(.struct [(0, 3), (1, 3), (2, 3), (3, 3), (4, 3), (5, 50), (10, 43), (19, 60), (20, 3), (21, 57), (22, 4)]), 23, 264, [(.int .i64 0), (.int .i64 0), (.int .i64 0), (.int .i64 0), (.int .i64 0), (.int .i64 0), (.string ⟨#[]⟩), (.int .i64 0), (.complex .f64 0 0), (.slice none 0 0), (.int .i64 0), (.int .i64 0), (.int .i64 0), (.int .i64 0), (.int .i64 0), (.int .i64 0), (.int .i64 0), (.int .i64 0), (.slice none 0 0), (.slice none 0 0), (.int .i64 0), (.slice none 0 0), (.bool false)], false⟩,
  ⟨(.struct [(0, 3), (1, 3), (2, 3), (3, 3), (4, 3), (5, 50), (10, 43), (19, 60), (20, 3), (21, 57), (22, 4)]), 23, 264, [(.int .i64 0), (.int .i64 0), (.int .i64 0), (.int .i64 0), (.int .i64 0), (.int .i64 0), (.string ⟨#[]⟩), (.int .i64 0), (.complex .f64 0 0), (.slice none 0 0), (.int .i64 0), (.int .i64 0), (.int .i64 0), (.int .i64 0), (.int .i64 0), (.int .i64 0), (.int .i64 0), (.int .i64 0), (.slice none 0 0), (.slice none 0 0), (.int .i64 0), (.slice none 0 0), (.bool false)], false⟩,
  TI.none,
  TI.none,
  ⟨(.struct [(0, 3), (1, 3), (2, 3), (3, 3), (4, 56), (5, 4), (6, 4), (7, 4), (8, 3), (9, 43), (18, 57)]), 19, 184, [(.int .i64 0), (.int .i64 0), (.int .i64 0), (.int .i64 0), (.slice none 0 0), (.bool false), (.bool false), (.bool false), (.int .i64 0), (.int .i64 0), (.int .i64 0), (.int .i64 0), (.int .i64 0), (.int .i64 0), (.int .i64 0), (.int .i64 0), (.int .i64 0), (.slice none 0 0), (.slice none 0 0)], false⟩,
  TI.none,
  TI.none,
  TI.none,
  TI.none,
  TI.none,
  TI.none,
  ⟨(.struct [(0, 3), (1, 3)]), 2, 16, [(.int .i64 0), (.int .i64 0)], false⟩,
  ⟨(.struct [(0, 3), (1, 3)]), 2, 16, [(.int .i64 0), (.int .i64 0)], true⟩,
  ⟨(.struct [(0, 9), (1, 73), (3, 3)]), 4, 40, [(.string ⟨#[]⟩), (.int .i64 0), (.int .i64 0), (.int .i64 0)], false⟩,
  ⟨(.struct [(0, 9), (1, 73), (3, 3)]), 4, 40, [(.string ⟨#[]⟩), (.int .i64 0), (.int .i64 0), (.int .i64 0)], false⟩,
  ⟨(.struct [(0, 9), (1, 73), (3, 3), (4, 9), (5, 3), (6, 47), (7, 4)]), 8, 88, [(.string ⟨#[]⟩), (.int .i64 0), (.int .i64 0), (.int .i64 0), (.string ⟨#[]⟩), (.int .i64 0), (.complex .f64 0 0), (.bool false)], false⟩,
  ⟨(.struct [(0, 9), (1, 73), (3, 3), (4, 9), (5, 3), (6, 47), (7, 4)]), 8, 88, [(.string ⟨#[]⟩), (.int .i64 0), (.int .i64 0), (.int .i64 0), (.string ⟨#[]⟩), (.int .i64 0), (.complex .f64 0 0), (.bool false)], false⟩,
  TI.none,
  TI.none,
  TI.none,
  TI.none,
  TI.none,
  TI.none,
  TI.none,
  TI.none,
  ⟨(.slice 92), 1, 24, [(.slice none 0 0)], false⟩,
  ⟨(.struct [(0, 26), (1, 3), (2, 4)]), 3, 40, [(.slice none 0 0), (.int .i64 0), (.bool false)], false⟩,
  ⟨(.struct [(0, 26), (1, 3), (2, 4)]), 3, 40, [(.slice none 0 0), (.int .i64 0), (.bool false)], false⟩,
  TI.none,
  TI.none,
  ⟨(.struct [(0, 3), (1, 3), (2, 26)]), 3, 40, [(.int .i64 0), (.int .i64 0), (.slice none 0 0)], false⟩,
  ⟨(.struct [(0, 3), (1, 3), (2, 26)]), 3, 40, [(.int .i64 0), (.int .i64 0), (.slice none 0 0)], false⟩,
  TI.none,
  TI.none,
  TI.none,
  TI.none,
  TI.none,
  TI.none,
  TI.none,
  TI.none,
  TI.none,
  TI.none,
  TI.none,
  TI.none,
  TI.none,
  TI.none,
  TI.none,
  TI.none,
  TI.none,
  TI.none,
  TI.none,
  TI.none,
  TI.none,
  ⟨(.int .u32), 1, 4, [(.int .u32 0)], false⟩,
  TI.none,
  TI.none,
  TI.none,
  TI.none,
  ⟨(.struct [(0, 26), (1, 4), (2, 3), (3, 4)]), 4, 48, [(.slice none 0 0), (.bool false), (.int .i64 0), (.bool false)], false⟩,
  ⟨(.struct [(0, 26), (1, 4), (2, 3), (3, 4)]), 4, 48, [(.slice none 0 0), (.bool false), (.int .i64 0), (.bool false)], false⟩,
  TI.none,
  TI.none,
  TI.none,
  TI.none,
  TI.none,
  TI.none,
  TI.none,
  TI.none,
  TI.none,
  TI.none,
  TI.none,
  TI.none,
  TI.none,
  TI.none,
  TI.none,
  TI.none,
  TI.none,
  ⟨(.ptr 88), 1, 8, [(.pointer none)], false⟩,
  TI.none,
  ⟨(.int .u64), 1, 8, [(.int .u64 0)], false⟩,
  ⟨(.int .u64), 1, 8, [(.int .u64 0)], false⟩,
  TI.none,
  ⟨(.slice 9), 1, 24, [(.slice none 0 0)], false⟩,
  ⟨(.struct [(0, 143), (1, 40)]), 9, 88, [(.slice none 0 0), (.int .i64 0), (.int .i64 0), (.int .i64 0), (.int .i64 0), (.int .i64 0), (.int .i64 0), (.int .i64 0), (.int .i64 0)], false⟩,
  ⟨(.struct [(0, 143), (1, 40)]), 9, 88, [(.slice none 0 0), (.int .i64 0), (.int .i64 0), (.int .i64 0), (.int .i64 0), (.int .i64 0), (.int .i64 0), (.int .i64 0), (.int .i64 0)], false⟩,
  TI.none,
  ⟨(.struct [(0, 9), (1, 3), (2, 3), (3, 3), (4, 9), (5, 3), (6, 34), (7, 34), (8, 4)]), 9, 88, [(.string ⟨#[]⟩), (.int .i64 0), (.int .i64 0), (.int .i64 0), (.string ⟨#[]⟩), (.int .i64 0), (.float .f64 0), (.float .f64 0), (.bool false)], false⟩,
  ⟨(.struct [(0, 9), (1, 3), (2, 3), (3, 3), (4, 9), (5, 3), (6, 34), (7, 34), (8, 4)]), 9, 88, [(.string ⟨#[]⟩), (.int .i64 0), (.int .i64 0), (.int .i64 0), (.string ⟨#[]⟩), (.int .i64 0), (.float .f64 0), (.float .f64 0), (.bool false)], false⟩,
  TI.none,
  TI.none,
  TI.none,
  TI.none,
  TI.none,
  TI.none,
  TI.none,
  ⟨(.struct [(0, 77), (8, 4), (9, 73)]), 11, 112, [(.string ⟨#[]⟩), (.int .i64 0), (.int .i64 0), (.int .i64 0), (.string ⟨#[]⟩), (.int .i64 0), (.complex .f64 0 0), (.bool false), (.bool false), (.int .i64 0), (.int .i64 0)], false⟩,
  ⟨(.struct [(0, 77), (8, 4), (9, 73)]), 11, 112, [(.string ⟨#[]⟩), (.int .i64 0), (.int .i64 0), (.int .i64 0), (.string ⟨#[]⟩), (.int .i64 0), (.complex .f64 0 0), (.bool false), (.bool false), (.int .i64 0), (.int .i64 0)], false⟩,
  TI.none,
  TI.none,
  TI.none,
  TI.none,
  TI.none,
  TI.none,
  TI.none,
  TI.none,
  TI.none,
  TI.none,
  TI.none,
  TI.none,
  TI.none,
  TI.none,
  ⟨(.struct [(0, 17), (1, 17), (2, 17), (3, 9)]), 4, 40, [(.pointer none), (.pointer none), (.pointer none), (.string ⟨#[]⟩)], false⟩,
  ⟨(.struct [(0, 17), (1, 17), (2, 17), (3, 9)]), 4, 40, [(.pointer none), (.pointer none), (.pointer none), (.string ⟨#[]⟩)], false⟩,
  ⟨(.arr 0 16), 0, 0, [], false⟩,
  ⟨(.struct [(0, 174)]), 0, 0, [], false⟩,
  ⟨(.struct [(0, 174)]), 0, 0, [], false⟩,
  TI.none,
  ⟨(.int .u8), 1, 1, [(.int .u8 0)], false⟩,
  ⟨(.int .u8), 1, 1, [(.int .u8 0)], false⟩,
  TI.none,
  ⟨(.ptr 5), 1, 8, [(.pointer none)], false⟩,
  ⟨(.int .i32), 1, 4, [(.int .i32 0)], false⟩,
  ⟨(.int .i32), 1, 4, [(.int .i32 0)], false⟩,
  ⟨(.struct [(0, 12), (1, 12), (2, 114), (3, 178), (4, 5), (5, 5), (6, 179), (7, 180), (8, 181), (9, 182), (10, 183)]), 11, 48, [(.int .u64 0), (.int .u64 0), (.int .u32 0), (.int .u8 0), (.int .u8 0), (.int .u8 0), (.int .u8 0), .nilFunc, (.pointer none), (.int .i32 0), (.int .i32 0)], false⟩,
  ⟨(.struct [(0, 12), (1, 12), (2, 114), (3, 178), (4, 5), (5, 5), (6, 179), (7, 180), (8, 181), (9, 182), (10, 183)]), 11, 48, [(.int .u64 0), (.int .u64 0), (.int .u32 0), (.int .u8 0), (.int .u8 0), (.int .u8 0), (.int .u8 0), .nilFunc, (.pointer none), (.int .i32 0), (.int .i32 0)], false⟩,
  TI.none]
theorem eqd3 : EqD Try.prog 3 false [(.int .i64 0)] 1 := .int Try.underlying3
theorem eqd40 : EqD Try.prog 40 true [(.int .i64 0), (.int .i64 0), (.int .i64 0), (.int .i64 0), (.int .i64 0), (.int .i64 0), (.int .i64 0), (.int .i64 0)] 2 := .array Try.underlying40 (i := Try.t40) (by kernel_rfl) rfl (ie := Try.t3) (by kernel_rfl) rfl rfl eqd3
theorem eqd73 : EqD Try.prog 73 true [(.int .i64 0), (.int .i64 0)] 2 := .struct Try.underlying73 (by kernel_rfl) (i := Try.t73) (by kernel_rfl) rfl (.cons' (by decide) rfl (eqd3) (.cons' (by decide) rfl (eqd3) (.nil) rfl) rfl)
theorem tab2 : TIOk Try.prog 2 ⟨(.int .i64), 1, 8, [(.int .i64 0)], false⟩ := row (i := Try.t2) (zv := (.int .i64 0)) Try.underlying2 rfl (by kernel_rfl) rfl rfl rfl rfl (.inr rfl) (.inl rfl) rfl rfl rfl
theorem tab3 : TIOk Try.prog 3 ⟨(.int .i64), 1, 8, [(.int .i64 0)], false⟩ := row (i := Try.t3) (zv := (.int .i64 0)) Try.underlying3 rfl (by kernel_rfl) rfl rfl rfl rfl (.inr rfl) (.inl rfl) rfl rfl rfl
theorem tab4 : TIOk Try.prog 4 ⟨.bool, 1, 1, [(.bool false)], false⟩ := row (i := Try.t4) (zv := (.bool false)) Try.underlying4 rfl (by kernel_rfl) rfl rfl rfl rfl (.inr rfl) (.inr nofun) rfl rfl rfl
theorem tab5 : TIOk Try.prog 5 ⟨(.int .u8), 1, 1, [(.int .u8 0)], false⟩ := row (i := Try.t5) (zv := (.int .u8 0)) Try.underlying5 rfl (by kernel_rfl) rfl rfl rfl rfl (.inr rfl) (.inl rfl) rfl rfl rfl
theorem tab6 : TIOk Try.prog 6 ⟨(.int .u8), 1, 1, [(.int .u8 0)], false⟩ := row (i := Try.t6) (zv := (.int .u8 0)) Try.underlying6 rfl (by kernel_rfl) rfl rfl rfl rfl (.inr rfl) (.inl rfl) rfl rfl rfl
theorem tab7 : TIOk Try.prog 7 ⟨(.struct [(0, 2), (1, 3), (2, 4), (3, 6)]), 4, 24, [(.int .i64 0), (.int .i64 0), (.bool false), (.int .u8 0)], false⟩ := row (i := Try.t7) (zv := (.agg #[(.int .i64 0), (.int .i64 0), (.bool false), (.int .u8 0)])) ⟨_, Try.underlying7, rfl⟩ rfl (by kernel_rfl) rfl rfl rfl rfl (.inl rfl) (.inr nofun) rfl rfl rfl
theorem tab8 : TIOk Try.prog 8 ⟨(.struct [(0, 2), (1, 3), (2, 4), (3, 6)]), 4, 24, [(.int .i64 0), (.int .i64 0), (.bool false), (.int .u8 0)], false⟩ := row (i := Try.t8) (zv := (.agg #[(.int .i64 0), (.int .i64 0), (.bool false), (.int .u8 0)])) ⟨_, Try.underlying8, rfl⟩ rfl (by kernel_rfl) rfl rfl rfl rfl (.inl rfl) (.inr nofun) rfl rfl rfl
theorem tab9 : TIOk Try.prog 9 ⟨.str, 1, 16, [(.string ⟨#[]⟩)], false⟩ := row (i := Try.t9) (zv := (.string ⟨#[]⟩)) Try.underlying9 rfl (by kernel_rfl) rfl rfl rfl rfl (.inr rfl) (.inr nofun) rfl rfl rfl
theorem tab10 : TIOk Try.prog 10 ⟨.str, 1, 16, [(.string ⟨#[]⟩)], false⟩ := row (i := Try.t10) (zv := (.string ⟨#[]⟩)) Try.underlying10 rfl (by kernel_rfl) rfl rfl rfl rfl (.inr rfl) (.inr nofun) rfl rfl rfl
theorem tab11 : TIOk Try.prog 11 ⟨.str, 1, 16, [(.string ⟨#[]⟩)], false⟩ := row (i := Try.t11) (zv := (.string ⟨#[]⟩)) Try.underlying11 rfl (by kernel_rfl) rfl rfl rfl rfl (.inr rfl) (.inr nofun) rfl rfl rfl
theorem tab12 : TIOk Try.prog 12 ⟨(.int .u64), 1, 8, [(.int .u64 0)], false⟩ := row (i := Try.t12) (zv := (.int .u64 0)) Try.underlying12 rfl (by kernel_rfl) rfl rfl rfl rfl (.inr rfl) (.inl rfl) rfl rfl rfl
theorem tab13 : TIOk Try.prog 13 ⟨(.struct [(0, 9), (1, 12)]), 2, 24, [(.string ⟨#[]⟩), (.int .u64 0)], false⟩ := row (i := Try.t13) (zv := (.agg #[(.string ⟨#[]⟩), (.int .u64 0)])) ⟨_, Try.underlying13, rfl⟩ rfl (by kernel_rfl) rfl rfl rfl rfl (.inl rfl) (.inr nofun) rfl rfl rfl
theorem tab14 : TIOk Try.prog 14 ⟨(.struct [(0, 9), (1, 12)]), 2, 24, [(.string ⟨#[]⟩), (.int .u64 0)], false⟩ := row (i := Try.t14) (zv := (.agg #[(.string ⟨#[]⟩), (.int .u64 0)])) ⟨_, Try.underlying14, rfl⟩ rfl (by kernel_rfl) rfl rfl rfl rfl (.inl rfl) (.inr nofun) rfl rfl rfl
theorem tab15 : TIOk Try.prog 15 ⟨(.ptr 173), 1, 8, [(.pointer none)], false⟩ := row (i := Try.t15) (zv := (.pointer none)) Try.underlying15 rfl (by kernel_rfl) rfl rfl rfl rfl (.inr rfl) (.inr nofun) rfl rfl rfl
theorem tab16 : TIOk Try.prog 16 ⟨(.ptr 176), 1, 8, [(.pointer none)], false⟩ := row (i := Try.t16) (zv := (.pointer none)) Try.underlying16 rfl (by kernel_rfl) rfl rfl rfl rfl (.inr rfl) (.inr nofun) rfl rfl rfl
theorem tab17 : TIOk Try.prog 17 ⟨(.ptr 185), 1, 8, [(.pointer none)], false⟩ := row (i := Try.t17) (zv := (.pointer none)) Try.underlying17 rfl (by kernel_rfl) rfl rfl rfl rfl (.inr rfl) (.inr nofun) rfl rfl rfl
theorem tab18 : TIOk Try.prog 18 ⟨(.struct [(0, 17)]), 1, 8, [(.pointer none)], false⟩ := row (i := Try.t18) (zv := (.agg #[(.pointer none)])) ⟨_, Try.underlying18, rfl⟩ rfl (by kernel_rfl) rfl rfl rfl rfl (.inl rfl) (.inr nofun) rfl rfl rfl
theorem tab19 : TIOk Try.prog 19 ⟨(.struct [(0, 17)]), 1, 8, [(.pointer none)], false⟩ := row (i := Try.t19) (zv := (.agg #[(.pointer none)])) ⟨_, Try.underlying19, rfl⟩ rfl (by kernel_rfl) rfl rfl rfl rfl (.inl rfl) (.inr nofun) rfl rfl rfl
theorem tab20 : TIOk Try.prog 20 ⟨.iface, 1, 16, [.nilIface], false⟩ := row (i := Try.t20) (zv := .nilIface) ⟨_, Try.underlying20⟩ rfl (by kernel_rfl) rfl rfl rfl rfl (.inr rfl) (.inr nofun) rfl rfl rfl
theorem tab21 : TIOk Try.prog 21 ⟨(.int .i32), 1, 4, [(.int .i32 0)], false⟩ := row (i := Try.t21) (zv := (.int .i32 0)) Try.underlying21 rfl (by kernel_rfl) rfl rfl rfl rfl (.inr rfl) (.inl rfl) rfl rfl rfl
theorem tab22 : TIOk Try.prog 22 ⟨(.slice 26), 1, 24, [(.slice none 0 0)], false⟩ := row (i := Try.t22) (zv := (.slice none 0 0)) Try.underlying22 rfl (by kernel_rfl) rfl rfl rfl rfl (.inr rfl) (.inr nofun) rfl rfl rfl
theorem tab24 : TIOk Try.prog 24 ⟨(.ptr 120), 1, 8, [(.pointer none)], false⟩ := row (i := Try.t24) (zv := (.pointer none)) Try.underlying24 rfl (by kernel_rfl) rfl rfl rfl rfl (.inr rfl) (.inr nofun) rfl rfl rfl
theorem tab26 : TIOk Try.prog 26 ⟨(.slice 5), 1, 24, [(.slice none 0 0)], false⟩ := row (i := Try.t26) (zv := (.slice none 0 0)) Try.underlying26 rfl (by kernel_rfl) rfl rfl rfl rfl (.inr rfl) (.inr nofun) rfl rfl rfl
theorem tab27 : TIOk Try.prog 27 ⟨.iface, 1, 16, [.nilIface], false⟩ := row (i := Try.t27) (zv := .nilIface) ⟨_, Try.underlying27⟩ rfl (by kernel_rfl) rfl rfl rfl rfl (.inr rfl) (.inr nofun) rfl rfl rfl
theorem tab28 : TIOk Try.prog 28 ⟨.iface, 1, 16, [.nilIface], false⟩ := row (i := Try.t28) (zv := .nilIface) ⟨_, Try.underlying28⟩ rfl (by kernel_rfl) rfl rfl rfl rfl (.inr rfl) (.inr nofun) rfl rfl rfl
theorem tab31 : TIOk Try.prog 31 ⟨(.int .i64), 1, 8, [(.int .i64 0)], false⟩ := row (i := Try.t31) (zv := (.int .i64 0)) Try.underlying31 rfl (by kernel_rfl) rfl rfl rfl rfl (.inr rfl) (.inl rfl) rfl rfl rfl
theorem tab34 : TIOk Try.prog 34 ⟨(.flt .f64), 1, 8, [(.float .f64 0)], false⟩ := row (i := Try.t34) (zv := (.float .f64 0)) Try.underlying34 rfl (by kernel_rfl) rfl rfl rfl rfl (.inr rfl) (.inr nofun) rfl rfl rfl
theorem tab35 : TIOk Try.prog 35 ⟨(.slice 37), 1, 24, [(.slice none 0 0)], false⟩ := row (i := Try.t35) (zv := (.slice none 0 0)) Try.underlying35 rfl (by kernel_rfl) rfl rfl rfl rfl (.inr rfl) (.inr nofun) rfl rfl rfl
theorem tab36 : TIOk Try.prog 36 ⟨(.struct [(0, 3), (1, 9), (2, 3), (3, 34), (4, 34), (5, 35)]), 6, 72, [(.int .i64 0), (.string ⟨#[]⟩), (.int .i64 0), (.float .f64 0), (.float .f64 0), (.slice none 0 0)], false⟩ := row (i := Try.t36) (zv := (.agg #[(.int .i64 0), (.string ⟨#[]⟩), (.int .i64 0), (.float .f64 0), (.float .f64 0), (.slice none 0 0)])) ⟨_, Try.underlying36, rfl⟩ rfl (by kernel_rfl) rfl rfl rfl rfl (.inl rfl) (.inr nofun) rfl rfl rfl
theorem tab37 : TIOk Try.prog 37 ⟨(.struct [(0, 3), (1, 9), (2, 3), (3, 34), (4, 34), (5, 35)]), 6, 72, [(.int .i64 0), (.string ⟨#[]⟩), (.int .i64 0), (.float .f64 0), (.float .f64 0), (.slice none 0 0)], false⟩ := row (i := Try.t37) (zv := (.agg #[(.int .i64 0), (.string ⟨#[]⟩), (.int .i64 0), (.float .f64 0), (.float .f64 0), (.slice none 0 0)])) ⟨_, Try.underlying37, rfl⟩ rfl (by kernel_rfl) rfl rfl rfl rfl (.inl rfl) (.inr nofun) rfl rfl rfl
theorem tab38 : TIOk Try.prog 38 ⟨(.slice 148), 1, 24, [(.slice none 0 0)], false⟩ := row (i := Try.t38) (zv := (.slice none 0 0)) Try.underlying38 rfl (by kernel_rfl) rfl rfl rfl rfl (.inr rfl) (.inr nofun) rfl rfl rfl
theorem tab39 : TIOk Try.prog 39 ⟨(.arr 8 3), 8, 64, [(.int .i64 0), (.int .i64 0), (.int .i64 0), (.int .i64 0), (.int .i64 0), (.int .i64 0), (.int .i64 0), (.int .i64 0)], false⟩ := row (i := Try.t39) (zv := (.agg #[(.int .i64 0), (.int .i64 0), (.int .i64 0), (.int .i64 0), (.int .i64 0), (.int .i64 0), (.int .i64 0), (.int .i64 0)])) Try.underlying39 rfl (by kernel_rfl) rfl rfl rfl rfl (.inl rfl) (.inr nofun) rfl rfl rfl
theorem tab40 : TIOk Try.prog 40 ⟨(.arr 8 3), 8, 64, [(.int .i64 0), (.int .i64 0), (.int .i64 0), (.int .i64 0), (.int .i64 0), (.int .i64 0), (.int .i64 0), (.int .i64 0)], true⟩ := rowEq (i := Try.t40) (zv := (.agg #[(.int .i64 0), (.int .i64 0), (.int .i64 0), (.int .i64 0), (.int .i64 0), (.int .i64 0), (.int .i64 0), (.int .i64 0)])) Try.underlying40 rfl (by kernel_rfl) rfl rfl rfl rfl rfl nofun rfl rfl (eqd40.eqP (Nat.le_trans (by decide) (depth_ge _)) (by decide))
theorem tab41 : TIOk Try.prog 41 ⟨(.slice 145), 1, 24, [(.slice none 0 0)], false⟩ := row (i := Try.t41) (zv := (.slice none 0 0)) Try.underlying41 rfl (by kernel_rfl) rfl rfl rfl rfl (.inr rfl) (.inr nofun) rfl rfl rfl
theorem tab42 : TIOk Try.prog 42 ⟨(.struct [(0, 40), (8, 41)]), 9, 88, [(.int .i64 0), (.int .i64 0), (.int .i64 0), (.int .i64 0), (.int .i64 0), (.int .i64 0), (.int .i64 0), (.int .i64 0), (.slice none 0 0)], false⟩ := row (i := Try.t42) (zv := (.agg #[(.int .i64 0), (.int .i64 0), (.int .i64 0), (.int .i64 0), (.int .i64 0), (.int .i64 0), (.int .i64 0), (.int .i64 0), (.slice none 0 0)])) ⟨_, Try.underlying42, rfl⟩ rfl (by kernel_rfl) rfl rfl rfl rfl (.inl rfl) (.inr nofun) rfl rfl rfl
theorem tab43 : TIOk Try.prog 43 ⟨(.struct [(0, 40), (8, 41)]), 9, 88, [(.int .i64 0), (.int .i64 0), (.int .i64 0), (.int .i64 0), (.int .i64 0), (.int .i64 0), (.int .i64 0), (.int .i64 0), (.slice none 0 0)], false⟩ := row (i := Try.t43) (zv := (.agg #[(.int .i64 0), (.int .i64 0), (.int .i64 0), (.int .i64 0), (.int .i64 0), (.int .i64 0), (.int .i64 0), (.int .i64 0), (.slice none 0 0)])) ⟨_, Try.underlying43, rfl⟩ rfl (by kernel_rfl) rfl rfl rfl rfl (.inl rfl) (.inr nofun) rfl rfl rfl
theorem tab44 : TIOk Try.prog 44 ⟨(.struct [(0, 3), (1, 37), (7, 38), (8, 38), (9, 43), (18, 3), (19, 3), (20, 3)]), 21, 240, [(.int .i64 0), (.int .i64 0), (.string ⟨#[]⟩), (.int .i64 0), (.float .f64 0), (.float .f64 0), (.slice none 0 0), (.slice none 0 0), (.slice none 0 0), (.int .i64 0), (.int .i64 0), (.int .i64 0), (.int .i64 0), (.int .i64 0), (.int .i64 0), (.int .i64 0), (.int .i64 0), (.slice none 0 0), (.int .i64 0), (.int .i64 0), (.int .i64 0)], false⟩ := row (i := Try.t44) (zv := (.agg #[(.int .i64 0), (.int .i64 0), (.string ⟨#[]⟩), (.int .i64 0), (.float .f64 0), (.float .f64 0), (.slice none 0 0), (.slice none 0 0), (.slice none 0 0), (.int .i64 0), (.int .i64 0), (.int .i64 0), (.int .i64 0), (.int .i64 0), (.int .i64 0), (.int .i64 0), (.int .i64 0), (.slice none 0 0), (.int .i64 0), (.int .i64 0), (.int .i64 0)])) ⟨_, Try.underlying44, rfl⟩ rfl (by kernel_rfl) rfl rfl rfl rfl (.inl rfl) (.inr nofun) rfl rfl rfl
theorem tab45 : TIOk Try.prog 45 ⟨(.struct [(0, 3), (1, 37), (7, 38), (8, 38), (9, 43), (18, 3), (19, 3), (20, 3)]), 21, 240, [(.int .i64 0), (.int .i64 0), (.string ⟨#[]⟩), (.int .i64 0), (.float .f64 0), (.float .f64 0), (.slice none 0 0), (.slice none 0 0), (.slice none 0 0), (.int .i64 0), (.int .i64 0), (.int .i64 0), (.int .i64 0), (.int .i64 0), (.int .i64 0), (.int .i64 0), (.int .i64 0), (.slice none 0 0), (.int .i64 0), (.int .i64 0), (.int .i64 0)], false⟩ := row (i := Try.t45) (zv := (.agg #[(.int .i64 0), (.int .i64 0), (.string ⟨#[]⟩), (.int .i64 0), (.float .f64 0), (.float .f64 0), (.slice none 0 0), (.slice none 0 0), (.slice none 0 0), (.int .i64 0), (.int .i64 0), (.int .i64 0), (.int .i64 0), (.int .i64 0), (.int .i64 0), (.int .i64 0), (.int .i64 0), (.slice none 0 0), (.int .i64 0), (.int .i64 0), (.int .i64 0)])) ⟨_, Try.underlying45, rfl⟩ rfl (by kernel_rfl) rfl rfl rfl rfl (.inl rfl) (.inr nofun) rfl rfl rfl
theorem tab47 : TIOk Try.prog 47 ⟨(.cplx .f64), 1, 16, [(.complex .f64 0 0)], false⟩ := row (i := Try.t47) (zv := (.complex .f64 0 0)) Try.underlying47 rfl (by kernel_rfl) rfl rfl rfl rfl (.inr rfl) (.inr nofun) rfl rfl rfl
theorem tab48 : TIOk Try.prog 48 ⟨(.slice 50), 1, 24, [(.slice none 0 0)], false⟩ := row (i := Try.t48) (zv := (.slice none 0 0)) Try.underlying48 rfl (by kernel_rfl) rfl rfl rfl rfl (.inr rfl) (.inr nofun) rfl rfl rfl
theorem tab49 : TIOk Try.prog 49 ⟨(.struct [(0, 3), (1, 9), (2, 3), (3, 47), (4, 48)]), 5, 72, [(.int .i64 0), (.string ⟨#[]⟩), (.int .i64 0), (.complex .f64 0 0), (.slice none 0 0)], false⟩ := row (i := Try.t49) (zv := (.agg #[(.int .i64 0), (.string ⟨#[]⟩), (.int .i64 0), (.complex .f64 0 0), (.slice none 0 0)])) ⟨_, Try.underlying49, rfl⟩ rfl (by kernel_rfl) rfl rfl rfl rfl (.inl rfl) (.inr nofun) rfl rfl rfl
theorem tab50 : TIOk Try.prog 50 ⟨(.struct [(0, 3), (1, 9), (2, 3), (3, 47), (4, 48)]), 5, 72, [(.int .i64 0), (.string ⟨#[]⟩), (.int .i64 0), (.complex .f64 0 0), (.slice none 0 0)], false⟩ := row (i := Try.t50) (zv := (.agg #[(.int .i64 0), (.string ⟨#[]⟩), (.int .i64 0), (.complex .f64 0 0), (.slice none 0 0)])) ⟨_, Try.underlying50, rfl⟩ rfl (by kernel_rfl) rfl rfl rfl rfl (.inl rfl) (.inr nofun) rfl rfl rfl
theorem tab51 : TIOk Try.prog 51 ⟨(.slice 77), 1, 24, [(.slice none 0 0)], false⟩ := row (i := Try.t51) (zv := (.slice none 0 0)) Try.underlying51 rfl (by kernel_rfl) rfl rfl rfl rfl (.inr rfl) (.inr nofun) rfl rfl rfl
theorem tab52 : TIOk Try.prog 52 ⟨(.struct [(0, 3), (1, 50), (6, 51), (7, 51), (8, 43), (17, 3), (18, 3), (19, 3)]), 20, 240, [(.int .i64 0), (.int .i64 0), (.string ⟨#[]⟩), (.int .i64 0), (.complex .f64 0 0), (.slice none 0 0), (.slice none 0 0), (.slice none 0 0), (.int .i64 0), (.int .i64 0), (.int .i64 0), (.int .i64 0), (.int .i64 0), (.int .i64 0), (.int .i64 0), (.int .i64 0), (.slice none 0 0), (.int .i64 0), (.int .i64 0), (.int .i64 0)], false⟩ := row (i := Try.t52) (zv := (.agg #[(.int .i64 0), (.int .i64 0), (.string ⟨#[]⟩), (.int .i64 0), (.complex .f64 0 0), (.slice none 0 0), (.slice none 0 0), (.slice none 0 0), (.int .i64 0), (.int .i64 0), (.int .i64 0), (.int .i64 0), (.int .i64 0), (.int .i64 0), (.int .i64 0), (.int .i64 0), (.slice none 0 0), (.int .i64 0), (.int .i64 0), (.int .i64 0)])) ⟨_, Try.underlying52, rfl⟩ rfl (by kernel_rfl) rfl rfl rfl rfl (.inl rfl) (.inr nofun) rfl rfl rfl
theorem tab53 : TIOk Try.prog 53 ⟨(.struct [(0, 3), (1, 50), (6, 51), (7, 51), (8, 43), (17, 3), (18, 3), (19, 3)]), 20, 240, [(.int .i64 0), (.int .i64 0), (.string ⟨#[]⟩), (.int .i64 0), (.complex .f64 0 0), (.slice none 0 0), (.slice none 0 0), (.slice none 0 0), (.int .i64 0), (.int .i64 0), (.int .i64 0), (.int .i64 0), (.int .i64 0), (.int .i64 0), (.int .i64 0), (.int .i64 0), (.slice none 0 0), (.int .i64 0), (.int .i64 0), (.int .i64 0)], false⟩ := row (i := Try.t53) (zv := (.agg #[(.int .i64 0), (.int .i64 0), (.string ⟨#[]⟩), (.int .i64 0), (.complex .f64 0 0), (.slice none 0 0), (.slice none 0 0), (.slice none 0 0), (.int .i64 0), (.int .i64 0), (.int .i64 0), (.int .i64 0), (.int .i64 0), (.int .i64 0), (.int .i64 0), (.int .i64 0), (.slice none 0 0), (.int .i64 0), (.int .i64 0), (.int .i64 0)])) ⟨_, Try.underlying53, rfl⟩ rfl (by kernel_rfl) rfl rfl rfl rfl (.inl rfl) (.inr nofun) rfl rfl rfl
theorem tab56 : TIOk Try.prog 56 ⟨(.slice 3), 1, 24, [(.slice none 0 0)], false⟩ := row (i := Try.t56) (zv := (.slice none 0 0)) Try.underlying56 rfl (by kernel_rfl) rfl rfl rfl rfl (.inr rfl) (.inr nofun) rfl rfl rfl
theorem tab57 : TIOk Try.prog 57 ⟨(.slice 157), 1, 24, [(.slice none 0 0)], false⟩ := row (i := Try.t57) (zv := (.slice none 0 0)) Try.underlying57 rfl (by kernel_rfl) rfl rfl rfl rfl (.inr rfl) (.inr nofun) rfl rfl rfl
theorem tab58 : TIOk Try.prog 58 ⟨(.struct [(0, 3), (1, 3), (2, 3), (3, 3), (4, 56), (5, 4), (6, 4), (7, 4), (8, 3), (9, 43), (18, 57)]), 19, 184, [(.int .i64 0), (.int .i64 0), (.int .i64 0), (.int .i64 0), (.slice none 0 0), (.bool false), (.bool false), (.bool false), (.int .i64 0), (.int .i64 0), (.int .i64 0), (.int .i64 0), (.int .i64 0), (.int .i64 0), (.int .i64 0), (.int .i64 0), (.int .i64 0), (.slice none 0 0), (.slice none 0 0)], false⟩ := row (i := Try.t58) (zv := (.agg #[(.int .i64 0), (.int .i64 0), (.int .i64 0), (.int .i64 0), (.slice none 0 0), (.bool false), (.bool false), (.bool false), (.int .i64 0), (.int .i64 0), (.int .i64 0), (.int .i64 0), (.int .i64 0), (.int .i64 0), (.int .i64 0), (.int .i64 0), (.int .i64 0), (.slice none 0 0), (.slice none 0 0)])) ⟨_, Try.underlying58, rfl⟩ rfl (by kernel_rfl) rfl rfl rfl rfl (.inl rfl) (.inr nofun) rfl rfl rfl
theorem tab59 : TIOk Try.prog 59 ⟨(.struct [(0, 3), (1, 3), (2, 3), (3, 3), (4, 56), (5, 4), (6, 4), (7, 4), (8, 3), (9, 43), (18, 57)]), 19, 184, [(.int .i64 0), (.int .i64 0), (.int .i64 0), (.int .i64 0), (.slice none 0 0), (.bool false), (.bool false), (.bool false), (.int .i64 0), (.int .i64 0), (.int .i64 0), (.int .i64 0), (.int .i64 0), (.int .i64 0), (.int .i64 0), (.int .i64 0), (.int .i64 0), (.slice none 0 0), (.slice none 0 0)], false⟩ := row (i := Try.t59) (zv := (.agg #[(.int .i64 0), (.int .i64 0), (.int .i64 0), (.int .i64 0), (.slice none 0 0), (.bool false), (.bool false), (.bool false), (.int .i64 0), (.int .i64 0), (.int .i64 0), (.int .i64 0), (.int .i64 0), (.int .i64 0), (.int .i64 0), (.int .i64 0), (.int .i64 0), (.slice none 0 0), (.slice none 0 0)])) ⟨_, Try.underlying59, rfl⟩ rfl (by kernel_rfl) rfl rfl rfl rfl (.inl rfl) (.inr nofun) rfl rfl rfl
theorem tab60 : TIOk Try.prog 60 ⟨(.slice 75), 1, 24, [(.slice none 0 0)], false⟩ := row (i := Try.t60) (zv := (.slice none 0 0)) Try.underlying60 rfl (by kernel_rfl) rfl rfl rfl rfl (.inr rfl) (.inr nofun) rfl rfl rfl
theorem tab61 : TIOk Try.prog 61 ⟨(.struct [(0, 3), (1, 3), (2, 3), (3, 3), (4, 3), (5, 50), (10, 43), (19, 60), (20, 3), (21, 57), (22, 4)]), 23, 264, [(.int .i64 0), (.int .i64 0), (.int .i64 0), (.int .i64 0), (.int .i64 0), (.int .i64 0), (.string ⟨#[]⟩), (.int .i64 0), (.complex .f64 0 0), (.slice none 0 0), (.int .i64 0), (.int .i64 0), (.int .i64 0), (.int .i64 0), (.int .i64 0), (.int .i64 0), (.int .i64 0), (.int .i64 0), (.slice none 0 0), (.slice none 0 0), (.int .i64 0), (.slice none 0 0), (.bool false)], false⟩ := row (i := Try.t61) (zv := (.agg #[(.int .i64 0), (.int .i64 0), (.int .i64 0), (.int .i64 0), (.int .i64 0), (.int .i64 0), (.string ⟨#[]⟩), (.int .i64 0), (.complex .f64 0 0), (.slice none 0 0), (.int .i64 0), (.int .i64 0), (.int .i64 0), (.int .i64 0), (.int .i64 0), (.int .i64 0), (.int .i64 0), (.int .i64 0), (.slice none 0 0), (.slice none 0 0), (.int .i64 0), (.slice none 0 0), (.bool false)])) ⟨_, Try.underlying61, rfl⟩ rfl (by kernel_rfl) rfl rfl rfl rfl (.inl rfl) (.inr nofun) rfl rfl rfl
theorem tab62 : TIOk Try.prog 62 ⟨(.struct [(0, 3), (1, 3), (2, 3), (3, 3), (4, 3), (5, 50), (10, 43), (19, 60), (20, 3), (21, 57), (22, 4)]), 23, 264, [(.int .i64 0), (.int .i64 0), (.int .i64 0), (.int .i64 0), (.int .i64 0), (.int .i64 0), (.string ⟨#[]⟩), (.int .i64 0), (.complex .f64 0 0), (.slice none 0 0), (.int .i64 0), (.int .i64 0), (.int .i64 0), (.int .i64 0), (.int .i64 0), (.int .i64 0), (.int .i64 0), (.int .i64 0), (.slice none 0 0), (.slice none 0 0), (.int .i64 0), (.slice none 0 0), (.bool false)], false⟩ := row (i := Try.t62) (zv := (.agg #[(.int .i64 0), (.int .i64 0), (.int .i64 0), (.int .i64 0), (.int .i64 0), (.int .i64 0), (.string ⟨#[]⟩), (.int .i64 0), (.complex .f64 0 0), (.slice none 0 0), (.int .i64 0), (.int .i64 0), (.int .i64 0), (.int .i64 0), (.int .i64 0), (.int .i64 0), (.int .i64 0), (.int .i64 0), (.slice none 0 0), (.slice none 0 0), (.int .i64 0), (.slice none 0 0), (.bool false)])) ⟨_, Try.underlying62, rfl⟩ rfl (by kernel_rfl) rfl rfl rfl rfl (.inl rfl) (.inr nofun) rfl rfl rfl
theorem tab65 : TIOk Try.prog 65 ⟨(.struct [(0, 3), (1, 3), (2, 3), (3, 3), (4, 56), (5, 4), (6, 4), (7, 4), (8, 3), (9, 43), (18, 57)]), 19, 184, [(.int .i64 0), (.int .i64 0), (.int .i64 0), (.int .i64 0), (.slice none 0 0), (.bool false), (.bool false), (.bool false), (.int .i64 0), (.int .i64 0), (.int .i64 0), (.int .i64 0), (.int .i64 0), (.int .i64 0), (.int .i64 0), (.int .i64 0), (.int .i64 0), (.slice none 0 0), (.slice none 0 0)], false⟩ := row (i := Try.t65) (zv := (.agg #[(.int .i64 0), (.int .i64 0), (.int .i64 0), (.int .i64 0), (.slice none 0 0), (.bool false), (.bool false), (.bool false), (.int .i64 0), (.int .i64 0), (.int .i64 0), (.int .i64 0), (.int .i64 0), (.int .i64 0), (.int .i64 0), (.int .i64 0), (.int .i64 0), (.slice none 0 0), (.slice none 0 0)])) ⟨_, Try.underlying65, rfl⟩ rfl (by kernel_rfl) rfl rfl rfl rfl (.inl rfl) (.inr nofun) rfl rfl rfl
theorem tab72 : TIOk Try.prog 72 ⟨(.struct [(0, 3), (1, 3)]), 2, 16, [(.int .i64 0), (.int .i64 0)], false⟩ := row (i := Try.t72) (zv := (.agg #[(.int .i64 0), (.int .i64 0)])) ⟨_, Try.underlying72, rfl⟩ rfl (by kernel_rfl) rfl rfl rfl rfl (.inl rfl) (.inr nofun) rfl rfl rfl
theorem tab73 : TIOk Try.prog 73 ⟨(.struct [(0, 3), (1, 3)]), 2, 16, [(.int .i64 0), (.int .i64 0)], true⟩ := rowEq (i := Try.t73) (zv := (.agg #[(.int .i64 0), (.int .i64 0)])) ⟨_, Try.underlying73, rfl⟩ rfl (by kernel_rfl) rfl rfl rfl rfl rfl nofun rfl rfl (eqd73.eqP (Nat.le_trans (by decide) (depth_ge _)) (by decide))
theorem tab74 : TIOk Try.prog 74 ⟨(.struct [(0, 9), (1, 73), (3, 3)]), 4, 40, [(.string ⟨#[]⟩), (.int .i64 0), (.int .i64 0), (.int .i64 0)], false⟩ := row (i := Try.t74) (zv := (.agg #[(.string ⟨#[]⟩), (.int .i64 0), (.int .i64 0), (.int .i64 0)])) ⟨_, Try.underlying74, rfl⟩ rfl (by kernel_rfl) rfl rfl rfl rfl (.inl rfl) (.inr nofun) rfl rfl rfl
theorem tab75 : TIOk Try.prog 75 ⟨(.struct [(0, 9), (1, 73), (3, 3)]), 4, 40, [(.string ⟨#[]⟩), (.int .i64 0), (.int .i64 0), (.int .i64 0)], false⟩ := row (i := Try.t75) (zv := (.agg #[(.string ⟨#[]⟩), (.int .i64 0), (.int .i64 0), (.int .i64 0)])) ⟨_, Try.underlying75, rfl⟩ rfl (by kernel_rfl) rfl rfl rfl rfl (.inl rfl) (.inr nofun) rfl rfl rfl
theorem tab76 : TIOk Try.prog 76 ⟨(.struct [(0, 9), (1, 73), (3, 3), (4, 9), (5, 3), (6, 47), (7, 4)]), 8, 88, [(.string ⟨#[]⟩), (.int .i64 0), (.int .i64 0), (.int .i64 0), (.string ⟨#[]⟩), (.int .i64 0), (.complex .f64 0 0), (.bool false)], false⟩ := row (i := Try.t76) (zv := (.agg #[(.string ⟨#[]⟩), (.int .i64 0), (.int .i64 0), (.int .i64 0), (.string ⟨#[]⟩), (.int .i64 0), (.complex .f64 0 0), (.bool false)])) ⟨_, Try.underlying76, rfl⟩ rfl (by kernel_rfl) rfl rfl rfl rfl (.inl rfl) (.inr nofun) rfl rfl rfl
theorem tab77 : TIOk Try.prog 77 ⟨(.struct [(0, 9), (1, 73), (3, 3), (4, 9), (5, 3), (6, 47), (7, 4)]), 8, 88, [(.string ⟨#[]⟩), (.int .i64 0), (.int .i64 0), (.int .i64 0), (.string ⟨#[]⟩), (.int .i64 0), (.complex .f64 0 0), (.bool false)], false⟩ := row (i := Try.t77) (zv := (.agg #[(.string ⟨#[]⟩), (.int .i64 0), (.int .i64 0), (.int .i64 0), (.string ⟨#[]⟩), (.int .i64 0), (.complex .f64 0 0), (.bool false)])) ⟨_, Try.underlying77, rfl⟩ rfl (by kernel_rfl) rfl rfl rfl rfl (.inl rfl) (.inr nofun) rfl rfl rfl
theorem tab86 : TIOk Try.prog 86 ⟨(.slice 92), 1, 24, [(.slice none 0 0)], false⟩ := row (i := Try.t86) (zv := (.slice none 0 0)) Try.underlying86 rfl (by kernel_rfl) rfl rfl rfl rfl (.inr rfl) (.inr nofun) rfl rfl rfl
theorem tab87 : TIOk Try.prog 87 ⟨(.struct [(0, 26), (1, 3), (2, 4)]), 3, 40, [(.slice none 0 0), (.int .i64 0), (.bool false)], false⟩ := row (i := Try.t87) (zv := (.agg #[(.slice none 0 0), (.int .i64 0), (.bool false)])) ⟨_, Try.underlying87, rfl⟩ rfl (by kernel_rfl) rfl rfl rfl rfl (.inl rfl) (.inr nofun) rfl rfl rfl
theorem tab88 : TIOk Try.prog 88 ⟨(.struct [(0, 26), (1, 3), (2, 4)]), 3, 40, [(.slice none 0 0), (.int .i64 0), (.bool false)], false⟩ := row (i := Try.t88) (zv := (.agg #[(.slice none 0 0), (.int .i64 0), (.bool false)])) ⟨_, Try.underlying88, rfl⟩ rfl (by kernel_rfl) rfl rfl rfl rfl (.inl rfl) (.inr nofun) rfl rfl rfl
theorem tab91 : TIOk Try.prog 91 ⟨(.struct [(0, 3), (1, 3), (2, 26)]), 3, 40, [(.int .i64 0), (.int .i64 0), (.slice none 0 0)], false⟩ := row (i := Try.t91) (zv := (.agg #[(.int .i64 0), (.int .i64 0), (.slice none 0 0)])) ⟨_, Try.underlying91, rfl⟩ rfl (by kernel_rfl) rfl rfl rfl rfl (.inl rfl) (.inr nofun) rfl rfl rfl
theorem tab92 : TIOk Try.prog 92 ⟨(.struct [(0, 3), (1, 3), (2, 26)]), 3, 40, [(.int .i64 0), (.int .i64 0), (.slice none 0 0)], false⟩ := row (i := Try.t92) (zv := (.agg #[(.int .i64 0), (.int .i64 0), (.slice none 0 0)])) ⟨_, Try.underlying92, rfl⟩ rfl (by kernel_rfl) rfl rfl rfl rfl (.inl rfl) (.inr nofun) rfl rfl rfl
theorem tab114 : TIOk Try.prog 114 ⟨(.int .u32), 1, 4, [(.int .u32 0)], false⟩ := row (i := Try.t114) (zv := (.int .u32 0)) Try.underlying114 rfl (by kernel_rfl) rfl rfl rfl rfl (.inr rfl) (.inl rfl) rfl rfl rfl
theorem tab119 : TIOk Try.prog 119 ⟨(.struct [(0, 26), (1, 4), (2, 3), (3, 4)]), 4, 48, [(.slice none 0 0), (.bool false), (.int .i64 0), (.bool false)], false⟩ := row (i := Try.t119) (zv := (.agg #[(.slice none 0 0), (.bool false), (.int .i64 0), (.bool false)])) ⟨_, Try.underlying119, rfl⟩ rfl (by kernel_rfl) rfl rfl rfl rfl (.inl rfl) (.inr nofun) rfl rfl rfl
theorem tab120 : TIOk Try.prog 120 ⟨(.struct [(0, 26), (1, 4), (2, 3), (3, 4)]), 4, 48, [(.slice none 0 0), (.bool false), (.int .i64 0), (.bool false)], false⟩ := row (i := Try.t120) (zv := (.agg #[(.slice none 0 0), (.bool false), (.int .i64 0), (.bool false)])) ⟨_, Try.underlying120, rfl⟩ rfl (by kernel_rfl) rfl rfl rfl rfl (.inl rfl) (.inr nofun) rfl rfl rfl
theorem tab138 : TIOk Try.prog 138 ⟨(.ptr 88), 1, 8, [(.pointer none)], false⟩ := row (i := Try.t138) (zv := (.pointer none)) Try.underlying138 rfl (by kernel_rfl) rfl rfl rfl rfl (.inr rfl) (.inr nofun) rfl rfl rfl
theorem tab140 : TIOk Try.prog 140 ⟨(.int .u64), 1, 8, [(.int .u64 0)], false⟩ := row (i := Try.t140) (zv := (.int .u64 0)) Try.underlying140 rfl (by kernel_rfl) rfl rfl rfl rfl (.inr rfl) (.inl rfl) rfl rfl rfl
theorem tab141 : TIOk Try.prog 141 ⟨(.int .u64), 1, 8, [(.int .u64 0)], false⟩ := row (i := Try.t141) (zv := (.int .u64 0)) Try.underlying141 rfl (by kernel_rfl) rfl rfl rfl rfl (.inr rfl) (.inl rfl) rfl rfl rfl
theorem tab143 : TIOk Try.prog 143 ⟨(.slice 9), 1, 24, [(.slice none 0 0)], false⟩ := row (i := Try.t143) (zv := (.slice none 0 0)) Try.underlying143 rfl (by kernel_rfl) rfl rfl rfl rfl (.inr rfl) (.inr nofun) rfl rfl rfl
theorem tab144 : TIOk Try.prog 144 ⟨(.struct [(0, 143), (1, 40)]), 9, 88, [(.slice none 0 0), (.int .i64 0), (.int .i64 0), (.int .i64 0), (.int .i64 0), (.int .i64 0), (.int .i64 0), (.int .i64 0), (.int .i64 0)], false⟩ := row (i := Try.t144) (zv := (.agg #[(.slice none 0 0), (.int .i64 0), (.int .i64 0), (.int .i64 0), (.int .i64 0), (.int .i64 0), (.int .i64 0), (.int .i64 0), (.int .i64 0)])) ⟨_, Try.underlying144, rfl⟩ rfl (by kernel_rfl) rfl rfl rfl rfl (.inl rfl) (.inr nofun) rfl rfl rfl
theorem tab145 : TIOk Try.prog 145 ⟨(.struct [(0, 143), (1, 40)]), 9, 88, [(.slice none 0 0), (.int .i64 0), (.int .i64 0), (.int .i64 0), (.int .i64 0), (.int .i64 0), (.int .i64 0), (.int .i64 0), (.int .i64 0)], false⟩ := row (i := Try.t145) (zv := (.agg #[(.slice none 0 0), (.int .i64 0), (.int .i64 0), (.int .i64 0), (.int .i64 0), (.int .i64 0), (.int .i64 0), (.int .i64 0), (.int .i64 0)])) ⟨_, Try.underlying145, rfl⟩ rfl (by kernel_rfl) rfl rfl rfl rfl (.inl rfl) (.inr nofun) rfl rfl rfl
theorem tab147 : TIOk Try.prog 147 ⟨(.struct [(0, 9), (1, 3), (2, 3), (3, 3), (4, 9), (5, 3), (6, 34), (7, 34), (8, 4)]), 9, 88, [(.string ⟨#[]⟩), (.int .i64 0), (.int .i64 0), (.int .i64 0), (.string ⟨#[]⟩), (.int .i64 0), (.float .f64 0), (.float .f64 0), (.bool false)], false⟩ := row (i := Try.t147) (zv := (.agg #[(.string ⟨#[]⟩), (.int .i64 0), (.int .i64 0), (.int .i64 0), (.string ⟨#[]⟩), (.int .i64 0), (.float .f64 0), (.float .f64 0), (.bool false)])) ⟨_, Try.underlying147, rfl⟩ rfl (by kernel_rfl) rfl rfl rfl rfl (.inl rfl) (.inr nofun) rfl rfl rfl
theorem tab148 : TIOk Try.prog 148 ⟨(.struct [(0, 9), (1, 3), (2, 3), (3, 3), (4, 9), (5, 3), (6, 34), (7, 34), (8, 4)]), 9, 88, [(.string ⟨#[]⟩), (.int .i64 0), (.int .i64 0), (.int .i64 0), (.string ⟨#[]⟩), (.int .i64 0), (.float .f64 0), (.float .f64 0), (.bool false)], false⟩ := row (i := Try.t148) (zv := (.agg #[(.string ⟨#[]⟩), (.int .i64 0), (.int .i64 0), (.int .i64 0), (.string ⟨#[]⟩), (.int .i64 0), (.float .f64 0), (.float .f64 0), (.bool false)])) ⟨_, Try.underlying148, rfl⟩ rfl (by kernel_rfl) rfl rfl rfl rfl (.inl rfl) (.inr nofun) rfl rfl rfl
theorem tab156 : TIOk Try.prog 156 ⟨(.struct [(0, 77), (8, 4), (9, 73)]), 11, 112, [(.string ⟨#[]⟩), (.int .i64 0), (.int .i64 0), (.int .i64 0), (.string ⟨#[]⟩), (.int .i64 0), (.complex .f64 0 0), (.bool false), (.bool false), (.int .i64 0), (.int .i64 0)], false⟩ := row (i := Try.t156) (zv := (.agg #[(.string ⟨#[]⟩), (.int .i64 0), (.int .i64 0), (.int .i64 0), (.string ⟨#[]⟩), (.int .i64 0), (.complex .f64 0 0), (.bool false), (.bool false), (.int .i64 0), (.int .i64 0)])) ⟨_, Try.underlying156, rfl⟩ rfl (by kernel_rfl) rfl rfl rfl rfl (.inl rfl) (.inr nofun) rfl rfl rfl
theorem tab157 : TIOk Try.prog 157 ⟨(.struct [(0, 77), (8, 4), (9, 73)]), 11, 112, [(.string ⟨#[]⟩), (.int .i64 0), (.int .i64 0), (.int .i64 0), (.string ⟨#[]⟩), (.int .i64 0), (.complex .f64 0 0), (.bool false), (.bool false), (.int .i64 0), (.int .i64 0)], false⟩ := row (i := Try.t157) (zv := (.agg #[(.string ⟨#[]⟩), (.int .i64 0), (.int .i64 0), (.int .i64 0), (.string ⟨#[]⟩), (.int .i64 0), (.complex .f64 0 0), (.bool false), (.bool false), (.int .i64 0), (.int .i64 0)])) ⟨_, Try.underlying157, rfl⟩ rfl (by kernel_rfl) rfl rfl rfl rfl (.inl rfl) (.inr nofun) rfl rfl rfl
theorem tab172 : TIOk Try.prog 172 ⟨(.struct [(0, 17), (1, 17), (2, 17), (3, 9)]), 4, 40, [(.pointer none), (.pointer none), (.pointer none), (.string ⟨#[]⟩)], false⟩ := row (i := Try.t172) (zv := (.agg #[(.pointer none), (.pointer none), (.pointer none), (.string ⟨#[]⟩)])) ⟨_, Try.underlying172, rfl⟩ rfl (by kernel_rfl) rfl rfl rfl rfl (.inl rfl) (.inr nofun) rfl rfl rfl
theorem tab173 : TIOk Try.prog 173 ⟨(.struct [(0, 17), (1, 17), (2, 17), (3, 9)]), 4, 40, [(.pointer none), (.pointer none), (.pointer none), (.string ⟨#[]⟩)], false⟩ := row (i := Try.t173) (zv := (.agg #[(.pointer none), (.pointer none), (.pointer none), (.string ⟨#[]⟩)])) ⟨_, Try.underlying173, rfl⟩ rfl (by kernel_rfl) rfl rfl rfl rfl (.inl rfl) (.inr nofun) rfl rfl rfl
theorem tab174 : TIOk Try.prog 174 ⟨(.arr 0 16), 0, 0, [], false⟩ := row (i := Try.t174) (zv := (.agg #[])) Try.underlying174 rfl (by kernel_rfl) rfl rfl rfl rfl (.inl rfl) (.inr nofun) rfl rfl rfl
theorem tab175 : TIOk Try.prog 175 ⟨(.struct [(0, 174)]), 0, 0, [], false⟩ := row (i := Try.t175) (zv := (.agg #[])) ⟨_, Try.underlying175, rfl⟩ rfl (by kernel_rfl) rfl rfl rfl rfl (.inl rfl) (.inr nofun) rfl rfl rfl
theorem tab176 : TIOk Try.prog 176 ⟨(.struct [(0, 174)]), 0, 0, [], false⟩ := row (i := Try.t176) (zv := (.agg #[])) ⟨_, Try.underlying176, rfl⟩ rfl (by kernel_rfl) rfl rfl rfl rfl (.inl rfl) (.inr nofun) rfl rfl rfl
theorem tab178 : TIOk Try.prog 178 ⟨(.int .u8), 1, 1, [(.int .u8 0)], false⟩ := row (i := Try.t178) (zv := (.int .u8 0)) Try.underlying178 rfl (by kernel_rfl) rfl rfl rfl rfl (.inr rfl) (.inl rfl) rfl rfl rfl
theorem tab179 : TIOk Try.prog 179 ⟨(.int .u8), 1, 1, [(.int .u8 0)], false⟩ := row (i := Try.t179) (zv := (.int .u8 0)) Try.underlying179 rfl (by kernel_rfl) rfl rfl rfl rfl (.inr rfl) (.inl rfl) rfl rfl rfl
theorem tab181 : TIOk Try.prog 181 ⟨(.ptr 5), 1, 8, [(.pointer none)], false⟩ := row (i := Try.t181) (zv := (.pointer none)) Try.underlying181 rfl (by kernel_rfl) rfl rfl rfl rfl (.inr rfl) (.inr nofun) rfl rfl rfl
theorem tab182 : TIOk Try.prog 182 ⟨(.int .i32), 1, 4, [(.int .i32 0)], false⟩ := row (i := Try.t182) (zv := (.int .i32 0)) Try.underlying182 rfl (by kernel_rfl) rfl rfl rfl rfl (.inr rfl) (.inl rfl) rfl rfl rfl
theorem tab183 : TIOk Try.prog 183 ⟨(.int .i32), 1, 4, [(.int .i32 0)], false⟩ := row (i := Try.t183) (zv := (.int .i32 0)) Try.underlying183 rfl (by kernel_rfl) rfl rfl rfl rfl (.inr rfl) (.inl rfl) rfl rfl rfl
theorem tab184 : TIOk Try.prog 184 ⟨(.struct [(0, 12), (1, 12), (2, 114), (3, 178), (4, 5), (5, 5), (6, 179), (7, 180), (8, 181), (9, 182), (10, 183)]), 11, 48, [(.int .u64 0), (.int .u64 0), (.int .u32 0), (.int .u8 0), (.int .u8 0), (.int .u8 0), (.int .u8 0), .nilFunc, (.pointer none), (.int .i32 0), (.int .i32 0)], false⟩ := row (i := Try.t184) (zv := (.agg #[(.int .u64 0), (.int .u64 0), (.int .u32 0), (.int .u8 0), (.int .u8 0), (.int .u8 0), (.int .u8 0), .nilFunc, (.pointer none), (.int .i32 0), (.int .i32 0)])) ⟨_, Try.underlying184, rfl⟩ rfl (by kernel_rfl) rfl rfl rfl rfl (.inl rfl) (.inr nofun) rfl rfl rfl
theorem tab185 : TIOk Try.prog 185 ⟨(.struct [(0, 12), (1, 12), (2, 114), (3, 178), (4, 5), (5, 5), (6, 179), (7, 180), (8, 181), (9, 182), (10, 183)]), 11, 48, [(.int .u64 0), (.int .u64 0), (.int .u32 0), (.int .u8 0), (.int .u8 0), (.int .u8 0), (.int .u8 0), .nilFunc, (.pointer none), (.int .i32 0), (.int .i32 0)], false⟩ := row (i := Try.t185) (zv := (.agg #[(.int .u64 0), (.int .u64 0), (.int .u32 0), (.int .u8 0), (.int .u8 0), (.int .u8 0), (.int .u8 0), .nilFunc, (.pointer none), (.int .i32 0), (.int .i32 0)])) ⟨_, Try.underlying185, rfl⟩ rfl (by kernel_rfl) rfl rfl rfl rfl (.inl rfl) (.inr nofun) rfl rfl rfl
theorem T_ok : TOk Try.prog T := TOk.of (⟨.inl rfl, ⟨.inl rfl, ⟨tab2, ⟨tab3, ⟨tab4, ⟨tab5, ⟨tab6, ⟨tab7, ⟨tab8, ⟨tab9, ⟨tab10, ⟨tab11, ⟨tab12, ⟨tab13, ⟨tab14, ⟨tab15, ⟨tab16, ⟨tab17, ⟨tab18, ⟨tab19, ⟨tab20, ⟨tab21, ⟨tab22, ⟨.inl rfl, ⟨tab24, ⟨.inl rfl, ⟨tab26, ⟨tab27, ⟨tab28, ⟨.inl rfl, ⟨.inl rfl, ⟨tab31, ⟨.inl rfl, ⟨.inl rfl, ⟨tab34, ⟨tab35, ⟨tab36, ⟨tab37, ⟨tab38, ⟨tab39, ⟨tab40, ⟨tab41, ⟨tab42, ⟨tab43, ⟨tab44, ⟨tab45, ⟨.inl rfl, ⟨tab47, ⟨tab48, ⟨tab49, ⟨tab50, ⟨tab51, ⟨tab52, ⟨tab53, ⟨.inl rfl, ⟨.inl rfl, ⟨tab56, ⟨tab57, ⟨tab58, ⟨tab59, ⟨tab60, ⟨tab61, ⟨tab62, ⟨.inl rfl, ⟨.inl rfl, ⟨tab65, ⟨.inl rfl, ⟨.inl rfl, ⟨.inl rfl, ⟨.inl rfl, ⟨.inl rfl, ⟨.inl rfl, ⟨tab72, ⟨tab73, ⟨tab74, ⟨tab75, ⟨tab76, ⟨tab77, ⟨.inl rfl, ⟨.inl rfl, ⟨.inl rfl, ⟨.inl rfl, ⟨.inl rfl, ⟨.inl rfl, ⟨.inl rfl, ⟨.inl rfl, ⟨tab86, ⟨tab87, ⟨tab88, ⟨.inl rfl, ⟨.inl rfl, ⟨tab91, ⟨tab92, ⟨.inl rfl, ⟨.inl rfl, ⟨.inl rfl, ⟨.inl rfl, ⟨.inl rfl, ⟨.inl rfl, ⟨.inl rfl, ⟨.inl rfl, ⟨.inl rfl, ⟨.inl rfl, ⟨.inl rfl, ⟨.inl rfl, ⟨.inl rfl, ⟨.inl rfl, ⟨.inl rfl, ⟨.inl rfl, ⟨.inl rfl, ⟨.inl rfl, ⟨.inl rfl, ⟨.inl rfl, ⟨.inl rfl, ⟨tab114, ⟨.inl rfl, ⟨.inl rfl, ⟨.inl rfl, ⟨.inl rfl, ⟨tab119, ⟨tab120, ⟨.inl rfl, ⟨.inl rfl, ⟨.inl rfl, ⟨.inl rfl, ⟨.inl rfl, ⟨.inl rfl, ⟨.inl rfl, ⟨.inl rfl, ⟨.inl rfl, ⟨.inl rfl, ⟨.inl rfl, ⟨.inl rfl, ⟨.inl rfl, ⟨.inl rfl, ⟨.inl rfl, ⟨.inl rfl, ⟨.inl rfl, ⟨tab138, ⟨.inl rfl, ⟨tab140, ⟨tab141, ⟨.inl rfl, ⟨tab143, ⟨tab144, ⟨tab145, ⟨.inl rfl, ⟨tab147, ⟨tab148, ⟨.inl rfl, ⟨.inl rfl, ⟨.inl rfl, ⟨.inl rfl, ⟨.inl rfl, ⟨.inl rfl, ⟨.inl rfl, ⟨tab156, ⟨tab157, ⟨.inl rfl, ⟨.inl rfl, ⟨.inl rfl, ⟨.inl rfl, ⟨.inl rfl, ⟨.inl rfl, ⟨.inl rfl, ⟨.inl rfl, ⟨.inl rfl, ⟨.inl rfl, ⟨.inl rfl, ⟨.inl rfl, ⟨.inl rfl, ⟨.inl rfl, ⟨tab172, ⟨tab173, ⟨tab174, ⟨tab175, ⟨tab176, ⟨.inl rfl, ⟨tab178, ⟨tab179, ⟨.inl rfl, ⟨tab181, ⟨tab182, ⟨tab183, ⟨tab184, ⟨tab185, ⟨.inl rfl, trivial⟩⟩⟩⟩⟩⟩⟩⟩⟩⟩⟩⟩⟩⟩⟩⟩⟩⟩⟩⟩⟩⟩⟩⟩⟩⟩⟩⟩⟩⟩⟩⟩⟩⟩⟩⟩⟩⟩⟩⟩⟩⟩⟩⟩⟩⟩⟩⟩⟩⟩⟩⟩⟩⟩⟩⟩⟩⟩⟩⟩⟩⟩⟩⟩⟩⟩⟩⟩⟩⟩⟩⟩⟩⟩⟩⟩⟩⟩⟩⟩⟩⟩⟩⟩⟩⟩⟩⟩⟩⟩⟩⟩⟩⟩⟩⟩⟩⟩⟩⟩⟩⟩⟩⟩⟩⟩⟩⟩⟩⟩⟩⟩⟩⟩⟩⟩⟩⟩⟩⟩⟩⟩⟩⟩⟩⟩⟩⟩⟩⟩⟩⟩⟩⟩⟩⟩⟩⟩⟩⟩⟩⟩⟩⟩⟩⟩⟩⟩⟩⟩⟩⟩⟩⟩⟩⟩⟩⟩⟩⟩⟩⟩⟩⟩⟩⟩⟩⟩⟩⟩⟩⟩⟩⟩⟩⟩⟩⟩⟩⟩⟩⟩⟩⟩⟩⟩⟩)
end Go.Proofs.Ytjapbanelfcjhaa
