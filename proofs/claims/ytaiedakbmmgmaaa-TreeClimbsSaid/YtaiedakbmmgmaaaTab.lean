/- The table of the seat's types, and that it fits the program. Written by gentabp.py. -/
import Derived.Test.YtaiedakbmmgmaaaEvTab
import Derived.Test.YtaiedakbmmgmaaaChecked
import Derived.KernelRfl
set_option linter.unusedVariables false
set_option maxRecDepth 100000
namespace Go.Proofs.Ytaiedakbmmgmaaa
open Go E
def T : List TI := [
  TI.none,
  TI.none,
  ⟨(.int .i64), 1, 8, [(.int .i64 0)], false⟩,
  ⟨(.int .i64), 1, 8, [(.int .i64 0)], false⟩,
  ⟨.bool, 1, 1, [(.bool false)], false⟩,
  ⟨(.int .u8), 1, 1, [(.int .u8 0)], false⟩,
  ⟨(.int .u8), 1, 1, [(.int .u8 0)], false⟩,
  ⟨(.struct [(0, 2), (1, 3), (2, 4), (3, 6)]), 4, 24, [(.int .i64 0), (.int .i64 0), (.bool false), (.int .u8 0)], false⟩,
  ⟨(.struct [(0, 2), (1, 3), (2, 4), (3, 6)]), 4, 24, [(.int .i64 0), (.int .i64 0), (.bool false), (.int .u8 0)], false⟩,
  ⟨.str, 1, 16, [(.string ⟨#[]⟩)], false⟩,
  ⟨.str, 1, 16, [(.string ⟨#[]⟩)], false⟩,
  ⟨.str, 1, 16, [(.string ⟨#[]⟩)], false⟩,
  ⟨(.int .u64), 1, 8, [(.int .u64 0)], false⟩,
  ⟨(.struct [(0, 9), (1, 12)]), 2, 24, [(.string ⟨#[]⟩), (.int .u64 0)], false⟩,
  ⟨(.struct [(0, 9), (1, 12)]), 2, 24, [(.string ⟨#[]⟩), (.int .u64 0)], false⟩,
  ⟨(.ptr 117), 1, 8, [(.pointer none)], false⟩,
  ⟨(.ptr 120), 1, 8, [(.pointer none)], false⟩,
  ⟨(.ptr 130), 1, 8, [(.pointer none)], false⟩,
  ⟨(.struct [(0, 17)]), 1, 8, [(.pointer none)], false⟩,
  ⟨(.struct [(0, 17)]), 1, 8, [(.pointer none)], false⟩,
  ⟨.iface, 1, 16, [.nilIface], false⟩,
  ⟨(.int .i32), 1, 4, [(.int .i32 0)], false⟩,
  ⟨(.flt .f64), 1, 8, [(.float .f64 0)], false⟩,
  ⟨(.struct [(0, 9), (1, 3), (2, 3), (3, 3), (4, 9), (5, 3), (6, 22), (7, 22), (8, 4)]), 9, 88, [(.string ⟨#[]⟩), (.int .i64 0), (.int .i64 0), (.int .i64 0), (.string ⟨#[]⟩), (.int .i64 0), (.float .f64 0), (.float .f64 0), (.bool false)], false⟩,
  ⟨(.struct [(0, 9), (1, 3), (2, 3), (3, 3), (4, 9), (5, 3), (6, 22), (7, 22), (8, 4)]), 9, 88, [(.string ⟨#[]⟩), (.int .i64 0), (.int .i64 0), (.int .i64 0), (.string ⟨#[]⟩), (.int .i64 0), (.float .f64 0), (.float .f64 0), (.bool false)], false⟩,
  TI.none,
  ⟨(.struct [(0, 3), (1, 3)]), 2, 16, [(.int .i64 0), (.int .i64 0)], false⟩,
  ⟨(.struct [(0, 3), (1, 3)]), 2, 16, [(.int .i64 0), (.int .i64 0)], true⟩,
  ⟨(.cplx .f64), 1, 16, [(.complex .f64 0 0)], false⟩,
  ⟨(.struct [(0, 9), (1, 27), (3, 3), (4, 9), (5, 3), (6, 28), (7, 4)]), 8, 88, [(.string ⟨#[]⟩), (.int .i64 0), (.int .i64 0), (.int .i64 0), (.string ⟨#[]⟩), (.int .i64 0), (.complex .f64 0 0), (.bool false)], false⟩,
  ⟨(.struct [(0, 9), (1, 27), (3, 3), (4, 9), (5, 3), (6, 28), (7, 4)]), 8, 88, [(.string ⟨#[]⟩), (.int .i64 0), (.int .i64 0), (.int .i64 0), (.string ⟨#[]⟩), (.int .i64 0), (.complex .f64 0 0), (.bool false)], true⟩,
  TI.none,
  TI.none,
  TI.none,
  TI.none,
  TI.none,
  TI.none,
  TI.none,
  ⟨(.slice 40), 1, 24, [(.slice none 0 0)], false⟩,
  ⟨(.struct [(0, 3), (1, 9), (2, 3), (3, 22), (4, 22), (5, 38)]), 6, 72, [(.int .i64 0), (.string ⟨#[]⟩), (.int .i64 0), (.float .f64 0), (.float .f64 0), (.slice none 0 0)], false⟩,
  ⟨(.struct [(0, 3), (1, 9), (2, 3), (3, 22), (4, 22), (5, 38)]), 6, 72, [(.int .i64 0), (.string ⟨#[]⟩), (.int .i64 0), (.float .f64 0), (.float .f64 0), (.slice none 0 0)], false⟩,
  TI.none,
  ⟨(.slice 44), 1, 24, [(.slice none 0 0)], false⟩,
  ⟨(.struct [(0, 3), (1, 9), (2, 3), (3, 28), (4, 42)]), 5, 72, [(.int .i64 0), (.string ⟨#[]⟩), (.int .i64 0), (.complex .f64 0 0), (.slice none 0 0)], false⟩,
  ⟨(.struct [(0, 3), (1, 9), (2, 3), (3, 28), (4, 42)]), 5, 72, [(.int .i64 0), (.string ⟨#[]⟩), (.int .i64 0), (.complex .f64 0 0), (.slice none 0 0)], false⟩,
  TI.none,
  TI.none,
  TI.none,
  TI.none,
  TI.none,
  TI.none,
  TI.none,
  TI.none,
  TI.none,
  TI.none,
  TI.none,
  ⟨(.slice 61), 1, 24, [(.slice none 0 0)], false⟩,
  TI.none,
  ⟨(.slice 62), 1, 24, [(.slice none 0 0)], false⟩,
  TI.none,
  ⟨(.struct [(0, 3), (1, 3)]), 2, 16, [(.int .i64 0), (.int .i64 0)], false⟩,
  ⟨(.struct [(0, 3), (1, 3)]), 2, 16, [(.int .i64 0), (.int .i64 0)], true⟩,
  ⟨(.struct [(0, 3), (1, 3)]), 2, 16, [(.int .i64 0), (.int .i64 0)], false⟩,
  TI.none,
  TI.none,
  ⟨(.slice 24), 1, 24, [(.slice none 0 0)], false⟩,
  TI.none,
  ⟨(.slice 30), 1, 24, [(.slice none 0 0)], false⟩,
  TI.none,
  TI.none,
  TI.none,
  TI.none,
  TI.none,
  TI.none,
  TI.none,
  TI.none,
  TI.none,
  TI.none,
  TI.none,
  TI.none,
  TI.none,
  TI.none,
  TI.none,
  TI.none,
  TI.none,
  ⟨(.ptr 3), 1, 8, [(.pointer none)], false⟩,
  TI.none,
  TI.none,
  TI.none,
  TI.none,
  TI.none,
  TI.none,
  ⟨(.slice 3), 1, 24, [(.slice none 0 0)], false⟩,
  TI.none,
  TI.none,
  TI.none,
  TI.none,
  TI.none,
  TI.none,
  TI.none,
  TI.none,
  TI.none,
  TI.none,
  TI.none,
  TI.none,
  TI.none,
  TI.none,
  TI.none,
  TI.none,
  ⟨(.int .u64), 1, 8, [(.int .u64 0)], false⟩,
  TI.none,
  TI.none,
  ⟨(.int .u64), 1, 8, [(.int .u64 0)], false⟩,
  TI.none,
  TI.none,
  TI.none,
  ⟨(.struct [(0, 17), (1, 17), (2, 17), (3, 9)]), 4, 40, [(.pointer none), (.pointer none), (.pointer none), (.string ⟨#[]⟩)], false⟩,
  ⟨(.struct [(0, 17), (1, 17), (2, 17), (3, 9)]), 4, 40, [(.pointer none), (.pointer none), (.pointer none), (.string ⟨#[]⟩)], false⟩,
  ⟨(.arr 0 16), 0, 0, [], false⟩,
  ⟨(.struct [(0, 118)]), 0, 0, [], false⟩,
  ⟨(.struct [(0, 118)]), 0, 0, [], false⟩,
  TI.none,
  ⟨(.int .u32), 1, 4, [(.int .u32 0)], false⟩,
  ⟨(.int .u8), 1, 1, [(.int .u8 0)], false⟩,
  ⟨(.int .u8), 1, 1, [(.int .u8 0)], false⟩,
  TI.none,
  ⟨(.ptr 5), 1, 8, [(.pointer none)], false⟩,
  ⟨(.int .i32), 1, 4, [(.int .i32 0)], false⟩,
  ⟨(.int .i32), 1, 4, [(.int .i32 0)], false⟩,
  ⟨(.struct [(0, 12), (1, 12), (2, 122), (3, 123), (4, 5), (5, 5), (6, 124), (7, 125), (8, 126), (9, 127), (10, 128)]), 11, 48, [(.int .u64 0), (.int .u64 0), (.int .u32 0), (.int .u8 0), (.int .u8 0), (.int .u8 0), (.int .u8 0), .nilFunc, (.pointer none), (.int .i32 0), (.int .i32 0)], false⟩,
  ⟨(.struct [(0, 12), (1, 12), (2, 122), (3, 123), (4, 5), (5, 5), (6, 124), (7, 125), (8, 126), (9, 127), (10, 128)]), 11, 48, [(.int .u64 0), (.int .u64 0), (.int .u32 0), (.int .u8 0), (.int .u8 0), (.int .u8 0), (.int .u8 0), .nilFunc, (.pointer none), (.int .i32 0), (.int .i32 0)], false⟩,
  TI.none]
theorem eqd3 : EqD Try.prog 3 false [(.int .i64 0)] 1 := .int Try.underlying3
theorem eqd27 : EqD Try.prog 27 true [(.int .i64 0), (.int .i64 0)] 2 := .struct Try.underlying27 (by kernel_rfl) (i := Try.t27) (by kernel_rfl) rfl (.cons' (by decide) rfl (eqd3) (.cons' (by decide) rfl (eqd3) (.nil) rfl) rfl)
theorem eqd9 : EqD Try.prog 9 false [(.string ⟨#[]⟩)] 1 := .str Try.underlying9
theorem eqd28 : EqD Try.prog 28 false [(.complex .f64 0 0)] 1 := .cplx Try.underlying28
theorem eqd4 : EqD Try.prog 4 false [(.bool false)] 1 := .bool Try.underlying4
theorem eqd30 : EqD Try.prog 30 true [(.string ⟨#[]⟩), (.int .i64 0), (.int .i64 0), (.int .i64 0), (.string ⟨#[]⟩), (.int .i64 0), (.complex .f64 0 0), (.bool false)] 3 := .struct Try.underlying30 (by kernel_rfl) (i := Try.t30) (by kernel_rfl) rfl (.cons' (by decide) rfl (eqd9.mono (by decide)) (.cons' (by decide) rfl (eqd27) (.cons' (by decide) rfl (eqd3.mono (by decide)) (.cons' (by decide) rfl (eqd9.mono (by decide)) (.cons' (by decide) rfl (eqd3.mono (by decide)) (.cons' (by decide) rfl (eqd28.mono (by decide)) (.cons' (by decide) rfl (eqd4.mono (by decide)) (.nil) rfl) rfl) rfl) rfl) rfl) rfl) rfl)
theorem eqd61 : EqD Try.prog 61 true [(.int .i64 0), (.int .i64 0)] 2 := .struct Try.underlying61 (by kernel_rfl) (i := Try.t61) (by kernel_rfl) rfl (.cons' (by decide) rfl (eqd3) (.cons' (by decide) rfl (eqd3) (.nil) rfl) rfl)
theorem tab2 : TIOk Try.prog 2 ⟨(.int .i64), 1, 8, [(.int .i64 0)], false⟩ := row (i := Try.t2) (zv := (.int .i64 0)) Try.underlying2 rfl (by kernel_rfl) rfl rfl rfl rfl (.inr rfl) (.inl rfl) rfl rfl rfl
theorem tab3 : TIOk Try.prog 3 ⟨(.int .i64), 1, 8, [(.int .i64 0)], false⟩ := row (i := Try.t3) (zv := (.int .i64 0)) Try.underlying3 rfl (by kernel_rfl) rfl rfl rfl rfl (.inr rfl) (.inl rfl) rfl rfl rfl
theorem tab4 : TIOk Try.prog 4 ⟨.bool, 1, 1, [(.bool false)], false⟩ := row (i := Try.t4) (zv := (.bool false)) Try.underlying4 rfl (by kernel_rfl) rfl rfl rfl rfl (.inr rfl) (.inr nofun) rfl rfl rfl
theorem tab5 : TIOk Try.prog 5 ⟨(.int .u8), 1, 1, [(.int .u8 0)], false⟩ := row (i := Try.t5) (zv := (.int .u8 0)) Try.underlying5 rfl (by kernel_rfl) rfl rfl rfl rfl (.inr rfl) (.inl rfl) rfl rfl rfl
theorem tab6 : TIOk Try.prog 6 ⟨(.int .u8), 1, 1, [(.int .u8 0)], false⟩ := row (i := Try.t6) (zv := (.int .u8 0)) Try.underlying6 rfl (by kernel_rfl) rfl rfl rfl rfl (.inr rfl) (.inl rfl) rfl rfl rfl
theorem tab7 : TIOk Try.prog 7 ⟨(.struct [(0, 2), (1, 3), (2, 4), (3, 6)]), 4, 24, [(.int .i64 0), (.int .i64 0), (.bool false), (.int .u8 0)], false⟩ := row (i := Try.t7) (zv := (.agg #[(.int .i64 0), (.int .i64 0), (.bool false), (.int .u8 0)])) ⟨_, Try.underlying7, rfl⟩ rfl (by kernel_rfl) rfl rfl rfl rfl (.inl rfl) (.inr nofun) rfl rfl rfl
theorem tab8 : TIOk Try.prog 8 ⟨(.struct [(0, 2), (1, 3), (2, 4), (3, 6)]), 4, 24, [(.int .i64 0), (.int .i64 0), (.bool false), (.int .u8 0)], false⟩ := row (i := Try.t8) (zv := (.agg #[(.int .i64 0), (.int .i64 0), (.bool false), (.int .u8 0)])) ⟨_, Try.underlying8, rfl⟩ rfl (by kernel_rfl) rfl rfl rfl rfl (.inl rfl) (.inr nofun) rfl rfl rfl
theorem tab9 : TIOk Try.prog 9 ⟨.str, 1, 16, [(.string ⟨#[]⟩)], false⟩ := row (i := Try.t9) (zv := (.string ⟨#[]⟩)) Try.underlying9 rfl (by kernel_rfl) rfl rfl rfl rfl (.inr rfl) (.inr nofun) rfl rfl rfl
theorem tab10 : TIOk Try.prog 10 ⟨.str, 1, 16, [(.string ⟨#[]⟩)], false⟩ := row (i := Try.t10) (zv := (.string ⟨#[]⟩)) Try.underlying10 rfl (by kernel_rfl) rfl rfl rfl rfl (.inr rfl) (.inr nofun) rfl rfl rfl
theorem tab11 : TIOk Try.prog 11 ⟨.str, 1, 16, [(.string ⟨#[]⟩)], false⟩ := row (i := Try.t11) (zv := (.string ⟨#[]⟩)) Try.underlying11 rfl (by kernel_rfl) rfl rfl rfl rfl (.inr rfl) (.inr nofun) rfl rfl rfl
theorem tab12 : TIOk Try.prog 12 ⟨(.int .u64), 1, 8, [(.int .u64 0)], false⟩ := row (i := Try.t12) (zv := (.int .u64 0)) Try.underlying12 rfl (by kernel_rfl) rfl rfl rfl rfl (.inr rfl) (.inl rfl) rfl rfl rfl
theorem tab13 : TIOk Try.prog 13 ⟨(.struct [(0, 9), (1, 12)]), 2, 24, [(.string ⟨#[]⟩), (.int .u64 0)], false⟩ := row (i := Try.t13) (zv := (.agg #[(.string ⟨#[]⟩), (.int .u64 0)])) ⟨_, Try.underlying13, rfl⟩ rfl (by kernel_rfl) rfl rfl rfl rfl (.inl rfl) (.inr nofun) rfl rfl rfl
theorem tab14 : TIOk Try.prog 14 ⟨(.struct [(0, 9), (1, 12)]), 2, 24, [(.string ⟨#[]⟩), (.int .u64 0)], false⟩ := row (i := Try.t14) (zv := (.agg #[(.string ⟨#[]⟩), (.int .u64 0)])) ⟨_, Try.underlying14, rfl⟩ rfl (by kernel_rfl) rfl rfl rfl rfl (.inl rfl) (.inr nofun) rfl rfl rfl
theorem tab15 : TIOk Try.prog 15 ⟨(.ptr 117), 1, 8, [(.pointer none)], false⟩ := row (i := Try.t15) (zv := (.pointer none)) Try.underlying15 rfl (by kernel_rfl) rfl rfl rfl rfl (.inr rfl) (.inr nofun) rfl rfl rfl
theorem tab16 : TIOk Try.prog 16 ⟨(.ptr 120), 1, 8, [(.pointer none)], false⟩ := row (i := Try.t16) (zv := (.pointer none)) Try.underlying16 rfl (by kernel_rfl) rfl rfl rfl rfl (.inr rfl) (.inr nofun) rfl rfl rfl
theorem tab17 : TIOk Try.prog 17 ⟨(.ptr 130), 1, 8, [(.pointer none)], false⟩ := row (i := Try.t17) (zv := (.pointer none)) Try.underlying17 rfl (by kernel_rfl) rfl rfl rfl rfl (.inr rfl) (.inr nofun) rfl rfl rfl
theorem tab18 : TIOk Try.prog 18 ⟨(.struct [(0, 17)]), 1, 8, [(.pointer none)], false⟩ := row (i := Try.t18) (zv := (.agg #[(.pointer none)])) ⟨_, Try.underlying18, rfl⟩ rfl (by kernel_rfl) rfl rfl rfl rfl (.inl rfl) (.inr nofun) rfl rfl rfl
theorem tab19 : TIOk Try.prog 19 ⟨(.struct [(0, 17)]), 1, 8, [(.pointer none)], false⟩ := row (i := Try.t19) (zv := (.agg #[(.pointer none)])) ⟨_, Try.underlying19, rfl⟩ rfl (by kernel_rfl) rfl rfl rfl rfl (.inl rfl) (.inr nofun) rfl rfl rfl
theorem tab20 : TIOk Try.prog 20 ⟨.iface, 1, 16, [.nilIface], false⟩ := row (i := Try.t20) (zv := .nilIface) ⟨_, Try.underlying20⟩ rfl (by kernel_rfl) rfl rfl rfl rfl (.inr rfl) (.inr nofun) rfl rfl rfl
theorem tab21 : TIOk Try.prog 21 ⟨(.int .i32), 1, 4, [(.int .i32 0)], false⟩ := row (i := Try.t21) (zv := (.int .i32 0)) Try.underlying21 rfl (by kernel_rfl) rfl rfl rfl rfl (.inr rfl) (.inl rfl) rfl rfl rfl
theorem tab22 : TIOk Try.prog 22 ⟨(.flt .f64), 1, 8, [(.float .f64 0)], false⟩ := row (i := Try.t22) (zv := (.float .f64 0)) Try.underlying22 rfl (by kernel_rfl) rfl rfl rfl rfl (.inr rfl) (.inr nofun) rfl rfl rfl
theorem tab23 : TIOk Try.prog 23 ⟨(.struct [(0, 9), (1, 3), (2, 3), (3, 3), (4, 9), (5, 3), (6, 22), (7, 22), (8, 4)]), 9, 88, [(.string ⟨#[]⟩), (.int .i64 0), (.int .i64 0), (.int .i64 0), (.string ⟨#[]⟩), (.int .i64 0), (.float .f64 0), (.float .f64 0), (.bool false)], false⟩ := row (i := Try.t23) (zv := (.agg #[(.string ⟨#[]⟩), (.int .i64 0), (.int .i64 0), (.int .i64 0), (.string ⟨#[]⟩), (.int .i64 0), (.float .f64 0), (.float .f64 0), (.bool false)])) ⟨_, Try.underlying23, rfl⟩ rfl (by kernel_rfl) rfl rfl rfl rfl (.inl rfl) (.inr nofun) rfl rfl rfl
theorem tab24 : TIOk Try.prog 24 ⟨(.struct [(0, 9), (1, 3), (2, 3), (3, 3), (4, 9), (5, 3), (6, 22), (7, 22), (8, 4)]), 9, 88, [(.string ⟨#[]⟩), (.int .i64 0), (.int .i64 0), (.int .i64 0), (.string ⟨#[]⟩), (.int .i64 0), (.float .f64 0), (.float .f64 0), (.bool false)], false⟩ := row (i := Try.t24) (zv := (.agg #[(.string ⟨#[]⟩), (.int .i64 0), (.int .i64 0), (.int .i64 0), (.string ⟨#[]⟩), (.int .i64 0), (.float .f64 0), (.float .f64 0), (.bool false)])) ⟨_, Try.underlying24, rfl⟩ rfl (by kernel_rfl) rfl rfl rfl rfl (.inl rfl) (.inr nofun) rfl rfl rfl
theorem tab26 : TIOk Try.prog 26 ⟨(.struct [(0, 3), (1, 3)]), 2, 16, [(.int .i64 0), (.int .i64 0)], false⟩ := row (i := Try.t26) (zv := (.agg #[(.int .i64 0), (.int .i64 0)])) ⟨_, Try.underlying26, rfl⟩ rfl (by kernel_rfl) rfl rfl rfl rfl (.inl rfl) (.inr nofun) rfl rfl rfl
theorem tab27 : TIOk Try.prog 27 ⟨(.struct [(0, 3), (1, 3)]), 2, 16, [(.int .i64 0), (.int .i64 0)], true⟩ := rowEq (i := Try.t27) (zv := (.agg #[(.int .i64 0), (.int .i64 0)])) ⟨_, Try.underlying27, rfl⟩ rfl (by kernel_rfl) rfl rfl rfl rfl rfl nofun rfl rfl (eqd27.eqP (Nat.le_trans (by decide) (depth_ge _)) (by decide))
theorem tab28 : TIOk Try.prog 28 ⟨(.cplx .f64), 1, 16, [(.complex .f64 0 0)], false⟩ := row (i := Try.t28) (zv := (.complex .f64 0 0)) Try.underlying28 rfl (by kernel_rfl) rfl rfl rfl rfl (.inr rfl) (.inr nofun) rfl rfl rfl
theorem tab29 : TIOk Try.prog 29 ⟨(.struct [(0, 9), (1, 27), (3, 3), (4, 9), (5, 3), (6, 28), (7, 4)]), 8, 88, [(.string ⟨#[]⟩), (.int .i64 0), (.int .i64 0), (.int .i64 0), (.string ⟨#[]⟩), (.int .i64 0), (.complex .f64 0 0), (.bool false)], false⟩ := row (i := Try.t29) (zv := (.agg #[(.string ⟨#[]⟩), (.int .i64 0), (.int .i64 0), (.int .i64 0), (.string ⟨#[]⟩), (.int .i64 0), (.complex .f64 0 0), (.bool false)])) ⟨_, Try.underlying29, rfl⟩ rfl (by kernel_rfl) rfl rfl rfl rfl (.inl rfl) (.inr nofun) rfl rfl rfl
theorem tab30 : TIOk Try.prog 30 ⟨(.struct [(0, 9), (1, 27), (3, 3), (4, 9), (5, 3), (6, 28), (7, 4)]), 8, 88, [(.string ⟨#[]⟩), (.int .i64 0), (.int .i64 0), (.int .i64 0), (.string ⟨#[]⟩), (.int .i64 0), (.complex .f64 0 0), (.bool false)], true⟩ := rowEq (i := Try.t30) (zv := (.agg #[(.string ⟨#[]⟩), (.int .i64 0), (.int .i64 0), (.int .i64 0), (.string ⟨#[]⟩), (.int .i64 0), (.complex .f64 0 0), (.bool false)])) ⟨_, Try.underlying30, rfl⟩ rfl (by kernel_rfl) rfl rfl rfl rfl rfl nofun rfl rfl (eqd30.eqP (Nat.le_trans (by decide) (depth_ge _)) (by decide))
theorem tab38 : TIOk Try.prog 38 ⟨(.slice 40), 1, 24, [(.slice none 0 0)], false⟩ := row (i := Try.t38) (zv := (.slice none 0 0)) Try.underlying38 rfl (by kernel_rfl) rfl rfl rfl rfl (.inr rfl) (.inr nofun) rfl rfl rfl
theorem tab39 : TIOk Try.prog 39 ⟨(.struct [(0, 3), (1, 9), (2, 3), (3, 22), (4, 22), (5, 38)]), 6, 72, [(.int .i64 0), (.string ⟨#[]⟩), (.int .i64 0), (.float .f64 0), (.float .f64 0), (.slice none 0 0)], false⟩ := row (i := Try.t39) (zv := (.agg #[(.int .i64 0), (.string ⟨#[]⟩), (.int .i64 0), (.float .f64 0), (.float .f64 0), (.slice none 0 0)])) ⟨_, Try.underlying39, rfl⟩ rfl (by kernel_rfl) rfl rfl rfl rfl (.inl rfl) (.inr nofun) rfl rfl rfl
theorem tab40 : TIOk Try.prog 40 ⟨(.struct [(0, 3), (1, 9), (2, 3), (3, 22), (4, 22), (5, 38)]), 6, 72, [(.int .i64 0), (.string ⟨#[]⟩), (.int .i64 0), (.float .f64 0), (.float .f64 0), (.slice none 0 0)], false⟩ := row (i := Try.t40) (zv := (.agg #[(.int .i64 0), (.string ⟨#[]⟩), (.int .i64 0), (.float .f64 0), (.float .f64 0), (.slice none 0 0)])) ⟨_, Try.underlying40, rfl⟩ rfl (by kernel_rfl) rfl rfl rfl rfl (.inl rfl) (.inr nofun) rfl rfl rfl
theorem tab42 : TIOk Try.prog 42 ⟨(.slice 44), 1, 24, [(.slice none 0 0)], false⟩ := row (i := Try.t42) (zv := (.slice none 0 0)) Try.underlying42 rfl (by kernel_rfl) rfl rfl rfl rfl (.inr rfl) (.inr nofun) rfl rfl rfl
theorem tab43 : TIOk Try.prog 43 ⟨(.struct [(0, 3), (1, 9), (2, 3), (3, 28), (4, 42)]), 5, 72, [(.int .i64 0), (.string ⟨#[]⟩), (.int .i64 0), (.complex .f64 0 0), (.slice none 0 0)], false⟩ := row (i := Try.t43) (zv := (.agg #[(.int .i64 0), (.string ⟨#[]⟩), (.int .i64 0), (.complex .f64 0 0), (.slice none 0 0)])) ⟨_, Try.underlying43, rfl⟩ rfl (by kernel_rfl) rfl rfl rfl rfl (.inl rfl) (.inr nofun) rfl rfl rfl
theorem tab44 : TIOk Try.prog 44 ⟨(.struct [(0, 3), (1, 9), (2, 3), (3, 28), (4, 42)]), 5, 72, [(.int .i64 0), (.string ⟨#[]⟩), (.int .i64 0), (.complex .f64 0 0), (.slice none 0 0)], false⟩ := row (i := Try.t44) (zv := (.agg #[(.int .i64 0), (.string ⟨#[]⟩), (.int .i64 0), (.complex .f64 0 0), (.slice none 0 0)])) ⟨_, Try.underlying44, rfl⟩ rfl (by kernel_rfl) rfl rfl rfl rfl (.inl rfl) (.inr nofun) rfl rfl rfl
theorem tab56 : TIOk Try.prog 56 ⟨(.slice 61), 1, 24, [(.slice none 0 0)], false⟩ := row (i := Try.t56) (zv := (.slice none 0 0)) Try.underlying56 rfl (by kernel_rfl) rfl rfl rfl rfl (.inr rfl) (.inr nofun) rfl rfl rfl
theorem tab58 : TIOk Try.prog 58 ⟨(.slice 62), 1, 24, [(.slice none 0 0)], false⟩ := row (i := Try.t58) (zv := (.slice none 0 0)) Try.underlying58 rfl (by kernel_rfl) rfl rfl rfl rfl (.inr rfl) (.inr nofun) rfl rfl rfl
theorem tab60 : TIOk Try.prog 60 ⟨(.struct [(0, 3), (1, 3)]), 2, 16, [(.int .i64 0), (.int .i64 0)], false⟩ := row (i := Try.t60) (zv := (.agg #[(.int .i64 0), (.int .i64 0)])) ⟨_, Try.underlying60, rfl⟩ rfl (by kernel_rfl) rfl rfl rfl rfl (.inl rfl) (.inr nofun) rfl rfl rfl
theorem tab61 : TIOk Try.prog 61 ⟨(.struct [(0, 3), (1, 3)]), 2, 16, [(.int .i64 0), (.int .i64 0)], true⟩ := rowEq (i := Try.t61) (zv := (.agg #[(.int .i64 0), (.int .i64 0)])) ⟨_, Try.underlying61, rfl⟩ rfl (by kernel_rfl) rfl rfl rfl rfl rfl nofun rfl rfl (eqd61.eqP (Nat.le_trans (by decide) (depth_ge _)) (by decide))
theorem tab62 : TIOk Try.prog 62 ⟨(.struct [(0, 3), (1, 3)]), 2, 16, [(.int .i64 0), (.int .i64 0)], false⟩ := row (i := Try.t62) (zv := (.agg #[(.int .i64 0), (.int .i64 0)])) ⟨_, Try.underlying62, rfl⟩ rfl (by kernel_rfl) rfl rfl rfl rfl (.inl rfl) (.inr nofun) rfl rfl rfl
theorem tab65 : TIOk Try.prog 65 ⟨(.slice 24), 1, 24, [(.slice none 0 0)], false⟩ := row (i := Try.t65) (zv := (.slice none 0 0)) Try.underlying65 rfl (by kernel_rfl) rfl rfl rfl rfl (.inr rfl) (.inr nofun) rfl rfl rfl
theorem tab67 : TIOk Try.prog 67 ⟨(.slice 30), 1, 24, [(.slice none 0 0)], false⟩ := row (i := Try.t67) (zv := (.slice none 0 0)) Try.underlying67 rfl (by kernel_rfl) rfl rfl rfl rfl (.inr rfl) (.inr nofun) rfl rfl rfl
theorem tab85 : TIOk Try.prog 85 ⟨(.ptr 3), 1, 8, [(.pointer none)], false⟩ := row (i := Try.t85) (zv := (.pointer none)) Try.underlying85 rfl (by kernel_rfl) rfl rfl rfl rfl (.inr rfl) (.inr nofun) rfl rfl rfl
theorem tab92 : TIOk Try.prog 92 ⟨(.slice 3), 1, 24, [(.slice none 0 0)], false⟩ := row (i := Try.t92) (zv := (.slice none 0 0)) Try.underlying92 rfl (by kernel_rfl) rfl rfl rfl rfl (.inr rfl) (.inr nofun) rfl rfl rfl
theorem tab109 : TIOk Try.prog 109 ⟨(.int .u64), 1, 8, [(.int .u64 0)], false⟩ := row (i := Try.t109) (zv := (.int .u64 0)) Try.underlying109 rfl (by kernel_rfl) rfl rfl rfl rfl (.inr rfl) (.inl rfl) rfl rfl rfl
theorem tab112 : TIOk Try.prog 112 ⟨(.int .u64), 1, 8, [(.int .u64 0)], false⟩ := row (i := Try.t112) (zv := (.int .u64 0)) Try.underlying112 rfl (by kernel_rfl) rfl rfl rfl rfl (.inr rfl) (.inl rfl) rfl rfl rfl
theorem tab116 : TIOk Try.prog 116 ⟨(.struct [(0, 17), (1, 17), (2, 17), (3, 9)]), 4, 40, [(.pointer none), (.pointer none), (.pointer none), (.string ⟨#[]⟩)], false⟩ := row (i := Try.t116) (zv := (.agg #[(.pointer none), (.pointer none), (.pointer none), (.string ⟨#[]⟩)])) ⟨_, Try.underlying116, rfl⟩ rfl (by kernel_rfl) rfl rfl rfl rfl (.inl rfl) (.inr nofun) rfl rfl rfl
theorem tab117 : TIOk Try.prog 117 ⟨(.struct [(0, 17), (1, 17), (2, 17), (3, 9)]), 4, 40, [(.pointer none), (.pointer none), (.pointer none), (.string ⟨#[]⟩)], false⟩ := row (i := Try.t117) (zv := (.agg #[(.pointer none), (.pointer none), (.pointer none), (.string ⟨#[]⟩)])) ⟨_, Try.underlying117, rfl⟩ rfl (by kernel_rfl) rfl rfl rfl rfl (.inl rfl) (.inr nofun) rfl rfl rfl
theorem tab118 : TIOk Try.prog 118 ⟨(.arr 0 16), 0, 0, [], false⟩ := row (i := Try.t118) (zv := (.agg #[])) Try.underlying118 rfl (by kernel_rfl) rfl rfl rfl rfl (.inl rfl) (.inr nofun) rfl rfl rfl
theorem tab119 : TIOk Try.prog 119 ⟨(.struct [(0, 118)]), 0, 0, [], false⟩ := row (i := Try.t119) (zv := (.agg #[])) ⟨_, Try.underlying119, rfl⟩ rfl (by kernel_rfl) rfl rfl rfl rfl (.inl rfl) (.inr nofun) rfl rfl rfl
theorem tab120 : TIOk Try.prog 120 ⟨(.struct [(0, 118)]), 0, 0, [], false⟩ := row (i := Try.t120) (zv := (.agg #[])) ⟨_, Try.underlying120, rfl⟩ rfl (by kernel_rfl) rfl rfl rfl rfl (.inl rfl) (.inr nofun) rfl rfl rfl
theorem tab122 : TIOk Try.prog 122 ⟨(.int .u32), 1, 4, [(.int .u32 0)], false⟩ := row (i := Try.t122) (zv := (.int .u32 0)) Try.underlying122 rfl (by kernel_rfl) rfl rfl rfl rfl (.inr rfl) (.inl rfl) rfl rfl rfl
theorem tab123 : TIOk Try.prog 123 ⟨(.int .u8), 1, 1, [(.int .u8 0)], false⟩ := row (i := Try.t123) (zv := (.int .u8 0)) Try.underlying123 rfl (by kernel_rfl) rfl rfl rfl rfl (.inr rfl) (.inl rfl) rfl rfl rfl
theorem tab124 : TIOk Try.prog 124 ⟨(.int .u8), 1, 1, [(.int .u8 0)], false⟩ := row (i := Try.t124) (zv := (.int .u8 0)) Try.underlying124 rfl (by kernel_rfl) rfl rfl rfl rfl (.inr rfl) (.inl rfl) rfl rfl rfl
theorem tab126 : TIOk Try.prog 126 ⟨(.ptr 5), 1, 8, [(.pointer none)], false⟩ := row (i := Try.t126) (zv := (.pointer none)) Try.underlying126 rfl (by kernel_rfl) rfl rfl rfl rfl (.inr rfl) (.inr nofun) rfl rfl rfl
theorem tab127 : TIOk Try.prog 127 ⟨(.int .i32), 1, 4, [(.int .i32 0)], false⟩ := row (i := Try.t127) (zv := (.int .i32 0)) Try.underlying127 rfl (by kernel_rfl) rfl rfl rfl rfl (.inr rfl) (.inl rfl) rfl rfl rfl
theorem tab128 : TIOk Try.prog 128 ⟨(.int .i32), 1, 4, [(.int .i32 0)], false⟩ := row (i := Try.t128) (zv := (.int .i32 0)) Try.underlying128 rfl (by kernel_rfl) rfl rfl rfl rfl (.inr rfl) (.inl rfl) rfl rfl rfl
theorem tab129 : TIOk Try.prog 129 ⟨(.struct [(0, 12), (1, 12), (2, 122), (3, 123), (4, 5), (5, 5), (6, 124), (7, 125), (8, 126), (9, 127), (10, 128)]), 11, 48, [(.int .u64 0), (.int .u64 0), (.int .u32 0), (.int .u8 0), (.int .u8 0), (.int .u8 0), (.int .u8 0), .nilFunc, (.pointer none), (.int .i32 0), (.int .i32 0)], false⟩ := row (i := Try.t129) (zv := (.agg #[(.int .u64 0), (.int .u64 0), (.int .u32 0), (.int .u8 0), (.int .u8 0), (.int .u8 0), (.int .u8 0), .nilFunc, (.pointer none), (.int .i32 0), (.int .i32 0)])) ⟨_, Try.underlying129, rfl⟩ rfl (by kernel_rfl) rfl rfl rfl rfl (.inl rfl) (.inr nofun) rfl rfl rfl
theorem tab130 : TIOk Try.prog 130 ⟨(.struct [(0, 12), (1, 12), (2, 122), (3, 123), (4, 5), (5, 5), (6, 124), (7, 125), (8, 126), (9, 127), (10, 128)]), 11, 48, [(.int .u64 0), (.int .u64 0), (.int .u32 0), (.int .u8 0), (.int .u8 0), (.int .u8 0), (.int .u8 0), .nilFunc, (.pointer none), (.int .i32 0), (.int .i32 0)], false⟩ := row (i := Try.t130) (zv := (.agg #[(.int .u64 0), (.int .u64 0), (.int .u32 0), (.int .u8 0), (.int .u8 0), (.int .u8 0), (.int .u8 0), .nilFunc, (.pointer none), (.int .i32 0), (.int .i32 0)])) ⟨_, Try.underlying130, rfl⟩ rfl (by kernel_rfl) rfl rfl rfl rfl (.inl rfl) (.inr nofun) rfl rfl rfl
theorem T_ok : TOk Try.prog T := TOk.of (⟨.inl rfl, ⟨.inl rfl, ⟨tab2, ⟨tab3, ⟨tab4, ⟨tab5, ⟨tab6, ⟨tab7, ⟨tab8, ⟨tab9, ⟨tab10, ⟨tab11, ⟨tab12, ⟨tab13, ⟨tab14, ⟨tab15, ⟨tab16, ⟨tab17, ⟨tab18, ⟨tab19, ⟨tab20, ⟨tab21, ⟨tab22, ⟨tab23, ⟨tab24, ⟨.inl rfl, ⟨tab26, ⟨tab27, ⟨tab28, ⟨tab29, ⟨tab30, ⟨.inl rfl, ⟨.inl rfl, ⟨.inl rfl, ⟨.inl rfl, ⟨.inl rfl, ⟨.inl rfl, ⟨.inl rfl, ⟨tab38, ⟨tab39, ⟨tab40, ⟨.inl rfl, ⟨tab42, ⟨tab43, ⟨tab44, ⟨.inl rfl, ⟨.inl rfl, ⟨.inl rfl, ⟨.inl rfl, ⟨.inl rfl, ⟨.inl rfl, ⟨.inl rfl, ⟨.inl rfl, ⟨.inl rfl, ⟨.inl rfl, ⟨.inl rfl, ⟨tab56, ⟨.inl rfl, ⟨tab58, ⟨.inl rfl, ⟨tab60, ⟨tab61, ⟨tab62, ⟨.inl rfl, ⟨.inl rfl, ⟨tab65, ⟨.inl rfl, ⟨tab67, ⟨.inl rfl, ⟨.inl rfl, ⟨.inl rfl, ⟨.inl rfl, ⟨.inl rfl, ⟨.inl rfl, ⟨.inl rfl, ⟨.inl rfl, ⟨.inl rfl, ⟨.inl rfl, ⟨.inl rfl, ⟨.inl rfl, ⟨.inl rfl, ⟨.inl rfl, ⟨.inl rfl, ⟨.inl rfl, ⟨.inl rfl, ⟨tab85, ⟨.inl rfl, ⟨.inl rfl, ⟨.inl rfl, ⟨.inl rfl, ⟨.inl rfl, ⟨.inl rfl, ⟨tab92, ⟨.inl rfl, ⟨.inl rfl, ⟨.inl rfl, ⟨.inl rfl, ⟨.inl rfl, ⟨.inl rfl, ⟨.inl rfl, ⟨.inl rfl, ⟨.inl rfl, ⟨.inl rfl, ⟨.inl rfl, ⟨.inl rfl, ⟨.inl rfl, ⟨.inl rfl, ⟨.inl rfl, ⟨.inl rfl, ⟨tab109, ⟨.inl rfl, ⟨.inl rfl, ⟨tab112, ⟨.inl rfl, ⟨.inl rfl, ⟨.inl rfl, ⟨tab116, ⟨tab117, ⟨tab118, ⟨tab119, ⟨tab120, ⟨.inl rfl, ⟨tab122, ⟨tab123, ⟨tab124, ⟨.inl rfl, ⟨tab126, ⟨tab127, ⟨tab128, ⟨tab129, ⟨tab130, ⟨.inl rfl, trivial⟩⟩⟩⟩⟩⟩⟩⟩⟩⟩⟩⟩⟩⟩⟩⟩⟩⟩⟩⟩⟩⟩⟩⟩⟩⟩⟩⟩⟩⟩⟩⟩⟩⟩⟩⟩⟩⟩⟩⟩⟩⟩⟩⟩⟩⟩⟩⟩⟩⟩⟩⟩⟩⟩⟩⟩⟩⟩⟩⟩⟩⟩⟩⟩⟩⟩⟩⟩⟩⟩⟩⟩⟩⟩⟩⟩⟩⟩⟩⟩⟩⟩⟩⟩⟩⟩⟩⟩⟩⟩⟩⟩⟩⟩⟩⟩⟩⟩⟩⟩⟩⟩⟩⟩⟩⟩⟩⟩⟩⟩⟩⟩⟩⟩⟩⟩⟩⟩⟩⟩⟩⟩⟩⟩⟩⟩⟩⟩⟩⟩⟩⟩)
end Go.Proofs.Ytaiedakbmmgmaaa
