/- The table of the seat's types, and that it fits the program. Written by gentabp.py. -/
import Derived.Test.YtidkmoohgadjkaaBEvF
import Derived.Test.YtidkmoohgadjkaaChecked
import Derived.KernelRfl
set_option linter.unusedVariables false
set_option maxRecDepth 100000
namespace Go.Proofs.Ytidkmoohgadjkaa
open Go E
def T : List TI := [
  TI.none,
  TI.none,
  ⟨(.int .i64), 1, 8, [(.int .i64 0)], false⟩,
  ⟨(.int .i64), 1, 8, [(.int .i64 0)], false⟩,
  ⟨.bool, 1, 1, [(.bool false)], false⟩,
  ⟨(.int .u8), 1, 1, [(.int .u8 0)], false⟩,
  ⟨(.int .u8), 1, 1, [(.int .u8 0)], false⟩,
  ⟨(.struct [(0, 2), (1, 3), (2, 4), (3, 6)]), 4, 24, [(.int .i64 0), (.int .i64 0), (.bool false), (.int .u8 0)], false⟩,
  ⟨(.struct [(0, 2), (1, 3), (2, 4), (3, 6)]), 4, 24, [(.int .i64 0), (.int .i64 0), (.bool false), (.int .u8 0)], false⟩,
  ⟨.str, 1, 16, [(.string ⟨#[]⟩)], false⟩,
  ⟨.str, 1, 16, [(.string ⟨#[]⟩)], false⟩,
  ⟨.str, 1, 16, [(.string ⟨#[]⟩)], false⟩,
  ⟨(.int .u64), 1, 8, [(.int .u64 0)], false⟩,
  ⟨(.struct [(0, 9), (1, 12)]), 2, 24, [(.string ⟨#[]⟩), (.int .u64 0)], false⟩,
  ⟨(.struct [(0, 9), (1, 12)]), 2, 24, [(.string ⟨#[]⟩), (.int .u64 0)], false⟩,
  ⟨(.ptr 43), 1, 8, [(.pointer none)], false⟩,
  ⟨(.ptr 46), 1, 8, [(.pointer none)], false⟩,
  ⟨(.ptr 55), 1, 8, [(.pointer none)], false⟩,
  ⟨(.struct [(0, 17)]), 1, 8, [(.pointer none)], false⟩,
  ⟨(.struct [(0, 17)]), 1, 8, [(.pointer none)], false⟩,
  ⟨.iface, 1, 16, [.nilIface], false⟩,
  ⟨(.int .i32), 1, 4, [(.int .i32 0)], false⟩,
  ⟨(.slice 5), 1, 24, [(.slice none 0 0)], false⟩,
  TI.none,
  TI.none,
  TI.none,
  TI.none,
  TI.none,
  TI.none,
  TI.none,
  ⟨.iface, 1, 16, [.nilIface], false⟩,
  ⟨.iface, 1, 16, [.nilIface], false⟩,
  TI.none,
  TI.none,
  TI.none,
  TI.none,
  ⟨(.int .u32), 1, 4, [(.int .u32 0)], false⟩,
  TI.none,
  ⟨(.int .u64), 1, 8, [(.int .u64 0)], false⟩,
  ⟨(.int .i64), 1, 8, [(.int .i64 0)], false⟩,
  ⟨(.int .u64), 1, 8, [(.int .u64 0)], false⟩,
  TI.none,
  ⟨(.struct [(0, 17), (1, 17), (2, 17), (3, 9)]), 4, 40, [(.pointer none), (.pointer none), (.pointer none), (.string ⟨#[]⟩)], false⟩,
  ⟨(.struct [(0, 17), (1, 17), (2, 17), (3, 9)]), 4, 40, [(.pointer none), (.pointer none), (.pointer none), (.string ⟨#[]⟩)], false⟩,
  ⟨(.arr 0 16), 0, 0, [], false⟩,
  ⟨(.struct [(0, 44)]), 0, 0, [], false⟩,
  ⟨(.struct [(0, 44)]), 0, 0, [], false⟩,
  TI.none,
  ⟨(.int .u8), 1, 1, [(.int .u8 0)], false⟩,
  ⟨(.int .u8), 1, 1, [(.int .u8 0)], false⟩,
  TI.none,
  ⟨(.ptr 5), 1, 8, [(.pointer none)], false⟩,
  ⟨(.int .i32), 1, 4, [(.int .i32 0)], false⟩,
  ⟨(.int .i32), 1, 4, [(.int .i32 0)], false⟩,
  ⟨(.struct [(0, 12), (1, 12), (2, 36), (3, 48), (4, 5), (5, 5), (6, 49), (7, 50), (8, 51), (9, 52), (10, 53)]), 11, 48, [(.int .u64 0), (.int .u64 0), (.int .u32 0), (.int .u8 0), (.int .u8 0), (.int .u8 0), (.int .u8 0), .nilFunc, (.pointer none), (.int .i32 0), (.int .i32 0)], false⟩,
  ⟨(.struct [(0, 12), (1, 12), (2, 36), (3, 48), (4, 5), (5, 5), (6, 49), (7, 50), (8, 51), (9, 52), (10, 53)]), 11, 48, [(.int .u64 0), (.int .u64 0), (.int .u32 0), (.int .u8 0), (.int .u8 0), (.int .u8 0), (.int .u8 0), .nilFunc, (.pointer none), (.int .i32 0), (.int .i32 0)], false⟩,
  TI.none]
theorem tab2 : TIOk Try.prog 2 ⟨(.int .i64), 1, 8, [(.int .i64 0)], false⟩ := row (i := Try.t2) (zv := (.int .i64 0)) Try.underlying2 rfl (by kernel_rfl) rfl rfl rfl rfl (.inr rfl) (.inl rfl) (.inl rfl) rfl rfl rfl
theorem tab3 : TIOk Try.prog 3 ⟨(.int .i64), 1, 8, [(.int .i64 0)], false⟩ := row (i := Try.t3) (zv := (.int .i64 0)) Try.underlying3 rfl (by kernel_rfl) rfl rfl rfl rfl (.inr rfl) (.inl rfl) (.inl rfl) rfl rfl rfl
theorem tab4 : TIOk Try.prog 4 ⟨.bool, 1, 1, [(.bool false)], false⟩ := row (i := Try.t4) (zv := (.bool false)) Try.underlying4 rfl (by kernel_rfl) rfl rfl rfl rfl (.inr rfl) (.inl rfl) (.inr nofun) rfl rfl rfl
theorem tab5 : TIOk Try.prog 5 ⟨(.int .u8), 1, 1, [(.int .u8 0)], false⟩ := row (i := Try.t5) (zv := (.int .u8 0)) Try.underlying5 rfl (by kernel_rfl) rfl rfl rfl rfl (.inr rfl) (.inl rfl) (.inl rfl) rfl rfl rfl
theorem tab6 : TIOk Try.prog 6 ⟨(.int .u8), 1, 1, [(.int .u8 0)], false⟩ := row (i := Try.t6) (zv := (.int .u8 0)) Try.underlying6 rfl (by kernel_rfl) rfl rfl rfl rfl (.inr rfl) (.inl rfl) (.inl rfl) rfl rfl rfl
theorem tab7 : TIOk Try.prog 7 ⟨(.struct [(0, 2), (1, 3), (2, 4), (3, 6)]), 4, 24, [(.int .i64 0), (.int .i64 0), (.bool false), (.int .u8 0)], false⟩ := row (i := Try.t7) (zv := (.agg #[(.int .i64 0), (.int .i64 0), (.bool false), (.int .u8 0)])) ⟨_, Try.underlying7, rfl⟩ rfl (by kernel_rfl) rfl rfl rfl rfl (.inl rfl) (.inr ⟨_, rfl⟩) (.inr nofun) rfl rfl rfl
theorem tab8 : TIOk Try.prog 8 ⟨(.struct [(0, 2), (1, 3), (2, 4), (3, 6)]), 4, 24, [(.int .i64 0), (.int .i64 0), (.bool false), (.int .u8 0)], false⟩ := row (i := Try.t8) (zv := (.agg #[(.int .i64 0), (.int .i64 0), (.bool false), (.int .u8 0)])) ⟨_, Try.underlying8, rfl⟩ rfl (by kernel_rfl) rfl rfl rfl rfl (.inl rfl) (.inr ⟨_, rfl⟩) (.inr nofun) rfl rfl rfl
theorem tab9 : TIOk Try.prog 9 ⟨.str, 1, 16, [(.string ⟨#[]⟩)], false⟩ := row (i := Try.t9) (zv := (.string ⟨#[]⟩)) Try.underlying9 rfl (by kernel_rfl) rfl rfl rfl rfl (.inr rfl) (.inl rfl) (.inr nofun) rfl rfl rfl
theorem tab10 : TIOk Try.prog 10 ⟨.str, 1, 16, [(.string ⟨#[]⟩)], false⟩ := row (i := Try.t10) (zv := (.string ⟨#[]⟩)) Try.underlying10 rfl (by kernel_rfl) rfl rfl rfl rfl (.inr rfl) (.inl rfl) (.inr nofun) rfl rfl rfl
theorem tab11 : TIOk Try.prog 11 ⟨.str, 1, 16, [(.string ⟨#[]⟩)], false⟩ := row (i := Try.t11) (zv := (.string ⟨#[]⟩)) Try.underlying11 rfl (by kernel_rfl) rfl rfl rfl rfl (.inr rfl) (.inl rfl) (.inr nofun) rfl rfl rfl
theorem tab12 : TIOk Try.prog 12 ⟨(.int .u64), 1, 8, [(.int .u64 0)], false⟩ := row (i := Try.t12) (zv := (.int .u64 0)) Try.underlying12 rfl (by kernel_rfl) rfl rfl rfl rfl (.inr rfl) (.inl rfl) (.inl rfl) rfl rfl rfl
theorem tab13 : TIOk Try.prog 13 ⟨(.struct [(0, 9), (1, 12)]), 2, 24, [(.string ⟨#[]⟩), (.int .u64 0)], false⟩ := row (i := Try.t13) (zv := (.agg #[(.string ⟨#[]⟩), (.int .u64 0)])) ⟨_, Try.underlying13, rfl⟩ rfl (by kernel_rfl) rfl rfl rfl rfl (.inl rfl) (.inr ⟨_, rfl⟩) (.inr nofun) rfl rfl rfl
theorem tab14 : TIOk Try.prog 14 ⟨(.struct [(0, 9), (1, 12)]), 2, 24, [(.string ⟨#[]⟩), (.int .u64 0)], false⟩ := row (i := Try.t14) (zv := (.agg #[(.string ⟨#[]⟩), (.int .u64 0)])) ⟨_, Try.underlying14, rfl⟩ rfl (by kernel_rfl) rfl rfl rfl rfl (.inl rfl) (.inr ⟨_, rfl⟩) (.inr nofun) rfl rfl rfl
theorem tab15 : TIOk Try.prog 15 ⟨(.ptr 43), 1, 8, [(.pointer none)], false⟩ := row (i := Try.t15) (zv := (.pointer none)) Try.underlying15 rfl (by kernel_rfl) rfl rfl rfl rfl (.inr rfl) (.inl rfl) (.inr nofun) rfl rfl rfl
theorem tab16 : TIOk Try.prog 16 ⟨(.ptr 46), 1, 8, [(.pointer none)], false⟩ := row (i := Try.t16) (zv := (.pointer none)) Try.underlying16 rfl (by kernel_rfl) rfl rfl rfl rfl (.inr rfl) (.inl rfl) (.inr nofun) rfl rfl rfl
theorem tab17 : TIOk Try.prog 17 ⟨(.ptr 55), 1, 8, [(.pointer none)], false⟩ := row (i := Try.t17) (zv := (.pointer none)) Try.underlying17 rfl (by kernel_rfl) rfl rfl rfl rfl (.inr rfl) (.inl rfl) (.inr nofun) rfl rfl rfl
theorem tab18 : TIOk Try.prog 18 ⟨(.struct [(0, 17)]), 1, 8, [(.pointer none)], false⟩ := row (i := Try.t18) (zv := (.agg #[(.pointer none)])) ⟨_, Try.underlying18, rfl⟩ rfl (by kernel_rfl) rfl rfl rfl rfl (.inl rfl) (.inr ⟨_, rfl⟩) (.inr nofun) rfl rfl rfl
theorem tab19 : TIOk Try.prog 19 ⟨(.struct [(0, 17)]), 1, 8, [(.pointer none)], false⟩ := row (i := Try.t19) (zv := (.agg #[(.pointer none)])) ⟨_, Try.underlying19, rfl⟩ rfl (by kernel_rfl) rfl rfl rfl rfl (.inl rfl) (.inr ⟨_, rfl⟩) (.inr nofun) rfl rfl rfl
theorem tab20 : TIOk Try.prog 20 ⟨.iface, 1, 16, [.nilIface], false⟩ := row (i := Try.t20) (zv := .nilIface) ⟨_, Try.underlying20⟩ rfl (by kernel_rfl) rfl rfl rfl rfl (.inr rfl) (.inl rfl) (.inr nofun) rfl rfl rfl
theorem tab21 : TIOk Try.prog 21 ⟨(.int .i32), 1, 4, [(.int .i32 0)], false⟩ := row (i := Try.t21) (zv := (.int .i32 0)) Try.underlying21 rfl (by kernel_rfl) rfl rfl rfl rfl (.inr rfl) (.inl rfl) (.inl rfl) rfl rfl rfl
theorem tab22 : TIOk Try.prog 22 ⟨(.slice 5), 1, 24, [(.slice none 0 0)], false⟩ := row (i := Try.t22) (zv := (.slice none 0 0)) Try.underlying22 rfl (by kernel_rfl) rfl rfl rfl rfl (.inr rfl) (.inl rfl) (.inr nofun) rfl rfl rfl
theorem tab30 : TIOk Try.prog 30 ⟨.iface, 1, 16, [.nilIface], false⟩ := row (i := Try.t30) (zv := .nilIface) ⟨_, Try.underlying30⟩ rfl (by kernel_rfl) rfl rfl rfl rfl (.inr rfl) (.inl rfl) (.inr nofun) rfl rfl rfl
theorem tab31 : TIOk Try.prog 31 ⟨.iface, 1, 16, [.nilIface], false⟩ := row (i := Try.t31) (zv := .nilIface) ⟨_, Try.underlying31⟩ rfl (by kernel_rfl) rfl rfl rfl rfl (.inr rfl) (.inl rfl) (.inr nofun) rfl rfl rfl
theorem tab36 : TIOk Try.prog 36 ⟨(.int .u32), 1, 4, [(.int .u32 0)], false⟩ := row (i := Try.t36) (zv := (.int .u32 0)) Try.underlying36 rfl (by kernel_rfl) rfl rfl rfl rfl (.inr rfl) (.inl rfl) (.inl rfl) rfl rfl rfl
theorem tab38 : TIOk Try.prog 38 ⟨(.int .u64), 1, 8, [(.int .u64 0)], false⟩ := row (i := Try.t38) (zv := (.int .u64 0)) Try.underlying38 rfl (by kernel_rfl) rfl rfl rfl rfl (.inr rfl) (.inl rfl) (.inl rfl) rfl rfl rfl
theorem tab39 : TIOk Try.prog 39 ⟨(.int .i64), 1, 8, [(.int .i64 0)], false⟩ := row (i := Try.t39) (zv := (.int .i64 0)) Try.underlying39 rfl (by kernel_rfl) rfl rfl rfl rfl (.inr rfl) (.inl rfl) (.inl rfl) rfl rfl rfl
theorem tab40 : TIOk Try.prog 40 ⟨(.int .u64), 1, 8, [(.int .u64 0)], false⟩ := row (i := Try.t40) (zv := (.int .u64 0)) Try.underlying40 rfl (by kernel_rfl) rfl rfl rfl rfl (.inr rfl) (.inl rfl) (.inl rfl) rfl rfl rfl
theorem tab42 : TIOk Try.prog 42 ⟨(.struct [(0, 17), (1, 17), (2, 17), (3, 9)]), 4, 40, [(.pointer none), (.pointer none), (.pointer none), (.string ⟨#[]⟩)], false⟩ := row (i := Try.t42) (zv := (.agg #[(.pointer none), (.pointer none), (.pointer none), (.string ⟨#[]⟩)])) ⟨_, Try.underlying42, rfl⟩ rfl (by kernel_rfl) rfl rfl rfl rfl (.inl rfl) (.inr ⟨_, rfl⟩) (.inr nofun) rfl rfl rfl
theorem tab43 : TIOk Try.prog 43 ⟨(.struct [(0, 17), (1, 17), (2, 17), (3, 9)]), 4, 40, [(.pointer none), (.pointer none), (.pointer none), (.string ⟨#[]⟩)], false⟩ := row (i := Try.t43) (zv := (.agg #[(.pointer none), (.pointer none), (.pointer none), (.string ⟨#[]⟩)])) ⟨_, Try.underlying43, rfl⟩ rfl (by kernel_rfl) rfl rfl rfl rfl (.inl rfl) (.inr ⟨_, rfl⟩) (.inr nofun) rfl rfl rfl
theorem tab44 : TIOk Try.prog 44 ⟨(.arr 0 16), 0, 0, [], false⟩ := row (i := Try.t44) (zv := (.agg #[])) Try.underlying44 rfl (by kernel_rfl) rfl rfl rfl rfl (.inl rfl) (.inr ⟨_, rfl⟩) (.inr nofun) rfl rfl rfl
theorem tab45 : TIOk Try.prog 45 ⟨(.struct [(0, 44)]), 0, 0, [], false⟩ := row (i := Try.t45) (zv := (.agg #[])) ⟨_, Try.underlying45, rfl⟩ rfl (by kernel_rfl) rfl rfl rfl rfl (.inl rfl) (.inr ⟨_, rfl⟩) (.inr nofun) rfl rfl rfl
theorem tab46 : TIOk Try.prog 46 ⟨(.struct [(0, 44)]), 0, 0, [], false⟩ := row (i := Try.t46) (zv := (.agg #[])) ⟨_, Try.underlying46, rfl⟩ rfl (by kernel_rfl) rfl rfl rfl rfl (.inl rfl) (.inr ⟨_, rfl⟩) (.inr nofun) rfl rfl rfl
theorem tab48 : TIOk Try.prog 48 ⟨(.int .u8), 1, 1, [(.int .u8 0)], false⟩ := row (i := Try.t48) (zv := (.int .u8 0)) Try.underlying48 rfl (by kernel_rfl) rfl rfl rfl rfl (.inr rfl) (.inl rfl) (.inl rfl) rfl rfl rfl
theorem tab49 : TIOk Try.prog 49 ⟨(.int .u8), 1, 1, [(.int .u8 0)], false⟩ := row (i := Try.t49) (zv := (.int .u8 0)) Try.underlying49 rfl (by kernel_rfl) rfl rfl rfl rfl (.inr rfl) (.inl rfl) (.inl rfl) rfl rfl rfl
theorem tab51 : TIOk Try.prog 51 ⟨(.ptr 5), 1, 8, [(.pointer none)], false⟩ := row (i := Try.t51) (zv := (.pointer none)) Try.underlying51 rfl (by kernel_rfl) rfl rfl rfl rfl (.inr rfl) (.inl rfl) (.inr nofun) rfl rfl rfl
theorem tab52 : TIOk Try.prog 52 ⟨(.int .i32), 1, 4, [(.int .i32 0)], false⟩ := row (i := Try.t52) (zv := (.int .i32 0)) Try.underlying52 rfl (by kernel_rfl) rfl rfl rfl rfl (.inr rfl) (.inl rfl) (.inl rfl) rfl rfl rfl
theorem tab53 : TIOk Try.prog 53 ⟨(.int .i32), 1, 4, [(.int .i32 0)], false⟩ := row (i := Try.t53) (zv := (.int .i32 0)) Try.underlying53 rfl (by kernel_rfl) rfl rfl rfl rfl (.inr rfl) (.inl rfl) (.inl rfl) rfl rfl rfl
theorem tab54 : TIOk Try.prog 54 ⟨(.struct [(0, 12), (1, 12), (2, 36), (3, 48), (4, 5), (5, 5), (6, 49), (7, 50), (8, 51), (9, 52), (10, 53)]), 11, 48, [(.int .u64 0), (.int .u64 0), (.int .u32 0), (.int .u8 0), (.int .u8 0), (.int .u8 0), (.int .u8 0), .nilFunc, (.pointer none), (.int .i32 0), (.int .i32 0)], false⟩ := row (i := Try.t54) (zv := (.agg #[(.int .u64 0), (.int .u64 0), (.int .u32 0), (.int .u8 0), (.int .u8 0), (.int .u8 0), (.int .u8 0), .nilFunc, (.pointer none), (.int .i32 0), (.int .i32 0)])) ⟨_, Try.underlying54, rfl⟩ rfl (by kernel_rfl) rfl rfl rfl rfl (.inl rfl) (.inr ⟨_, rfl⟩) (.inr nofun) rfl rfl rfl
theorem tab55 : TIOk Try.prog 55 ⟨(.struct [(0, 12), (1, 12), (2, 36), (3, 48), (4, 5), (5, 5), (6, 49), (7, 50), (8, 51), (9, 52), (10, 53)]), 11, 48, [(.int .u64 0), (.int .u64 0), (.int .u32 0), (.int .u8 0), (.int .u8 0), (.int .u8 0), (.int .u8 0), .nilFunc, (.pointer none), (.int .i32 0), (.int .i32 0)], false⟩ := row (i := Try.t55) (zv := (.agg #[(.int .u64 0), (.int .u64 0), (.int .u32 0), (.int .u8 0), (.int .u8 0), (.int .u8 0), (.int .u8 0), .nilFunc, (.pointer none), (.int .i32 0), (.int .i32 0)])) ⟨_, Try.underlying55, rfl⟩ rfl (by kernel_rfl) rfl rfl rfl rfl (.inl rfl) (.inr ⟨_, rfl⟩) (.inr nofun) rfl rfl rfl
theorem T_ok : TOk Try.prog T := TOk.of (⟨.inl rfl, ⟨.inl rfl, ⟨tab2, ⟨tab3, ⟨tab4, ⟨tab5, ⟨tab6, ⟨tab7, ⟨tab8, ⟨tab9, ⟨tab10, ⟨tab11, ⟨tab12, ⟨tab13, ⟨tab14, ⟨tab15, ⟨tab16, ⟨tab17, ⟨tab18, ⟨tab19, ⟨tab20, ⟨tab21, ⟨tab22, ⟨.inl rfl, ⟨.inl rfl, ⟨.inl rfl, ⟨.inl rfl, ⟨.inl rfl, ⟨.inl rfl, ⟨.inl rfl, ⟨tab30, ⟨tab31, ⟨.inl rfl, ⟨.inl rfl, ⟨.inl rfl, ⟨.inl rfl, ⟨tab36, ⟨.inl rfl, ⟨tab38, ⟨tab39, ⟨tab40, ⟨.inl rfl, ⟨tab42, ⟨tab43, ⟨tab44, ⟨tab45, ⟨tab46, ⟨.inl rfl, ⟨tab48, ⟨tab49, ⟨.inl rfl, ⟨tab51, ⟨tab52, ⟨tab53, ⟨tab54, ⟨tab55, ⟨.inl rfl, trivial⟩⟩⟩⟩⟩⟩⟩⟩⟩⟩⟩⟩⟩⟩⟩⟩⟩⟩⟩⟩⟩⟩⟩⟩⟩⟩⟩⟩⟩⟩⟩⟩⟩⟩⟩⟩⟩⟩⟩⟩⟩⟩⟩⟩⟩⟩⟩⟩⟩⟩⟩⟩⟩⟩⟩⟩⟩)
end Go.Proofs.Ytidkmoohgadjkaa
