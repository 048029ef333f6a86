import Derived.Test.YtdnfnddlciafmaaGreatProg
import Derived.Test.YtdnfnddlciafmaaGreatXBd
import Derived.KernelRfl
namespace Go.Proofs.YtdnfnddlciafmaaGreat.Tab
open Go.Cx
@[simp] theorem ts0 : tsize Tryz.prog 0 = some 1 := by kernel_rfl
@[simp] theorem tb0 : tbytes Tryz.prog 0 = some 0 := by kernel_rfl
@[simp] theorem ta0 : tagg Tryz.prog 0 = some false := by kernel_rfl
@[simp] theorem ts1 : tsize Tryz.prog 1 = some 1 := by kernel_rfl
@[simp] theorem tb1 : tbytes Tryz.prog 1 = some 8 := by kernel_rfl
@[simp] theorem ta1 : tagg Tryz.prog 1 = some false := by kernel_rfl
@[simp] theorem tz1 : tzero Tryz.prog 1 = some [.val .nilFunc] := by kernel_rfl
@[simp] theorem tv1 : tzeroV Tryz.prog 1 = some (.val .nilFunc) := by kernel_rfl
@[simp] theorem ts2 : tsize Tryz.prog 2 = some 1 := by kernel_rfl
@[simp] theorem tb2 : tbytes Tryz.prog 2 = some 8 := by kernel_rfl
@[simp] theorem ta2 : tagg Tryz.prog 2 = some false := by kernel_rfl
@[simp] theorem tui2 : Tryz.prog.underlying 2 = some (.int .i64) := by kernel_rfl
@[simp] theorem tz2 : tzero Tryz.prog 2 = some [.val (.int .i64 0)] := by kernel_rfl
@[simp] theorem tv2 : tzeroV Tryz.prog 2 = some (.val (.int .i64 0)) := by kernel_rfl
@[simp] theorem ts3 : tsize Tryz.prog 3 = some 1 := by kernel_rfl
@[simp] theorem tb3 : tbytes Tryz.prog 3 = some 8 := by kernel_rfl
@[simp] theorem ta3 : tagg Tryz.prog 3 = some false := by kernel_rfl
@[simp] theorem tui3 : Tryz.prog.underlying 3 = some (.int .i64) := by kernel_rfl
@[simp] theorem tz3 : tzero Tryz.prog 3 = some [.val (.int .i64 0)] := by kernel_rfl
@[simp] theorem tv3 : tzeroV Tryz.prog 3 = some (.val (.int .i64 0)) := by kernel_rfl
@[simp] theorem ts4 : tsize Tryz.prog 4 = some 1 := by kernel_rfl
@[simp] theorem tb4 : tbytes Tryz.prog 4 = some 1 := by kernel_rfl
@[simp] theorem ta4 : tagg Tryz.prog 4 = some false := by kernel_rfl
@[simp] theorem tub4 : Tryz.prog.underlying 4 = some .bool := by kernel_rfl
@[simp] theorem tz4 : tzero Tryz.prog 4 = some [.val (.bool false)] := by kernel_rfl
@[simp] theorem tv4 : tzeroV Tryz.prog 4 = some (.val (.bool false)) := by kernel_rfl
@[simp] theorem ts5 : tsize Tryz.prog 5 = some 1 := by kernel_rfl
@[simp] theorem tb5 : tbytes Tryz.prog 5 = some 1 := by kernel_rfl
@[simp] theorem ta5 : tagg Tryz.prog 5 = some false := by kernel_rfl
@[simp] theorem tui5 : Tryz.prog.underlying 5 = some (.int .u8) := by kernel_rfl
@[simp] theorem tz5 : tzero Tryz.prog 5 = some [.val (.int .u8 0)] := by kernel_rfl
@[simp] theorem tv5 : tzeroV Tryz.prog 5 = some (.val (.int .u8 0)) := by kernel_rfl
@[simp] theorem ts6 : tsize Tryz.prog 6 = some 1 := by kernel_rfl
@[simp] theorem tb6 : tbytes Tryz.prog 6 = some 1 := by kernel_rfl
@[simp] theorem ta6 : tagg Tryz.prog 6 = some false := by kernel_rfl
@[simp] theorem tui6 : Tryz.prog.underlying 6 = some (.int .u8) := by kernel_rfl
@[simp] theorem tz6 : tzero Tryz.prog 6 = some [.val (.int .u8 0)] := by kernel_rfl
@[simp] theorem tv6 : tzeroV Tryz.prog 6 = some (.val (.int .u8 0)) := by kernel_rfl
@[simp] theorem ts7 : tsize Tryz.prog 7 = some 4 := by kernel_rfl
@[simp] theorem tb7 : tbytes Tryz.prog 7 = some 24 := by kernel_rfl
@[simp] theorem ta7 : tagg Tryz.prog 7 = some true := by kernel_rfl
@[simp] theorem tf7_0 : tfield Tryz.prog 7 0 = some (0, 2, 1) := by kernel_rfl
@[simp] theorem tf7_1 : tfield Tryz.prog 7 1 = some (1, 3, 1) := by kernel_rfl
@[simp] theorem tf7_2 : tfield Tryz.prog 7 2 = some (2, 4, 1) := by kernel_rfl
@[simp] theorem tf7_3 : tfield Tryz.prog 7 3 = some (3, 6, 1) := by kernel_rfl
theorem tst7 : tstruct Tryz.prog 7 = some [(0, 2), (1, 3), (2, 4), (3, 6)] := by kernel_rfl
@[simp] theorem tp7 : tplaces Tryz.prog 7 = some [(0, 1), (1, 1), (2, 1), (3, 1)] := by kernel_rfl
@[simp] theorem tz7 : tzero Tryz.prog 7 = some [.val (.int .i64 0), .val (.int .i64 0), .val (.bool false), .val (.int .u8 0)] := by kernel_rfl
@[simp] theorem tv7 : tzeroV Tryz.prog 7 = some (.agg [.val (.int .i64 0), .val (.int .i64 0), .val (.bool false), .val (.int .u8 0)]) := by kernel_rfl
@[simp] theorem ts8 : tsize Tryz.prog 8 = some 4 := by kernel_rfl
@[simp] theorem tb8 : tbytes Tryz.prog 8 = some 24 := by kernel_rfl
@[simp] theorem ta8 : tagg Tryz.prog 8 = some true := by kernel_rfl
@[simp] theorem tf8_0 : tfield Tryz.prog 8 0 = some (0, 2, 1) := by kernel_rfl
@[simp] theorem tf8_1 : tfield Tryz.prog 8 1 = some (1, 3, 1) := by kernel_rfl
@[simp] theorem tf8_2 : tfield Tryz.prog 8 2 = some (2, 4, 1) := by kernel_rfl
@[simp] theorem tf8_3 : tfield Tryz.prog 8 3 = some (3, 6, 1) := by kernel_rfl
theorem tst8 : tstruct Tryz.prog 8 = some [(0, 2), (1, 3), (2, 4), (3, 6)] := by kernel_rfl
@[simp] theorem tp8 : tplaces Tryz.prog 8 = some [(0, 1), (1, 1), (2, 1), (3, 1)] := by kernel_rfl
@[simp] theorem tz8 : tzero Tryz.prog 8 = some [.val (.int .i64 0), .val (.int .i64 0), .val (.bool false), .val (.int .u8 0)] := by kernel_rfl
@[simp] theorem tv8 : tzeroV Tryz.prog 8 = some (.agg [.val (.int .i64 0), .val (.int .i64 0), .val (.bool false), .val (.int .u8 0)]) := by kernel_rfl
@[simp] theorem ts9 : tsize Tryz.prog 9 = some 1 := by kernel_rfl
@[simp] theorem tb9 : tbytes Tryz.prog 9 = some 16 := by kernel_rfl
@[simp] theorem ta9 : tagg Tryz.prog 9 = some false := by kernel_rfl
@[simp] theorem tus9 : Tryz.prog.underlying 9 = some .string := by kernel_rfl
@[simp] theorem tz9 : tzero Tryz.prog 9 = some [.val (.string .empty)] := by kernel_rfl
@[simp] theorem tv9 : tzeroV Tryz.prog 9 = some (.val (.string .empty)) := by kernel_rfl
@[simp] theorem ts10 : tsize Tryz.prog 10 = some 1 := by kernel_rfl
@[simp] theorem tb10 : tbytes Tryz.prog 10 = some 16 := by kernel_rfl
@[simp] theorem ta10 : tagg Tryz.prog 10 = some false := by kernel_rfl
@[simp] theorem tus10 : Tryz.prog.underlying 10 = some .string := by kernel_rfl
@[simp] theorem tz10 : tzero Tryz.prog 10 = some [.val (.string .empty)] := by kernel_rfl
@[simp] theorem tv10 : tzeroV Tryz.prog 10 = some (.val (.string .empty)) := by kernel_rfl
@[simp] theorem ts11 : tsize Tryz.prog 11 = some 1 := by kernel_rfl
@[simp] theorem tb11 : tbytes Tryz.prog 11 = some 16 := by kernel_rfl
@[simp] theorem ta11 : tagg Tryz.prog 11 = some false := by kernel_rfl
@[simp] theorem tus11 : Tryz.prog.underlying 11 = some .string := by kernel_rfl
@[simp] theorem tz11 : tzero Tryz.prog 11 = some [.val (.string .empty)] := by kernel_rfl
@[simp] theorem tv11 : tzeroV Tryz.prog 11 = some (.val (.string .empty)) := by kernel_rfl
@[simp] theorem ts12 : tsize Tryz.prog 12 = some 1 := by kernel_rfl
@[simp] theorem tb12 : tbytes Tryz.prog 12 = some 8 := by kernel_rfl
@[simp] theorem ta12 : tagg Tryz.prog 12 = some false := by kernel_rfl
@[simp] theorem tui12 : Tryz.prog.underlying 12 = some (.int .u64) := by kernel_rfl
@[simp] theorem tz12 : tzero Tryz.prog 12 = some [.val (.int .u64 0)] := by kernel_rfl
@[simp] theorem tv12 : tzeroV Tryz.prog 12 = some (.val (.int .u64 0)) := by kernel_rfl
@[simp] theorem ts13 : tsize Tryz.prog 13 = some 2 := by kernel_rfl
@[simp] theorem tb13 : tbytes Tryz.prog 13 = some 24 := by kernel_rfl
@[simp] theorem ta13 : tagg Tryz.prog 13 = some true := by kernel_rfl
@[simp] theorem tf13_0 : tfield Tryz.prog 13 0 = some (0, 9, 1) := by kernel_rfl
@[simp] theorem tf13_1 : tfield Tryz.prog 13 1 = some (1, 12, 1) := by kernel_rfl
theorem tst13 : tstruct Tryz.prog 13 = some [(0, 9), (1, 12)] := by kernel_rfl
@[simp] theorem tp13 : tplaces Tryz.prog 13 = some [(0, 1), (1, 1)] := by kernel_rfl
@[simp] theorem tz13 : tzero Tryz.prog 13 = some [.val (.string .empty), .val (.int .u64 0)] := by kernel_rfl
@[simp] theorem tv13 : tzeroV Tryz.prog 13 = some (.agg [.val (.string .empty), .val (.int .u64 0)]) := by kernel_rfl
@[simp] theorem ts14 : tsize Tryz.prog 14 = some 2 := by kernel_rfl
@[simp] theorem tb14 : tbytes Tryz.prog 14 = some 24 := by kernel_rfl
@[simp] theorem ta14 : tagg Tryz.prog 14 = some true := by kernel_rfl
@[simp] theorem tf14_0 : tfield Tryz.prog 14 0 = some (0, 9, 1) := by kernel_rfl
@[simp] theorem tf14_1 : tfield Tryz.prog 14 1 = some (1, 12, 1) := by kernel_rfl
theorem tst14 : tstruct Tryz.prog 14 = some [(0, 9), (1, 12)] := by kernel_rfl
@[simp] theorem tp14 : tplaces Tryz.prog 14 = some [(0, 1), (1, 1)] := by kernel_rfl
@[simp] theorem tz14 : tzero Tryz.prog 14 = some [.val (.string .empty), .val (.int .u64 0)] := by kernel_rfl
@[simp] theorem tv14 : tzeroV Tryz.prog 14 = some (.agg [.val (.string .empty), .val (.int .u64 0)]) := by kernel_rfl
@[simp] theorem ts15 : tsize Tryz.prog 15 = some 1 := by kernel_rfl
@[simp] theorem tb15 : tbytes Tryz.prog 15 = some 8 := by kernel_rfl
@[simp] theorem ta15 : tagg Tryz.prog 15 = some false := by kernel_rfl
@[simp] theorem tz15 : tzero Tryz.prog 15 = some [.val (.pointer none)] := by kernel_rfl
@[simp] theorem tv15 : tzeroV Tryz.prog 15 = some (.val (.pointer none)) := by kernel_rfl
@[simp] theorem ts16 : tsize Tryz.prog 16 = some 1 := by kernel_rfl
@[simp] theorem tb16 : tbytes Tryz.prog 16 = some 8 := by kernel_rfl
@[simp] theorem ta16 : tagg Tryz.prog 16 = some false := by kernel_rfl
@[simp] theorem tz16 : tzero Tryz.prog 16 = some [.val (.pointer none)] := by kernel_rfl
@[simp] theorem tv16 : tzeroV Tryz.prog 16 = some (.val (.pointer none)) := by kernel_rfl
@[simp] theorem ts17 : tsize Tryz.prog 17 = some 1 := by kernel_rfl
@[simp] theorem tb17 : tbytes Tryz.prog 17 = some 8 := by kernel_rfl
@[simp] theorem ta17 : tagg Tryz.prog 17 = some false := by kernel_rfl
@[simp] theorem tz17 : tzero Tryz.prog 17 = some [.val (.pointer none)] := by kernel_rfl
@[simp] theorem tv17 : tzeroV Tryz.prog 17 = some (.val (.pointer none)) := by kernel_rfl
@[simp] theorem ts18 : tsize Tryz.prog 18 = some 1 := by kernel_rfl
@[simp] theorem tb18 : tbytes Tryz.prog 18 = some 8 := by kernel_rfl
@[simp] theorem ta18 : tagg Tryz.prog 18 = some true := by kernel_rfl
@[simp] theorem tf18_0 : tfield Tryz.prog 18 0 = some (0, 17, 1) := by kernel_rfl
theorem tst18 : tstruct Tryz.prog 18 = some [(0, 17)] := by kernel_rfl
@[simp] theorem tp18 : tplaces Tryz.prog 18 = some [(0, 1)] := by kernel_rfl
@[simp] theorem tz18 : tzero Tryz.prog 18 = some [.val (.pointer none)] := by kernel_rfl
@[simp] theorem tv18 : tzeroV Tryz.prog 18 = some (.agg [.val (.pointer none)]) := by kernel_rfl
@[simp] theorem ts19 : tsize Tryz.prog 19 = some 1 := by kernel_rfl
@[simp] theorem tb19 : tbytes Tryz.prog 19 = some 8 := by kernel_rfl
@[simp] theorem ta19 : tagg Tryz.prog 19 = some true := by kernel_rfl
@[simp] theorem tf19_0 : tfield Tryz.prog 19 0 = some (0, 17, 1) := by kernel_rfl
theorem tst19 : tstruct Tryz.prog 19 = some [(0, 17)] := by kernel_rfl
@[simp] theorem tp19 : tplaces Tryz.prog 19 = some [(0, 1)] := by kernel_rfl
@[simp] theorem tz19 : tzero Tryz.prog 19 = some [.val (.pointer none)] := by kernel_rfl
@[simp] theorem tv19 : tzeroV Tryz.prog 19 = some (.agg [.val (.pointer none)]) := by kernel_rfl
@[simp] theorem ts20 : tsize Tryz.prog 20 = some 1 := by kernel_rfl
@[simp] theorem tb20 : tbytes Tryz.prog 20 = some 16 := by kernel_rfl
@[simp] theorem ta20 : tagg Tryz.prog 20 = some false := by kernel_rfl
@[simp] theorem tz20 : tzero Tryz.prog 20 = some [.val .nilIface] := by kernel_rfl
@[simp] theorem tv20 : tzeroV Tryz.prog 20 = some (.val .nilIface) := by kernel_rfl
@[simp] theorem ts21 : tsize Tryz.prog 21 = some 1 := by kernel_rfl
@[simp] theorem tb21 : tbytes Tryz.prog 21 = some 4 := by kernel_rfl
@[simp] theorem ta21 : tagg Tryz.prog 21 = some false := by kernel_rfl
@[simp] theorem tui21 : Tryz.prog.underlying 21 = some (.int .i32) := by kernel_rfl
@[simp] theorem tz21 : tzero Tryz.prog 21 = some [.val (.int .i32 0)] := by kernel_rfl
@[simp] theorem tv21 : tzeroV Tryz.prog 21 = some (.val (.int .i32 0)) := by kernel_rfl
@[simp] theorem ts22 : tsize Tryz.prog 22 = some 1 := by kernel_rfl
@[simp] theorem tb22 : tbytes Tryz.prog 22 = some 24 := by kernel_rfl
@[simp] theorem ta22 : tagg Tryz.prog 22 = some false := by kernel_rfl
@[simp] theorem te22 : telem Tryz.prog 22 = some 43 := by kernel_rfl
@[simp] theorem tes22 : elemSize Tryz.prog 22 = some 5 := by kernel_rfl
@[simp] theorem tz22 : tzero Tryz.prog 22 = some [.sl true 0 []] := by kernel_rfl
@[simp] theorem tv22 : tzeroV Tryz.prog 22 = some (.sl true 0 []) := by kernel_rfl
@[simp] theorem ts23 : tsize Tryz.prog 23 = some 2 := by kernel_rfl
@[simp] theorem tb23 : tbytes Tryz.prog 23 = some 32 := by kernel_rfl
@[simp] theorem ta23 : tagg Tryz.prog 23 = some true := by kernel_rfl
@[simp] theorem tf23_0 : tfield Tryz.prog 23 0 = some (0, 22, 1) := by kernel_rfl
@[simp] theorem tf23_1 : tfield Tryz.prog 23 1 = some (1, 3, 1) := by kernel_rfl
theorem tst23 : tstruct Tryz.prog 23 = some [(0, 22), (1, 3)] := by kernel_rfl
@[simp] theorem tp23 : tplaces Tryz.prog 23 = some [(0, 1), (1, 1)] := by kernel_rfl
@[simp] theorem tz23 : tzero Tryz.prog 23 = some [.sl true 0 [], .val (.int .i64 0)] := by kernel_rfl
@[simp] theorem tv23 : tzeroV Tryz.prog 23 = some (.agg [.sl true 0 [], .val (.int .i64 0)]) := by kernel_rfl
@[simp] theorem ts24 : tsize Tryz.prog 24 = some 2 := by kernel_rfl
@[simp] theorem tb24 : tbytes Tryz.prog 24 = some 32 := by kernel_rfl
@[simp] theorem ta24 : tagg Tryz.prog 24 = some true := by kernel_rfl
@[simp] theorem tf24_0 : tfield Tryz.prog 24 0 = some (0, 22, 1) := by kernel_rfl
@[simp] theorem tf24_1 : tfield Tryz.prog 24 1 = some (1, 3, 1) := by kernel_rfl
theorem tst24 : tstruct Tryz.prog 24 = some [(0, 22), (1, 3)] := by kernel_rfl
@[simp] theorem tp24 : tplaces Tryz.prog 24 = some [(0, 1), (1, 1)] := by kernel_rfl
@[simp] theorem tz24 : tzero Tryz.prog 24 = some [.sl true 0 [], .val (.int .i64 0)] := by kernel_rfl
@[simp] theorem tv24 : tzeroV Tryz.prog 24 = some (.agg [.sl true 0 [], .val (.int .i64 0)]) := by kernel_rfl
@[simp] theorem ts25 : tsize Tryz.prog 25 = some 8 := by kernel_rfl
@[simp] theorem tb25 : tbytes Tryz.prog 25 = some 88 := by kernel_rfl
@[simp] theorem ta25 : tagg Tryz.prog 25 = some true := by kernel_rfl
@[simp] theorem tf25_0 : tfield Tryz.prog 25 0 = some (0, 3, 1) := by kernel_rfl
@[simp] theorem tf25_1 : tfield Tryz.prog 25 1 = some (1, 3, 1) := by kernel_rfl
@[simp] theorem tf25_2 : tfield Tryz.prog 25 2 = some (2, 3, 1) := by kernel_rfl
@[simp] theorem tf25_3 : tfield Tryz.prog 25 3 = some (3, 3, 1) := by kernel_rfl
@[simp] theorem tf25_4 : tfield Tryz.prog 25 4 = some (4, 3, 1) := by kernel_rfl
@[simp] theorem tf25_5 : tfield Tryz.prog 25 5 = some (5, 9, 1) := by kernel_rfl
@[simp] theorem tf25_6 : tfield Tryz.prog 25 6 = some (6, 9, 1) := by kernel_rfl
@[simp] theorem tf25_7 : tfield Tryz.prog 25 7 = some (7, 9, 1) := by kernel_rfl
theorem tst25 : tstruct Tryz.prog 25 = some [(0, 3), (1, 3), (2, 3), (3, 3), (4, 3), (5, 9), (6, 9), (7, 9)] := by kernel_rfl
@[simp] theorem tp25 : tplaces Tryz.prog 25 = some [(0, 1), (1, 1), (2, 1), (3, 1), (4, 1), (5, 1), (6, 1), (7, 1)] := by kernel_rfl
@[simp] theorem tz25 : tzero Tryz.prog 25 = some [.val (.int .i64 0), .val (.int .i64 0), .val (.int .i64 0), .val (.int .i64 0), .val (.int .i64 0), .val (.string .empty), .val (.string .empty), .val (.string .empty)] := by kernel_rfl
@[simp] theorem tv25 : tzeroV Tryz.prog 25 = some (.agg [.val (.int .i64 0), .val (.int .i64 0), .val (.int .i64 0), .val (.int .i64 0), .val (.int .i64 0), .val (.string .empty), .val (.string .empty), .val (.string .empty)]) := by kernel_rfl
@[simp] theorem ts26 : tsize Tryz.prog 26 = some 8 := by kernel_rfl
@[simp] theorem tb26 : tbytes Tryz.prog 26 = some 88 := by kernel_rfl
@[simp] theorem ta26 : tagg Tryz.prog 26 = some true := by kernel_rfl
@[simp] theorem tf26_0 : tfield Tryz.prog 26 0 = some (0, 3, 1) := by kernel_rfl
@[simp] theorem tf26_1 : tfield Tryz.prog 26 1 = some (1, 3, 1) := by kernel_rfl
@[simp] theorem tf26_2 : tfield Tryz.prog 26 2 = some (2, 3, 1) := by kernel_rfl
@[simp] theorem tf26_3 : tfield Tryz.prog 26 3 = some (3, 3, 1) := by kernel_rfl
@[simp] theorem tf26_4 : tfield Tryz.prog 26 4 = some (4, 3, 1) := by kernel_rfl
@[simp] theorem tf26_5 : tfield Tryz.prog 26 5 = some (5, 9, 1) := by kernel_rfl
@[simp] theorem tf26_6 : tfield Tryz.prog 26 6 = some (6, 9, 1) := by kernel_rfl
@[simp] theorem tf26_7 : tfield Tryz.prog 26 7 = some (7, 9, 1) := by kernel_rfl
theorem tst26 : tstruct Tryz.prog 26 = some [(0, 3), (1, 3), (2, 3), (3, 3), (4, 3), (5, 9), (6, 9), (7, 9)] := by kernel_rfl
@[simp] theorem tfl26 : tflat Tryz.prog 26 = some [.int .i64, .int .i64, .int .i64, .int .i64, .int .i64, .string, .string, .string] := by kernel_rfl
@[simp] theorem tp26 : tplaces Tryz.prog 26 = some [(0, 1), (1, 1), (2, 1), (3, 1), (4, 1), (5, 1), (6, 1), (7, 1)] := by kernel_rfl
@[simp] theorem tz26 : tzero Tryz.prog 26 = some [.val (.int .i64 0), .val (.int .i64 0), .val (.int .i64 0), .val (.int .i64 0), .val (.int .i64 0), .val (.string .empty), .val (.string .empty), .val (.string .empty)] := by kernel_rfl
@[simp] theorem tv26 : tzeroV Tryz.prog 26 = some (.agg [.val (.int .i64 0), .val (.int .i64 0), .val (.int .i64 0), .val (.int .i64 0), .val (.int .i64 0), .val (.string .empty), .val (.string .empty), .val (.string .empty)]) := by kernel_rfl
@[simp] theorem ts27 : tsize Tryz.prog 27 = some 1 := by kernel_rfl
@[simp] theorem tb27 : tbytes Tryz.prog 27 = some 8 := by kernel_rfl
@[simp] theorem ta27 : tagg Tryz.prog 27 = some false := by kernel_rfl
@[simp] theorem tz27 : tzero Tryz.prog 27 = some [.val .nilFunc] := by kernel_rfl
@[simp] theorem tv27 : tzeroV Tryz.prog 27 = some (.val .nilFunc) := by kernel_rfl
@[simp] theorem ts28 : tsize Tryz.prog 28 = some 1 := by kernel_rfl
@[simp] theorem tb28 : tbytes Tryz.prog 28 = some 8 := by kernel_rfl
@[simp] theorem ta28 : tagg Tryz.prog 28 = some false := by kernel_rfl
@[simp] theorem tz28 : tzero Tryz.prog 28 = some [.val .nilFunc] := by kernel_rfl
@[simp] theorem tv28 : tzeroV Tryz.prog 28 = some (.val .nilFunc) := by kernel_rfl
@[simp] theorem ts29 : tsize Tryz.prog 29 = some 1 := by kernel_rfl
@[simp] theorem tb29 : tbytes Tryz.prog 29 = some 8 := by kernel_rfl
@[simp] theorem ta29 : tagg Tryz.prog 29 = some false := by kernel_rfl
@[simp] theorem tz29 : tzero Tryz.prog 29 = some [.val .nilFunc] := by kernel_rfl
@[simp] theorem tv29 : tzeroV Tryz.prog 29 = some (.val .nilFunc) := by kernel_rfl
@[simp] theorem ts30 : tsize Tryz.prog 30 = some 1 := by kernel_rfl
@[simp] theorem tb30 : tbytes Tryz.prog 30 = some 24 := by kernel_rfl
@[simp] theorem ta30 : tagg Tryz.prog 30 = some false := by kernel_rfl
@[simp] theorem te30 : telem Tryz.prog 30 = some 26 := by kernel_rfl
@[simp] theorem tes30 : elemSize Tryz.prog 30 = some 8 := by kernel_rfl
@[simp] theorem tz30 : tzero Tryz.prog 30 = some [.sl true 0 []] := by kernel_rfl
@[simp] theorem tv30 : tzeroV Tryz.prog 30 = some (.sl true 0 []) := by kernel_rfl
@[simp] theorem ts31 : tsize Tryz.prog 31 = some 1 := by kernel_rfl
@[simp] theorem tb31 : tbytes Tryz.prog 31 = some 8 := by kernel_rfl
@[simp] theorem ta31 : tagg Tryz.prog 31 = some false := by kernel_rfl
@[simp] theorem tui31 : Tryz.prog.underlying 31 = some (.int .i64) := by kernel_rfl
@[simp] theorem tz31 : tzero Tryz.prog 31 = some [.val (.int .i64 0)] := by kernel_rfl
@[simp] theorem tv31 : tzeroV Tryz.prog 31 = some (.val (.int .i64 0)) := by kernel_rfl
@[simp] theorem ts32 : tsize Tryz.prog 32 = some 1 := by kernel_rfl
@[simp] theorem tb32 : tbytes Tryz.prog 32 = some 24 := by kernel_rfl
@[simp] theorem ta32 : tagg Tryz.prog 32 = some false := by kernel_rfl
@[simp] theorem te32 : telem Tryz.prog 32 = some 9 := by kernel_rfl
@[simp] theorem tes32 : elemSize Tryz.prog 32 = some 1 := by kernel_rfl
@[simp] theorem tz32 : tzero Tryz.prog 32 = some [.sl true 0 []] := by kernel_rfl
@[simp] theorem tv32 : tzeroV Tryz.prog 32 = some (.sl true 0 []) := by kernel_rfl
@[simp] theorem ts33 : tsize Tryz.prog 33 = some 6 := by kernel_rfl
@[simp] theorem tb33 : tbytes Tryz.prog 33 = some 72 := by kernel_rfl
@[simp] theorem ta33 : tagg Tryz.prog 33 = some true := by kernel_rfl
@[simp] theorem tf33_0 : tfield Tryz.prog 33 0 = some (0, 31, 1) := by kernel_rfl
@[simp] theorem tf33_1 : tfield Tryz.prog 33 1 = some (1, 3, 1) := by kernel_rfl
@[simp] theorem tf33_2 : tfield Tryz.prog 33 2 = some (2, 3, 1) := by kernel_rfl
@[simp] theorem tf33_3 : tfield Tryz.prog 33 3 = some (3, 3, 1) := by kernel_rfl
@[simp] theorem tf33_4 : tfield Tryz.prog 33 4 = some (4, 9, 1) := by kernel_rfl
@[simp] theorem tf33_5 : tfield Tryz.prog 33 5 = some (5, 32, 1) := by kernel_rfl
theorem tst33 : tstruct Tryz.prog 33 = some [(0, 31), (1, 3), (2, 3), (3, 3), (4, 9), (5, 32)] := by kernel_rfl
@[simp] theorem tp33 : tplaces Tryz.prog 33 = some [(0, 1), (1, 1), (2, 1), (3, 1), (4, 1), (5, 1)] := by kernel_rfl
@[simp] theorem tz33 : tzero Tryz.prog 33 = some [.val (.int .i64 0), .val (.int .i64 0), .val (.int .i64 0), .val (.int .i64 0), .val (.string .empty), .sl true 0 []] := by kernel_rfl
@[simp] theorem tv33 : tzeroV Tryz.prog 33 = some (.agg [.val (.int .i64 0), .val (.int .i64 0), .val (.int .i64 0), .val (.int .i64 0), .val (.string .empty), .sl true 0 []]) := by kernel_rfl
@[simp] theorem ts34 : tsize Tryz.prog 34 = some 6 := by kernel_rfl
@[simp] theorem tb34 : tbytes Tryz.prog 34 = some 72 := by kernel_rfl
@[simp] theorem ta34 : tagg Tryz.prog 34 = some true := by kernel_rfl
@[simp] theorem tf34_0 : tfield Tryz.prog 34 0 = some (0, 31, 1) := by kernel_rfl
@[simp] theorem tf34_1 : tfield Tryz.prog 34 1 = some (1, 3, 1) := by kernel_rfl
@[simp] theorem tf34_2 : tfield Tryz.prog 34 2 = some (2, 3, 1) := by kernel_rfl
@[simp] theorem tf34_3 : tfield Tryz.prog 34 3 = some (3, 3, 1) := by kernel_rfl
@[simp] theorem tf34_4 : tfield Tryz.prog 34 4 = some (4, 9, 1) := by kernel_rfl
@[simp] theorem tf34_5 : tfield Tryz.prog 34 5 = some (5, 32, 1) := by kernel_rfl
theorem tst34 : tstruct Tryz.prog 34 = some [(0, 31), (1, 3), (2, 3), (3, 3), (4, 9), (5, 32)] := by kernel_rfl
@[simp] theorem tp34 : tplaces Tryz.prog 34 = some [(0, 1), (1, 1), (2, 1), (3, 1), (4, 1), (5, 1)] := by kernel_rfl
@[simp] theorem tz34 : tzero Tryz.prog 34 = some [.val (.int .i64 0), .val (.int .i64 0), .val (.int .i64 0), .val (.int .i64 0), .val (.string .empty), .sl true 0 []] := by kernel_rfl
@[simp] theorem tv34 : tzeroV Tryz.prog 34 = some (.agg [.val (.int .i64 0), .val (.int .i64 0), .val (.int .i64 0), .val (.int .i64 0), .val (.string .empty), .sl true 0 []]) := by kernel_rfl
@[simp] theorem ts35 : tsize Tryz.prog 35 = some 1 := by kernel_rfl
@[simp] theorem tb35 : tbytes Tryz.prog 35 = some 0 := by kernel_rfl
@[simp] theorem ta35 : tagg Tryz.prog 35 = some false := by kernel_rfl
@[simp] theorem ts36 : tsize Tryz.prog 36 = some 1 := by kernel_rfl
@[simp] theorem tb36 : tbytes Tryz.prog 36 = some 8 := by kernel_rfl
@[simp] theorem ta36 : tagg Tryz.prog 36 = some false := by kernel_rfl
@[simp] theorem tz36 : tzero Tryz.prog 36 = some [.val .nilFunc] := by kernel_rfl
@[simp] theorem tv36 : tzeroV Tryz.prog 36 = some (.val .nilFunc) := by kernel_rfl
@[simp] theorem ts37 : tsize Tryz.prog 37 = some 1 := by kernel_rfl
@[simp] theorem tb37 : tbytes Tryz.prog 37 = some 8 := by kernel_rfl
@[simp] theorem ta37 : tagg Tryz.prog 37 = some false := by kernel_rfl
@[simp] theorem tz37 : tzero Tryz.prog 37 = some [.val .nilFunc] := by kernel_rfl
@[simp] theorem tv37 : tzeroV Tryz.prog 37 = some (.val .nilFunc) := by kernel_rfl
@[simp] theorem ts38 : tsize Tryz.prog 38 = some 1 := by kernel_rfl
@[simp] theorem tb38 : tbytes Tryz.prog 38 = some 8 := by kernel_rfl
@[simp] theorem ta38 : tagg Tryz.prog 38 = some false := by kernel_rfl
@[simp] theorem tz38 : tzero Tryz.prog 38 = some [.val .nilFunc] := by kernel_rfl
@[simp] theorem tv38 : tzeroV Tryz.prog 38 = some (.val .nilFunc) := by kernel_rfl
@[simp] theorem ts39 : tsize Tryz.prog 39 = some 6 := by kernel_rfl
@[simp] theorem tb39 : tbytes Tryz.prog 39 = some 80 := by kernel_rfl
@[simp] theorem ta39 : tagg Tryz.prog 39 = some true := by kernel_rfl
@[simp] theorem tf39_0 : tfield Tryz.prog 39 0 = some (0, 24, 2) := by kernel_rfl
@[simp] theorem tf39_1 : tfield Tryz.prog 39 1 = some (2, 3, 1) := by kernel_rfl
@[simp] theorem tf39_2 : tfield Tryz.prog 39 2 = some (3, 9, 1) := by kernel_rfl
@[simp] theorem tf39_3 : tfield Tryz.prog 39 3 = some (4, 3, 1) := by kernel_rfl
@[simp] theorem tf39_4 : tfield Tryz.prog 39 4 = some (5, 9, 1) := by kernel_rfl
theorem tst39 : tstruct Tryz.prog 39 = some [(0, 24), (2, 3), (3, 9), (4, 3), (5, 9)] := by kernel_rfl
@[simp] theorem tp39 : tplaces Tryz.prog 39 = some [(0, 2), (2, 1), (3, 1), (4, 1), (5, 1)] := by kernel_rfl
@[simp] theorem tz39 : tzero Tryz.prog 39 = some [.sl true 0 [], .val (.int .i64 0), .val (.int .i64 0), .val (.string .empty), .val (.int .i64 0), .val (.string .empty)] := by kernel_rfl
@[simp] theorem tv39 : tzeroV Tryz.prog 39 = some (.agg [.sl true 0 [], .val (.int .i64 0), .val (.int .i64 0), .val (.string .empty), .val (.int .i64 0), .val (.string .empty)]) := by kernel_rfl
@[simp] theorem ts40 : tsize Tryz.prog 40 = some 6 := by kernel_rfl
@[simp] theorem tb40 : tbytes Tryz.prog 40 = some 80 := by kernel_rfl
@[simp] theorem ta40 : tagg Tryz.prog 40 = some true := by kernel_rfl
@[simp] theorem tf40_0 : tfield Tryz.prog 40 0 = some (0, 24, 2) := by kernel_rfl
@[simp] theorem tf40_1 : tfield Tryz.prog 40 1 = some (2, 3, 1) := by kernel_rfl
@[simp] theorem tf40_2 : tfield Tryz.prog 40 2 = some (3, 9, 1) := by kernel_rfl
@[simp] theorem tf40_3 : tfield Tryz.prog 40 3 = some (4, 3, 1) := by kernel_rfl
@[simp] theorem tf40_4 : tfield Tryz.prog 40 4 = some (5, 9, 1) := by kernel_rfl
theorem tst40 : tstruct Tryz.prog 40 = some [(0, 24), (2, 3), (3, 9), (4, 3), (5, 9)] := by kernel_rfl
@[simp] theorem tp40 : tplaces Tryz.prog 40 = some [(0, 2), (2, 1), (3, 1), (4, 1), (5, 1)] := by kernel_rfl
@[simp] theorem tz40 : tzero Tryz.prog 40 = some [.sl true 0 [], .val (.int .i64 0), .val (.int .i64 0), .val (.string .empty), .val (.int .i64 0), .val (.string .empty)] := by kernel_rfl
@[simp] theorem tv40 : tzeroV Tryz.prog 40 = some (.agg [.sl true 0 [], .val (.int .i64 0), .val (.int .i64 0), .val (.string .empty), .val (.int .i64 0), .val (.string .empty)]) := by kernel_rfl
@[simp] theorem ts41 : tsize Tryz.prog 41 = some 1 := by kernel_rfl
@[simp] theorem tb41 : tbytes Tryz.prog 41 = some 24 := by kernel_rfl
@[simp] theorem ta41 : tagg Tryz.prog 41 = some false := by kernel_rfl
@[simp] theorem te41 : telem Tryz.prog 41 = some 121 := by kernel_rfl
@[simp] theorem tes41 : elemSize Tryz.prog 41 = some 2 := by kernel_rfl
@[simp] theorem tz41 : tzero Tryz.prog 41 = some [.sl true 0 []] := by kernel_rfl
@[simp] theorem tv41 : tzeroV Tryz.prog 41 = some (.sl true 0 []) := by kernel_rfl
@[simp] theorem ts42 : tsize Tryz.prog 42 = some 5 := by kernel_rfl
@[simp] theorem tb42 : tbytes Tryz.prog 42 = some 64 := by kernel_rfl
@[simp] theorem ta42 : tagg Tryz.prog 42 = some true := by kernel_rfl
@[simp] theorem tf42_0 : tfield Tryz.prog 42 0 = some (0, 3, 1) := by kernel_rfl
@[simp] theorem tf42_1 : tfield Tryz.prog 42 1 = some (1, 3, 1) := by kernel_rfl
@[simp] theorem tf42_2 : tfield Tryz.prog 42 2 = some (2, 3, 1) := by kernel_rfl
@[simp] theorem tf42_3 : tfield Tryz.prog 42 3 = some (3, 9, 1) := by kernel_rfl
@[simp] theorem tf42_4 : tfield Tryz.prog 42 4 = some (4, 41, 1) := by kernel_rfl
theorem tst42 : tstruct Tryz.prog 42 = some [(0, 3), (1, 3), (2, 3), (3, 9), (4, 41)] := by kernel_rfl
@[simp] theorem tp42 : tplaces Tryz.prog 42 = some [(0, 1), (1, 1), (2, 1), (3, 1), (4, 1)] := by kernel_rfl
@[simp] theorem tz42 : tzero Tryz.prog 42 = some [.val (.int .i64 0), .val (.int .i64 0), .val (.int .i64 0), .val (.string .empty), .sl true 0 []] := by kernel_rfl
@[simp] theorem tv42 : tzeroV Tryz.prog 42 = some (.agg [.val (.int .i64 0), .val (.int .i64 0), .val (.int .i64 0), .val (.string .empty), .sl true 0 []]) := by kernel_rfl
@[simp] theorem ts43 : tsize Tryz.prog 43 = some 5 := by kernel_rfl
@[simp] theorem tb43 : tbytes Tryz.prog 43 = some 64 := by kernel_rfl
@[simp] theorem ta43 : tagg Tryz.prog 43 = some true := by kernel_rfl
@[simp] theorem tf43_0 : tfield Tryz.prog 43 0 = some (0, 3, 1) := by kernel_rfl
@[simp] theorem tf43_1 : tfield Tryz.prog 43 1 = some (1, 3, 1) := by kernel_rfl
@[simp] theorem tf43_2 : tfield Tryz.prog 43 2 = some (2, 3, 1) := by kernel_rfl
@[simp] theorem tf43_3 : tfield Tryz.prog 43 3 = some (3, 9, 1) := by kernel_rfl
@[simp] theorem tf43_4 : tfield Tryz.prog 43 4 = some (4, 41, 1) := by kernel_rfl
theorem tst43 : tstruct Tryz.prog 43 = some [(0, 3), (1, 3), (2, 3), (3, 9), (4, 41)] := by kernel_rfl
@[simp] theorem tp43 : tplaces Tryz.prog 43 = some [(0, 1), (1, 1), (2, 1), (3, 1), (4, 1)] := by kernel_rfl
@[simp] theorem tz43 : tzero Tryz.prog 43 = some [.val (.int .i64 0), .val (.int .i64 0), .val (.int .i64 0), .val (.string .empty), .sl true 0 []] := by kernel_rfl
@[simp] theorem tv43 : tzeroV Tryz.prog 43 = some (.agg [.val (.int .i64 0), .val (.int .i64 0), .val (.int .i64 0), .val (.string .empty), .sl true 0 []]) := by kernel_rfl
@[simp] theorem ts44 : tsize Tryz.prog 44 = some 1 := by kernel_rfl
@[simp] theorem tb44 : tbytes Tryz.prog 44 = some 0 := by kernel_rfl
@[simp] theorem ta44 : tagg Tryz.prog 44 = some false := by kernel_rfl
@[simp] theorem ts45 : tsize Tryz.prog 45 = some 1 := by kernel_rfl
@[simp] theorem tb45 : tbytes Tryz.prog 45 = some 8 := by kernel_rfl
@[simp] theorem ta45 : tagg Tryz.prog 45 = some false := by kernel_rfl
@[simp] theorem tz45 : tzero Tryz.prog 45 = some [.val .nilFunc] := by kernel_rfl
@[simp] theorem tv45 : tzeroV Tryz.prog 45 = some (.val .nilFunc) := by kernel_rfl
@[simp] theorem ts46 : tsize Tryz.prog 46 = some 1 := by kernel_rfl
@[simp] theorem tb46 : tbytes Tryz.prog 46 = some 8 := by kernel_rfl
@[simp] theorem ta46 : tagg Tryz.prog 46 = some false := by kernel_rfl
@[simp] theorem tz46 : tzero Tryz.prog 46 = some [.val .nilFunc] := by kernel_rfl
@[simp] theorem tv46 : tzeroV Tryz.prog 46 = some (.val .nilFunc) := by kernel_rfl
@[simp] theorem ts47 : tsize Tryz.prog 47 = some 1 := by kernel_rfl
@[simp] theorem tb47 : tbytes Tryz.prog 47 = some 8 := by kernel_rfl
@[simp] theorem ta47 : tagg Tryz.prog 47 = some false := by kernel_rfl
@[simp] theorem tz47 : tzero Tryz.prog 47 = some [.val .nilFunc] := by kernel_rfl
@[simp] theorem tv47 : tzeroV Tryz.prog 47 = some (.val .nilFunc) := by kernel_rfl
@[simp] theorem ts48 : tsize Tryz.prog 48 = some 12 := by kernel_rfl
@[simp] theorem tb48 : tbytes Tryz.prog 48 = some 144 := by kernel_rfl
@[simp] theorem ta48 : tagg Tryz.prog 48 = some true := by kernel_rfl
@[simp] theorem tf48_0 : tfield Tryz.prog 48 0 = some (0, 24, 2) := by kernel_rfl
@[simp] theorem tf48_1 : tfield Tryz.prog 48 1 = some (2, 26, 8) := by kernel_rfl
@[simp] theorem tf48_2 : tfield Tryz.prog 48 2 = some (10, 3, 1) := by kernel_rfl
@[simp] theorem tf48_3 : tfield Tryz.prog 48 3 = some (11, 9, 1) := by kernel_rfl
theorem tst48 : tstruct Tryz.prog 48 = some [(0, 24), (2, 26), (10, 3), (11, 9)] := by kernel_rfl
@[simp] theorem tp48 : tplaces Tryz.prog 48 = some [(0, 2), (2, 8), (10, 1), (11, 1)] := by kernel_rfl
@[simp] theorem tz48 : tzero Tryz.prog 48 = some [.sl true 0 [], .val (.int .i64 0), .val (.int .i64 0), .val (.int .i64 0), .val (.int .i64 0), .val (.int .i64 0), .val (.int .i64 0), .val (.string .empty), .val (.string .empty), .val (.string .empty), .val (.int .i64 0), .val (.string .empty)] := by kernel_rfl
@[simp] theorem tv48 : tzeroV Tryz.prog 48 = some (.agg [.sl true 0 [], .val (.int .i64 0), .val (.int .i64 0), .val (.int .i64 0), .val (.int .i64 0), .val (.int .i64 0), .val (.int .i64 0), .val (.string .empty), .val (.string .empty), .val (.string .empty), .val (.int .i64 0), .val (.string .empty)]) := by kernel_rfl
@[simp] theorem ts49 : tsize Tryz.prog 49 = some 12 := by kernel_rfl
@[simp] theorem tb49 : tbytes Tryz.prog 49 = some 144 := by kernel_rfl
@[simp] theorem ta49 : tagg Tryz.prog 49 = some true := by kernel_rfl
@[simp] theorem tf49_0 : tfield Tryz.prog 49 0 = some (0, 24, 2) := by kernel_rfl
@[simp] theorem tf49_1 : tfield Tryz.prog 49 1 = some (2, 26, 8) := by kernel_rfl
@[simp] theorem tf49_2 : tfield Tryz.prog 49 2 = some (10, 3, 1) := by kernel_rfl
@[simp] theorem tf49_3 : tfield Tryz.prog 49 3 = some (11, 9, 1) := by kernel_rfl
theorem tst49 : tstruct Tryz.prog 49 = some [(0, 24), (2, 26), (10, 3), (11, 9)] := by kernel_rfl
@[simp] theorem tp49 : tplaces Tryz.prog 49 = some [(0, 2), (2, 8), (10, 1), (11, 1)] := by kernel_rfl
@[simp] theorem tz49 : tzero Tryz.prog 49 = some [.sl true 0 [], .val (.int .i64 0), .val (.int .i64 0), .val (.int .i64 0), .val (.int .i64 0), .val (.int .i64 0), .val (.int .i64 0), .val (.string .empty), .val (.string .empty), .val (.string .empty), .val (.int .i64 0), .val (.string .empty)] := by kernel_rfl
@[simp] theorem tv49 : tzeroV Tryz.prog 49 = some (.agg [.sl true 0 [], .val (.int .i64 0), .val (.int .i64 0), .val (.int .i64 0), .val (.int .i64 0), .val (.int .i64 0), .val (.int .i64 0), .val (.string .empty), .val (.string .empty), .val (.string .empty), .val (.int .i64 0), .val (.string .empty)]) := by kernel_rfl
@[simp] theorem ts50 : tsize Tryz.prog 50 = some 1 := by kernel_rfl
@[simp] theorem tb50 : tbytes Tryz.prog 50 = some 0 := by kernel_rfl
@[simp] theorem ta50 : tagg Tryz.prog 50 = some false := by kernel_rfl
@[simp] theorem ts51 : tsize Tryz.prog 51 = some 1 := by kernel_rfl
@[simp] theorem tb51 : tbytes Tryz.prog 51 = some 8 := by kernel_rfl
@[simp] theorem ta51 : tagg Tryz.prog 51 = some false := by kernel_rfl
@[simp] theorem tz51 : tzero Tryz.prog 51 = some [.val .nilFunc] := by kernel_rfl
@[simp] theorem tv51 : tzeroV Tryz.prog 51 = some (.val .nilFunc) := by kernel_rfl
@[simp] theorem ts52 : tsize Tryz.prog 52 = some 1 := by kernel_rfl
@[simp] theorem tb52 : tbytes Tryz.prog 52 = some 24 := by kernel_rfl
@[simp] theorem ta52 : tagg Tryz.prog 52 = some false := by kernel_rfl
@[simp] theorem te52 : telem Tryz.prog 52 = some 3 := by kernel_rfl
@[simp] theorem tes52 : elemSize Tryz.prog 52 = some 1 := by kernel_rfl
@[simp] theorem tz52 : tzero Tryz.prog 52 = some [.sl true 0 []] := by kernel_rfl
@[simp] theorem tv52 : tzeroV Tryz.prog 52 = some (.sl true 0 []) := by kernel_rfl
@[simp] theorem ts53 : tsize Tryz.prog 53 = some 1 := by kernel_rfl
@[simp] theorem tb53 : tbytes Tryz.prog 53 = some 8 := by kernel_rfl
@[simp] theorem ta53 : tagg Tryz.prog 53 = some false := by kernel_rfl
@[simp] theorem tz53 : tzero Tryz.prog 53 = some [.val .nilFunc] := by kernel_rfl
@[simp] theorem tv53 : tzeroV Tryz.prog 53 = some (.val .nilFunc) := by kernel_rfl
@[simp] theorem ts54 : tsize Tryz.prog 54 = some 1 := by kernel_rfl
@[simp] theorem tb54 : tbytes Tryz.prog 54 = some 8 := by kernel_rfl
@[simp] theorem ta54 : tagg Tryz.prog 54 = some false := by kernel_rfl
@[simp] theorem tz54 : tzero Tryz.prog 54 = some [.val .nilFunc] := by kernel_rfl
@[simp] theorem tv54 : tzeroV Tryz.prog 54 = some (.val .nilFunc) := by kernel_rfl
@[simp] theorem ts55 : tsize Tryz.prog 55 = some 1 := by kernel_rfl
@[simp] theorem tb55 : tbytes Tryz.prog 55 = some 8 := by kernel_rfl
@[simp] theorem ta55 : tagg Tryz.prog 55 = some false := by kernel_rfl
@[simp] theorem tz55 : tzero Tryz.prog 55 = some [.val .nilFunc] := by kernel_rfl
@[simp] theorem tv55 : tzeroV Tryz.prog 55 = some (.val .nilFunc) := by kernel_rfl
@[simp] theorem ts56 : tsize Tryz.prog 56 = some 1 := by kernel_rfl
@[simp] theorem tb56 : tbytes Tryz.prog 56 = some 8 := by kernel_rfl
@[simp] theorem ta56 : tagg Tryz.prog 56 = some false := by kernel_rfl
@[simp] theorem tz56 : tzero Tryz.prog 56 = some [.val .nilFunc] := by kernel_rfl
@[simp] theorem tv56 : tzeroV Tryz.prog 56 = some (.val .nilFunc) := by kernel_rfl
@[simp] theorem ts57 : tsize Tryz.prog 57 = some 1 := by kernel_rfl
@[simp] theorem tb57 : tbytes Tryz.prog 57 = some 24 := by kernel_rfl
@[simp] theorem ta57 : tagg Tryz.prog 57 = some false := by kernel_rfl
@[simp] theorem te57 : telem Tryz.prog 57 = some 34 := by kernel_rfl
@[simp] theorem tes57 : elemSize Tryz.prog 57 = some 6 := by kernel_rfl
@[simp] theorem tz57 : tzero Tryz.prog 57 = some [.sl true 0 []] := by kernel_rfl
@[simp] theorem tv57 : tzeroV Tryz.prog 57 = some (.sl true 0 []) := by kernel_rfl
@[simp] theorem ts58 : tsize Tryz.prog 58 = some 1 := by kernel_rfl
@[simp] theorem tb58 : tbytes Tryz.prog 58 = some 0 := by kernel_rfl
@[simp] theorem ta58 : tagg Tryz.prog 58 = some false := by kernel_rfl
@[simp] theorem ts59 : tsize Tryz.prog 59 = some 1 := by kernel_rfl
@[simp] theorem tb59 : tbytes Tryz.prog 59 = some 8 := by kernel_rfl
@[simp] theorem ta59 : tagg Tryz.prog 59 = some false := by kernel_rfl
@[simp] theorem tz59 : tzero Tryz.prog 59 = some [.val .nilFunc] := by kernel_rfl
@[simp] theorem tv59 : tzeroV Tryz.prog 59 = some (.val .nilFunc) := by kernel_rfl
@[simp] theorem ts60 : tsize Tryz.prog 60 = some 1 := by kernel_rfl
@[simp] theorem tb60 : tbytes Tryz.prog 60 = some 8 := by kernel_rfl
@[simp] theorem ta60 : tagg Tryz.prog 60 = some false := by kernel_rfl
@[simp] theorem tz60 : tzero Tryz.prog 60 = some [.val .nilFunc] := by kernel_rfl
@[simp] theorem tv60 : tzeroV Tryz.prog 60 = some (.val .nilFunc) := by kernel_rfl
@[simp] theorem ts61 : tsize Tryz.prog 61 = some 1 := by kernel_rfl
@[simp] theorem tb61 : tbytes Tryz.prog 61 = some 8 := by kernel_rfl
@[simp] theorem ta61 : tagg Tryz.prog 61 = some false := by kernel_rfl
@[simp] theorem tz61 : tzero Tryz.prog 61 = some [.val .nilFunc] := by kernel_rfl
@[simp] theorem tv61 : tzeroV Tryz.prog 61 = some (.val .nilFunc) := by kernel_rfl
@[simp] theorem ts62 : tsize Tryz.prog 62 = some 1 := by kernel_rfl
@[simp] theorem tb62 : tbytes Tryz.prog 62 = some 8 := by kernel_rfl
@[simp] theorem ta62 : tagg Tryz.prog 62 = some false := by kernel_rfl
@[simp] theorem tz62 : tzero Tryz.prog 62 = some [.val .nilFunc] := by kernel_rfl
@[simp] theorem tv62 : tzeroV Tryz.prog 62 = some (.val .nilFunc) := by kernel_rfl
@[simp] theorem ts63 : tsize Tryz.prog 63 = some 1 := by kernel_rfl
@[simp] theorem tb63 : tbytes Tryz.prog 63 = some 24 := by kernel_rfl
@[simp] theorem ta63 : tagg Tryz.prog 63 = some false := by kernel_rfl
@[simp] theorem te63 : telem Tryz.prog 63 = some 66 := by kernel_rfl
@[simp] theorem tes63 : elemSize Tryz.prog 63 = some 7 := by kernel_rfl
@[simp] theorem tz63 : tzero Tryz.prog 63 = some [.sl true 0 []] := by kernel_rfl
@[simp] theorem tv63 : tzeroV Tryz.prog 63 = some (.sl true 0 []) := by kernel_rfl
@[simp] theorem ts64 : tsize Tryz.prog 64 = some 1 := by kernel_rfl
@[simp] theorem tb64 : tbytes Tryz.prog 64 = some 8 := by kernel_rfl
@[simp] theorem ta64 : tagg Tryz.prog 64 = some false := by kernel_rfl
@[simp] theorem tz64 : tzero Tryz.prog 64 = some [.val .nilFunc] := by kernel_rfl
@[simp] theorem tv64 : tzeroV Tryz.prog 64 = some (.val .nilFunc) := by kernel_rfl
@[simp] theorem ts65 : tsize Tryz.prog 65 = some 7 := by kernel_rfl
@[simp] theorem tb65 : tbytes Tryz.prog 65 = some 80 := by kernel_rfl
@[simp] theorem ta65 : tagg Tryz.prog 65 = some true := by kernel_rfl
@[simp] theorem tf65_0 : tfield Tryz.prog 65 0 = some (0, 3, 1) := by kernel_rfl
@[simp] theorem tf65_1 : tfield Tryz.prog 65 1 = some (1, 4, 1) := by kernel_rfl
@[simp] theorem tf65_2 : tfield Tryz.prog 65 2 = some (2, 43, 5) := by kernel_rfl
theorem tst65 : tstruct Tryz.prog 65 = some [(0, 3), (1, 4), (2, 43)] := by kernel_rfl
@[simp] theorem tp65 : tplaces Tryz.prog 65 = some [(0, 1), (1, 1), (2, 5)] := by kernel_rfl
@[simp] theorem tz65 : tzero Tryz.prog 65 = some [.val (.int .i64 0), .val (.bool false), .val (.int .i64 0), .val (.int .i64 0), .val (.int .i64 0), .val (.string .empty), .sl true 0 []] := by kernel_rfl
@[simp] theorem tv65 : tzeroV Tryz.prog 65 = some (.agg [.val (.int .i64 0), .val (.bool false), .val (.int .i64 0), .val (.int .i64 0), .val (.int .i64 0), .val (.string .empty), .sl true 0 []]) := by kernel_rfl
@[simp] theorem ts66 : tsize Tryz.prog 66 = some 7 := by kernel_rfl
@[simp] theorem tb66 : tbytes Tryz.prog 66 = some 80 := by kernel_rfl
@[simp] theorem ta66 : tagg Tryz.prog 66 = some true := by kernel_rfl
@[simp] theorem tf66_0 : tfield Tryz.prog 66 0 = some (0, 3, 1) := by kernel_rfl
@[simp] theorem tf66_1 : tfield Tryz.prog 66 1 = some (1, 4, 1) := by kernel_rfl
@[simp] theorem tf66_2 : tfield Tryz.prog 66 2 = some (2, 43, 5) := by kernel_rfl
theorem tst66 : tstruct Tryz.prog 66 = some [(0, 3), (1, 4), (2, 43)] := by kernel_rfl
@[simp] theorem tp66 : tplaces Tryz.prog 66 = some [(0, 1), (1, 1), (2, 5)] := by kernel_rfl
@[simp] theorem tz66 : tzero Tryz.prog 66 = some [.val (.int .i64 0), .val (.bool false), .val (.int .i64 0), .val (.int .i64 0), .val (.int .i64 0), .val (.string .empty), .sl true 0 []] := by kernel_rfl
@[simp] theorem tv66 : tzeroV Tryz.prog 66 = some (.agg [.val (.int .i64 0), .val (.bool false), .val (.int .i64 0), .val (.int .i64 0), .val (.int .i64 0), .val (.string .empty), .sl true 0 []]) := by kernel_rfl
@[simp] theorem ts67 : tsize Tryz.prog 67 = some 1 := by kernel_rfl
@[simp] theorem tb67 : tbytes Tryz.prog 67 = some 8 := by kernel_rfl
@[simp] theorem ta67 : tagg Tryz.prog 67 = some false := by kernel_rfl
@[simp] theorem tz67 : tzero Tryz.prog 67 = some [.val .nilFunc] := by kernel_rfl
@[simp] theorem tv67 : tzeroV Tryz.prog 67 = some (.val .nilFunc) := by kernel_rfl
@[simp] theorem ts68 : tsize Tryz.prog 68 = some 6 := by kernel_rfl
@[simp] theorem tb68 : tbytes Tryz.prog 68 = some 96 := by kernel_rfl
@[simp] theorem ta68 : tagg Tryz.prog 68 = some true := by kernel_rfl
@[simp] theorem tf68_0 : tfield Tryz.prog 68 0 = some (0, 24, 2) := by kernel_rfl
@[simp] theorem tf68_1 : tfield Tryz.prog 68 1 = some (2, 30, 1) := by kernel_rfl
@[simp] theorem tf68_2 : tfield Tryz.prog 68 2 = some (3, 24, 2) := by kernel_rfl
@[simp] theorem tf68_3 : tfield Tryz.prog 68 3 = some (5, 3, 1) := by kernel_rfl
theorem tst68 : tstruct Tryz.prog 68 = some [(0, 24), (2, 30), (3, 24), (5, 3)] := by kernel_rfl
@[simp] theorem tp68 : tplaces Tryz.prog 68 = some [(0, 2), (2, 1), (3, 2), (5, 1)] := by kernel_rfl
@[simp] theorem tz68 : tzero Tryz.prog 68 = some [.sl true 0 [], .val (.int .i64 0), .sl true 0 [], .sl true 0 [], .val (.int .i64 0), .val (.int .i64 0)] := by kernel_rfl
@[simp] theorem tv68 : tzeroV Tryz.prog 68 = some (.agg [.sl true 0 [], .val (.int .i64 0), .sl true 0 [], .sl true 0 [], .val (.int .i64 0), .val (.int .i64 0)]) := by kernel_rfl
@[simp] theorem ts69 : tsize Tryz.prog 69 = some 6 := by kernel_rfl
@[simp] theorem tb69 : tbytes Tryz.prog 69 = some 96 := by kernel_rfl
@[simp] theorem ta69 : tagg Tryz.prog 69 = some true := by kernel_rfl
@[simp] theorem tf69_0 : tfield Tryz.prog 69 0 = some (0, 24, 2) := by kernel_rfl
@[simp] theorem tf69_1 : tfield Tryz.prog 69 1 = some (2, 30, 1) := by kernel_rfl
@[simp] theorem tf69_2 : tfield Tryz.prog 69 2 = some (3, 24, 2) := by kernel_rfl
@[simp] theorem tf69_3 : tfield Tryz.prog 69 3 = some (5, 3, 1) := by kernel_rfl
theorem tst69 : tstruct Tryz.prog 69 = some [(0, 24), (2, 30), (3, 24), (5, 3)] := by kernel_rfl
@[simp] theorem tp69 : tplaces Tryz.prog 69 = some [(0, 2), (2, 1), (3, 2), (5, 1)] := by kernel_rfl
@[simp] theorem tz69 : tzero Tryz.prog 69 = some [.sl true 0 [], .val (.int .i64 0), .sl true 0 [], .sl true 0 [], .val (.int .i64 0), .val (.int .i64 0)] := by kernel_rfl
@[simp] theorem tv69 : tzeroV Tryz.prog 69 = some (.agg [.sl true 0 [], .val (.int .i64 0), .sl true 0 [], .sl true 0 [], .val (.int .i64 0), .val (.int .i64 0)]) := by kernel_rfl
@[simp] theorem ts70 : tsize Tryz.prog 70 = some 1 := by kernel_rfl
@[simp] theorem tb70 : tbytes Tryz.prog 70 = some 8 := by kernel_rfl
@[simp] theorem ta70 : tagg Tryz.prog 70 = some false := by kernel_rfl
@[simp] theorem tz70 : tzero Tryz.prog 70 = some [.val .nilFunc] := by kernel_rfl
@[simp] theorem tv70 : tzeroV Tryz.prog 70 = some (.val .nilFunc) := by kernel_rfl
@[simp] theorem ts71 : tsize Tryz.prog 71 = some 1 := by kernel_rfl
@[simp] theorem tb71 : tbytes Tryz.prog 71 = some 8 := by kernel_rfl
@[simp] theorem ta71 : tagg Tryz.prog 71 = some false := by kernel_rfl
@[simp] theorem tz71 : tzero Tryz.prog 71 = some [.val .nilFunc] := by kernel_rfl
@[simp] theorem tv71 : tzeroV Tryz.prog 71 = some (.val .nilFunc) := by kernel_rfl
@[simp] theorem ts72 : tsize Tryz.prog 72 = some 1 := by kernel_rfl
@[simp] theorem tb72 : tbytes Tryz.prog 72 = some 24 := by kernel_rfl
@[simp] theorem ta72 : tagg Tryz.prog 72 = some false := by kernel_rfl
@[simp] theorem te72 : telem Tryz.prog 72 = some 148 := by kernel_rfl
@[simp] theorem tes72 : elemSize Tryz.prog 72 = some 2 := by kernel_rfl
@[simp] theorem tz72 : tzero Tryz.prog 72 = some [.sl true 0 []] := by kernel_rfl
@[simp] theorem tv72 : tzeroV Tryz.prog 72 = some (.sl true 0 []) := by kernel_rfl
@[simp] theorem ts73 : tsize Tryz.prog 73 = some 1 := by kernel_rfl
@[simp] theorem tb73 : tbytes Tryz.prog 73 = some 24 := by kernel_rfl
@[simp] theorem ta73 : tagg Tryz.prog 73 = some false := by kernel_rfl
@[simp] theorem te73 : telem Tryz.prog 73 = some 145 := by kernel_rfl
@[simp] theorem tes73 : elemSize Tryz.prog 73 = some 2 := by kernel_rfl
@[simp] theorem tz73 : tzero Tryz.prog 73 = some [.sl true 0 []] := by kernel_rfl
@[simp] theorem tv73 : tzeroV Tryz.prog 73 = some (.sl true 0 []) := by kernel_rfl
@[simp] theorem ts74 : tsize Tryz.prog 74 = some 3 := by kernel_rfl
@[simp] theorem tb74 : tbytes Tryz.prog 74 = some 56 := by kernel_rfl
@[simp] theorem ta74 : tagg Tryz.prog 74 = some true := by kernel_rfl
@[simp] theorem tf74_0 : tfield Tryz.prog 74 0 = some (0, 72, 1) := by kernel_rfl
@[simp] theorem tf74_1 : tfield Tryz.prog 74 1 = some (1, 73, 1) := by kernel_rfl
@[simp] theorem tf74_2 : tfield Tryz.prog 74 2 = some (2, 3, 1) := by kernel_rfl
theorem tst74 : tstruct Tryz.prog 74 = some [(0, 72), (1, 73), (2, 3)] := by kernel_rfl
@[simp] theorem tp74 : tplaces Tryz.prog 74 = some [(0, 1), (1, 1), (2, 1)] := by kernel_rfl
@[simp] theorem tz74 : tzero Tryz.prog 74 = some [.sl true 0 [], .sl true 0 [], .val (.int .i64 0)] := by kernel_rfl
@[simp] theorem tv74 : tzeroV Tryz.prog 74 = some (.agg [.sl true 0 [], .sl true 0 [], .val (.int .i64 0)]) := by kernel_rfl
@[simp] theorem ts75 : tsize Tryz.prog 75 = some 3 := by kernel_rfl
@[simp] theorem tb75 : tbytes Tryz.prog 75 = some 56 := by kernel_rfl
@[simp] theorem ta75 : tagg Tryz.prog 75 = some true := by kernel_rfl
@[simp] theorem tf75_0 : tfield Tryz.prog 75 0 = some (0, 72, 1) := by kernel_rfl
@[simp] theorem tf75_1 : tfield Tryz.prog 75 1 = some (1, 73, 1) := by kernel_rfl
@[simp] theorem tf75_2 : tfield Tryz.prog 75 2 = some (2, 3, 1) := by kernel_rfl
theorem tst75 : tstruct Tryz.prog 75 = some [(0, 72), (1, 73), (2, 3)] := by kernel_rfl
@[simp] theorem tp75 : tplaces Tryz.prog 75 = some [(0, 1), (1, 1), (2, 1)] := by kernel_rfl
@[simp] theorem tz75 : tzero Tryz.prog 75 = some [.sl true 0 [], .sl true 0 [], .val (.int .i64 0)] := by kernel_rfl
@[simp] theorem tv75 : tzeroV Tryz.prog 75 = some (.agg [.sl true 0 [], .sl true 0 [], .val (.int .i64 0)]) := by kernel_rfl
@[simp] theorem ts76 : tsize Tryz.prog 76 = some 6 := by kernel_rfl
@[simp] theorem tb76 : tbytes Tryz.prog 76 = some 96 := by kernel_rfl
@[simp] theorem ta76 : tagg Tryz.prog 76 = some true := by kernel_rfl
@[simp] theorem tf76_0 : tfield Tryz.prog 76 0 = some (0, 3, 1) := by kernel_rfl
@[simp] theorem tf76_1 : tfield Tryz.prog 76 1 = some (1, 24, 2) := by kernel_rfl
@[simp] theorem tf76_2 : tfield Tryz.prog 76 2 = some (3, 24, 2) := by kernel_rfl
@[simp] theorem tf76_3 : tfield Tryz.prog 76 3 = some (5, 52, 1) := by kernel_rfl
theorem tst76 : tstruct Tryz.prog 76 = some [(0, 3), (1, 24), (3, 24), (5, 52)] := by kernel_rfl
@[simp] theorem tp76 : tplaces Tryz.prog 76 = some [(0, 1), (1, 2), (3, 2), (5, 1)] := by kernel_rfl
@[simp] theorem tz76 : tzero Tryz.prog 76 = some [.val (.int .i64 0), .sl true 0 [], .val (.int .i64 0), .sl true 0 [], .val (.int .i64 0), .sl true 0 []] := by kernel_rfl
@[simp] theorem tv76 : tzeroV Tryz.prog 76 = some (.agg [.val (.int .i64 0), .sl true 0 [], .val (.int .i64 0), .sl true 0 [], .val (.int .i64 0), .sl true 0 []]) := by kernel_rfl
@[simp] theorem ts77 : tsize Tryz.prog 77 = some 6 := by kernel_rfl
@[simp] theorem tb77 : tbytes Tryz.prog 77 = some 96 := by kernel_rfl
@[simp] theorem ta77 : tagg Tryz.prog 77 = some true := by kernel_rfl
@[simp] theorem tf77_0 : tfield Tryz.prog 77 0 = some (0, 3, 1) := by kernel_rfl
@[simp] theorem tf77_1 : tfield Tryz.prog 77 1 = some (1, 24, 2) := by kernel_rfl
@[simp] theorem tf77_2 : tfield Tryz.prog 77 2 = some (3, 24, 2) := by kernel_rfl
@[simp] theorem tf77_3 : tfield Tryz.prog 77 3 = some (5, 52, 1) := by kernel_rfl
theorem tst77 : tstruct Tryz.prog 77 = some [(0, 3), (1, 24), (3, 24), (5, 52)] := by kernel_rfl
@[simp] theorem tp77 : tplaces Tryz.prog 77 = some [(0, 1), (1, 2), (3, 2), (5, 1)] := by kernel_rfl
@[simp] theorem tz77 : tzero Tryz.prog 77 = some [.val (.int .i64 0), .sl true 0 [], .val (.int .i64 0), .sl true 0 [], .val (.int .i64 0), .sl true 0 []] := by kernel_rfl
@[simp] theorem tv77 : tzeroV Tryz.prog 77 = some (.agg [.val (.int .i64 0), .sl true 0 [], .val (.int .i64 0), .sl true 0 [], .val (.int .i64 0), .sl true 0 []]) := by kernel_rfl
@[simp] theorem ts78 : tsize Tryz.prog 78 = some 1 := by kernel_rfl
@[simp] theorem tb78 : tbytes Tryz.prog 78 = some 8 := by kernel_rfl
@[simp] theorem ta78 : tagg Tryz.prog 78 = some false := by kernel_rfl
@[simp] theorem tz78 : tzero Tryz.prog 78 = some [.val .nilFunc] := by kernel_rfl
@[simp] theorem tv78 : tzeroV Tryz.prog 78 = some (.val .nilFunc) := by kernel_rfl
@[simp] theorem ts79 : tsize Tryz.prog 79 = some 1 := by kernel_rfl
@[simp] theorem tb79 : tbytes Tryz.prog 79 = some 8 := by kernel_rfl
@[simp] theorem ta79 : tagg Tryz.prog 79 = some false := by kernel_rfl
@[simp] theorem tz79 : tzero Tryz.prog 79 = some [.val .nilFunc] := by kernel_rfl
@[simp] theorem tv79 : tzeroV Tryz.prog 79 = some (.val .nilFunc) := by kernel_rfl
@[simp] theorem ts80 : tsize Tryz.prog 80 = some 1 := by kernel_rfl
@[simp] theorem tb80 : tbytes Tryz.prog 80 = some 0 := by kernel_rfl
@[simp] theorem ta80 : tagg Tryz.prog 80 = some false := by kernel_rfl
@[simp] theorem ts81 : tsize Tryz.prog 81 = some 1 := by kernel_rfl
@[simp] theorem tb81 : tbytes Tryz.prog 81 = some 8 := by kernel_rfl
@[simp] theorem ta81 : tagg Tryz.prog 81 = some false := by kernel_rfl
@[simp] theorem tz81 : tzero Tryz.prog 81 = some [.val .nilFunc] := by kernel_rfl
@[simp] theorem tv81 : tzeroV Tryz.prog 81 = some (.val .nilFunc) := by kernel_rfl
@[simp] theorem ts82 : tsize Tryz.prog 82 = some 1 := by kernel_rfl
@[simp] theorem tb82 : tbytes Tryz.prog 82 = some 0 := by kernel_rfl
@[simp] theorem ta82 : tagg Tryz.prog 82 = some false := by kernel_rfl
@[simp] theorem ts83 : tsize Tryz.prog 83 = some 1 := by kernel_rfl
@[simp] theorem tb83 : tbytes Tryz.prog 83 = some 8 := by kernel_rfl
@[simp] theorem ta83 : tagg Tryz.prog 83 = some false := by kernel_rfl
@[simp] theorem tz83 : tzero Tryz.prog 83 = some [.val .nilFunc] := by kernel_rfl
@[simp] theorem tv83 : tzeroV Tryz.prog 83 = some (.val .nilFunc) := by kernel_rfl
@[simp] theorem ts84 : tsize Tryz.prog 84 = some 1 := by kernel_rfl
@[simp] theorem tb84 : tbytes Tryz.prog 84 = some 0 := by kernel_rfl
@[simp] theorem ta84 : tagg Tryz.prog 84 = some false := by kernel_rfl
@[simp] theorem ts85 : tsize Tryz.prog 85 = some 1 := by kernel_rfl
@[simp] theorem tb85 : tbytes Tryz.prog 85 = some 8 := by kernel_rfl
@[simp] theorem ta85 : tagg Tryz.prog 85 = some false := by kernel_rfl
@[simp] theorem tz85 : tzero Tryz.prog 85 = some [.val .nilFunc] := by kernel_rfl
@[simp] theorem tv85 : tzeroV Tryz.prog 85 = some (.val .nilFunc) := by kernel_rfl
@[simp] theorem ts86 : tsize Tryz.prog 86 = some 1 := by kernel_rfl
@[simp] theorem tb86 : tbytes Tryz.prog 86 = some 8 := by kernel_rfl
@[simp] theorem ta86 : tagg Tryz.prog 86 = some false := by kernel_rfl
@[simp] theorem tz86 : tzero Tryz.prog 86 = some [.val .nilFunc] := by kernel_rfl
@[simp] theorem tv86 : tzeroV Tryz.prog 86 = some (.val .nilFunc) := by kernel_rfl
@[simp] theorem ts87 : tsize Tryz.prog 87 = some 1 := by kernel_rfl
@[simp] theorem tb87 : tbytes Tryz.prog 87 = some 8 := by kernel_rfl
@[simp] theorem ta87 : tagg Tryz.prog 87 = some false := by kernel_rfl
@[simp] theorem tz87 : tzero Tryz.prog 87 = some [.val .nilFunc] := by kernel_rfl
@[simp] theorem tv87 : tzeroV Tryz.prog 87 = some (.val .nilFunc) := by kernel_rfl
@[simp] theorem ts88 : tsize Tryz.prog 88 = some 1 := by kernel_rfl
@[simp] theorem tb88 : tbytes Tryz.prog 88 = some 8 := by kernel_rfl
@[simp] theorem ta88 : tagg Tryz.prog 88 = some false := by kernel_rfl
@[simp] theorem tz88 : tzero Tryz.prog 88 = some [.val .nilFunc] := by kernel_rfl
@[simp] theorem tv88 : tzeroV Tryz.prog 88 = some (.val .nilFunc) := by kernel_rfl
@[simp] theorem ts89 : tsize Tryz.prog 89 = some 1 := by kernel_rfl
@[simp] theorem tb89 : tbytes Tryz.prog 89 = some 24 := by kernel_rfl
@[simp] theorem ta89 : tagg Tryz.prog 89 = some false := by kernel_rfl
@[simp] theorem te89 : telem Tryz.prog 89 = some 30 := by kernel_rfl
@[simp] theorem tes89 : elemSize Tryz.prog 89 = some 1 := by kernel_rfl
@[simp] theorem tz89 : tzero Tryz.prog 89 = some [.sl true 0 []] := by kernel_rfl
@[simp] theorem tv89 : tzeroV Tryz.prog 89 = some (.sl true 0 []) := by kernel_rfl
@[simp] theorem ts90 : tsize Tryz.prog 90 = some 1 := by kernel_rfl
@[simp] theorem tb90 : tbytes Tryz.prog 90 = some 8 := by kernel_rfl
@[simp] theorem ta90 : tagg Tryz.prog 90 = some false := by kernel_rfl
@[simp] theorem tz90 : tzero Tryz.prog 90 = some [.val .nilFunc] := by kernel_rfl
@[simp] theorem tv90 : tzeroV Tryz.prog 90 = some (.val .nilFunc) := by kernel_rfl
@[simp] theorem ts91 : tsize Tryz.prog 91 = some 1 := by kernel_rfl
@[simp] theorem tb91 : tbytes Tryz.prog 91 = some 0 := by kernel_rfl
@[simp] theorem ta91 : tagg Tryz.prog 91 = some false := by kernel_rfl
@[simp] theorem ts92 : tsize Tryz.prog 92 = some 1 := by kernel_rfl
@[simp] theorem tb92 : tbytes Tryz.prog 92 = some 8 := by kernel_rfl
@[simp] theorem ta92 : tagg Tryz.prog 92 = some false := by kernel_rfl
@[simp] theorem tz92 : tzero Tryz.prog 92 = some [.val .nilFunc] := by kernel_rfl
@[simp] theorem tv92 : tzeroV Tryz.prog 92 = some (.val .nilFunc) := by kernel_rfl
@[simp] theorem ts93 : tsize Tryz.prog 93 = some 1 := by kernel_rfl
@[simp] theorem tb93 : tbytes Tryz.prog 93 = some 8 := by kernel_rfl
@[simp] theorem ta93 : tagg Tryz.prog 93 = some false := by kernel_rfl
@[simp] theorem tz93 : tzero Tryz.prog 93 = some [.val .nilFunc] := by kernel_rfl
@[simp] theorem tv93 : tzeroV Tryz.prog 93 = some (.val .nilFunc) := by kernel_rfl
@[simp] theorem ts94 : tsize Tryz.prog 94 = some 1 := by kernel_rfl
@[simp] theorem tb94 : tbytes Tryz.prog 94 = some 8 := by kernel_rfl
@[simp] theorem ta94 : tagg Tryz.prog 94 = some false := by kernel_rfl
@[simp] theorem tz94 : tzero Tryz.prog 94 = some [.val .nilFunc] := by kernel_rfl
@[simp] theorem tv94 : tzeroV Tryz.prog 94 = some (.val .nilFunc) := by kernel_rfl
@[simp] theorem ts95 : tsize Tryz.prog 95 = some 1 := by kernel_rfl
@[simp] theorem tb95 : tbytes Tryz.prog 95 = some 8 := by kernel_rfl
@[simp] theorem ta95 : tagg Tryz.prog 95 = some false := by kernel_rfl
@[simp] theorem tz95 : tzero Tryz.prog 95 = some [.val .nilFunc] := by kernel_rfl
@[simp] theorem tv95 : tzeroV Tryz.prog 95 = some (.val .nilFunc) := by kernel_rfl
@[simp] theorem ts96 : tsize Tryz.prog 96 = some 1 := by kernel_rfl
@[simp] theorem tb96 : tbytes Tryz.prog 96 = some 0 := by kernel_rfl
@[simp] theorem ta96 : tagg Tryz.prog 96 = some false := by kernel_rfl
@[simp] theorem ts97 : tsize Tryz.prog 97 = some 1 := by kernel_rfl
@[simp] theorem tb97 : tbytes Tryz.prog 97 = some 8 := by kernel_rfl
@[simp] theorem ta97 : tagg Tryz.prog 97 = some false := by kernel_rfl
@[simp] theorem tz97 : tzero Tryz.prog 97 = some [.val .nilFunc] := by kernel_rfl
@[simp] theorem tv97 : tzeroV Tryz.prog 97 = some (.val .nilFunc) := by kernel_rfl
@[simp] theorem ts98 : tsize Tryz.prog 98 = some 1 := by kernel_rfl
@[simp] theorem tb98 : tbytes Tryz.prog 98 = some 8 := by kernel_rfl
@[simp] theorem ta98 : tagg Tryz.prog 98 = some false := by kernel_rfl
@[simp] theorem tz98 : tzero Tryz.prog 98 = some [.val .nilFunc] := by kernel_rfl
@[simp] theorem tv98 : tzeroV Tryz.prog 98 = some (.val .nilFunc) := by kernel_rfl
@[simp] theorem ts99 : tsize Tryz.prog 99 = some 1 := by kernel_rfl
@[simp] theorem tb99 : tbytes Tryz.prog 99 = some 8 := by kernel_rfl
@[simp] theorem ta99 : tagg Tryz.prog 99 = some false := by kernel_rfl
@[simp] theorem tz99 : tzero Tryz.prog 99 = some [.val .nilFunc] := by kernel_rfl
@[simp] theorem tv99 : tzeroV Tryz.prog 99 = some (.val .nilFunc) := by kernel_rfl
@[simp] theorem ts100 : tsize Tryz.prog 100 = some 13 := by kernel_rfl
@[simp] theorem tb100 : tbytes Tryz.prog 100 = some 192 := by kernel_rfl
@[simp] theorem ta100 : tagg Tryz.prog 100 = some true := by kernel_rfl
@[simp] theorem tf100_0 : tfield Tryz.prog 100 0 = some (0, 75, 3) := by kernel_rfl
@[simp] theorem tf100_1 : tfield Tryz.prog 100 1 = some (3, 30, 1) := by kernel_rfl
@[simp] theorem tf100_2 : tfield Tryz.prog 100 2 = some (4, 30, 1) := by kernel_rfl
@[simp] theorem tf100_3 : tfield Tryz.prog 100 3 = some (5, 26, 8) := by kernel_rfl
theorem tst100 : tstruct Tryz.prog 100 = some [(0, 75), (3, 30), (4, 30), (5, 26)] := by kernel_rfl
@[simp] theorem tp100 : tplaces Tryz.prog 100 = some [(0, 3), (3, 1), (4, 1), (5, 8)] := by kernel_rfl
@[simp] theorem tz100 : tzero Tryz.prog 100 = some [.sl true 0 [], .sl true 0 [], .val (.int .i64 0), .sl true 0 [], .sl true 0 [], .val (.int .i64 0), .val (.int .i64 0), .val (.int .i64 0), .val (.int .i64 0), .val (.int .i64 0), .val (.string .empty), .val (.string .empty), .val (.string .empty)] := by kernel_rfl
@[simp] theorem tv100 : tzeroV Tryz.prog 100 = some (.agg [.sl true 0 [], .sl true 0 [], .val (.int .i64 0), .sl true 0 [], .sl true 0 [], .val (.int .i64 0), .val (.int .i64 0), .val (.int .i64 0), .val (.int .i64 0), .val (.int .i64 0), .val (.string .empty), .val (.string .empty), .val (.string .empty)]) := by kernel_rfl
@[simp] theorem ts101 : tsize Tryz.prog 101 = some 13 := by kernel_rfl
@[simp] theorem tb101 : tbytes Tryz.prog 101 = some 192 := by kernel_rfl
@[simp] theorem ta101 : tagg Tryz.prog 101 = some true := by kernel_rfl
@[simp] theorem tf101_0 : tfield Tryz.prog 101 0 = some (0, 75, 3) := by kernel_rfl
@[simp] theorem tf101_1 : tfield Tryz.prog 101 1 = some (3, 30, 1) := by kernel_rfl
@[simp] theorem tf101_2 : tfield Tryz.prog 101 2 = some (4, 30, 1) := by kernel_rfl
@[simp] theorem tf101_3 : tfield Tryz.prog 101 3 = some (5, 26, 8) := by kernel_rfl
theorem tst101 : tstruct Tryz.prog 101 = some [(0, 75), (3, 30), (4, 30), (5, 26)] := by kernel_rfl
@[simp] theorem tp101 : tplaces Tryz.prog 101 = some [(0, 3), (3, 1), (4, 1), (5, 8)] := by kernel_rfl
@[simp] theorem tz101 : tzero Tryz.prog 101 = some [.sl true 0 [], .sl true 0 [], .val (.int .i64 0), .sl true 0 [], .sl true 0 [], .val (.int .i64 0), .val (.int .i64 0), .val (.int .i64 0), .val (.int .i64 0), .val (.int .i64 0), .val (.string .empty), .val (.string .empty), .val (.string .empty)] := by kernel_rfl
@[simp] theorem tv101 : tzeroV Tryz.prog 101 = some (.agg [.sl true 0 [], .sl true 0 [], .val (.int .i64 0), .sl true 0 [], .sl true 0 [], .val (.int .i64 0), .val (.int .i64 0), .val (.int .i64 0), .val (.int .i64 0), .val (.int .i64 0), .val (.string .empty), .val (.string .empty), .val (.string .empty)]) := by kernel_rfl
@[simp] theorem ts102 : tsize Tryz.prog 102 = some 1 := by kernel_rfl
@[simp] theorem tb102 : tbytes Tryz.prog 102 = some 8 := by kernel_rfl
@[simp] theorem ta102 : tagg Tryz.prog 102 = some false := by kernel_rfl
@[simp] theorem tz102 : tzero Tryz.prog 102 = some [.val .nilFunc] := by kernel_rfl
@[simp] theorem tv102 : tzeroV Tryz.prog 102 = some (.val .nilFunc) := by kernel_rfl
@[simp] theorem ts103 : tsize Tryz.prog 103 = some 23 := by kernel_rfl
@[simp] theorem tb103 : tbytes Tryz.prog 103 = some 336 := by kernel_rfl
@[simp] theorem ta103 : tagg Tryz.prog 103 = some true := by kernel_rfl
@[simp] theorem tf103_0 : tfield Tryz.prog 103 0 = some (0, 75, 3) := by kernel_rfl
@[simp] theorem tf103_1 : tfield Tryz.prog 103 1 = some (3, 77, 6) := by kernel_rfl
@[simp] theorem tf103_2 : tfield Tryz.prog 103 2 = some (9, 26, 8) := by kernel_rfl
@[simp] theorem tf103_3 : tfield Tryz.prog 103 3 = some (17, 77, 6) := by kernel_rfl
theorem tst103 : tstruct Tryz.prog 103 = some [(0, 75), (3, 77), (9, 26), (17, 77)] := by kernel_rfl
@[simp] theorem tp103 : tplaces Tryz.prog 103 = some [(0, 3), (3, 6), (9, 8), (17, 6)] := by kernel_rfl
@[simp] theorem tz103 : tzero Tryz.prog 103 = some [.sl true 0 [], .sl true 0 [], .val (.int .i64 0), .val (.int .i64 0), .sl true 0 [], .val (.int .i64 0), .sl true 0 [], .val (.int .i64 0), .sl true 0 [], .val (.int .i64 0), .val (.int .i64 0), .val (.int .i64 0), .val (.int .i64 0), .val (.int .i64 0), .val (.string .empty), .val (.string .empty), .val (.string .empty), .val (.int .i64 0), .sl true 0 [], .val (.int .i64 0), .sl true 0 [], .val (.int .i64 0), .sl true 0 []] := by kernel_rfl
@[simp] theorem tv103 : tzeroV Tryz.prog 103 = some (.agg [.sl true 0 [], .sl true 0 [], .val (.int .i64 0), .val (.int .i64 0), .sl true 0 [], .val (.int .i64 0), .sl true 0 [], .val (.int .i64 0), .sl true 0 [], .val (.int .i64 0), .val (.int .i64 0), .val (.int .i64 0), .val (.int .i64 0), .val (.int .i64 0), .val (.string .empty), .val (.string .empty), .val (.string .empty), .val (.int .i64 0), .sl true 0 [], .val (.int .i64 0), .sl true 0 [], .val (.int .i64 0), .sl true 0 []]) := by kernel_rfl
@[simp] theorem ts104 : tsize Tryz.prog 104 = some 23 := by kernel_rfl
@[simp] theorem tb104 : tbytes Tryz.prog 104 = some 336 := by kernel_rfl
@[simp] theorem ta104 : tagg Tryz.prog 104 = some true := by kernel_rfl
@[simp] theorem tf104_0 : tfield Tryz.prog 104 0 = some (0, 75, 3) := by kernel_rfl
@[simp] theorem tf104_1 : tfield Tryz.prog 104 1 = some (3, 77, 6) := by kernel_rfl
@[simp] theorem tf104_2 : tfield Tryz.prog 104 2 = some (9, 26, 8) := by kernel_rfl
@[simp] theorem tf104_3 : tfield Tryz.prog 104 3 = some (17, 77, 6) := by kernel_rfl
theorem tst104 : tstruct Tryz.prog 104 = some [(0, 75), (3, 77), (9, 26), (17, 77)] := by kernel_rfl
@[simp] theorem tp104 : tplaces Tryz.prog 104 = some [(0, 3), (3, 6), (9, 8), (17, 6)] := by kernel_rfl
@[simp] theorem tz104 : tzero Tryz.prog 104 = some [.sl true 0 [], .sl true 0 [], .val (.int .i64 0), .val (.int .i64 0), .sl true 0 [], .val (.int .i64 0), .sl true 0 [], .val (.int .i64 0), .sl true 0 [], .val (.int .i64 0), .val (.int .i64 0), .val (.int .i64 0), .val (.int .i64 0), .val (.int .i64 0), .val (.string .empty), .val (.string .empty), .val (.string .empty), .val (.int .i64 0), .sl true 0 [], .val (.int .i64 0), .sl true 0 [], .val (.int .i64 0), .sl true 0 []] := by kernel_rfl
@[simp] theorem tv104 : tzeroV Tryz.prog 104 = some (.agg [.sl true 0 [], .sl true 0 [], .val (.int .i64 0), .val (.int .i64 0), .sl true 0 [], .val (.int .i64 0), .sl true 0 [], .val (.int .i64 0), .sl true 0 [], .val (.int .i64 0), .val (.int .i64 0), .val (.int .i64 0), .val (.int .i64 0), .val (.int .i64 0), .val (.string .empty), .val (.string .empty), .val (.string .empty), .val (.int .i64 0), .sl true 0 [], .val (.int .i64 0), .sl true 0 [], .val (.int .i64 0), .sl true 0 []]) := by kernel_rfl
@[simp] theorem ts105 : tsize Tryz.prog 105 = some 1 := by kernel_rfl
@[simp] theorem tb105 : tbytes Tryz.prog 105 = some 8 := by kernel_rfl
@[simp] theorem ta105 : tagg Tryz.prog 105 = some false := by kernel_rfl
@[simp] theorem tz105 : tzero Tryz.prog 105 = some [.val .nilFunc] := by kernel_rfl
@[simp] theorem tv105 : tzeroV Tryz.prog 105 = some (.val .nilFunc) := by kernel_rfl
@[simp] theorem ts106 : tsize Tryz.prog 106 = some 1 := by kernel_rfl
@[simp] theorem tb106 : tbytes Tryz.prog 106 = some 8 := by kernel_rfl
@[simp] theorem ta106 : tagg Tryz.prog 106 = some false := by kernel_rfl
@[simp] theorem tz106 : tzero Tryz.prog 106 = some [.val .nilFunc] := by kernel_rfl
@[simp] theorem tv106 : tzeroV Tryz.prog 106 = some (.val .nilFunc) := by kernel_rfl
@[simp] theorem ts107 : tsize Tryz.prog 107 = some 1 := by kernel_rfl
@[simp] theorem tb107 : tbytes Tryz.prog 107 = some 8 := by kernel_rfl
@[simp] theorem ta107 : tagg Tryz.prog 107 = some false := by kernel_rfl
@[simp] theorem tz107 : tzero Tryz.prog 107 = some [.val .nilFunc] := by kernel_rfl
@[simp] theorem tv107 : tzeroV Tryz.prog 107 = some (.val .nilFunc) := by kernel_rfl
@[simp] theorem ts108 : tsize Tryz.prog 108 = some 1 := by kernel_rfl
@[simp] theorem tb108 : tbytes Tryz.prog 108 = some 8 := by kernel_rfl
@[simp] theorem ta108 : tagg Tryz.prog 108 = some false := by kernel_rfl
@[simp] theorem tz108 : tzero Tryz.prog 108 = some [.val .nilFunc] := by kernel_rfl
@[simp] theorem tv108 : tzeroV Tryz.prog 108 = some (.val .nilFunc) := by kernel_rfl
@[simp] theorem ts109 : tsize Tryz.prog 109 = some 1 := by kernel_rfl
@[simp] theorem tb109 : tbytes Tryz.prog 109 = some 0 := by kernel_rfl
@[simp] theorem ta109 : tagg Tryz.prog 109 = some false := by kernel_rfl
@[simp] theorem ts110 : tsize Tryz.prog 110 = some 1 := by kernel_rfl
@[simp] theorem tb110 : tbytes Tryz.prog 110 = some 8 := by kernel_rfl
@[simp] theorem ta110 : tagg Tryz.prog 110 = some false := by kernel_rfl
@[simp] theorem tm110 : tmap Tryz.prog 110 = some (.int .i64, 108) := by kernel_rfl
@[simp] theorem tz110 : tzero Tryz.prog 110 = some [.val (.map none)] := by kernel_rfl
@[simp] theorem tv110 : tzeroV Tryz.prog 110 = some (.val (.map none)) := by kernel_rfl
@[simp] theorem ts111 : tsize Tryz.prog 111 = some 1 := by kernel_rfl
@[simp] theorem tb111 : tbytes Tryz.prog 111 = some 8 := by kernel_rfl
@[simp] theorem ta111 : tagg Tryz.prog 111 = some false := by kernel_rfl
@[simp] theorem tz111 : tzero Tryz.prog 111 = some [.val .nilFunc] := by kernel_rfl
@[simp] theorem tv111 : tzeroV Tryz.prog 111 = some (.val .nilFunc) := by kernel_rfl
@[simp] theorem ts112 : tsize Tryz.prog 112 = some 1 := by kernel_rfl
@[simp] theorem tb112 : tbytes Tryz.prog 112 = some 8 := by kernel_rfl
@[simp] theorem ta112 : tagg Tryz.prog 112 = some false := by kernel_rfl
@[simp] theorem tz112 : tzero Tryz.prog 112 = some [.val .nilFunc] := by kernel_rfl
@[simp] theorem tv112 : tzeroV Tryz.prog 112 = some (.val .nilFunc) := by kernel_rfl
@[simp] theorem ts113 : tsize Tryz.prog 113 = some 1 := by kernel_rfl
@[simp] theorem tb113 : tbytes Tryz.prog 113 = some 0 := by kernel_rfl
@[simp] theorem ta113 : tagg Tryz.prog 113 = some false := by kernel_rfl
@[simp] theorem ts114 : tsize Tryz.prog 114 = some 1 := by kernel_rfl
@[simp] theorem tb114 : tbytes Tryz.prog 114 = some 8 := by kernel_rfl
@[simp] theorem ta114 : tagg Tryz.prog 114 = some false := by kernel_rfl
@[simp] theorem tm114 : tmap Tryz.prog 114 = some (.int .i64, 112) := by kernel_rfl
@[simp] theorem tz114 : tzero Tryz.prog 114 = some [.val (.map none)] := by kernel_rfl
@[simp] theorem tv114 : tzeroV Tryz.prog 114 = some (.val (.map none)) := by kernel_rfl
@[simp] theorem ts115 : tsize Tryz.prog 115 = some 1 := by kernel_rfl
@[simp] theorem tb115 : tbytes Tryz.prog 115 = some 8 := by kernel_rfl
@[simp] theorem ta115 : tagg Tryz.prog 115 = some false := by kernel_rfl
@[simp] theorem tz115 : tzero Tryz.prog 115 = some [.val .nilFunc] := by kernel_rfl
@[simp] theorem tv115 : tzeroV Tryz.prog 115 = some (.val .nilFunc) := by kernel_rfl
@[simp] theorem ts116 : tsize Tryz.prog 116 = some 1 := by kernel_rfl
@[simp] theorem tb116 : tbytes Tryz.prog 116 = some 8 := by kernel_rfl
@[simp] theorem ta116 : tagg Tryz.prog 116 = some false := by kernel_rfl
@[simp] theorem tz116 : tzero Tryz.prog 116 = some [.val .nilFunc] := by kernel_rfl
@[simp] theorem tv116 : tzeroV Tryz.prog 116 = some (.val .nilFunc) := by kernel_rfl
@[simp] theorem ts117 : tsize Tryz.prog 117 = some 1 := by kernel_rfl
@[simp] theorem tb117 : tbytes Tryz.prog 117 = some 8 := by kernel_rfl
@[simp] theorem ta117 : tagg Tryz.prog 117 = some false := by kernel_rfl
@[simp] theorem tz117 : tzero Tryz.prog 117 = some [.val .nilFunc] := by kernel_rfl
@[simp] theorem tv117 : tzeroV Tryz.prog 117 = some (.val .nilFunc) := by kernel_rfl
@[simp] theorem ts118 : tsize Tryz.prog 118 = some 1 := by kernel_rfl
@[simp] theorem tb118 : tbytes Tryz.prog 118 = some 8 := by kernel_rfl
@[simp] theorem ta118 : tagg Tryz.prog 118 = some false := by kernel_rfl
@[simp] theorem tz118 : tzero Tryz.prog 118 = some [.val .nilFunc] := by kernel_rfl
@[simp] theorem tv118 : tzeroV Tryz.prog 118 = some (.val .nilFunc) := by kernel_rfl
@[simp] theorem ts119 : tsize Tryz.prog 119 = some 1 := by kernel_rfl
@[simp] theorem tb119 : tbytes Tryz.prog 119 = some 8 := by kernel_rfl
@[simp] theorem ta119 : tagg Tryz.prog 119 = some false := by kernel_rfl
@[simp] theorem tz119 : tzero Tryz.prog 119 = some [.val .nilFunc] := by kernel_rfl
@[simp] theorem tv119 : tzeroV Tryz.prog 119 = some (.val .nilFunc) := by kernel_rfl
@[simp] theorem ts120 : tsize Tryz.prog 120 = some 2 := by kernel_rfl
@[simp] theorem tb120 : tbytes Tryz.prog 120 = some 24 := by kernel_rfl
@[simp] theorem ta120 : tagg Tryz.prog 120 = some true := by kernel_rfl
@[simp] theorem tf120_0 : tfield Tryz.prog 120 0 = some (0, 9, 1) := by kernel_rfl
@[simp] theorem tf120_1 : tfield Tryz.prog 120 1 = some (1, 3, 1) := by kernel_rfl
theorem tst120 : tstruct Tryz.prog 120 = some [(0, 9), (1, 3)] := by kernel_rfl
@[simp] theorem tp120 : tplaces Tryz.prog 120 = some [(0, 1), (1, 1)] := by kernel_rfl
@[simp] theorem tz120 : tzero Tryz.prog 120 = some [.val (.string .empty), .val (.int .i64 0)] := by kernel_rfl
@[simp] theorem tv120 : tzeroV Tryz.prog 120 = some (.agg [.val (.string .empty), .val (.int .i64 0)]) := by kernel_rfl
@[simp] theorem ts121 : tsize Tryz.prog 121 = some 2 := by kernel_rfl
@[simp] theorem tb121 : tbytes Tryz.prog 121 = some 24 := by kernel_rfl
@[simp] theorem ta121 : tagg Tryz.prog 121 = some true := by kernel_rfl
@[simp] theorem tf121_0 : tfield Tryz.prog 121 0 = some (0, 9, 1) := by kernel_rfl
@[simp] theorem tf121_1 : tfield Tryz.prog 121 1 = some (1, 3, 1) := by kernel_rfl
theorem tst121 : tstruct Tryz.prog 121 = some [(0, 9), (1, 3)] := by kernel_rfl
@[simp] theorem tfl121 : tflat Tryz.prog 121 = some [.string, .int .i64] := by kernel_rfl
@[simp] theorem tp121 : tplaces Tryz.prog 121 = some [(0, 1), (1, 1)] := by kernel_rfl
@[simp] theorem tz121 : tzero Tryz.prog 121 = some [.val (.string .empty), .val (.int .i64 0)] := by kernel_rfl
@[simp] theorem tv121 : tzeroV Tryz.prog 121 = some (.agg [.val (.string .empty), .val (.int .i64 0)]) := by kernel_rfl
@[simp] theorem ts122 : tsize Tryz.prog 122 = some 1 := by kernel_rfl
@[simp] theorem tb122 : tbytes Tryz.prog 122 = some 8 := by kernel_rfl
@[simp] theorem ta122 : tagg Tryz.prog 122 = some false := by kernel_rfl
@[simp] theorem tz122 : tzero Tryz.prog 122 = some [.val .nilFunc] := by kernel_rfl
@[simp] theorem tv122 : tzeroV Tryz.prog 122 = some (.val .nilFunc) := by kernel_rfl
@[simp] theorem ts123 : tsize Tryz.prog 123 = some 1 := by kernel_rfl
@[simp] theorem tb123 : tbytes Tryz.prog 123 = some 0 := by kernel_rfl
@[simp] theorem ta123 : tagg Tryz.prog 123 = some false := by kernel_rfl
@[simp] theorem ts124 : tsize Tryz.prog 124 = some 1 := by kernel_rfl
@[simp] theorem tb124 : tbytes Tryz.prog 124 = some 8 := by kernel_rfl
@[simp] theorem ta124 : tagg Tryz.prog 124 = some false := by kernel_rfl
@[simp] theorem tz124 : tzero Tryz.prog 124 = some [.val .nilFunc] := by kernel_rfl
@[simp] theorem tv124 : tzeroV Tryz.prog 124 = some (.val .nilFunc) := by kernel_rfl
@[simp] theorem ts125 : tsize Tryz.prog 125 = some 1 := by kernel_rfl
@[simp] theorem tb125 : tbytes Tryz.prog 125 = some 8 := by kernel_rfl
@[simp] theorem ta125 : tagg Tryz.prog 125 = some false := by kernel_rfl
@[simp] theorem tz125 : tzero Tryz.prog 125 = some [.val .nilFunc] := by kernel_rfl
@[simp] theorem tv125 : tzeroV Tryz.prog 125 = some (.val .nilFunc) := by kernel_rfl
@[simp] theorem ts126 : tsize Tryz.prog 126 = some 1 := by kernel_rfl
@[simp] theorem tb126 : tbytes Tryz.prog 126 = some 0 := by kernel_rfl
@[simp] theorem ta126 : tagg Tryz.prog 126 = some false := by kernel_rfl
@[simp] theorem ts127 : tsize Tryz.prog 127 = some 1 := by kernel_rfl
@[simp] theorem tb127 : tbytes Tryz.prog 127 = some 8 := by kernel_rfl
@[simp] theorem ta127 : tagg Tryz.prog 127 = some false := by kernel_rfl
@[simp] theorem tz127 : tzero Tryz.prog 127 = some [.val .nilFunc] := by kernel_rfl
@[simp] theorem tv127 : tzeroV Tryz.prog 127 = some (.val .nilFunc) := by kernel_rfl
@[simp] theorem ts128 : tsize Tryz.prog 128 = some 1 := by kernel_rfl
@[simp] theorem tb128 : tbytes Tryz.prog 128 = some 8 := by kernel_rfl
@[simp] theorem ta128 : tagg Tryz.prog 128 = some false := by kernel_rfl
@[simp] theorem tz128 : tzero Tryz.prog 128 = some [.val .nilFunc] := by kernel_rfl
@[simp] theorem tv128 : tzeroV Tryz.prog 128 = some (.val .nilFunc) := by kernel_rfl
@[simp] theorem ts129 : tsize Tryz.prog 129 = some 1 := by kernel_rfl
@[simp] theorem tb129 : tbytes Tryz.prog 129 = some 8 := by kernel_rfl
@[simp] theorem ta129 : tagg Tryz.prog 129 = some false := by kernel_rfl
@[simp] theorem tz129 : tzero Tryz.prog 129 = some [.val .nilFunc] := by kernel_rfl
@[simp] theorem tv129 : tzeroV Tryz.prog 129 = some (.val .nilFunc) := by kernel_rfl
@[simp] theorem ts130 : tsize Tryz.prog 130 = some 1 := by kernel_rfl
@[simp] theorem tb130 : tbytes Tryz.prog 130 = some 8 := by kernel_rfl
@[simp] theorem ta130 : tagg Tryz.prog 130 = some false := by kernel_rfl
@[simp] theorem tz130 : tzero Tryz.prog 130 = some [.val .nilFunc] := by kernel_rfl
@[simp] theorem tv130 : tzeroV Tryz.prog 130 = some (.val .nilFunc) := by kernel_rfl
@[simp] theorem ts131 : tsize Tryz.prog 131 = some 1 := by kernel_rfl
@[simp] theorem tb131 : tbytes Tryz.prog 131 = some 8 := by kernel_rfl
@[simp] theorem ta131 : tagg Tryz.prog 131 = some false := by kernel_rfl
@[simp] theorem tz131 : tzero Tryz.prog 131 = some [.val .nilFunc] := by kernel_rfl
@[simp] theorem tv131 : tzeroV Tryz.prog 131 = some (.val .nilFunc) := by kernel_rfl
@[simp] theorem ts132 : tsize Tryz.prog 132 = some 1 := by kernel_rfl
@[simp] theorem tb132 : tbytes Tryz.prog 132 = some 8 := by kernel_rfl
@[simp] theorem ta132 : tagg Tryz.prog 132 = some false := by kernel_rfl
@[simp] theorem tz132 : tzero Tryz.prog 132 = some [.val .nilFunc] := by kernel_rfl
@[simp] theorem tv132 : tzeroV Tryz.prog 132 = some (.val .nilFunc) := by kernel_rfl
@[simp] theorem ts133 : tsize Tryz.prog 133 = some 1 := by kernel_rfl
@[simp] theorem tb133 : tbytes Tryz.prog 133 = some 8 := by kernel_rfl
@[simp] theorem ta133 : tagg Tryz.prog 133 = some false := by kernel_rfl
@[simp] theorem tz133 : tzero Tryz.prog 133 = some [.val .nilFunc] := by kernel_rfl
@[simp] theorem tv133 : tzeroV Tryz.prog 133 = some (.val .nilFunc) := by kernel_rfl
@[simp] theorem ts134 : tsize Tryz.prog 134 = some 1 := by kernel_rfl
@[simp] theorem tb134 : tbytes Tryz.prog 134 = some 8 := by kernel_rfl
@[simp] theorem ta134 : tagg Tryz.prog 134 = some false := by kernel_rfl
@[simp] theorem tz134 : tzero Tryz.prog 134 = some [.val .nilFunc] := by kernel_rfl
@[simp] theorem tv134 : tzeroV Tryz.prog 134 = some (.val .nilFunc) := by kernel_rfl
@[simp] theorem ts135 : tsize Tryz.prog 135 = some 1 := by kernel_rfl
@[simp] theorem tb135 : tbytes Tryz.prog 135 = some 8 := by kernel_rfl
@[simp] theorem ta135 : tagg Tryz.prog 135 = some false := by kernel_rfl
@[simp] theorem tz135 : tzero Tryz.prog 135 = some [.val .nilFunc] := by kernel_rfl
@[simp] theorem tv135 : tzeroV Tryz.prog 135 = some (.val .nilFunc) := by kernel_rfl
@[simp] theorem ts136 : tsize Tryz.prog 136 = some 1 := by kernel_rfl
@[simp] theorem tb136 : tbytes Tryz.prog 136 = some 8 := by kernel_rfl
@[simp] theorem ta136 : tagg Tryz.prog 136 = some false := by kernel_rfl
@[simp] theorem tz136 : tzero Tryz.prog 136 = some [.val .nilFunc] := by kernel_rfl
@[simp] theorem tv136 : tzeroV Tryz.prog 136 = some (.val .nilFunc) := by kernel_rfl
@[simp] theorem ts137 : tsize Tryz.prog 137 = some 1 := by kernel_rfl
@[simp] theorem tb137 : tbytes Tryz.prog 137 = some 8 := by kernel_rfl
@[simp] theorem ta137 : tagg Tryz.prog 137 = some false := by kernel_rfl
@[simp] theorem tz137 : tzero Tryz.prog 137 = some [.val .nilFunc] := by kernel_rfl
@[simp] theorem tv137 : tzeroV Tryz.prog 137 = some (.val .nilFunc) := by kernel_rfl
@[simp] theorem ts138 : tsize Tryz.prog 138 = some 1 := by kernel_rfl
@[simp] theorem tb138 : tbytes Tryz.prog 138 = some 8 := by kernel_rfl
@[simp] theorem ta138 : tagg Tryz.prog 138 = some false := by kernel_rfl
@[simp] theorem tz138 : tzero Tryz.prog 138 = some [.val .nilFunc] := by kernel_rfl
@[simp] theorem tv138 : tzeroV Tryz.prog 138 = some (.val .nilFunc) := by kernel_rfl
@[simp] theorem ts139 : tsize Tryz.prog 139 = some 1 := by kernel_rfl
@[simp] theorem tb139 : tbytes Tryz.prog 139 = some 8 := by kernel_rfl
@[simp] theorem ta139 : tagg Tryz.prog 139 = some false := by kernel_rfl
@[simp] theorem tz139 : tzero Tryz.prog 139 = some [.val .nilFunc] := by kernel_rfl
@[simp] theorem tv139 : tzeroV Tryz.prog 139 = some (.val .nilFunc) := by kernel_rfl
@[simp] theorem ts140 : tsize Tryz.prog 140 = some 1 := by kernel_rfl
@[simp] theorem tb140 : tbytes Tryz.prog 140 = some 8 := by kernel_rfl
@[simp] theorem ta140 : tagg Tryz.prog 140 = some false := by kernel_rfl
@[simp] theorem tz140 : tzero Tryz.prog 140 = some [.val .nilFunc] := by kernel_rfl
@[simp] theorem tv140 : tzeroV Tryz.prog 140 = some (.val .nilFunc) := by kernel_rfl
@[simp] theorem ts141 : tsize Tryz.prog 141 = some 1 := by kernel_rfl
@[simp] theorem tb141 : tbytes Tryz.prog 141 = some 8 := by kernel_rfl
@[simp] theorem ta141 : tagg Tryz.prog 141 = some false := by kernel_rfl
@[simp] theorem tz141 : tzero Tryz.prog 141 = some [.val .nilFunc] := by kernel_rfl
@[simp] theorem tv141 : tzeroV Tryz.prog 141 = some (.val .nilFunc) := by kernel_rfl
@[simp] theorem ts142 : tsize Tryz.prog 142 = some 1 := by kernel_rfl
@[simp] theorem tb142 : tbytes Tryz.prog 142 = some 8 := by kernel_rfl
@[simp] theorem ta142 : tagg Tryz.prog 142 = some false := by kernel_rfl
@[simp] theorem tz142 : tzero Tryz.prog 142 = some [.val .nilFunc] := by kernel_rfl
@[simp] theorem tv142 : tzeroV Tryz.prog 142 = some (.val .nilFunc) := by kernel_rfl
@[simp] theorem ts143 : tsize Tryz.prog 143 = some 1 := by kernel_rfl
@[simp] theorem tb143 : tbytes Tryz.prog 143 = some 8 := by kernel_rfl
@[simp] theorem ta143 : tagg Tryz.prog 143 = some false := by kernel_rfl
@[simp] theorem tz143 : tzero Tryz.prog 143 = some [.val .nilFunc] := by kernel_rfl
@[simp] theorem tv143 : tzeroV Tryz.prog 143 = some (.val .nilFunc) := by kernel_rfl
@[simp] theorem ts144 : tsize Tryz.prog 144 = some 2 := by kernel_rfl
@[simp] theorem tb144 : tbytes Tryz.prog 144 = some 16 := by kernel_rfl
@[simp] theorem ta144 : tagg Tryz.prog 144 = some true := by kernel_rfl
@[simp] theorem tf144_0 : tfield Tryz.prog 144 0 = some (0, 3, 1) := by kernel_rfl
@[simp] theorem tf144_1 : tfield Tryz.prog 144 1 = some (1, 3, 1) := by kernel_rfl
theorem tst144 : tstruct Tryz.prog 144 = some [(0, 3), (1, 3)] := by kernel_rfl
@[simp] theorem tp144 : tplaces Tryz.prog 144 = some [(0, 1), (1, 1)] := by kernel_rfl
@[simp] theorem tz144 : tzero Tryz.prog 144 = some [.val (.int .i64 0), .val (.int .i64 0)] := by kernel_rfl
@[simp] theorem tv144 : tzeroV Tryz.prog 144 = some (.agg [.val (.int .i64 0), .val (.int .i64 0)]) := by kernel_rfl
@[simp] theorem ts145 : tsize Tryz.prog 145 = some 2 := by kernel_rfl
@[simp] theorem tb145 : tbytes Tryz.prog 145 = some 16 := by kernel_rfl
@[simp] theorem ta145 : tagg Tryz.prog 145 = some true := by kernel_rfl
@[simp] theorem tf145_0 : tfield Tryz.prog 145 0 = some (0, 3, 1) := by kernel_rfl
@[simp] theorem tf145_1 : tfield Tryz.prog 145 1 = some (1, 3, 1) := by kernel_rfl
theorem tst145 : tstruct Tryz.prog 145 = some [(0, 3), (1, 3)] := by kernel_rfl
@[simp] theorem tfl145 : tflat Tryz.prog 145 = some [.int .i64, .int .i64] := by kernel_rfl
@[simp] theorem tp145 : tplaces Tryz.prog 145 = some [(0, 1), (1, 1)] := by kernel_rfl
@[simp] theorem tz145 : tzero Tryz.prog 145 = some [.val (.int .i64 0), .val (.int .i64 0)] := by kernel_rfl
@[simp] theorem tv145 : tzeroV Tryz.prog 145 = some (.agg [.val (.int .i64 0), .val (.int .i64 0)]) := by kernel_rfl
@[simp] theorem ts146 : tsize Tryz.prog 146 = some 1 := by kernel_rfl
@[simp] theorem tb146 : tbytes Tryz.prog 146 = some 24 := by kernel_rfl
@[simp] theorem ta146 : tagg Tryz.prog 146 = some false := by kernel_rfl
@[simp] theorem te146 : telem Tryz.prog 146 = some 150 := by kernel_rfl
@[simp] theorem tes146 : elemSize Tryz.prog 146 = some 7 := by kernel_rfl
@[simp] theorem tz146 : tzero Tryz.prog 146 = some [.sl true 0 []] := by kernel_rfl
@[simp] theorem tv146 : tzeroV Tryz.prog 146 = some (.sl true 0 []) := by kernel_rfl
@[simp] theorem ts147 : tsize Tryz.prog 147 = some 2 := by kernel_rfl
@[simp] theorem tb147 : tbytes Tryz.prog 147 = some 32 := by kernel_rfl
@[simp] theorem ta147 : tagg Tryz.prog 147 = some true := by kernel_rfl
@[simp] theorem tf147_0 : tfield Tryz.prog 147 0 = some (0, 3, 1) := by kernel_rfl
@[simp] theorem tf147_1 : tfield Tryz.prog 147 1 = some (1, 146, 1) := by kernel_rfl
theorem tst147 : tstruct Tryz.prog 147 = some [(0, 3), (1, 146)] := by kernel_rfl
@[simp] theorem tp147 : tplaces Tryz.prog 147 = some [(0, 1), (1, 1)] := by kernel_rfl
@[simp] theorem tz147 : tzero Tryz.prog 147 = some [.val (.int .i64 0), .sl true 0 []] := by kernel_rfl
@[simp] theorem tv147 : tzeroV Tryz.prog 147 = some (.agg [.val (.int .i64 0), .sl true 0 []]) := by kernel_rfl
@[simp] theorem ts148 : tsize Tryz.prog 148 = some 2 := by kernel_rfl
@[simp] theorem tb148 : tbytes Tryz.prog 148 = some 32 := by kernel_rfl
@[simp] theorem ta148 : tagg Tryz.prog 148 = some true := by kernel_rfl
@[simp] theorem tf148_0 : tfield Tryz.prog 148 0 = some (0, 3, 1) := by kernel_rfl
@[simp] theorem tf148_1 : tfield Tryz.prog 148 1 = some (1, 146, 1) := by kernel_rfl
theorem tst148 : tstruct Tryz.prog 148 = some [(0, 3), (1, 146)] := by kernel_rfl
@[simp] theorem tp148 : tplaces Tryz.prog 148 = some [(0, 1), (1, 1)] := by kernel_rfl
@[simp] theorem tz148 : tzero Tryz.prog 148 = some [.val (.int .i64 0), .sl true 0 []] := by kernel_rfl
@[simp] theorem tv148 : tzeroV Tryz.prog 148 = some (.agg [.val (.int .i64 0), .sl true 0 []]) := by kernel_rfl
@[simp] theorem ts149 : tsize Tryz.prog 149 = some 7 := by kernel_rfl
@[simp] theorem tb149 : tbytes Tryz.prog 149 = some 80 := by kernel_rfl
@[simp] theorem ta149 : tagg Tryz.prog 149 = some true := by kernel_rfl
@[simp] theorem tf149_0 : tfield Tryz.prog 149 0 = some (0, 3, 1) := by kernel_rfl
@[simp] theorem tf149_1 : tfield Tryz.prog 149 1 = some (1, 4, 1) := by kernel_rfl
@[simp] theorem tf149_2 : tfield Tryz.prog 149 2 = some (2, 43, 5) := by kernel_rfl
theorem tst149 : tstruct Tryz.prog 149 = some [(0, 3), (1, 4), (2, 43)] := by kernel_rfl
@[simp] theorem tp149 : tplaces Tryz.prog 149 = some [(0, 1), (1, 1), (2, 5)] := by kernel_rfl
@[simp] theorem tz149 : tzero Tryz.prog 149 = some [.val (.int .i64 0), .val (.bool false), .val (.int .i64 0), .val (.int .i64 0), .val (.int .i64 0), .val (.string .empty), .sl true 0 []] := by kernel_rfl
@[simp] theorem tv149 : tzeroV Tryz.prog 149 = some (.agg [.val (.int .i64 0), .val (.bool false), .val (.int .i64 0), .val (.int .i64 0), .val (.int .i64 0), .val (.string .empty), .sl true 0 []]) := by kernel_rfl
@[simp] theorem ts150 : tsize Tryz.prog 150 = some 7 := by kernel_rfl
@[simp] theorem tb150 : tbytes Tryz.prog 150 = some 80 := by kernel_rfl
@[simp] theorem ta150 : tagg Tryz.prog 150 = some true := by kernel_rfl
@[simp] theorem tf150_0 : tfield Tryz.prog 150 0 = some (0, 3, 1) := by kernel_rfl
@[simp] theorem tf150_1 : tfield Tryz.prog 150 1 = some (1, 4, 1) := by kernel_rfl
@[simp] theorem tf150_2 : tfield Tryz.prog 150 2 = some (2, 43, 5) := by kernel_rfl
theorem tst150 : tstruct Tryz.prog 150 = some [(0, 3), (1, 4), (2, 43)] := by kernel_rfl
@[simp] theorem tp150 : tplaces Tryz.prog 150 = some [(0, 1), (1, 1), (2, 5)] := by kernel_rfl
@[simp] theorem tz150 : tzero Tryz.prog 150 = some [.val (.int .i64 0), .val (.bool false), .val (.int .i64 0), .val (.int .i64 0), .val (.int .i64 0), .val (.string .empty), .sl true 0 []] := by kernel_rfl
@[simp] theorem tv150 : tzeroV Tryz.prog 150 = some (.agg [.val (.int .i64 0), .val (.bool false), .val (.int .i64 0), .val (.int .i64 0), .val (.int .i64 0), .val (.string .empty), .sl true 0 []]) := by kernel_rfl
@[simp] theorem ts151 : tsize Tryz.prog 151 = some 1 := by kernel_rfl
@[simp] theorem tb151 : tbytes Tryz.prog 151 = some 8 := by kernel_rfl
@[simp] theorem ta151 : tagg Tryz.prog 151 = some false := by kernel_rfl
@[simp] theorem tz151 : tzero Tryz.prog 151 = some [.val .nilFunc] := by kernel_rfl
@[simp] theorem tv151 : tzeroV Tryz.prog 151 = some (.val .nilFunc) := by kernel_rfl
@[simp] theorem ts152 : tsize Tryz.prog 152 = some 1 := by kernel_rfl
@[simp] theorem tb152 : tbytes Tryz.prog 152 = some 8 := by kernel_rfl
@[simp] theorem ta152 : tagg Tryz.prog 152 = some false := by kernel_rfl
@[simp] theorem tz152 : tzero Tryz.prog 152 = some [.val .nilFunc] := by kernel_rfl
@[simp] theorem tv152 : tzeroV Tryz.prog 152 = some (.val .nilFunc) := by kernel_rfl
@[simp] theorem ts153 : tsize Tryz.prog 153 = some 1 := by kernel_rfl
@[simp] theorem tb153 : tbytes Tryz.prog 153 = some 8 := by kernel_rfl
@[simp] theorem ta153 : tagg Tryz.prog 153 = some false := by kernel_rfl
@[simp] theorem tz153 : tzero Tryz.prog 153 = some [.val .nilFunc] := by kernel_rfl
@[simp] theorem tv153 : tzeroV Tryz.prog 153 = some (.val .nilFunc) := by kernel_rfl
@[simp] theorem ts154 : tsize Tryz.prog 154 = some 1 := by kernel_rfl
@[simp] theorem tb154 : tbytes Tryz.prog 154 = some 8 := by kernel_rfl
@[simp] theorem ta154 : tagg Tryz.prog 154 = some false := by kernel_rfl
@[simp] theorem tz154 : tzero Tryz.prog 154 = some [.val .nilFunc] := by kernel_rfl
@[simp] theorem tv154 : tzeroV Tryz.prog 154 = some (.val .nilFunc) := by kernel_rfl
@[simp] theorem ts155 : tsize Tryz.prog 155 = some 1 := by kernel_rfl
@[simp] theorem tb155 : tbytes Tryz.prog 155 = some 8 := by kernel_rfl
@[simp] theorem ta155 : tagg Tryz.prog 155 = some false := by kernel_rfl
@[simp] theorem tz155 : tzero Tryz.prog 155 = some [.val .nilFunc] := by kernel_rfl
@[simp] theorem tv155 : tzeroV Tryz.prog 155 = some (.val .nilFunc) := by kernel_rfl
@[simp] theorem ts156 : tsize Tryz.prog 156 = some 1 := by kernel_rfl
@[simp] theorem tb156 : tbytes Tryz.prog 156 = some 8 := by kernel_rfl
@[simp] theorem ta156 : tagg Tryz.prog 156 = some false := by kernel_rfl
@[simp] theorem tz156 : tzero Tryz.prog 156 = some [.val .nilFunc] := by kernel_rfl
@[simp] theorem tv156 : tzeroV Tryz.prog 156 = some (.val .nilFunc) := by kernel_rfl
@[simp] theorem ts157 : tsize Tryz.prog 157 = some 1 := by kernel_rfl
@[simp] theorem tb157 : tbytes Tryz.prog 157 = some 8 := by kernel_rfl
@[simp] theorem ta157 : tagg Tryz.prog 157 = some false := by kernel_rfl
@[simp] theorem tz157 : tzero Tryz.prog 157 = some [.val .nilFunc] := by kernel_rfl
@[simp] theorem tv157 : tzeroV Tryz.prog 157 = some (.val .nilFunc) := by kernel_rfl
@[simp] theorem ts158 : tsize Tryz.prog 158 = some 1 := by kernel_rfl
@[simp] theorem tb158 : tbytes Tryz.prog 158 = some 8 := by kernel_rfl
@[simp] theorem ta158 : tagg Tryz.prog 158 = some false := by kernel_rfl
@[simp] theorem tz158 : tzero Tryz.prog 158 = some [.val .nilFunc] := by kernel_rfl
@[simp] theorem tv158 : tzeroV Tryz.prog 158 = some (.val .nilFunc) := by kernel_rfl
@[simp] theorem ts159 : tsize Tryz.prog 159 = some 1 := by kernel_rfl
@[simp] theorem tb159 : tbytes Tryz.prog 159 = some 8 := by kernel_rfl
@[simp] theorem ta159 : tagg Tryz.prog 159 = some false := by kernel_rfl
@[simp] theorem tz159 : tzero Tryz.prog 159 = some [.val .nilFunc] := by kernel_rfl
@[simp] theorem tv159 : tzeroV Tryz.prog 159 = some (.val .nilFunc) := by kernel_rfl
@[simp] theorem ts160 : tsize Tryz.prog 160 = some 1 := by kernel_rfl
@[simp] theorem tb160 : tbytes Tryz.prog 160 = some 8 := by kernel_rfl
@[simp] theorem ta160 : tagg Tryz.prog 160 = some false := by kernel_rfl
@[simp] theorem tz160 : tzero Tryz.prog 160 = some [.val .nilFunc] := by kernel_rfl
@[simp] theorem tv160 : tzeroV Tryz.prog 160 = some (.val .nilFunc) := by kernel_rfl
@[simp] theorem ts161 : tsize Tryz.prog 161 = some 1 := by kernel_rfl
@[simp] theorem tb161 : tbytes Tryz.prog 161 = some 8 := by kernel_rfl
@[simp] theorem ta161 : tagg Tryz.prog 161 = some false := by kernel_rfl
@[simp] theorem tz161 : tzero Tryz.prog 161 = some [.val .nilFunc] := by kernel_rfl
@[simp] theorem tv161 : tzeroV Tryz.prog 161 = some (.val .nilFunc) := by kernel_rfl
@[simp] theorem ts162 : tsize Tryz.prog 162 = some 1 := by kernel_rfl
@[simp] theorem tb162 : tbytes Tryz.prog 162 = some 0 := by kernel_rfl
@[simp] theorem ta162 : tagg Tryz.prog 162 = some false := by kernel_rfl
@[simp] theorem ts163 : tsize Tryz.prog 163 = some 1 := by kernel_rfl
@[simp] theorem tb163 : tbytes Tryz.prog 163 = some 8 := by kernel_rfl
@[simp] theorem ta163 : tagg Tryz.prog 163 = some false := by kernel_rfl
@[simp] theorem tz163 : tzero Tryz.prog 163 = some [.val .nilFunc] := by kernel_rfl
@[simp] theorem tv163 : tzeroV Tryz.prog 163 = some (.val .nilFunc) := by kernel_rfl
@[simp] theorem ts164 : tsize Tryz.prog 164 = some 1 := by kernel_rfl
@[simp] theorem tb164 : tbytes Tryz.prog 164 = some 8 := by kernel_rfl
@[simp] theorem ta164 : tagg Tryz.prog 164 = some false := by kernel_rfl
@[simp] theorem tz164 : tzero Tryz.prog 164 = some [.val .nilFunc] := by kernel_rfl
@[simp] theorem tv164 : tzeroV Tryz.prog 164 = some (.val .nilFunc) := by kernel_rfl
@[simp] theorem ts165 : tsize Tryz.prog 165 = some 1 := by kernel_rfl
@[simp] theorem tb165 : tbytes Tryz.prog 165 = some 8 := by kernel_rfl
@[simp] theorem ta165 : tagg Tryz.prog 165 = some false := by kernel_rfl
@[simp] theorem tz165 : tzero Tryz.prog 165 = some [.val .nilFunc] := by kernel_rfl
@[simp] theorem tv165 : tzeroV Tryz.prog 165 = some (.val .nilFunc) := by kernel_rfl
@[simp] theorem ts166 : tsize Tryz.prog 166 = some 1 := by kernel_rfl
@[simp] theorem tb166 : tbytes Tryz.prog 166 = some 0 := by kernel_rfl
@[simp] theorem ta166 : tagg Tryz.prog 166 = some false := by kernel_rfl
@[simp] theorem ts167 : tsize Tryz.prog 167 = some 1 := by kernel_rfl
@[simp] theorem tb167 : tbytes Tryz.prog 167 = some 8 := by kernel_rfl
@[simp] theorem ta167 : tagg Tryz.prog 167 = some false := by kernel_rfl
@[simp] theorem tz167 : tzero Tryz.prog 167 = some [.val .nilFunc] := by kernel_rfl
@[simp] theorem tv167 : tzeroV Tryz.prog 167 = some (.val .nilFunc) := by kernel_rfl
@[simp] theorem ts168 : tsize Tryz.prog 168 = some 1 := by kernel_rfl
@[simp] theorem tb168 : tbytes Tryz.prog 168 = some 8 := by kernel_rfl
@[simp] theorem ta168 : tagg Tryz.prog 168 = some false := by kernel_rfl
@[simp] theorem tz168 : tzero Tryz.prog 168 = some [.val .nilFunc] := by kernel_rfl
@[simp] theorem tv168 : tzeroV Tryz.prog 168 = some (.val .nilFunc) := by kernel_rfl
@[simp] theorem ts169 : tsize Tryz.prog 169 = some 1 := by kernel_rfl
@[simp] theorem tb169 : tbytes Tryz.prog 169 = some 0 := by kernel_rfl
@[simp] theorem ta169 : tagg Tryz.prog 169 = some false := by kernel_rfl
@[simp] theorem ts170 : tsize Tryz.prog 170 = some 1 := by kernel_rfl
@[simp] theorem tb170 : tbytes Tryz.prog 170 = some 8 := by kernel_rfl
@[simp] theorem ta170 : tagg Tryz.prog 170 = some false := by kernel_rfl
@[simp] theorem tz170 : tzero Tryz.prog 170 = some [.val .nilFunc] := by kernel_rfl
@[simp] theorem tv170 : tzeroV Tryz.prog 170 = some (.val .nilFunc) := by kernel_rfl
@[simp] theorem ts172 : tsize Tryz.prog 172 = some 1 := by kernel_rfl
@[simp] theorem tb172 : tbytes Tryz.prog 172 = some 8 := by kernel_rfl
@[simp] theorem ta172 : tagg Tryz.prog 172 = some false := by kernel_rfl
@[simp] theorem tz172 : tzero Tryz.prog 172 = some [.val .nilFunc] := by kernel_rfl
@[simp] theorem tv172 : tzeroV Tryz.prog 172 = some (.val .nilFunc) := by kernel_rfl
@[simp] theorem ts173 : tsize Tryz.prog 173 = some 1 := by kernel_rfl
@[simp] theorem tb173 : tbytes Tryz.prog 173 = some 8 := by kernel_rfl
@[simp] theorem ta173 : tagg Tryz.prog 173 = some false := by kernel_rfl
@[simp] theorem tz173 : tzero Tryz.prog 173 = some [.val .nilFunc] := by kernel_rfl
@[simp] theorem tv173 : tzeroV Tryz.prog 173 = some (.val .nilFunc) := by kernel_rfl
@[simp] theorem ts174 : tsize Tryz.prog 174 = some 1 := by kernel_rfl
@[simp] theorem tb174 : tbytes Tryz.prog 174 = some 8 := by kernel_rfl
@[simp] theorem ta174 : tagg Tryz.prog 174 = some false := by kernel_rfl
@[simp] theorem tz174 : tzero Tryz.prog 174 = some [.val .nilFunc] := by kernel_rfl
@[simp] theorem tv174 : tzeroV Tryz.prog 174 = some (.val .nilFunc) := by kernel_rfl
@[simp] theorem ts175 : tsize Tryz.prog 175 = some 1 := by kernel_rfl
@[simp] theorem tb175 : tbytes Tryz.prog 175 = some 8 := by kernel_rfl
@[simp] theorem ta175 : tagg Tryz.prog 175 = some false := by kernel_rfl
@[simp] theorem tz175 : tzero Tryz.prog 175 = some [.val .nilFunc] := by kernel_rfl
@[simp] theorem tv175 : tzeroV Tryz.prog 175 = some (.val .nilFunc) := by kernel_rfl
@[simp] theorem ts176 : tsize Tryz.prog 176 = some 1 := by kernel_rfl
@[simp] theorem tb176 : tbytes Tryz.prog 176 = some 8 := by kernel_rfl
@[simp] theorem ta176 : tagg Tryz.prog 176 = some false := by kernel_rfl
@[simp] theorem tz176 : tzero Tryz.prog 176 = some [.val .nilFunc] := by kernel_rfl
@[simp] theorem tv176 : tzeroV Tryz.prog 176 = some (.val .nilFunc) := by kernel_rfl
@[simp] theorem ts177 : tsize Tryz.prog 177 = some 1 := by kernel_rfl
@[simp] theorem tb177 : tbytes Tryz.prog 177 = some 8 := by kernel_rfl
@[simp] theorem ta177 : tagg Tryz.prog 177 = some false := by kernel_rfl
@[simp] theorem tz177 : tzero Tryz.prog 177 = some [.val .nilFunc] := by kernel_rfl
@[simp] theorem tv177 : tzeroV Tryz.prog 177 = some (.val .nilFunc) := by kernel_rfl
@[simp] theorem ts178 : tsize Tryz.prog 178 = some 1 := by kernel_rfl
@[simp] theorem tb178 : tbytes Tryz.prog 178 = some 8 := by kernel_rfl
@[simp] theorem ta178 : tagg Tryz.prog 178 = some false := by kernel_rfl
@[simp] theorem tz178 : tzero Tryz.prog 178 = some [.val .nilFunc] := by kernel_rfl
@[simp] theorem tv178 : tzeroV Tryz.prog 178 = some (.val .nilFunc) := by kernel_rfl
@[simp] theorem ts181 : tsize Tryz.prog 181 = some 1 := by kernel_rfl
@[simp] theorem tb181 : tbytes Tryz.prog 181 = some 8 := by kernel_rfl
@[simp] theorem ta181 : tagg Tryz.prog 181 = some false := by kernel_rfl
@[simp] theorem tz181 : tzero Tryz.prog 181 = some [.val .nilFunc] := by kernel_rfl
@[simp] theorem tv181 : tzeroV Tryz.prog 181 = some (.val .nilFunc) := by kernel_rfl
@[simp] theorem ts182 : tsize Tryz.prog 182 = some 1 := by kernel_rfl
@[simp] theorem tb182 : tbytes Tryz.prog 182 = some 8 := by kernel_rfl
@[simp] theorem ta182 : tagg Tryz.prog 182 = some false := by kernel_rfl
@[simp] theorem tz182 : tzero Tryz.prog 182 = some [.val .nilFunc] := by kernel_rfl
@[simp] theorem tv182 : tzeroV Tryz.prog 182 = some (.val .nilFunc) := by kernel_rfl
@[simp] theorem ts183 : tsize Tryz.prog 183 = some 1 := by kernel_rfl
@[simp] theorem tb183 : tbytes Tryz.prog 183 = some 8 := by kernel_rfl
@[simp] theorem ta183 : tagg Tryz.prog 183 = some false := by kernel_rfl
@[simp] theorem tz183 : tzero Tryz.prog 183 = some [.val .nilFunc] := by kernel_rfl
@[simp] theorem tv183 : tzeroV Tryz.prog 183 = some (.val .nilFunc) := by kernel_rfl
@[simp] theorem ts184 : tsize Tryz.prog 184 = some 1 := by kernel_rfl
@[simp] theorem tb184 : tbytes Tryz.prog 184 = some 0 := by kernel_rfl
@[simp] theorem ta184 : tagg Tryz.prog 184 = some false := by kernel_rfl
@[simp] theorem ts185 : tsize Tryz.prog 185 = some 1 := by kernel_rfl
@[simp] theorem tb185 : tbytes Tryz.prog 185 = some 8 := by kernel_rfl
@[simp] theorem ta185 : tagg Tryz.prog 185 = some false := by kernel_rfl
@[simp] theorem tz185 : tzero Tryz.prog 185 = some [.val .nilFunc] := by kernel_rfl
@[simp] theorem tv185 : tzeroV Tryz.prog 185 = some (.val .nilFunc) := by kernel_rfl
@[simp] theorem ts186 : tsize Tryz.prog 186 = some 1 := by kernel_rfl
@[simp] theorem tb186 : tbytes Tryz.prog 186 = some 8 := by kernel_rfl
@[simp] theorem ta186 : tagg Tryz.prog 186 = some false := by kernel_rfl
@[simp] theorem tz186 : tzero Tryz.prog 186 = some [.val .nilFunc] := by kernel_rfl
@[simp] theorem tv186 : tzeroV Tryz.prog 186 = some (.val .nilFunc) := by kernel_rfl
@[simp] theorem ts187 : tsize Tryz.prog 187 = some 1 := by kernel_rfl
@[simp] theorem tb187 : tbytes Tryz.prog 187 = some 8 := by kernel_rfl
@[simp] theorem ta187 : tagg Tryz.prog 187 = some false := by kernel_rfl
@[simp] theorem tz187 : tzero Tryz.prog 187 = some [.val .nilFunc] := by kernel_rfl
@[simp] theorem tv187 : tzeroV Tryz.prog 187 = some (.val .nilFunc) := by kernel_rfl
@[simp] theorem ts188 : tsize Tryz.prog 188 = some 1 := by kernel_rfl
@[simp] theorem tb188 : tbytes Tryz.prog 188 = some 8 := by kernel_rfl
@[simp] theorem ta188 : tagg Tryz.prog 188 = some false := by kernel_rfl
@[simp] theorem tz188 : tzero Tryz.prog 188 = some [.val .nilFunc] := by kernel_rfl
@[simp] theorem tv188 : tzeroV Tryz.prog 188 = some (.val .nilFunc) := by kernel_rfl
@[simp] theorem ts189 : tsize Tryz.prog 189 = some 1 := by kernel_rfl
@[simp] theorem tb189 : tbytes Tryz.prog 189 = some 8 := by kernel_rfl
@[simp] theorem ta189 : tagg Tryz.prog 189 = some false := by kernel_rfl
@[simp] theorem tz189 : tzero Tryz.prog 189 = some [.val .nilFunc] := by kernel_rfl
@[simp] theorem tv189 : tzeroV Tryz.prog 189 = some (.val .nilFunc) := by kernel_rfl
@[simp] theorem ts190 : tsize Tryz.prog 190 = some 1 := by kernel_rfl
@[simp] theorem tb190 : tbytes Tryz.prog 190 = some 8 := by kernel_rfl
@[simp] theorem ta190 : tagg Tryz.prog 190 = some false := by kernel_rfl
@[simp] theorem tz190 : tzero Tryz.prog 190 = some [.val .nilFunc] := by kernel_rfl
@[simp] theorem tv190 : tzeroV Tryz.prog 190 = some (.val .nilFunc) := by kernel_rfl
@[simp] theorem ts191 : tsize Tryz.prog 191 = some 1 := by kernel_rfl
@[simp] theorem tb191 : tbytes Tryz.prog 191 = some 24 := by kernel_rfl
@[simp] theorem ta191 : tagg Tryz.prog 191 = some false := by kernel_rfl
@[simp] theorem te191 : telem Tryz.prog 191 = some 22 := by kernel_rfl
@[simp] theorem tes191 : elemSize Tryz.prog 191 = some 1 := by kernel_rfl
@[simp] theorem tz191 : tzero Tryz.prog 191 = some [.sl true 0 []] := by kernel_rfl
@[simp] theorem tv191 : tzeroV Tryz.prog 191 = some (.sl true 0 []) := by kernel_rfl
@[simp] theorem ts192 : tsize Tryz.prog 192 = some 1 := by kernel_rfl
@[simp] theorem tb192 : tbytes Tryz.prog 192 = some 8 := by kernel_rfl
@[simp] theorem ta192 : tagg Tryz.prog 192 = some false := by kernel_rfl
@[simp] theorem tz192 : tzero Tryz.prog 192 = some [.val .nilFunc] := by kernel_rfl
@[simp] theorem tv192 : tzeroV Tryz.prog 192 = some (.val .nilFunc) := by kernel_rfl
@[simp] theorem ts193 : tsize Tryz.prog 193 = some 1 := by kernel_rfl
@[simp] theorem tb193 : tbytes Tryz.prog 193 = some 8 := by kernel_rfl
@[simp] theorem ta193 : tagg Tryz.prog 193 = some false := by kernel_rfl
@[simp] theorem tz193 : tzero Tryz.prog 193 = some [.val .nilFunc] := by kernel_rfl
@[simp] theorem tv193 : tzeroV Tryz.prog 193 = some (.val .nilFunc) := by kernel_rfl
@[simp] theorem ts194 : tsize Tryz.prog 194 = some 1 := by kernel_rfl
@[simp] theorem tb194 : tbytes Tryz.prog 194 = some 8 := by kernel_rfl
@[simp] theorem ta194 : tagg Tryz.prog 194 = some false := by kernel_rfl
@[simp] theorem tz194 : tzero Tryz.prog 194 = some [.val .nilFunc] := by kernel_rfl
@[simp] theorem tv194 : tzeroV Tryz.prog 194 = some (.val .nilFunc) := by kernel_rfl
@[simp] theorem ts195 : tsize Tryz.prog 195 = some 1 := by kernel_rfl
@[simp] theorem tb195 : tbytes Tryz.prog 195 = some 8 := by kernel_rfl
@[simp] theorem ta195 : tagg Tryz.prog 195 = some false := by kernel_rfl
@[simp] theorem tz195 : tzero Tryz.prog 195 = some [.val .nilFunc] := by kernel_rfl
@[simp] theorem tv195 : tzeroV Tryz.prog 195 = some (.val .nilFunc) := by kernel_rfl
@[simp] theorem ts196 : tsize Tryz.prog 196 = some 1 := by kernel_rfl
@[simp] theorem tb196 : tbytes Tryz.prog 196 = some 8 := by kernel_rfl
@[simp] theorem ta196 : tagg Tryz.prog 196 = some false := by kernel_rfl
@[simp] theorem tz196 : tzero Tryz.prog 196 = some [.val .nilFunc] := by kernel_rfl
@[simp] theorem tv196 : tzeroV Tryz.prog 196 = some (.val .nilFunc) := by kernel_rfl
@[simp] theorem ts197 : tsize Tryz.prog 197 = some 1 := by kernel_rfl
@[simp] theorem tb197 : tbytes Tryz.prog 197 = some 8 := by kernel_rfl
@[simp] theorem ta197 : tagg Tryz.prog 197 = some false := by kernel_rfl
@[simp] theorem tui197 : Tryz.prog.underlying 197 = some (.int .u64) := by kernel_rfl
@[simp] theorem tz197 : tzero Tryz.prog 197 = some [.val (.int .u64 0)] := by kernel_rfl
@[simp] theorem tv197 : tzeroV Tryz.prog 197 = some (.val (.int .u64 0)) := by kernel_rfl
@[simp] theorem ts198 : tsize Tryz.prog 198 = some 1 := by kernel_rfl
@[simp] theorem tb198 : tbytes Tryz.prog 198 = some 8 := by kernel_rfl
@[simp] theorem ta198 : tagg Tryz.prog 198 = some false := by kernel_rfl
@[simp] theorem tz198 : tzero Tryz.prog 198 = some [.val .nilFunc] := by kernel_rfl
@[simp] theorem tv198 : tzeroV Tryz.prog 198 = some (.val .nilFunc) := by kernel_rfl
@[simp] theorem ts199 : tsize Tryz.prog 199 = some 1 := by kernel_rfl
@[simp] theorem tb199 : tbytes Tryz.prog 199 = some 8 := by kernel_rfl
@[simp] theorem ta199 : tagg Tryz.prog 199 = some false := by kernel_rfl
@[simp] theorem tz199 : tzero Tryz.prog 199 = some [.val .nilFunc] := by kernel_rfl
@[simp] theorem tv199 : tzeroV Tryz.prog 199 = some (.val .nilFunc) := by kernel_rfl
@[simp] theorem ts200 : tsize Tryz.prog 200 = some 1 := by kernel_rfl
@[simp] theorem tb200 : tbytes Tryz.prog 200 = some 8 := by kernel_rfl
@[simp] theorem ta200 : tagg Tryz.prog 200 = some false := by kernel_rfl
@[simp] theorem tz200 : tzero Tryz.prog 200 = some [.val .nilFunc] := by kernel_rfl
@[simp] theorem tv200 : tzeroV Tryz.prog 200 = some (.val .nilFunc) := by kernel_rfl
@[simp] theorem ts203 : tsize Tryz.prog 203 = some 1 := by kernel_rfl
@[simp] theorem tb203 : tbytes Tryz.prog 203 = some 8 := by kernel_rfl
@[simp] theorem ta203 : tagg Tryz.prog 203 = some false := by kernel_rfl
@[simp] theorem tz203 : tzero Tryz.prog 203 = some [.val .nilFunc] := by kernel_rfl
@[simp] theorem tv203 : tzeroV Tryz.prog 203 = some (.val .nilFunc) := by kernel_rfl
@[simp] theorem ts204 : tsize Tryz.prog 204 = some 1 := by kernel_rfl
@[simp] theorem tb204 : tbytes Tryz.prog 204 = some 8 := by kernel_rfl
@[simp] theorem ta204 : tagg Tryz.prog 204 = some false := by kernel_rfl
@[simp] theorem tz204 : tzero Tryz.prog 204 = some [.val .nilFunc] := by kernel_rfl
@[simp] theorem tv204 : tzeroV Tryz.prog 204 = some (.val .nilFunc) := by kernel_rfl
@[simp] theorem ts205 : tsize Tryz.prog 205 = some 1 := by kernel_rfl
@[simp] theorem tb205 : tbytes Tryz.prog 205 = some 8 := by kernel_rfl
@[simp] theorem ta205 : tagg Tryz.prog 205 = some false := by kernel_rfl
@[simp] theorem tm205 : tmap Tryz.prog 205 = some (.int .i64, 3) := by kernel_rfl
@[simp] theorem tz205 : tzero Tryz.prog 205 = some [.val (.map none)] := by kernel_rfl
@[simp] theorem tv205 : tzeroV Tryz.prog 205 = some (.val (.map none)) := by kernel_rfl
@[simp] theorem ts206 : tsize Tryz.prog 206 = some 1 := by kernel_rfl
@[simp] theorem tb206 : tbytes Tryz.prog 206 = some 8 := by kernel_rfl
@[simp] theorem ta206 : tagg Tryz.prog 206 = some false := by kernel_rfl
@[simp] theorem tz206 : tzero Tryz.prog 206 = some [.val .nilFunc] := by kernel_rfl
@[simp] theorem tv206 : tzeroV Tryz.prog 206 = some (.val .nilFunc) := by kernel_rfl
@[simp] theorem ts207 : tsize Tryz.prog 207 = some 1 := by kernel_rfl
@[simp] theorem tb207 : tbytes Tryz.prog 207 = some 8 := by kernel_rfl
@[simp] theorem ta207 : tagg Tryz.prog 207 = some false := by kernel_rfl
@[simp] theorem tz207 : tzero Tryz.prog 207 = some [.val .nilFunc] := by kernel_rfl
@[simp] theorem tv207 : tzeroV Tryz.prog 207 = some (.val .nilFunc) := by kernel_rfl
@[simp] theorem ts208 : tsize Tryz.prog 208 = some 1 := by kernel_rfl
@[simp] theorem tb208 : tbytes Tryz.prog 208 = some 8 := by kernel_rfl
@[simp] theorem ta208 : tagg Tryz.prog 208 = some false := by kernel_rfl
@[simp] theorem tz208 : tzero Tryz.prog 208 = some [.val .nilFunc] := by kernel_rfl
@[simp] theorem tv208 : tzeroV Tryz.prog 208 = some (.val .nilFunc) := by kernel_rfl
@[simp] theorem ts210 : tsize Tryz.prog 210 = some 1 := by kernel_rfl
@[simp] theorem tb210 : tbytes Tryz.prog 210 = some 8 := by kernel_rfl
@[simp] theorem ta210 : tagg Tryz.prog 210 = some false := by kernel_rfl
@[simp] theorem tz210 : tzero Tryz.prog 210 = some [.val .nilFunc] := by kernel_rfl
@[simp] theorem tv210 : tzeroV Tryz.prog 210 = some (.val .nilFunc) := by kernel_rfl
@[simp] theorem ts211 : tsize Tryz.prog 211 = some 1 := by kernel_rfl
@[simp] theorem tb211 : tbytes Tryz.prog 211 = some 16 := by kernel_rfl
@[simp] theorem ta211 : tagg Tryz.prog 211 = some false := by kernel_rfl
@[simp] theorem tz211 : tzero Tryz.prog 211 = some [.val (.complex .f64 0 0)] := by kernel_rfl
@[simp] theorem tv211 : tzeroV Tryz.prog 211 = some (.val (.complex .f64 0 0)) := by kernel_rfl
@[simp] theorem ts212 : tsize Tryz.prog 212 = some 1 := by kernel_rfl
@[simp] theorem tb212 : tbytes Tryz.prog 212 = some 0 := by kernel_rfl
@[simp] theorem ta212 : tagg Tryz.prog 212 = some false := by kernel_rfl
@[simp] theorem ts214 : tsize Tryz.prog 214 = some 1 := by kernel_rfl
@[simp] theorem tb214 : tbytes Tryz.prog 214 = some 0 := by kernel_rfl
@[simp] theorem ta214 : tagg Tryz.prog 214 = some false := by kernel_rfl
@[simp] theorem ts215 : tsize Tryz.prog 215 = some 1 := by kernel_rfl
@[simp] theorem tb215 : tbytes Tryz.prog 215 = some 8 := by kernel_rfl
@[simp] theorem ta215 : tagg Tryz.prog 215 = some false := by kernel_rfl
@[simp] theorem tz215 : tzero Tryz.prog 215 = some [.val .nilFunc] := by kernel_rfl
@[simp] theorem tv215 : tzeroV Tryz.prog 215 = some (.val .nilFunc) := by kernel_rfl
@[simp] theorem ts216 : tsize Tryz.prog 216 = some 1 := by kernel_rfl
@[simp] theorem tb216 : tbytes Tryz.prog 216 = some 0 := by kernel_rfl
@[simp] theorem ta216 : tagg Tryz.prog 216 = some false := by kernel_rfl
@[simp] theorem ts217 : tsize Tryz.prog 217 = some 1 := by kernel_rfl
@[simp] theorem tb217 : tbytes Tryz.prog 217 = some 8 := by kernel_rfl
@[simp] theorem ta217 : tagg Tryz.prog 217 = some false := by kernel_rfl
@[simp] theorem tz217 : tzero Tryz.prog 217 = some [.val .nilFunc] := by kernel_rfl
@[simp] theorem tv217 : tzeroV Tryz.prog 217 = some (.val .nilFunc) := by kernel_rfl
@[simp] theorem ts218 : tsize Tryz.prog 218 = some 1 := by kernel_rfl
@[simp] theorem tb218 : tbytes Tryz.prog 218 = some 8 := by kernel_rfl
@[simp] theorem ta218 : tagg Tryz.prog 218 = some false := by kernel_rfl
@[simp] theorem tz218 : tzero Tryz.prog 218 = some [.val .nilFunc] := by kernel_rfl
@[simp] theorem tv218 : tzeroV Tryz.prog 218 = some (.val .nilFunc) := by kernel_rfl
@[simp] theorem ts219 : tsize Tryz.prog 219 = some 1 := by kernel_rfl
@[simp] theorem tb219 : tbytes Tryz.prog 219 = some 8 := by kernel_rfl
@[simp] theorem ta219 : tagg Tryz.prog 219 = some false := by kernel_rfl
@[simp] theorem tz219 : tzero Tryz.prog 219 = some [.val .nilFunc] := by kernel_rfl
@[simp] theorem tv219 : tzeroV Tryz.prog 219 = some (.val .nilFunc) := by kernel_rfl
@[simp] theorem ts220 : tsize Tryz.prog 220 = some 1 := by kernel_rfl
@[simp] theorem tb220 : tbytes Tryz.prog 220 = some 8 := by kernel_rfl
@[simp] theorem ta220 : tagg Tryz.prog 220 = some false := by kernel_rfl
@[simp] theorem tz220 : tzero Tryz.prog 220 = some [.val .nilFunc] := by kernel_rfl
@[simp] theorem tv220 : tzeroV Tryz.prog 220 = some (.val .nilFunc) := by kernel_rfl
@[simp] theorem ts221 : tsize Tryz.prog 221 = some 1 := by kernel_rfl
@[simp] theorem tb221 : tbytes Tryz.prog 221 = some 8 := by kernel_rfl
@[simp] theorem ta221 : tagg Tryz.prog 221 = some false := by kernel_rfl
@[simp] theorem tz221 : tzero Tryz.prog 221 = some [.val (.float .f64 0)] := by kernel_rfl
@[simp] theorem tv221 : tzeroV Tryz.prog 221 = some (.val (.float .f64 0)) := by kernel_rfl
@[simp] theorem ts222 : tsize Tryz.prog 222 = some 1 := by kernel_rfl
@[simp] theorem tb222 : tbytes Tryz.prog 222 = some 24 := by kernel_rfl
@[simp] theorem ta222 : tagg Tryz.prog 222 = some false := by kernel_rfl
@[simp] theorem te222 : telem Tryz.prog 222 = some 5 := by kernel_rfl
@[simp] theorem tes222 : elemSize Tryz.prog 222 = some 1 := by kernel_rfl
@[simp] theorem tz222 : tzero Tryz.prog 222 = some [.sl true 0 []] := by kernel_rfl
@[simp] theorem tv222 : tzeroV Tryz.prog 222 = some (.sl true 0 []) := by kernel_rfl
@[simp] theorem ts223 : tsize Tryz.prog 223 = some 1 := by kernel_rfl
@[simp] theorem tb223 : tbytes Tryz.prog 223 = some 8 := by kernel_rfl
@[simp] theorem ta223 : tagg Tryz.prog 223 = some false := by kernel_rfl
@[simp] theorem tz223 : tzero Tryz.prog 223 = some [.val .nilFunc] := by kernel_rfl
@[simp] theorem tv223 : tzeroV Tryz.prog 223 = some (.val .nilFunc) := by kernel_rfl
@[simp] theorem ts224 : tsize Tryz.prog 224 = some 1 := by kernel_rfl
@[simp] theorem tb224 : tbytes Tryz.prog 224 = some 8 := by kernel_rfl
@[simp] theorem ta224 : tagg Tryz.prog 224 = some false := by kernel_rfl
@[simp] theorem tz224 : tzero Tryz.prog 224 = some [.val .nilFunc] := by kernel_rfl
@[simp] theorem tv224 : tzeroV Tryz.prog 224 = some (.val .nilFunc) := by kernel_rfl
@[simp] theorem ts225 : tsize Tryz.prog 225 = some 1 := by kernel_rfl
@[simp] theorem tb225 : tbytes Tryz.prog 225 = some 8 := by kernel_rfl
@[simp] theorem ta225 : tagg Tryz.prog 225 = some false := by kernel_rfl
@[simp] theorem tz225 : tzero Tryz.prog 225 = some [.val .nilFunc] := by kernel_rfl
@[simp] theorem tv225 : tzeroV Tryz.prog 225 = some (.val .nilFunc) := by kernel_rfl
@[simp] theorem ts226 : tsize Tryz.prog 226 = some 1 := by kernel_rfl
@[simp] theorem tb226 : tbytes Tryz.prog 226 = some 8 := by kernel_rfl
@[simp] theorem ta226 : tagg Tryz.prog 226 = some false := by kernel_rfl
@[simp] theorem tz226 : tzero Tryz.prog 226 = some [.val .nilFunc] := by kernel_rfl
@[simp] theorem tv226 : tzeroV Tryz.prog 226 = some (.val .nilFunc) := by kernel_rfl
@[simp] theorem ts227 : tsize Tryz.prog 227 = some 1 := by kernel_rfl
@[simp] theorem tb227 : tbytes Tryz.prog 227 = some 8 := by kernel_rfl
@[simp] theorem ta227 : tagg Tryz.prog 227 = some false := by kernel_rfl
@[simp] theorem tz227 : tzero Tryz.prog 227 = some [.val .nilFunc] := by kernel_rfl
@[simp] theorem tv227 : tzeroV Tryz.prog 227 = some (.val .nilFunc) := by kernel_rfl
@[simp] theorem ts228 : tsize Tryz.prog 228 = some 1 := by kernel_rfl
@[simp] theorem tb228 : tbytes Tryz.prog 228 = some 8 := by kernel_rfl
@[simp] theorem ta228 : tagg Tryz.prog 228 = some false := by kernel_rfl
@[simp] theorem tz228 : tzero Tryz.prog 228 = some [.val .nilFunc] := by kernel_rfl
@[simp] theorem tv228 : tzeroV Tryz.prog 228 = some (.val .nilFunc) := by kernel_rfl
@[simp] theorem ts230 : tsize Tryz.prog 230 = some 1 := by kernel_rfl
@[simp] theorem tb230 : tbytes Tryz.prog 230 = some 0 := by kernel_rfl
@[simp] theorem ta230 : tagg Tryz.prog 230 = some false := by kernel_rfl
@[simp] theorem ts231 : tsize Tryz.prog 231 = some 1 := by kernel_rfl
@[simp] theorem tb231 : tbytes Tryz.prog 231 = some 8 := by kernel_rfl
@[simp] theorem ta231 : tagg Tryz.prog 231 = some false := by kernel_rfl
@[simp] theorem tz231 : tzero Tryz.prog 231 = some [.val .nilFunc] := by kernel_rfl
@[simp] theorem tv231 : tzeroV Tryz.prog 231 = some (.val .nilFunc) := by kernel_rfl
@[simp] theorem ts232 : tsize Tryz.prog 232 = some 1 := by kernel_rfl
@[simp] theorem tb232 : tbytes Tryz.prog 232 = some 8 := by kernel_rfl
@[simp] theorem ta232 : tagg Tryz.prog 232 = some false := by kernel_rfl
@[simp] theorem tz232 : tzero Tryz.prog 232 = some [.val .nilFunc] := by kernel_rfl
@[simp] theorem tv232 : tzeroV Tryz.prog 232 = some (.val .nilFunc) := by kernel_rfl
@[simp] theorem ts233 : tsize Tryz.prog 233 = some 1 := by kernel_rfl
@[simp] theorem tb233 : tbytes Tryz.prog 233 = some 8 := by kernel_rfl
@[simp] theorem ta233 : tagg Tryz.prog 233 = some false := by kernel_rfl
@[simp] theorem tz233 : tzero Tryz.prog 233 = some [.val .nilFunc] := by kernel_rfl
@[simp] theorem tv233 : tzeroV Tryz.prog 233 = some (.val .nilFunc) := by kernel_rfl
@[simp] theorem ts234 : tsize Tryz.prog 234 = some 1 := by kernel_rfl
@[simp] theorem tb234 : tbytes Tryz.prog 234 = some 8 := by kernel_rfl
@[simp] theorem ta234 : tagg Tryz.prog 234 = some false := by kernel_rfl
@[simp] theorem tz234 : tzero Tryz.prog 234 = some [.val .nilFunc] := by kernel_rfl
@[simp] theorem tv234 : tzeroV Tryz.prog 234 = some (.val .nilFunc) := by kernel_rfl
@[simp] theorem ts235 : tsize Tryz.prog 235 = some 1 := by kernel_rfl
@[simp] theorem tb235 : tbytes Tryz.prog 235 = some 8 := by kernel_rfl
@[simp] theorem ta235 : tagg Tryz.prog 235 = some false := by kernel_rfl
@[simp] theorem tz235 : tzero Tryz.prog 235 = some [.val .nilFunc] := by kernel_rfl
@[simp] theorem tv235 : tzeroV Tryz.prog 235 = some (.val .nilFunc) := by kernel_rfl
@[simp] theorem ts236 : tsize Tryz.prog 236 = some 1 := by kernel_rfl
@[simp] theorem tb236 : tbytes Tryz.prog 236 = some 8 := by kernel_rfl
@[simp] theorem ta236 : tagg Tryz.prog 236 = some false := by kernel_rfl
@[simp] theorem tz236 : tzero Tryz.prog 236 = some [.val .nilFunc] := by kernel_rfl
@[simp] theorem tv236 : tzeroV Tryz.prog 236 = some (.val .nilFunc) := by kernel_rfl
@[simp] theorem ts239 : tsize Tryz.prog 239 = some 1 := by kernel_rfl
@[simp] theorem tb239 : tbytes Tryz.prog 239 = some 8 := by kernel_rfl
@[simp] theorem ta239 : tagg Tryz.prog 239 = some false := by kernel_rfl
@[simp] theorem tz239 : tzero Tryz.prog 239 = some [.val .nilFunc] := by kernel_rfl
@[simp] theorem tv239 : tzeroV Tryz.prog 239 = some (.val .nilFunc) := by kernel_rfl
@[simp] theorem ts240 : tsize Tryz.prog 240 = some 1 := by kernel_rfl
@[simp] theorem tb240 : tbytes Tryz.prog 240 = some 0 := by kernel_rfl
@[simp] theorem ta240 : tagg Tryz.prog 240 = some false := by kernel_rfl
@[simp] theorem ts241 : tsize Tryz.prog 241 = some 1 := by kernel_rfl
@[simp] theorem tb241 : tbytes Tryz.prog 241 = some 8 := by kernel_rfl
@[simp] theorem ta241 : tagg Tryz.prog 241 = some false := by kernel_rfl
@[simp] theorem tz241 : tzero Tryz.prog 241 = some [.val .nilFunc] := by kernel_rfl
@[simp] theorem tv241 : tzeroV Tryz.prog 241 = some (.val .nilFunc) := by kernel_rfl
@[simp] theorem ts242 : tsize Tryz.prog 242 = some 1 := by kernel_rfl
@[simp] theorem tb242 : tbytes Tryz.prog 242 = some 8 := by kernel_rfl
@[simp] theorem ta242 : tagg Tryz.prog 242 = some false := by kernel_rfl
@[simp] theorem tz242 : tzero Tryz.prog 242 = some [.val .nilFunc] := by kernel_rfl
@[simp] theorem tv242 : tzeroV Tryz.prog 242 = some (.val .nilFunc) := by kernel_rfl
@[simp] theorem ts243 : tsize Tryz.prog 243 = some 1 := by kernel_rfl
@[simp] theorem tb243 : tbytes Tryz.prog 243 = some 8 := by kernel_rfl
@[simp] theorem ta243 : tagg Tryz.prog 243 = some false := by kernel_rfl
@[simp] theorem tz243 : tzero Tryz.prog 243 = some [.val .nilFunc] := by kernel_rfl
@[simp] theorem tv243 : tzeroV Tryz.prog 243 = some (.val .nilFunc) := by kernel_rfl
@[simp] theorem ts244 : tsize Tryz.prog 244 = some 1 := by kernel_rfl
@[simp] theorem tb244 : tbytes Tryz.prog 244 = some 8 := by kernel_rfl
@[simp] theorem ta244 : tagg Tryz.prog 244 = some false := by kernel_rfl
@[simp] theorem tz244 : tzero Tryz.prog 244 = some [.val .nilFunc] := by kernel_rfl
@[simp] theorem tv244 : tzeroV Tryz.prog 244 = some (.val .nilFunc) := by kernel_rfl
@[simp] theorem ts247 : tsize Tryz.prog 247 = some 1 := by kernel_rfl
@[simp] theorem tb247 : tbytes Tryz.prog 247 = some 24 := by kernel_rfl
@[simp] theorem ta247 : tagg Tryz.prog 247 = some false := by kernel_rfl
@[simp] theorem te247 : telem Tryz.prog 247 = some 52 := by kernel_rfl
@[simp] theorem tes247 : elemSize Tryz.prog 247 = some 1 := by kernel_rfl
@[simp] theorem tz247 : tzero Tryz.prog 247 = some [.sl true 0 []] := by kernel_rfl
@[simp] theorem tv247 : tzeroV Tryz.prog 247 = some (.sl true 0 []) := by kernel_rfl
@[simp] theorem ts248 : tsize Tryz.prog 248 = some 1 := by kernel_rfl
@[simp] theorem tb248 : tbytes Tryz.prog 248 = some 8 := by kernel_rfl
@[simp] theorem ta248 : tagg Tryz.prog 248 = some false := by kernel_rfl
@[simp] theorem tz248 : tzero Tryz.prog 248 = some [.val .nilFunc] := by kernel_rfl
@[simp] theorem tv248 : tzeroV Tryz.prog 248 = some (.val .nilFunc) := by kernel_rfl
@[simp] theorem ts249 : tsize Tryz.prog 249 = some 1 := by kernel_rfl
@[simp] theorem tb249 : tbytes Tryz.prog 249 = some 24 := by kernel_rfl
@[simp] theorem ta249 : tagg Tryz.prog 249 = some false := by kernel_rfl
@[simp] theorem te249 : telem Tryz.prog 249 = some 31 := by kernel_rfl
@[simp] theorem tes249 : elemSize Tryz.prog 249 = some 1 := by kernel_rfl
@[simp] theorem tz249 : tzero Tryz.prog 249 = some [.sl true 0 []] := by kernel_rfl
@[simp] theorem tv249 : tzeroV Tryz.prog 249 = some (.sl true 0 []) := by kernel_rfl
@[simp] theorem ts250 : tsize Tryz.prog 250 = some 1 := by kernel_rfl
@[simp] theorem tb250 : tbytes Tryz.prog 250 = some 8 := by kernel_rfl
@[simp] theorem ta250 : tagg Tryz.prog 250 = some false := by kernel_rfl
@[simp] theorem tz250 : tzero Tryz.prog 250 = some [.val .nilFunc] := by kernel_rfl
@[simp] theorem tv250 : tzeroV Tryz.prog 250 = some (.val .nilFunc) := by kernel_rfl
@[simp] theorem ts252 : tsize Tryz.prog 252 = some 1 := by kernel_rfl
@[simp] theorem tb252 : tbytes Tryz.prog 252 = some 8 := by kernel_rfl
@[simp] theorem ta252 : tagg Tryz.prog 252 = some false := by kernel_rfl
@[simp] theorem tz252 : tzero Tryz.prog 252 = some [.val .nilFunc] := by kernel_rfl
@[simp] theorem tv252 : tzeroV Tryz.prog 252 = some (.val .nilFunc) := by kernel_rfl
@[simp] theorem ts253 : tsize Tryz.prog 253 = some 1 := by kernel_rfl
@[simp] theorem tb253 : tbytes Tryz.prog 253 = some 8 := by kernel_rfl
@[simp] theorem ta253 : tagg Tryz.prog 253 = some false := by kernel_rfl
@[simp] theorem tz253 : tzero Tryz.prog 253 = some [.val .nilFunc] := by kernel_rfl
@[simp] theorem tv253 : tzeroV Tryz.prog 253 = some (.val .nilFunc) := by kernel_rfl
@[simp] theorem ts254 : tsize Tryz.prog 254 = some 1 := by kernel_rfl
@[simp] theorem tb254 : tbytes Tryz.prog 254 = some 0 := by kernel_rfl
@[simp] theorem ta254 : tagg Tryz.prog 254 = some false := by kernel_rfl
@[simp] theorem ts255 : tsize Tryz.prog 255 = some 1 := by kernel_rfl
@[simp] theorem tb255 : tbytes Tryz.prog 255 = some 8 := by kernel_rfl
@[simp] theorem ta255 : tagg Tryz.prog 255 = some false := by kernel_rfl
@[simp] theorem tz255 : tzero Tryz.prog 255 = some [.val .nilFunc] := by kernel_rfl
@[simp] theorem tv255 : tzeroV Tryz.prog 255 = some (.val .nilFunc) := by kernel_rfl
@[simp] theorem ts256 : tsize Tryz.prog 256 = some 1 := by kernel_rfl
@[simp] theorem tb256 : tbytes Tryz.prog 256 = some 8 := by kernel_rfl
@[simp] theorem ta256 : tagg Tryz.prog 256 = some false := by kernel_rfl
@[simp] theorem tz256 : tzero Tryz.prog 256 = some [.val .nilFunc] := by kernel_rfl
@[simp] theorem tv256 : tzeroV Tryz.prog 256 = some (.val .nilFunc) := by kernel_rfl
@[simp] theorem ts262 : tsize Tryz.prog 262 = some 1 := by kernel_rfl
@[simp] theorem tb262 : tbytes Tryz.prog 262 = some 8 := by kernel_rfl
@[simp] theorem ta262 : tagg Tryz.prog 262 = some false := by kernel_rfl
@[simp] theorem tz262 : tzero Tryz.prog 262 = some [.val .nilFunc] := by kernel_rfl
@[simp] theorem tv262 : tzeroV Tryz.prog 262 = some (.val .nilFunc) := by kernel_rfl
@[simp] theorem ts263 : tsize Tryz.prog 263 = some 1 := by kernel_rfl
@[simp] theorem tb263 : tbytes Tryz.prog 263 = some 8 := by kernel_rfl
@[simp] theorem ta263 : tagg Tryz.prog 263 = some false := by kernel_rfl
@[simp] theorem tz263 : tzero Tryz.prog 263 = some [.val .nilFunc] := by kernel_rfl
@[simp] theorem tv263 : tzeroV Tryz.prog 263 = some (.val .nilFunc) := by kernel_rfl
@[simp] theorem ts264 : tsize Tryz.prog 264 = some 1 := by kernel_rfl
@[simp] theorem tb264 : tbytes Tryz.prog 264 = some 8 := by kernel_rfl
@[simp] theorem ta264 : tagg Tryz.prog 264 = some false := by kernel_rfl
@[simp] theorem tz264 : tzero Tryz.prog 264 = some [.val .nilFunc] := by kernel_rfl
@[simp] theorem tv264 : tzeroV Tryz.prog 264 = some (.val .nilFunc) := by kernel_rfl
@[simp] theorem ts265 : tsize Tryz.prog 265 = some 1 := by kernel_rfl
@[simp] theorem tb265 : tbytes Tryz.prog 265 = some 8 := by kernel_rfl
@[simp] theorem ta265 : tagg Tryz.prog 265 = some false := by kernel_rfl
@[simp] theorem tz265 : tzero Tryz.prog 265 = some [.val .nilFunc] := by kernel_rfl
@[simp] theorem tv265 : tzeroV Tryz.prog 265 = some (.val .nilFunc) := by kernel_rfl
@[simp] theorem ts267 : tsize Tryz.prog 267 = some 1 := by kernel_rfl
@[simp] theorem tb267 : tbytes Tryz.prog 267 = some 8 := by kernel_rfl
@[simp] theorem ta267 : tagg Tryz.prog 267 = some false := by kernel_rfl
@[simp] theorem tz267 : tzero Tryz.prog 267 = some [.val .nilFunc] := by kernel_rfl
@[simp] theorem tv267 : tzeroV Tryz.prog 267 = some (.val .nilFunc) := by kernel_rfl
@[simp] theorem ts268 : tsize Tryz.prog 268 = some 1 := by kernel_rfl
@[simp] theorem tb268 : tbytes Tryz.prog 268 = some 8 := by kernel_rfl
@[simp] theorem ta268 : tagg Tryz.prog 268 = some false := by kernel_rfl
@[simp] theorem tui268 : Tryz.prog.underlying 268 = some (.int .u64) := by kernel_rfl
@[simp] theorem tz268 : tzero Tryz.prog 268 = some [.val (.int .u64 0)] := by kernel_rfl
@[simp] theorem tv268 : tzeroV Tryz.prog 268 = some (.val (.int .u64 0)) := by kernel_rfl
end Go.Proofs.YtdnfnddlciafmaaGreat.Tab
