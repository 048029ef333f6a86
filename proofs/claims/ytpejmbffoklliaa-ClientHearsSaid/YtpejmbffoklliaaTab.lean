/- The table of types of this seat's translation, as facts that an abstract walk uses. Printed by a program of mine. -/
import Derived.Test.YtpejmbffoklliaaProg
import Derived.Test.YtpejmbffoklliaaCxS
import Derived.KernelRfl
namespace Go.Proofs.Ytpejmbffoklliaa.Tab
open Go.Cx
@[simp] theorem ts0 : tsize Try.prog 0 = some 1 := by kernel_rfl
@[simp] theorem tb0 : tbytes Try.prog 0 = some 0 := by kernel_rfl
@[simp] theorem ta0 : tagg Try.prog 0 = some false := by kernel_rfl
@[simp] theorem ts1 : tsize Try.prog 1 = some 1 := by kernel_rfl
@[simp] theorem tb1 : tbytes Try.prog 1 = some 8 := by kernel_rfl
@[simp] theorem ta1 : tagg Try.prog 1 = some false := by kernel_rfl
@[simp] theorem tz1 : tzero Try.prog 1 = some [.val .nilFunc] := by kernel_rfl
@[simp] theorem tv1 : tzeroV Try.prog 1 = some (.val .nilFunc) := by kernel_rfl
@[simp] theorem ts2 : tsize Try.prog 2 = some 1 := by kernel_rfl
@[simp] theorem tb2 : tbytes Try.prog 2 = some 8 := by kernel_rfl
@[simp] theorem ta2 : tagg Try.prog 2 = some false := by kernel_rfl
@[simp] theorem tui2 : Try.prog.underlying 2 = some (.int .i64) := by kernel_rfl
@[simp] theorem tz2 : tzero Try.prog 2 = some [.val (.int .i64 0)] := by kernel_rfl
@[simp] theorem tv2 : tzeroV Try.prog 2 = some (.val (.int .i64 0)) := by kernel_rfl
@[simp] theorem ts3 : tsize Try.prog 3 = some 1 := by kernel_rfl
@[simp] theorem tb3 : tbytes Try.prog 3 = some 8 := by kernel_rfl
@[simp] theorem ta3 : tagg Try.prog 3 = some false := by kernel_rfl
@[simp] theorem tui3 : Try.prog.underlying 3 = some (.int .i64) := by kernel_rfl
@[simp] theorem tz3 : tzero Try.prog 3 = some [.val (.int .i64 0)] := by kernel_rfl
@[simp] theorem tv3 : tzeroV Try.prog 3 = some (.val (.int .i64 0)) := by kernel_rfl
@[simp] theorem ts4 : tsize Try.prog 4 = some 1 := by kernel_rfl
@[simp] theorem tb4 : tbytes Try.prog 4 = some 1 := by kernel_rfl
@[simp] theorem ta4 : tagg Try.prog 4 = some false := by kernel_rfl
@[simp] theorem tub4 : Try.prog.underlying 4 = some .bool := by kernel_rfl
@[simp] theorem tz4 : tzero Try.prog 4 = some [.val (.bool false)] := by kernel_rfl
@[simp] theorem tv4 : tzeroV Try.prog 4 = some (.val (.bool false)) := by kernel_rfl
@[simp] theorem ts5 : tsize Try.prog 5 = some 1 := by kernel_rfl
@[simp] theorem tb5 : tbytes Try.prog 5 = some 1 := by kernel_rfl
@[simp] theorem ta5 : tagg Try.prog 5 = some false := by kernel_rfl
@[simp] theorem tui5 : Try.prog.underlying 5 = some (.int .u8) := by kernel_rfl
@[simp] theorem tz5 : tzero Try.prog 5 = some [.val (.int .u8 0)] := by kernel_rfl
@[simp] theorem tv5 : tzeroV Try.prog 5 = some (.val (.int .u8 0)) := by kernel_rfl
@[simp] theorem ts6 : tsize Try.prog 6 = some 1 := by kernel_rfl
@[simp] theorem tb6 : tbytes Try.prog 6 = some 1 := by kernel_rfl
@[simp] theorem ta6 : tagg Try.prog 6 = some false := by kernel_rfl
@[simp] theorem tui6 : Try.prog.underlying 6 = some (.int .u8) := by kernel_rfl
@[simp] theorem tz6 : tzero Try.prog 6 = some [.val (.int .u8 0)] := by kernel_rfl
@[simp] theorem tv6 : tzeroV Try.prog 6 = some (.val (.int .u8 0)) := by kernel_rfl
@[simp] theorem ts7 : tsize Try.prog 7 = some 4 := by kernel_rfl
@[simp] theorem tb7 : tbytes Try.prog 7 = some 24 := by kernel_rfl
@[simp] theorem ta7 : tagg Try.prog 7 = some true := by kernel_rfl
@[simp] theorem tf7_0 : tfield Try.prog 7 0 = some (0, 2, 1) := by kernel_rfl
@[simp] theorem tf7_1 : tfield Try.prog 7 1 = some (1, 3, 1) := by kernel_rfl
@[simp] theorem tf7_2 : tfield Try.prog 7 2 = some (2, 4, 1) := by kernel_rfl
@[simp] theorem tf7_3 : tfield Try.prog 7 3 = some (3, 6, 1) := by kernel_rfl
theorem tst7 : tstruct Try.prog 7 = some [(0, 2), (1, 3), (2, 4), (3, 6)] := by kernel_rfl
@[simp] theorem tp7 : tplaces Try.prog 7 = some [(0, 1), (1, 1), (2, 1), (3, 1)] := by kernel_rfl
@[simp] theorem tz7 : tzero Try.prog 7 = some [.val (.int .i64 0), .val (.int .i64 0), .val (.bool false), .val (.int .u8 0)] := by kernel_rfl
@[simp] theorem tv7 : tzeroV Try.prog 7 = some (.agg [.val (.int .i64 0), .val (.int .i64 0), .val (.bool false), .val (.int .u8 0)]) := by kernel_rfl
@[simp] theorem ts8 : tsize Try.prog 8 = some 4 := by kernel_rfl
@[simp] theorem tb8 : tbytes Try.prog 8 = some 24 := by kernel_rfl
@[simp] theorem ta8 : tagg Try.prog 8 = some true := by kernel_rfl
@[simp] theorem tf8_0 : tfield Try.prog 8 0 = some (0, 2, 1) := by kernel_rfl
@[simp] theorem tf8_1 : tfield Try.prog 8 1 = some (1, 3, 1) := by kernel_rfl
@[simp] theorem tf8_2 : tfield Try.prog 8 2 = some (2, 4, 1) := by kernel_rfl
@[simp] theorem tf8_3 : tfield Try.prog 8 3 = some (3, 6, 1) := by kernel_rfl
theorem tst8 : tstruct Try.prog 8 = some [(0, 2), (1, 3), (2, 4), (3, 6)] := by kernel_rfl
@[simp] theorem tp8 : tplaces Try.prog 8 = some [(0, 1), (1, 1), (2, 1), (3, 1)] := by kernel_rfl
@[simp] theorem tz8 : tzero Try.prog 8 = some [.val (.int .i64 0), .val (.int .i64 0), .val (.bool false), .val (.int .u8 0)] := by kernel_rfl
@[simp] theorem tv8 : tzeroV Try.prog 8 = some (.agg [.val (.int .i64 0), .val (.int .i64 0), .val (.bool false), .val (.int .u8 0)]) := by kernel_rfl
@[simp] theorem ts9 : tsize Try.prog 9 = some 1 := by kernel_rfl
@[simp] theorem tb9 : tbytes Try.prog 9 = some 16 := by kernel_rfl
@[simp] theorem ta9 : tagg Try.prog 9 = some false := by kernel_rfl
@[simp] theorem tus9 : Try.prog.underlying 9 = some .string := by kernel_rfl
@[simp] theorem tz9 : tzero Try.prog 9 = some [.val (.string .empty)] := by kernel_rfl
@[simp] theorem tv9 : tzeroV Try.prog 9 = some (.val (.string .empty)) := by kernel_rfl
@[simp] theorem ts10 : tsize Try.prog 10 = some 1 := by kernel_rfl
@[simp] theorem tb10 : tbytes Try.prog 10 = some 16 := by kernel_rfl
@[simp] theorem ta10 : tagg Try.prog 10 = some false := by kernel_rfl
@[simp] theorem tus10 : Try.prog.underlying 10 = some .string := by kernel_rfl
@[simp] theorem tz10 : tzero Try.prog 10 = some [.val (.string .empty)] := by kernel_rfl
@[simp] theorem tv10 : tzeroV Try.prog 10 = some (.val (.string .empty)) := by kernel_rfl
@[simp] theorem ts11 : tsize Try.prog 11 = some 1 := by kernel_rfl
@[simp] theorem tb11 : tbytes Try.prog 11 = some 16 := by kernel_rfl
@[simp] theorem ta11 : tagg Try.prog 11 = some false := by kernel_rfl
@[simp] theorem tus11 : Try.prog.underlying 11 = some .string := by kernel_rfl
@[simp] theorem tz11 : tzero Try.prog 11 = some [.val (.string .empty)] := by kernel_rfl
@[simp] theorem tv11 : tzeroV Try.prog 11 = some (.val (.string .empty)) := by kernel_rfl
@[simp] theorem ts12 : tsize Try.prog 12 = some 1 := by kernel_rfl
@[simp] theorem tb12 : tbytes Try.prog 12 = some 8 := by kernel_rfl
@[simp] theorem ta12 : tagg Try.prog 12 = some false := by kernel_rfl
@[simp] theorem tui12 : Try.prog.underlying 12 = some (.int .u64) := by kernel_rfl
@[simp] theorem tz12 : tzero Try.prog 12 = some [.val (.int .u64 0)] := by kernel_rfl
@[simp] theorem tv12 : tzeroV Try.prog 12 = some (.val (.int .u64 0)) := by kernel_rfl
@[simp] theorem ts13 : tsize Try.prog 13 = some 2 := by kernel_rfl
@[simp] theorem tb13 : tbytes Try.prog 13 = some 24 := by kernel_rfl
@[simp] theorem ta13 : tagg Try.prog 13 = some true := by kernel_rfl
@[simp] theorem tf13_0 : tfield Try.prog 13 0 = some (0, 9, 1) := by kernel_rfl
@[simp] theorem tf13_1 : tfield Try.prog 13 1 = some (1, 12, 1) := by kernel_rfl
theorem tst13 : tstruct Try.prog 13 = some [(0, 9), (1, 12)] := by kernel_rfl
@[simp] theorem tp13 : tplaces Try.prog 13 = some [(0, 1), (1, 1)] := by kernel_rfl
@[simp] theorem tz13 : tzero Try.prog 13 = some [.val (.string .empty), .val (.int .u64 0)] := by kernel_rfl
@[simp] theorem tv13 : tzeroV Try.prog 13 = some (.agg [.val (.string .empty), .val (.int .u64 0)]) := by kernel_rfl
@[simp] theorem ts14 : tsize Try.prog 14 = some 2 := by kernel_rfl
@[simp] theorem tb14 : tbytes Try.prog 14 = some 24 := by kernel_rfl
@[simp] theorem ta14 : tagg Try.prog 14 = some true := by kernel_rfl
@[simp] theorem tf14_0 : tfield Try.prog 14 0 = some (0, 9, 1) := by kernel_rfl
@[simp] theorem tf14_1 : tfield Try.prog 14 1 = some (1, 12, 1) := by kernel_rfl
theorem tst14 : tstruct Try.prog 14 = some [(0, 9), (1, 12)] := by kernel_rfl
@[simp] theorem tp14 : tplaces Try.prog 14 = some [(0, 1), (1, 1)] := by kernel_rfl
@[simp] theorem tz14 : tzero Try.prog 14 = some [.val (.string .empty), .val (.int .u64 0)] := by kernel_rfl
@[simp] theorem tv14 : tzeroV Try.prog 14 = some (.agg [.val (.string .empty), .val (.int .u64 0)]) := by kernel_rfl
@[simp] theorem ts15 : tsize Try.prog 15 = some 1 := by kernel_rfl
@[simp] theorem tb15 : tbytes Try.prog 15 = some 8 := by kernel_rfl
@[simp] theorem ta15 : tagg Try.prog 15 = some false := by kernel_rfl
@[simp] theorem tz15 : tzero Try.prog 15 = some [.val (.pointer none)] := by kernel_rfl
@[simp] theorem tv15 : tzeroV Try.prog 15 = some (.val (.pointer none)) := by kernel_rfl
@[simp] theorem ts16 : tsize Try.prog 16 = some 1 := by kernel_rfl
@[simp] theorem tb16 : tbytes Try.prog 16 = some 8 := by kernel_rfl
@[simp] theorem ta16 : tagg Try.prog 16 = some false := by kernel_rfl
@[simp] theorem tz16 : tzero Try.prog 16 = some [.val (.pointer none)] := by kernel_rfl
@[simp] theorem tv16 : tzeroV Try.prog 16 = some (.val (.pointer none)) := by kernel_rfl
@[simp] theorem ts17 : tsize Try.prog 17 = some 1 := by kernel_rfl
@[simp] theorem tb17 : tbytes Try.prog 17 = some 8 := by kernel_rfl
@[simp] theorem ta17 : tagg Try.prog 17 = some false := by kernel_rfl
@[simp] theorem tz17 : tzero Try.prog 17 = some [.val (.pointer none)] := by kernel_rfl
@[simp] theorem tv17 : tzeroV Try.prog 17 = some (.val (.pointer none)) := by kernel_rfl
@[simp] theorem ts18 : tsize Try.prog 18 = some 1 := by kernel_rfl
@[simp] theorem tb18 : tbytes Try.prog 18 = some 8 := by kernel_rfl
@[simp] theorem ta18 : tagg Try.prog 18 = some true := by kernel_rfl
@[simp] theorem tf18_0 : tfield Try.prog 18 0 = some (0, 17, 1) := by kernel_rfl
theorem tst18 : tstruct Try.prog 18 = some [(0, 17)] := by kernel_rfl
@[simp] theorem tp18 : tplaces Try.prog 18 = some [(0, 1)] := by kernel_rfl
@[simp] theorem tz18 : tzero Try.prog 18 = some [.val (.pointer none)] := by kernel_rfl
@[simp] theorem tv18 : tzeroV Try.prog 18 = some (.agg [.val (.pointer none)]) := by kernel_rfl
@[simp] theorem ts19 : tsize Try.prog 19 = some 1 := by kernel_rfl
@[simp] theorem tb19 : tbytes Try.prog 19 = some 8 := by kernel_rfl
@[simp] theorem ta19 : tagg Try.prog 19 = some true := by kernel_rfl
@[simp] theorem tf19_0 : tfield Try.prog 19 0 = some (0, 17, 1) := by kernel_rfl
theorem tst19 : tstruct Try.prog 19 = some [(0, 17)] := by kernel_rfl
@[simp] theorem tp19 : tplaces Try.prog 19 = some [(0, 1)] := by kernel_rfl
@[simp] theorem tz19 : tzero Try.prog 19 = some [.val (.pointer none)] := by kernel_rfl
@[simp] theorem tv19 : tzeroV Try.prog 19 = some (.agg [.val (.pointer none)]) := by kernel_rfl
@[simp] theorem ts20 : tsize Try.prog 20 = some 1 := by kernel_rfl
@[simp] theorem tb20 : tbytes Try.prog 20 = some 16 := by kernel_rfl
@[simp] theorem ta20 : tagg Try.prog 20 = some false := by kernel_rfl
@[simp] theorem tz20 : tzero Try.prog 20 = some [.val .nilIface] := by kernel_rfl
@[simp] theorem tv20 : tzeroV Try.prog 20 = some (.val .nilIface) := by kernel_rfl
@[simp] theorem ts21 : tsize Try.prog 21 = some 1 := by kernel_rfl
@[simp] theorem tb21 : tbytes Try.prog 21 = some 4 := by kernel_rfl
@[simp] theorem ta21 : tagg Try.prog 21 = some false := by kernel_rfl
@[simp] theorem tui21 : Try.prog.underlying 21 = some (.int .i32) := by kernel_rfl
@[simp] theorem tz21 : tzero Try.prog 21 = some [.val (.int .i32 0)] := by kernel_rfl
@[simp] theorem tv21 : tzeroV Try.prog 21 = some (.val (.int .i32 0)) := by kernel_rfl
@[simp] theorem ts22 : tsize Try.prog 22 = some 1 := by kernel_rfl
@[simp] theorem tb22 : tbytes Try.prog 22 = some 24 := by kernel_rfl
@[simp] theorem ta22 : tagg Try.prog 22 = some false := by kernel_rfl
@[simp] theorem te22 : telem Try.prog 22 = some 47 := by kernel_rfl
@[simp] theorem tes22 : elemSize Try.prog 22 = some 1 := by kernel_rfl
@[simp] theorem tz22 : tzero Try.prog 22 = some [.sl true 0 []] := by kernel_rfl
@[simp] theorem tv22 : tzeroV Try.prog 22 = some (.sl true 0 []) := by kernel_rfl
@[simp] theorem ts23 : tsize Try.prog 23 = some 1 := by kernel_rfl
@[simp] theorem tb23 : tbytes Try.prog 23 = some 24 := by kernel_rfl
@[simp] theorem ta23 : tagg Try.prog 23 = some false := by kernel_rfl
@[simp] theorem te23 : telem Try.prog 23 = some 49 := by kernel_rfl
@[simp] theorem tes23 : elemSize Try.prog 23 = some 4 := by kernel_rfl
@[simp] theorem tz23 : tzero Try.prog 23 = some [.sl true 0 []] := by kernel_rfl
@[simp] theorem tv23 : tzeroV Try.prog 23 = some (.sl true 0 []) := by kernel_rfl
@[simp] theorem ts24 : tsize Try.prog 24 = some 1 := by kernel_rfl
@[simp] theorem tb24 : tbytes Try.prog 24 = some 24 := by kernel_rfl
@[simp] theorem ta24 : tagg Try.prog 24 = some false := by kernel_rfl
@[simp] theorem te24 : telem Try.prog 24 = some 30 := by kernel_rfl
@[simp] theorem tes24 : elemSize Try.prog 24 = some 6 := by kernel_rfl
@[simp] theorem tz24 : tzero Try.prog 24 = some [.sl true 0 []] := by kernel_rfl
@[simp] theorem tv24 : tzeroV Try.prog 24 = some (.sl true 0 []) := by kernel_rfl
@[simp] theorem ts25 : tsize Try.prog 25 = some 9 := by kernel_rfl
@[simp] theorem tb25 : tbytes Try.prog 25 = some 120 := by kernel_rfl
@[simp] theorem ta25 : tagg Try.prog 25 = some true := by kernel_rfl
@[simp] theorem tf25_0 : tfield Try.prog 25 0 = some (0, 3, 1) := by kernel_rfl
@[simp] theorem tf25_1 : tfield Try.prog 25 1 = some (1, 3, 1) := by kernel_rfl
@[simp] theorem tf25_2 : tfield Try.prog 25 2 = some (2, 3, 1) := by kernel_rfl
@[simp] theorem tf25_3 : tfield Try.prog 25 3 = some (3, 22, 1) := by kernel_rfl
@[simp] theorem tf25_4 : tfield Try.prog 25 4 = some (4, 3, 1) := by kernel_rfl
@[simp] theorem tf25_5 : tfield Try.prog 25 5 = some (5, 3, 1) := by kernel_rfl
@[simp] theorem tf25_6 : tfield Try.prog 25 6 = some (6, 3, 1) := by kernel_rfl
@[simp] theorem tf25_7 : tfield Try.prog 25 7 = some (7, 23, 1) := by kernel_rfl
@[simp] theorem tf25_8 : tfield Try.prog 25 8 = some (8, 24, 1) := by kernel_rfl
theorem tst25 : tstruct Try.prog 25 = some [(0, 3), (1, 3), (2, 3), (3, 22), (4, 3), (5, 3), (6, 3), (7, 23), (8, 24)] := by kernel_rfl
@[simp] theorem tp25 : tplaces Try.prog 25 = some [(0, 1), (1, 1), (2, 1), (3, 1), (4, 1), (5, 1), (6, 1), (7, 1), (8, 1)] := by kernel_rfl
@[simp] theorem tz25 : tzero Try.prog 25 = some [.val (.int .i64 0), .val (.int .i64 0), .val (.int .i64 0), .sl true 0 [], .val (.int .i64 0), .val (.int .i64 0), .val (.int .i64 0), .sl true 0 [], .sl true 0 []] := by kernel_rfl
@[simp] theorem tv25 : tzeroV Try.prog 25 = some (.agg [.val (.int .i64 0), .val (.int .i64 0), .val (.int .i64 0), .sl true 0 [], .val (.int .i64 0), .val (.int .i64 0), .val (.int .i64 0), .sl true 0 [], .sl true 0 []]) := by kernel_rfl
@[simp] theorem ts26 : tsize Try.prog 26 = some 9 := by kernel_rfl
@[simp] theorem tb26 : tbytes Try.prog 26 = some 120 := by kernel_rfl
@[simp] theorem ta26 : tagg Try.prog 26 = some true := by kernel_rfl
@[simp] theorem tf26_0 : tfield Try.prog 26 0 = some (0, 3, 1) := by kernel_rfl
@[simp] theorem tf26_1 : tfield Try.prog 26 1 = some (1, 3, 1) := by kernel_rfl
@[simp] theorem tf26_2 : tfield Try.prog 26 2 = some (2, 3, 1) := by kernel_rfl
@[simp] theorem tf26_3 : tfield Try.prog 26 3 = some (3, 22, 1) := by kernel_rfl
@[simp] theorem tf26_4 : tfield Try.prog 26 4 = some (4, 3, 1) := by kernel_rfl
@[simp] theorem tf26_5 : tfield Try.prog 26 5 = some (5, 3, 1) := by kernel_rfl
@[simp] theorem tf26_6 : tfield Try.prog 26 6 = some (6, 3, 1) := by kernel_rfl
@[simp] theorem tf26_7 : tfield Try.prog 26 7 = some (7, 23, 1) := by kernel_rfl
@[simp] theorem tf26_8 : tfield Try.prog 26 8 = some (8, 24, 1) := by kernel_rfl
theorem tst26 : tstruct Try.prog 26 = some [(0, 3), (1, 3), (2, 3), (3, 22), (4, 3), (5, 3), (6, 3), (7, 23), (8, 24)] := by kernel_rfl
@[simp] theorem tp26 : tplaces Try.prog 26 = some [(0, 1), (1, 1), (2, 1), (3, 1), (4, 1), (5, 1), (6, 1), (7, 1), (8, 1)] := by kernel_rfl
@[simp] theorem tz26 : tzero Try.prog 26 = some [.val (.int .i64 0), .val (.int .i64 0), .val (.int .i64 0), .sl true 0 [], .val (.int .i64 0), .val (.int .i64 0), .val (.int .i64 0), .sl true 0 [], .sl true 0 []] := by kernel_rfl
@[simp] theorem tv26 : tzeroV Try.prog 26 = some (.agg [.val (.int .i64 0), .val (.int .i64 0), .val (.int .i64 0), .sl true 0 [], .val (.int .i64 0), .val (.int .i64 0), .val (.int .i64 0), .sl true 0 [], .sl true 0 []]) := by kernel_rfl
@[simp] theorem ts27 : tsize Try.prog 27 = some 1 := by kernel_rfl
@[simp] theorem tb27 : tbytes Try.prog 27 = some 8 := by kernel_rfl
@[simp] theorem ta27 : tagg Try.prog 27 = some false := by kernel_rfl
@[simp] theorem tui27 : Try.prog.underlying 27 = some (.int .i64) := by kernel_rfl
@[simp] theorem tz27 : tzero Try.prog 27 = some [.val (.int .i64 0)] := by kernel_rfl
@[simp] theorem tv27 : tzeroV Try.prog 27 = some (.val (.int .i64 0)) := by kernel_rfl
@[simp] theorem ts28 : tsize Try.prog 28 = some 1 := by kernel_rfl
@[simp] theorem tb28 : tbytes Try.prog 28 = some 24 := by kernel_rfl
@[simp] theorem ta28 : tagg Try.prog 28 = some false := by kernel_rfl
@[simp] theorem te28 : telem Try.prog 28 = some 9 := by kernel_rfl
@[simp] theorem tes28 : elemSize Try.prog 28 = some 1 := by kernel_rfl
@[simp] theorem tz28 : tzero Try.prog 28 = some [.sl true 0 []] := by kernel_rfl
@[simp] theorem tv28 : tzeroV Try.prog 28 = some (.sl true 0 []) := by kernel_rfl
@[simp] theorem ts29 : tsize Try.prog 29 = some 6 := by kernel_rfl
@[simp] theorem tb29 : tbytes Try.prog 29 = some 72 := by kernel_rfl
@[simp] theorem ta29 : tagg Try.prog 29 = some true := by kernel_rfl
@[simp] theorem tf29_0 : tfield Try.prog 29 0 = some (0, 27, 1) := by kernel_rfl
@[simp] theorem tf29_1 : tfield Try.prog 29 1 = some (1, 3, 1) := by kernel_rfl
@[simp] theorem tf29_2 : tfield Try.prog 29 2 = some (2, 3, 1) := by kernel_rfl
@[simp] theorem tf29_3 : tfield Try.prog 29 3 = some (3, 3, 1) := by kernel_rfl
@[simp] theorem tf29_4 : tfield Try.prog 29 4 = some (4, 9, 1) := by kernel_rfl
@[simp] theorem tf29_5 : tfield Try.prog 29 5 = some (5, 28, 1) := by kernel_rfl
theorem tst29 : tstruct Try.prog 29 = some [(0, 27), (1, 3), (2, 3), (3, 3), (4, 9), (5, 28)] := by kernel_rfl
@[simp] theorem tp29 : tplaces Try.prog 29 = some [(0, 1), (1, 1), (2, 1), (3, 1), (4, 1), (5, 1)] := by kernel_rfl
@[simp] theorem tz29 : tzero Try.prog 29 = some [.val (.int .i64 0), .val (.int .i64 0), .val (.int .i64 0), .val (.int .i64 0), .val (.string .empty), .sl true 0 []] := by kernel_rfl
@[simp] theorem tv29 : tzeroV Try.prog 29 = some (.agg [.val (.int .i64 0), .val (.int .i64 0), .val (.int .i64 0), .val (.int .i64 0), .val (.string .empty), .sl true 0 []]) := by kernel_rfl
@[simp] theorem ts30 : tsize Try.prog 30 = some 6 := by kernel_rfl
@[simp] theorem tb30 : tbytes Try.prog 30 = some 72 := by kernel_rfl
@[simp] theorem ta30 : tagg Try.prog 30 = some true := by kernel_rfl
@[simp] theorem tf30_0 : tfield Try.prog 30 0 = some (0, 27, 1) := by kernel_rfl
@[simp] theorem tf30_1 : tfield Try.prog 30 1 = some (1, 3, 1) := by kernel_rfl
@[simp] theorem tf30_2 : tfield Try.prog 30 2 = some (2, 3, 1) := by kernel_rfl
@[simp] theorem tf30_3 : tfield Try.prog 30 3 = some (3, 3, 1) := by kernel_rfl
@[simp] theorem tf30_4 : tfield Try.prog 30 4 = some (4, 9, 1) := by kernel_rfl
@[simp] theorem tf30_5 : tfield Try.prog 30 5 = some (5, 28, 1) := by kernel_rfl
theorem tst30 : tstruct Try.prog 30 = some [(0, 27), (1, 3), (2, 3), (3, 3), (4, 9), (5, 28)] := by kernel_rfl
@[simp] theorem tp30 : tplaces Try.prog 30 = some [(0, 1), (1, 1), (2, 1), (3, 1), (4, 1), (5, 1)] := by kernel_rfl
@[simp] theorem tz30 : tzero Try.prog 30 = some [.val (.int .i64 0), .val (.int .i64 0), .val (.int .i64 0), .val (.int .i64 0), .val (.string .empty), .sl true 0 []] := by kernel_rfl
@[simp] theorem tv30 : tzeroV Try.prog 30 = some (.agg [.val (.int .i64 0), .val (.int .i64 0), .val (.int .i64 0), .val (.int .i64 0), .val (.string .empty), .sl true 0 []]) := by kernel_rfl
@[simp] theorem ts31 : tsize Try.prog 31 = some 11 := by kernel_rfl
@[simp] theorem tb31 : tbytes Try.prog 31 = some 112 := by kernel_rfl
@[simp] theorem ta31 : tagg Try.prog 31 = some true := by kernel_rfl
@[simp] theorem tf31_0 : tfield Try.prog 31 0 = some (0, 3, 1) := by kernel_rfl
@[simp] theorem tf31_1 : tfield Try.prog 31 1 = some (1, 3, 1) := by kernel_rfl
@[simp] theorem tf31_2 : tfield Try.prog 31 2 = some (2, 3, 1) := by kernel_rfl
@[simp] theorem tf31_3 : tfield Try.prog 31 3 = some (3, 3, 1) := by kernel_rfl
@[simp] theorem tf31_4 : tfield Try.prog 31 4 = some (4, 3, 1) := by kernel_rfl
@[simp] theorem tf31_5 : tfield Try.prog 31 5 = some (5, 30, 6) := by kernel_rfl
theorem tst31 : tstruct Try.prog 31 = some [(0, 3), (1, 3), (2, 3), (3, 3), (4, 3), (5, 30)] := by kernel_rfl
@[simp] theorem tp31 : tplaces Try.prog 31 = some [(0, 1), (1, 1), (2, 1), (3, 1), (4, 1), (5, 6)] := by kernel_rfl
@[simp] theorem tz31 : tzero Try.prog 31 = some [.val (.int .i64 0), .val (.int .i64 0), .val (.int .i64 0), .val (.int .i64 0), .val (.int .i64 0), .val (.int .i64 0), .val (.int .i64 0), .val (.int .i64 0), .val (.int .i64 0), .val (.string .empty), .sl true 0 []] := by kernel_rfl
@[simp] theorem tv31 : tzeroV Try.prog 31 = some (.agg [.val (.int .i64 0), .val (.int .i64 0), .val (.int .i64 0), .val (.int .i64 0), .val (.int .i64 0), .val (.int .i64 0), .val (.int .i64 0), .val (.int .i64 0), .val (.int .i64 0), .val (.string .empty), .sl true 0 []]) := by kernel_rfl
@[simp] theorem ts32 : tsize Try.prog 32 = some 11 := by kernel_rfl
@[simp] theorem tb32 : tbytes Try.prog 32 = some 112 := by kernel_rfl
@[simp] theorem ta32 : tagg Try.prog 32 = some true := by kernel_rfl
@[simp] theorem tf32_0 : tfield Try.prog 32 0 = some (0, 3, 1) := by kernel_rfl
@[simp] theorem tf32_1 : tfield Try.prog 32 1 = some (1, 3, 1) := by kernel_rfl
@[simp] theorem tf32_2 : tfield Try.prog 32 2 = some (2, 3, 1) := by kernel_rfl
@[simp] theorem tf32_3 : tfield Try.prog 32 3 = some (3, 3, 1) := by kernel_rfl
@[simp] theorem tf32_4 : tfield Try.prog 32 4 = some (4, 3, 1) := by kernel_rfl
@[simp] theorem tf32_5 : tfield Try.prog 32 5 = some (5, 30, 6) := by kernel_rfl
theorem tst32 : tstruct Try.prog 32 = some [(0, 3), (1, 3), (2, 3), (3, 3), (4, 3), (5, 30)] := by kernel_rfl
@[simp] theorem tp32 : tplaces Try.prog 32 = some [(0, 1), (1, 1), (2, 1), (3, 1), (4, 1), (5, 6)] := by kernel_rfl
@[simp] theorem tz32 : tzero Try.prog 32 = some [.val (.int .i64 0), .val (.int .i64 0), .val (.int .i64 0), .val (.int .i64 0), .val (.int .i64 0), .val (.int .i64 0), .val (.int .i64 0), .val (.int .i64 0), .val (.int .i64 0), .val (.string .empty), .sl true 0 []] := by kernel_rfl
@[simp] theorem tv32 : tzeroV Try.prog 32 = some (.agg [.val (.int .i64 0), .val (.int .i64 0), .val (.int .i64 0), .val (.int .i64 0), .val (.int .i64 0), .val (.int .i64 0), .val (.int .i64 0), .val (.int .i64 0), .val (.int .i64 0), .val (.string .empty), .sl true 0 []]) := by kernel_rfl
@[simp] theorem ts33 : tsize Try.prog 33 = some 1 := by kernel_rfl
@[simp] theorem tb33 : tbytes Try.prog 33 = some 8 := by kernel_rfl
@[simp] theorem ta33 : tagg Try.prog 33 = some false := by kernel_rfl
@[simp] theorem tz33 : tzero Try.prog 33 = some [.val .nilFunc] := by kernel_rfl
@[simp] theorem tv33 : tzeroV Try.prog 33 = some (.val .nilFunc) := by kernel_rfl
@[simp] theorem ts34 : tsize Try.prog 34 = some 1 := by kernel_rfl
@[simp] theorem tb34 : tbytes Try.prog 34 = some 8 := by kernel_rfl
@[simp] theorem ta34 : tagg Try.prog 34 = some false := by kernel_rfl
@[simp] theorem tz34 : tzero Try.prog 34 = some [.val .nilFunc] := by kernel_rfl
@[simp] theorem tv34 : tzeroV Try.prog 34 = some (.val .nilFunc) := by kernel_rfl
@[simp] theorem ts35 : tsize Try.prog 35 = some 1 := by kernel_rfl
@[simp] theorem tb35 : tbytes Try.prog 35 = some 8 := by kernel_rfl
@[simp] theorem ta35 : tagg Try.prog 35 = some false := by kernel_rfl
@[simp] theorem tz35 : tzero Try.prog 35 = some [.val .nilFunc] := by kernel_rfl
@[simp] theorem tv35 : tzeroV Try.prog 35 = some (.val .nilFunc) := by kernel_rfl
@[simp] theorem ts36 : tsize Try.prog 36 = some 1 := by kernel_rfl
@[simp] theorem tb36 : tbytes Try.prog 36 = some 8 := by kernel_rfl
@[simp] theorem ta36 : tagg Try.prog 36 = some false := by kernel_rfl
@[simp] theorem tz36 : tzero Try.prog 36 = some [.val .nilFunc] := by kernel_rfl
@[simp] theorem tv36 : tzeroV Try.prog 36 = some (.val .nilFunc) := by kernel_rfl
@[simp] theorem ts37 : tsize Try.prog 37 = some 1 := by kernel_rfl
@[simp] theorem tb37 : tbytes Try.prog 37 = some 8 := by kernel_rfl
@[simp] theorem ta37 : tagg Try.prog 37 = some false := by kernel_rfl
@[simp] theorem tz37 : tzero Try.prog 37 = some [.val .nilFunc] := by kernel_rfl
@[simp] theorem tv37 : tzeroV Try.prog 37 = some (.val .nilFunc) := by kernel_rfl
@[simp] theorem ts38 : tsize Try.prog 38 = some 1 := by kernel_rfl
@[simp] theorem tb38 : tbytes Try.prog 38 = some 8 := by kernel_rfl
@[simp] theorem ta38 : tagg Try.prog 38 = some false := by kernel_rfl
@[simp] theorem tz38 : tzero Try.prog 38 = some [.val .nilFunc] := by kernel_rfl
@[simp] theorem tv38 : tzeroV Try.prog 38 = some (.val .nilFunc) := by kernel_rfl
@[simp] theorem ts39 : tsize Try.prog 39 = some 8 := by kernel_rfl
@[simp] theorem tb39 : tbytes Try.prog 39 = some 88 := by kernel_rfl
@[simp] theorem ta39 : tagg Try.prog 39 = some true := by kernel_rfl
@[simp] theorem tf39_0 : tfield Try.prog 39 0 = some (0, 3, 1) := by kernel_rfl
@[simp] theorem tf39_1 : tfield Try.prog 39 1 = some (1, 3, 1) := by kernel_rfl
@[simp] theorem tf39_2 : tfield Try.prog 39 2 = some (2, 3, 1) := by kernel_rfl
@[simp] theorem tf39_3 : tfield Try.prog 39 3 = some (3, 3, 1) := by kernel_rfl
@[simp] theorem tf39_4 : tfield Try.prog 39 4 = some (4, 3, 1) := by kernel_rfl
@[simp] theorem tf39_5 : tfield Try.prog 39 5 = some (5, 9, 1) := by kernel_rfl
@[simp] theorem tf39_6 : tfield Try.prog 39 6 = some (6, 9, 1) := by kernel_rfl
@[simp] theorem tf39_7 : tfield Try.prog 39 7 = some (7, 9, 1) := by kernel_rfl
theorem tst39 : tstruct Try.prog 39 = some [(0, 3), (1, 3), (2, 3), (3, 3), (4, 3), (5, 9), (6, 9), (7, 9)] := by kernel_rfl
@[simp] theorem tp39 : tplaces Try.prog 39 = some [(0, 1), (1, 1), (2, 1), (3, 1), (4, 1), (5, 1), (6, 1), (7, 1)] := by kernel_rfl
@[simp] theorem tz39 : tzero Try.prog 39 = some [.val (.int .i64 0), .val (.int .i64 0), .val (.int .i64 0), .val (.int .i64 0), .val (.int .i64 0), .val (.string .empty), .val (.string .empty), .val (.string .empty)] := by kernel_rfl
@[simp] theorem tv39 : tzeroV Try.prog 39 = some (.agg [.val (.int .i64 0), .val (.int .i64 0), .val (.int .i64 0), .val (.int .i64 0), .val (.int .i64 0), .val (.string .empty), .val (.string .empty), .val (.string .empty)]) := by kernel_rfl
@[simp] theorem ts40 : tsize Try.prog 40 = some 8 := by kernel_rfl
@[simp] theorem tb40 : tbytes Try.prog 40 = some 88 := by kernel_rfl
@[simp] theorem ta40 : tagg Try.prog 40 = some true := by kernel_rfl
@[simp] theorem tf40_0 : tfield Try.prog 40 0 = some (0, 3, 1) := by kernel_rfl
@[simp] theorem tf40_1 : tfield Try.prog 40 1 = some (1, 3, 1) := by kernel_rfl
@[simp] theorem tf40_2 : tfield Try.prog 40 2 = some (2, 3, 1) := by kernel_rfl
@[simp] theorem tf40_3 : tfield Try.prog 40 3 = some (3, 3, 1) := by kernel_rfl
@[simp] theorem tf40_4 : tfield Try.prog 40 4 = some (4, 3, 1) := by kernel_rfl
@[simp] theorem tf40_5 : tfield Try.prog 40 5 = some (5, 9, 1) := by kernel_rfl
@[simp] theorem tf40_6 : tfield Try.prog 40 6 = some (6, 9, 1) := by kernel_rfl
@[simp] theorem tf40_7 : tfield Try.prog 40 7 = some (7, 9, 1) := by kernel_rfl
theorem tst40 : tstruct Try.prog 40 = some [(0, 3), (1, 3), (2, 3), (3, 3), (4, 3), (5, 9), (6, 9), (7, 9)] := by kernel_rfl
@[simp] theorem tfl40 : tflat Try.prog 40 = some [.int .i64, .int .i64, .int .i64, .int .i64, .int .i64, .string, .string, .string] := by kernel_rfl
@[simp] theorem tp40 : tplaces Try.prog 40 = some [(0, 1), (1, 1), (2, 1), (3, 1), (4, 1), (5, 1), (6, 1), (7, 1)] := by kernel_rfl
@[simp] theorem tz40 : tzero Try.prog 40 = some [.val (.int .i64 0), .val (.int .i64 0), .val (.int .i64 0), .val (.int .i64 0), .val (.int .i64 0), .val (.string .empty), .val (.string .empty), .val (.string .empty)] := by kernel_rfl
@[simp] theorem tv40 : tzeroV Try.prog 40 = some (.agg [.val (.int .i64 0), .val (.int .i64 0), .val (.int .i64 0), .val (.int .i64 0), .val (.int .i64 0), .val (.string .empty), .val (.string .empty), .val (.string .empty)]) := by kernel_rfl
@[simp] theorem ts41 : tsize Try.prog 41 = some 14 := by kernel_rfl
@[simp] theorem tb41 : tbytes Try.prog 41 = some 136 := by kernel_rfl
@[simp] theorem ta41 : tagg Try.prog 41 = some true := by kernel_rfl
@[simp] theorem tf41_0 : tfield Try.prog 41 0 = some (0, 3, 1) := by kernel_rfl
@[simp] theorem tf41_1 : tfield Try.prog 41 1 = some (1, 3, 1) := by kernel_rfl
@[simp] theorem tf41_2 : tfield Try.prog 41 2 = some (2, 3, 1) := by kernel_rfl
@[simp] theorem tf41_3 : tfield Try.prog 41 3 = some (3, 3, 1) := by kernel_rfl
@[simp] theorem tf41_4 : tfield Try.prog 41 4 = some (4, 3, 1) := by kernel_rfl
@[simp] theorem tf41_5 : tfield Try.prog 41 5 = some (5, 3, 1) := by kernel_rfl
@[simp] theorem tf41_6 : tfield Try.prog 41 6 = some (6, 40, 8) := by kernel_rfl
theorem tst41 : tstruct Try.prog 41 = some [(0, 3), (1, 3), (2, 3), (3, 3), (4, 3), (5, 3), (6, 40)] := by kernel_rfl
@[simp] theorem tp41 : tplaces Try.prog 41 = some [(0, 1), (1, 1), (2, 1), (3, 1), (4, 1), (5, 1), (6, 8)] := by kernel_rfl
@[simp] theorem tz41 : tzero Try.prog 41 = some [.val (.int .i64 0), .val (.int .i64 0), .val (.int .i64 0), .val (.int .i64 0), .val (.int .i64 0), .val (.int .i64 0), .val (.int .i64 0), .val (.int .i64 0), .val (.int .i64 0), .val (.int .i64 0), .val (.int .i64 0), .val (.string .empty), .val (.string .empty), .val (.string .empty)] := by kernel_rfl
@[simp] theorem tv41 : tzeroV Try.prog 41 = some (.agg [.val (.int .i64 0), .val (.int .i64 0), .val (.int .i64 0), .val (.int .i64 0), .val (.int .i64 0), .val (.int .i64 0), .val (.int .i64 0), .val (.int .i64 0), .val (.int .i64 0), .val (.int .i64 0), .val (.int .i64 0), .val (.string .empty), .val (.string .empty), .val (.string .empty)]) := by kernel_rfl
@[simp] theorem ts42 : tsize Try.prog 42 = some 14 := by kernel_rfl
@[simp] theorem tb42 : tbytes Try.prog 42 = some 136 := by kernel_rfl
@[simp] theorem ta42 : tagg Try.prog 42 = some true := by kernel_rfl
@[simp] theorem tf42_0 : tfield Try.prog 42 0 = some (0, 3, 1) := by kernel_rfl
@[simp] theorem tf42_1 : tfield Try.prog 42 1 = some (1, 3, 1) := by kernel_rfl
@[simp] theorem tf42_2 : tfield Try.prog 42 2 = some (2, 3, 1) := by kernel_rfl
@[simp] theorem tf42_3 : tfield Try.prog 42 3 = some (3, 3, 1) := by kernel_rfl
@[simp] theorem tf42_4 : tfield Try.prog 42 4 = some (4, 3, 1) := by kernel_rfl
@[simp] theorem tf42_5 : tfield Try.prog 42 5 = some (5, 3, 1) := by kernel_rfl
@[simp] theorem tf42_6 : tfield Try.prog 42 6 = some (6, 40, 8) := by kernel_rfl
theorem tst42 : tstruct Try.prog 42 = some [(0, 3), (1, 3), (2, 3), (3, 3), (4, 3), (5, 3), (6, 40)] := by kernel_rfl
@[simp] theorem tfl42 : tflat Try.prog 42 = some [.int .i64, .int .i64, .int .i64, .int .i64, .int .i64, .int .i64, .int .i64, .int .i64, .int .i64, .int .i64, .int .i64, .string, .string, .string] := by kernel_rfl
@[simp] theorem tp42 : tplaces Try.prog 42 = some [(0, 1), (1, 1), (2, 1), (3, 1), (4, 1), (5, 1), (6, 8)] := by kernel_rfl
@[simp] theorem tz42 : tzero Try.prog 42 = some [.val (.int .i64 0), .val (.int .i64 0), .val (.int .i64 0), .val (.int .i64 0), .val (.int .i64 0), .val (.int .i64 0), .val (.int .i64 0), .val (.int .i64 0), .val (.int .i64 0), .val (.int .i64 0), .val (.int .i64 0), .val (.string .empty), .val (.string .empty), .val (.string .empty)] := by kernel_rfl
@[simp] theorem tv42 : tzeroV Try.prog 42 = some (.agg [.val (.int .i64 0), .val (.int .i64 0), .val (.int .i64 0), .val (.int .i64 0), .val (.int .i64 0), .val (.int .i64 0), .val (.int .i64 0), .val (.int .i64 0), .val (.int .i64 0), .val (.int .i64 0), .val (.int .i64 0), .val (.string .empty), .val (.string .empty), .val (.string .empty)]) := by kernel_rfl
@[simp] theorem ts43 : tsize Try.prog 43 = some 1 := by kernel_rfl
@[simp] theorem tb43 : tbytes Try.prog 43 = some 0 := by kernel_rfl
@[simp] theorem ta43 : tagg Try.prog 43 = some false := by kernel_rfl
@[simp] theorem ts44 : tsize Try.prog 44 = some 1 := by kernel_rfl
@[simp] theorem tb44 : tbytes Try.prog 44 = some 8 := by kernel_rfl
@[simp] theorem ta44 : tagg Try.prog 44 = some false := by kernel_rfl
@[simp] theorem tz44 : tzero Try.prog 44 = some [.val .nilFunc] := by kernel_rfl
@[simp] theorem tv44 : tzeroV Try.prog 44 = some (.val .nilFunc) := by kernel_rfl
@[simp] theorem ts45 : tsize Try.prog 45 = some 1 := by kernel_rfl
@[simp] theorem tb45 : tbytes Try.prog 45 = some 0 := by kernel_rfl
@[simp] theorem ta45 : tagg Try.prog 45 = some false := by kernel_rfl
@[simp] theorem ts46 : tsize Try.prog 46 = some 1 := by kernel_rfl
@[simp] theorem tb46 : tbytes Try.prog 46 = some 8 := by kernel_rfl
@[simp] theorem ta46 : tagg Try.prog 46 = some false := by kernel_rfl
@[simp] theorem tz46 : tzero Try.prog 46 = some [.val .nilFunc] := by kernel_rfl
@[simp] theorem tv46 : tzeroV Try.prog 46 = some (.val .nilFunc) := by kernel_rfl
@[simp] theorem ts47 : tsize Try.prog 47 = some 1 := by kernel_rfl
@[simp] theorem tb47 : tbytes Try.prog 47 = some 24 := by kernel_rfl
@[simp] theorem ta47 : tagg Try.prog 47 = some false := by kernel_rfl
@[simp] theorem te47 : telem Try.prog 47 = some 40 := by kernel_rfl
@[simp] theorem tes47 : elemSize Try.prog 47 = some 8 := by kernel_rfl
@[simp] theorem tz47 : tzero Try.prog 47 = some [.sl true 0 []] := by kernel_rfl
@[simp] theorem tv47 : tzeroV Try.prog 47 = some (.sl true 0 []) := by kernel_rfl
@[simp] theorem ts48 : tsize Try.prog 48 = some 4 := by kernel_rfl
@[simp] theorem tb48 : tbytes Try.prog 48 = some 48 := by kernel_rfl
@[simp] theorem ta48 : tagg Try.prog 48 = some true := by kernel_rfl
@[simp] theorem tf48_0 : tfield Try.prog 48 0 = some (0, 3, 1) := by kernel_rfl
@[simp] theorem tf48_1 : tfield Try.prog 48 1 = some (1, 4, 1) := by kernel_rfl
@[simp] theorem tf48_2 : tfield Try.prog 48 2 = some (2, 27, 1) := by kernel_rfl
@[simp] theorem tf48_3 : tfield Try.prog 48 3 = some (3, 24, 1) := by kernel_rfl
theorem tst48 : tstruct Try.prog 48 = some [(0, 3), (1, 4), (2, 27), (3, 24)] := by kernel_rfl
@[simp] theorem tp48 : tplaces Try.prog 48 = some [(0, 1), (1, 1), (2, 1), (3, 1)] := by kernel_rfl
@[simp] theorem tz48 : tzero Try.prog 48 = some [.val (.int .i64 0), .val (.bool false), .val (.int .i64 0), .sl true 0 []] := by kernel_rfl
@[simp] theorem tv48 : tzeroV Try.prog 48 = some (.agg [.val (.int .i64 0), .val (.bool false), .val (.int .i64 0), .sl true 0 []]) := by kernel_rfl
@[simp] theorem ts49 : tsize Try.prog 49 = some 4 := by kernel_rfl
@[simp] theorem tb49 : tbytes Try.prog 49 = some 48 := by kernel_rfl
@[simp] theorem ta49 : tagg Try.prog 49 = some true := by kernel_rfl
@[simp] theorem tf49_0 : tfield Try.prog 49 0 = some (0, 3, 1) := by kernel_rfl
@[simp] theorem tf49_1 : tfield Try.prog 49 1 = some (1, 4, 1) := by kernel_rfl
@[simp] theorem tf49_2 : tfield Try.prog 49 2 = some (2, 27, 1) := by kernel_rfl
@[simp] theorem tf49_3 : tfield Try.prog 49 3 = some (3, 24, 1) := by kernel_rfl
theorem tst49 : tstruct Try.prog 49 = some [(0, 3), (1, 4), (2, 27), (3, 24)] := by kernel_rfl
@[simp] theorem tp49 : tplaces Try.prog 49 = some [(0, 1), (1, 1), (2, 1), (3, 1)] := by kernel_rfl
@[simp] theorem tz49 : tzero Try.prog 49 = some [.val (.int .i64 0), .val (.bool false), .val (.int .i64 0), .sl true 0 []] := by kernel_rfl
@[simp] theorem tv49 : tzeroV Try.prog 49 = some (.agg [.val (.int .i64 0), .val (.bool false), .val (.int .i64 0), .sl true 0 []]) := by kernel_rfl
@[simp] theorem ts50 : tsize Try.prog 50 = some 1 := by kernel_rfl
@[simp] theorem tb50 : tbytes Try.prog 50 = some 8 := by kernel_rfl
@[simp] theorem ta50 : tagg Try.prog 50 = some false := by kernel_rfl
@[simp] theorem tz50 : tzero Try.prog 50 = some [.val .nilFunc] := by kernel_rfl
@[simp] theorem tv50 : tzeroV Try.prog 50 = some (.val .nilFunc) := by kernel_rfl
@[simp] theorem ts51 : tsize Try.prog 51 = some 1 := by kernel_rfl
@[simp] theorem tb51 : tbytes Try.prog 51 = some 8 := by kernel_rfl
@[simp] theorem ta51 : tagg Try.prog 51 = some false := by kernel_rfl
@[simp] theorem tz51 : tzero Try.prog 51 = some [.val .nilFunc] := by kernel_rfl
@[simp] theorem tv51 : tzeroV Try.prog 51 = some (.val .nilFunc) := by kernel_rfl
@[simp] theorem ts52 : tsize Try.prog 52 = some 1 := by kernel_rfl
@[simp] theorem tb52 : tbytes Try.prog 52 = some 8 := by kernel_rfl
@[simp] theorem ta52 : tagg Try.prog 52 = some false := by kernel_rfl
@[simp] theorem tz52 : tzero Try.prog 52 = some [.val .nilFunc] := by kernel_rfl
@[simp] theorem tv52 : tzeroV Try.prog 52 = some (.val .nilFunc) := by kernel_rfl
@[simp] theorem ts53 : tsize Try.prog 53 = some 1 := by kernel_rfl
@[simp] theorem tb53 : tbytes Try.prog 53 = some 8 := by kernel_rfl
@[simp] theorem ta53 : tagg Try.prog 53 = some false := by kernel_rfl
@[simp] theorem tz53 : tzero Try.prog 53 = some [.val .nilFunc] := by kernel_rfl
@[simp] theorem tv53 : tzeroV Try.prog 53 = some (.val .nilFunc) := by kernel_rfl
@[simp] theorem ts54 : tsize Try.prog 54 = some 1 := by kernel_rfl
@[simp] theorem tb54 : tbytes Try.prog 54 = some 0 := by kernel_rfl
@[simp] theorem ta54 : tagg Try.prog 54 = some false := by kernel_rfl
@[simp] theorem ts55 : tsize Try.prog 55 = some 1 := by kernel_rfl
@[simp] theorem tb55 : tbytes Try.prog 55 = some 8 := by kernel_rfl
@[simp] theorem ta55 : tagg Try.prog 55 = some false := by kernel_rfl
@[simp] theorem tz55 : tzero Try.prog 55 = some [.val .nilFunc] := by kernel_rfl
@[simp] theorem tv55 : tzeroV Try.prog 55 = some (.val .nilFunc) := by kernel_rfl
@[simp] theorem ts56 : tsize Try.prog 56 = some 1 := by kernel_rfl
@[simp] theorem tb56 : tbytes Try.prog 56 = some 8 := by kernel_rfl
@[simp] theorem ta56 : tagg Try.prog 56 = some false := by kernel_rfl
@[simp] theorem tz56 : tzero Try.prog 56 = some [.val .nilFunc] := by kernel_rfl
@[simp] theorem tv56 : tzeroV Try.prog 56 = some (.val .nilFunc) := by kernel_rfl
@[simp] theorem ts57 : tsize Try.prog 57 = some 1 := by kernel_rfl
@[simp] theorem tb57 : tbytes Try.prog 57 = some 8 := by kernel_rfl
@[simp] theorem ta57 : tagg Try.prog 57 = some false := by kernel_rfl
@[simp] theorem tz57 : tzero Try.prog 57 = some [.val .nilFunc] := by kernel_rfl
@[simp] theorem tv57 : tzeroV Try.prog 57 = some (.val .nilFunc) := by kernel_rfl
@[simp] theorem ts58 : tsize Try.prog 58 = some 1 := by kernel_rfl
@[simp] theorem tb58 : tbytes Try.prog 58 = some 24 := by kernel_rfl
@[simp] theorem ta58 : tagg Try.prog 58 = some false := by kernel_rfl
@[simp] theorem te58 : telem Try.prog 58 = some 3 := by kernel_rfl
@[simp] theorem tes58 : elemSize Try.prog 58 = some 1 := by kernel_rfl
@[simp] theorem tz58 : tzero Try.prog 58 = some [.sl true 0 []] := by kernel_rfl
@[simp] theorem tv58 : tzeroV Try.prog 58 = some (.sl true 0 []) := by kernel_rfl
@[simp] theorem ts59 : tsize Try.prog 59 = some 1 := by kernel_rfl
@[simp] theorem tb59 : tbytes Try.prog 59 = some 8 := by kernel_rfl
@[simp] theorem ta59 : tagg Try.prog 59 = some false := by kernel_rfl
@[simp] theorem tm59 : tmap Try.prog 59 = some (.int .i64, 35) := by kernel_rfl
@[simp] theorem tz59 : tzero Try.prog 59 = some [.val (.map none)] := by kernel_rfl
@[simp] theorem tv59 : tzeroV Try.prog 59 = some (.val (.map none)) := by kernel_rfl
@[simp] theorem ts60 : tsize Try.prog 60 = some 1 := by kernel_rfl
@[simp] theorem tb60 : tbytes Try.prog 60 = some 8 := by kernel_rfl
@[simp] theorem ta60 : tagg Try.prog 60 = some false := by kernel_rfl
@[simp] theorem tz60 : tzero Try.prog 60 = some [.val .nilFunc] := by kernel_rfl
@[simp] theorem tv60 : tzeroV Try.prog 60 = some (.val .nilFunc) := by kernel_rfl
@[simp] theorem ts61 : tsize Try.prog 61 = some 1 := by kernel_rfl
@[simp] theorem tb61 : tbytes Try.prog 61 = some 8 := by kernel_rfl
@[simp] theorem ta61 : tagg Try.prog 61 = some false := by kernel_rfl
@[simp] theorem tz61 : tzero Try.prog 61 = some [.val .nilFunc] := by kernel_rfl
@[simp] theorem tv61 : tzeroV Try.prog 61 = some (.val .nilFunc) := by kernel_rfl
@[simp] theorem ts62 : tsize Try.prog 62 = some 1 := by kernel_rfl
@[simp] theorem tb62 : tbytes Try.prog 62 = some 8 := by kernel_rfl
@[simp] theorem ta62 : tagg Try.prog 62 = some false := by kernel_rfl
@[simp] theorem tz62 : tzero Try.prog 62 = some [.val .nilFunc] := by kernel_rfl
@[simp] theorem tv62 : tzeroV Try.prog 62 = some (.val .nilFunc) := by kernel_rfl
@[simp] theorem ts63 : tsize Try.prog 63 = some 1 := by kernel_rfl
@[simp] theorem tb63 : tbytes Try.prog 63 = some 8 := by kernel_rfl
@[simp] theorem ta63 : tagg Try.prog 63 = some false := by kernel_rfl
@[simp] theorem tz63 : tzero Try.prog 63 = some [.val .nilFunc] := by kernel_rfl
@[simp] theorem tv63 : tzeroV Try.prog 63 = some (.val .nilFunc) := by kernel_rfl
@[simp] theorem ts64 : tsize Try.prog 64 = some 1 := by kernel_rfl
@[simp] theorem tb64 : tbytes Try.prog 64 = some 8 := by kernel_rfl
@[simp] theorem ta64 : tagg Try.prog 64 = some false := by kernel_rfl
@[simp] theorem tz64 : tzero Try.prog 64 = some [.val .nilFunc] := by kernel_rfl
@[simp] theorem tv64 : tzeroV Try.prog 64 = some (.val .nilFunc) := by kernel_rfl
@[simp] theorem ts65 : tsize Try.prog 65 = some 1 := by kernel_rfl
@[simp] theorem tb65 : tbytes Try.prog 65 = some 8 := by kernel_rfl
@[simp] theorem ta65 : tagg Try.prog 65 = some false := by kernel_rfl
@[simp] theorem tz65 : tzero Try.prog 65 = some [.val .nilFunc] := by kernel_rfl
@[simp] theorem tv65 : tzeroV Try.prog 65 = some (.val .nilFunc) := by kernel_rfl
@[simp] theorem ts66 : tsize Try.prog 66 = some 1 := by kernel_rfl
@[simp] theorem tb66 : tbytes Try.prog 66 = some 8 := by kernel_rfl
@[simp] theorem ta66 : tagg Try.prog 66 = some false := by kernel_rfl
@[simp] theorem tz66 : tzero Try.prog 66 = some [.val .nilFunc] := by kernel_rfl
@[simp] theorem tv66 : tzeroV Try.prog 66 = some (.val .nilFunc) := by kernel_rfl
@[simp] theorem ts67 : tsize Try.prog 67 = some 1 := by kernel_rfl
@[simp] theorem tb67 : tbytes Try.prog 67 = some 8 := by kernel_rfl
@[simp] theorem ta67 : tagg Try.prog 67 = some false := by kernel_rfl
@[simp] theorem tz67 : tzero Try.prog 67 = some [.val .nilFunc] := by kernel_rfl
@[simp] theorem tv67 : tzeroV Try.prog 67 = some (.val .nilFunc) := by kernel_rfl
@[simp] theorem ts68 : tsize Try.prog 68 = some 1 := by kernel_rfl
@[simp] theorem tb68 : tbytes Try.prog 68 = some 8 := by kernel_rfl
@[simp] theorem ta68 : tagg Try.prog 68 = some false := by kernel_rfl
@[simp] theorem tz68 : tzero Try.prog 68 = some [.val .nilFunc] := by kernel_rfl
@[simp] theorem tv68 : tzeroV Try.prog 68 = some (.val .nilFunc) := by kernel_rfl
@[simp] theorem ts69 : tsize Try.prog 69 = some 1 := by kernel_rfl
@[simp] theorem tb69 : tbytes Try.prog 69 = some 8 := by kernel_rfl
@[simp] theorem ta69 : tagg Try.prog 69 = some false := by kernel_rfl
@[simp] theorem tz69 : tzero Try.prog 69 = some [.val .nilFunc] := by kernel_rfl
@[simp] theorem tv69 : tzeroV Try.prog 69 = some (.val .nilFunc) := by kernel_rfl
@[simp] theorem ts70 : tsize Try.prog 70 = some 1 := by kernel_rfl
@[simp] theorem tb70 : tbytes Try.prog 70 = some 8 := by kernel_rfl
@[simp] theorem ta70 : tagg Try.prog 70 = some false := by kernel_rfl
@[simp] theorem tz70 : tzero Try.prog 70 = some [.val .nilFunc] := by kernel_rfl
@[simp] theorem tv70 : tzeroV Try.prog 70 = some (.val .nilFunc) := by kernel_rfl
@[simp] theorem ts71 : tsize Try.prog 71 = some 1 := by kernel_rfl
@[simp] theorem tb71 : tbytes Try.prog 71 = some 8 := by kernel_rfl
@[simp] theorem ta71 : tagg Try.prog 71 = some false := by kernel_rfl
@[simp] theorem tz71 : tzero Try.prog 71 = some [.val .nilFunc] := by kernel_rfl
@[simp] theorem tv71 : tzeroV Try.prog 71 = some (.val .nilFunc) := by kernel_rfl
@[simp] theorem ts72 : tsize Try.prog 72 = some 1 := by kernel_rfl
@[simp] theorem tb72 : tbytes Try.prog 72 = some 8 := by kernel_rfl
@[simp] theorem ta72 : tagg Try.prog 72 = some false := by kernel_rfl
@[simp] theorem tz72 : tzero Try.prog 72 = some [.val .nilFunc] := by kernel_rfl
@[simp] theorem tv72 : tzeroV Try.prog 72 = some (.val .nilFunc) := by kernel_rfl
@[simp] theorem ts73 : tsize Try.prog 73 = some 4 := by kernel_rfl
@[simp] theorem tb73 : tbytes Try.prog 73 = some 40 := by kernel_rfl
@[simp] theorem ta73 : tagg Try.prog 73 = some true := by kernel_rfl
@[simp] theorem tf73_0 : tfield Try.prog 73 0 = some (0, 17, 1) := by kernel_rfl
@[simp] theorem tf73_1 : tfield Try.prog 73 1 = some (1, 17, 1) := by kernel_rfl
@[simp] theorem tf73_2 : tfield Try.prog 73 2 = some (2, 17, 1) := by kernel_rfl
@[simp] theorem tf73_3 : tfield Try.prog 73 3 = some (3, 9, 1) := by kernel_rfl
theorem tst73 : tstruct Try.prog 73 = some [(0, 17), (1, 17), (2, 17), (3, 9)] := by kernel_rfl
@[simp] theorem tp73 : tplaces Try.prog 73 = some [(0, 1), (1, 1), (2, 1), (3, 1)] := by kernel_rfl
@[simp] theorem tz73 : tzero Try.prog 73 = some [.val (.pointer none), .val (.pointer none), .val (.pointer none), .val (.string .empty)] := by kernel_rfl
@[simp] theorem tv73 : tzeroV Try.prog 73 = some (.agg [.val (.pointer none), .val (.pointer none), .val (.pointer none), .val (.string .empty)]) := by kernel_rfl
@[simp] theorem ts74 : tsize Try.prog 74 = some 4 := by kernel_rfl
@[simp] theorem tb74 : tbytes Try.prog 74 = some 40 := by kernel_rfl
@[simp] theorem ta74 : tagg Try.prog 74 = some true := by kernel_rfl
@[simp] theorem tf74_0 : tfield Try.prog 74 0 = some (0, 17, 1) := by kernel_rfl
@[simp] theorem tf74_1 : tfield Try.prog 74 1 = some (1, 17, 1) := by kernel_rfl
@[simp] theorem tf74_2 : tfield Try.prog 74 2 = some (2, 17, 1) := by kernel_rfl
@[simp] theorem tf74_3 : tfield Try.prog 74 3 = some (3, 9, 1) := by kernel_rfl
theorem tst74 : tstruct Try.prog 74 = some [(0, 17), (1, 17), (2, 17), (3, 9)] := by kernel_rfl
@[simp] theorem tp74 : tplaces Try.prog 74 = some [(0, 1), (1, 1), (2, 1), (3, 1)] := by kernel_rfl
@[simp] theorem tz74 : tzero Try.prog 74 = some [.val (.pointer none), .val (.pointer none), .val (.pointer none), .val (.string .empty)] := by kernel_rfl
@[simp] theorem tv74 : tzeroV Try.prog 74 = some (.agg [.val (.pointer none), .val (.pointer none), .val (.pointer none), .val (.string .empty)]) := by kernel_rfl
@[simp] theorem ts75 : tsize Try.prog 75 = some 0 := by kernel_rfl
@[simp] theorem tb75 : tbytes Try.prog 75 = some 0 := by kernel_rfl
@[simp] theorem ta75 : tagg Try.prog 75 = some true := by kernel_rfl
@[simp] theorem tz75 : tzero Try.prog 75 = some [] := by kernel_rfl
@[simp] theorem tv75 : tzeroV Try.prog 75 = some (.agg []) := by kernel_rfl
@[simp] theorem ts76 : tsize Try.prog 76 = some 0 := by kernel_rfl
@[simp] theorem tb76 : tbytes Try.prog 76 = some 0 := by kernel_rfl
@[simp] theorem ta76 : tagg Try.prog 76 = some true := by kernel_rfl
@[simp] theorem tf76_0 : tfield Try.prog 76 0 = some (0, 75, 0) := by kernel_rfl
theorem tst76 : tstruct Try.prog 76 = some [(0, 75)] := by kernel_rfl
@[simp] theorem tp76 : tplaces Try.prog 76 = some [(0, 0)] := by kernel_rfl
@[simp] theorem tz76 : tzero Try.prog 76 = some [] := by kernel_rfl
@[simp] theorem tv76 : tzeroV Try.prog 76 = some (.agg []) := by kernel_rfl
@[simp] theorem ts77 : tsize Try.prog 77 = some 0 := by kernel_rfl
@[simp] theorem tb77 : tbytes Try.prog 77 = some 0 := by kernel_rfl
@[simp] theorem ta77 : tagg Try.prog 77 = some true := by kernel_rfl
@[simp] theorem tf77_0 : tfield Try.prog 77 0 = some (0, 75, 0) := by kernel_rfl
theorem tst77 : tstruct Try.prog 77 = some [(0, 75)] := by kernel_rfl
@[simp] theorem tp77 : tplaces Try.prog 77 = some [(0, 0)] := by kernel_rfl
@[simp] theorem tz77 : tzero Try.prog 77 = some [] := by kernel_rfl
@[simp] theorem tv77 : tzeroV Try.prog 77 = some (.agg []) := by kernel_rfl
@[simp] theorem ts78 : tsize Try.prog 78 = some 1 := by kernel_rfl
@[simp] theorem tb78 : tbytes Try.prog 78 = some 8 := by kernel_rfl
@[simp] theorem ta78 : tagg Try.prog 78 = some false := by kernel_rfl
@[simp] theorem tz78 : tzero Try.prog 78 = some [.val .nilFunc] := by kernel_rfl
@[simp] theorem tv78 : tzeroV Try.prog 78 = some (.val .nilFunc) := by kernel_rfl
@[simp] theorem ts79 : tsize Try.prog 79 = some 1 := by kernel_rfl
@[simp] theorem tb79 : tbytes Try.prog 79 = some 4 := by kernel_rfl
@[simp] theorem ta79 : tagg Try.prog 79 = some false := by kernel_rfl
@[simp] theorem tui79 : Try.prog.underlying 79 = some (.int .u32) := by kernel_rfl
@[simp] theorem tz79 : tzero Try.prog 79 = some [.val (.int .u32 0)] := by kernel_rfl
@[simp] theorem tv79 : tzeroV Try.prog 79 = some (.val (.int .u32 0)) := by kernel_rfl
@[simp] theorem ts80 : tsize Try.prog 80 = some 1 := by kernel_rfl
@[simp] theorem tb80 : tbytes Try.prog 80 = some 1 := by kernel_rfl
@[simp] theorem ta80 : tagg Try.prog 80 = some false := by kernel_rfl
@[simp] theorem tui80 : Try.prog.underlying 80 = some (.int .u8) := by kernel_rfl
@[simp] theorem tz80 : tzero Try.prog 80 = some [.val (.int .u8 0)] := by kernel_rfl
@[simp] theorem tv80 : tzeroV Try.prog 80 = some (.val (.int .u8 0)) := by kernel_rfl
@[simp] theorem ts81 : tsize Try.prog 81 = some 1 := by kernel_rfl
@[simp] theorem tb81 : tbytes Try.prog 81 = some 1 := by kernel_rfl
@[simp] theorem ta81 : tagg Try.prog 81 = some false := by kernel_rfl
@[simp] theorem tui81 : Try.prog.underlying 81 = some (.int .u8) := by kernel_rfl
@[simp] theorem tz81 : tzero Try.prog 81 = some [.val (.int .u8 0)] := by kernel_rfl
@[simp] theorem tv81 : tzeroV Try.prog 81 = some (.val (.int .u8 0)) := by kernel_rfl
@[simp] theorem ts82 : tsize Try.prog 82 = some 1 := by kernel_rfl
@[simp] theorem tb82 : tbytes Try.prog 82 = some 8 := by kernel_rfl
@[simp] theorem ta82 : tagg Try.prog 82 = some false := by kernel_rfl
@[simp] theorem tz82 : tzero Try.prog 82 = some [.val .nilFunc] := by kernel_rfl
@[simp] theorem tv82 : tzeroV Try.prog 82 = some (.val .nilFunc) := by kernel_rfl
@[simp] theorem ts83 : tsize Try.prog 83 = some 1 := by kernel_rfl
@[simp] theorem tb83 : tbytes Try.prog 83 = some 8 := by kernel_rfl
@[simp] theorem ta83 : tagg Try.prog 83 = some false := by kernel_rfl
@[simp] theorem tz83 : tzero Try.prog 83 = some [.val (.pointer none)] := by kernel_rfl
@[simp] theorem tv83 : tzeroV Try.prog 83 = some (.val (.pointer none)) := by kernel_rfl
@[simp] theorem ts84 : tsize Try.prog 84 = some 1 := by kernel_rfl
@[simp] theorem tb84 : tbytes Try.prog 84 = some 4 := by kernel_rfl
@[simp] theorem ta84 : tagg Try.prog 84 = some false := by kernel_rfl
@[simp] theorem tui84 : Try.prog.underlying 84 = some (.int .i32) := by kernel_rfl
@[simp] theorem tz84 : tzero Try.prog 84 = some [.val (.int .i32 0)] := by kernel_rfl
@[simp] theorem tv84 : tzeroV Try.prog 84 = some (.val (.int .i32 0)) := by kernel_rfl
@[simp] theorem ts85 : tsize Try.prog 85 = some 1 := by kernel_rfl
@[simp] theorem tb85 : tbytes Try.prog 85 = some 4 := by kernel_rfl
@[simp] theorem ta85 : tagg Try.prog 85 = some false := by kernel_rfl
@[simp] theorem tui85 : Try.prog.underlying 85 = some (.int .i32) := by kernel_rfl
@[simp] theorem tz85 : tzero Try.prog 85 = some [.val (.int .i32 0)] := by kernel_rfl
@[simp] theorem tv85 : tzeroV Try.prog 85 = some (.val (.int .i32 0)) := by kernel_rfl
@[simp] theorem ts86 : tsize Try.prog 86 = some 11 := by kernel_rfl
@[simp] theorem tb86 : tbytes Try.prog 86 = some 48 := by kernel_rfl
@[simp] theorem ta86 : tagg Try.prog 86 = some true := by kernel_rfl
@[simp] theorem tf86_0 : tfield Try.prog 86 0 = some (0, 12, 1) := by kernel_rfl
@[simp] theorem tf86_1 : tfield Try.prog 86 1 = some (1, 12, 1) := by kernel_rfl
@[simp] theorem tf86_2 : tfield Try.prog 86 2 = some (2, 79, 1) := by kernel_rfl
@[simp] theorem tf86_3 : tfield Try.prog 86 3 = some (3, 80, 1) := by kernel_rfl
@[simp] theorem tf86_4 : tfield Try.prog 86 4 = some (4, 5, 1) := by kernel_rfl
@[simp] theorem tf86_5 : tfield Try.prog 86 5 = some (5, 5, 1) := by kernel_rfl
@[simp] theorem tf86_6 : tfield Try.prog 86 6 = some (6, 81, 1) := by kernel_rfl
@[simp] theorem tf86_7 : tfield Try.prog 86 7 = some (7, 82, 1) := by kernel_rfl
@[simp] theorem tf86_8 : tfield Try.prog 86 8 = some (8, 83, 1) := by kernel_rfl
@[simp] theorem tf86_9 : tfield Try.prog 86 9 = some (9, 84, 1) := by kernel_rfl
@[simp] theorem tf86_10 : tfield Try.prog 86 10 = some (10, 85, 1) := by kernel_rfl
theorem tst86 : tstruct Try.prog 86 = some [(0, 12), (1, 12), (2, 79), (3, 80), (4, 5), (5, 5), (6, 81), (7, 82), (8, 83), (9, 84), (10, 85)] := by kernel_rfl
@[simp] theorem tp86 : tplaces Try.prog 86 = some [(0, 1), (1, 1), (2, 1), (3, 1), (4, 1), (5, 1), (6, 1), (7, 1), (8, 1), (9, 1), (10, 1)] := by kernel_rfl
@[simp] theorem tz86 : tzero Try.prog 86 = some [.val (.int .u64 0), .val (.int .u64 0), .val (.int .u32 0), .val (.int .u8 0), .val (.int .u8 0), .val (.int .u8 0), .val (.int .u8 0), .val .nilFunc, .val (.pointer none), .val (.int .i32 0), .val (.int .i32 0)] := by kernel_rfl
@[simp] theorem tv86 : tzeroV Try.prog 86 = some (.agg [.val (.int .u64 0), .val (.int .u64 0), .val (.int .u32 0), .val (.int .u8 0), .val (.int .u8 0), .val (.int .u8 0), .val (.int .u8 0), .val .nilFunc, .val (.pointer none), .val (.int .i32 0), .val (.int .i32 0)]) := by kernel_rfl
@[simp] theorem ts87 : tsize Try.prog 87 = some 11 := by kernel_rfl
@[simp] theorem tb87 : tbytes Try.prog 87 = some 48 := by kernel_rfl
@[simp] theorem ta87 : tagg Try.prog 87 = some true := by kernel_rfl
@[simp] theorem tf87_0 : tfield Try.prog 87 0 = some (0, 12, 1) := by kernel_rfl
@[simp] theorem tf87_1 : tfield Try.prog 87 1 = some (1, 12, 1) := by kernel_rfl
@[simp] theorem tf87_2 : tfield Try.prog 87 2 = some (2, 79, 1) := by kernel_rfl
@[simp] theorem tf87_3 : tfield Try.prog 87 3 = some (3, 80, 1) := by kernel_rfl
@[simp] theorem tf87_4 : tfield Try.prog 87 4 = some (4, 5, 1) := by kernel_rfl
@[simp] theorem tf87_5 : tfield Try.prog 87 5 = some (5, 5, 1) := by kernel_rfl
@[simp] theorem tf87_6 : tfield Try.prog 87 6 = some (6, 81, 1) := by kernel_rfl
@[simp] theorem tf87_7 : tfield Try.prog 87 7 = some (7, 82, 1) := by kernel_rfl
@[simp] theorem tf87_8 : tfield Try.prog 87 8 = some (8, 83, 1) := by kernel_rfl
@[simp] theorem tf87_9 : tfield Try.prog 87 9 = some (9, 84, 1) := by kernel_rfl
@[simp] theorem tf87_10 : tfield Try.prog 87 10 = some (10, 85, 1) := by kernel_rfl
theorem tst87 : tstruct Try.prog 87 = some [(0, 12), (1, 12), (2, 79), (3, 80), (4, 5), (5, 5), (6, 81), (7, 82), (8, 83), (9, 84), (10, 85)] := by kernel_rfl
@[simp] theorem tp87 : tplaces Try.prog 87 = some [(0, 1), (1, 1), (2, 1), (3, 1), (4, 1), (5, 1), (6, 1), (7, 1), (8, 1), (9, 1), (10, 1)] := by kernel_rfl
@[simp] theorem tz87 : tzero Try.prog 87 = some [.val (.int .u64 0), .val (.int .u64 0), .val (.int .u32 0), .val (.int .u8 0), .val (.int .u8 0), .val (.int .u8 0), .val (.int .u8 0), .val .nilFunc, .val (.pointer none), .val (.int .i32 0), .val (.int .i32 0)] := by kernel_rfl
@[simp] theorem tv87 : tzeroV Try.prog 87 = some (.agg [.val (.int .u64 0), .val (.int .u64 0), .val (.int .u32 0), .val (.int .u8 0), .val (.int .u8 0), .val (.int .u8 0), .val (.int .u8 0), .val .nilFunc, .val (.pointer none), .val (.int .i32 0), .val (.int .i32 0)]) := by kernel_rfl
@[simp] theorem ts88 : tsize Try.prog 88 = some 1 := by kernel_rfl
@[simp] theorem tb88 : tbytes Try.prog 88 = some 8 := by kernel_rfl
@[simp] theorem ta88 : tagg Try.prog 88 = some false := by kernel_rfl
@[simp] theorem tz88 : tzero Try.prog 88 = some [.val (.pointer none)] := by kernel_rfl
@[simp] theorem tv88 : tzeroV Try.prog 88 = some (.val (.pointer none)) := by kernel_rfl
end Go.Proofs.Ytpejmbffoklliaa.Tab
