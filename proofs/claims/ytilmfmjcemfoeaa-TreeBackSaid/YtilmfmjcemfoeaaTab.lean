/- The table of types of this seat's translation, as facts that an abstract walk uses. Printed by a program of mine. -/
import Derived.Test.YtilmfmjcemfoeaaProg
import Derived.Test.YtilmfmjcemfoeaaBd
import Derived.KernelRfl
namespace Go.Proofs.Ytilmfmjcemfoeaa.Tab
open Go.Cx
@[simp] theorem ts0 : tsize Try.prog 0 = some 1 := by kernel_rfl
@[simp] theorem tb0 : tbytes Try.prog 0 = some 0 := by kernel_rfl
@[simp] theorem ta0 : tagg Try.prog 0 = some false := by kernel_rfl
@[simp] theorem ts1 : tsize Try.prog 1 = some 1 := by kernel_rfl
@[simp] theorem tb1 : tbytes Try.prog 1 = some 8 := by kernel_rfl
@[simp] theorem ta1 : tagg Try.prog 1 = some false := by kernel_rfl
@[simp] theorem tz1 : tzero Try.prog 1 = some [.val .nilFunc] := by kernel_rfl
@[simp] theorem tv1 : tzeroV Try.prog 1 = some (.val .nilFunc) := by kernel_rfl
@[simp] theorem ts2 : tsize Try.prog 2 = some 1 := by kernel_rfl
@[simp] theorem tb2 : tbytes Try.prog 2 = some 8 := by kernel_rfl
@[simp] theorem ta2 : tagg Try.prog 2 = some false := by kernel_rfl
@[simp] theorem tui2 : Try.prog.underlying 2 = some (.int .i64) := by kernel_rfl
@[simp] theorem tz2 : tzero Try.prog 2 = some [.val (.int .i64 0)] := by kernel_rfl
@[simp] theorem tv2 : tzeroV Try.prog 2 = some (.val (.int .i64 0)) := by kernel_rfl
@[simp] theorem ts3 : tsize Try.prog 3 = some 1 := by kernel_rfl
@[simp] theorem tb3 : tbytes Try.prog 3 = some 8 := by kernel_rfl
@[simp] theorem ta3 : tagg Try.prog 3 = some false := by kernel_rfl
@[simp] theorem tui3 : Try.prog.underlying 3 = some (.int .i64) := by kernel_rfl
@[simp] theorem tz3 : tzero Try.prog 3 = some [.val (.int .i64 0)] := by kernel_rfl
@[simp] theorem tv3 : tzeroV Try.prog 3 = some (.val (.int .i64 0)) := by kernel_rfl
@[simp] theorem ts4 : tsize Try.prog 4 = some 1 := by kernel_rfl
@[simp] theorem tb4 : tbytes Try.prog 4 = some 1 := by kernel_rfl
@[simp] theorem ta4 : tagg Try.prog 4 = some false := by kernel_rfl
@[simp] theorem tub4 : Try.prog.underlying 4 = some .bool := by kernel_rfl
@[simp] theorem tz4 : tzero Try.prog 4 = some [.val (.bool false)] := by kernel_rfl
@[simp] theorem tv4 : tzeroV Try.prog 4 = some (.val (.bool false)) := by kernel_rfl
@[simp] theorem tcl5 : Try.prog.cellsOf 5 = 1 := by kernel_rfl
@[simp] theorem ts5 : tsize Try.prog 5 = some 1 := by kernel_rfl
@[simp] theorem tb5 : tbytes Try.prog 5 = some 1 := by kernel_rfl
@[simp] theorem ta5 : tagg Try.prog 5 = some false := by kernel_rfl
@[simp] theorem tui5 : Try.prog.underlying 5 = some (.int .u8) := by kernel_rfl
@[simp] theorem tz5 : tzero Try.prog 5 = some [.val (.int .u8 0)] := by kernel_rfl
@[simp] theorem tv5 : tzeroV Try.prog 5 = some (.val (.int .u8 0)) := by kernel_rfl
@[simp] theorem tcl6 : Try.prog.cellsOf 6 = 1 := by kernel_rfl
@[simp] theorem ts6 : tsize Try.prog 6 = some 1 := by kernel_rfl
@[simp] theorem tb6 : tbytes Try.prog 6 = some 1 := by kernel_rfl
@[simp] theorem ta6 : tagg Try.prog 6 = some false := by kernel_rfl
@[simp] theorem tui6 : Try.prog.underlying 6 = some (.int .u8) := by kernel_rfl
@[simp] theorem tz6 : tzero Try.prog 6 = some [.val (.int .u8 0)] := by kernel_rfl
@[simp] theorem tv6 : tzeroV Try.prog 6 = some (.val (.int .u8 0)) := by kernel_rfl
@[simp] theorem ts7 : tsize Try.prog 7 = some 4 := by kernel_rfl
@[simp] theorem tb7 : tbytes Try.prog 7 = some 24 := by kernel_rfl
@[simp] theorem ta7 : tagg Try.prog 7 = some true := by kernel_rfl
@[simp] theorem tf7_0 : tfield Try.prog 7 0 = some (0, 2, 1) := by kernel_rfl
@[simp] theorem tf7_1 : tfield Try.prog 7 1 = some (1, 3, 1) := by kernel_rfl
@[simp] theorem tf7_2 : tfield Try.prog 7 2 = some (2, 4, 1) := by kernel_rfl
@[simp] theorem tf7_3 : tfield Try.prog 7 3 = some (3, 6, 1) := by kernel_rfl
theorem tst7 : tstruct Try.prog 7 = some [(0, 2), (1, 3), (2, 4), (3, 6)] := by kernel_rfl
@[simp] theorem tp7 : tplaces Try.prog 7 = some [(0, 1), (1, 1), (2, 1), (3, 1)] := by kernel_rfl
@[simp] theorem tz7 : tzero Try.prog 7 = some [.val (.int .i64 0), .val (.int .i64 0), .val (.bool false), .val (.int .u8 0)] := by kernel_rfl
@[simp] theorem tv7 : tzeroV Try.prog 7 = some (.agg [.val (.int .i64 0), .val (.int .i64 0), .val (.bool false), .val (.int .u8 0)]) := by kernel_rfl
@[simp] theorem ts8 : tsize Try.prog 8 = some 4 := by kernel_rfl
@[simp] theorem tb8 : tbytes Try.prog 8 = some 24 := by kernel_rfl
@[simp] theorem ta8 : tagg Try.prog 8 = some true := by kernel_rfl
@[simp] theorem tf8_0 : tfield Try.prog 8 0 = some (0, 2, 1) := by kernel_rfl
@[simp] theorem tf8_1 : tfield Try.prog 8 1 = some (1, 3, 1) := by kernel_rfl
@[simp] theorem tf8_2 : tfield Try.prog 8 2 = some (2, 4, 1) := by kernel_rfl
@[simp] theorem tf8_3 : tfield Try.prog 8 3 = some (3, 6, 1) := by kernel_rfl
theorem tst8 : tstruct Try.prog 8 = some [(0, 2), (1, 3), (2, 4), (3, 6)] := by kernel_rfl
@[simp] theorem tp8 : tplaces Try.prog 8 = some [(0, 1), (1, 1), (2, 1), (3, 1)] := by kernel_rfl
@[simp] theorem tz8 : tzero Try.prog 8 = some [.val (.int .i64 0), .val (.int .i64 0), .val (.bool false), .val (.int .u8 0)] := by kernel_rfl
@[simp] theorem tv8 : tzeroV Try.prog 8 = some (.agg [.val (.int .i64 0), .val (.int .i64 0), .val (.bool false), .val (.int .u8 0)]) := by kernel_rfl
@[simp] theorem ts9 : tsize Try.prog 9 = some 1 := by kernel_rfl
@[simp] theorem tb9 : tbytes Try.prog 9 = some 16 := by kernel_rfl
@[simp] theorem ta9 : tagg Try.prog 9 = some false := by kernel_rfl
@[simp] theorem tus9 : Try.prog.underlying 9 = some .string := by kernel_rfl
@[simp] theorem tz9 : tzero Try.prog 9 = some [.val (.string .empty)] := by kernel_rfl
@[simp] theorem tv9 : tzeroV Try.prog 9 = some (.val (.string .empty)) := by kernel_rfl
@[simp] theorem ts10 : tsize Try.prog 10 = some 1 := by kernel_rfl
@[simp] theorem tb10 : tbytes Try.prog 10 = some 16 := by kernel_rfl
@[simp] theorem ta10 : tagg Try.prog 10 = some false := by kernel_rfl
@[simp] theorem tus10 : Try.prog.underlying 10 = some .string := by kernel_rfl
@[simp] theorem tz10 : tzero Try.prog 10 = some [.val (.string .empty)] := by kernel_rfl
@[simp] theorem tv10 : tzeroV Try.prog 10 = some (.val (.string .empty)) := by kernel_rfl
@[simp] theorem ts11 : tsize Try.prog 11 = some 1 := by kernel_rfl
@[simp] theorem tb11 : tbytes Try.prog 11 = some 16 := by kernel_rfl
@[simp] theorem ta11 : tagg Try.prog 11 = some false := by kernel_rfl
@[simp] theorem tus11 : Try.prog.underlying 11 = some .string := by kernel_rfl
@[simp] theorem tz11 : tzero Try.prog 11 = some [.val (.string .empty)] := by kernel_rfl
@[simp] theorem tv11 : tzeroV Try.prog 11 = some (.val (.string .empty)) := by kernel_rfl
@[simp] theorem ts12 : tsize Try.prog 12 = some 1 := by kernel_rfl
@[simp] theorem tb12 : tbytes Try.prog 12 = some 8 := by kernel_rfl
@[simp] theorem ta12 : tagg Try.prog 12 = some false := by kernel_rfl
@[simp] theorem tui12 : Try.prog.underlying 12 = some (.int .u64) := by kernel_rfl
@[simp] theorem tz12 : tzero Try.prog 12 = some [.val (.int .u64 0)] := by kernel_rfl
@[simp] theorem tv12 : tzeroV Try.prog 12 = some (.val (.int .u64 0)) := by kernel_rfl
@[simp] theorem ts13 : tsize Try.prog 13 = some 2 := by kernel_rfl
@[simp] theorem tb13 : tbytes Try.prog 13 = some 24 := by kernel_rfl
@[simp] theorem ta13 : tagg Try.prog 13 = some true := by kernel_rfl
@[simp] theorem tf13_0 : tfield Try.prog 13 0 = some (0, 9, 1) := by kernel_rfl
@[simp] theorem tf13_1 : tfield Try.prog 13 1 = some (1, 12, 1) := by kernel_rfl
theorem tst13 : tstruct Try.prog 13 = some [(0, 9), (1, 12)] := by kernel_rfl
@[simp] theorem tp13 : tplaces Try.prog 13 = some [(0, 1), (1, 1)] := by kernel_rfl
@[simp] theorem tz13 : tzero Try.prog 13 = some [.val (.string .empty), .val (.int .u64 0)] := by kernel_rfl
@[simp] theorem tv13 : tzeroV Try.prog 13 = some (.agg [.val (.string .empty), .val (.int .u64 0)]) := by kernel_rfl
@[simp] theorem ts14 : tsize Try.prog 14 = some 2 := by kernel_rfl
@[simp] theorem tb14 : tbytes Try.prog 14 = some 24 := by kernel_rfl
@[simp] theorem ta14 : tagg Try.prog 14 = some true := by kernel_rfl
@[simp] theorem tf14_0 : tfield Try.prog 14 0 = some (0, 9, 1) := by kernel_rfl
@[simp] theorem tf14_1 : tfield Try.prog 14 1 = some (1, 12, 1) := by kernel_rfl
theorem tst14 : tstruct Try.prog 14 = some [(0, 9), (1, 12)] := by kernel_rfl
@[simp] theorem tp14 : tplaces Try.prog 14 = some [(0, 1), (1, 1)] := by kernel_rfl
@[simp] theorem tz14 : tzero Try.prog 14 = some [.val (.string .empty), .val (.int .u64 0)] := by kernel_rfl
@[simp] theorem tv14 : tzeroV Try.prog 14 = some (.agg [.val (.string .empty), .val (.int .u64 0)]) := by kernel_rfl
@[simp] theorem tup15 : Try.prog.underlying 15 = some (.pointer 100) := by kernel_rfl
@[simp] theorem ts15 : tsize Try.prog 15 = some 1 := by kernel_rfl
@[simp] theorem tb15 : tbytes Try.prog 15 = some 8 := by kernel_rfl
@[simp] theorem ta15 : tagg Try.prog 15 = some false := by kernel_rfl
@[simp] theorem tz15 : tzero Try.prog 15 = some [.val (.pointer none)] := by kernel_rfl
@[simp] theorem tv15 : tzeroV Try.prog 15 = some (.val (.pointer none)) := by kernel_rfl
@[simp] theorem tup16 : Try.prog.underlying 16 = some (.pointer 103) := by kernel_rfl
@[simp] theorem ts16 : tsize Try.prog 16 = some 1 := by kernel_rfl
@[simp] theorem tb16 : tbytes Try.prog 16 = some 8 := by kernel_rfl
@[simp] theorem ta16 : tagg Try.prog 16 = some false := by kernel_rfl
@[simp] theorem tz16 : tzero Try.prog 16 = some [.val (.pointer none)] := by kernel_rfl
@[simp] theorem tv16 : tzeroV Try.prog 16 = some (.val (.pointer none)) := by kernel_rfl
@[simp] theorem tup17 : Try.prog.underlying 17 = some (.pointer 111) := by kernel_rfl
@[simp] theorem ts17 : tsize Try.prog 17 = some 1 := by kernel_rfl
@[simp] theorem tb17 : tbytes Try.prog 17 = some 8 := by kernel_rfl
@[simp] theorem ta17 : tagg Try.prog 17 = some false := by kernel_rfl
@[simp] theorem tz17 : tzero Try.prog 17 = some [.val (.pointer none)] := by kernel_rfl
@[simp] theorem tv17 : tzeroV Try.prog 17 = some (.val (.pointer none)) := by kernel_rfl
@[simp] theorem ts18 : tsize Try.prog 18 = some 1 := by kernel_rfl
@[simp] theorem tb18 : tbytes Try.prog 18 = some 8 := by kernel_rfl
@[simp] theorem ta18 : tagg Try.prog 18 = some true := by kernel_rfl
@[simp] theorem tf18_0 : tfield Try.prog 18 0 = some (0, 17, 1) := by kernel_rfl
theorem tst18 : tstruct Try.prog 18 = some [(0, 17)] := by kernel_rfl
@[simp] theorem tp18 : tplaces Try.prog 18 = some [(0, 1)] := by kernel_rfl
@[simp] theorem tz18 : tzero Try.prog 18 = some [.val (.pointer none)] := by kernel_rfl
@[simp] theorem tv18 : tzeroV Try.prog 18 = some (.agg [.val (.pointer none)]) := by kernel_rfl
@[simp] theorem ts19 : tsize Try.prog 19 = some 1 := by kernel_rfl
@[simp] theorem tb19 : tbytes Try.prog 19 = some 8 := by kernel_rfl
@[simp] theorem ta19 : tagg Try.prog 19 = some true := by kernel_rfl
@[simp] theorem tf19_0 : tfield Try.prog 19 0 = some (0, 17, 1) := by kernel_rfl
theorem tst19 : tstruct Try.prog 19 = some [(0, 17)] := by kernel_rfl
@[simp] theorem tp19 : tplaces Try.prog 19 = some [(0, 1)] := by kernel_rfl
@[simp] theorem tz19 : tzero Try.prog 19 = some [.val (.pointer none)] := by kernel_rfl
@[simp] theorem tv19 : tzeroV Try.prog 19 = some (.agg [.val (.pointer none)]) := by kernel_rfl
@[simp] theorem ts20 : tsize Try.prog 20 = some 1 := by kernel_rfl
@[simp] theorem tb20 : tbytes Try.prog 20 = some 16 := by kernel_rfl
@[simp] theorem ta20 : tagg Try.prog 20 = some false := by kernel_rfl
@[simp] theorem tz20 : tzero Try.prog 20 = some [.val .nilIface] := by kernel_rfl
@[simp] theorem tv20 : tzeroV Try.prog 20 = some (.val .nilIface) := by kernel_rfl
@[simp] theorem ts21 : tsize Try.prog 21 = some 1 := by kernel_rfl
@[simp] theorem tb21 : tbytes Try.prog 21 = some 4 := by kernel_rfl
@[simp] theorem ta21 : tagg Try.prog 21 = some false := by kernel_rfl
@[simp] theorem tui21 : Try.prog.underlying 21 = some (.int .i32) := by kernel_rfl
@[simp] theorem tz21 : tzero Try.prog 21 = some [.val (.int .i32 0)] := by kernel_rfl
@[simp] theorem tv21 : tzeroV Try.prog 21 = some (.val (.int .i32 0)) := by kernel_rfl
@[simp] theorem ts22 : tsize Try.prog 22 = some 1 := by kernel_rfl
@[simp] theorem tb22 : tbytes Try.prog 22 = some 24 := by kernel_rfl
@[simp] theorem ta22 : tagg Try.prog 22 = some false := by kernel_rfl
@[simp] theorem te22 : telem Try.prog 22 = some 38 := by kernel_rfl
@[simp] theorem tes22 : elemSize Try.prog 22 = some 5 := by kernel_rfl
@[simp] theorem tz22 : tzero Try.prog 22 = some [.sl true 0 []] := by kernel_rfl
@[simp] theorem tv22 : tzeroV Try.prog 22 = some (.sl true 0 []) := by kernel_rfl
@[simp] theorem ts23 : tsize Try.prog 23 = some 2 := by kernel_rfl
@[simp] theorem tb23 : tbytes Try.prog 23 = some 32 := by kernel_rfl
@[simp] theorem ta23 : tagg Try.prog 23 = some true := by kernel_rfl
@[simp] theorem tf23_0 : tfield Try.prog 23 0 = some (0, 22, 1) := by kernel_rfl
@[simp] theorem tf23_1 : tfield Try.prog 23 1 = some (1, 3, 1) := by kernel_rfl
theorem tst23 : tstruct Try.prog 23 = some [(0, 22), (1, 3)] := by kernel_rfl
@[simp] theorem tp23 : tplaces Try.prog 23 = some [(0, 1), (1, 1)] := by kernel_rfl
@[simp] theorem tz23 : tzero Try.prog 23 = some [.sl true 0 [], .val (.int .i64 0)] := by kernel_rfl
@[simp] theorem tv23 : tzeroV Try.prog 23 = some (.agg [.sl true 0 [], .val (.int .i64 0)]) := by kernel_rfl
@[simp] theorem ts24 : tsize Try.prog 24 = some 2 := by kernel_rfl
@[simp] theorem tb24 : tbytes Try.prog 24 = some 32 := by kernel_rfl
@[simp] theorem ta24 : tagg Try.prog 24 = some true := by kernel_rfl
@[simp] theorem tf24_0 : tfield Try.prog 24 0 = some (0, 22, 1) := by kernel_rfl
@[simp] theorem tf24_1 : tfield Try.prog 24 1 = some (1, 3, 1) := by kernel_rfl
theorem tst24 : tstruct Try.prog 24 = some [(0, 22), (1, 3)] := by kernel_rfl
@[simp] theorem tp24 : tplaces Try.prog 24 = some [(0, 1), (1, 1)] := by kernel_rfl
@[simp] theorem tz24 : tzero Try.prog 24 = some [.sl true 0 [], .val (.int .i64 0)] := by kernel_rfl
@[simp] theorem tv24 : tzeroV Try.prog 24 = some (.agg [.sl true 0 [], .val (.int .i64 0)]) := by kernel_rfl
@[simp] theorem ts25 : tsize Try.prog 25 = some 1 := by kernel_rfl
@[simp] theorem tb25 : tbytes Try.prog 25 = some 8 := by kernel_rfl
@[simp] theorem ta25 : tagg Try.prog 25 = some false := by kernel_rfl
@[simp] theorem tz25 : tzero Try.prog 25 = some [.val .nilFunc] := by kernel_rfl
@[simp] theorem tv25 : tzeroV Try.prog 25 = some (.val .nilFunc) := by kernel_rfl
@[simp] theorem ts26 : tsize Try.prog 26 = some 1 := by kernel_rfl
@[simp] theorem tb26 : tbytes Try.prog 26 = some 8 := by kernel_rfl
@[simp] theorem ta26 : tagg Try.prog 26 = some false := by kernel_rfl
@[simp] theorem tz26 : tzero Try.prog 26 = some [.val .nilFunc] := by kernel_rfl
@[simp] theorem tv26 : tzeroV Try.prog 26 = some (.val .nilFunc) := by kernel_rfl
@[simp] theorem ts27 : tsize Try.prog 27 = some 1 := by kernel_rfl
@[simp] theorem tb27 : tbytes Try.prog 27 = some 8 := by kernel_rfl
@[simp] theorem ta27 : tagg Try.prog 27 = some false := by kernel_rfl
@[simp] theorem tui27 : Try.prog.underlying 27 = some (.int .i64) := by kernel_rfl
@[simp] theorem tz27 : tzero Try.prog 27 = some [.val (.int .i64 0)] := by kernel_rfl
@[simp] theorem tv27 : tzeroV Try.prog 27 = some (.val (.int .i64 0)) := by kernel_rfl
@[simp] theorem ts28 : tsize Try.prog 28 = some 1 := by kernel_rfl
@[simp] theorem tb28 : tbytes Try.prog 28 = some 0 := by kernel_rfl
@[simp] theorem ta28 : tagg Try.prog 28 = some false := by kernel_rfl
@[simp] theorem ts29 : tsize Try.prog 29 = some 1 := by kernel_rfl
@[simp] theorem tb29 : tbytes Try.prog 29 = some 8 := by kernel_rfl
@[simp] theorem ta29 : tagg Try.prog 29 = some false := by kernel_rfl
@[simp] theorem tz29 : tzero Try.prog 29 = some [.val .nilFunc] := by kernel_rfl
@[simp] theorem tv29 : tzeroV Try.prog 29 = some (.val .nilFunc) := by kernel_rfl
@[simp] theorem ts30 : tsize Try.prog 30 = some 1 := by kernel_rfl
@[simp] theorem tb30 : tbytes Try.prog 30 = some 8 := by kernel_rfl
@[simp] theorem ta30 : tagg Try.prog 30 = some false := by kernel_rfl
@[simp] theorem tz30 : tzero Try.prog 30 = some [.val .nilFunc] := by kernel_rfl
@[simp] theorem tv30 : tzeroV Try.prog 30 = some (.val .nilFunc) := by kernel_rfl
@[simp] theorem ts31 : tsize Try.prog 31 = some 1 := by kernel_rfl
@[simp] theorem tb31 : tbytes Try.prog 31 = some 8 := by kernel_rfl
@[simp] theorem ta31 : tagg Try.prog 31 = some false := by kernel_rfl
@[simp] theorem tz31 : tzero Try.prog 31 = some [.val .nilFunc] := by kernel_rfl
@[simp] theorem tv31 : tzeroV Try.prog 31 = some (.val .nilFunc) := by kernel_rfl
@[simp] theorem ts32 : tsize Try.prog 32 = some 1 := by kernel_rfl
@[simp] theorem tb32 : tbytes Try.prog 32 = some 8 := by kernel_rfl
@[simp] theorem ta32 : tagg Try.prog 32 = some false := by kernel_rfl
@[simp] theorem tz32 : tzero Try.prog 32 = some [.val .nilFunc] := by kernel_rfl
@[simp] theorem tv32 : tzeroV Try.prog 32 = some (.val .nilFunc) := by kernel_rfl
@[simp] theorem ts33 : tsize Try.prog 33 = some 1 := by kernel_rfl
@[simp] theorem tb33 : tbytes Try.prog 33 = some 8 := by kernel_rfl
@[simp] theorem ta33 : tagg Try.prog 33 = some false := by kernel_rfl
@[simp] theorem tz33 : tzero Try.prog 33 = some [.val .nilFunc] := by kernel_rfl
@[simp] theorem tv33 : tzeroV Try.prog 33 = some (.val .nilFunc) := by kernel_rfl
@[simp] theorem ts34 : tsize Try.prog 34 = some 1 := by kernel_rfl
@[simp] theorem tb34 : tbytes Try.prog 34 = some 8 := by kernel_rfl
@[simp] theorem ta34 : tagg Try.prog 34 = some false := by kernel_rfl
@[simp] theorem tz34 : tzero Try.prog 34 = some [.val .nilFunc] := by kernel_rfl
@[simp] theorem tv34 : tzeroV Try.prog 34 = some (.val .nilFunc) := by kernel_rfl
@[simp] theorem ts35 : tsize Try.prog 35 = some 1 := by kernel_rfl
@[simp] theorem tb35 : tbytes Try.prog 35 = some 8 := by kernel_rfl
@[simp] theorem ta35 : tagg Try.prog 35 = some false := by kernel_rfl
@[simp] theorem tz35 : tzero Try.prog 35 = some [.val .nilFunc] := by kernel_rfl
@[simp] theorem tv35 : tzeroV Try.prog 35 = some (.val .nilFunc) := by kernel_rfl
@[simp] theorem ts36 : tsize Try.prog 36 = some 1 := by kernel_rfl
@[simp] theorem tb36 : tbytes Try.prog 36 = some 24 := by kernel_rfl
@[simp] theorem ta36 : tagg Try.prog 36 = some false := by kernel_rfl
@[simp] theorem te36 : telem Try.prog 36 = some 74 := by kernel_rfl
@[simp] theorem tes36 : elemSize Try.prog 36 = some 2 := by kernel_rfl
@[simp] theorem tz36 : tzero Try.prog 36 = some [.sl true 0 []] := by kernel_rfl
@[simp] theorem tv36 : tzeroV Try.prog 36 = some (.sl true 0 []) := by kernel_rfl
@[simp] theorem ts37 : tsize Try.prog 37 = some 5 := by kernel_rfl
@[simp] theorem tb37 : tbytes Try.prog 37 = some 64 := by kernel_rfl
@[simp] theorem ta37 : tagg Try.prog 37 = some true := by kernel_rfl
@[simp] theorem tf37_0 : tfield Try.prog 37 0 = some (0, 3, 1) := by kernel_rfl
@[simp] theorem tf37_1 : tfield Try.prog 37 1 = some (1, 3, 1) := by kernel_rfl
@[simp] theorem tf37_2 : tfield Try.prog 37 2 = some (2, 3, 1) := by kernel_rfl
@[simp] theorem tf37_3 : tfield Try.prog 37 3 = some (3, 9, 1) := by kernel_rfl
@[simp] theorem tf37_4 : tfield Try.prog 37 4 = some (4, 36, 1) := by kernel_rfl
theorem tst37 : tstruct Try.prog 37 = some [(0, 3), (1, 3), (2, 3), (3, 9), (4, 36)] := by kernel_rfl
@[simp] theorem tp37 : tplaces Try.prog 37 = some [(0, 1), (1, 1), (2, 1), (3, 1), (4, 1)] := by kernel_rfl
@[simp] theorem tz37 : tzero Try.prog 37 = some [.val (.int .i64 0), .val (.int .i64 0), .val (.int .i64 0), .val (.string .empty), .sl true 0 []] := by kernel_rfl
@[simp] theorem tv37 : tzeroV Try.prog 37 = some (.agg [.val (.int .i64 0), .val (.int .i64 0), .val (.int .i64 0), .val (.string .empty), .sl true 0 []]) := by kernel_rfl
@[simp] theorem ts38 : tsize Try.prog 38 = some 5 := by kernel_rfl
@[simp] theorem tb38 : tbytes Try.prog 38 = some 64 := by kernel_rfl
@[simp] theorem ta38 : tagg Try.prog 38 = some true := by kernel_rfl
@[simp] theorem tf38_0 : tfield Try.prog 38 0 = some (0, 3, 1) := by kernel_rfl
@[simp] theorem tf38_1 : tfield Try.prog 38 1 = some (1, 3, 1) := by kernel_rfl
@[simp] theorem tf38_2 : tfield Try.prog 38 2 = some (2, 3, 1) := by kernel_rfl
@[simp] theorem tf38_3 : tfield Try.prog 38 3 = some (3, 9, 1) := by kernel_rfl
@[simp] theorem tf38_4 : tfield Try.prog 38 4 = some (4, 36, 1) := by kernel_rfl
theorem tst38 : tstruct Try.prog 38 = some [(0, 3), (1, 3), (2, 3), (3, 9), (4, 36)] := by kernel_rfl
@[simp] theorem tp38 : tplaces Try.prog 38 = some [(0, 1), (1, 1), (2, 1), (3, 1), (4, 1)] := by kernel_rfl
@[simp] theorem tz38 : tzero Try.prog 38 = some [.val (.int .i64 0), .val (.int .i64 0), .val (.int .i64 0), .val (.string .empty), .sl true 0 []] := by kernel_rfl
@[simp] theorem tv38 : tzeroV Try.prog 38 = some (.agg [.val (.int .i64 0), .val (.int .i64 0), .val (.int .i64 0), .val (.string .empty), .sl true 0 []]) := by kernel_rfl
@[simp] theorem ts39 : tsize Try.prog 39 = some 1 := by kernel_rfl
@[simp] theorem tb39 : tbytes Try.prog 39 = some 8 := by kernel_rfl
@[simp] theorem ta39 : tagg Try.prog 39 = some false := by kernel_rfl
@[simp] theorem tui39 : Try.prog.underlying 39 = some (.int .u64) := by kernel_rfl
@[simp] theorem tz39 : tzero Try.prog 39 = some [.val (.int .u64 0)] := by kernel_rfl
@[simp] theorem tv39 : tzeroV Try.prog 39 = some (.val (.int .u64 0)) := by kernel_rfl
@[simp] theorem ts40 : tsize Try.prog 40 = some 1 := by kernel_rfl
@[simp] theorem tb40 : tbytes Try.prog 40 = some 0 := by kernel_rfl
@[simp] theorem ta40 : tagg Try.prog 40 = some false := by kernel_rfl
@[simp] theorem ts41 : tsize Try.prog 41 = some 1 := by kernel_rfl
@[simp] theorem tb41 : tbytes Try.prog 41 = some 8 := by kernel_rfl
@[simp] theorem ta41 : tagg Try.prog 41 = some false := by kernel_rfl
@[simp] theorem tz41 : tzero Try.prog 41 = some [.val .nilFunc] := by kernel_rfl
@[simp] theorem tv41 : tzeroV Try.prog 41 = some (.val .nilFunc) := by kernel_rfl
@[simp] theorem ts42 : tsize Try.prog 42 = some 1 := by kernel_rfl
@[simp] theorem tb42 : tbytes Try.prog 42 = some 8 := by kernel_rfl
@[simp] theorem ta42 : tagg Try.prog 42 = some false := by kernel_rfl
@[simp] theorem tz42 : tzero Try.prog 42 = some [.val .nilFunc] := by kernel_rfl
@[simp] theorem tv42 : tzeroV Try.prog 42 = some (.val .nilFunc) := by kernel_rfl
@[simp] theorem ts43 : tsize Try.prog 43 = some 1 := by kernel_rfl
@[simp] theorem tb43 : tbytes Try.prog 43 = some 0 := by kernel_rfl
@[simp] theorem ta43 : tagg Try.prog 43 = some false := by kernel_rfl
@[simp] theorem ts44 : tsize Try.prog 44 = some 1 := by kernel_rfl
@[simp] theorem tb44 : tbytes Try.prog 44 = some 8 := by kernel_rfl
@[simp] theorem ta44 : tagg Try.prog 44 = some false := by kernel_rfl
@[simp] theorem tz44 : tzero Try.prog 44 = some [.val .nilFunc] := by kernel_rfl
@[simp] theorem tv44 : tzeroV Try.prog 44 = some (.val .nilFunc) := by kernel_rfl
@[simp] theorem ts45 : tsize Try.prog 45 = some 1 := by kernel_rfl
@[simp] theorem tb45 : tbytes Try.prog 45 = some 8 := by kernel_rfl
@[simp] theorem ta45 : tagg Try.prog 45 = some false := by kernel_rfl
@[simp] theorem tz45 : tzero Try.prog 45 = some [.val .nilFunc] := by kernel_rfl
@[simp] theorem tv45 : tzeroV Try.prog 45 = some (.val .nilFunc) := by kernel_rfl
@[simp] theorem tup46 : Try.prog.underlying 46 = some (.pointer 49) := by kernel_rfl
@[simp] theorem ts46 : tsize Try.prog 46 = some 1 := by kernel_rfl
@[simp] theorem tb46 : tbytes Try.prog 46 = some 8 := by kernel_rfl
@[simp] theorem ta46 : tagg Try.prog 46 = some false := by kernel_rfl
@[simp] theorem tz46 : tzero Try.prog 46 = some [.val (.pointer none)] := by kernel_rfl
@[simp] theorem tv46 : tzeroV Try.prog 46 = some (.val (.pointer none)) := by kernel_rfl
@[simp] theorem ts47 : tsize Try.prog 47 = some 1 := by kernel_rfl
@[simp] theorem tb47 : tbytes Try.prog 47 = some 24 := by kernel_rfl
@[simp] theorem ta47 : tagg Try.prog 47 = some false := by kernel_rfl
@[simp] theorem te47 : telem Try.prog 47 = some 5 := by kernel_rfl
@[simp] theorem tes47 : elemSize Try.prog 47 = some 1 := by kernel_rfl
@[simp] theorem tz47 : tzero Try.prog 47 = some [.sl true 0 []] := by kernel_rfl
@[simp] theorem tv47 : tzeroV Try.prog 47 = some (.sl true 0 []) := by kernel_rfl
@[simp] theorem ts48 : tsize Try.prog 48 = some 2 := by kernel_rfl
@[simp] theorem tb48 : tbytes Try.prog 48 = some 32 := by kernel_rfl
@[simp] theorem ta48 : tagg Try.prog 48 = some true := by kernel_rfl
@[simp] theorem tf48_0 : tfield Try.prog 48 0 = some (0, 46, 1) := by kernel_rfl
@[simp] theorem tf48_1 : tfield Try.prog 48 1 = some (1, 47, 1) := by kernel_rfl
theorem tst48 : tstruct Try.prog 48 = some [(0, 46), (1, 47)] := by kernel_rfl
@[simp] theorem tp48 : tplaces Try.prog 48 = some [(0, 1), (1, 1)] := by kernel_rfl
@[simp] theorem tz48 : tzero Try.prog 48 = some [.val (.pointer none), .sl true 0 []] := by kernel_rfl
@[simp] theorem tv48 : tzeroV Try.prog 48 = some (.agg [.val (.pointer none), .sl true 0 []]) := by kernel_rfl
@[simp] theorem tcl49 : Try.prog.cellsOf 49 = 2 := by kernel_rfl
@[simp] theorem ts49 : tsize Try.prog 49 = some 2 := by kernel_rfl
@[simp] theorem tb49 : tbytes Try.prog 49 = some 32 := by kernel_rfl
@[simp] theorem ta49 : tagg Try.prog 49 = some true := by kernel_rfl
@[simp] theorem tf49_0 : tfield Try.prog 49 0 = some (0, 46, 1) := by kernel_rfl
@[simp] theorem tf49_1 : tfield Try.prog 49 1 = some (1, 47, 1) := by kernel_rfl
theorem tst49 : tstruct Try.prog 49 = some [(0, 46), (1, 47)] := by kernel_rfl
@[simp] theorem tp49 : tplaces Try.prog 49 = some [(0, 1), (1, 1)] := by kernel_rfl
@[simp] theorem tz49 : tzero Try.prog 49 = some [.val (.pointer none), .sl true 0 []] := by kernel_rfl
@[simp] theorem tv49 : tzeroV Try.prog 49 = some (.agg [.val (.pointer none), .sl true 0 []]) := by kernel_rfl
@[simp] theorem ts50 : tsize Try.prog 50 = some 1 := by kernel_rfl
@[simp] theorem tb50 : tbytes Try.prog 50 = some 16 := by kernel_rfl
@[simp] theorem ta50 : tagg Try.prog 50 = some false := by kernel_rfl
@[simp] theorem tz50 : tzero Try.prog 50 = some [.val .nilIface] := by kernel_rfl
@[simp] theorem tv50 : tzeroV Try.prog 50 = some (.val .nilIface) := by kernel_rfl
@[simp] theorem ts51 : tsize Try.prog 51 = some 1 := by kernel_rfl
@[simp] theorem tb51 : tbytes Try.prog 51 = some 16 := by kernel_rfl
@[simp] theorem ta51 : tagg Try.prog 51 = some false := by kernel_rfl
@[simp] theorem tz51 : tzero Try.prog 51 = some [.val .nilIface] := by kernel_rfl
@[simp] theorem tv51 : tzeroV Try.prog 51 = some (.val .nilIface) := by kernel_rfl
@[simp] theorem ts52 : tsize Try.prog 52 = some 1 := by kernel_rfl
@[simp] theorem tb52 : tbytes Try.prog 52 = some 0 := by kernel_rfl
@[simp] theorem ta52 : tagg Try.prog 52 = some false := by kernel_rfl
@[simp] theorem ts53 : tsize Try.prog 53 = some 1 := by kernel_rfl
@[simp] theorem tb53 : tbytes Try.prog 53 = some 8 := by kernel_rfl
@[simp] theorem ta53 : tagg Try.prog 53 = some false := by kernel_rfl
@[simp] theorem tz53 : tzero Try.prog 53 = some [.val .nilFunc] := by kernel_rfl
@[simp] theorem tv53 : tzeroV Try.prog 53 = some (.val .nilFunc) := by kernel_rfl
@[simp] theorem ts54 : tsize Try.prog 54 = some 1 := by kernel_rfl
@[simp] theorem tb54 : tbytes Try.prog 54 = some 8 := by kernel_rfl
@[simp] theorem ta54 : tagg Try.prog 54 = some false := by kernel_rfl
@[simp] theorem tz54 : tzero Try.prog 54 = some [.val .nilFunc] := by kernel_rfl
@[simp] theorem tv54 : tzeroV Try.prog 54 = some (.val .nilFunc) := by kernel_rfl
@[simp] theorem ts55 : tsize Try.prog 55 = some 1 := by kernel_rfl
@[simp] theorem tb55 : tbytes Try.prog 55 = some 8 := by kernel_rfl
@[simp] theorem ta55 : tagg Try.prog 55 = some false := by kernel_rfl
@[simp] theorem tz55 : tzero Try.prog 55 = some [.val .nilFunc] := by kernel_rfl
@[simp] theorem tv55 : tzeroV Try.prog 55 = some (.val .nilFunc) := by kernel_rfl
@[simp] theorem ts56 : tsize Try.prog 56 = some 1 := by kernel_rfl
@[simp] theorem tb56 : tbytes Try.prog 56 = some 8 := by kernel_rfl
@[simp] theorem ta56 : tagg Try.prog 56 = some false := by kernel_rfl
@[simp] theorem tz56 : tzero Try.prog 56 = some [.val .nilFunc] := by kernel_rfl
@[simp] theorem tv56 : tzeroV Try.prog 56 = some (.val .nilFunc) := by kernel_rfl
@[simp] theorem ts57 : tsize Try.prog 57 = some 1 := by kernel_rfl
@[simp] theorem tb57 : tbytes Try.prog 57 = some 8 := by kernel_rfl
@[simp] theorem ta57 : tagg Try.prog 57 = some false := by kernel_rfl
@[simp] theorem tz57 : tzero Try.prog 57 = some [.val .nilFunc] := by kernel_rfl
@[simp] theorem tv57 : tzeroV Try.prog 57 = some (.val .nilFunc) := by kernel_rfl
@[simp] theorem ts58 : tsize Try.prog 58 = some 1 := by kernel_rfl
@[simp] theorem tb58 : tbytes Try.prog 58 = some 8 := by kernel_rfl
@[simp] theorem ta58 : tagg Try.prog 58 = some false := by kernel_rfl
@[simp] theorem tz58 : tzero Try.prog 58 = some [.val .nilFunc] := by kernel_rfl
@[simp] theorem tv58 : tzeroV Try.prog 58 = some (.val .nilFunc) := by kernel_rfl
@[simp] theorem ts59 : tsize Try.prog 59 = some 1 := by kernel_rfl
@[simp] theorem tb59 : tbytes Try.prog 59 = some 8 := by kernel_rfl
@[simp] theorem ta59 : tagg Try.prog 59 = some false := by kernel_rfl
@[simp] theorem tm59 : tmap Try.prog 59 = some (.int .i64, 3) := by kernel_rfl
@[simp] theorem tz59 : tzero Try.prog 59 = some [.val (.map none)] := by kernel_rfl
@[simp] theorem tv59 : tzeroV Try.prog 59 = some (.val (.map none)) := by kernel_rfl
@[simp] theorem ts60 : tsize Try.prog 60 = some 1 := by kernel_rfl
@[simp] theorem tb60 : tbytes Try.prog 60 = some 8 := by kernel_rfl
@[simp] theorem ta60 : tagg Try.prog 60 = some false := by kernel_rfl
@[simp] theorem tz60 : tzero Try.prog 60 = some [.val .nilFunc] := by kernel_rfl
@[simp] theorem tv60 : tzeroV Try.prog 60 = some (.val .nilFunc) := by kernel_rfl
@[simp] theorem ts61 : tsize Try.prog 61 = some 1 := by kernel_rfl
@[simp] theorem tb61 : tbytes Try.prog 61 = some 8 := by kernel_rfl
@[simp] theorem ta61 : tagg Try.prog 61 = some false := by kernel_rfl
@[simp] theorem tz61 : tzero Try.prog 61 = some [.val .nilFunc] := by kernel_rfl
@[simp] theorem tv61 : tzeroV Try.prog 61 = some (.val .nilFunc) := by kernel_rfl
@[simp] theorem ts62 : tsize Try.prog 62 = some 1 := by kernel_rfl
@[simp] theorem tb62 : tbytes Try.prog 62 = some 0 := by kernel_rfl
@[simp] theorem ta62 : tagg Try.prog 62 = some false := by kernel_rfl
@[simp] theorem ts63 : tsize Try.prog 63 = some 1 := by kernel_rfl
@[simp] theorem tb63 : tbytes Try.prog 63 = some 8 := by kernel_rfl
@[simp] theorem ta63 : tagg Try.prog 63 = some false := by kernel_rfl
@[simp] theorem tz63 : tzero Try.prog 63 = some [.val .nilFunc] := by kernel_rfl
@[simp] theorem tv63 : tzeroV Try.prog 63 = some (.val .nilFunc) := by kernel_rfl
@[simp] theorem ts64 : tsize Try.prog 64 = some 1 := by kernel_rfl
@[simp] theorem tb64 : tbytes Try.prog 64 = some 8 := by kernel_rfl
@[simp] theorem ta64 : tagg Try.prog 64 = some false := by kernel_rfl
@[simp] theorem tui64 : Try.prog.underlying 64 = some (.int .u64) := by kernel_rfl
@[simp] theorem tz64 : tzero Try.prog 64 = some [.val (.int .u64 0)] := by kernel_rfl
@[simp] theorem tv64 : tzeroV Try.prog 64 = some (.val (.int .u64 0)) := by kernel_rfl
@[simp] theorem tup65 : Try.prog.underlying 65 = some (.pointer 69) := by kernel_rfl
@[simp] theorem ts65 : tsize Try.prog 65 = some 1 := by kernel_rfl
@[simp] theorem tb65 : tbytes Try.prog 65 = some 8 := by kernel_rfl
@[simp] theorem ta65 : tagg Try.prog 65 = some false := by kernel_rfl
@[simp] theorem tz65 : tzero Try.prog 65 = some [.val (.pointer none)] := by kernel_rfl
@[simp] theorem tv65 : tzeroV Try.prog 65 = some (.val (.pointer none)) := by kernel_rfl
@[simp] theorem ts66 : tsize Try.prog 66 = some 2 := by kernel_rfl
@[simp] theorem tb66 : tbytes Try.prog 66 = some 24 := by kernel_rfl
@[simp] theorem ta66 : tagg Try.prog 66 = some true := by kernel_rfl
@[simp] theorem tf66_0 : tfield Try.prog 66 0 = some (0, 9, 1) := by kernel_rfl
@[simp] theorem tf66_1 : tfield Try.prog 66 1 = some (1, 27, 1) := by kernel_rfl
theorem tst66 : tstruct Try.prog 66 = some [(0, 9), (1, 27)] := by kernel_rfl
@[simp] theorem tp66 : tplaces Try.prog 66 = some [(0, 1), (1, 1)] := by kernel_rfl
@[simp] theorem tz66 : tzero Try.prog 66 = some [.val (.string .empty), .val (.int .i64 0)] := by kernel_rfl
@[simp] theorem tv66 : tzeroV Try.prog 66 = some (.agg [.val (.string .empty), .val (.int .i64 0)]) := by kernel_rfl
@[simp] theorem ts67 : tsize Try.prog 67 = some 2 := by kernel_rfl
@[simp] theorem tb67 : tbytes Try.prog 67 = some 24 := by kernel_rfl
@[simp] theorem ta67 : tagg Try.prog 67 = some true := by kernel_rfl
@[simp] theorem tf67_0 : tfield Try.prog 67 0 = some (0, 9, 1) := by kernel_rfl
@[simp] theorem tf67_1 : tfield Try.prog 67 1 = some (1, 27, 1) := by kernel_rfl
theorem tst67 : tstruct Try.prog 67 = some [(0, 9), (1, 27)] := by kernel_rfl
@[simp] theorem tfl67 : tflat Try.prog 67 = some [.string, .int .i64] := by kernel_rfl
@[simp] theorem tp67 : tplaces Try.prog 67 = some [(0, 1), (1, 1)] := by kernel_rfl
@[simp] theorem tz67 : tzero Try.prog 67 = some [.val (.string .empty), .val (.int .i64 0)] := by kernel_rfl
@[simp] theorem tv67 : tzeroV Try.prog 67 = some (.agg [.val (.string .empty), .val (.int .i64 0)]) := by kernel_rfl
@[simp] theorem ts68 : tsize Try.prog 68 = some 7 := by kernel_rfl
@[simp] theorem tb68 : tbytes Try.prog 68 = some 88 := by kernel_rfl
@[simp] theorem ta68 : tagg Try.prog 68 = some true := by kernel_rfl
@[simp] theorem tf68_0 : tfield Try.prog 68 0 = some (0, 67, 2) := by kernel_rfl
@[simp] theorem tf68_1 : tfield Try.prog 68 1 = some (2, 38, 5) := by kernel_rfl
theorem tst68 : tstruct Try.prog 68 = some [(0, 67), (2, 38)] := by kernel_rfl
@[simp] theorem tp68 : tplaces Try.prog 68 = some [(0, 2), (2, 5)] := by kernel_rfl
@[simp] theorem tz68 : tzero Try.prog 68 = some [.val (.string .empty), .val (.int .i64 0), .val (.int .i64 0), .val (.int .i64 0), .val (.int .i64 0), .val (.string .empty), .sl true 0 []] := by kernel_rfl
@[simp] theorem tv68 : tzeroV Try.prog 68 = some (.agg [.val (.string .empty), .val (.int .i64 0), .val (.int .i64 0), .val (.int .i64 0), .val (.int .i64 0), .val (.string .empty), .sl true 0 []]) := by kernel_rfl
@[simp] theorem ts69 : tsize Try.prog 69 = some 7 := by kernel_rfl
@[simp] theorem tb69 : tbytes Try.prog 69 = some 88 := by kernel_rfl
@[simp] theorem ta69 : tagg Try.prog 69 = some true := by kernel_rfl
@[simp] theorem tf69_0 : tfield Try.prog 69 0 = some (0, 67, 2) := by kernel_rfl
@[simp] theorem tf69_1 : tfield Try.prog 69 1 = some (2, 38, 5) := by kernel_rfl
theorem tst69 : tstruct Try.prog 69 = some [(0, 67), (2, 38)] := by kernel_rfl
@[simp] theorem tp69 : tplaces Try.prog 69 = some [(0, 2), (2, 5)] := by kernel_rfl
@[simp] theorem tz69 : tzero Try.prog 69 = some [.val (.string .empty), .val (.int .i64 0), .val (.int .i64 0), .val (.int .i64 0), .val (.int .i64 0), .val (.string .empty), .sl true 0 []] := by kernel_rfl
@[simp] theorem tv69 : tzeroV Try.prog 69 = some (.agg [.val (.string .empty), .val (.int .i64 0), .val (.int .i64 0), .val (.int .i64 0), .val (.int .i64 0), .val (.string .empty), .sl true 0 []]) := by kernel_rfl
@[simp] theorem ts70 : tsize Try.prog 70 = some 1 := by kernel_rfl
@[simp] theorem tb70 : tbytes Try.prog 70 = some 8 := by kernel_rfl
@[simp] theorem ta70 : tagg Try.prog 70 = some false := by kernel_rfl
@[simp] theorem tz70 : tzero Try.prog 70 = some [.val .nilFunc] := by kernel_rfl
@[simp] theorem tv70 : tzeroV Try.prog 70 = some (.val .nilFunc) := by kernel_rfl
@[simp] theorem ts71 : tsize Try.prog 71 = some 1 := by kernel_rfl
@[simp] theorem tb71 : tbytes Try.prog 71 = some 8 := by kernel_rfl
@[simp] theorem ta71 : tagg Try.prog 71 = some false := by kernel_rfl
@[simp] theorem tz71 : tzero Try.prog 71 = some [.val .nilFunc] := by kernel_rfl
@[simp] theorem tv71 : tzeroV Try.prog 71 = some (.val .nilFunc) := by kernel_rfl
@[simp] theorem ts72 : tsize Try.prog 72 = some 1 := by kernel_rfl
@[simp] theorem tb72 : tbytes Try.prog 72 = some 8 := by kernel_rfl
@[simp] theorem ta72 : tagg Try.prog 72 = some false := by kernel_rfl
@[simp] theorem tz72 : tzero Try.prog 72 = some [.val .nilFunc] := by kernel_rfl
@[simp] theorem tv72 : tzeroV Try.prog 72 = some (.val .nilFunc) := by kernel_rfl
@[simp] theorem ts73 : tsize Try.prog 73 = some 2 := by kernel_rfl
@[simp] theorem tb73 : tbytes Try.prog 73 = some 24 := by kernel_rfl
@[simp] theorem ta73 : tagg Try.prog 73 = some true := by kernel_rfl
@[simp] theorem tf73_0 : tfield Try.prog 73 0 = some (0, 9, 1) := by kernel_rfl
@[simp] theorem tf73_1 : tfield Try.prog 73 1 = some (1, 3, 1) := by kernel_rfl
theorem tst73 : tstruct Try.prog 73 = some [(0, 9), (1, 3)] := by kernel_rfl
@[simp] theorem tp73 : tplaces Try.prog 73 = some [(0, 1), (1, 1)] := by kernel_rfl
@[simp] theorem tz73 : tzero Try.prog 73 = some [.val (.string .empty), .val (.int .i64 0)] := by kernel_rfl
@[simp] theorem tv73 : tzeroV Try.prog 73 = some (.agg [.val (.string .empty), .val (.int .i64 0)]) := by kernel_rfl
@[simp] theorem ts74 : tsize Try.prog 74 = some 2 := by kernel_rfl
@[simp] theorem tb74 : tbytes Try.prog 74 = some 24 := by kernel_rfl
@[simp] theorem ta74 : tagg Try.prog 74 = some true := by kernel_rfl
@[simp] theorem tf74_0 : tfield Try.prog 74 0 = some (0, 9, 1) := by kernel_rfl
@[simp] theorem tf74_1 : tfield Try.prog 74 1 = some (1, 3, 1) := by kernel_rfl
theorem tst74 : tstruct Try.prog 74 = some [(0, 9), (1, 3)] := by kernel_rfl
@[simp] theorem tfl74 : tflat Try.prog 74 = some [.string, .int .i64] := by kernel_rfl
@[simp] theorem tp74 : tplaces Try.prog 74 = some [(0, 1), (1, 1)] := by kernel_rfl
@[simp] theorem tz74 : tzero Try.prog 74 = some [.val (.string .empty), .val (.int .i64 0)] := by kernel_rfl
@[simp] theorem tv74 : tzeroV Try.prog 74 = some (.agg [.val (.string .empty), .val (.int .i64 0)]) := by kernel_rfl
@[simp] theorem ts75 : tsize Try.prog 75 = some 1 := by kernel_rfl
@[simp] theorem tb75 : tbytes Try.prog 75 = some 8 := by kernel_rfl
@[simp] theorem ta75 : tagg Try.prog 75 = some false := by kernel_rfl
@[simp] theorem tz75 : tzero Try.prog 75 = some [.val .nilFunc] := by kernel_rfl
@[simp] theorem tv75 : tzeroV Try.prog 75 = some (.val .nilFunc) := by kernel_rfl
@[simp] theorem ts76 : tsize Try.prog 76 = some 1 := by kernel_rfl
@[simp] theorem tb76 : tbytes Try.prog 76 = some 8 := by kernel_rfl
@[simp] theorem ta76 : tagg Try.prog 76 = some false := by kernel_rfl
@[simp] theorem tz76 : tzero Try.prog 76 = some [.val .nilFunc] := by kernel_rfl
@[simp] theorem tv76 : tzeroV Try.prog 76 = some (.val .nilFunc) := by kernel_rfl
@[simp] theorem ts77 : tsize Try.prog 77 = some 1 := by kernel_rfl
@[simp] theorem tb77 : tbytes Try.prog 77 = some 8 := by kernel_rfl
@[simp] theorem ta77 : tagg Try.prog 77 = some false := by kernel_rfl
@[simp] theorem tz77 : tzero Try.prog 77 = some [.val .nilFunc] := by kernel_rfl
@[simp] theorem tv77 : tzeroV Try.prog 77 = some (.val .nilFunc) := by kernel_rfl
@[simp] theorem tup78 : Try.prog.underlying 78 = some (.pointer 5) := by kernel_rfl
@[simp] theorem ts78 : tsize Try.prog 78 = some 1 := by kernel_rfl
@[simp] theorem tb78 : tbytes Try.prog 78 = some 8 := by kernel_rfl
@[simp] theorem ta78 : tagg Try.prog 78 = some false := by kernel_rfl
@[simp] theorem tz78 : tzero Try.prog 78 = some [.val (.pointer none)] := by kernel_rfl
@[simp] theorem tv78 : tzeroV Try.prog 78 = some (.val (.pointer none)) := by kernel_rfl
@[simp] theorem ts79 : tsize Try.prog 79 = some 1 := by kernel_rfl
@[simp] theorem tb79 : tbytes Try.prog 79 = some 8 := by kernel_rfl
@[simp] theorem ta79 : tagg Try.prog 79 = some false := by kernel_rfl
@[simp] theorem tz79 : tzero Try.prog 79 = some [.val .nilFunc] := by kernel_rfl
@[simp] theorem tv79 : tzeroV Try.prog 79 = some (.val .nilFunc) := by kernel_rfl
@[simp] theorem ts80 : tsize Try.prog 80 = some 1 := by kernel_rfl
@[simp] theorem tb80 : tbytes Try.prog 80 = some 0 := by kernel_rfl
@[simp] theorem ta80 : tagg Try.prog 80 = some false := by kernel_rfl
@[simp] theorem ts81 : tsize Try.prog 81 = some 1 := by kernel_rfl
@[simp] theorem tb81 : tbytes Try.prog 81 = some 8 := by kernel_rfl
@[simp] theorem ta81 : tagg Try.prog 81 = some false := by kernel_rfl
@[simp] theorem tz81 : tzero Try.prog 81 = some [.val .nilFunc] := by kernel_rfl
@[simp] theorem tv81 : tzeroV Try.prog 81 = some (.val .nilFunc) := by kernel_rfl
@[simp] theorem ts82 : tsize Try.prog 82 = some 1 := by kernel_rfl
@[simp] theorem tb82 : tbytes Try.prog 82 = some 8 := by kernel_rfl
@[simp] theorem ta82 : tagg Try.prog 82 = some false := by kernel_rfl
@[simp] theorem tz82 : tzero Try.prog 82 = some [.val .nilFunc] := by kernel_rfl
@[simp] theorem tv82 : tzeroV Try.prog 82 = some (.val .nilFunc) := by kernel_rfl
@[simp] theorem tup83 : Try.prog.underlying 83 = some (.pointer 67) := by kernel_rfl
@[simp] theorem ts83 : tsize Try.prog 83 = some 1 := by kernel_rfl
@[simp] theorem tb83 : tbytes Try.prog 83 = some 8 := by kernel_rfl
@[simp] theorem ta83 : tagg Try.prog 83 = some false := by kernel_rfl
@[simp] theorem tz83 : tzero Try.prog 83 = some [.val (.pointer none)] := by kernel_rfl
@[simp] theorem tv83 : tzeroV Try.prog 83 = some (.val (.pointer none)) := by kernel_rfl
@[simp] theorem ts84 : tsize Try.prog 84 = some 1 := by kernel_rfl
@[simp] theorem tb84 : tbytes Try.prog 84 = some 0 := by kernel_rfl
@[simp] theorem ta84 : tagg Try.prog 84 = some false := by kernel_rfl
@[simp] theorem ts85 : tsize Try.prog 85 = some 1 := by kernel_rfl
@[simp] theorem tb85 : tbytes Try.prog 85 = some 8 := by kernel_rfl
@[simp] theorem ta85 : tagg Try.prog 85 = some false := by kernel_rfl
@[simp] theorem tz85 : tzero Try.prog 85 = some [.val .nilFunc] := by kernel_rfl
@[simp] theorem tv85 : tzeroV Try.prog 85 = some (.val .nilFunc) := by kernel_rfl
@[simp] theorem ts86 : tsize Try.prog 86 = some 1 := by kernel_rfl
@[simp] theorem tb86 : tbytes Try.prog 86 = some 8 := by kernel_rfl
@[simp] theorem ta86 : tagg Try.prog 86 = some false := by kernel_rfl
@[simp] theorem tz86 : tzero Try.prog 86 = some [.val .nilFunc] := by kernel_rfl
@[simp] theorem tv86 : tzeroV Try.prog 86 = some (.val .nilFunc) := by kernel_rfl
@[simp] theorem tuu87 : Try.prog.underlying 87 = some .unsafePointer := by kernel_rfl
@[simp] theorem ts87 : tsize Try.prog 87 = some 1 := by kernel_rfl
@[simp] theorem tb87 : tbytes Try.prog 87 = some 8 := by kernel_rfl
@[simp] theorem ta87 : tagg Try.prog 87 = some false := by kernel_rfl
@[simp] theorem tz87 : tzero Try.prog 87 = some [.val (.pointer none)] := by kernel_rfl
@[simp] theorem tv87 : tzeroV Try.prog 87 = some (.val (.pointer none)) := by kernel_rfl
@[simp] theorem ts88 : tsize Try.prog 88 = some 1 := by kernel_rfl
@[simp] theorem tb88 : tbytes Try.prog 88 = some 8 := by kernel_rfl
@[simp] theorem ta88 : tagg Try.prog 88 = some false := by kernel_rfl
@[simp] theorem tz88 : tzero Try.prog 88 = some [.val .nilFunc] := by kernel_rfl
@[simp] theorem tv88 : tzeroV Try.prog 88 = some (.val .nilFunc) := by kernel_rfl
@[simp] theorem ts89 : tsize Try.prog 89 = some 1 := by kernel_rfl
@[simp] theorem tb89 : tbytes Try.prog 89 = some 8 := by kernel_rfl
@[simp] theorem ta89 : tagg Try.prog 89 = some false := by kernel_rfl
@[simp] theorem tz89 : tzero Try.prog 89 = some [.val .nilFunc] := by kernel_rfl
@[simp] theorem tv89 : tzeroV Try.prog 89 = some (.val .nilFunc) := by kernel_rfl
@[simp] theorem ts90 : tsize Try.prog 90 = some 1 := by kernel_rfl
@[simp] theorem tb90 : tbytes Try.prog 90 = some 8 := by kernel_rfl
@[simp] theorem ta90 : tagg Try.prog 90 = some false := by kernel_rfl
@[simp] theorem tz90 : tzero Try.prog 90 = some [.val .nilFunc] := by kernel_rfl
@[simp] theorem tv90 : tzeroV Try.prog 90 = some (.val .nilFunc) := by kernel_rfl
@[simp] theorem ts91 : tsize Try.prog 91 = some 1 := by kernel_rfl
@[simp] theorem tb91 : tbytes Try.prog 91 = some 8 := by kernel_rfl
@[simp] theorem ta91 : tagg Try.prog 91 = some false := by kernel_rfl
@[simp] theorem tz91 : tzero Try.prog 91 = some [.val .nilFunc] := by kernel_rfl
@[simp] theorem tv91 : tzeroV Try.prog 91 = some (.val .nilFunc) := by kernel_rfl
@[simp] theorem ts92 : tsize Try.prog 92 = some 1 := by kernel_rfl
@[simp] theorem tb92 : tbytes Try.prog 92 = some 8 := by kernel_rfl
@[simp] theorem ta92 : tagg Try.prog 92 = some false := by kernel_rfl
@[simp] theorem tz92 : tzero Try.prog 92 = some [.val .nilFunc] := by kernel_rfl
@[simp] theorem tv92 : tzeroV Try.prog 92 = some (.val .nilFunc) := by kernel_rfl
@[simp] theorem ts93 : tsize Try.prog 93 = some 1 := by kernel_rfl
@[simp] theorem tb93 : tbytes Try.prog 93 = some 8 := by kernel_rfl
@[simp] theorem ta93 : tagg Try.prog 93 = some false := by kernel_rfl
@[simp] theorem tz93 : tzero Try.prog 93 = some [.val .nilFunc] := by kernel_rfl
@[simp] theorem tv93 : tzeroV Try.prog 93 = some (.val .nilFunc) := by kernel_rfl
@[simp] theorem ts94 : tsize Try.prog 94 = some 1 := by kernel_rfl
@[simp] theorem tb94 : tbytes Try.prog 94 = some 24 := by kernel_rfl
@[simp] theorem ta94 : tagg Try.prog 94 = some false := by kernel_rfl
@[simp] theorem te94 : telem Try.prog 94 = some 9 := by kernel_rfl
@[simp] theorem tes94 : elemSize Try.prog 94 = some 1 := by kernel_rfl
@[simp] theorem tz94 : tzero Try.prog 94 = some [.sl true 0 []] := by kernel_rfl
@[simp] theorem tv94 : tzeroV Try.prog 94 = some (.sl true 0 []) := by kernel_rfl
@[simp] theorem ts95 : tsize Try.prog 95 = some 1 := by kernel_rfl
@[simp] theorem tb95 : tbytes Try.prog 95 = some 8 := by kernel_rfl
@[simp] theorem ta95 : tagg Try.prog 95 = some false := by kernel_rfl
@[simp] theorem tz95 : tzero Try.prog 95 = some [.val .nilFunc] := by kernel_rfl
@[simp] theorem tv95 : tzeroV Try.prog 95 = some (.val .nilFunc) := by kernel_rfl
@[simp] theorem ts96 : tsize Try.prog 96 = some 1 := by kernel_rfl
@[simp] theorem tb96 : tbytes Try.prog 96 = some 8 := by kernel_rfl
@[simp] theorem ta96 : tagg Try.prog 96 = some false := by kernel_rfl
@[simp] theorem tz96 : tzero Try.prog 96 = some [.val .nilFunc] := by kernel_rfl
@[simp] theorem tv96 : tzeroV Try.prog 96 = some (.val .nilFunc) := by kernel_rfl
@[simp] theorem ts97 : tsize Try.prog 97 = some 1 := by kernel_rfl
@[simp] theorem tb97 : tbytes Try.prog 97 = some 8 := by kernel_rfl
@[simp] theorem ta97 : tagg Try.prog 97 = some false := by kernel_rfl
@[simp] theorem tz97 : tzero Try.prog 97 = some [.val .nilFunc] := by kernel_rfl
@[simp] theorem tv97 : tzeroV Try.prog 97 = some (.val .nilFunc) := by kernel_rfl
@[simp] theorem ts98 : tsize Try.prog 98 = some 1 := by kernel_rfl
@[simp] theorem tb98 : tbytes Try.prog 98 = some 8 := by kernel_rfl
@[simp] theorem ta98 : tagg Try.prog 98 = some false := by kernel_rfl
@[simp] theorem tz98 : tzero Try.prog 98 = some [.val .nilFunc] := by kernel_rfl
@[simp] theorem tv98 : tzeroV Try.prog 98 = some (.val .nilFunc) := by kernel_rfl
@[simp] theorem ts99 : tsize Try.prog 99 = some 4 := by kernel_rfl
@[simp] theorem tb99 : tbytes Try.prog 99 = some 40 := by kernel_rfl
@[simp] theorem ta99 : tagg Try.prog 99 = some true := by kernel_rfl
@[simp] theorem tf99_0 : tfield Try.prog 99 0 = some (0, 17, 1) := by kernel_rfl
@[simp] theorem tf99_1 : tfield Try.prog 99 1 = some (1, 17, 1) := by kernel_rfl
@[simp] theorem tf99_2 : tfield Try.prog 99 2 = some (2, 17, 1) := by kernel_rfl
@[simp] theorem tf99_3 : tfield Try.prog 99 3 = some (3, 9, 1) := by kernel_rfl
theorem tst99 : tstruct Try.prog 99 = some [(0, 17), (1, 17), (2, 17), (3, 9)] := by kernel_rfl
@[simp] theorem tp99 : tplaces Try.prog 99 = some [(0, 1), (1, 1), (2, 1), (3, 1)] := by kernel_rfl
@[simp] theorem tz99 : tzero Try.prog 99 = some [.val (.pointer none), .val (.pointer none), .val (.pointer none), .val (.string .empty)] := by kernel_rfl
@[simp] theorem tv99 : tzeroV Try.prog 99 = some (.agg [.val (.pointer none), .val (.pointer none), .val (.pointer none), .val (.string .empty)]) := by kernel_rfl
@[simp] theorem ts100 : tsize Try.prog 100 = some 4 := by kernel_rfl
@[simp] theorem tb100 : tbytes Try.prog 100 = some 40 := by kernel_rfl
@[simp] theorem ta100 : tagg Try.prog 100 = some true := by kernel_rfl
@[simp] theorem tf100_0 : tfield Try.prog 100 0 = some (0, 17, 1) := by kernel_rfl
@[simp] theorem tf100_1 : tfield Try.prog 100 1 = some (1, 17, 1) := by kernel_rfl
@[simp] theorem tf100_2 : tfield Try.prog 100 2 = some (2, 17, 1) := by kernel_rfl
@[simp] theorem tf100_3 : tfield Try.prog 100 3 = some (3, 9, 1) := by kernel_rfl
theorem tst100 : tstruct Try.prog 100 = some [(0, 17), (1, 17), (2, 17), (3, 9)] := by kernel_rfl
@[simp] theorem tp100 : tplaces Try.prog 100 = some [(0, 1), (1, 1), (2, 1), (3, 1)] := by kernel_rfl
@[simp] theorem tz100 : tzero Try.prog 100 = some [.val (.pointer none), .val (.pointer none), .val (.pointer none), .val (.string .empty)] := by kernel_rfl
@[simp] theorem tv100 : tzeroV Try.prog 100 = some (.agg [.val (.pointer none), .val (.pointer none), .val (.pointer none), .val (.string .empty)]) := by kernel_rfl
@[simp] theorem ts101 : tsize Try.prog 101 = some 0 := by kernel_rfl
@[simp] theorem tb101 : tbytes Try.prog 101 = some 0 := by kernel_rfl
@[simp] theorem ta101 : tagg Try.prog 101 = some true := by kernel_rfl
@[simp] theorem tz101 : tzero Try.prog 101 = some [] := by kernel_rfl
@[simp] theorem tv101 : tzeroV Try.prog 101 = some (.agg []) := by kernel_rfl
@[simp] theorem ts102 : tsize Try.prog 102 = some 0 := by kernel_rfl
@[simp] theorem tb102 : tbytes Try.prog 102 = some 0 := by kernel_rfl
@[simp] theorem ta102 : tagg Try.prog 102 = some true := by kernel_rfl
@[simp] theorem tf102_0 : tfield Try.prog 102 0 = some (0, 101, 0) := by kernel_rfl
theorem tst102 : tstruct Try.prog 102 = some [(0, 101)] := by kernel_rfl
@[simp] theorem tp102 : tplaces Try.prog 102 = some [(0, 0)] := by kernel_rfl
@[simp] theorem tz102 : tzero Try.prog 102 = some [] := by kernel_rfl
@[simp] theorem tv102 : tzeroV Try.prog 102 = some (.agg []) := by kernel_rfl
@[simp] theorem ts103 : tsize Try.prog 103 = some 0 := by kernel_rfl
@[simp] theorem tb103 : tbytes Try.prog 103 = some 0 := by kernel_rfl
@[simp] theorem ta103 : tagg Try.prog 103 = some true := by kernel_rfl
@[simp] theorem tf103_0 : tfield Try.prog 103 0 = some (0, 101, 0) := by kernel_rfl
theorem tst103 : tstruct Try.prog 103 = some [(0, 101)] := by kernel_rfl
@[simp] theorem tp103 : tplaces Try.prog 103 = some [(0, 0)] := by kernel_rfl
@[simp] theorem tz103 : tzero Try.prog 103 = some [] := by kernel_rfl
@[simp] theorem tv103 : tzeroV Try.prog 103 = some (.agg []) := by kernel_rfl
@[simp] theorem ts104 : tsize Try.prog 104 = some 1 := by kernel_rfl
@[simp] theorem tb104 : tbytes Try.prog 104 = some 4 := by kernel_rfl
@[simp] theorem ta104 : tagg Try.prog 104 = some false := by kernel_rfl
@[simp] theorem tui104 : Try.prog.underlying 104 = some (.int .u32) := by kernel_rfl
@[simp] theorem tz104 : tzero Try.prog 104 = some [.val (.int .u32 0)] := by kernel_rfl
@[simp] theorem tv104 : tzeroV Try.prog 104 = some (.val (.int .u32 0)) := by kernel_rfl
@[simp] theorem tcl105 : Try.prog.cellsOf 105 = 1 := by kernel_rfl
@[simp] theorem ts105 : tsize Try.prog 105 = some 1 := by kernel_rfl
@[simp] theorem tb105 : tbytes Try.prog 105 = some 1 := by kernel_rfl
@[simp] theorem ta105 : tagg Try.prog 105 = some false := by kernel_rfl
@[simp] theorem tui105 : Try.prog.underlying 105 = some (.int .u8) := by kernel_rfl
@[simp] theorem tz105 : tzero Try.prog 105 = some [.val (.int .u8 0)] := by kernel_rfl
@[simp] theorem tv105 : tzeroV Try.prog 105 = some (.val (.int .u8 0)) := by kernel_rfl
@[simp] theorem tcl106 : Try.prog.cellsOf 106 = 1 := by kernel_rfl
@[simp] theorem ts106 : tsize Try.prog 106 = some 1 := by kernel_rfl
@[simp] theorem tb106 : tbytes Try.prog 106 = some 1 := by kernel_rfl
@[simp] theorem ta106 : tagg Try.prog 106 = some false := by kernel_rfl
@[simp] theorem tui106 : Try.prog.underlying 106 = some (.int .u8) := by kernel_rfl
@[simp] theorem tz106 : tzero Try.prog 106 = some [.val (.int .u8 0)] := by kernel_rfl
@[simp] theorem tv106 : tzeroV Try.prog 106 = some (.val (.int .u8 0)) := by kernel_rfl
@[simp] theorem ts107 : tsize Try.prog 107 = some 1 := by kernel_rfl
@[simp] theorem tb107 : tbytes Try.prog 107 = some 8 := by kernel_rfl
@[simp] theorem ta107 : tagg Try.prog 107 = some false := by kernel_rfl
@[simp] theorem tz107 : tzero Try.prog 107 = some [.val .nilFunc] := by kernel_rfl
@[simp] theorem tv107 : tzeroV Try.prog 107 = some (.val .nilFunc) := by kernel_rfl
@[simp] theorem ts108 : tsize Try.prog 108 = some 1 := by kernel_rfl
@[simp] theorem tb108 : tbytes Try.prog 108 = some 4 := by kernel_rfl
@[simp] theorem ta108 : tagg Try.prog 108 = some false := by kernel_rfl
@[simp] theorem tui108 : Try.prog.underlying 108 = some (.int .i32) := by kernel_rfl
@[simp] theorem tz108 : tzero Try.prog 108 = some [.val (.int .i32 0)] := by kernel_rfl
@[simp] theorem tv108 : tzeroV Try.prog 108 = some (.val (.int .i32 0)) := by kernel_rfl
@[simp] theorem ts109 : tsize Try.prog 109 = some 1 := by kernel_rfl
@[simp] theorem tb109 : tbytes Try.prog 109 = some 4 := by kernel_rfl
@[simp] theorem ta109 : tagg Try.prog 109 = some false := by kernel_rfl
@[simp] theorem tui109 : Try.prog.underlying 109 = some (.int .i32) := by kernel_rfl
@[simp] theorem tz109 : tzero Try.prog 109 = some [.val (.int .i32 0)] := by kernel_rfl
@[simp] theorem tv109 : tzeroV Try.prog 109 = some (.val (.int .i32 0)) := by kernel_rfl
@[simp] theorem ts110 : tsize Try.prog 110 = some 11 := by kernel_rfl
@[simp] theorem tb110 : tbytes Try.prog 110 = some 48 := by kernel_rfl
@[simp] theorem ta110 : tagg Try.prog 110 = some true := by kernel_rfl
@[simp] theorem tf110_0 : tfield Try.prog 110 0 = some (0, 12, 1) := by kernel_rfl
@[simp] theorem tf110_1 : tfield Try.prog 110 1 = some (1, 12, 1) := by kernel_rfl
@[simp] theorem tf110_2 : tfield Try.prog 110 2 = some (2, 104, 1) := by kernel_rfl
@[simp] theorem tf110_3 : tfield Try.prog 110 3 = some (3, 105, 1) := by kernel_rfl
@[simp] theorem tf110_4 : tfield Try.prog 110 4 = some (4, 5, 1) := by kernel_rfl
@[simp] theorem tf110_5 : tfield Try.prog 110 5 = some (5, 5, 1) := by kernel_rfl
@[simp] theorem tf110_6 : tfield Try.prog 110 6 = some (6, 106, 1) := by kernel_rfl
@[simp] theorem tf110_7 : tfield Try.prog 110 7 = some (7, 107, 1) := by kernel_rfl
@[simp] theorem tf110_8 : tfield Try.prog 110 8 = some (8, 78, 1) := by kernel_rfl
@[simp] theorem tf110_9 : tfield Try.prog 110 9 = some (9, 108, 1) := by kernel_rfl
@[simp] theorem tf110_10 : tfield Try.prog 110 10 = some (10, 109, 1) := by kernel_rfl
theorem tst110 : tstruct Try.prog 110 = some [(0, 12), (1, 12), (2, 104), (3, 105), (4, 5), (5, 5), (6, 106), (7, 107), (8, 78), (9, 108), (10, 109)] := by kernel_rfl
@[simp] theorem tp110 : tplaces Try.prog 110 = some [(0, 1), (1, 1), (2, 1), (3, 1), (4, 1), (5, 1), (6, 1), (7, 1), (8, 1), (9, 1), (10, 1)] := by kernel_rfl
@[simp] theorem tz110 : tzero Try.prog 110 = some [.val (.int .u64 0), .val (.int .u64 0), .val (.int .u32 0), .val (.int .u8 0), .val (.int .u8 0), .val (.int .u8 0), .val (.int .u8 0), .val .nilFunc, .val (.pointer none), .val (.int .i32 0), .val (.int .i32 0)] := by kernel_rfl
@[simp] theorem tv110 : tzeroV Try.prog 110 = some (.agg [.val (.int .u64 0), .val (.int .u64 0), .val (.int .u32 0), .val (.int .u8 0), .val (.int .u8 0), .val (.int .u8 0), .val (.int .u8 0), .val .nilFunc, .val (.pointer none), .val (.int .i32 0), .val (.int .i32 0)]) := by kernel_rfl
@[simp] theorem ts111 : tsize Try.prog 111 = some 11 := by kernel_rfl
@[simp] theorem tb111 : tbytes Try.prog 111 = some 48 := by kernel_rfl
@[simp] theorem ta111 : tagg Try.prog 111 = some true := by kernel_rfl
@[simp] theorem tf111_0 : tfield Try.prog 111 0 = some (0, 12, 1) := by kernel_rfl
@[simp] theorem tf111_1 : tfield Try.prog 111 1 = some (1, 12, 1) := by kernel_rfl
@[simp] theorem tf111_2 : tfield Try.prog 111 2 = some (2, 104, 1) := by kernel_rfl
@[simp] theorem tf111_3 : tfield Try.prog 111 3 = some (3, 105, 1) := by kernel_rfl
@[simp] theorem tf111_4 : tfield Try.prog 111 4 = some (4, 5, 1) := by kernel_rfl
@[simp] theorem tf111_5 : tfield Try.prog 111 5 = some (5, 5, 1) := by kernel_rfl
@[simp] theorem tf111_6 : tfield Try.prog 111 6 = some (6, 106, 1) := by kernel_rfl
@[simp] theorem tf111_7 : tfield Try.prog 111 7 = some (7, 107, 1) := by kernel_rfl
@[simp] theorem tf111_8 : tfield Try.prog 111 8 = some (8, 78, 1) := by kernel_rfl
@[simp] theorem tf111_9 : tfield Try.prog 111 9 = some (9, 108, 1) := by kernel_rfl
@[simp] theorem tf111_10 : tfield Try.prog 111 10 = some (10, 109, 1) := by kernel_rfl
theorem tst111 : tstruct Try.prog 111 = some [(0, 12), (1, 12), (2, 104), (3, 105), (4, 5), (5, 5), (6, 106), (7, 107), (8, 78), (9, 108), (10, 109)] := by kernel_rfl
@[simp] theorem tp111 : tplaces Try.prog 111 = some [(0, 1), (1, 1), (2, 1), (3, 1), (4, 1), (5, 1), (6, 1), (7, 1), (8, 1), (9, 1), (10, 1)] := by kernel_rfl
@[simp] theorem tz111 : tzero Try.prog 111 = some [.val (.int .u64 0), .val (.int .u64 0), .val (.int .u32 0), .val (.int .u8 0), .val (.int .u8 0), .val (.int .u8 0), .val (.int .u8 0), .val .nilFunc, .val (.pointer none), .val (.int .i32 0), .val (.int .i32 0)] := by kernel_rfl
@[simp] theorem tv111 : tzeroV Try.prog 111 = some (.agg [.val (.int .u64 0), .val (.int .u64 0), .val (.int .u32 0), .val (.int .u8 0), .val (.int .u8 0), .val (.int .u8 0), .val (.int .u8 0), .val .nilFunc, .val (.pointer none), .val (.int .i32 0), .val (.int .i32 0)]) := by kernel_rfl
end Go.Proofs.Ytilmfmjcemfoeaa.Tab
