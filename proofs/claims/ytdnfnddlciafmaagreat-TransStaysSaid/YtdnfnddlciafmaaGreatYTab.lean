import Derived.Test.YtdnfnddlciafmaaGreatProg
import Derived.Test.YtdnfnddlciafmaaGreatYBd
import Derived.KernelRfl
namespace Go.Proofs.YtdnfnddlciafmaaGreat.Tab
open Go.Cx
@[simp] theorem ts0:Zd Tryz.prog 0=some 1:=by kernel_rfl
@[simp] theorem ta0:tagg Tryz.prog 0=some false:=by kernel_rfl
@[simp] theorem ts1:Zd Tryz.prog 1=some 1:=by kernel_rfl
@[simp] theorem ta1:tagg Tryz.prog 1=some false:=by kernel_rfl
@[simp] theorem ts2:Zd Tryz.prog 2=some 1:=by kernel_rfl
@[simp] theorem ta2:tagg Tryz.prog 2=some false:=by kernel_rfl
@[simp] theorem tui2:Tryz.prog.underlying 2=some (.int .i64):=by kernel_rfl
@[simp] theorem ts3:Zd Tryz.prog 3=some 1:=by kernel_rfl
@[simp] theorem tb3:Zbg Tryz.prog 3=some 8:=by kernel_rfl
@[simp] theorem ta3:tagg Tryz.prog 3=some false:=by kernel_rfl
@[simp] theorem tui3:Tryz.prog.underlying 3=some (.int .i64):=by kernel_rfl
@[simp] theorem tz3:Zam Tryz.prog 3=some [.val (.int .i64 0)]:=by kernel_rfl
@[simp] theorem tv3:ZkO Tryz.prog 3=some (.val (.int .i64 0)):=by kernel_rfl
@[simp] theorem ts4:Zd Tryz.prog 4=some 1:=by kernel_rfl
@[simp] theorem ta4:tagg Tryz.prog 4=some false:=by kernel_rfl
@[simp] theorem tub4:Tryz.prog.underlying 4=some .bool:=by kernel_rfl
@[simp] theorem ts5:Zd Tryz.prog 5=some 1:=by kernel_rfl
@[simp] theorem tb5:Zbg Tryz.prog 5=some 1:=by kernel_rfl
@[simp] theorem ta5:tagg Tryz.prog 5=some false:=by kernel_rfl
@[simp] theorem tui5:Tryz.prog.underlying 5=some (.int .u8):=by kernel_rfl
@[simp] theorem tz5:Zam Tryz.prog 5=some [.val (.int .u8 0)]:=by kernel_rfl
@[simp] theorem ts6:Zd Tryz.prog 6=some 1:=by kernel_rfl
@[simp] theorem ta6:tagg Tryz.prog 6=some false:=by kernel_rfl
@[simp] theorem tui6:Tryz.prog.underlying 6=some (.int .u8):=by kernel_rfl
@[simp] theorem ts7:Zd Tryz.prog 7=some 4:=by kernel_rfl
@[simp] theorem ta7:tagg Tryz.prog 7=some true:=by kernel_rfl
@[simp] theorem tf7_0:Zg Tryz.prog 7 0=some (0,2,1):=by kernel_rfl
@[simp] theorem tf7_1:Zg Tryz.prog 7 1=some (1,3,1):=by kernel_rfl
@[simp] theorem tf7_2:Zg Tryz.prog 7 2=some (2,4,1):=by kernel_rfl
@[simp] theorem tf7_3:Zg Tryz.prog 7 3=some (3,6,1):=by kernel_rfl
theorem tst7:Zp Tryz.prog 7=some [(0,2),(1,3),(2,4),(3,6)]:=by kernel_rfl
@[simp] theorem tp7:Zt Tryz.prog 7=some [(0,1),(1,1),(2,1),(3,1)]:=by kernel_rfl
@[simp] theorem ts8:Zd Tryz.prog 8=some 4:=by kernel_rfl
@[simp] theorem ta8:tagg Tryz.prog 8=some true:=by kernel_rfl
@[simp] theorem tf8_0:Zg Tryz.prog 8 0=some (0,2,1):=by kernel_rfl
@[simp] theorem tf8_1:Zg Tryz.prog 8 1=some (1,3,1):=by kernel_rfl
@[simp] theorem tf8_2:Zg Tryz.prog 8 2=some (2,4,1):=by kernel_rfl
@[simp] theorem tf8_3:Zg Tryz.prog 8 3=some (3,6,1):=by kernel_rfl
theorem tst8:Zp Tryz.prog 8=some [(0,2),(1,3),(2,4),(3,6)]:=by kernel_rfl
@[simp] theorem tp8:Zt Tryz.prog 8=some [(0,1),(1,1),(2,1),(3,1)]:=by kernel_rfl
@[simp] theorem ts9:Zd Tryz.prog 9=some 1:=by kernel_rfl
@[simp] theorem tb9:Zbg Tryz.prog 9=some 16:=by kernel_rfl
@[simp] theorem ta9:tagg Tryz.prog 9=some false:=by kernel_rfl
@[simp] theorem tus9:Tryz.prog.underlying 9=some .string:=by kernel_rfl
@[simp] theorem tz9:Zam Tryz.prog 9=some [.val (.string .empty)]:=by kernel_rfl
@[simp] theorem ts10:Zd Tryz.prog 10=some 1:=by kernel_rfl
@[simp] theorem ta10:tagg Tryz.prog 10=some false:=by kernel_rfl
@[simp] theorem tus10:Tryz.prog.underlying 10=some .string:=by kernel_rfl
@[simp] theorem ts11:Zd Tryz.prog 11=some 1:=by kernel_rfl
@[simp] theorem ta11:tagg Tryz.prog 11=some false:=by kernel_rfl
@[simp] theorem tus11:Tryz.prog.underlying 11=some .string:=by kernel_rfl
@[simp] theorem ts12:Zd Tryz.prog 12=some 1:=by kernel_rfl
@[simp] theorem ta12:tagg Tryz.prog 12=some false:=by kernel_rfl
@[simp] theorem tui12:Tryz.prog.underlying 12=some (.int .u64):=by kernel_rfl
@[simp] theorem ts13:Zd Tryz.prog 13=some 2:=by kernel_rfl
@[simp] theorem ta13:tagg Tryz.prog 13=some true:=by kernel_rfl
@[simp] theorem tf13_0:Zg Tryz.prog 13 0=some (0,9,1):=by kernel_rfl
@[simp] theorem tf13_1:Zg Tryz.prog 13 1=some (1,12,1):=by kernel_rfl
theorem tst13:Zp Tryz.prog 13=some [(0,9),(1,12)]:=by kernel_rfl
@[simp] theorem tp13:Zt Tryz.prog 13=some [(0,1),(1,1)]:=by kernel_rfl
@[simp] theorem ts14:Zd Tryz.prog 14=some 2:=by kernel_rfl
@[simp] theorem ta14:tagg Tryz.prog 14=some true:=by kernel_rfl
@[simp] theorem tf14_0:Zg Tryz.prog 14 0=some (0,9,1):=by kernel_rfl
@[simp] theorem tf14_1:Zg Tryz.prog 14 1=some (1,12,1):=by kernel_rfl
theorem tst14:Zp Tryz.prog 14=some [(0,9),(1,12)]:=by kernel_rfl
@[simp] theorem tp14:Zt Tryz.prog 14=some [(0,1),(1,1)]:=by kernel_rfl
@[simp] theorem ts15:Zd Tryz.prog 15=some 1:=by kernel_rfl
@[simp] theorem ta15:tagg Tryz.prog 15=some false:=by kernel_rfl
@[simp] theorem ts16:Zd Tryz.prog 16=some 1:=by kernel_rfl
@[simp] theorem ta16:tagg Tryz.prog 16=some false:=by kernel_rfl
@[simp] theorem ts17:Zd Tryz.prog 17=some 1:=by kernel_rfl
@[simp] theorem ta17:tagg Tryz.prog 17=some false:=by kernel_rfl
@[simp] theorem ts18:Zd Tryz.prog 18=some 1:=by kernel_rfl
@[simp] theorem ta18:tagg Tryz.prog 18=some true:=by kernel_rfl
@[simp] theorem tf18_0:Zg Tryz.prog 18 0=some (0,17,1):=by kernel_rfl
theorem tst18:Zp Tryz.prog 18=some [(0,17)]:=by kernel_rfl
@[simp] theorem tp18:Zt Tryz.prog 18=some [(0,1)]:=by kernel_rfl
@[simp] theorem ts19:Zd Tryz.prog 19=some 1:=by kernel_rfl
@[simp] theorem ta19:tagg Tryz.prog 19=some true:=by kernel_rfl
@[simp] theorem tf19_0:Zg Tryz.prog 19 0=some (0,17,1):=by kernel_rfl
theorem tst19:Zp Tryz.prog 19=some [(0,17)]:=by kernel_rfl
@[simp] theorem tp19:Zt Tryz.prog 19=some [(0,1)]:=by kernel_rfl
@[simp] theorem ts20:Zd Tryz.prog 20=some 1:=by kernel_rfl
@[simp] theorem ta20:tagg Tryz.prog 20=some false:=by kernel_rfl
@[simp] theorem ts21:Zd Tryz.prog 21=some 1:=by kernel_rfl
@[simp] theorem ta21:tagg Tryz.prog 21=some false:=by kernel_rfl
@[simp] theorem tui21:Tryz.prog.underlying 21=some (.int .i32):=by kernel_rfl
@[simp] theorem ts22:Zd Tryz.prog 22=some 1:=by kernel_rfl
@[simp] theorem tb22:Zbg Tryz.prog 22=some 24:=by kernel_rfl
@[simp] theorem ta22:tagg Tryz.prog 22=some false:=by kernel_rfl
@[simp] theorem te22:ZY Tryz.prog 22=some 43:=by kernel_rfl
@[simp] theorem tes22:ZM Tryz.prog 22=some 5:=by kernel_rfl
@[simp] theorem tz22:Zam Tryz.prog 22=some [.sl true 0 []]:=by kernel_rfl
@[simp] theorem ts23:Zd Tryz.prog 23=some 2:=by kernel_rfl
@[simp] theorem ta23:tagg Tryz.prog 23=some true:=by kernel_rfl
@[simp] theorem tf23_0:Zg Tryz.prog 23 0=some (0,22,1):=by kernel_rfl
@[simp] theorem tf23_1:Zg Tryz.prog 23 1=some (1,3,1):=by kernel_rfl
theorem tst23:Zp Tryz.prog 23=some [(0,22),(1,3)]:=by kernel_rfl
@[simp] theorem tp23:Zt Tryz.prog 23=some [(0,1),(1,1)]:=by kernel_rfl
@[simp] theorem ts24:Zd Tryz.prog 24=some 2:=by kernel_rfl
@[simp] theorem ta24:tagg Tryz.prog 24=some true:=by kernel_rfl
@[simp] theorem tf24_0:Zg Tryz.prog 24 0=some (0,22,1):=by kernel_rfl
@[simp] theorem tf24_1:Zg Tryz.prog 24 1=some (1,3,1):=by kernel_rfl
theorem tst24:Zp Tryz.prog 24=some [(0,22),(1,3)]:=by kernel_rfl
@[simp] theorem tp24:Zt Tryz.prog 24=some [(0,1),(1,1)]:=by kernel_rfl
@[simp] theorem tz24:Zam Tryz.prog 24=some [.sl true 0 [],.val (.int .i64 0)]:=by kernel_rfl
@[simp] theorem ts25:Zd Tryz.prog 25=some 8:=by kernel_rfl
@[simp] theorem ta25:tagg Tryz.prog 25=some true:=by kernel_rfl
@[simp] theorem tf25_0:Zg Tryz.prog 25 0=some (0,3,1):=by kernel_rfl
@[simp] theorem tf25_1:Zg Tryz.prog 25 1=some (1,3,1):=by kernel_rfl
@[simp] theorem tf25_2:Zg Tryz.prog 25 2=some (2,3,1):=by kernel_rfl
@[simp] theorem tf25_3:Zg Tryz.prog 25 3=some (3,3,1):=by kernel_rfl
@[simp] theorem tf25_4:Zg Tryz.prog 25 4=some (4,3,1):=by kernel_rfl
@[simp] theorem tf25_5:Zg Tryz.prog 25 5=some (5,9,1):=by kernel_rfl
@[simp] theorem tf25_6:Zg Tryz.prog 25 6=some (6,9,1):=by kernel_rfl
@[simp] theorem tf25_7:Zg Tryz.prog 25 7=some (7,9,1):=by kernel_rfl
theorem tst25:Zp Tryz.prog 25=some [(0,3),(1,3),(2,3),(3,3),(4,3),(5,9),(6,9),(7,9)]:=by kernel_rfl
@[simp] theorem tp25:Zt Tryz.prog 25=some [(0,1),(1,1),(2,1),(3,1),(4,1),(5,1),(6,1),(7,1)]:=by kernel_rfl
@[simp] theorem ts26:Zd Tryz.prog 26=some 8:=by kernel_rfl
@[simp] theorem tb26:Zbg Tryz.prog 26=some 88:=by kernel_rfl
@[simp] theorem ta26:tagg Tryz.prog 26=some true:=by kernel_rfl
@[simp] theorem tf26_0:Zg Tryz.prog 26 0=some (0,3,1):=by kernel_rfl
@[simp] theorem tf26_1:Zg Tryz.prog 26 1=some (1,3,1):=by kernel_rfl
@[simp] theorem tf26_2:Zg Tryz.prog 26 2=some (2,3,1):=by kernel_rfl
@[simp] theorem tf26_3:Zg Tryz.prog 26 3=some (3,3,1):=by kernel_rfl
@[simp] theorem tf26_4:Zg Tryz.prog 26 4=some (4,3,1):=by kernel_rfl
@[simp] theorem tf26_5:Zg Tryz.prog 26 5=some (5,9,1):=by kernel_rfl
@[simp] theorem tf26_6:Zg Tryz.prog 26 6=some (6,9,1):=by kernel_rfl
@[simp] theorem tf26_7:Zg Tryz.prog 26 7=some (7,9,1):=by kernel_rfl
theorem tst26:Zp Tryz.prog 26=some [(0,3),(1,3),(2,3),(3,3),(4,3),(5,9),(6,9),(7,9)]:=by kernel_rfl
@[simp] theorem tfl26:ZmL Tryz.prog 26=some [.int .i64,.int .i64,.int .i64,.int .i64,.int .i64,.string,.string,.string]:=by kernel_rfl
@[simp] theorem tp26:Zt Tryz.prog 26=some [(0,1),(1,1),(2,1),(3,1),(4,1),(5,1),(6,1),(7,1)]:=by kernel_rfl
@[simp] theorem tz26:Zam Tryz.prog 26=some [.val (.int .i64 0),.val (.int .i64 0),.val (.int .i64 0),.val (.int .i64 0),.val (.int .i64 0),.val (.string .empty),.val (.string .empty),.val (.string .empty)]:=by kernel_rfl
@[simp] theorem ts27:Zd Tryz.prog 27=some 1:=by kernel_rfl
@[simp] theorem ta27:tagg Tryz.prog 27=some false:=by kernel_rfl
@[simp] theorem ts28:Zd Tryz.prog 28=some 1:=by kernel_rfl
@[simp] theorem ta28:tagg Tryz.prog 28=some false:=by kernel_rfl
@[simp] theorem ts29:Zd Tryz.prog 29=some 1:=by kernel_rfl
@[simp] theorem ta29:tagg Tryz.prog 29=some false:=by kernel_rfl
@[simp] theorem ts30:Zd Tryz.prog 30=some 1:=by kernel_rfl
@[simp] theorem tb30:Zbg Tryz.prog 30=some 24:=by kernel_rfl
@[simp] theorem ta30:tagg Tryz.prog 30=some false:=by kernel_rfl
@[simp] theorem te30:ZY Tryz.prog 30=some 26:=by kernel_rfl
@[simp] theorem tes30:ZM Tryz.prog 30=some 8:=by kernel_rfl
@[simp] theorem tz30:Zam Tryz.prog 30=some [.sl true 0 []]:=by kernel_rfl
@[simp] theorem ts31:Zd Tryz.prog 31=some 1:=by kernel_rfl
@[simp] theorem tb31:Zbg Tryz.prog 31=some 8:=by kernel_rfl
@[simp] theorem ta31:tagg Tryz.prog 31=some false:=by kernel_rfl
@[simp] theorem tui31:Tryz.prog.underlying 31=some (.int .i64):=by kernel_rfl
@[simp] theorem tz31:Zam Tryz.prog 31=some [.val (.int .i64 0)]:=by kernel_rfl
@[simp] theorem ts32:Zd Tryz.prog 32=some 1:=by kernel_rfl
@[simp] theorem ta32:tagg Tryz.prog 32=some false:=by kernel_rfl
@[simp] theorem te32:ZY Tryz.prog 32=some 9:=by kernel_rfl
@[simp] theorem tes32:ZM Tryz.prog 32=some 1:=by kernel_rfl
@[simp] theorem ts33:Zd Tryz.prog 33=some 6:=by kernel_rfl
@[simp] theorem ta33:tagg Tryz.prog 33=some true:=by kernel_rfl
@[simp] theorem tf33_0:Zg Tryz.prog 33 0=some (0,31,1):=by kernel_rfl
@[simp] theorem tf33_1:Zg Tryz.prog 33 1=some (1,3,1):=by kernel_rfl
@[simp] theorem tf33_2:Zg Tryz.prog 33 2=some (2,3,1):=by kernel_rfl
@[simp] theorem tf33_3:Zg Tryz.prog 33 3=some (3,3,1):=by kernel_rfl
@[simp] theorem tf33_4:Zg Tryz.prog 33 4=some (4,9,1):=by kernel_rfl
@[simp] theorem tf33_5:Zg Tryz.prog 33 5=some (5,32,1):=by kernel_rfl
theorem tst33:Zp Tryz.prog 33=some [(0,31),(1,3),(2,3),(3,3),(4,9),(5,32)]:=by kernel_rfl
@[simp] theorem tp33:Zt Tryz.prog 33=some [(0,1),(1,1),(2,1),(3,1),(4,1),(5,1)]:=by kernel_rfl
@[simp] theorem ts34:Zd Tryz.prog 34=some 6:=by kernel_rfl
@[simp] theorem tb34:Zbg Tryz.prog 34=some 72:=by kernel_rfl
@[simp] theorem ta34:tagg Tryz.prog 34=some true:=by kernel_rfl
@[simp] theorem tf34_0:Zg Tryz.prog 34 0=some (0,31,1):=by kernel_rfl
@[simp] theorem tf34_1:Zg Tryz.prog 34 1=some (1,3,1):=by kernel_rfl
@[simp] theorem tf34_2:Zg Tryz.prog 34 2=some (2,3,1):=by kernel_rfl
@[simp] theorem tf34_3:Zg Tryz.prog 34 3=some (3,3,1):=by kernel_rfl
@[simp] theorem tf34_4:Zg Tryz.prog 34 4=some (4,9,1):=by kernel_rfl
@[simp] theorem tf34_5:Zg Tryz.prog 34 5=some (5,32,1):=by kernel_rfl
theorem tst34:Zp Tryz.prog 34=some [(0,31),(1,3),(2,3),(3,3),(4,9),(5,32)]:=by kernel_rfl
@[simp] theorem tp34:Zt Tryz.prog 34=some [(0,1),(1,1),(2,1),(3,1),(4,1),(5,1)]:=by kernel_rfl
@[simp] theorem tz34:Zam Tryz.prog 34=some [.val (.int .i64 0),.val (.int .i64 0),.val (.int .i64 0),.val (.int .i64 0),.val (.string .empty),.sl true 0 []]:=by kernel_rfl
@[simp] theorem ts35:Zd Tryz.prog 35=some 1:=by kernel_rfl
@[simp] theorem ta35:tagg Tryz.prog 35=some false:=by kernel_rfl
@[simp] theorem ts36:Zd Tryz.prog 36=some 1:=by kernel_rfl
@[simp] theorem ta36:tagg Tryz.prog 36=some false:=by kernel_rfl
@[simp] theorem ts37:Zd Tryz.prog 37=some 1:=by kernel_rfl
@[simp] theorem ta37:tagg Tryz.prog 37=some false:=by kernel_rfl
@[simp] theorem ts38:Zd Tryz.prog 38=some 1:=by kernel_rfl
@[simp] theorem ta38:tagg Tryz.prog 38=some false:=by kernel_rfl
@[simp] theorem ts39:Zd Tryz.prog 39=some 6:=by kernel_rfl
@[simp] theorem ta39:tagg Tryz.prog 39=some true:=by kernel_rfl
@[simp] theorem tf39_0:Zg Tryz.prog 39 0=some (0,24,2):=by kernel_rfl
@[simp] theorem tf39_1:Zg Tryz.prog 39 1=some (2,3,1):=by kernel_rfl
@[simp] theorem tf39_2:Zg Tryz.prog 39 2=some (3,9,1):=by kernel_rfl
@[simp] theorem tf39_3:Zg Tryz.prog 39 3=some (4,3,1):=by kernel_rfl
@[simp] theorem tf39_4:Zg Tryz.prog 39 4=some (5,9,1):=by kernel_rfl
theorem tst39:Zp Tryz.prog 39=some [(0,24),(2,3),(3,9),(4,3),(5,9)]:=by kernel_rfl
@[simp] theorem tp39:Zt Tryz.prog 39=some [(0,2),(2,1),(3,1),(4,1),(5,1)]:=by kernel_rfl
@[simp] theorem ts40:Zd Tryz.prog 40=some 6:=by kernel_rfl
@[simp] theorem ta40:tagg Tryz.prog 40=some true:=by kernel_rfl
@[simp] theorem tf40_0:Zg Tryz.prog 40 0=some (0,24,2):=by kernel_rfl
@[simp] theorem tf40_1:Zg Tryz.prog 40 1=some (2,3,1):=by kernel_rfl
@[simp] theorem tf40_2:Zg Tryz.prog 40 2=some (3,9,1):=by kernel_rfl
@[simp] theorem tf40_3:Zg Tryz.prog 40 3=some (4,3,1):=by kernel_rfl
@[simp] theorem tf40_4:Zg Tryz.prog 40 4=some (5,9,1):=by kernel_rfl
theorem tst40:Zp Tryz.prog 40=some [(0,24),(2,3),(3,9),(4,3),(5,9)]:=by kernel_rfl
@[simp] theorem tp40:Zt Tryz.prog 40=some [(0,2),(2,1),(3,1),(4,1),(5,1)]:=by kernel_rfl
@[simp] theorem ts41:Zd Tryz.prog 41=some 1:=by kernel_rfl
@[simp] theorem ta41:tagg Tryz.prog 41=some false:=by kernel_rfl
@[simp] theorem te41:ZY Tryz.prog 41=some 121:=by kernel_rfl
@[simp] theorem tes41:ZM Tryz.prog 41=some 2:=by kernel_rfl
@[simp] theorem ts42:Zd Tryz.prog 42=some 5:=by kernel_rfl
@[simp] theorem ta42:tagg Tryz.prog 42=some true:=by kernel_rfl
@[simp] theorem tf42_0:Zg Tryz.prog 42 0=some (0,3,1):=by kernel_rfl
@[simp] theorem tf42_1:Zg Tryz.prog 42 1=some (1,3,1):=by kernel_rfl
@[simp] theorem tf42_2:Zg Tryz.prog 42 2=some (2,3,1):=by kernel_rfl
@[simp] theorem tf42_3:Zg Tryz.prog 42 3=some (3,9,1):=by kernel_rfl
@[simp] theorem tf42_4:Zg Tryz.prog 42 4=some (4,41,1):=by kernel_rfl
theorem tst42:Zp Tryz.prog 42=some [(0,3),(1,3),(2,3),(3,9),(4,41)]:=by kernel_rfl
@[simp] theorem tp42:Zt Tryz.prog 42=some [(0,1),(1,1),(2,1),(3,1),(4,1)]:=by kernel_rfl
@[simp] theorem ts43:Zd Tryz.prog 43=some 5:=by kernel_rfl
@[simp] theorem tb43:Zbg Tryz.prog 43=some 64:=by kernel_rfl
@[simp] theorem ta43:tagg Tryz.prog 43=some true:=by kernel_rfl
@[simp] theorem tf43_0:Zg Tryz.prog 43 0=some (0,3,1):=by kernel_rfl
@[simp] theorem tf43_1:Zg Tryz.prog 43 1=some (1,3,1):=by kernel_rfl
@[simp] theorem tf43_2:Zg Tryz.prog 43 2=some (2,3,1):=by kernel_rfl
@[simp] theorem tf43_3:Zg Tryz.prog 43 3=some (3,9,1):=by kernel_rfl
@[simp] theorem tf43_4:Zg Tryz.prog 43 4=some (4,41,1):=by kernel_rfl
theorem tst43:Zp Tryz.prog 43=some [(0,3),(1,3),(2,3),(3,9),(4,41)]:=by kernel_rfl
@[simp] theorem tp43:Zt Tryz.prog 43=some [(0,1),(1,1),(2,1),(3,1),(4,1)]:=by kernel_rfl
@[simp] theorem tz43:Zam Tryz.prog 43=some [.val (.int .i64 0),.val (.int .i64 0),.val (.int .i64 0),.val (.string .empty),.sl true 0 []]:=by kernel_rfl
@[simp] theorem ts44:Zd Tryz.prog 44=some 1:=by kernel_rfl
@[simp] theorem ta44:tagg Tryz.prog 44=some false:=by kernel_rfl
@[simp] theorem ts45:Zd Tryz.prog 45=some 1:=by kernel_rfl
@[simp] theorem ta45:tagg Tryz.prog 45=some false:=by kernel_rfl
@[simp] theorem ts46:Zd Tryz.prog 46=some 1:=by kernel_rfl
@[simp] theorem ta46:tagg Tryz.prog 46=some false:=by kernel_rfl
@[simp] theorem ts47:Zd Tryz.prog 47=some 1:=by kernel_rfl
@[simp] theorem ta47:tagg Tryz.prog 47=some false:=by kernel_rfl
@[simp] theorem ts48:Zd Tryz.prog 48=some 12:=by kernel_rfl
@[simp] theorem ta48:tagg Tryz.prog 48=some true:=by kernel_rfl
@[simp] theorem tf48_0:Zg Tryz.prog 48 0=some (0,24,2):=by kernel_rfl
@[simp] theorem tf48_1:Zg Tryz.prog 48 1=some (2,26,8):=by kernel_rfl
@[simp] theorem tf48_2:Zg Tryz.prog 48 2=some (10,3,1):=by kernel_rfl
@[simp] theorem tf48_3:Zg Tryz.prog 48 3=some (11,9,1):=by kernel_rfl
theorem tst48:Zp Tryz.prog 48=some [(0,24),(2,26),(10,3),(11,9)]:=by kernel_rfl
@[simp] theorem tp48:Zt Tryz.prog 48=some [(0,2),(2,8),(10,1),(11,1)]:=by kernel_rfl
@[simp] theorem ts49:Zd Tryz.prog 49=some 12:=by kernel_rfl
@[simp] theorem ta49:tagg Tryz.prog 49=some true:=by kernel_rfl
@[simp] theorem tf49_0:Zg Tryz.prog 49 0=some (0,24,2):=by kernel_rfl
@[simp] theorem tf49_1:Zg Tryz.prog 49 1=some (2,26,8):=by kernel_rfl
@[simp] theorem tf49_2:Zg Tryz.prog 49 2=some (10,3,1):=by kernel_rfl
@[simp] theorem tf49_3:Zg Tryz.prog 49 3=some (11,9,1):=by kernel_rfl
theorem tst49:Zp Tryz.prog 49=some [(0,24),(2,26),(10,3),(11,9)]:=by kernel_rfl
@[simp] theorem tp49:Zt Tryz.prog 49=some [(0,2),(2,8),(10,1),(11,1)]:=by kernel_rfl
@[simp] theorem ts50:Zd Tryz.prog 50=some 1:=by kernel_rfl
@[simp] theorem ta50:tagg Tryz.prog 50=some false:=by kernel_rfl
@[simp] theorem ts51:Zd Tryz.prog 51=some 1:=by kernel_rfl
@[simp] theorem ta51:tagg Tryz.prog 51=some false:=by kernel_rfl
@[simp] theorem ts52:Zd Tryz.prog 52=some 1:=by kernel_rfl
@[simp] theorem tb52:Zbg Tryz.prog 52=some 24:=by kernel_rfl
@[simp] theorem ta52:tagg Tryz.prog 52=some false:=by kernel_rfl
@[simp] theorem te52:ZY Tryz.prog 52=some 3:=by kernel_rfl
@[simp] theorem tes52:ZM Tryz.prog 52=some 1:=by kernel_rfl
@[simp] theorem tz52:Zam Tryz.prog 52=some [.sl true 0 []]:=by kernel_rfl
@[simp] theorem ts53:Zd Tryz.prog 53=some 1:=by kernel_rfl
@[simp] theorem ta53:tagg Tryz.prog 53=some false:=by kernel_rfl
@[simp] theorem ts54:Zd Tryz.prog 54=some 1:=by kernel_rfl
@[simp] theorem ta54:tagg Tryz.prog 54=some false:=by kernel_rfl
@[simp] theorem ts55:Zd Tryz.prog 55=some 1:=by kernel_rfl
@[simp] theorem ta55:tagg Tryz.prog 55=some false:=by kernel_rfl
@[simp] theorem ts56:Zd Tryz.prog 56=some 1:=by kernel_rfl
@[simp] theorem ta56:tagg Tryz.prog 56=some false:=by kernel_rfl
@[simp] theorem ts57:Zd Tryz.prog 57=some 1:=by kernel_rfl
@[simp] theorem ta57:tagg Tryz.prog 57=some false:=by kernel_rfl
@[simp] theorem te57:ZY Tryz.prog 57=some 34:=by kernel_rfl
@[simp] theorem tes57:ZM Tryz.prog 57=some 6:=by kernel_rfl
@[simp] theorem ts58:Zd Tryz.prog 58=some 1:=by kernel_rfl
@[simp] theorem ta58:tagg Tryz.prog 58=some false:=by kernel_rfl
@[simp] theorem ts59:Zd Tryz.prog 59=some 1:=by kernel_rfl
@[simp] theorem ta59:tagg Tryz.prog 59=some false:=by kernel_rfl
@[simp] theorem ts60:Zd Tryz.prog 60=some 1:=by kernel_rfl
@[simp] theorem ta60:tagg Tryz.prog 60=some false:=by kernel_rfl
@[simp] theorem ts61:Zd Tryz.prog 61=some 1:=by kernel_rfl
@[simp] theorem ta61:tagg Tryz.prog 61=some false:=by kernel_rfl
@[simp] theorem ts62:Zd Tryz.prog 62=some 1:=by kernel_rfl
@[simp] theorem ta62:tagg Tryz.prog 62=some false:=by kernel_rfl
@[simp] theorem ts63:Zd Tryz.prog 63=some 1:=by kernel_rfl
@[simp] theorem ta63:tagg Tryz.prog 63=some false:=by kernel_rfl
@[simp] theorem te63:ZY Tryz.prog 63=some 66:=by kernel_rfl
@[simp] theorem tes63:ZM Tryz.prog 63=some 7:=by kernel_rfl
@[simp] theorem ts64:Zd Tryz.prog 64=some 1:=by kernel_rfl
@[simp] theorem ta64:tagg Tryz.prog 64=some false:=by kernel_rfl
@[simp] theorem ts65:Zd Tryz.prog 65=some 7:=by kernel_rfl
@[simp] theorem ta65:tagg Tryz.prog 65=some true:=by kernel_rfl
@[simp] theorem tf65_0:Zg Tryz.prog 65 0=some (0,3,1):=by kernel_rfl
@[simp] theorem tf65_1:Zg Tryz.prog 65 1=some (1,4,1):=by kernel_rfl
@[simp] theorem tf65_2:Zg Tryz.prog 65 2=some (2,43,5):=by kernel_rfl
theorem tst65:Zp Tryz.prog 65=some [(0,3),(1,4),(2,43)]:=by kernel_rfl
@[simp] theorem tp65:Zt Tryz.prog 65=some [(0,1),(1,1),(2,5)]:=by kernel_rfl
@[simp] theorem ts66:Zd Tryz.prog 66=some 7:=by kernel_rfl
@[simp] theorem tb66:Zbg Tryz.prog 66=some 80:=by kernel_rfl
@[simp] theorem ta66:tagg Tryz.prog 66=some true:=by kernel_rfl
@[simp] theorem tf66_0:Zg Tryz.prog 66 0=some (0,3,1):=by kernel_rfl
@[simp] theorem tf66_1:Zg Tryz.prog 66 1=some (1,4,1):=by kernel_rfl
@[simp] theorem tf66_2:Zg Tryz.prog 66 2=some (2,43,5):=by kernel_rfl
theorem tst66:Zp Tryz.prog 66=some [(0,3),(1,4),(2,43)]:=by kernel_rfl
@[simp] theorem tp66:Zt Tryz.prog 66=some [(0,1),(1,1),(2,5)]:=by kernel_rfl
@[simp] theorem tz66:Zam Tryz.prog 66=some [.val (.int .i64 0),.val (.bool false),.val (.int .i64 0),.val (.int .i64 0),.val (.int .i64 0),.val (.string .empty),.sl true 0 []]:=by kernel_rfl
@[simp] theorem ts67:Zd Tryz.prog 67=some 1:=by kernel_rfl
@[simp] theorem ta67:tagg Tryz.prog 67=some false:=by kernel_rfl
@[simp] theorem ts68:Zd Tryz.prog 68=some 6:=by kernel_rfl
@[simp] theorem ta68:tagg Tryz.prog 68=some true:=by kernel_rfl
@[simp] theorem tf68_0:Zg Tryz.prog 68 0=some (0,24,2):=by kernel_rfl
@[simp] theorem tf68_1:Zg Tryz.prog 68 1=some (2,30,1):=by kernel_rfl
@[simp] theorem tf68_2:Zg Tryz.prog 68 2=some (3,24,2):=by kernel_rfl
@[simp] theorem tf68_3:Zg Tryz.prog 68 3=some (5,3,1):=by kernel_rfl
theorem tst68:Zp Tryz.prog 68=some [(0,24),(2,30),(3,24),(5,3)]:=by kernel_rfl
@[simp] theorem tp68:Zt Tryz.prog 68=some [(0,2),(2,1),(3,2),(5,1)]:=by kernel_rfl
@[simp] theorem ts69:Zd Tryz.prog 69=some 6:=by kernel_rfl
@[simp] theorem ta69:tagg Tryz.prog 69=some true:=by kernel_rfl
@[simp] theorem tf69_0:Zg Tryz.prog 69 0=some (0,24,2):=by kernel_rfl
@[simp] theorem tf69_1:Zg Tryz.prog 69 1=some (2,30,1):=by kernel_rfl
@[simp] theorem tf69_2:Zg Tryz.prog 69 2=some (3,24,2):=by kernel_rfl
@[simp] theorem tf69_3:Zg Tryz.prog 69 3=some (5,3,1):=by kernel_rfl
theorem tst69:Zp Tryz.prog 69=some [(0,24),(2,30),(3,24),(5,3)]:=by kernel_rfl
@[simp] theorem tp69:Zt Tryz.prog 69=some [(0,2),(2,1),(3,2),(5,1)]:=by kernel_rfl
@[simp] theorem ts70:Zd Tryz.prog 70=some 1:=by kernel_rfl
@[simp] theorem ta70:tagg Tryz.prog 70=some false:=by kernel_rfl
@[simp] theorem ts71:Zd Tryz.prog 71=some 1:=by kernel_rfl
@[simp] theorem ta71:tagg Tryz.prog 71=some false:=by kernel_rfl
@[simp] theorem ts72:Zd Tryz.prog 72=some 1:=by kernel_rfl
@[simp] theorem ta72:tagg Tryz.prog 72=some false:=by kernel_rfl
@[simp] theorem te72:ZY Tryz.prog 72=some 148:=by kernel_rfl
@[simp] theorem tes72:ZM Tryz.prog 72=some 2:=by kernel_rfl
@[simp] theorem ts73:Zd Tryz.prog 73=some 1:=by kernel_rfl
@[simp] theorem ta73:tagg Tryz.prog 73=some false:=by kernel_rfl
@[simp] theorem te73:ZY Tryz.prog 73=some 145:=by kernel_rfl
@[simp] theorem tes73:ZM Tryz.prog 73=some 2:=by kernel_rfl
@[simp] theorem ts74:Zd Tryz.prog 74=some 3:=by kernel_rfl
@[simp] theorem ta74:tagg Tryz.prog 74=some true:=by kernel_rfl
@[simp] theorem tf74_0:Zg Tryz.prog 74 0=some (0,72,1):=by kernel_rfl
@[simp] theorem tf74_1:Zg Tryz.prog 74 1=some (1,73,1):=by kernel_rfl
@[simp] theorem tf74_2:Zg Tryz.prog 74 2=some (2,3,1):=by kernel_rfl
theorem tst74:Zp Tryz.prog 74=some [(0,72),(1,73),(2,3)]:=by kernel_rfl
@[simp] theorem tp74:Zt Tryz.prog 74=some [(0,1),(1,1),(2,1)]:=by kernel_rfl
@[simp] theorem ts75:Zd Tryz.prog 75=some 3:=by kernel_rfl
@[simp] theorem ta75:tagg Tryz.prog 75=some true:=by kernel_rfl
@[simp] theorem tf75_0:Zg Tryz.prog 75 0=some (0,72,1):=by kernel_rfl
@[simp] theorem tf75_1:Zg Tryz.prog 75 1=some (1,73,1):=by kernel_rfl
@[simp] theorem tf75_2:Zg Tryz.prog 75 2=some (2,3,1):=by kernel_rfl
theorem ZrV:Zp Tryz.prog 75=some [(0,72),(1,73),(2,3)]:=by kernel_rfl
@[simp] theorem tp75:Zt Tryz.prog 75=some [(0,1),(1,1),(2,1)]:=by kernel_rfl
@[simp] theorem tz75:Zam Tryz.prog 75=some [.sl true 0 [],.sl true 0 [],.val (.int .i64 0)]:=by kernel_rfl
@[simp] theorem ts76:Zd Tryz.prog 76=some 6:=by kernel_rfl
@[simp] theorem ta76:tagg Tryz.prog 76=some true:=by kernel_rfl
@[simp] theorem tf76_0:Zg Tryz.prog 76 0=some (0,3,1):=by kernel_rfl
@[simp] theorem tf76_1:Zg Tryz.prog 76 1=some (1,24,2):=by kernel_rfl
@[simp] theorem tf76_2:Zg Tryz.prog 76 2=some (3,24,2):=by kernel_rfl
@[simp] theorem tf76_3:Zg Tryz.prog 76 3=some (5,52,1):=by kernel_rfl
theorem tst76:Zp Tryz.prog 76=some [(0,3),(1,24),(3,24),(5,52)]:=by kernel_rfl
@[simp] theorem tp76:Zt Tryz.prog 76=some [(0,1),(1,2),(3,2),(5,1)]:=by kernel_rfl
@[simp] theorem ts77:Zd Tryz.prog 77=some 6:=by kernel_rfl
@[simp] theorem ta77:tagg Tryz.prog 77=some true:=by kernel_rfl
@[simp] theorem tf77_0:Zg Tryz.prog 77 0=some (0,3,1):=by kernel_rfl
@[simp] theorem tf77_1:Zg Tryz.prog 77 1=some (1,24,2):=by kernel_rfl
@[simp] theorem tf77_2:Zg Tryz.prog 77 2=some (3,24,2):=by kernel_rfl
@[simp] theorem tf77_3:Zg Tryz.prog 77 3=some (5,52,1):=by kernel_rfl
theorem Zxp:Zp Tryz.prog 77=some [(0,3),(1,24),(3,24),(5,52)]:=by kernel_rfl
@[simp] theorem tp77:Zt Tryz.prog 77=some [(0,1),(1,2),(3,2),(5,1)]:=by kernel_rfl
@[simp] theorem tz77:Zam Tryz.prog 77=some [.val (.int .i64 0),.sl true 0 [],.val (.int .i64 0),.sl true 0 [],.val (.int .i64 0),.sl true 0 []]:=by kernel_rfl
@[simp] theorem ts78:Zd Tryz.prog 78=some 1:=by kernel_rfl
@[simp] theorem ta78:tagg Tryz.prog 78=some false:=by kernel_rfl
@[simp] theorem ts79:Zd Tryz.prog 79=some 1:=by kernel_rfl
@[simp] theorem ta79:tagg Tryz.prog 79=some false:=by kernel_rfl
@[simp] theorem ts80:Zd Tryz.prog 80=some 1:=by kernel_rfl
@[simp] theorem ta80:tagg Tryz.prog 80=some false:=by kernel_rfl
@[simp] theorem ts81:Zd Tryz.prog 81=some 1:=by kernel_rfl
@[simp] theorem ta81:tagg Tryz.prog 81=some false:=by kernel_rfl
@[simp] theorem ts82:Zd Tryz.prog 82=some 1:=by kernel_rfl
@[simp] theorem ta82:tagg Tryz.prog 82=some false:=by kernel_rfl
@[simp] theorem ts83:Zd Tryz.prog 83=some 1:=by kernel_rfl
@[simp] theorem ta83:tagg Tryz.prog 83=some false:=by kernel_rfl
@[simp] theorem ts84:Zd Tryz.prog 84=some 1:=by kernel_rfl
@[simp] theorem ta84:tagg Tryz.prog 84=some false:=by kernel_rfl
@[simp] theorem ts85:Zd Tryz.prog 85=some 1:=by kernel_rfl
@[simp] theorem ta85:tagg Tryz.prog 85=some false:=by kernel_rfl
@[simp] theorem ts86:Zd Tryz.prog 86=some 1:=by kernel_rfl
@[simp] theorem ta86:tagg Tryz.prog 86=some false:=by kernel_rfl
@[simp] theorem ts87:Zd Tryz.prog 87=some 1:=by kernel_rfl
@[simp] theorem ta87:tagg Tryz.prog 87=some false:=by kernel_rfl
@[simp] theorem ts88:Zd Tryz.prog 88=some 1:=by kernel_rfl
@[simp] theorem ta88:tagg Tryz.prog 88=some false:=by kernel_rfl
@[simp] theorem ts89:Zd Tryz.prog 89=some 1:=by kernel_rfl
@[simp] theorem ta89:tagg Tryz.prog 89=some false:=by kernel_rfl
@[simp] theorem te89:ZY Tryz.prog 89=some 30:=by kernel_rfl
@[simp] theorem tes89:ZM Tryz.prog 89=some 1:=by kernel_rfl
@[simp] theorem ts90:Zd Tryz.prog 90=some 1:=by kernel_rfl
@[simp] theorem ta90:tagg Tryz.prog 90=some false:=by kernel_rfl
@[simp] theorem ts91:Zd Tryz.prog 91=some 1:=by kernel_rfl
@[simp] theorem ta91:tagg Tryz.prog 91=some false:=by kernel_rfl
@[simp] theorem ts92:Zd Tryz.prog 92=some 1:=by kernel_rfl
@[simp] theorem ta92:tagg Tryz.prog 92=some false:=by kernel_rfl
@[simp] theorem ts93:Zd Tryz.prog 93=some 1:=by kernel_rfl
@[simp] theorem ta93:tagg Tryz.prog 93=some false:=by kernel_rfl
@[simp] theorem ts94:Zd Tryz.prog 94=some 1:=by kernel_rfl
@[simp] theorem ta94:tagg Tryz.prog 94=some false:=by kernel_rfl
@[simp] theorem ts95:Zd Tryz.prog 95=some 1:=by kernel_rfl
@[simp] theorem ta95:tagg Tryz.prog 95=some false:=by kernel_rfl
@[simp] theorem ts96:Zd Tryz.prog 96=some 1:=by kernel_rfl
@[simp] theorem ta96:tagg Tryz.prog 96=some false:=by kernel_rfl
@[simp] theorem ts97:Zd Tryz.prog 97=some 1:=by kernel_rfl
@[simp] theorem ta97:tagg Tryz.prog 97=some false:=by kernel_rfl
@[simp] theorem ts98:Zd Tryz.prog 98=some 1:=by kernel_rfl
@[simp] theorem ta98:tagg Tryz.prog 98=some false:=by kernel_rfl
@[simp] theorem ts99:Zd Tryz.prog 99=some 1:=by kernel_rfl
@[simp] theorem ta99:tagg Tryz.prog 99=some false:=by kernel_rfl
@[simp] theorem ts100:Zd Tryz.prog 100=some 13:=by kernel_rfl
@[simp] theorem ta100:tagg Tryz.prog 100=some true:=by kernel_rfl
@[simp] theorem tf100_0:Zg Tryz.prog 100 0=some (0,75,3):=by kernel_rfl
@[simp] theorem tf100_1:Zg Tryz.prog 100 1=some (3,30,1):=by kernel_rfl
@[simp] theorem tf100_2:Zg Tryz.prog 100 2=some (4,30,1):=by kernel_rfl
@[simp] theorem tf100_3:Zg Tryz.prog 100 3=some (5,26,8):=by kernel_rfl
theorem tst100:Zp Tryz.prog 100=some [(0,75),(3,30),(4,30),(5,26)]:=by kernel_rfl
@[simp] theorem tp100:Zt Tryz.prog 100=some [(0,3),(3,1),(4,1),(5,8)]:=by kernel_rfl
@[simp] theorem ts101:Zd Tryz.prog 101=some 13:=by kernel_rfl
@[simp] theorem ta101:tagg Tryz.prog 101=some true:=by kernel_rfl
@[simp] theorem tf101_0:Zg Tryz.prog 101 0=some (0,75,3):=by kernel_rfl
@[simp] theorem tf101_1:Zg Tryz.prog 101 1=some (3,30,1):=by kernel_rfl
@[simp] theorem tf101_2:Zg Tryz.prog 101 2=some (4,30,1):=by kernel_rfl
@[simp] theorem tf101_3:Zg Tryz.prog 101 3=some (5,26,8):=by kernel_rfl
theorem tst101:Zp Tryz.prog 101=some [(0,75),(3,30),(4,30),(5,26)]:=by kernel_rfl
@[simp] theorem tp101:Zt Tryz.prog 101=some [(0,3),(3,1),(4,1),(5,8)]:=by kernel_rfl
@[simp] theorem tz101:Zam Tryz.prog 101=some [.sl true 0 [],.sl true 0 [],.val (.int .i64 0),.sl true 0 [],.sl true 0 [],.val (.int .i64 0),.val (.int .i64 0),.val (.int .i64 0),.val (.int .i64 0),.val (.int .i64 0),.val (.string .empty),.val (.string .empty),.val (.string .empty)]:=by kernel_rfl
@[simp] theorem ts102:Zd Tryz.prog 102=some 1:=by kernel_rfl
@[simp] theorem ta102:tagg Tryz.prog 102=some false:=by kernel_rfl
@[simp] theorem ts103:Zd Tryz.prog 103=some 23:=by kernel_rfl
@[simp] theorem ta103:tagg Tryz.prog 103=some true:=by kernel_rfl
@[simp] theorem tf103_0:Zg Tryz.prog 103 0=some (0,75,3):=by kernel_rfl
@[simp] theorem tf103_1:Zg Tryz.prog 103 1=some (3,77,6):=by kernel_rfl
@[simp] theorem tf103_2:Zg Tryz.prog 103 2=some (9,26,8):=by kernel_rfl
@[simp] theorem tf103_3:Zg Tryz.prog 103 3=some (17,77,6):=by kernel_rfl
theorem tst103:Zp Tryz.prog 103=some [(0,75),(3,77),(9,26),(17,77)]:=by kernel_rfl
@[simp] theorem tp103:Zt Tryz.prog 103=some [(0,3),(3,6),(9,8),(17,6)]:=by kernel_rfl
@[simp] theorem ts104:Zd Tryz.prog 104=some 23:=by kernel_rfl
@[simp] theorem ta104:tagg Tryz.prog 104=some true:=by kernel_rfl
@[simp] theorem tf104_0:Zg Tryz.prog 104 0=some (0,75,3):=by kernel_rfl
@[simp] theorem tf104_1:Zg Tryz.prog 104 1=some (3,77,6):=by kernel_rfl
@[simp] theorem tf104_2:Zg Tryz.prog 104 2=some (9,26,8):=by kernel_rfl
@[simp] theorem tf104_3:Zg Tryz.prog 104 3=some (17,77,6):=by kernel_rfl
theorem tst104:Zp Tryz.prog 104=some [(0,75),(3,77),(9,26),(17,77)]:=by kernel_rfl
@[simp] theorem tp104:Zt Tryz.prog 104=some [(0,3),(3,6),(9,8),(17,6)]:=by kernel_rfl
@[simp] theorem tz104:Zam Tryz.prog 104=some [.sl true 0 [],.sl true 0 [],.val (.int .i64 0),.val (.int .i64 0),.sl true 0 [],.val (.int .i64 0),.sl true 0 [],.val (.int .i64 0),.sl true 0 [],.val (.int .i64 0),.val (.int .i64 0),.val (.int .i64 0),.val (.int .i64 0),.val (.int .i64 0),.val (.string .empty),.val (.string .empty),.val (.string .empty),.val (.int .i64 0),.sl true 0 [],.val (.int .i64 0),.sl true 0 [],.val (.int .i64 0),.sl true 0 []]:=by kernel_rfl
@[simp] theorem ts105:Zd Tryz.prog 105=some 1:=by kernel_rfl
@[simp] theorem ta105:tagg Tryz.prog 105=some false:=by kernel_rfl
@[simp] theorem ts107:Zd Tryz.prog 107=some 1:=by kernel_rfl
@[simp] theorem ta107:tagg Tryz.prog 107=some false:=by kernel_rfl
@[simp] theorem ts108:Zd Tryz.prog 108=some 1:=by kernel_rfl
@[simp] theorem ta108:tagg Tryz.prog 108=some false:=by kernel_rfl
@[simp] theorem tv108:ZkO Tryz.prog 108=some (.val .nilFunc):=by kernel_rfl
@[simp] theorem ts109:Zd Tryz.prog 109=some 1:=by kernel_rfl
@[simp] theorem ta109:tagg Tryz.prog 109=some false:=by kernel_rfl
@[simp] theorem ts110:Zd Tryz.prog 110=some 1:=by kernel_rfl
@[simp] theorem ta110:tagg Tryz.prog 110=some false:=by kernel_rfl
@[simp] theorem tm110:tmap Tryz.prog 110=some (.int .i64,108):=by kernel_rfl
@[simp] theorem ts111:Zd Tryz.prog 111=some 1:=by kernel_rfl
@[simp] theorem ta111:tagg Tryz.prog 111=some false:=by kernel_rfl
@[simp] theorem ts112:Zd Tryz.prog 112=some 1:=by kernel_rfl
@[simp] theorem ta112:tagg Tryz.prog 112=some false:=by kernel_rfl
@[simp] theorem tv112:ZkO Tryz.prog 112=some (.val .nilFunc):=by kernel_rfl
@[simp] theorem ts113:Zd Tryz.prog 113=some 1:=by kernel_rfl
@[simp] theorem ta113:tagg Tryz.prog 113=some false:=by kernel_rfl
@[simp] theorem ts114:Zd Tryz.prog 114=some 1:=by kernel_rfl
@[simp] theorem ta114:tagg Tryz.prog 114=some false:=by kernel_rfl
@[simp] theorem tm114:tmap Tryz.prog 114=some (.int .i64,112):=by kernel_rfl
@[simp] theorem ts115:Zd Tryz.prog 115=some 1:=by kernel_rfl
@[simp] theorem ta115:tagg Tryz.prog 115=some false:=by kernel_rfl
@[simp] theorem ts116:Zd Tryz.prog 116=some 1:=by kernel_rfl
@[simp] theorem ta116:tagg Tryz.prog 116=some false:=by kernel_rfl
@[simp] theorem ts117:Zd Tryz.prog 117=some 1:=by kernel_rfl
@[simp] theorem ta117:tagg Tryz.prog 117=some false:=by kernel_rfl
@[simp] theorem ts118:Zd Tryz.prog 118=some 1:=by kernel_rfl
@[simp] theorem ta118:tagg Tryz.prog 118=some false:=by kernel_rfl
@[simp] theorem ts119:Zd Tryz.prog 119=some 1:=by kernel_rfl
@[simp] theorem ta119:tagg Tryz.prog 119=some false:=by kernel_rfl
@[simp] theorem ts120:Zd Tryz.prog 120=some 2:=by kernel_rfl
@[simp] theorem ta120:tagg Tryz.prog 120=some true:=by kernel_rfl
@[simp] theorem tf120_0:Zg Tryz.prog 120 0=some (0,9,1):=by kernel_rfl
@[simp] theorem tf120_1:Zg Tryz.prog 120 1=some (1,3,1):=by kernel_rfl
theorem tst120:Zp Tryz.prog 120=some [(0,9),(1,3)]:=by kernel_rfl
@[simp] theorem tp120:Zt Tryz.prog 120=some [(0,1),(1,1)]:=by kernel_rfl
@[simp] theorem Zxq:Zd Tryz.prog 121=some 2:=by kernel_rfl
@[simp] theorem tb121:Zbg Tryz.prog 121=some 24:=by kernel_rfl
@[simp] theorem ta121:tagg Tryz.prog 121=some true:=by kernel_rfl
@[simp] theorem tf121_0:Zg Tryz.prog 121 0=some (0,9,1):=by kernel_rfl
@[simp] theorem tf121_1:Zg Tryz.prog 121 1=some (1,3,1):=by kernel_rfl
theorem tst121:Zp Tryz.prog 121=some [(0,9),(1,3)]:=by kernel_rfl
@[simp] theorem tfl121:ZmL Tryz.prog 121=some [.string,.int .i64]:=by kernel_rfl
@[simp] theorem tp121:Zt Tryz.prog 121=some [(0,1),(1,1)]:=by kernel_rfl
@[simp] theorem tz121:Zam Tryz.prog 121=some [.val (.string .empty),.val (.int .i64 0)]:=by kernel_rfl
@[simp] theorem ts122:Zd Tryz.prog 122=some 1:=by kernel_rfl
@[simp] theorem ta122:tagg Tryz.prog 122=some false:=by kernel_rfl
@[simp] theorem ts123:Zd Tryz.prog 123=some 1:=by kernel_rfl
@[simp] theorem ta123:tagg Tryz.prog 123=some false:=by kernel_rfl
@[simp] theorem ts124:Zd Tryz.prog 124=some 1:=by kernel_rfl
@[simp] theorem ta124:tagg Tryz.prog 124=some false:=by kernel_rfl
@[simp] theorem ts125:Zd Tryz.prog 125=some 1:=by kernel_rfl
@[simp] theorem ta125:tagg Tryz.prog 125=some false:=by kernel_rfl
@[simp] theorem ts126:Zd Tryz.prog 126=some 1:=by kernel_rfl
@[simp] theorem ta126:tagg Tryz.prog 126=some false:=by kernel_rfl
@[simp] theorem ts127:Zd Tryz.prog 127=some 1:=by kernel_rfl
@[simp] theorem ta127:tagg Tryz.prog 127=some false:=by kernel_rfl
@[simp] theorem ts128:Zd Tryz.prog 128=some 1:=by kernel_rfl
@[simp] theorem ta128:tagg Tryz.prog 128=some false:=by kernel_rfl
@[simp] theorem ts129:Zd Tryz.prog 129=some 1:=by kernel_rfl
@[simp] theorem ta129:tagg Tryz.prog 129=some false:=by kernel_rfl
@[simp] theorem ts130:Zd Tryz.prog 130=some 1:=by kernel_rfl
@[simp] theorem ta130:tagg Tryz.prog 130=some false:=by kernel_rfl
@[simp] theorem ts131:Zd Tryz.prog 131=some 1:=by kernel_rfl
@[simp] theorem ta131:tagg Tryz.prog 131=some false:=by kernel_rfl
@[simp] theorem ts132:Zd Tryz.prog 132=some 1:=by kernel_rfl
@[simp] theorem ta132:tagg Tryz.prog 132=some false:=by kernel_rfl
@[simp] theorem ts133:Zd Tryz.prog 133=some 1:=by kernel_rfl
@[simp] theorem ta133:tagg Tryz.prog 133=some false:=by kernel_rfl
@[simp] theorem ts134:Zd Tryz.prog 134=some 1:=by kernel_rfl
@[simp] theorem ta134:tagg Tryz.prog 134=some false:=by kernel_rfl
@[simp] theorem ts135:Zd Tryz.prog 135=some 1:=by kernel_rfl
@[simp] theorem ta135:tagg Tryz.prog 135=some false:=by kernel_rfl
@[simp] theorem ts136:Zd Tryz.prog 136=some 1:=by kernel_rfl
@[simp] theorem ta136:tagg Tryz.prog 136=some false:=by kernel_rfl
@[simp] theorem tz136:Zam Tryz.prog 136=some [.val .nilFunc]:=by kernel_rfl
@[simp] theorem ts137:Zd Tryz.prog 137=some 1:=by kernel_rfl
@[simp] theorem ta137:tagg Tryz.prog 137=some false:=by kernel_rfl
@[simp] theorem ts138:Zd Tryz.prog 138=some 1:=by kernel_rfl
@[simp] theorem ta138:tagg Tryz.prog 138=some false:=by kernel_rfl
@[simp] theorem ts139:Zd Tryz.prog 139=some 1:=by kernel_rfl
@[simp] theorem ta139:tagg Tryz.prog 139=some false:=by kernel_rfl
@[simp] theorem ts140:Zd Tryz.prog 140=some 1:=by kernel_rfl
@[simp] theorem ta140:tagg Tryz.prog 140=some false:=by kernel_rfl
@[simp] theorem ts141:Zd Tryz.prog 141=some 1:=by kernel_rfl
@[simp] theorem ta141:tagg Tryz.prog 141=some false:=by kernel_rfl
@[simp] theorem ts142:Zd Tryz.prog 142=some 1:=by kernel_rfl
@[simp] theorem ta142:tagg Tryz.prog 142=some false:=by kernel_rfl
@[simp] theorem ts143:Zd Tryz.prog 143=some 1:=by kernel_rfl
@[simp] theorem ta143:tagg Tryz.prog 143=some false:=by kernel_rfl
@[simp] theorem ts144:Zd Tryz.prog 144=some 2:=by kernel_rfl
@[simp] theorem ta144:tagg Tryz.prog 144=some true:=by kernel_rfl
@[simp] theorem tf144_0:Zg Tryz.prog 144 0=some (0,3,1):=by kernel_rfl
@[simp] theorem tf144_1:Zg Tryz.prog 144 1=some (1,3,1):=by kernel_rfl
theorem tst144:Zp Tryz.prog 144=some [(0,3),(1,3)]:=by kernel_rfl
@[simp] theorem tp144:Zt Tryz.prog 144=some [(0,1),(1,1)]:=by kernel_rfl
@[simp] theorem ts145:Zd Tryz.prog 145=some 2:=by kernel_rfl
@[simp] theorem tb145:Zbg Tryz.prog 145=some 16:=by kernel_rfl
@[simp] theorem ta145:tagg Tryz.prog 145=some true:=by kernel_rfl
@[simp] theorem tf145_0:Zg Tryz.prog 145 0=some (0,3,1):=by kernel_rfl
@[simp] theorem tf145_1:Zg Tryz.prog 145 1=some (1,3,1):=by kernel_rfl
theorem tst145:Zp Tryz.prog 145=some [(0,3),(1,3)]:=by kernel_rfl
@[simp] theorem tfl145:ZmL Tryz.prog 145=some [.int .i64,.int .i64]:=by kernel_rfl
@[simp] theorem tp145:Zt Tryz.prog 145=some [(0,1),(1,1)]:=by kernel_rfl
@[simp] theorem tz145:Zam Tryz.prog 145=some [.val (.int .i64 0),.val (.int .i64 0)]:=by kernel_rfl
@[simp] theorem ts146:Zd Tryz.prog 146=some 1:=by kernel_rfl
@[simp] theorem ta146:tagg Tryz.prog 146=some false:=by kernel_rfl
@[simp] theorem te146:ZY Tryz.prog 146=some 150:=by kernel_rfl
@[simp] theorem tes146:ZM Tryz.prog 146=some 7:=by kernel_rfl
@[simp] theorem ts147:Zd Tryz.prog 147=some 2:=by kernel_rfl
@[simp] theorem ta147:tagg Tryz.prog 147=some true:=by kernel_rfl
@[simp] theorem tf147_0:Zg Tryz.prog 147 0=some (0,3,1):=by kernel_rfl
@[simp] theorem tf147_1:Zg Tryz.prog 147 1=some (1,146,1):=by kernel_rfl
theorem tst147:Zp Tryz.prog 147=some [(0,3),(1,146)]:=by kernel_rfl
@[simp] theorem tp147:Zt Tryz.prog 147=some [(0,1),(1,1)]:=by kernel_rfl
@[simp] theorem ts148:Zd Tryz.prog 148=some 2:=by kernel_rfl
@[simp] theorem tb148:Zbg Tryz.prog 148=some 32:=by kernel_rfl
@[simp] theorem ta148:tagg Tryz.prog 148=some true:=by kernel_rfl
@[simp] theorem tf148_0:Zg Tryz.prog 148 0=some (0,3,1):=by kernel_rfl
@[simp] theorem tf148_1:Zg Tryz.prog 148 1=some (1,146,1):=by kernel_rfl
theorem tst148:Zp Tryz.prog 148=some [(0,3),(1,146)]:=by kernel_rfl
@[simp] theorem tp148:Zt Tryz.prog 148=some [(0,1),(1,1)]:=by kernel_rfl
@[simp] theorem tz148:Zam Tryz.prog 148=some [.val (.int .i64 0),.sl true 0 []]:=by kernel_rfl
@[simp] theorem ts149:Zd Tryz.prog 149=some 7:=by kernel_rfl
@[simp] theorem ta149:tagg Tryz.prog 149=some true:=by kernel_rfl
@[simp] theorem tf149_0:Zg Tryz.prog 149 0=some (0,3,1):=by kernel_rfl
@[simp] theorem tf149_1:Zg Tryz.prog 149 1=some (1,4,1):=by kernel_rfl
@[simp] theorem tf149_2:Zg Tryz.prog 149 2=some (2,43,5):=by kernel_rfl
theorem tst149:Zp Tryz.prog 149=some [(0,3),(1,4),(2,43)]:=by kernel_rfl
@[simp] theorem tp149:Zt Tryz.prog 149=some [(0,1),(1,1),(2,5)]:=by kernel_rfl
@[simp] theorem ts150:Zd Tryz.prog 150=some 7:=by kernel_rfl
@[simp] theorem tb150:Zbg Tryz.prog 150=some 80:=by kernel_rfl
@[simp] theorem ta150:tagg Tryz.prog 150=some true:=by kernel_rfl
@[simp] theorem tf150_0:Zg Tryz.prog 150 0=some (0,3,1):=by kernel_rfl
@[simp] theorem tf150_1:Zg Tryz.prog 150 1=some (1,4,1):=by kernel_rfl
@[simp] theorem tf150_2:Zg Tryz.prog 150 2=some (2,43,5):=by kernel_rfl
theorem tst150:Zp Tryz.prog 150=some [(0,3),(1,4),(2,43)]:=by kernel_rfl
@[simp] theorem tp150:Zt Tryz.prog 150=some [(0,1),(1,1),(2,5)]:=by kernel_rfl
@[simp] theorem tz150:Zam Tryz.prog 150=some [.val (.int .i64 0),.val (.bool false),.val (.int .i64 0),.val (.int .i64 0),.val (.int .i64 0),.val (.string .empty),.sl true 0 []]:=by kernel_rfl
@[simp] theorem ts151:Zd Tryz.prog 151=some 1:=by kernel_rfl
@[simp] theorem ta151:tagg Tryz.prog 151=some false:=by kernel_rfl
@[simp] theorem ts154:Zd Tryz.prog 154=some 1:=by kernel_rfl
@[simp] theorem ta154:tagg Tryz.prog 154=some false:=by kernel_rfl
@[simp] theorem ts155:Zd Tryz.prog 155=some 1:=by kernel_rfl
@[simp] theorem ta155:tagg Tryz.prog 155=some false:=by kernel_rfl
@[simp] theorem ts156:Zd Tryz.prog 156=some 1:=by kernel_rfl
@[simp] theorem ta156:tagg Tryz.prog 156=some false:=by kernel_rfl
@[simp] theorem ts157:Zd Tryz.prog 157=some 1:=by kernel_rfl
@[simp] theorem ta157:tagg Tryz.prog 157=some false:=by kernel_rfl
@[simp] theorem ts158:Zd Tryz.prog 158=some 1:=by kernel_rfl
@[simp] theorem ta158:tagg Tryz.prog 158=some false:=by kernel_rfl
@[simp] theorem ts159:Zd Tryz.prog 159=some 1:=by kernel_rfl
@[simp] theorem ta159:tagg Tryz.prog 159=some false:=by kernel_rfl
@[simp] theorem ts160:Zd Tryz.prog 160=some 1:=by kernel_rfl
@[simp] theorem ta160:tagg Tryz.prog 160=some false:=by kernel_rfl
@[simp] theorem ts161:Zd Tryz.prog 161=some 1:=by kernel_rfl
@[simp] theorem ta161:tagg Tryz.prog 161=some false:=by kernel_rfl
@[simp] theorem ts162:Zd Tryz.prog 162=some 1:=by kernel_rfl
@[simp] theorem ta162:tagg Tryz.prog 162=some false:=by kernel_rfl
@[simp] theorem ts163:Zd Tryz.prog 163=some 1:=by kernel_rfl
@[simp] theorem ta163:tagg Tryz.prog 163=some false:=by kernel_rfl
@[simp] theorem ts164:Zd Tryz.prog 164=some 1:=by kernel_rfl
@[simp] theorem ta164:tagg Tryz.prog 164=some false:=by kernel_rfl
@[simp] theorem ts165:Zd Tryz.prog 165=some 1:=by kernel_rfl
@[simp] theorem ta165:tagg Tryz.prog 165=some false:=by kernel_rfl
@[simp] theorem ts166:Zd Tryz.prog 166=some 1:=by kernel_rfl
@[simp] theorem ta166:tagg Tryz.prog 166=some false:=by kernel_rfl
@[simp] theorem ts167:Zd Tryz.prog 167=some 1:=by kernel_rfl
@[simp] theorem ta167:tagg Tryz.prog 167=some false:=by kernel_rfl
@[simp] theorem ts168:Zd Tryz.prog 168=some 1:=by kernel_rfl
@[simp] theorem ta168:tagg Tryz.prog 168=some false:=by kernel_rfl
@[simp] theorem ts169:Zd Tryz.prog 169=some 1:=by kernel_rfl
@[simp] theorem ta169:tagg Tryz.prog 169=some false:=by kernel_rfl
@[simp] theorem ts170:Zd Tryz.prog 170=some 1:=by kernel_rfl
@[simp] theorem ta170:tagg Tryz.prog 170=some false:=by kernel_rfl
@[simp] theorem ts171:Zd Tryz.prog 171=some 1:=by kernel_rfl
@[simp] theorem ta171:tagg Tryz.prog 171=some false:=by kernel_rfl
@[simp] theorem ts172:Zd Tryz.prog 172=some 1:=by kernel_rfl
@[simp] theorem ta172:tagg Tryz.prog 172=some false:=by kernel_rfl
@[simp] theorem ts173:Zd Tryz.prog 173=some 1:=by kernel_rfl
@[simp] theorem ta173:tagg Tryz.prog 173=some false:=by kernel_rfl
@[simp] theorem ts174:Zd Tryz.prog 174=some 1:=by kernel_rfl
@[simp] theorem ta174:tagg Tryz.prog 174=some false:=by kernel_rfl
@[simp] theorem ts175:Zd Tryz.prog 175=some 1:=by kernel_rfl
@[simp] theorem ta175:tagg Tryz.prog 175=some false:=by kernel_rfl
@[simp] theorem ts176:Zd Tryz.prog 176=some 1:=by kernel_rfl
@[simp] theorem ta176:tagg Tryz.prog 176=some false:=by kernel_rfl
@[simp] theorem ts177:Zd Tryz.prog 177=some 1:=by kernel_rfl
@[simp] theorem ta177:tagg Tryz.prog 177=some false:=by kernel_rfl
@[simp] theorem ts178:Zd Tryz.prog 178=some 1:=by kernel_rfl
@[simp] theorem ta178:tagg Tryz.prog 178=some false:=by kernel_rfl
@[simp] theorem ts179:Zd Tryz.prog 179=some 1:=by kernel_rfl
@[simp] theorem ta179:tagg Tryz.prog 179=some false:=by kernel_rfl
@[simp] theorem ts180:Zd Tryz.prog 180=some 1:=by kernel_rfl
@[simp] theorem ta180:tagg Tryz.prog 180=some false:=by kernel_rfl
@[simp] theorem ts181:Zd Tryz.prog 181=some 1:=by kernel_rfl
@[simp] theorem ta181:tagg Tryz.prog 181=some false:=by kernel_rfl
@[simp] theorem ts182:Zd Tryz.prog 182=some 1:=by kernel_rfl
@[simp] theorem ta182:tagg Tryz.prog 182=some false:=by kernel_rfl
@[simp] theorem ts183:Zd Tryz.prog 183=some 1:=by kernel_rfl
@[simp] theorem ta183:tagg Tryz.prog 183=some false:=by kernel_rfl
@[simp] theorem ts184:Zd Tryz.prog 184=some 1:=by kernel_rfl
@[simp] theorem ta184:tagg Tryz.prog 184=some false:=by kernel_rfl
@[simp] theorem ts185:Zd Tryz.prog 185=some 1:=by kernel_rfl
@[simp] theorem ta185:tagg Tryz.prog 185=some false:=by kernel_rfl
@[simp] theorem ts186:Zd Tryz.prog 186=some 1:=by kernel_rfl
@[simp] theorem ta186:tagg Tryz.prog 186=some false:=by kernel_rfl
@[simp] theorem ts187:Zd Tryz.prog 187=some 1:=by kernel_rfl
@[simp] theorem ta187:tagg Tryz.prog 187=some false:=by kernel_rfl
@[simp] theorem ts188:Zd Tryz.prog 188=some 1:=by kernel_rfl
@[simp] theorem ta188:tagg Tryz.prog 188=some false:=by kernel_rfl
@[simp] theorem ts189:Zd Tryz.prog 189=some 1:=by kernel_rfl
@[simp] theorem ta189:tagg Tryz.prog 189=some false:=by kernel_rfl
@[simp] theorem ts190:Zd Tryz.prog 190=some 1:=by kernel_rfl
@[simp] theorem ta190:tagg Tryz.prog 190=some false:=by kernel_rfl
@[simp] theorem ts191:Zd Tryz.prog 191=some 1:=by kernel_rfl
@[simp] theorem ta191:tagg Tryz.prog 191=some false:=by kernel_rfl
@[simp] theorem te191:ZY Tryz.prog 191=some 22:=by kernel_rfl
@[simp] theorem tes191:ZM Tryz.prog 191=some 1:=by kernel_rfl
@[simp] theorem ts192:Zd Tryz.prog 192=some 1:=by kernel_rfl
@[simp] theorem ta192:tagg Tryz.prog 192=some false:=by kernel_rfl
@[simp] theorem ts193:Zd Tryz.prog 193=some 1:=by kernel_rfl
@[simp] theorem ta193:tagg Tryz.prog 193=some false:=by kernel_rfl
@[simp] theorem ts194:Zd Tryz.prog 194=some 1:=by kernel_rfl
@[simp] theorem ta194:tagg Tryz.prog 194=some false:=by kernel_rfl
@[simp] theorem ts195:Zd Tryz.prog 195=some 1:=by kernel_rfl
@[simp] theorem ta195:tagg Tryz.prog 195=some false:=by kernel_rfl
@[simp] theorem ts196:Zd Tryz.prog 196=some 1:=by kernel_rfl
@[simp] theorem ta196:tagg Tryz.prog 196=some false:=by kernel_rfl
@[simp] theorem ts197:Zd Tryz.prog 197=some 1:=by kernel_rfl
@[simp] theorem ta197:tagg Tryz.prog 197=some false:=by kernel_rfl
@[simp] theorem tui197:Tryz.prog.underlying 197=some (.int .u64):=by kernel_rfl
@[simp] theorem ts198:Zd Tryz.prog 198=some 1:=by kernel_rfl
@[simp] theorem ta198:tagg Tryz.prog 198=some false:=by kernel_rfl
@[simp] theorem ts199:Zd Tryz.prog 199=some 1:=by kernel_rfl
@[simp] theorem ta199:tagg Tryz.prog 199=some false:=by kernel_rfl
@[simp] theorem ts200:Zd Tryz.prog 200=some 1:=by kernel_rfl
@[simp] theorem ta200:tagg Tryz.prog 200=some false:=by kernel_rfl
@[simp] theorem ts202:Zd Tryz.prog 202=some 1:=by kernel_rfl
@[simp] theorem ta202:tagg Tryz.prog 202=some false:=by kernel_rfl
@[simp] theorem ts203:Zd Tryz.prog 203=some 1:=by kernel_rfl
@[simp] theorem ta203:tagg Tryz.prog 203=some false:=by kernel_rfl
@[simp] theorem ts204:Zd Tryz.prog 204=some 1:=by kernel_rfl
@[simp] theorem ta204:tagg Tryz.prog 204=some false:=by kernel_rfl
@[simp] theorem ts205:Zd Tryz.prog 205=some 1:=by kernel_rfl
@[simp] theorem ta205:tagg Tryz.prog 205=some false:=by kernel_rfl
@[simp] theorem tm205:tmap Tryz.prog 205=some (.int .i64,3):=by kernel_rfl
@[simp] theorem tz205:Zam Tryz.prog 205=some [.val (.map none)]:=by kernel_rfl
@[simp] theorem ts206:Zd Tryz.prog 206=some 1:=by kernel_rfl
@[simp] theorem ta206:tagg Tryz.prog 206=some false:=by kernel_rfl
@[simp] theorem ts207:Zd Tryz.prog 207=some 1:=by kernel_rfl
@[simp] theorem ta207:tagg Tryz.prog 207=some false:=by kernel_rfl
@[simp] theorem ts209:Zd Tryz.prog 209=some 1:=by kernel_rfl
@[simp] theorem ta209:tagg Tryz.prog 209=some false:=by kernel_rfl
@[simp] theorem ts210:Zd Tryz.prog 210=some 1:=by kernel_rfl
@[simp] theorem ta210:tagg Tryz.prog 210=some false:=by kernel_rfl
@[simp] theorem ts211:Zd Tryz.prog 211=some 1:=by kernel_rfl
@[simp] theorem ta211:tagg Tryz.prog 211=some false:=by kernel_rfl
@[simp] theorem ts212:Zd Tryz.prog 212=some 1:=by kernel_rfl
@[simp] theorem ta212:tagg Tryz.prog 212=some false:=by kernel_rfl
@[simp] theorem ts213:Zd Tryz.prog 213=some 1:=by kernel_rfl
@[simp] theorem ta213:tagg Tryz.prog 213=some false:=by kernel_rfl
@[simp] theorem ts214:Zd Tryz.prog 214=some 1:=by kernel_rfl
@[simp] theorem ta214:tagg Tryz.prog 214=some false:=by kernel_rfl
@[simp] theorem ts215:Zd Tryz.prog 215=some 1:=by kernel_rfl
@[simp] theorem ta215:tagg Tryz.prog 215=some false:=by kernel_rfl
@[simp] theorem ts216:Zd Tryz.prog 216=some 1:=by kernel_rfl
@[simp] theorem ta216:tagg Tryz.prog 216=some false:=by kernel_rfl
@[simp] theorem ts217:Zd Tryz.prog 217=some 1:=by kernel_rfl
@[simp] theorem ta217:tagg Tryz.prog 217=some false:=by kernel_rfl
@[simp] theorem ts218:Zd Tryz.prog 218=some 1:=by kernel_rfl
@[simp] theorem ta218:tagg Tryz.prog 218=some false:=by kernel_rfl
@[simp] theorem ts220:Zd Tryz.prog 220=some 1:=by kernel_rfl
@[simp] theorem ta220:tagg Tryz.prog 220=some false:=by kernel_rfl
@[simp] theorem ts221:Zd Tryz.prog 221=some 1:=by kernel_rfl
@[simp] theorem ta221:tagg Tryz.prog 221=some false:=by kernel_rfl
@[simp] theorem ts222:Zd Tryz.prog 222=some 1:=by kernel_rfl
@[simp] theorem ta222:tagg Tryz.prog 222=some false:=by kernel_rfl
@[simp] theorem te222:ZY Tryz.prog 222=some 5:=by kernel_rfl
@[simp] theorem tes222:ZM Tryz.prog 222=some 1:=by kernel_rfl
@[simp] theorem ts223:Zd Tryz.prog 223=some 1:=by kernel_rfl
@[simp] theorem ta223:tagg Tryz.prog 223=some false:=by kernel_rfl
@[simp] theorem ts224:Zd Tryz.prog 224=some 1:=by kernel_rfl
@[simp] theorem ta224:tagg Tryz.prog 224=some false:=by kernel_rfl
@[simp] theorem ts225:Zd Tryz.prog 225=some 1:=by kernel_rfl
@[simp] theorem ta225:tagg Tryz.prog 225=some false:=by kernel_rfl
@[simp] theorem ts230:Zd Tryz.prog 230=some 1:=by kernel_rfl
@[simp] theorem ta230:tagg Tryz.prog 230=some false:=by kernel_rfl
@[simp] theorem ts232:Zd Tryz.prog 232=some 1:=by kernel_rfl
@[simp] theorem ta232:tagg Tryz.prog 232=some false:=by kernel_rfl
@[simp] theorem ts233:Zd Tryz.prog 233=some 1:=by kernel_rfl
@[simp] theorem ta233:tagg Tryz.prog 233=some false:=by kernel_rfl
@[simp] theorem ts235:Zd Tryz.prog 235=some 1:=by kernel_rfl
@[simp] theorem ta235:tagg Tryz.prog 235=some false:=by kernel_rfl
@[simp] theorem ts236:Zd Tryz.prog 236=some 1:=by kernel_rfl
@[simp] theorem ta236:tagg Tryz.prog 236=some false:=by kernel_rfl
@[simp] theorem ts239:Zd Tryz.prog 239=some 1:=by kernel_rfl
@[simp] theorem ta239:tagg Tryz.prog 239=some false:=by kernel_rfl
@[simp] theorem ts240:Zd Tryz.prog 240=some 1:=by kernel_rfl
@[simp] theorem ta240:tagg Tryz.prog 240=some false:=by kernel_rfl
@[simp] theorem ts242:Zd Tryz.prog 242=some 1:=by kernel_rfl
@[simp] theorem ta242:tagg Tryz.prog 242=some false:=by kernel_rfl
@[simp] theorem ts247:Zd Tryz.prog 247=some 1:=by kernel_rfl
@[simp] theorem ta247:tagg Tryz.prog 247=some false:=by kernel_rfl
@[simp] theorem te247:ZY Tryz.prog 247=some 52:=by kernel_rfl
@[simp] theorem tes247:ZM Tryz.prog 247=some 1:=by kernel_rfl
@[simp] theorem ts248:Zd Tryz.prog 248=some 1:=by kernel_rfl
@[simp] theorem ta248:tagg Tryz.prog 248=some false:=by kernel_rfl
@[simp] theorem tz248:Zam Tryz.prog 248=some [.val .nilFunc]:=by kernel_rfl
@[simp] theorem ts249:Zd Tryz.prog 249=some 1:=by kernel_rfl
@[simp] theorem ta249:tagg Tryz.prog 249=some false:=by kernel_rfl
@[simp] theorem te249:ZY Tryz.prog 249=some 31:=by kernel_rfl
@[simp] theorem tes249:ZM Tryz.prog 249=some 1:=by kernel_rfl
@[simp] theorem ts253:Zd Tryz.prog 253=some 1:=by kernel_rfl
@[simp] theorem ta253:tagg Tryz.prog 253=some false:=by kernel_rfl
@[simp] theorem ts254:Zd Tryz.prog 254=some 1:=by kernel_rfl
@[simp] theorem ta254:tagg Tryz.prog 254=some false:=by kernel_rfl
@[simp] theorem ts255:Zd Tryz.prog 255=some 1:=by kernel_rfl
@[simp] theorem ta255:tagg Tryz.prog 255=some false:=by kernel_rfl
@[simp] theorem ts259:Zd Tryz.prog 259=some 1:=by kernel_rfl
@[simp] theorem ta259:tagg Tryz.prog 259=some false:=by kernel_rfl
@[simp] theorem tui259:Tryz.prog.underlying 259=some (.int .i64):=by kernel_rfl
@[simp] theorem ts268:Zd Tryz.prog 268=some 1:=by kernel_rfl
@[simp] theorem ta268:tagg Tryz.prog 268=some false:=by kernel_rfl
@[simp] theorem tui268:Tryz.prog.underlying 268=some (.int .u64):=by kernel_rfl
end Go.Proofs.YtdnfnddlciafmaaGreat.Tab
