import Derived.Test.YtgpkaoombhobmaaGreatProg
import Derived.Test.YtgpkaoombhobmaaGreatZBd
import Derived.KernelRfl
namespace Go.Proofs.YtgpkaoombhobmaaGreat.Tab
open Go.Cx
@[simp] theorem ts0:Zc Tryz.prog 0=some 1:=by kernel_rfl
@[simp] theorem ta0:tagg Tryz.prog 0=some false:=by kernel_rfl
@[simp] theorem ts1:Zc Tryz.prog 1=some 1:=by kernel_rfl
@[simp] theorem ta1:tagg Tryz.prog 1=some false:=by kernel_rfl
@[simp] theorem ts2:Zc Tryz.prog 2=some 1:=by kernel_rfl
@[simp] theorem ta2:tagg Tryz.prog 2=some false:=by kernel_rfl
@[simp] theorem tui2:Tryz.prog.underlying 2=some (.int .i64):=by kernel_rfl
@[simp] theorem ts3:Zc Tryz.prog 3=some 1:=by kernel_rfl
@[simp] theorem tb3:ZaT Tryz.prog 3=some 8:=by kernel_rfl
@[simp] theorem ta3:tagg Tryz.prog 3=some false:=by kernel_rfl
@[simp] theorem tui3:Tryz.prog.underlying 3=some (.int .i64):=by kernel_rfl
@[simp] theorem tz3:ZZ Tryz.prog 3=some [.val (.int .i64 0)]:=by kernel_rfl
@[simp] theorem tv3:Zif Tryz.prog 3=some (.val (.int .i64 0)):=by kernel_rfl
@[simp] theorem ts4:Zc Tryz.prog 4=some 1:=by kernel_rfl
@[simp] theorem ta4:tagg Tryz.prog 4=some false:=by kernel_rfl
@[simp] theorem tub4:Tryz.prog.underlying 4=some .bool:=by kernel_rfl
@[simp] theorem tz4:ZZ Tryz.prog 4=some [.val (.bool false)]:=by kernel_rfl
@[simp] theorem ts5:Zc Tryz.prog 5=some 1:=by kernel_rfl
@[simp] theorem tb5:ZaT Tryz.prog 5=some 1:=by kernel_rfl
@[simp] theorem ta5:tagg Tryz.prog 5=some false:=by kernel_rfl
@[simp] theorem tui5:Tryz.prog.underlying 5=some (.int .u8):=by kernel_rfl
@[simp] theorem tz5:ZZ Tryz.prog 5=some [.val (.int .u8 0)]:=by kernel_rfl
@[simp] theorem ts6:Zc Tryz.prog 6=some 1:=by kernel_rfl
@[simp] theorem ta6:tagg Tryz.prog 6=some false:=by kernel_rfl
@[simp] theorem tui6:Tryz.prog.underlying 6=some (.int .u8):=by kernel_rfl
@[simp] theorem ts7:Zc Tryz.prog 7=some 4:=by kernel_rfl
@[simp] theorem ta7:tagg Tryz.prog 7=some true:=by kernel_rfl
@[simp] theorem tf7_0:Ze Tryz.prog 7 0=some (0,2,1):=by kernel_rfl
@[simp] theorem tf7_1:Ze Tryz.prog 7 1=some (1,3,1):=by kernel_rfl
@[simp] theorem tf7_2:Ze Tryz.prog 7 2=some (2,4,1):=by kernel_rfl
@[simp] theorem tf7_3:Ze Tryz.prog 7 3=some (3,6,1):=by kernel_rfl
theorem tst7:Zm Tryz.prog 7=some [(0,2),(1,3),(2,4),(3,6)]:=by kernel_rfl
@[simp] theorem tp7:Zr Tryz.prog 7=some [(0,1),(1,1),(2,1),(3,1)]:=by kernel_rfl
@[simp] theorem ts8:Zc Tryz.prog 8=some 4:=by kernel_rfl
@[simp] theorem ta8:tagg Tryz.prog 8=some true:=by kernel_rfl
@[simp] theorem tf8_0:Ze Tryz.prog 8 0=some (0,2,1):=by kernel_rfl
@[simp] theorem tf8_1:Ze Tryz.prog 8 1=some (1,3,1):=by kernel_rfl
@[simp] theorem tf8_2:Ze Tryz.prog 8 2=some (2,4,1):=by kernel_rfl
@[simp] theorem tf8_3:Ze Tryz.prog 8 3=some (3,6,1):=by kernel_rfl
theorem tst8:Zm Tryz.prog 8=some [(0,2),(1,3),(2,4),(3,6)]:=by kernel_rfl
@[simp] theorem tp8:Zr Tryz.prog 8=some [(0,1),(1,1),(2,1),(3,1)]:=by kernel_rfl
@[simp] theorem ts9:Zc Tryz.prog 9=some 1:=by kernel_rfl
@[simp] theorem tb9:ZaT Tryz.prog 9=some 16:=by kernel_rfl
@[simp] theorem ta9:tagg Tryz.prog 9=some false:=by kernel_rfl
@[simp] theorem tus9:Tryz.prog.underlying 9=some .string:=by kernel_rfl
@[simp] theorem tz9:ZZ Tryz.prog 9=some [.val (.string .empty)]:=by kernel_rfl
@[simp] theorem ts10:Zc Tryz.prog 10=some 1:=by kernel_rfl
@[simp] theorem ta10:tagg Tryz.prog 10=some false:=by kernel_rfl
@[simp] theorem tus10:Tryz.prog.underlying 10=some .string:=by kernel_rfl
@[simp] theorem ts11:Zc Tryz.prog 11=some 1:=by kernel_rfl
@[simp] theorem ta11:tagg Tryz.prog 11=some false:=by kernel_rfl
@[simp] theorem tus11:Tryz.prog.underlying 11=some .string:=by kernel_rfl
@[simp] theorem ts12:Zc Tryz.prog 12=some 1:=by kernel_rfl
@[simp] theorem ta12:tagg Tryz.prog 12=some false:=by kernel_rfl
@[simp] theorem tui12:Tryz.prog.underlying 12=some (.int .u64):=by kernel_rfl
@[simp] theorem ts13:Zc Tryz.prog 13=some 2:=by kernel_rfl
@[simp] theorem ta13:tagg Tryz.prog 13=some true:=by kernel_rfl
@[simp] theorem tf13_0:Ze Tryz.prog 13 0=some (0,9,1):=by kernel_rfl
@[simp] theorem tf13_1:Ze Tryz.prog 13 1=some (1,12,1):=by kernel_rfl
theorem tst13:Zm Tryz.prog 13=some [(0,9),(1,12)]:=by kernel_rfl
@[simp] theorem tp13:Zr Tryz.prog 13=some [(0,1),(1,1)]:=by kernel_rfl
@[simp] theorem ts14:Zc Tryz.prog 14=some 2:=by kernel_rfl
@[simp] theorem ta14:tagg Tryz.prog 14=some true:=by kernel_rfl
@[simp] theorem tf14_0:Ze Tryz.prog 14 0=some (0,9,1):=by kernel_rfl
@[simp] theorem tf14_1:Ze Tryz.prog 14 1=some (1,12,1):=by kernel_rfl
theorem tst14:Zm Tryz.prog 14=some [(0,9),(1,12)]:=by kernel_rfl
@[simp] theorem tp14:Zr Tryz.prog 14=some [(0,1),(1,1)]:=by kernel_rfl
@[simp] theorem ts15:Zc Tryz.prog 15=some 1:=by kernel_rfl
@[simp] theorem ta15:tagg Tryz.prog 15=some false:=by kernel_rfl
@[simp] theorem ts16:Zc Tryz.prog 16=some 1:=by kernel_rfl
@[simp] theorem ta16:tagg Tryz.prog 16=some false:=by kernel_rfl
@[simp] theorem ts18:Zc Tryz.prog 18=some 1:=by kernel_rfl
@[simp] theorem ta18:tagg Tryz.prog 18=some true:=by kernel_rfl
@[simp] theorem tf18_0:Ze Tryz.prog 18 0=some (0,17,1):=by kernel_rfl
theorem tst18:Zm Tryz.prog 18=some [(0,17)]:=by kernel_rfl
@[simp] theorem tp18:Zr Tryz.prog 18=some [(0,1)]:=by kernel_rfl
@[simp] theorem ts19:Zc Tryz.prog 19=some 1:=by kernel_rfl
@[simp] theorem ta19:tagg Tryz.prog 19=some true:=by kernel_rfl
@[simp] theorem tf19_0:Ze Tryz.prog 19 0=some (0,17,1):=by kernel_rfl
theorem tst19:Zm Tryz.prog 19=some [(0,17)]:=by kernel_rfl
@[simp] theorem tp19:Zr Tryz.prog 19=some [(0,1)]:=by kernel_rfl
@[simp] theorem ts20:Zc Tryz.prog 20=some 1:=by kernel_rfl
@[simp] theorem ta20:tagg Tryz.prog 20=some false:=by kernel_rfl
@[simp] theorem ts21:Zc Tryz.prog 21=some 1:=by kernel_rfl
@[simp] theorem ta21:tagg Tryz.prog 21=some false:=by kernel_rfl
@[simp] theorem tui21:Tryz.prog.underlying 21=some (.int .i32):=by kernel_rfl
@[simp] theorem ts22:Zc Tryz.prog 22=some 1:=by kernel_rfl
@[simp] theorem ta22:tagg Tryz.prog 22=some false:=by kernel_rfl
@[simp] theorem te22:ZV Tryz.prog 22=some 95:=by kernel_rfl
@[simp] theorem tes22:ZJ Tryz.prog 22=some 2:=by kernel_rfl
@[simp] theorem ts23:Zc Tryz.prog 23=some 1:=by kernel_rfl
@[simp] theorem ta23:tagg Tryz.prog 23=some false:=by kernel_rfl
@[simp] theorem te23:ZV Tryz.prog 23=some 92:=by kernel_rfl
@[simp] theorem tes23:ZJ Tryz.prog 23=some 2:=by kernel_rfl
@[simp] theorem ts24:Zc Tryz.prog 24=some 3:=by kernel_rfl
@[simp] theorem ta24:tagg Tryz.prog 24=some true:=by kernel_rfl
@[simp] theorem tf24_0:Ze Tryz.prog 24 0=some (0,22,1):=by kernel_rfl
@[simp] theorem tf24_1:Ze Tryz.prog 24 1=some (1,23,1):=by kernel_rfl
@[simp] theorem tf24_2:Ze Tryz.prog 24 2=some (2,3,1):=by kernel_rfl
theorem tst24:Zm Tryz.prog 24=some [(0,22),(1,23),(2,3)]:=by kernel_rfl
@[simp] theorem tp24:Zr Tryz.prog 24=some [(0,1),(1,1),(2,1)]:=by kernel_rfl
@[simp] theorem ts25:Zc Tryz.prog 25=some 3:=by kernel_rfl
@[simp] theorem ta25:tagg Tryz.prog 25=some true:=by kernel_rfl
@[simp] theorem tf25_0:Ze Tryz.prog 25 0=some (0,22,1):=by kernel_rfl
@[simp] theorem tf25_1:Ze Tryz.prog 25 1=some (1,23,1):=by kernel_rfl
@[simp] theorem tf25_2:Ze Tryz.prog 25 2=some (2,3,1):=by kernel_rfl
theorem tst25:Zm Tryz.prog 25=some [(0,22),(1,23),(2,3)]:=by kernel_rfl
@[simp] theorem tp25:Zr Tryz.prog 25=some [(0,1),(1,1),(2,1)]:=by kernel_rfl
@[simp] theorem tz25:ZZ Tryz.prog 25=some [.sl true 0 [],.sl true 0 [],.val (.int .i64 0)]:=by kernel_rfl
@[simp] theorem ts26:Zc Tryz.prog 26=some 1:=by kernel_rfl
@[simp] theorem ta26:tagg Tryz.prog 26=some false:=by kernel_rfl
@[simp] theorem te26:ZV Tryz.prog 26=some 119:=by kernel_rfl
@[simp] theorem tes26:ZJ Tryz.prog 26=some 4:=by kernel_rfl
@[simp] theorem ts27:Zc Tryz.prog 27=some 1:=by kernel_rfl
@[simp] theorem ta27:tagg Tryz.prog 27=some false:=by kernel_rfl
@[simp] theorem te27:ZV Tryz.prog 27=some 60:=by kernel_rfl
@[simp] theorem tes27:ZJ Tryz.prog 27=some 17:=by kernel_rfl
@[simp] theorem ts28:Zc Tryz.prog 28=some 7:=by kernel_rfl
@[simp] theorem ta28:tagg Tryz.prog 28=some true:=by kernel_rfl
@[simp] theorem tf28_0:Ze Tryz.prog 28 0=some (0,25,3):=by kernel_rfl
@[simp] theorem tf28_1:Ze Tryz.prog 28 1=some (3,26,1):=by kernel_rfl
@[simp] theorem tf28_2:Ze Tryz.prog 28 2=some (4,27,1):=by kernel_rfl
@[simp] theorem tf28_3:Ze Tryz.prog 28 3=some (5,3,1):=by kernel_rfl
@[simp] theorem tf28_4:Ze Tryz.prog 28 4=some (6,3,1):=by kernel_rfl
theorem tst28:Zm Tryz.prog 28=some [(0,25),(3,26),(4,27),(5,3),(6,3)]:=by kernel_rfl
@[simp] theorem tp28:Zr Tryz.prog 28=some [(0,3),(3,1),(4,1),(5,1),(6,1)]:=by kernel_rfl
@[simp] theorem ts29:Zc Tryz.prog 29=some 7:=by kernel_rfl
@[simp] theorem ta29:tagg Tryz.prog 29=some true:=by kernel_rfl
@[simp] theorem tf29_0:Ze Tryz.prog 29 0=some (0,25,3):=by kernel_rfl
@[simp] theorem tf29_1:Ze Tryz.prog 29 1=some (3,26,1):=by kernel_rfl
@[simp] theorem tf29_2:Ze Tryz.prog 29 2=some (4,27,1):=by kernel_rfl
@[simp] theorem tf29_3:Ze Tryz.prog 29 3=some (5,3,1):=by kernel_rfl
@[simp] theorem tf29_4:Ze Tryz.prog 29 4=some (6,3,1):=by kernel_rfl
theorem tst29:Zm Tryz.prog 29=some [(0,25),(3,26),(4,27),(5,3),(6,3)]:=by kernel_rfl
@[simp] theorem tp29:Zr Tryz.prog 29=some [(0,3),(3,1),(4,1),(5,1),(6,1)]:=by kernel_rfl
@[simp] theorem tz29:ZZ Tryz.prog 29=some [.sl true 0 [],.sl true 0 [],.val (.int .i64 0),.sl true 0 [],.sl true 0 [],.val (.int .i64 0),.val (.int .i64 0)]:=by kernel_rfl
@[simp] theorem ts30:Zc Tryz.prog 30=some 8:=by kernel_rfl
@[simp] theorem ta30:tagg Tryz.prog 30=some true:=by kernel_rfl
@[simp] theorem tf30_0:Ze Tryz.prog 30 0=some (0,3,1):=by kernel_rfl
@[simp] theorem tf30_1:Ze Tryz.prog 30 1=some (1,3,1):=by kernel_rfl
@[simp] theorem tf30_2:Ze Tryz.prog 30 2=some (2,3,1):=by kernel_rfl
@[simp] theorem tf30_3:Ze Tryz.prog 30 3=some (3,3,1):=by kernel_rfl
@[simp] theorem tf30_4:Ze Tryz.prog 30 4=some (4,3,1):=by kernel_rfl
@[simp] theorem tf30_5:Ze Tryz.prog 30 5=some (5,9,1):=by kernel_rfl
@[simp] theorem tf30_6:Ze Tryz.prog 30 6=some (6,9,1):=by kernel_rfl
@[simp] theorem tf30_7:Ze Tryz.prog 30 7=some (7,9,1):=by kernel_rfl
theorem tst30:Zm Tryz.prog 30=some [(0,3),(1,3),(2,3),(3,3),(4,3),(5,9),(6,9),(7,9)]:=by kernel_rfl
@[simp] theorem tp30:Zr Tryz.prog 30=some [(0,1),(1,1),(2,1),(3,1),(4,1),(5,1),(6,1),(7,1)]:=by kernel_rfl
@[simp] theorem ts31:Zc Tryz.prog 31=some 8:=by kernel_rfl
@[simp] theorem tb31:ZaT Tryz.prog 31=some 88:=by kernel_rfl
@[simp] theorem ta31:tagg Tryz.prog 31=some true:=by kernel_rfl
@[simp] theorem tf31_0:Ze Tryz.prog 31 0=some (0,3,1):=by kernel_rfl
@[simp] theorem tf31_1:Ze Tryz.prog 31 1=some (1,3,1):=by kernel_rfl
@[simp] theorem tf31_2:Ze Tryz.prog 31 2=some (2,3,1):=by kernel_rfl
@[simp] theorem tf31_3:Ze Tryz.prog 31 3=some (3,3,1):=by kernel_rfl
@[simp] theorem tf31_4:Ze Tryz.prog 31 4=some (4,3,1):=by kernel_rfl
@[simp] theorem tf31_5:Ze Tryz.prog 31 5=some (5,9,1):=by kernel_rfl
@[simp] theorem tf31_6:Ze Tryz.prog 31 6=some (6,9,1):=by kernel_rfl
@[simp] theorem tf31_7:Ze Tryz.prog 31 7=some (7,9,1):=by kernel_rfl
theorem tst31:Zm Tryz.prog 31=some [(0,3),(1,3),(2,3),(3,3),(4,3),(5,9),(6,9),(7,9)]:=by kernel_rfl
@[simp] theorem tfl31:ZhW Tryz.prog 31=some [.int .i64,.int .i64,.int .i64,.int .i64,.int .i64,.string,.string,.string]:=by kernel_rfl
@[simp] theorem tp31:Zr Tryz.prog 31=some [(0,1),(1,1),(2,1),(3,1),(4,1),(5,1),(6,1),(7,1)]:=by kernel_rfl
@[simp] theorem tz31:ZZ Tryz.prog 31=some [.val (.int .i64 0),.val (.int .i64 0),.val (.int .i64 0),.val (.int .i64 0),.val (.int .i64 0),.val (.string .empty),.val (.string .empty),.val (.string .empty)]:=by kernel_rfl
@[simp] theorem ts32:Zc Tryz.prog 32=some 14:=by kernel_rfl
@[simp] theorem ta32:tagg Tryz.prog 32=some true:=by kernel_rfl
@[simp] theorem tf32_0:Ze Tryz.prog 32 0=some (0,3,1):=by kernel_rfl
@[simp] theorem tf32_1:Ze Tryz.prog 32 1=some (1,3,1):=by kernel_rfl
@[simp] theorem tf32_2:Ze Tryz.prog 32 2=some (2,3,1):=by kernel_rfl
@[simp] theorem tf32_3:Ze Tryz.prog 32 3=some (3,3,1):=by kernel_rfl
@[simp] theorem tf32_4:Ze Tryz.prog 32 4=some (4,3,1):=by kernel_rfl
@[simp] theorem tf32_5:Ze Tryz.prog 32 5=some (5,3,1):=by kernel_rfl
@[simp] theorem tf32_6:Ze Tryz.prog 32 6=some (6,31,8):=by kernel_rfl
theorem tst32:Zm Tryz.prog 32=some [(0,3),(1,3),(2,3),(3,3),(4,3),(5,3),(6,31)]:=by kernel_rfl
@[simp] theorem tp32:Zr Tryz.prog 32=some [(0,1),(1,1),(2,1),(3,1),(4,1),(5,1),(6,8)]:=by kernel_rfl
@[simp] theorem ts33:Zc Tryz.prog 33=some 14:=by kernel_rfl
@[simp] theorem tb33:ZaT Tryz.prog 33=some 136:=by kernel_rfl
@[simp] theorem ta33:tagg Tryz.prog 33=some true:=by kernel_rfl
@[simp] theorem tf33_0:Ze Tryz.prog 33 0=some (0,3,1):=by kernel_rfl
@[simp] theorem tf33_1:Ze Tryz.prog 33 1=some (1,3,1):=by kernel_rfl
@[simp] theorem tf33_2:Ze Tryz.prog 33 2=some (2,3,1):=by kernel_rfl
@[simp] theorem tf33_3:Ze Tryz.prog 33 3=some (3,3,1):=by kernel_rfl
@[simp] theorem tf33_4:Ze Tryz.prog 33 4=some (4,3,1):=by kernel_rfl
@[simp] theorem tf33_5:Ze Tryz.prog 33 5=some (5,3,1):=by kernel_rfl
@[simp] theorem tf33_6:Ze Tryz.prog 33 6=some (6,31,8):=by kernel_rfl
theorem tst33:Zm Tryz.prog 33=some [(0,3),(1,3),(2,3),(3,3),(4,3),(5,3),(6,31)]:=by kernel_rfl
@[simp] theorem tfl33:ZhW Tryz.prog 33=some [.int .i64,.int .i64,.int .i64,.int .i64,.int .i64,.int .i64,.int .i64,.int .i64,.int .i64,.int .i64,.int .i64,.string,.string,.string]:=by kernel_rfl
@[simp] theorem tp33:Zr Tryz.prog 33=some [(0,1),(1,1),(2,1),(3,1),(4,1),(5,1),(6,8)]:=by kernel_rfl
@[simp] theorem tz33:ZZ Tryz.prog 33=some [.val (.int .i64 0),.val (.int .i64 0),.val (.int .i64 0),.val (.int .i64 0),.val (.int .i64 0),.val (.int .i64 0),.val (.int .i64 0),.val (.int .i64 0),.val (.int .i64 0),.val (.int .i64 0),.val (.int .i64 0),.val (.string .empty),.val (.string .empty),.val (.string .empty)]:=by kernel_rfl
@[simp] theorem ts34:Zc Tryz.prog 34=some 1:=by kernel_rfl
@[simp] theorem ta34:tagg Tryz.prog 34=some false:=by kernel_rfl
@[simp] theorem ts35:Zc Tryz.prog 35=some 1:=by kernel_rfl
@[simp] theorem ta35:tagg Tryz.prog 35=some false:=by kernel_rfl
@[simp] theorem ts36:Zc Tryz.prog 36=some 1:=by kernel_rfl
@[simp] theorem ta36:tagg Tryz.prog 36=some false:=by kernel_rfl
@[simp] theorem ts37:Zc Tryz.prog 37=some 1:=by kernel_rfl
@[simp] theorem ta37:tagg Tryz.prog 37=some false:=by kernel_rfl
@[simp] theorem te37:ZV Tryz.prog 37=some 31:=by kernel_rfl
@[simp] theorem tes37:ZJ Tryz.prog 37=some 8:=by kernel_rfl
@[simp] theorem ts38:Zc Tryz.prog 38=some 1:=by kernel_rfl
@[simp] theorem tb38:ZaT Tryz.prog 38=some 8:=by kernel_rfl
@[simp] theorem ta38:tagg Tryz.prog 38=some false:=by kernel_rfl
@[simp] theorem tui38:Tryz.prog.underlying 38=some (.int .i64):=by kernel_rfl
@[simp] theorem tz38:ZZ Tryz.prog 38=some [.val (.int .i64 0)]:=by kernel_rfl
@[simp] theorem ts39:Zc Tryz.prog 39=some 1:=by kernel_rfl
@[simp] theorem ta39:tagg Tryz.prog 39=some false:=by kernel_rfl
@[simp] theorem te39:ZV Tryz.prog 39=some 9:=by kernel_rfl
@[simp] theorem tes39:ZJ Tryz.prog 39=some 1:=by kernel_rfl
@[simp] theorem ts40:Zc Tryz.prog 40=some 6:=by kernel_rfl
@[simp] theorem ta40:tagg Tryz.prog 40=some true:=by kernel_rfl
@[simp] theorem tf40_0:Ze Tryz.prog 40 0=some (0,38,1):=by kernel_rfl
@[simp] theorem tf40_1:Ze Tryz.prog 40 1=some (1,3,1):=by kernel_rfl
@[simp] theorem tf40_2:Ze Tryz.prog 40 2=some (2,3,1):=by kernel_rfl
@[simp] theorem tf40_3:Ze Tryz.prog 40 3=some (3,3,1):=by kernel_rfl
@[simp] theorem tf40_4:Ze Tryz.prog 40 4=some (4,9,1):=by kernel_rfl
@[simp] theorem tf40_5:Ze Tryz.prog 40 5=some (5,39,1):=by kernel_rfl
theorem tst40:Zm Tryz.prog 40=some [(0,38),(1,3),(2,3),(3,3),(4,9),(5,39)]:=by kernel_rfl
@[simp] theorem tp40:Zr Tryz.prog 40=some [(0,1),(1,1),(2,1),(3,1),(4,1),(5,1)]:=by kernel_rfl
@[simp] theorem ts41:Zc Tryz.prog 41=some 6:=by kernel_rfl
@[simp] theorem ta41:tagg Tryz.prog 41=some true:=by kernel_rfl
@[simp] theorem tf41_0:Ze Tryz.prog 41 0=some (0,38,1):=by kernel_rfl
@[simp] theorem tf41_1:Ze Tryz.prog 41 1=some (1,3,1):=by kernel_rfl
@[simp] theorem tf41_2:Ze Tryz.prog 41 2=some (2,3,1):=by kernel_rfl
@[simp] theorem tf41_3:Ze Tryz.prog 41 3=some (3,3,1):=by kernel_rfl
@[simp] theorem tf41_4:Ze Tryz.prog 41 4=some (4,9,1):=by kernel_rfl
@[simp] theorem tf41_5:Ze Tryz.prog 41 5=some (5,39,1):=by kernel_rfl
theorem tst41:Zm Tryz.prog 41=some [(0,38),(1,3),(2,3),(3,3),(4,9),(5,39)]:=by kernel_rfl
@[simp] theorem tp41:Zr Tryz.prog 41=some [(0,1),(1,1),(2,1),(3,1),(4,1),(5,1)]:=by kernel_rfl
@[simp] theorem tz41:ZZ Tryz.prog 41=some [.val (.int .i64 0),.val (.int .i64 0),.val (.int .i64 0),.val (.int .i64 0),.val (.string .empty),.sl true 0 []]:=by kernel_rfl
@[simp] theorem ts42:Zc Tryz.prog 42=some 11:=by kernel_rfl
@[simp] theorem ta42:tagg Tryz.prog 42=some true:=by kernel_rfl
@[simp] theorem tf42_0:Ze Tryz.prog 42 0=some (0,3,1):=by kernel_rfl
@[simp] theorem tf42_1:Ze Tryz.prog 42 1=some (1,3,1):=by kernel_rfl
@[simp] theorem tf42_2:Ze Tryz.prog 42 2=some (2,3,1):=by kernel_rfl
@[simp] theorem tf42_3:Ze Tryz.prog 42 3=some (3,3,1):=by kernel_rfl
@[simp] theorem tf42_4:Ze Tryz.prog 42 4=some (4,3,1):=by kernel_rfl
@[simp] theorem tf42_5:Ze Tryz.prog 42 5=some (5,41,6):=by kernel_rfl
theorem tst42:Zm Tryz.prog 42=some [(0,3),(1,3),(2,3),(3,3),(4,3),(5,41)]:=by kernel_rfl
@[simp] theorem tp42:Zr Tryz.prog 42=some [(0,1),(1,1),(2,1),(3,1),(4,1),(5,6)]:=by kernel_rfl
@[simp] theorem ts43:Zc Tryz.prog 43=some 11:=by kernel_rfl
@[simp] theorem ta43:tagg Tryz.prog 43=some true:=by kernel_rfl
@[simp] theorem tf43_0:Ze Tryz.prog 43 0=some (0,3,1):=by kernel_rfl
@[simp] theorem tf43_1:Ze Tryz.prog 43 1=some (1,3,1):=by kernel_rfl
@[simp] theorem tf43_2:Ze Tryz.prog 43 2=some (2,3,1):=by kernel_rfl
@[simp] theorem tf43_3:Ze Tryz.prog 43 3=some (3,3,1):=by kernel_rfl
@[simp] theorem tf43_4:Ze Tryz.prog 43 4=some (4,3,1):=by kernel_rfl
@[simp] theorem tf43_5:Ze Tryz.prog 43 5=some (5,41,6):=by kernel_rfl
theorem tst43:Zm Tryz.prog 43=some [(0,3),(1,3),(2,3),(3,3),(4,3),(5,41)]:=by kernel_rfl
@[simp] theorem tp43:Zr Tryz.prog 43=some [(0,1),(1,1),(2,1),(3,1),(4,1),(5,6)]:=by kernel_rfl
@[simp] theorem tz43:ZZ Tryz.prog 43=some [.val (.int .i64 0),.val (.int .i64 0),.val (.int .i64 0),.val (.int .i64 0),.val (.int .i64 0),.val (.int .i64 0),.val (.int .i64 0),.val (.int .i64 0),.val (.int .i64 0),.val (.string .empty),.sl true 0 []]:=by kernel_rfl
@[simp] theorem ts44:Zc Tryz.prog 44=some 1:=by kernel_rfl
@[simp] theorem ta44:tagg Tryz.prog 44=some false:=by kernel_rfl
@[simp] theorem ts45:Zc Tryz.prog 45=some 1:=by kernel_rfl
@[simp] theorem ta45:tagg Tryz.prog 45=some false:=by kernel_rfl
@[simp] theorem ts46:Zc Tryz.prog 46=some 1:=by kernel_rfl
@[simp] theorem ta46:tagg Tryz.prog 46=some false:=by kernel_rfl
@[simp] theorem ts47:Zc Tryz.prog 47=some 1:=by kernel_rfl
@[simp] theorem ta47:tagg Tryz.prog 47=some false:=by kernel_rfl
@[simp] theorem ts48:Zc Tryz.prog 48=some 1:=by kernel_rfl
@[simp] theorem ta48:tagg Tryz.prog 48=some false:=by kernel_rfl
@[simp] theorem ts49:Zc Tryz.prog 49=some 1:=by kernel_rfl
@[simp] theorem ta49:tagg Tryz.prog 49=some false:=by kernel_rfl
@[simp] theorem te49:ZV Tryz.prog 49=some 33:=by kernel_rfl
@[simp] theorem tes49:ZJ Tryz.prog 49=some 14:=by kernel_rfl
@[simp] theorem ts50:Zc Tryz.prog 50=some 1:=by kernel_rfl
@[simp] theorem ta50:tagg Tryz.prog 50=some false:=by kernel_rfl
@[simp] theorem ts51:Zc Tryz.prog 51=some 1:=by kernel_rfl
@[simp] theorem ta51:tagg Tryz.prog 51=some false:=by kernel_rfl
@[simp] theorem ts52:Zc Tryz.prog 52=some 1:=by kernel_rfl
@[simp] theorem ta52:tagg Tryz.prog 52=some false:=by kernel_rfl
@[simp] theorem ts53:Zc Tryz.prog 53=some 1:=by kernel_rfl
@[simp] theorem tb53:ZaT Tryz.prog 53=some 24:=by kernel_rfl
@[simp] theorem ta53:tagg Tryz.prog 53=some false:=by kernel_rfl
@[simp] theorem te53:ZV Tryz.prog 53=some 99:=by kernel_rfl
@[simp] theorem tes53:ZJ Tryz.prog 53=some 5:=by kernel_rfl
@[simp] theorem tz53:ZZ Tryz.prog 53=some [.sl true 0 []]:=by kernel_rfl
@[simp] theorem ts54:Zc Tryz.prog 54=some 2:=by kernel_rfl
@[simp] theorem ta54:tagg Tryz.prog 54=some true:=by kernel_rfl
@[simp] theorem tf54_0:Ze Tryz.prog 54 0=some (0,53,1):=by kernel_rfl
@[simp] theorem tf54_1:Ze Tryz.prog 54 1=some (1,3,1):=by kernel_rfl
theorem tst54:Zm Tryz.prog 54=some [(0,53),(1,3)]:=by kernel_rfl
@[simp] theorem tp54:Zr Tryz.prog 54=some [(0,1),(1,1)]:=by kernel_rfl
@[simp] theorem ts55:Zc Tryz.prog 55=some 2:=by kernel_rfl
@[simp] theorem ta55:tagg Tryz.prog 55=some true:=by kernel_rfl
@[simp] theorem tf55_0:Ze Tryz.prog 55 0=some (0,53,1):=by kernel_rfl
@[simp] theorem tf55_1:Ze Tryz.prog 55 1=some (1,3,1):=by kernel_rfl
theorem tst55:Zm Tryz.prog 55=some [(0,53),(1,3)]:=by kernel_rfl
@[simp] theorem tp55:Zr Tryz.prog 55=some [(0,1),(1,1)]:=by kernel_rfl
@[simp] theorem tz55:ZZ Tryz.prog 55=some [.sl true 0 [],.val (.int .i64 0)]:=by kernel_rfl
@[simp] theorem ts56:Zc Tryz.prog 56=some 1:=by kernel_rfl
@[simp] theorem tb56:ZaT Tryz.prog 56=some 24:=by kernel_rfl
@[simp] theorem ta56:tagg Tryz.prog 56=some false:=by kernel_rfl
@[simp] theorem te56:ZV Tryz.prog 56=some 3:=by kernel_rfl
@[simp] theorem tes56:ZJ Tryz.prog 56=some 1:=by kernel_rfl
@[simp] theorem tz56:ZZ Tryz.prog 56=some [.sl true 0 []]:=by kernel_rfl
@[simp] theorem ts57:Zc Tryz.prog 57=some 6:=by kernel_rfl
@[simp] theorem ta57:tagg Tryz.prog 57=some true:=by kernel_rfl
@[simp] theorem tf57_0:Ze Tryz.prog 57 0=some (0,3,1):=by kernel_rfl
@[simp] theorem tf57_1:Ze Tryz.prog 57 1=some (1,55,2):=by kernel_rfl
@[simp] theorem tf57_2:Ze Tryz.prog 57 2=some (3,55,2):=by kernel_rfl
@[simp] theorem tf57_3:Ze Tryz.prog 57 3=some (5,56,1):=by kernel_rfl
theorem tst57:Zm Tryz.prog 57=some [(0,3),(1,55),(3,55),(5,56)]:=by kernel_rfl
@[simp] theorem tp57:Zr Tryz.prog 57=some [(0,1),(1,2),(3,2),(5,1)]:=by kernel_rfl
@[simp] theorem ts58:Zc Tryz.prog 58=some 6:=by kernel_rfl
@[simp] theorem ta58:tagg Tryz.prog 58=some true:=by kernel_rfl
@[simp] theorem tf58_0:Ze Tryz.prog 58 0=some (0,3,1):=by kernel_rfl
@[simp] theorem tf58_1:Ze Tryz.prog 58 1=some (1,55,2):=by kernel_rfl
@[simp] theorem tf58_2:Ze Tryz.prog 58 2=some (3,55,2):=by kernel_rfl
@[simp] theorem tf58_3:Ze Tryz.prog 58 3=some (5,56,1):=by kernel_rfl
theorem tst58:Zm Tryz.prog 58=some [(0,3),(1,55),(3,55),(5,56)]:=by kernel_rfl
@[simp] theorem tp58:Zr Tryz.prog 58=some [(0,1),(1,2),(3,2),(5,1)]:=by kernel_rfl
@[simp] theorem tz58:ZZ Tryz.prog 58=some [.val (.int .i64 0),.sl true 0 [],.val (.int .i64 0),.sl true 0 [],.val (.int .i64 0),.sl true 0 []]:=by kernel_rfl
@[simp] theorem ts59:Zc Tryz.prog 59=some 17:=by kernel_rfl
@[simp] theorem ta59:tagg Tryz.prog 59=some true:=by kernel_rfl
@[simp] theorem tf59_0:Ze Tryz.prog 59 0=some (0,3,1):=by kernel_rfl
@[simp] theorem tf59_1:Ze Tryz.prog 59 1=some (1,3,1):=by kernel_rfl
@[simp] theorem tf59_2:Ze Tryz.prog 59 2=some (2,3,1):=by kernel_rfl
@[simp] theorem tf59_3:Ze Tryz.prog 59 3=some (3,3,1):=by kernel_rfl
@[simp] theorem tf59_4:Ze Tryz.prog 59 4=some (4,58,6):=by kernel_rfl
@[simp] theorem tf59_5:Ze Tryz.prog 59 5=some (10,41,6):=by kernel_rfl
@[simp] theorem tf59_6:Ze Tryz.prog 59 6=some (16,3,1):=by kernel_rfl
theorem tst59:Zm Tryz.prog 59=some [(0,3),(1,3),(2,3),(3,3),(4,58),(10,41),(16,3)]:=by kernel_rfl
@[simp] theorem tp59:Zr Tryz.prog 59=some [(0,1),(1,1),(2,1),(3,1),(4,6),(10,6),(16,1)]:=by kernel_rfl
@[simp] theorem ts60:Zc Tryz.prog 60=some 17:=by kernel_rfl
@[simp] theorem tb60:ZaT Tryz.prog 60=some 208:=by kernel_rfl
@[simp] theorem ta60:tagg Tryz.prog 60=some true:=by kernel_rfl
@[simp] theorem tf60_0:Ze Tryz.prog 60 0=some (0,3,1):=by kernel_rfl
@[simp] theorem tf60_1:Ze Tryz.prog 60 1=some (1,3,1):=by kernel_rfl
@[simp] theorem tf60_2:Ze Tryz.prog 60 2=some (2,3,1):=by kernel_rfl
@[simp] theorem tf60_3:Ze Tryz.prog 60 3=some (3,3,1):=by kernel_rfl
@[simp] theorem tf60_4:Ze Tryz.prog 60 4=some (4,58,6):=by kernel_rfl
@[simp] theorem tf60_5:Ze Tryz.prog 60 5=some (10,41,6):=by kernel_rfl
@[simp] theorem tf60_6:Ze Tryz.prog 60 6=some (16,3,1):=by kernel_rfl
theorem tst60:Zm Tryz.prog 60=some [(0,3),(1,3),(2,3),(3,3),(4,58),(10,41),(16,3)]:=by kernel_rfl
@[simp] theorem tp60:Zr Tryz.prog 60=some [(0,1),(1,1),(2,1),(3,1),(4,6),(10,6),(16,1)]:=by kernel_rfl
@[simp] theorem tz60:ZZ Tryz.prog 60=some [.val (.int .i64 0),.val (.int .i64 0),.val (.int .i64 0),.val (.int .i64 0),.val (.int .i64 0),.sl true 0 [],.val (.int .i64 0),.sl true 0 [],.val (.int .i64 0),.sl true 0 [],.val (.int .i64 0),.val (.int .i64 0),.val (.int .i64 0),.val (.int .i64 0),.val (.string .empty),.sl true 0 [],.val (.int .i64 0)]:=by kernel_rfl
@[simp] theorem ts61:Zc Tryz.prog 61=some 1:=by kernel_rfl
@[simp] theorem ta61:tagg Tryz.prog 61=some false:=by kernel_rfl
@[simp] theorem ts63:Zc Tryz.prog 63=some 1:=by kernel_rfl
@[simp] theorem ta63:tagg Tryz.prog 63=some false:=by kernel_rfl
@[simp] theorem ts64:Zc Tryz.prog 64=some 1:=by kernel_rfl
@[simp] theorem ta64:tagg Tryz.prog 64=some false:=by kernel_rfl
@[simp] theorem te64:ZV Tryz.prog 64=some 106:=by kernel_rfl
@[simp] theorem tes64:ZJ Tryz.prog 64=some 7:=by kernel_rfl
@[simp] theorem ts65:Zc Tryz.prog 65=some 1:=by kernel_rfl
@[simp] theorem ta65:tagg Tryz.prog 65=some false:=by kernel_rfl
@[simp] theorem ts66:Zc Tryz.prog 66=some 1:=by kernel_rfl
@[simp] theorem ta66:tagg Tryz.prog 66=some false:=by kernel_rfl
@[simp] theorem ts70:Zc Tryz.prog 70=some 1:=by kernel_rfl
@[simp] theorem ta70:tagg Tryz.prog 70=some false:=by kernel_rfl
@[simp] theorem ts73:Zc Tryz.prog 73=some 16:=by kernel_rfl
@[simp] theorem ta73:tagg Tryz.prog 73=some true:=by kernel_rfl
@[simp] theorem tf73_0:Ze Tryz.prog 73 0=some (0,29,7):=by kernel_rfl
@[simp] theorem tf73_1:Ze Tryz.prog 73 1=some (7,3,1):=by kernel_rfl
@[simp] theorem tf73_2:Ze Tryz.prog 73 2=some (8,3,1):=by kernel_rfl
@[simp] theorem tf73_3:Ze Tryz.prog 73 3=some (9,29,7):=by kernel_rfl
theorem tst73:Zm Tryz.prog 73=some [(0,29),(7,3),(8,3),(9,29)]:=by kernel_rfl
@[simp] theorem tp73:Zr Tryz.prog 73=some [(0,7),(7,1),(8,1),(9,7)]:=by kernel_rfl
@[simp] theorem ts74:Zc Tryz.prog 74=some 1:=by kernel_rfl
@[simp] theorem ta74:tagg Tryz.prog 74=some false:=by kernel_rfl
@[simp] theorem ts75:Zc Tryz.prog 75=some 1:=by kernel_rfl
@[simp] theorem ta75:tagg Tryz.prog 75=some false:=by kernel_rfl
@[simp] theorem ts76:Zc Tryz.prog 76=some 1:=by kernel_rfl
@[simp] theorem ta76:tagg Tryz.prog 76=some false:=by kernel_rfl
@[simp] theorem ts77:Zc Tryz.prog 77=some 1:=by kernel_rfl
@[simp] theorem ta77:tagg Tryz.prog 77=some false:=by kernel_rfl
@[simp] theorem ts78:Zc Tryz.prog 78=some 1:=by kernel_rfl
@[simp] theorem ta78:tagg Tryz.prog 78=some false:=by kernel_rfl
@[simp] theorem ts79:Zc Tryz.prog 79=some 1:=by kernel_rfl
@[simp] theorem ta79:tagg Tryz.prog 79=some false:=by kernel_rfl
@[simp] theorem ts80:Zc Tryz.prog 80=some 1:=by kernel_rfl
@[simp] theorem ta80:tagg Tryz.prog 80=some false:=by kernel_rfl
@[simp] theorem ts81:Zc Tryz.prog 81=some 1:=by kernel_rfl
@[simp] theorem ta81:tagg Tryz.prog 81=some false:=by kernel_rfl
@[simp] theorem ts82:Zc Tryz.prog 82=some 1:=by kernel_rfl
@[simp] theorem ta82:tagg Tryz.prog 82=some false:=by kernel_rfl
@[simp] theorem ts83:Zc Tryz.prog 83=some 1:=by kernel_rfl
@[simp] theorem ta83:tagg Tryz.prog 83=some false:=by kernel_rfl
@[simp] theorem ts84:Zc Tryz.prog 84=some 1:=by kernel_rfl
@[simp] theorem ta84:tagg Tryz.prog 84=some false:=by kernel_rfl
@[simp] theorem ts85:Zc Tryz.prog 85=some 1:=by kernel_rfl
@[simp] theorem ta85:tagg Tryz.prog 85=some false:=by kernel_rfl
@[simp] theorem tv85:Zif Tryz.prog 85=some (.val .nilFunc):=by kernel_rfl
@[simp] theorem ts86:Zc Tryz.prog 86=some 1:=by kernel_rfl
@[simp] theorem ta86:tagg Tryz.prog 86=some false:=by kernel_rfl
@[simp] theorem ts87:Zc Tryz.prog 87=some 1:=by kernel_rfl
@[simp] theorem ta87:tagg Tryz.prog 87=some false:=by kernel_rfl
@[simp] theorem ts89:Zc Tryz.prog 89=some 1:=by kernel_rfl
@[simp] theorem ta89:tagg Tryz.prog 89=some false:=by kernel_rfl
@[simp] theorem ts91:Zc Tryz.prog 91=some 2:=by kernel_rfl
@[simp] theorem ta91:tagg Tryz.prog 91=some true:=by kernel_rfl
@[simp] theorem tf91_0:Ze Tryz.prog 91 0=some (0,3,1):=by kernel_rfl
@[simp] theorem tf91_1:Ze Tryz.prog 91 1=some (1,3,1):=by kernel_rfl
theorem tst91:Zm Tryz.prog 91=some [(0,3),(1,3)]:=by kernel_rfl
@[simp] theorem tp91:Zr Tryz.prog 91=some [(0,1),(1,1)]:=by kernel_rfl
@[simp] theorem ts92:Zc Tryz.prog 92=some 2:=by kernel_rfl
@[simp] theorem tb92:ZaT Tryz.prog 92=some 16:=by kernel_rfl
@[simp] theorem ta92:tagg Tryz.prog 92=some true:=by kernel_rfl
@[simp] theorem tf92_0:Ze Tryz.prog 92 0=some (0,3,1):=by kernel_rfl
@[simp] theorem tf92_1:Ze Tryz.prog 92 1=some (1,3,1):=by kernel_rfl
theorem tst92:Zm Tryz.prog 92=some [(0,3),(1,3)]:=by kernel_rfl
@[simp] theorem tfl92:ZhW Tryz.prog 92=some [.int .i64,.int .i64]:=by kernel_rfl
@[simp] theorem tp92:Zr Tryz.prog 92=some [(0,1),(1,1)]:=by kernel_rfl
@[simp] theorem tz92:ZZ Tryz.prog 92=some [.val (.int .i64 0),.val (.int .i64 0)]:=by kernel_rfl
@[simp] theorem ts93:Zc Tryz.prog 93=some 1:=by kernel_rfl
@[simp] theorem ta93:tagg Tryz.prog 93=some false:=by kernel_rfl
@[simp] theorem te93:ZV Tryz.prog 93=some 101:=by kernel_rfl
@[simp] theorem tes93:ZJ Tryz.prog 93=some 7:=by kernel_rfl
@[simp] theorem ts94:Zc Tryz.prog 94=some 2:=by kernel_rfl
@[simp] theorem ta94:tagg Tryz.prog 94=some true:=by kernel_rfl
@[simp] theorem tf94_0:Ze Tryz.prog 94 0=some (0,3,1):=by kernel_rfl
@[simp] theorem tf94_1:Ze Tryz.prog 94 1=some (1,93,1):=by kernel_rfl
theorem tst94:Zm Tryz.prog 94=some [(0,3),(1,93)]:=by kernel_rfl
@[simp] theorem tp94:Zr Tryz.prog 94=some [(0,1),(1,1)]:=by kernel_rfl
@[simp] theorem ts95:Zc Tryz.prog 95=some 2:=by kernel_rfl
@[simp] theorem tb95:ZaT Tryz.prog 95=some 32:=by kernel_rfl
@[simp] theorem ta95:tagg Tryz.prog 95=some true:=by kernel_rfl
@[simp] theorem tf95_0:Ze Tryz.prog 95 0=some (0,3,1):=by kernel_rfl
@[simp] theorem tf95_1:Ze Tryz.prog 95 1=some (1,93,1):=by kernel_rfl
theorem tst95:Zm Tryz.prog 95=some [(0,3),(1,93)]:=by kernel_rfl
@[simp] theorem tp95:Zr Tryz.prog 95=some [(0,1),(1,1)]:=by kernel_rfl
@[simp] theorem tz95:ZZ Tryz.prog 95=some [.val (.int .i64 0),.sl true 0 []]:=by kernel_rfl
@[simp] theorem ts96:Zc Tryz.prog 96=some 1:=by kernel_rfl
@[simp] theorem ta96:tagg Tryz.prog 96=some false:=by kernel_rfl
@[simp] theorem ts97:Zc Tryz.prog 97=some 1:=by kernel_rfl
@[simp] theorem ta97:tagg Tryz.prog 97=some false:=by kernel_rfl
@[simp] theorem te97:ZV Tryz.prog 97=some 141:=by kernel_rfl
@[simp] theorem tes97:ZJ Tryz.prog 97=some 2:=by kernel_rfl
@[simp] theorem ts98:Zc Tryz.prog 98=some 5:=by kernel_rfl
@[simp] theorem ta98:tagg Tryz.prog 98=some true:=by kernel_rfl
@[simp] theorem tf98_0:Ze Tryz.prog 98 0=some (0,3,1):=by kernel_rfl
@[simp] theorem tf98_1:Ze Tryz.prog 98 1=some (1,3,1):=by kernel_rfl
@[simp] theorem tf98_2:Ze Tryz.prog 98 2=some (2,3,1):=by kernel_rfl
@[simp] theorem tf98_3:Ze Tryz.prog 98 3=some (3,9,1):=by kernel_rfl
@[simp] theorem tf98_4:Ze Tryz.prog 98 4=some (4,97,1):=by kernel_rfl
theorem tst98:Zm Tryz.prog 98=some [(0,3),(1,3),(2,3),(3,9),(4,97)]:=by kernel_rfl
@[simp] theorem tp98:Zr Tryz.prog 98=some [(0,1),(1,1),(2,1),(3,1),(4,1)]:=by kernel_rfl
@[simp] theorem ts99:Zc Tryz.prog 99=some 5:=by kernel_rfl
@[simp] theorem tb99:ZaT Tryz.prog 99=some 64:=by kernel_rfl
@[simp] theorem ta99:tagg Tryz.prog 99=some true:=by kernel_rfl
@[simp] theorem tf99_0:Ze Tryz.prog 99 0=some (0,3,1):=by kernel_rfl
@[simp] theorem tf99_1:Ze Tryz.prog 99 1=some (1,3,1):=by kernel_rfl
@[simp] theorem tf99_2:Ze Tryz.prog 99 2=some (2,3,1):=by kernel_rfl
@[simp] theorem tf99_3:Ze Tryz.prog 99 3=some (3,9,1):=by kernel_rfl
@[simp] theorem tf99_4:Ze Tryz.prog 99 4=some (4,97,1):=by kernel_rfl
theorem tst99:Zm Tryz.prog 99=some [(0,3),(1,3),(2,3),(3,9),(4,97)]:=by kernel_rfl
@[simp] theorem tp99:Zr Tryz.prog 99=some [(0,1),(1,1),(2,1),(3,1),(4,1)]:=by kernel_rfl
@[simp] theorem tz99:ZZ Tryz.prog 99=some [.val (.int .i64 0),.val (.int .i64 0),.val (.int .i64 0),.val (.string .empty),.sl true 0 []]:=by kernel_rfl
@[simp] theorem ts100:Zc Tryz.prog 100=some 7:=by kernel_rfl
@[simp] theorem ta100:tagg Tryz.prog 100=some true:=by kernel_rfl
@[simp] theorem tf100_0:Ze Tryz.prog 100 0=some (0,3,1):=by kernel_rfl
@[simp] theorem tf100_1:Ze Tryz.prog 100 1=some (1,4,1):=by kernel_rfl
@[simp] theorem tf100_2:Ze Tryz.prog 100 2=some (2,99,5):=by kernel_rfl
theorem tst100:Zm Tryz.prog 100=some [(0,3),(1,4),(2,99)]:=by kernel_rfl
@[simp] theorem tp100:Zr Tryz.prog 100=some [(0,1),(1,1),(2,5)]:=by kernel_rfl
@[simp] theorem ts101:Zc Tryz.prog 101=some 7:=by kernel_rfl
@[simp] theorem tb101:ZaT Tryz.prog 101=some 80:=by kernel_rfl
@[simp] theorem ta101:tagg Tryz.prog 101=some true:=by kernel_rfl
@[simp] theorem tf101_0:Ze Tryz.prog 101 0=some (0,3,1):=by kernel_rfl
@[simp] theorem tf101_1:Ze Tryz.prog 101 1=some (1,4,1):=by kernel_rfl
@[simp] theorem tf101_2:Ze Tryz.prog 101 2=some (2,99,5):=by kernel_rfl
theorem tst101:Zm Tryz.prog 101=some [(0,3),(1,4),(2,99)]:=by kernel_rfl
@[simp] theorem tp101:Zr Tryz.prog 101=some [(0,1),(1,1),(2,5)]:=by kernel_rfl
@[simp] theorem tz101:ZZ Tryz.prog 101=some [.val (.int .i64 0),.val (.bool false),.val (.int .i64 0),.val (.int .i64 0),.val (.int .i64 0),.val (.string .empty),.sl true 0 []]:=by kernel_rfl
@[simp] theorem ts102:Zc Tryz.prog 102=some 1:=by kernel_rfl
@[simp] theorem ta102:tagg Tryz.prog 102=some false:=by kernel_rfl
@[simp] theorem ts103:Zc Tryz.prog 103=some 1:=by kernel_rfl
@[simp] theorem ta103:tagg Tryz.prog 103=some false:=by kernel_rfl
@[simp] theorem ts104:Zc Tryz.prog 104=some 1:=by kernel_rfl
@[simp] theorem ta104:tagg Tryz.prog 104=some false:=by kernel_rfl
@[simp] theorem ts105:Zc Tryz.prog 105=some 7:=by kernel_rfl
@[simp] theorem ta105:tagg Tryz.prog 105=some true:=by kernel_rfl
@[simp] theorem tf105_0:Ze Tryz.prog 105 0=some (0,3,1):=by kernel_rfl
@[simp] theorem tf105_1:Ze Tryz.prog 105 1=some (1,4,1):=by kernel_rfl
@[simp] theorem tf105_2:Ze Tryz.prog 105 2=some (2,99,5):=by kernel_rfl
theorem tst105:Zm Tryz.prog 105=some [(0,3),(1,4),(2,99)]:=by kernel_rfl
@[simp] theorem tp105:Zr Tryz.prog 105=some [(0,1),(1,1),(2,5)]:=by kernel_rfl
@[simp] theorem ts106:Zc Tryz.prog 106=some 7:=by kernel_rfl
@[simp] theorem tb106:ZaT Tryz.prog 106=some 80:=by kernel_rfl
@[simp] theorem ta106:tagg Tryz.prog 106=some true:=by kernel_rfl
@[simp] theorem tf106_0:Ze Tryz.prog 106 0=some (0,3,1):=by kernel_rfl
@[simp] theorem tf106_1:Ze Tryz.prog 106 1=some (1,4,1):=by kernel_rfl
@[simp] theorem tf106_2:Ze Tryz.prog 106 2=some (2,99,5):=by kernel_rfl
theorem tst106:Zm Tryz.prog 106=some [(0,3),(1,4),(2,99)]:=by kernel_rfl
@[simp] theorem tp106:Zr Tryz.prog 106=some [(0,1),(1,1),(2,5)]:=by kernel_rfl
@[simp] theorem tz106:ZZ Tryz.prog 106=some [.val (.int .i64 0),.val (.bool false),.val (.int .i64 0),.val (.int .i64 0),.val (.int .i64 0),.val (.string .empty),.sl true 0 []]:=by kernel_rfl
@[simp] theorem ts107:Zc Tryz.prog 107=some 1:=by kernel_rfl
@[simp] theorem ta107:tagg Tryz.prog 107=some false:=by kernel_rfl
@[simp] theorem ts108:Zc Tryz.prog 108=some 1:=by kernel_rfl
@[simp] theorem ta108:tagg Tryz.prog 108=some false:=by kernel_rfl
@[simp] theorem ts109:Zc Tryz.prog 109=some 1:=by kernel_rfl
@[simp] theorem ta109:tagg Tryz.prog 109=some false:=by kernel_rfl
@[simp] theorem ts110:Zc Tryz.prog 110=some 1:=by kernel_rfl
@[simp] theorem ta110:tagg Tryz.prog 110=some false:=by kernel_rfl
@[simp] theorem ts111:Zc Tryz.prog 111=some 1:=by kernel_rfl
@[simp] theorem ta111:tagg Tryz.prog 111=some false:=by kernel_rfl
@[simp] theorem ts112:Zc Tryz.prog 112=some 1:=by kernel_rfl
@[simp] theorem ta112:tagg Tryz.prog 112=some false:=by kernel_rfl
@[simp] theorem ts113:Zc Tryz.prog 113=some 1:=by kernel_rfl
@[simp] theorem ta113:tagg Tryz.prog 113=some false:=by kernel_rfl
@[simp] theorem ts114:Zc Tryz.prog 114=some 1:=by kernel_rfl
@[simp] theorem ta114:tagg Tryz.prog 114=some false:=by kernel_rfl
@[simp] theorem ts115:Zc Tryz.prog 115=some 1:=by kernel_rfl
@[simp] theorem ta115:tagg Tryz.prog 115=some false:=by kernel_rfl
@[simp] theorem tz115:ZZ Tryz.prog 115=some [.val .nilFunc]:=by kernel_rfl
@[simp] theorem ts116:Zc Tryz.prog 116=some 1:=by kernel_rfl
@[simp] theorem ta116:tagg Tryz.prog 116=some false:=by kernel_rfl
@[simp] theorem ts117:Zc Tryz.prog 117=some 1:=by kernel_rfl
@[simp] theorem ta117:tagg Tryz.prog 117=some false:=by kernel_rfl
@[simp] theorem te117:ZV Tryz.prog 117=some 126:=by kernel_rfl
@[simp] theorem tes117:ZJ Tryz.prog 117=some 2:=by kernel_rfl
@[simp] theorem ts118:Zc Tryz.prog 118=some 4:=by kernel_rfl
@[simp] theorem ta118:tagg Tryz.prog 118=some true:=by kernel_rfl
@[simp] theorem tf118_0:Ze Tryz.prog 118 0=some (0,3,1):=by kernel_rfl
@[simp] theorem tf118_1:Ze Tryz.prog 118 1=some (1,3,1):=by kernel_rfl
@[simp] theorem tf118_2:Ze Tryz.prog 118 2=some (2,3,1):=by kernel_rfl
@[simp] theorem tf118_3:Ze Tryz.prog 118 3=some (3,117,1):=by kernel_rfl
theorem tst118:Zm Tryz.prog 118=some [(0,3),(1,3),(2,3),(3,117)]:=by kernel_rfl
@[simp] theorem tp118:Zr Tryz.prog 118=some [(0,1),(1,1),(2,1),(3,1)]:=by kernel_rfl
@[simp] theorem ts119:Zc Tryz.prog 119=some 4:=by kernel_rfl
@[simp] theorem tb119:ZaT Tryz.prog 119=some 48:=by kernel_rfl
@[simp] theorem ta119:tagg Tryz.prog 119=some true:=by kernel_rfl
@[simp] theorem tf119_0:Ze Tryz.prog 119 0=some (0,3,1):=by kernel_rfl
@[simp] theorem tf119_1:Ze Tryz.prog 119 1=some (1,3,1):=by kernel_rfl
@[simp] theorem tf119_2:Ze Tryz.prog 119 2=some (2,3,1):=by kernel_rfl
@[simp] theorem tf119_3:Ze Tryz.prog 119 3=some (3,117,1):=by kernel_rfl
theorem tst119:Zm Tryz.prog 119=some [(0,3),(1,3),(2,3),(3,117)]:=by kernel_rfl
@[simp] theorem tp119:Zr Tryz.prog 119=some [(0,1),(1,1),(2,1),(3,1)]:=by kernel_rfl
@[simp] theorem tz119:ZZ Tryz.prog 119=some [.val (.int .i64 0),.val (.int .i64 0),.val (.int .i64 0),.sl true 0 []]:=by kernel_rfl
@[simp] theorem ts120:Zc Tryz.prog 120=some 1:=by kernel_rfl
@[simp] theorem ta120:tagg Tryz.prog 120=some false:=by kernel_rfl
@[simp] theorem ts121:Zc Tryz.prog 121=some 1:=by kernel_rfl
@[simp] theorem ta121:tagg Tryz.prog 121=some false:=by kernel_rfl
@[simp] theorem ts122:Zc Tryz.prog 122=some 1:=by kernel_rfl
@[simp] theorem ta122:tagg Tryz.prog 122=some false:=by kernel_rfl
@[simp] theorem ts123:Zc Tryz.prog 123=some 1:=by kernel_rfl
@[simp] theorem ta123:tagg Tryz.prog 123=some false:=by kernel_rfl
@[simp] theorem ts124:Zc Tryz.prog 124=some 1:=by kernel_rfl
@[simp] theorem ta124:tagg Tryz.prog 124=some false:=by kernel_rfl
@[simp] theorem ts125:Zc Tryz.prog 125=some 2:=by kernel_rfl
@[simp] theorem ta125:tagg Tryz.prog 125=some true:=by kernel_rfl
@[simp] theorem tf125_0:Ze Tryz.prog 125 0=some (0,3,1):=by kernel_rfl
@[simp] theorem tf125_1:Ze Tryz.prog 125 1=some (1,4,1):=by kernel_rfl
theorem tst125:Zm Tryz.prog 125=some [(0,3),(1,4)]:=by kernel_rfl
@[simp] theorem tp125:Zr Tryz.prog 125=some [(0,1),(1,1)]:=by kernel_rfl
@[simp] theorem ts126:Zc Tryz.prog 126=some 2:=by kernel_rfl
@[simp] theorem tb126:ZaT Tryz.prog 126=some 16:=by kernel_rfl
@[simp] theorem ta126:tagg Tryz.prog 126=some true:=by kernel_rfl
@[simp] theorem tf126_0:Ze Tryz.prog 126 0=some (0,3,1):=by kernel_rfl
@[simp] theorem tf126_1:Ze Tryz.prog 126 1=some (1,4,1):=by kernel_rfl
theorem tst126:Zm Tryz.prog 126=some [(0,3),(1,4)]:=by kernel_rfl
@[simp] theorem tfl126:ZhW Tryz.prog 126=some [.int .i64,.bool]:=by kernel_rfl
@[simp] theorem tp126:Zr Tryz.prog 126=some [(0,1),(1,1)]:=by kernel_rfl
@[simp] theorem tz126:ZZ Tryz.prog 126=some [.val (.int .i64 0),.val (.bool false)]:=by kernel_rfl
@[simp] theorem ts127:Zc Tryz.prog 127=some 1:=by kernel_rfl
@[simp] theorem ta127:tagg Tryz.prog 127=some false:=by kernel_rfl
@[simp] theorem tz127:ZZ Tryz.prog 127=some [.val .nilFunc]:=by kernel_rfl
@[simp] theorem ts128:Zc Tryz.prog 128=some 1:=by kernel_rfl
@[simp] theorem ta128:tagg Tryz.prog 128=some false:=by kernel_rfl
@[simp] theorem ts129:Zc Tryz.prog 129=some 1:=by kernel_rfl
@[simp] theorem ta129:tagg Tryz.prog 129=some false:=by kernel_rfl
@[simp] theorem ts130:Zc Tryz.prog 130=some 1:=by kernel_rfl
@[simp] theorem ta130:tagg Tryz.prog 130=some false:=by kernel_rfl
@[simp] theorem ts132:Zc Tryz.prog 132=some 1:=by kernel_rfl
@[simp] theorem ta132:tagg Tryz.prog 132=some false:=by kernel_rfl
@[simp] theorem ts133:Zc Tryz.prog 133=some 1:=by kernel_rfl
@[simp] theorem ta133:tagg Tryz.prog 133=some false:=by kernel_rfl
@[simp] theorem ts134:Zc Tryz.prog 134=some 1:=by kernel_rfl
@[simp] theorem ta134:tagg Tryz.prog 134=some false:=by kernel_rfl
@[simp] theorem tm134:tmap Tryz.prog 134=some (.int .i64,85):=by kernel_rfl
@[simp] theorem ts136:Zc Tryz.prog 136=some 1:=by kernel_rfl
@[simp] theorem ta136:tagg Tryz.prog 136=some false:=by kernel_rfl
@[simp] theorem ts138:Zc Tryz.prog 138=some 1:=by kernel_rfl
@[simp] theorem ta138:tagg Tryz.prog 138=some false:=by kernel_rfl
@[simp] theorem ts140:Zc Tryz.prog 140=some 2:=by kernel_rfl
@[simp] theorem ta140:tagg Tryz.prog 140=some true:=by kernel_rfl
@[simp] theorem tf140_0:Ze Tryz.prog 140 0=some (0,9,1):=by kernel_rfl
@[simp] theorem tf140_1:Ze Tryz.prog 140 1=some (1,3,1):=by kernel_rfl
theorem tst140:Zm Tryz.prog 140=some [(0,9),(1,3)]:=by kernel_rfl
@[simp] theorem tp140:Zr Tryz.prog 140=some [(0,1),(1,1)]:=by kernel_rfl
@[simp] theorem ts141:Zc Tryz.prog 141=some 2:=by kernel_rfl
@[simp] theorem tb141:ZaT Tryz.prog 141=some 24:=by kernel_rfl
@[simp] theorem ta141:tagg Tryz.prog 141=some true:=by kernel_rfl
@[simp] theorem tf141_0:Ze Tryz.prog 141 0=some (0,9,1):=by kernel_rfl
@[simp] theorem tf141_1:Ze Tryz.prog 141 1=some (1,3,1):=by kernel_rfl
theorem tst141:Zm Tryz.prog 141=some [(0,9),(1,3)]:=by kernel_rfl
@[simp] theorem tfl141:ZhW Tryz.prog 141=some [.string,.int .i64]:=by kernel_rfl
@[simp] theorem tp141:Zr Tryz.prog 141=some [(0,1),(1,1)]:=by kernel_rfl
@[simp] theorem tz141:ZZ Tryz.prog 141=some [.val (.string .empty),.val (.int .i64 0)]:=by kernel_rfl
@[simp] theorem ts142:Zc Tryz.prog 142=some 1:=by kernel_rfl
@[simp] theorem ta142:tagg Tryz.prog 142=some false:=by kernel_rfl
@[simp] theorem ts143:Zc Tryz.prog 143=some 1:=by kernel_rfl
@[simp] theorem ta143:tagg Tryz.prog 143=some false:=by kernel_rfl
@[simp] theorem ts144:Zc Tryz.prog 144=some 1:=by kernel_rfl
@[simp] theorem ta144:tagg Tryz.prog 144=some false:=by kernel_rfl
@[simp] theorem ts145:Zc Tryz.prog 145=some 1:=by kernel_rfl
@[simp] theorem ta145:tagg Tryz.prog 145=some false:=by kernel_rfl
@[simp] theorem ts146:Zc Tryz.prog 146=some 1:=by kernel_rfl
@[simp] theorem ta146:tagg Tryz.prog 146=some false:=by kernel_rfl
@[simp] theorem ts147:Zc Tryz.prog 147=some 1:=by kernel_rfl
@[simp] theorem ta147:tagg Tryz.prog 147=some false:=by kernel_rfl
@[simp] theorem ts148:Zc Tryz.prog 148=some 1:=by kernel_rfl
@[simp] theorem ta148:tagg Tryz.prog 148=some false:=by kernel_rfl
@[simp] theorem ts149:Zc Tryz.prog 149=some 1:=by kernel_rfl
@[simp] theorem ta149:tagg Tryz.prog 149=some false:=by kernel_rfl
@[simp] theorem ts150:Zc Tryz.prog 150=some 1:=by kernel_rfl
@[simp] theorem ta150:tagg Tryz.prog 150=some false:=by kernel_rfl
@[simp] theorem ts151:Zc Tryz.prog 151=some 1:=by kernel_rfl
@[simp] theorem ta151:tagg Tryz.prog 151=some false:=by kernel_rfl
@[simp] theorem ts152:Zc Tryz.prog 152=some 1:=by kernel_rfl
@[simp] theorem ta152:tagg Tryz.prog 152=some false:=by kernel_rfl
@[simp] theorem ts154:Zc Tryz.prog 154=some 1:=by kernel_rfl
@[simp] theorem ta154:tagg Tryz.prog 154=some false:=by kernel_rfl
@[simp] theorem ts157:Zc Tryz.prog 157=some 1:=by kernel_rfl
@[simp] theorem ta157:tagg Tryz.prog 157=some false:=by kernel_rfl
@[simp] theorem ts160:Zc Tryz.prog 160=some 1:=by kernel_rfl
@[simp] theorem ta160:tagg Tryz.prog 160=some false:=by kernel_rfl
@[simp] theorem ts161:Zc Tryz.prog 161=some 1:=by kernel_rfl
@[simp] theorem ta161:tagg Tryz.prog 161=some false:=by kernel_rfl
@[simp] theorem ts163:Zc Tryz.prog 163=some 1:=by kernel_rfl
@[simp] theorem ta163:tagg Tryz.prog 163=some false:=by kernel_rfl
@[simp] theorem ts165:Zc Tryz.prog 165=some 1:=by kernel_rfl
@[simp] theorem ta165:tagg Tryz.prog 165=some false:=by kernel_rfl
@[simp] theorem ts166:Zc Tryz.prog 166=some 1:=by kernel_rfl
@[simp] theorem ta166:tagg Tryz.prog 166=some false:=by kernel_rfl
@[simp] theorem ts167:Zc Tryz.prog 167=some 1:=by kernel_rfl
@[simp] theorem ta167:tagg Tryz.prog 167=some false:=by kernel_rfl
@[simp] theorem ts168:Zc Tryz.prog 168=some 1:=by kernel_rfl
@[simp] theorem ta168:tagg Tryz.prog 168=some false:=by kernel_rfl
@[simp] theorem ts169:Zc Tryz.prog 169=some 1:=by kernel_rfl
@[simp] theorem ta169:tagg Tryz.prog 169=some false:=by kernel_rfl
@[simp] theorem ts170:Zc Tryz.prog 170=some 1:=by kernel_rfl
@[simp] theorem ta170:tagg Tryz.prog 170=some false:=by kernel_rfl
@[simp] theorem ts171:Zc Tryz.prog 171=some 1:=by kernel_rfl
@[simp] theorem ta171:tagg Tryz.prog 171=some false:=by kernel_rfl
@[simp] theorem ts172:Zc Tryz.prog 172=some 1:=by kernel_rfl
@[simp] theorem ta172:tagg Tryz.prog 172=some false:=by kernel_rfl
@[simp] theorem ts173:Zc Tryz.prog 173=some 1:=by kernel_rfl
@[simp] theorem ta173:tagg Tryz.prog 173=some false:=by kernel_rfl
@[simp] theorem ts174:Zc Tryz.prog 174=some 1:=by kernel_rfl
@[simp] theorem ta174:tagg Tryz.prog 174=some false:=by kernel_rfl
@[simp] theorem ts175:Zc Tryz.prog 175=some 1:=by kernel_rfl
@[simp] theorem ta175:tagg Tryz.prog 175=some false:=by kernel_rfl
@[simp] theorem ts176:Zc Tryz.prog 176=some 1:=by kernel_rfl
@[simp] theorem ta176:tagg Tryz.prog 176=some false:=by kernel_rfl
@[simp] theorem tm176:tmap Tryz.prog 176=some (.int .i64,3):=by kernel_rfl
@[simp] theorem tz176:ZZ Tryz.prog 176=some [.val (.map none)]:=by kernel_rfl
@[simp] theorem ts177:Zc Tryz.prog 177=some 1:=by kernel_rfl
@[simp] theorem ta177:tagg Tryz.prog 177=some false:=by kernel_rfl
@[simp] theorem ts178:Zc Tryz.prog 178=some 1:=by kernel_rfl
@[simp] theorem ta178:tagg Tryz.prog 178=some false:=by kernel_rfl
@[simp] theorem ts179:Zc Tryz.prog 179=some 1:=by kernel_rfl
@[simp] theorem ta179:tagg Tryz.prog 179=some false:=by kernel_rfl
@[simp] theorem ts180:Zc Tryz.prog 180=some 1:=by kernel_rfl
@[simp] theorem ta180:tagg Tryz.prog 180=some false:=by kernel_rfl
@[simp] theorem ts181:Zc Tryz.prog 181=some 1:=by kernel_rfl
@[simp] theorem ta181:tagg Tryz.prog 181=some false:=by kernel_rfl
@[simp] theorem ts182:Zc Tryz.prog 182=some 1:=by kernel_rfl
@[simp] theorem ta182:tagg Tryz.prog 182=some false:=by kernel_rfl
@[simp] theorem ts184:Zc Tryz.prog 184=some 1:=by kernel_rfl
@[simp] theorem ta184:tagg Tryz.prog 184=some false:=by kernel_rfl
@[simp] theorem tz184:ZZ Tryz.prog 184=some [.val .nilFunc]:=by kernel_rfl
@[simp] theorem ts192:Zc Tryz.prog 192=some 1:=by kernel_rfl
@[simp] theorem ta192:tagg Tryz.prog 192=some false:=by kernel_rfl
@[simp] theorem ts196:Zc Tryz.prog 196=some 1:=by kernel_rfl
@[simp] theorem ta196:tagg Tryz.prog 196=some false:=by kernel_rfl
@[simp] theorem ts197:Zc Tryz.prog 197=some 1:=by kernel_rfl
@[simp] theorem ta197:tagg Tryz.prog 197=some false:=by kernel_rfl
@[simp] theorem ts200:Zc Tryz.prog 200=some 1:=by kernel_rfl
@[simp] theorem ta200:tagg Tryz.prog 200=some false:=by kernel_rfl
@[simp] theorem ts201:Zc Tryz.prog 201=some 1:=by kernel_rfl
@[simp] theorem ta201:tagg Tryz.prog 201=some false:=by kernel_rfl
@[simp] theorem ts202:Zc Tryz.prog 202=some 1:=by kernel_rfl
@[simp] theorem ta202:tagg Tryz.prog 202=some false:=by kernel_rfl
@[simp] theorem ts204:Zc Tryz.prog 204=some 1:=by kernel_rfl
@[simp] theorem ta204:tagg Tryz.prog 204=some false:=by kernel_rfl
@[simp] theorem ts205:Zc Tryz.prog 205=some 1:=by kernel_rfl
@[simp] theorem ta205:tagg Tryz.prog 205=some false:=by kernel_rfl
@[simp] theorem ts206:Zc Tryz.prog 206=some 1:=by kernel_rfl
@[simp] theorem ta206:tagg Tryz.prog 206=some false:=by kernel_rfl
@[simp] theorem ts207:Zc Tryz.prog 207=some 1:=by kernel_rfl
@[simp] theorem ta207:tagg Tryz.prog 207=some false:=by kernel_rfl
@[simp] theorem ts208:Zc Tryz.prog 208=some 1:=by kernel_rfl
@[simp] theorem ta208:tagg Tryz.prog 208=some false:=by kernel_rfl
@[simp] theorem ts210:Zc Tryz.prog 210=some 1:=by kernel_rfl
@[simp] theorem ta210:tagg Tryz.prog 210=some false:=by kernel_rfl
@[simp] theorem ts211:Zc Tryz.prog 211=some 1:=by kernel_rfl
@[simp] theorem ta211:tagg Tryz.prog 211=some false:=by kernel_rfl
@[simp] theorem tui211:Tryz.prog.underlying 211=some (.int .u64):=by kernel_rfl
@[simp] theorem ts212:Zc Tryz.prog 212=some 1:=by kernel_rfl
@[simp] theorem ta212:tagg Tryz.prog 212=some false:=by kernel_rfl
@[simp] theorem ts213:Zc Tryz.prog 213=some 1:=by kernel_rfl
@[simp] theorem ta213:tagg Tryz.prog 213=some false:=by kernel_rfl
@[simp] theorem ts214:Zc Tryz.prog 214=some 1:=by kernel_rfl
@[simp] theorem ta214:tagg Tryz.prog 214=some false:=by kernel_rfl
@[simp] theorem ts215:Zc Tryz.prog 215=some 1:=by kernel_rfl
@[simp] theorem ta215:tagg Tryz.prog 215=some false:=by kernel_rfl
@[simp] theorem tz215:ZZ Tryz.prog 215=some [.val .nilFunc]:=by kernel_rfl
@[simp] theorem ts217:Zc Tryz.prog 217=some 1:=by kernel_rfl
@[simp] theorem ta217:tagg Tryz.prog 217=some false:=by kernel_rfl
@[simp] theorem tz217:ZZ Tryz.prog 217=some [.val .nilFunc]:=by kernel_rfl
@[simp] theorem ts218:Zc Tryz.prog 218=some 1:=by kernel_rfl
@[simp] theorem ta218:tagg Tryz.prog 218=some false:=by kernel_rfl
@[simp] theorem ts221:Zc Tryz.prog 221=some 1:=by kernel_rfl
@[simp] theorem ta221:tagg Tryz.prog 221=some false:=by kernel_rfl
@[simp] theorem ts225:Zc Tryz.prog 225=some 1:=by kernel_rfl
@[simp] theorem ta225:tagg Tryz.prog 225=some false:=by kernel_rfl
@[simp] theorem ts227:Zc Tryz.prog 227=some 1:=by kernel_rfl
@[simp] theorem ta227:tagg Tryz.prog 227=some false:=by kernel_rfl
@[simp] theorem ts230:Zc Tryz.prog 230=some 1:=by kernel_rfl
@[simp] theorem ta230:tagg Tryz.prog 230=some false:=by kernel_rfl
@[simp] theorem ts233:Zc Tryz.prog 233=some 1:=by kernel_rfl
@[simp] theorem ta233:tagg Tryz.prog 233=some false:=by kernel_rfl
@[simp] theorem ts234:Zc Tryz.prog 234=some 1:=by kernel_rfl
@[simp] theorem ta234:tagg Tryz.prog 234=some false:=by kernel_rfl
@[simp] theorem ts235:Zc Tryz.prog 235=some 1:=by kernel_rfl
@[simp] theorem ta235:tagg Tryz.prog 235=some false:=by kernel_rfl
@[simp] theorem ts236:Zc Tryz.prog 236=some 1:=by kernel_rfl
@[simp] theorem ta236:tagg Tryz.prog 236=some false:=by kernel_rfl
@[simp] theorem ts237:Zc Tryz.prog 237=some 1:=by kernel_rfl
@[simp] theorem ta237:tagg Tryz.prog 237=some false:=by kernel_rfl
@[simp] theorem ts238:Zc Tryz.prog 238=some 1:=by kernel_rfl
@[simp] theorem ta238:tagg Tryz.prog 238=some false:=by kernel_rfl
@[simp] theorem ts240:Zc Tryz.prog 240=some 1:=by kernel_rfl
@[simp] theorem ta240:tagg Tryz.prog 240=some false:=by kernel_rfl
@[simp] theorem ts241:Zc Tryz.prog 241=some 1:=by kernel_rfl
@[simp] theorem ta241:tagg Tryz.prog 241=some false:=by kernel_rfl
@[simp] theorem ts242:Zc Tryz.prog 242=some 1:=by kernel_rfl
@[simp] theorem ta242:tagg Tryz.prog 242=some false:=by kernel_rfl
@[simp] theorem ts243:Zc Tryz.prog 243=some 1:=by kernel_rfl
@[simp] theorem ta243:tagg Tryz.prog 243=some false:=by kernel_rfl
@[simp] theorem ts244:Zc Tryz.prog 244=some 1:=by kernel_rfl
@[simp] theorem ta244:tagg Tryz.prog 244=some false:=by kernel_rfl
@[simp] theorem ts255:Zc Tryz.prog 255=some 1:=by kernel_rfl
@[simp] theorem ta255:tagg Tryz.prog 255=some false:=by kernel_rfl
@[simp] theorem ts259:Zc Tryz.prog 259=some 1:=by kernel_rfl
@[simp] theorem ta259:tagg Tryz.prog 259=some false:=by kernel_rfl
@[simp] theorem ts262:Zc Tryz.prog 262=some 1:=by kernel_rfl
@[simp] theorem ta262:tagg Tryz.prog 262=some false:=by kernel_rfl
@[simp] theorem te262:ZV Tryz.prog 262=some 56:=by kernel_rfl
@[simp] theorem tes262:ZJ Tryz.prog 262=some 1:=by kernel_rfl
@[simp] theorem ts263:Zc Tryz.prog 263=some 1:=by kernel_rfl
@[simp] theorem ta263:tagg Tryz.prog 263=some false:=by kernel_rfl
@[simp] theorem ts264:Zc Tryz.prog 264=some 1:=by kernel_rfl
@[simp] theorem ta264:tagg Tryz.prog 264=some false:=by kernel_rfl
@[simp] theorem ts265:Zc Tryz.prog 265=some 1:=by kernel_rfl
@[simp] theorem ta265:tagg Tryz.prog 265=some false:=by kernel_rfl
@[simp] theorem ts266:Zc Tryz.prog 266=some 1:=by kernel_rfl
@[simp] theorem ta266:tagg Tryz.prog 266=some false:=by kernel_rfl
@[simp] theorem ts267:Zc Tryz.prog 267=some 1:=by kernel_rfl
@[simp] theorem ta267:tagg Tryz.prog 267=some false:=by kernel_rfl
@[simp] theorem ts268:Zc Tryz.prog 268=some 1:=by kernel_rfl
@[simp] theorem ta268:tagg Tryz.prog 268=some false:=by kernel_rfl
@[simp] theorem ts269:Zc Tryz.prog 269=some 1:=by kernel_rfl
@[simp] theorem ta269:tagg Tryz.prog 269=some false:=by kernel_rfl
@[simp] theorem tv269:Zif Tryz.prog 269=some (.val .nilFunc):=by kernel_rfl
@[simp] theorem ts270:Zc Tryz.prog 270=some 1:=by kernel_rfl
@[simp] theorem ta270:tagg Tryz.prog 270=some false:=by kernel_rfl
@[simp] theorem ts271:Zc Tryz.prog 271=some 1:=by kernel_rfl
@[simp] theorem ta271:tagg Tryz.prog 271=some false:=by kernel_rfl
@[simp] theorem tm271:tmap Tryz.prog 271=some (.int .i64,269):=by kernel_rfl
@[simp] theorem ts272:Zc Tryz.prog 272=some 1:=by kernel_rfl
@[simp] theorem ta272:tagg Tryz.prog 272=some false:=by kernel_rfl
@[simp] theorem ts273:Zc Tryz.prog 273=some 1:=by kernel_rfl
@[simp] theorem ta273:tagg Tryz.prog 273=some false:=by kernel_rfl
@[simp] theorem tv273:Zif Tryz.prog 273=some (.val .nilFunc):=by kernel_rfl
@[simp] theorem ts274:Zc Tryz.prog 274=some 1:=by kernel_rfl
@[simp] theorem ta274:tagg Tryz.prog 274=some false:=by kernel_rfl
@[simp] theorem ts275:Zc Tryz.prog 275=some 1:=by kernel_rfl
@[simp] theorem ta275:tagg Tryz.prog 275=some false:=by kernel_rfl
@[simp] theorem tm275:tmap Tryz.prog 275=some (.int .i64,273):=by kernel_rfl
@[simp] theorem ts276:Zc Tryz.prog 276=some 1:=by kernel_rfl
@[simp] theorem ta276:tagg Tryz.prog 276=some false:=by kernel_rfl
@[simp] theorem ts277:Zc Tryz.prog 277=some 1:=by kernel_rfl
@[simp] theorem ta277:tagg Tryz.prog 277=some false:=by kernel_rfl
@[simp] theorem ts278:Zc Tryz.prog 278=some 1:=by kernel_rfl
@[simp] theorem ta278:tagg Tryz.prog 278=some false:=by kernel_rfl
@[simp] theorem ts279:Zc Tryz.prog 279=some 1:=by kernel_rfl
@[simp] theorem ta279:tagg Tryz.prog 279=some false:=by kernel_rfl
@[simp] theorem ts280:Zc Tryz.prog 280=some 1:=by kernel_rfl
@[simp] theorem ta280:tagg Tryz.prog 280=some false:=by kernel_rfl
@[simp] theorem ts281:Zc Tryz.prog 281=some 1:=by kernel_rfl
@[simp] theorem ta281:tagg Tryz.prog 281=some false:=by kernel_rfl
@[simp] theorem ts282:Zc Tryz.prog 282=some 1:=by kernel_rfl
@[simp] theorem ta282:tagg Tryz.prog 282=some false:=by kernel_rfl
@[simp] theorem ts283:Zc Tryz.prog 283=some 1:=by kernel_rfl
@[simp] theorem ta283:tagg Tryz.prog 283=some false:=by kernel_rfl
@[simp] theorem ts284:Zc Tryz.prog 284=some 1:=by kernel_rfl
@[simp] theorem ta284:tagg Tryz.prog 284=some false:=by kernel_rfl
@[simp] theorem te284:ZV Tryz.prog 284=some 5:=by kernel_rfl
@[simp] theorem tes284:ZJ Tryz.prog 284=some 1:=by kernel_rfl
@[simp] theorem ts285:Zc Tryz.prog 285=some 1:=by kernel_rfl
@[simp] theorem ta285:tagg Tryz.prog 285=some false:=by kernel_rfl
@[simp] theorem ts286:Zc Tryz.prog 286=some 1:=by kernel_rfl
@[simp] theorem ta286:tagg Tryz.prog 286=some false:=by kernel_rfl
@[simp] theorem ts287:Zc Tryz.prog 287=some 1:=by kernel_rfl
@[simp] theorem ta287:tagg Tryz.prog 287=some false:=by kernel_rfl
@[simp] theorem ts288:Zc Tryz.prog 288=some 1:=by kernel_rfl
@[simp] theorem ta288:tagg Tryz.prog 288=some false:=by kernel_rfl
@[simp] theorem ts289:Zc Tryz.prog 289=some 1:=by kernel_rfl
@[simp] theorem ta289:tagg Tryz.prog 289=some false:=by kernel_rfl
@[simp] theorem ts290:Zc Tryz.prog 290=some 1:=by kernel_rfl
@[simp] theorem ta290:tagg Tryz.prog 290=some false:=by kernel_rfl
@[simp] theorem tui290:Tryz.prog.underlying 290=some (.int .i64):=by kernel_rfl
@[simp] theorem ts291:Zc Tryz.prog 291=some 1:=by kernel_rfl
@[simp] theorem ta291:tagg Tryz.prog 291=some false:=by kernel_rfl
@[simp] theorem ts292:Zc Tryz.prog 292=some 1:=by kernel_rfl
@[simp] theorem ta292:tagg Tryz.prog 292=some false:=by kernel_rfl
@[simp] theorem ts293:Zc Tryz.prog 293=some 1:=by kernel_rfl
@[simp] theorem ta293:tagg Tryz.prog 293=some false:=by kernel_rfl
@[simp] theorem ts294:Zc Tryz.prog 294=some 1:=by kernel_rfl
@[simp] theorem ta294:tagg Tryz.prog 294=some false:=by kernel_rfl
@[simp] theorem ts296:Zc Tryz.prog 296=some 1:=by kernel_rfl
@[simp] theorem ta296:tagg Tryz.prog 296=some false:=by kernel_rfl
@[simp] theorem ts297:Zc Tryz.prog 297=some 1:=by kernel_rfl
@[simp] theorem ta297:tagg Tryz.prog 297=some false:=by kernel_rfl
@[simp] theorem ts298:Zc Tryz.prog 298=some 1:=by kernel_rfl
@[simp] theorem ta298:tagg Tryz.prog 298=some false:=by kernel_rfl
@[simp] theorem tui298:Tryz.prog.underlying 298=some (.int .u32):=by kernel_rfl
@[simp] theorem ts299:Zc Tryz.prog 299=some 1:=by kernel_rfl
@[simp] theorem ta299:tagg Tryz.prog 299=some false:=by kernel_rfl
@[simp] theorem ts300:Zc Tryz.prog 300=some 1:=by kernel_rfl
@[simp] theorem ta300:tagg Tryz.prog 300=some false:=by kernel_rfl
@[simp] theorem tui300:Tryz.prog.underlying 300=some (.int .u64):=by kernel_rfl
@[simp] theorem ts303:Zc Tryz.prog 303=some 1:=by kernel_rfl
@[simp] theorem ta303:tagg Tryz.prog 303=some false:=by kernel_rfl
@[simp] theorem ts307:Zc Tryz.prog 307=some 1:=by kernel_rfl
@[simp] theorem ta307:tagg Tryz.prog 307=some false:=by kernel_rfl
@[simp] theorem ts309:Zc Tryz.prog 309=some 1:=by kernel_rfl
@[simp] theorem ta309:tagg Tryz.prog 309=some false:=by kernel_rfl
@[simp] theorem ts310:Zc Tryz.prog 310=some 1:=by kernel_rfl
@[simp] theorem ta310:tagg Tryz.prog 310=some false:=by kernel_rfl
@[simp] theorem ts311:Zc Tryz.prog 311=some 1:=by kernel_rfl
@[simp] theorem ta311:tagg Tryz.prog 311=some false:=by kernel_rfl
@[simp] theorem ts312:Zc Tryz.prog 312=some 1:=by kernel_rfl
@[simp] theorem ta312:tagg Tryz.prog 312=some false:=by kernel_rfl
@[simp] theorem ts313:Zc Tryz.prog 313=some 1:=by kernel_rfl
@[simp] theorem ta313:tagg Tryz.prog 313=some false:=by kernel_rfl
@[simp] theorem ts315:Zc Tryz.prog 315=some 1:=by kernel_rfl
@[simp] theorem ta315:tagg Tryz.prog 315=some false:=by kernel_rfl
@[simp] theorem ts316:Zc Tryz.prog 316=some 1:=by kernel_rfl
@[simp] theorem ta316:tagg Tryz.prog 316=some false:=by kernel_rfl
@[simp] theorem ts317:Zc Tryz.prog 317=some 1:=by kernel_rfl
@[simp] theorem ta317:tagg Tryz.prog 317=some false:=by kernel_rfl
@[simp] theorem ts318:Zc Tryz.prog 318=some 1:=by kernel_rfl
@[simp] theorem ta318:tagg Tryz.prog 318=some false:=by kernel_rfl
@[simp] theorem ts319:Zc Tryz.prog 319=some 1:=by kernel_rfl
@[simp] theorem ta319:tagg Tryz.prog 319=some false:=by kernel_rfl
@[simp] theorem ts320:Zc Tryz.prog 320=some 1:=by kernel_rfl
@[simp] theorem ta320:tagg Tryz.prog 320=some false:=by kernel_rfl
@[simp] theorem ts321:Zc Tryz.prog 321=some 1:=by kernel_rfl
@[simp] theorem ta321:tagg Tryz.prog 321=some false:=by kernel_rfl
@[simp] theorem te321:ZV Tryz.prog 321=some 53:=by kernel_rfl
@[simp] theorem tes321:ZJ Tryz.prog 321=some 1:=by kernel_rfl
@[simp] theorem ts322:Zc Tryz.prog 322=some 1:=by kernel_rfl
@[simp] theorem ta322:tagg Tryz.prog 322=some false:=by kernel_rfl
@[simp] theorem ts323:Zc Tryz.prog 323=some 1:=by kernel_rfl
@[simp] theorem ta323:tagg Tryz.prog 323=some false:=by kernel_rfl
@[simp] theorem tui323:Tryz.prog.underlying 323=some (.int .u64):=by kernel_rfl
@[simp] theorem ts324:Zc Tryz.prog 324=some 1:=by kernel_rfl
@[simp] theorem ta324:tagg Tryz.prog 324=some false:=by kernel_rfl
@[simp] theorem ts330:Zc Tryz.prog 330=some 1:=by kernel_rfl
@[simp] theorem ta330:tagg Tryz.prog 330=some false:=by kernel_rfl
@[simp] theorem ts331:Zc Tryz.prog 331=some 1:=by kernel_rfl
@[simp] theorem ta331:tagg Tryz.prog 331=some false:=by kernel_rfl
@[simp] theorem ts332:Zc Tryz.prog 332=some 1:=by kernel_rfl
@[simp] theorem ta332:tagg Tryz.prog 332=some false:=by kernel_rfl
@[simp] theorem ts333:Zc Tryz.prog 333=some 1:=by kernel_rfl
@[simp] theorem ta333:tagg Tryz.prog 333=some false:=by kernel_rfl
@[simp] theorem ts334:Zc Tryz.prog 334=some 1:=by kernel_rfl
@[simp] theorem ta334:tagg Tryz.prog 334=some false:=by kernel_rfl
@[simp] theorem ts335:Zc Tryz.prog 335=some 1:=by kernel_rfl
@[simp] theorem ta335:tagg Tryz.prog 335=some false:=by kernel_rfl
@[simp] theorem ts336:Zc Tryz.prog 336=some 1:=by kernel_rfl
@[simp] theorem ta336:tagg Tryz.prog 336=some false:=by kernel_rfl
@[simp] theorem ts337:Zc Tryz.prog 337=some 1:=by kernel_rfl
@[simp] theorem ta337:tagg Tryz.prog 337=some false:=by kernel_rfl
@[simp] theorem ts338:Zc Tryz.prog 338=some 1:=by kernel_rfl
@[simp] theorem ta338:tagg Tryz.prog 338=some false:=by kernel_rfl
@[simp] theorem ts339:Zc Tryz.prog 339=some 1:=by kernel_rfl
@[simp] theorem ta339:tagg Tryz.prog 339=some false:=by kernel_rfl
@[simp] theorem ts340:Zc Tryz.prog 340=some 1:=by kernel_rfl
@[simp] theorem ta340:tagg Tryz.prog 340=some false:=by kernel_rfl
@[simp] theorem ts341:Zc Tryz.prog 341=some 1:=by kernel_rfl
@[simp] theorem ta341:tagg Tryz.prog 341=some false:=by kernel_rfl
@[simp] theorem ts346:Zc Tryz.prog 346=some 1:=by kernel_rfl
@[simp] theorem ta346:tagg Tryz.prog 346=some false:=by kernel_rfl
@[simp] theorem ts347:Zc Tryz.prog 347=some 1:=by kernel_rfl
@[simp] theorem ta347:tagg Tryz.prog 347=some false:=by kernel_rfl
@[simp] theorem ts348:Zc Tryz.prog 348=some 1:=by kernel_rfl
@[simp] theorem ta348:tagg Tryz.prog 348=some false:=by kernel_rfl
@[simp] theorem ts349:Zc Tryz.prog 349=some 1:=by kernel_rfl
@[simp] theorem ta349:tagg Tryz.prog 349=some false:=by kernel_rfl
@[simp] theorem ts354:Zc Tryz.prog 354=some 1:=by kernel_rfl
@[simp] theorem ta354:tagg Tryz.prog 354=some false:=by kernel_rfl
@[simp] theorem ts358:Zc Tryz.prog 358=some 1:=by kernel_rfl
@[simp] theorem ta358:tagg Tryz.prog 358=some false:=by kernel_rfl
@[simp] theorem ts359:Zc Tryz.prog 359=some 1:=by kernel_rfl
@[simp] theorem ta359:tagg Tryz.prog 359=some false:=by kernel_rfl
@[simp] theorem te359:ZV Tryz.prog 359=some 38:=by kernel_rfl
@[simp] theorem tes359:ZJ Tryz.prog 359=some 1:=by kernel_rfl
@[simp] theorem ts363:Zc Tryz.prog 363=some 1:=by kernel_rfl
@[simp] theorem ta363:tagg Tryz.prog 363=some false:=by kernel_rfl
@[simp] theorem ts364:Zc Tryz.prog 364=some 1:=by kernel_rfl
@[simp] theorem ta364:tagg Tryz.prog 364=some false:=by kernel_rfl
@[simp] theorem ts365:Zc Tryz.prog 365=some 1:=by kernel_rfl
@[simp] theorem ta365:tagg Tryz.prog 365=some false:=by kernel_rfl
end Go.Proofs.YtgpkaoombhobmaaGreat.Tab
