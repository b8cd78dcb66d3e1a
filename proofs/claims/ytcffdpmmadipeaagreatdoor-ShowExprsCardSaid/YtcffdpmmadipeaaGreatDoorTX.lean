/- Texts of this proof, put together: T. The conditions of each theorem stand in it. -/
import Derived.Test.YtcffdpmmadipeaaGreatDoorProg
import Derived.Test.YtcffdpmmadipeaaGreatDoorMX2
set_option linter.unusedSimpArgs false
set_option linter.unusedVariables false
namespace Go.Proofs
theorem T.mixed:Tryz.prog.follows .mixedOrders=true:=by kernel_rfl
@[go_sem] theorem T.agg1:HL.aggN Tryz.prog 1=some none:=by kernel_rfl
@[go_sem] theorem T.size1:HL.sizeT Tryz.prog 1=some 1:=by kernel_rfl
@[go_sem] theorem T.bytes1:HL.bytesT Tryz.prog 1=some 8:=by kernel_rfl
@[go_sem] theorem T.zero1:HL.zeroT Tryz.prog 1=some (.nilFunc):=by kernel_rfl
@[go_sem] theorem T.agg2:HL.aggN Tryz.prog 2=some none:=by kernel_rfl
@[go_sem] theorem T.size2:HL.sizeT Tryz.prog 2=some 1:=by kernel_rfl
@[go_sem] theorem T.bytes2:HL.bytesT Tryz.prog 2=some 8:=by kernel_rfl
@[go_sem] theorem T.zero2:HL.zeroT Tryz.prog 2=some (.int .i64 0):=by kernel_rfl
@[go_sem] theorem T.agg3:HL.aggN Tryz.prog 3=some none:=by kernel_rfl
@[go_sem] theorem T.size3:HL.sizeT Tryz.prog 3=some 1:=by kernel_rfl
@[go_sem] theorem T.bytes3:HL.bytesT Tryz.prog 3=some 8:=by kernel_rfl
@[go_sem] theorem T.zero3:HL.zeroT Tryz.prog 3=some (.int .i64 0):=by kernel_rfl
@[go_sem] theorem T.agg4:HL.aggN Tryz.prog 4=some none:=by kernel_rfl
@[go_sem] theorem T.size4:HL.sizeT Tryz.prog 4=some 1:=by kernel_rfl
@[go_sem] theorem T.bytes4:HL.bytesT Tryz.prog 4=some 1:=by kernel_rfl
@[go_sem] theorem T.zero4:HL.zeroT Tryz.prog 4=some (.bool false):=by kernel_rfl
@[go_sem] theorem T.agg5:HL.aggN Tryz.prog 5=some none:=by kernel_rfl
@[go_sem] theorem T.size5:HL.sizeT Tryz.prog 5=some 1:=by kernel_rfl
@[go_sem] theorem T.bytes5:HL.bytesT Tryz.prog 5=some 1:=by kernel_rfl
@[go_sem] theorem T.zero5:HL.zeroT Tryz.prog 5=some (.int .u8 0):=by kernel_rfl
@[go_sem] theorem T.agg6:HL.aggN Tryz.prog 6=some none:=by kernel_rfl
@[go_sem] theorem T.size6:HL.sizeT Tryz.prog 6=some 1:=by kernel_rfl
@[go_sem] theorem T.bytes6:HL.bytesT Tryz.prog 6=some 1:=by kernel_rfl
@[go_sem] theorem T.zero6:HL.zeroT Tryz.prog 6=some (.int .u8 0):=by kernel_rfl
@[go_sem] theorem T.agg7:HL.aggN Tryz.prog 7=some (some 4):=by kernel_rfl
@[go_sem] theorem T.size7:HL.sizeT Tryz.prog 7=some 4:=by kernel_rfl
@[go_sem] theorem T.bytes7:HL.bytesT Tryz.prog 7=some 24:=by kernel_rfl
@[go_sem] theorem T.zero7:HL.zeroT Tryz.prog 7=some (.agg #[.int .i64 0,.int .i64 0,.bool false,.int .u8 0]):=by kernel_rfl
@[go_sem] theorem T.places7:HL.placesT Tryz.prog 7=some [(0,1),(1,1),(2,1),(3,1)]:=by kernel_rfl
@[go_sem] theorem T.field7_0:HL.fieldT Tryz.prog 7 0=some (0,2):=by kernel_rfl
@[go_sem] theorem T.fieldO7_0:HL.fieldO Tryz.prog 7 0=some 0:=by kernel_rfl
@[go_sem] theorem T.field7_1:HL.fieldT Tryz.prog 7 1=some (1,3):=by kernel_rfl
@[go_sem] theorem T.fieldO7_1:HL.fieldO Tryz.prog 7 1=some 1:=by kernel_rfl
@[go_sem] theorem T.field7_2:HL.fieldT Tryz.prog 7 2=some (2,4):=by kernel_rfl
@[go_sem] theorem T.fieldO7_2:HL.fieldO Tryz.prog 7 2=some 2:=by kernel_rfl
@[go_sem] theorem T.field7_3:HL.fieldT Tryz.prog 7 3=some (3,6):=by kernel_rfl
@[go_sem] theorem T.fieldO7_3:HL.fieldO Tryz.prog 7 3=some 3:=by kernel_rfl
@[go_sem] theorem T.agg8:HL.aggN Tryz.prog 8=some (some 4):=by kernel_rfl
@[go_sem] theorem T.size8:HL.sizeT Tryz.prog 8=some 4:=by kernel_rfl
@[go_sem] theorem T.bytes8:HL.bytesT Tryz.prog 8=some 24:=by kernel_rfl
@[go_sem] theorem T.zero8:HL.zeroT Tryz.prog 8=some (.agg #[.int .i64 0,.int .i64 0,.bool false,.int .u8 0]):=by kernel_rfl
@[go_sem] theorem T.places8:HL.placesT Tryz.prog 8=some [(0,1),(1,1),(2,1),(3,1)]:=by kernel_rfl
@[go_sem] theorem T.field8_0:HL.fieldT Tryz.prog 8 0=some (0,2):=by kernel_rfl
@[go_sem] theorem T.fieldO8_0:HL.fieldO Tryz.prog 8 0=some 0:=by kernel_rfl
@[go_sem] theorem T.field8_1:HL.fieldT Tryz.prog 8 1=some (1,3):=by kernel_rfl
@[go_sem] theorem T.fieldO8_1:HL.fieldO Tryz.prog 8 1=some 1:=by kernel_rfl
@[go_sem] theorem T.field8_2:HL.fieldT Tryz.prog 8 2=some (2,4):=by kernel_rfl
@[go_sem] theorem T.fieldO8_2:HL.fieldO Tryz.prog 8 2=some 2:=by kernel_rfl
@[go_sem] theorem T.field8_3:HL.fieldT Tryz.prog 8 3=some (3,6):=by kernel_rfl
@[go_sem] theorem T.fieldO8_3:HL.fieldO Tryz.prog 8 3=some 3:=by kernel_rfl
@[go_sem] theorem T.agg9:HL.aggN Tryz.prog 9=some none:=by kernel_rfl
@[go_sem] theorem T.size9:HL.sizeT Tryz.prog 9=some 1:=by kernel_rfl
@[go_sem] theorem T.bytes9:HL.bytesT Tryz.prog 9=some 16:=by kernel_rfl
@[go_sem] theorem T.zero9:HL.zeroT Tryz.prog 9=some (.string ⟨#[]⟩):=by kernel_rfl
@[go_sem] theorem T.agg10:HL.aggN Tryz.prog 10=some none:=by kernel_rfl
@[go_sem] theorem T.size10:HL.sizeT Tryz.prog 10=some 1:=by kernel_rfl
@[go_sem] theorem T.bytes10:HL.bytesT Tryz.prog 10=some 16:=by kernel_rfl
@[go_sem] theorem T.zero10:HL.zeroT Tryz.prog 10=some (.string ⟨#[]⟩):=by kernel_rfl
@[go_sem] theorem T.agg11:HL.aggN Tryz.prog 11=some none:=by kernel_rfl
@[go_sem] theorem T.size11:HL.sizeT Tryz.prog 11=some 1:=by kernel_rfl
@[go_sem] theorem T.bytes11:HL.bytesT Tryz.prog 11=some 16:=by kernel_rfl
@[go_sem] theorem T.zero11:HL.zeroT Tryz.prog 11=some (.string ⟨#[]⟩):=by kernel_rfl
@[go_sem] theorem T.agg12:HL.aggN Tryz.prog 12=some none:=by kernel_rfl
@[go_sem] theorem T.size12:HL.sizeT Tryz.prog 12=some 1:=by kernel_rfl
@[go_sem] theorem T.bytes12:HL.bytesT Tryz.prog 12=some 8:=by kernel_rfl
@[go_sem] theorem T.zero12:HL.zeroT Tryz.prog 12=some (.int .u64 0):=by kernel_rfl
@[go_sem] theorem T.agg13:HL.aggN Tryz.prog 13=some (some 2):=by kernel_rfl
@[go_sem] theorem T.size13:HL.sizeT Tryz.prog 13=some 2:=by kernel_rfl
@[go_sem] theorem T.bytes13:HL.bytesT Tryz.prog 13=some 24:=by kernel_rfl
@[go_sem] theorem T.zero13:HL.zeroT Tryz.prog 13=some (.agg #[.string ⟨#[]⟩,.int .u64 0]):=by kernel_rfl
@[go_sem] theorem T.places13:HL.placesT Tryz.prog 13=some [(0,1),(1,1)]:=by kernel_rfl
@[go_sem] theorem T.field13_0:HL.fieldT Tryz.prog 13 0=some (0,9):=by kernel_rfl
@[go_sem] theorem T.fieldO13_0:HL.fieldO Tryz.prog 13 0=some 0:=by kernel_rfl
@[go_sem] theorem T.field13_1:HL.fieldT Tryz.prog 13 1=some (1,12):=by kernel_rfl
@[go_sem] theorem T.fieldO13_1:HL.fieldO Tryz.prog 13 1=some 1:=by kernel_rfl
@[go_sem] theorem T.agg14:HL.aggN Tryz.prog 14=some (some 2):=by kernel_rfl
@[go_sem] theorem T.size14:HL.sizeT Tryz.prog 14=some 2:=by kernel_rfl
@[go_sem] theorem T.bytes14:HL.bytesT Tryz.prog 14=some 24:=by kernel_rfl
@[go_sem] theorem T.zero14:HL.zeroT Tryz.prog 14=some (.agg #[.string ⟨#[]⟩,.int .u64 0]):=by kernel_rfl
@[go_sem] theorem T.places14:HL.placesT Tryz.prog 14=some [(0,1),(1,1)]:=by kernel_rfl
@[go_sem] theorem T.field14_0:HL.fieldT Tryz.prog 14 0=some (0,9):=by kernel_rfl
@[go_sem] theorem T.fieldO14_0:HL.fieldO Tryz.prog 14 0=some 0:=by kernel_rfl
@[go_sem] theorem T.field14_1:HL.fieldT Tryz.prog 14 1=some (1,12):=by kernel_rfl
@[go_sem] theorem T.fieldO14_1:HL.fieldO Tryz.prog 14 1=some 1:=by kernel_rfl
@[go_sem] theorem T.agg15:HL.aggN Tryz.prog 15=some none:=by kernel_rfl
@[go_sem] theorem T.size15:HL.sizeT Tryz.prog 15=some 1:=by kernel_rfl
@[go_sem] theorem T.bytes15:HL.bytesT Tryz.prog 15=some 8:=by kernel_rfl
@[go_sem] theorem T.zero15:HL.zeroT Tryz.prog 15=some (.pointer none):=by kernel_rfl
@[go_sem] theorem T.agg16:HL.aggN Tryz.prog 16=some none:=by kernel_rfl
@[go_sem] theorem T.size16:HL.sizeT Tryz.prog 16=some 1:=by kernel_rfl
@[go_sem] theorem T.bytes16:HL.bytesT Tryz.prog 16=some 8:=by kernel_rfl
@[go_sem] theorem T.zero16:HL.zeroT Tryz.prog 16=some (.pointer none):=by kernel_rfl
@[go_sem] theorem T.agg17:HL.aggN Tryz.prog 17=some none:=by kernel_rfl
@[go_sem] theorem T.size17:HL.sizeT Tryz.prog 17=some 1:=by kernel_rfl
@[go_sem] theorem T.bytes17:HL.bytesT Tryz.prog 17=some 8:=by kernel_rfl
@[go_sem] theorem T.zero17:HL.zeroT Tryz.prog 17=some (.pointer none):=by kernel_rfl
@[go_sem] theorem T.agg18:HL.aggN Tryz.prog 18=some (some 1):=by kernel_rfl
@[go_sem] theorem T.size18:HL.sizeT Tryz.prog 18=some 1:=by kernel_rfl
@[go_sem] theorem T.bytes18:HL.bytesT Tryz.prog 18=some 8:=by kernel_rfl
@[go_sem] theorem T.zero18:HL.zeroT Tryz.prog 18=some (.agg #[.pointer none]):=by kernel_rfl
@[go_sem] theorem T.places18:HL.placesT Tryz.prog 18=some [(0,1)]:=by kernel_rfl
@[go_sem] theorem T.field18_0:HL.fieldT Tryz.prog 18 0=some (0,17):=by kernel_rfl
@[go_sem] theorem T.fieldO18_0:HL.fieldO Tryz.prog 18 0=some 0:=by kernel_rfl
@[go_sem] theorem T.agg19:HL.aggN Tryz.prog 19=some (some 1):=by kernel_rfl
@[go_sem] theorem T.size19:HL.sizeT Tryz.prog 19=some 1:=by kernel_rfl
@[go_sem] theorem T.bytes19:HL.bytesT Tryz.prog 19=some 8:=by kernel_rfl
@[go_sem] theorem T.zero19:HL.zeroT Tryz.prog 19=some (.agg #[.pointer none]):=by kernel_rfl
@[go_sem] theorem T.places19:HL.placesT Tryz.prog 19=some [(0,1)]:=by kernel_rfl
@[go_sem] theorem T.field19_0:HL.fieldT Tryz.prog 19 0=some (0,17):=by kernel_rfl
@[go_sem] theorem T.fieldO19_0:HL.fieldO Tryz.prog 19 0=some 0:=by kernel_rfl
@[go_sem] theorem T.agg20:HL.aggN Tryz.prog 20=some none:=by kernel_rfl
@[go_sem] theorem T.size20:HL.sizeT Tryz.prog 20=some 1:=by kernel_rfl
@[go_sem] theorem T.bytes20:HL.bytesT Tryz.prog 20=some 16:=by kernel_rfl
@[go_sem] theorem T.zero20:HL.zeroT Tryz.prog 20=some (.nilIface):=by kernel_rfl
@[go_sem] theorem T.agg21:HL.aggN Tryz.prog 21=some none:=by kernel_rfl
@[go_sem] theorem T.size21:HL.sizeT Tryz.prog 21=some 1:=by kernel_rfl
@[go_sem] theorem T.bytes21:HL.bytesT Tryz.prog 21=some 4:=by kernel_rfl
@[go_sem] theorem T.zero21:HL.zeroT Tryz.prog 21=some (.int .i32 0):=by kernel_rfl
@[go_sem] theorem T.agg22:HL.aggN Tryz.prog 22=some none:=by kernel_rfl
@[go_sem] theorem T.size22:HL.sizeT Tryz.prog 22=some 1:=by kernel_rfl
@[go_sem] theorem T.bytes22:HL.bytesT Tryz.prog 22=some 24:=by kernel_rfl
@[go_sem] theorem T.zero22:HL.zeroT Tryz.prog 22=some (.slice none 0 0):=by kernel_rfl
@[go_sem] theorem T.elem22:HL.elemT Tryz.prog 22=some 28:=by kernel_rfl
@[go_sem] theorem T.elemS22:HL.elemS Tryz.prog 22=some 5:=by kernel_rfl
@[go_sem] theorem T.agg23:HL.aggN Tryz.prog 23=some none:=by kernel_rfl
@[go_sem] theorem T.size23:HL.sizeT Tryz.prog 23=some 1:=by kernel_rfl
@[go_sem] theorem T.bytes23:HL.bytesT Tryz.prog 23=some 8:=by kernel_rfl
@[go_sem] theorem T.zero23:HL.zeroT Tryz.prog 23=some (.nilFunc):=by kernel_rfl
@[go_sem] theorem T.agg24:HL.aggN Tryz.prog 24=some none:=by kernel_rfl
@[go_sem] theorem T.size24:HL.sizeT Tryz.prog 24=some 1:=by kernel_rfl
@[go_sem] theorem T.bytes24:HL.bytesT Tryz.prog 24=some 8:=by kernel_rfl
@[go_sem] theorem T.zero24:HL.zeroT Tryz.prog 24=some (.nilFunc):=by kernel_rfl
@[go_sem] theorem T.agg25:HL.aggN Tryz.prog 25=some none:=by kernel_rfl
@[go_sem] theorem T.size25:HL.sizeT Tryz.prog 25=some 1:=by kernel_rfl
@[go_sem] theorem T.bytes25:HL.bytesT Tryz.prog 25=some 24:=by kernel_rfl
@[go_sem] theorem T.zero25:HL.zeroT Tryz.prog 25=some (.slice none 0 0):=by kernel_rfl
@[go_sem] theorem T.elem25:HL.elemT Tryz.prog 25=some 9:=by kernel_rfl
@[go_sem] theorem T.elemS25:HL.elemS Tryz.prog 25=some 1:=by kernel_rfl
@[go_sem] theorem T.agg26:HL.aggN Tryz.prog 26=some none:=by kernel_rfl
@[go_sem] theorem T.size26:HL.sizeT Tryz.prog 26=some 1:=by kernel_rfl
@[go_sem] theorem T.bytes26:HL.bytesT Tryz.prog 26=some 24:=by kernel_rfl
@[go_sem] theorem T.zero26:HL.zeroT Tryz.prog 26=some (.slice none 0 0):=by kernel_rfl
@[go_sem] theorem T.elem26:HL.elemT Tryz.prog 26=some 3:=by kernel_rfl
@[go_sem] theorem T.elemS26:HL.elemS Tryz.prog 26=some 1:=by kernel_rfl
@[go_sem] theorem T.agg27:HL.aggN Tryz.prog 27=some (some 5):=by kernel_rfl
@[go_sem] theorem T.size27:HL.sizeT Tryz.prog 27=some 5:=by kernel_rfl
@[go_sem] theorem T.bytes27:HL.bytesT Tryz.prog 27=some 88:=by kernel_rfl
@[go_sem] theorem T.zero27:HL.zeroT Tryz.prog 27=some (.agg #[.int .i64 0,.slice none 0 0,.slice none 0 0,.slice none 0 0,.int .i64 0]):=by kernel_rfl
@[go_sem] theorem T.places27:HL.placesT Tryz.prog 27=some [(0,1),(1,1),(2,1),(3,1),(4,1)]:=by kernel_rfl
@[go_sem] theorem T.field27_0:HL.fieldT Tryz.prog 27 0=some (0,3):=by kernel_rfl
@[go_sem] theorem T.fieldO27_0:HL.fieldO Tryz.prog 27 0=some 0:=by kernel_rfl
@[go_sem] theorem T.field27_1:HL.fieldT Tryz.prog 27 1=some (1,25):=by kernel_rfl
@[go_sem] theorem T.fieldO27_1:HL.fieldO Tryz.prog 27 1=some 1:=by kernel_rfl
@[go_sem] theorem T.field27_2:HL.fieldT Tryz.prog 27 2=some (2,26):=by kernel_rfl
@[go_sem] theorem T.fieldO27_2:HL.fieldO Tryz.prog 27 2=some 2:=by kernel_rfl
@[go_sem] theorem T.field27_3:HL.fieldT Tryz.prog 27 3=some (3,26):=by kernel_rfl
@[go_sem] theorem T.fieldO27_3:HL.fieldO Tryz.prog 27 3=some 3:=by kernel_rfl
@[go_sem] theorem T.field27_4:HL.fieldT Tryz.prog 27 4=some (4,3):=by kernel_rfl
@[go_sem] theorem T.fieldO27_4:HL.fieldO Tryz.prog 27 4=some 4:=by kernel_rfl
@[go_sem] theorem T.agg28:HL.aggN Tryz.prog 28=some (some 5):=by kernel_rfl
@[go_sem] theorem T.size28:HL.sizeT Tryz.prog 28=some 5:=by kernel_rfl
@[go_sem] theorem T.bytes28:HL.bytesT Tryz.prog 28=some 88:=by kernel_rfl
@[go_sem] theorem T.zero28:HL.zeroT Tryz.prog 28=some (.agg #[.int .i64 0,.slice none 0 0,.slice none 0 0,.slice none 0 0,.int .i64 0]):=by kernel_rfl
@[go_sem] theorem T.places28:HL.placesT Tryz.prog 28=some [(0,1),(1,1),(2,1),(3,1),(4,1)]:=by kernel_rfl
@[go_sem] theorem T.field28_0:HL.fieldT Tryz.prog 28 0=some (0,3):=by kernel_rfl
@[go_sem] theorem T.fieldO28_0:HL.fieldO Tryz.prog 28 0=some 0:=by kernel_rfl
@[go_sem] theorem T.field28_1:HL.fieldT Tryz.prog 28 1=some (1,25):=by kernel_rfl
@[go_sem] theorem T.fieldO28_1:HL.fieldO Tryz.prog 28 1=some 1:=by kernel_rfl
@[go_sem] theorem T.field28_2:HL.fieldT Tryz.prog 28 2=some (2,26):=by kernel_rfl
@[go_sem] theorem T.fieldO28_2:HL.fieldO Tryz.prog 28 2=some 2:=by kernel_rfl
@[go_sem] theorem T.field28_3:HL.fieldT Tryz.prog 28 3=some (3,26):=by kernel_rfl
@[go_sem] theorem T.fieldO28_3:HL.fieldO Tryz.prog 28 3=some 3:=by kernel_rfl
@[go_sem] theorem T.field28_4:HL.fieldT Tryz.prog 28 4=some (4,3):=by kernel_rfl
@[go_sem] theorem T.fieldO28_4:HL.fieldO Tryz.prog 28 4=some 4:=by kernel_rfl
@[go_sem] theorem T.agg29:HL.aggN Tryz.prog 29=some none:=by kernel_rfl
@[go_sem] theorem T.size29:HL.sizeT Tryz.prog 29=some 1:=by kernel_rfl
@[go_sem] theorem T.bytes29:HL.bytesT Tryz.prog 29=some 8:=by kernel_rfl
@[go_sem] theorem T.zero29:HL.zeroT Tryz.prog 29=some (.nilFunc):=by kernel_rfl
@[go_sem] theorem T.agg30:HL.aggN Tryz.prog 30=some none:=by kernel_rfl
@[go_sem] theorem T.size30:HL.sizeT Tryz.prog 30=some 1:=by kernel_rfl
@[go_sem] theorem T.bytes30:HL.bytesT Tryz.prog 30=some 8:=by kernel_rfl
@[go_sem] theorem T.zero30:HL.zeroT Tryz.prog 30=some (.nilFunc):=by kernel_rfl
@[go_sem] theorem T.agg31:HL.aggN Tryz.prog 31=some none:=by kernel_rfl
@[go_sem] theorem T.size31:HL.sizeT Tryz.prog 31=some 1:=by kernel_rfl
@[go_sem] theorem T.bytes31:HL.bytesT Tryz.prog 31=some 8:=by kernel_rfl
@[go_sem] theorem T.zero31:HL.zeroT Tryz.prog 31=some (.int .i64 0):=by kernel_rfl
@[go_sem] theorem T.agg32:HL.aggN Tryz.prog 32=some (some 2):=by kernel_rfl
@[go_sem] theorem T.size32:HL.sizeT Tryz.prog 32=some 2:=by kernel_rfl
@[go_sem] theorem T.bytes32:HL.bytesT Tryz.prog 32=some 16:=by kernel_rfl
@[go_sem] theorem T.zero32:HL.zeroT Tryz.prog 32=some (.agg #[.int .i64 0,.int .i64 0]):=by kernel_rfl
@[go_sem] theorem T.places32:HL.placesT Tryz.prog 32=some [(0,1),(1,1)]:=by kernel_rfl
@[go_sem] theorem T.field32_0:HL.fieldT Tryz.prog 32 0=some (0,31):=by kernel_rfl
@[go_sem] theorem T.fieldO32_0:HL.fieldO Tryz.prog 32 0=some 0:=by kernel_rfl
@[go_sem] theorem T.field32_1:HL.fieldT Tryz.prog 32 1=some (1,3):=by kernel_rfl
@[go_sem] theorem T.fieldO32_1:HL.fieldO Tryz.prog 32 1=some 1:=by kernel_rfl
@[go_sem] theorem T.agg33:HL.aggN Tryz.prog 33=some (some 2):=by kernel_rfl
@[go_sem] theorem T.size33:HL.sizeT Tryz.prog 33=some 2:=by kernel_rfl
@[go_sem] theorem T.bytes33:HL.bytesT Tryz.prog 33=some 16:=by kernel_rfl
@[go_sem] theorem T.zero33:HL.zeroT Tryz.prog 33=some (.agg #[.int .i64 0,.int .i64 0]):=by kernel_rfl
@[go_sem] theorem T.places33:HL.placesT Tryz.prog 33=some [(0,1),(1,1)]:=by kernel_rfl
@[go_sem] theorem T.field33_0:HL.fieldT Tryz.prog 33 0=some (0,31):=by kernel_rfl
@[go_sem] theorem T.fieldO33_0:HL.fieldO Tryz.prog 33 0=some 0:=by kernel_rfl
@[go_sem] theorem T.field33_1:HL.fieldT Tryz.prog 33 1=some (1,3):=by kernel_rfl
@[go_sem] theorem T.fieldO33_1:HL.fieldO Tryz.prog 33 1=some 1:=by kernel_rfl
@[go_sem] theorem T.agg35:HL.aggN Tryz.prog 35=some none:=by kernel_rfl
@[go_sem] theorem T.size35:HL.sizeT Tryz.prog 35=some 1:=by kernel_rfl
@[go_sem] theorem T.bytes35:HL.bytesT Tryz.prog 35=some 8:=by kernel_rfl
@[go_sem] theorem T.zero35:HL.zeroT Tryz.prog 35=some (.nilFunc):=by kernel_rfl
@[go_sem] theorem T.agg36:HL.aggN Tryz.prog 36=some none:=by kernel_rfl
@[go_sem] theorem T.size36:HL.sizeT Tryz.prog 36=some 1:=by kernel_rfl
@[go_sem] theorem T.bytes36:HL.bytesT Tryz.prog 36=some 8:=by kernel_rfl
@[go_sem] theorem T.zero36:HL.zeroT Tryz.prog 36=some (.nilFunc):=by kernel_rfl
@[go_sem] theorem T.agg38:HL.aggN Tryz.prog 38=some none:=by kernel_rfl
@[go_sem] theorem T.size38:HL.sizeT Tryz.prog 38=some 1:=by kernel_rfl
@[go_sem] theorem T.bytes38:HL.bytesT Tryz.prog 38=some 8:=by kernel_rfl
@[go_sem] theorem T.zero38:HL.zeroT Tryz.prog 38=some (.nilFunc):=by kernel_rfl
@[go_sem] theorem T.agg39:HL.aggN Tryz.prog 39=some none:=by kernel_rfl
@[go_sem] theorem T.size39:HL.sizeT Tryz.prog 39=some 1:=by kernel_rfl
@[go_sem] theorem T.bytes39:HL.bytesT Tryz.prog 39=some 8:=by kernel_rfl
@[go_sem] theorem T.zero39:HL.zeroT Tryz.prog 39=some (.nilFunc):=by kernel_rfl
@[go_sem] theorem T.agg40:HL.aggN Tryz.prog 40=some none:=by kernel_rfl
@[go_sem] theorem T.size40:HL.sizeT Tryz.prog 40=some 1:=by kernel_rfl
@[go_sem] theorem T.bytes40:HL.bytesT Tryz.prog 40=some 8:=by kernel_rfl
@[go_sem] theorem T.zero40:HL.zeroT Tryz.prog 40=some (.nilFunc):=by kernel_rfl
@[go_sem] theorem T.agg41:HL.aggN Tryz.prog 41=some none:=by kernel_rfl
@[go_sem] theorem T.size41:HL.sizeT Tryz.prog 41=some 1:=by kernel_rfl
@[go_sem] theorem T.bytes41:HL.bytesT Tryz.prog 41=some 8:=by kernel_rfl
@[go_sem] theorem T.zero41:HL.zeroT Tryz.prog 41=some (.nilFunc):=by kernel_rfl
@[go_sem] theorem T.agg42:HL.aggN Tryz.prog 42=some none:=by kernel_rfl
@[go_sem] theorem T.size42:HL.sizeT Tryz.prog 42=some 1:=by kernel_rfl
@[go_sem] theorem T.bytes42:HL.bytesT Tryz.prog 42=some 8:=by kernel_rfl
@[go_sem] theorem T.zero42:HL.zeroT Tryz.prog 42=some (.nilFunc):=by kernel_rfl
@[go_sem] theorem T.agg43:HL.aggN Tryz.prog 43=some none:=by kernel_rfl
@[go_sem] theorem T.size43:HL.sizeT Tryz.prog 43=some 1:=by kernel_rfl
@[go_sem] theorem T.bytes43:HL.bytesT Tryz.prog 43=some 8:=by kernel_rfl
@[go_sem] theorem T.zero43:HL.zeroT Tryz.prog 43=some (.nilFunc):=by kernel_rfl
@[go_sem] theorem T.agg44:HL.aggN Tryz.prog 44=some none:=by kernel_rfl
@[go_sem] theorem T.size44:HL.sizeT Tryz.prog 44=some 1:=by kernel_rfl
@[go_sem] theorem T.bytes44:HL.bytesT Tryz.prog 44=some 8:=by kernel_rfl
@[go_sem] theorem T.zero44:HL.zeroT Tryz.prog 44=some (.pointer none):=by kernel_rfl
@[go_sem] theorem T.agg45:HL.aggN Tryz.prog 45=some none:=by kernel_rfl
@[go_sem] theorem T.size45:HL.sizeT Tryz.prog 45=some 1:=by kernel_rfl
@[go_sem] theorem T.bytes45:HL.bytesT Tryz.prog 45=some 24:=by kernel_rfl
@[go_sem] theorem T.zero45:HL.zeroT Tryz.prog 45=some (.slice none 0 0):=by kernel_rfl
@[go_sem] theorem T.elem45:HL.elemT Tryz.prog 45=some 5:=by kernel_rfl
@[go_sem] theorem T.elemS45:HL.elemS Tryz.prog 45=some 1:=by kernel_rfl
@[go_sem] theorem T.agg46:HL.aggN Tryz.prog 46=some (some 2):=by kernel_rfl
@[go_sem] theorem T.size46:HL.sizeT Tryz.prog 46=some 2:=by kernel_rfl
@[go_sem] theorem T.bytes46:HL.bytesT Tryz.prog 46=some 32:=by kernel_rfl
@[go_sem] theorem T.zero46:HL.zeroT Tryz.prog 46=some (.agg #[.pointer none,.slice none 0 0]):=by kernel_rfl
@[go_sem] theorem T.places46:HL.placesT Tryz.prog 46=some [(0,1),(1,1)]:=by kernel_rfl
@[go_sem] theorem T.field46_0:HL.fieldT Tryz.prog 46 0=some (0,44):=by kernel_rfl
@[go_sem] theorem T.fieldO46_0:HL.fieldO Tryz.prog 46 0=some 0:=by kernel_rfl
@[go_sem] theorem T.field46_1:HL.fieldT Tryz.prog 46 1=some (1,45):=by kernel_rfl
@[go_sem] theorem T.fieldO46_1:HL.fieldO Tryz.prog 46 1=some 1:=by kernel_rfl
@[go_sem] theorem T.agg47:HL.aggN Tryz.prog 47=some (some 2):=by kernel_rfl
@[go_sem] theorem T.size47:HL.sizeT Tryz.prog 47=some 2:=by kernel_rfl
@[go_sem] theorem T.bytes47:HL.bytesT Tryz.prog 47=some 32:=by kernel_rfl
@[go_sem] theorem T.zero47:HL.zeroT Tryz.prog 47=some (.agg #[.pointer none,.slice none 0 0]):=by kernel_rfl
@[go_sem] theorem T.places47:HL.placesT Tryz.prog 47=some [(0,1),(1,1)]:=by kernel_rfl
@[go_sem] theorem T.field47_0:HL.fieldT Tryz.prog 47 0=some (0,44):=by kernel_rfl
@[go_sem] theorem T.fieldO47_0:HL.fieldO Tryz.prog 47 0=some 0:=by kernel_rfl
@[go_sem] theorem T.field47_1:HL.fieldT Tryz.prog 47 1=some (1,45):=by kernel_rfl
@[go_sem] theorem T.fieldO47_1:HL.fieldO Tryz.prog 47 1=some 1:=by kernel_rfl
@[go_sem] theorem T.agg48:HL.aggN Tryz.prog 48=some (some 3):=by kernel_rfl
@[go_sem] theorem T.size48:HL.sizeT Tryz.prog 48=some 3:=by kernel_rfl
@[go_sem] theorem T.bytes48:HL.bytesT Tryz.prog 48=some 56:=by kernel_rfl
@[go_sem] theorem T.zero48:HL.zeroT Tryz.prog 48=some (.agg #[.slice none 0 0,.pointer none,.slice none 0 0]):=by kernel_rfl
@[go_sem] theorem T.places48:HL.placesT Tryz.prog 48=some [(0,1),(1,2)]:=by kernel_rfl
@[go_sem] theorem T.field48_0:HL.fieldT Tryz.prog 48 0=some (0,22):=by kernel_rfl
@[go_sem] theorem T.fieldO48_0:HL.fieldO Tryz.prog 48 0=some 0:=by kernel_rfl
@[go_sem] theorem T.field48_1:HL.fieldT Tryz.prog 48 1=some (1,47):=by kernel_rfl
@[go_sem] theorem T.fieldO48_1:HL.fieldO Tryz.prog 48 1=some 1:=by kernel_rfl
@[go_sem] theorem T.agg49:HL.aggN Tryz.prog 49=some (some 3):=by kernel_rfl
@[go_sem] theorem T.size49:HL.sizeT Tryz.prog 49=some 3:=by kernel_rfl
@[go_sem] theorem T.bytes49:HL.bytesT Tryz.prog 49=some 56:=by kernel_rfl
@[go_sem] theorem T.zero49:HL.zeroT Tryz.prog 49=some (.agg #[.slice none 0 0,.pointer none,.slice none 0 0]):=by kernel_rfl
@[go_sem] theorem T.places49:HL.placesT Tryz.prog 49=some [(0,1),(1,2)]:=by kernel_rfl
@[go_sem] theorem T.field49_0:HL.fieldT Tryz.prog 49 0=some (0,22):=by kernel_rfl
@[go_sem] theorem T.fieldO49_0:HL.fieldO Tryz.prog 49 0=some 0:=by kernel_rfl
@[go_sem] theorem T.field49_1:HL.fieldT Tryz.prog 49 1=some (1,47):=by kernel_rfl
@[go_sem] theorem T.fieldO49_1:HL.fieldO Tryz.prog 49 1=some 1:=by kernel_rfl
@[go_sem] theorem T.agg50:HL.aggN Tryz.prog 50=some none:=by kernel_rfl
@[go_sem] theorem T.size50:HL.sizeT Tryz.prog 50=some 1:=by kernel_rfl
@[go_sem] theorem T.bytes50:HL.bytesT Tryz.prog 50=some 8:=by kernel_rfl
@[go_sem] theorem T.zero50:HL.zeroT Tryz.prog 50=some (.nilFunc):=by kernel_rfl
@[go_sem] theorem T.agg51:HL.aggN Tryz.prog 51=some none:=by kernel_rfl
@[go_sem] theorem T.size51:HL.sizeT Tryz.prog 51=some 1:=by kernel_rfl
@[go_sem] theorem T.bytes51:HL.bytesT Tryz.prog 51=some 8:=by kernel_rfl
@[go_sem] theorem T.zero51:HL.zeroT Tryz.prog 51=some (.nilFunc):=by kernel_rfl
@[go_sem] theorem T.agg52:HL.aggN Tryz.prog 52=some none:=by kernel_rfl
@[go_sem] theorem T.size52:HL.sizeT Tryz.prog 52=some 1:=by kernel_rfl
@[go_sem] theorem T.bytes52:HL.bytesT Tryz.prog 52=some 8:=by kernel_rfl
@[go_sem] theorem T.zero52:HL.zeroT Tryz.prog 52=some (.nilFunc):=by kernel_rfl
@[go_sem] theorem T.agg53:HL.aggN Tryz.prog 53=some none:=by kernel_rfl
@[go_sem] theorem T.size53:HL.sizeT Tryz.prog 53=some 1:=by kernel_rfl
@[go_sem] theorem T.bytes53:HL.bytesT Tryz.prog 53=some 24:=by kernel_rfl
@[go_sem] theorem T.zero53:HL.zeroT Tryz.prog 53=some (.slice none 0 0):=by kernel_rfl
@[go_sem] theorem T.elem53:HL.elemT Tryz.prog 53=some 87:=by kernel_rfl
@[go_sem] theorem T.elemS53:HL.elemS Tryz.prog 53=some 3:=by kernel_rfl
@[go_sem] theorem T.agg55:HL.aggN Tryz.prog 55=some none:=by kernel_rfl
@[go_sem] theorem T.size55:HL.sizeT Tryz.prog 55=some 1:=by kernel_rfl
@[go_sem] theorem T.bytes55:HL.bytesT Tryz.prog 55=some 8:=by kernel_rfl
@[go_sem] theorem T.zero55:HL.zeroT Tryz.prog 55=some (.nilFunc):=by kernel_rfl
@[go_sem] theorem T.agg56:HL.aggN Tryz.prog 56=some none:=by kernel_rfl
@[go_sem] theorem T.size56:HL.sizeT Tryz.prog 56=some 1:=by kernel_rfl
@[go_sem] theorem T.bytes56:HL.bytesT Tryz.prog 56=some 8:=by kernel_rfl
@[go_sem] theorem T.zero56:HL.zeroT Tryz.prog 56=some (.pointer none):=by kernel_rfl
@[go_sem] theorem T.agg57:HL.aggN Tryz.prog 57=some (some 5):=by kernel_rfl
@[go_sem] theorem T.size57:HL.sizeT Tryz.prog 57=some 5:=by kernel_rfl
@[go_sem] theorem T.bytes57:HL.bytesT Tryz.prog 57=some 56:=by kernel_rfl
@[go_sem] theorem T.zero57:HL.zeroT Tryz.prog 57=some (.agg #[.slice none 0 0,.int .i64 0,.int .i64 0,.int .i64 0,.int .i64 0]):=by kernel_rfl
@[go_sem] theorem T.places57:HL.placesT Tryz.prog 57=some [(0,1),(1,1),(2,1),(3,2)]:=by kernel_rfl
@[go_sem] theorem T.field57_0:HL.fieldT Tryz.prog 57 0=some (0,53):=by kernel_rfl
@[go_sem] theorem T.fieldO57_0:HL.fieldO Tryz.prog 57 0=some 0:=by kernel_rfl
@[go_sem] theorem T.field57_1:HL.fieldT Tryz.prog 57 1=some (1,3):=by kernel_rfl
@[go_sem] theorem T.fieldO57_1:HL.fieldO Tryz.prog 57 1=some 1:=by kernel_rfl
@[go_sem] theorem T.field57_2:HL.fieldT Tryz.prog 57 2=some (2,3):=by kernel_rfl
@[go_sem] theorem T.fieldO57_2:HL.fieldO Tryz.prog 57 2=some 2:=by kernel_rfl
@[go_sem] theorem T.field57_3:HL.fieldT Tryz.prog 57 3=some (3,33):=by kernel_rfl
@[go_sem] theorem T.fieldO57_3:HL.fieldO Tryz.prog 57 3=some 3:=by kernel_rfl
@[go_sem] theorem T.agg58:HL.aggN Tryz.prog 58=some (some 5):=by kernel_rfl
@[go_sem] theorem T.size58:HL.sizeT Tryz.prog 58=some 5:=by kernel_rfl
@[go_sem] theorem T.bytes58:HL.bytesT Tryz.prog 58=some 56:=by kernel_rfl
@[go_sem] theorem T.zero58:HL.zeroT Tryz.prog 58=some (.agg #[.slice none 0 0,.int .i64 0,.int .i64 0,.int .i64 0,.int .i64 0]):=by kernel_rfl
@[go_sem] theorem T.places58:HL.placesT Tryz.prog 58=some [(0,1),(1,1),(2,1),(3,2)]:=by kernel_rfl
@[go_sem] theorem T.field58_0:HL.fieldT Tryz.prog 58 0=some (0,53):=by kernel_rfl
@[go_sem] theorem T.fieldO58_0:HL.fieldO Tryz.prog 58 0=some 0:=by kernel_rfl
@[go_sem] theorem T.field58_1:HL.fieldT Tryz.prog 58 1=some (1,3):=by kernel_rfl
@[go_sem] theorem T.fieldO58_1:HL.fieldO Tryz.prog 58 1=some 1:=by kernel_rfl
@[go_sem] theorem T.field58_2:HL.fieldT Tryz.prog 58 2=some (2,3):=by kernel_rfl
@[go_sem] theorem T.fieldO58_2:HL.fieldO Tryz.prog 58 2=some 2:=by kernel_rfl
@[go_sem] theorem T.field58_3:HL.fieldT Tryz.prog 58 3=some (3,33):=by kernel_rfl
@[go_sem] theorem T.fieldO58_3:HL.fieldO Tryz.prog 58 3=some 3:=by kernel_rfl
@[go_sem] theorem T.agg59:HL.aggN Tryz.prog 59=some none:=by kernel_rfl
@[go_sem] theorem T.size59:HL.sizeT Tryz.prog 59=some 1:=by kernel_rfl
@[go_sem] theorem T.bytes59:HL.bytesT Tryz.prog 59=some 24:=by kernel_rfl
@[go_sem] theorem T.zero59:HL.zeroT Tryz.prog 59=some (.slice none 0 0):=by kernel_rfl
@[go_sem] theorem T.elem59:HL.elemT Tryz.prog 59=some 61:=by kernel_rfl
@[go_sem] theorem T.elemS59:HL.elemS Tryz.prog 59=some 6:=by kernel_rfl
@[go_sem] theorem T.agg60:HL.aggN Tryz.prog 60=some (some 6):=by kernel_rfl
@[go_sem] theorem T.size60:HL.sizeT Tryz.prog 60=some 6:=by kernel_rfl
@[go_sem] theorem T.bytes60:HL.bytesT Tryz.prog 60=some 112:=by kernel_rfl
@[go_sem] theorem T.zero60:HL.zeroT Tryz.prog 60=some (.agg #[.int .i64 0,.slice none 0 0,.slice none 0 0,.slice none 0 0,.int .i64 0,.slice none 0 0]):=by kernel_rfl
@[go_sem] theorem T.places60:HL.placesT Tryz.prog 60=some [(0,5),(5,1)]:=by kernel_rfl
@[go_sem] theorem T.field60_0:HL.fieldT Tryz.prog 60 0=some (0,28):=by kernel_rfl
@[go_sem] theorem T.fieldO60_0:HL.fieldO Tryz.prog 60 0=some 0:=by kernel_rfl
@[go_sem] theorem T.field60_1:HL.fieldT Tryz.prog 60 1=some (5,59):=by kernel_rfl
@[go_sem] theorem T.fieldO60_1:HL.fieldO Tryz.prog 60 1=some 5:=by kernel_rfl
@[go_sem] theorem T.agg61:HL.aggN Tryz.prog 61=some (some 6):=by kernel_rfl
@[go_sem] theorem T.size61:HL.sizeT Tryz.prog 61=some 6:=by kernel_rfl
@[go_sem] theorem T.bytes61:HL.bytesT Tryz.prog 61=some 112:=by kernel_rfl
@[go_sem] theorem T.zero61:HL.zeroT Tryz.prog 61=some (.agg #[.int .i64 0,.slice none 0 0,.slice none 0 0,.slice none 0 0,.int .i64 0,.slice none 0 0]):=by kernel_rfl
@[go_sem] theorem T.places61:HL.placesT Tryz.prog 61=some [(0,5),(5,1)]:=by kernel_rfl
@[go_sem] theorem T.field61_0:HL.fieldT Tryz.prog 61 0=some (0,28):=by kernel_rfl
@[go_sem] theorem T.fieldO61_0:HL.fieldO Tryz.prog 61 0=some 0:=by kernel_rfl
@[go_sem] theorem T.field61_1:HL.fieldT Tryz.prog 61 1=some (5,59):=by kernel_rfl
@[go_sem] theorem T.fieldO61_1:HL.fieldO Tryz.prog 61 1=some 5:=by kernel_rfl
@[go_sem] theorem T.agg62:HL.aggN Tryz.prog 62=some none:=by kernel_rfl
@[go_sem] theorem T.size62:HL.sizeT Tryz.prog 62=some 1:=by kernel_rfl
@[go_sem] theorem T.bytes62:HL.bytesT Tryz.prog 62=some 8:=by kernel_rfl
@[go_sem] theorem T.zero62:HL.zeroT Tryz.prog 62=some (.nilFunc):=by kernel_rfl
@[go_sem] theorem T.agg63:HL.aggN Tryz.prog 63=some none:=by kernel_rfl
@[go_sem] theorem T.size63:HL.sizeT Tryz.prog 63=some 1:=by kernel_rfl
@[go_sem] theorem T.bytes63:HL.bytesT Tryz.prog 63=some 8:=by kernel_rfl
@[go_sem] theorem T.zero63:HL.zeroT Tryz.prog 63=some (.nilFunc):=by kernel_rfl
@[go_sem] theorem T.agg64:HL.aggN Tryz.prog 64=some none:=by kernel_rfl
@[go_sem] theorem T.size64:HL.sizeT Tryz.prog 64=some 1:=by kernel_rfl
@[go_sem] theorem T.bytes64:HL.bytesT Tryz.prog 64=some 8:=by kernel_rfl
@[go_sem] theorem T.zero64:HL.zeroT Tryz.prog 64=some (.nilFunc):=by kernel_rfl
@[go_sem] theorem T.agg65:HL.aggN Tryz.prog 65=some none:=by kernel_rfl
@[go_sem] theorem T.size65:HL.sizeT Tryz.prog 65=some 1:=by kernel_rfl
@[go_sem] theorem T.bytes65:HL.bytesT Tryz.prog 65=some 8:=by kernel_rfl
@[go_sem] theorem T.zero65:HL.zeroT Tryz.prog 65=some (.nilFunc):=by kernel_rfl
@[go_sem] theorem T.agg66:HL.aggN Tryz.prog 66=some none:=by kernel_rfl
@[go_sem] theorem T.size66:HL.sizeT Tryz.prog 66=some 1:=by kernel_rfl
@[go_sem] theorem T.bytes66:HL.bytesT Tryz.prog 66=some 8:=by kernel_rfl
@[go_sem] theorem T.zero66:HL.zeroT Tryz.prog 66=some (.nilFunc):=by kernel_rfl
@[go_sem] theorem T.agg67:HL.aggN Tryz.prog 67=some none:=by kernel_rfl
@[go_sem] theorem T.size67:HL.sizeT Tryz.prog 67=some 1:=by kernel_rfl
@[go_sem] theorem T.bytes67:HL.bytesT Tryz.prog 67=some 8:=by kernel_rfl
@[go_sem] theorem T.zero67:HL.zeroT Tryz.prog 67=some (.nilFunc):=by kernel_rfl
@[go_sem] theorem T.agg68:HL.aggN Tryz.prog 68=some none:=by kernel_rfl
@[go_sem] theorem T.size68:HL.sizeT Tryz.prog 68=some 1:=by kernel_rfl
@[go_sem] theorem T.bytes68:HL.bytesT Tryz.prog 68=some 8:=by kernel_rfl
@[go_sem] theorem T.zero68:HL.zeroT Tryz.prog 68=some (.nilFunc):=by kernel_rfl
@[go_sem] theorem T.agg69:HL.aggN Tryz.prog 69=some none:=by kernel_rfl
@[go_sem] theorem T.size69:HL.sizeT Tryz.prog 69=some 1:=by kernel_rfl
@[go_sem] theorem T.bytes69:HL.bytesT Tryz.prog 69=some 8:=by kernel_rfl
@[go_sem] theorem T.zero69:HL.zeroT Tryz.prog 69=some (.nilFunc):=by kernel_rfl
@[go_sem] theorem T.agg70:HL.aggN Tryz.prog 70=some none:=by kernel_rfl
@[go_sem] theorem T.size70:HL.sizeT Tryz.prog 70=some 1:=by kernel_rfl
@[go_sem] theorem T.bytes70:HL.bytesT Tryz.prog 70=some 8:=by kernel_rfl
@[go_sem] theorem T.zero70:HL.zeroT Tryz.prog 70=some (.pointer none):=by kernel_rfl
@[go_sem] theorem T.agg71:HL.aggN Tryz.prog 71=some none:=by kernel_rfl
@[go_sem] theorem T.size71:HL.sizeT Tryz.prog 71=some 1:=by kernel_rfl
@[go_sem] theorem T.bytes71:HL.bytesT Tryz.prog 71=some 8:=by kernel_rfl
@[go_sem] theorem T.zero71:HL.zeroT Tryz.prog 71=some (.nilFunc):=by kernel_rfl
@[go_sem] theorem T.agg72:HL.aggN Tryz.prog 72=some (some 9):=by kernel_rfl
@[go_sem] theorem T.size72:HL.sizeT Tryz.prog 72=some 9:=by kernel_rfl
@[go_sem] theorem T.bytes72:HL.bytesT Tryz.prog 72=some 72:=by kernel_rfl
@[go_sem] theorem T.zero72:HL.zeroT Tryz.prog 72=some (.agg #[.int .i64 0,.int .i64 0,.int .i64 0,.int .i64 0,.int .i64 0,.int .i64 0,.int .i64 0,.int .i64 0,.int .i64 0]):=by kernel_rfl
@[go_sem] theorem T.places72:HL.placesT Tryz.prog 72=none:=by kernel_rfl
@[go_sem] theorem T.arr72:HL.arrT Tryz.prog 72=some (9,3):=by kernel_rfl
@[go_sem] theorem T.arrS72:HL.arrS Tryz.prog 72=some (9,1):=by kernel_rfl
@[go_sem] theorem T.agg73:HL.aggN Tryz.prog 73=some (some 9):=by kernel_rfl
@[go_sem] theorem T.size73:HL.sizeT Tryz.prog 73=some 9:=by kernel_rfl
@[go_sem] theorem T.bytes73:HL.bytesT Tryz.prog 73=some 144:=by kernel_rfl
@[go_sem] theorem T.zero73:HL.zeroT Tryz.prog 73=some (.agg #[.string ⟨#[]⟩,.string ⟨#[]⟩,.string ⟨#[]⟩,.string ⟨#[]⟩,.string ⟨#[]⟩,.string ⟨#[]⟩,.string ⟨#[]⟩,.string ⟨#[]⟩,.string ⟨#[]⟩]):=by kernel_rfl
@[go_sem] theorem T.places73:HL.placesT Tryz.prog 73=none:=by kernel_rfl
@[go_sem] theorem T.arr73:HL.arrT Tryz.prog 73=some (9,9):=by kernel_rfl
@[go_sem] theorem T.arrS73:HL.arrS Tryz.prog 73=some (9,1):=by kernel_rfl
@[go_sem] theorem T.agg74:HL.aggN Tryz.prog 74=some none:=by kernel_rfl
@[go_sem] theorem T.size74:HL.sizeT Tryz.prog 74=some 1:=by kernel_rfl
@[go_sem] theorem T.bytes74:HL.bytesT Tryz.prog 74=some 8:=by kernel_rfl
@[go_sem] theorem T.zero74:HL.zeroT Tryz.prog 74=some (.nilFunc):=by kernel_rfl
@[go_sem] theorem T.agg75:HL.aggN Tryz.prog 75=some none:=by kernel_rfl
@[go_sem] theorem T.size75:HL.sizeT Tryz.prog 75=some 1:=by kernel_rfl
@[go_sem] theorem T.bytes75:HL.bytesT Tryz.prog 75=some 8:=by kernel_rfl
@[go_sem] theorem T.zero75:HL.zeroT Tryz.prog 75=some (.nilFunc):=by kernel_rfl
@[go_sem] theorem T.agg76:HL.aggN Tryz.prog 76=some none:=by kernel_rfl
@[go_sem] theorem T.size76:HL.sizeT Tryz.prog 76=some 1:=by kernel_rfl
@[go_sem] theorem T.bytes76:HL.bytesT Tryz.prog 76=some 8:=by kernel_rfl
@[go_sem] theorem T.zero76:HL.zeroT Tryz.prog 76=some (.nilFunc):=by kernel_rfl
@[go_sem] theorem T.agg77:HL.aggN Tryz.prog 77=some none:=by kernel_rfl
@[go_sem] theorem T.size77:HL.sizeT Tryz.prog 77=some 1:=by kernel_rfl
@[go_sem] theorem T.bytes77:HL.bytesT Tryz.prog 77=some 8:=by kernel_rfl
@[go_sem] theorem T.zero77:HL.zeroT Tryz.prog 77=some (.nilFunc):=by kernel_rfl
@[go_sem] theorem T.agg78:HL.aggN Tryz.prog 78=some none:=by kernel_rfl
@[go_sem] theorem T.size78:HL.sizeT Tryz.prog 78=some 1:=by kernel_rfl
@[go_sem] theorem T.bytes78:HL.bytesT Tryz.prog 78=some 8:=by kernel_rfl
@[go_sem] theorem T.zero78:HL.zeroT Tryz.prog 78=some (.nilFunc):=by kernel_rfl
@[go_sem] theorem T.agg79:HL.aggN Tryz.prog 79=some none:=by kernel_rfl
@[go_sem] theorem T.size79:HL.sizeT Tryz.prog 79=some 1:=by kernel_rfl
@[go_sem] theorem T.bytes79:HL.bytesT Tryz.prog 79=some 8:=by kernel_rfl
@[go_sem] theorem T.zero79:HL.zeroT Tryz.prog 79=some (.pointer none):=by kernel_rfl
@[go_sem] theorem T.agg80:HL.aggN Tryz.prog 80=some none:=by kernel_rfl
@[go_sem] theorem T.size80:HL.sizeT Tryz.prog 80=some 1:=by kernel_rfl
@[go_sem] theorem T.bytes80:HL.bytesT Tryz.prog 80=some 8:=by kernel_rfl
@[go_sem] theorem T.zero80:HL.zeroT Tryz.prog 80=some (.nilFunc):=by kernel_rfl
@[go_sem] theorem T.agg81:HL.aggN Tryz.prog 81=some none:=by kernel_rfl
@[go_sem] theorem T.size81:HL.sizeT Tryz.prog 81=some 1:=by kernel_rfl
@[go_sem] theorem T.bytes81:HL.bytesT Tryz.prog 81=some 8:=by kernel_rfl
@[go_sem] theorem T.zero81:HL.zeroT Tryz.prog 81=some (.nilFunc):=by kernel_rfl
@[go_sem] theorem T.agg82:HL.aggN Tryz.prog 82=some none:=by kernel_rfl
@[go_sem] theorem T.size82:HL.sizeT Tryz.prog 82=some 1:=by kernel_rfl
@[go_sem] theorem T.bytes82:HL.bytesT Tryz.prog 82=some 8:=by kernel_rfl
@[go_sem] theorem T.zero82:HL.zeroT Tryz.prog 82=some (.nilFunc):=by kernel_rfl
@[go_sem] theorem T.agg83:HL.aggN Tryz.prog 83=some none:=by kernel_rfl
@[go_sem] theorem T.size83:HL.sizeT Tryz.prog 83=some 1:=by kernel_rfl
@[go_sem] theorem T.bytes83:HL.bytesT Tryz.prog 83=some 8:=by kernel_rfl
@[go_sem] theorem T.zero83:HL.zeroT Tryz.prog 83=some (.nilFunc):=by kernel_rfl
@[go_sem] theorem T.agg84:HL.aggN Tryz.prog 84=some none:=by kernel_rfl
@[go_sem] theorem T.size84:HL.sizeT Tryz.prog 84=some 1:=by kernel_rfl
@[go_sem] theorem T.bytes84:HL.bytesT Tryz.prog 84=some 8:=by kernel_rfl
@[go_sem] theorem T.zero84:HL.zeroT Tryz.prog 84=some (.nilFunc):=by kernel_rfl
@[go_sem] theorem T.agg85:HL.aggN Tryz.prog 85=some none:=by kernel_rfl
@[go_sem] theorem T.size85:HL.sizeT Tryz.prog 85=some 1:=by kernel_rfl
@[go_sem] theorem T.bytes85:HL.bytesT Tryz.prog 85=some 8:=by kernel_rfl
@[go_sem] theorem T.zero85:HL.zeroT Tryz.prog 85=some (.nilFunc):=by kernel_rfl
@[go_sem] theorem T.agg86:HL.aggN Tryz.prog 86=some (some 3):=by kernel_rfl
@[go_sem] theorem T.size86:HL.sizeT Tryz.prog 86=some 3:=by kernel_rfl
@[go_sem] theorem T.bytes86:HL.bytesT Tryz.prog 86=some 32:=by kernel_rfl
@[go_sem] theorem T.zero86:HL.zeroT Tryz.prog 86=some (.agg #[.int .i64 0,.string ⟨#[]⟩,.int .i64 0]):=by kernel_rfl
@[go_sem] theorem T.places86:HL.placesT Tryz.prog 86=some [(0,1),(1,1),(2,1)]:=by kernel_rfl
@[go_sem] theorem T.field86_0:HL.fieldT Tryz.prog 86 0=some (0,3):=by kernel_rfl
@[go_sem] theorem T.fieldO86_0:HL.fieldO Tryz.prog 86 0=some 0:=by kernel_rfl
@[go_sem] theorem T.field86_1:HL.fieldT Tryz.prog 86 1=some (1,9):=by kernel_rfl
@[go_sem] theorem T.fieldO86_1:HL.fieldO Tryz.prog 86 1=some 1:=by kernel_rfl
@[go_sem] theorem T.field86_2:HL.fieldT Tryz.prog 86 2=some (2,3):=by kernel_rfl
@[go_sem] theorem T.fieldO86_2:HL.fieldO Tryz.prog 86 2=some 2:=by kernel_rfl
@[go_sem] theorem T.agg87:HL.aggN Tryz.prog 87=some (some 3):=by kernel_rfl
@[go_sem] theorem T.size87:HL.sizeT Tryz.prog 87=some 3:=by kernel_rfl
@[go_sem] theorem T.bytes87:HL.bytesT Tryz.prog 87=some 32:=by kernel_rfl
@[go_sem] theorem T.zero87:HL.zeroT Tryz.prog 87=some (.agg #[.int .i64 0,.string ⟨#[]⟩,.int .i64 0]):=by kernel_rfl
@[go_sem] theorem T.places87:HL.placesT Tryz.prog 87=some [(0,1),(1,1),(2,1)]:=by kernel_rfl
@[go_sem] theorem T.field87_0:HL.fieldT Tryz.prog 87 0=some (0,3):=by kernel_rfl
@[go_sem] theorem T.fieldO87_0:HL.fieldO Tryz.prog 87 0=some 0:=by kernel_rfl
@[go_sem] theorem T.field87_1:HL.fieldT Tryz.prog 87 1=some (1,9):=by kernel_rfl
@[go_sem] theorem T.fieldO87_1:HL.fieldO Tryz.prog 87 1=some 1:=by kernel_rfl
@[go_sem] theorem T.field87_2:HL.fieldT Tryz.prog 87 2=some (2,3):=by kernel_rfl
@[go_sem] theorem T.fieldO87_2:HL.fieldO Tryz.prog 87 2=some 2:=by kernel_rfl
@[go_sem] theorem T.agg88:HL.aggN Tryz.prog 88=some none:=by kernel_rfl
@[go_sem] theorem T.size88:HL.sizeT Tryz.prog 88=some 1:=by kernel_rfl
@[go_sem] theorem T.bytes88:HL.bytesT Tryz.prog 88=some 8:=by kernel_rfl
@[go_sem] theorem T.zero88:HL.zeroT Tryz.prog 88=some (.nilFunc):=by kernel_rfl
@[go_sem] theorem T.agg89:HL.aggN Tryz.prog 89=some none:=by kernel_rfl
@[go_sem] theorem T.size89:HL.sizeT Tryz.prog 89=some 1:=by kernel_rfl
@[go_sem] theorem T.bytes89:HL.bytesT Tryz.prog 89=some 8:=by kernel_rfl
@[go_sem] theorem T.zero89:HL.zeroT Tryz.prog 89=some (.nilFunc):=by kernel_rfl
@[go_sem] theorem T.agg90:HL.aggN Tryz.prog 90=some none:=by kernel_rfl
@[go_sem] theorem T.size90:HL.sizeT Tryz.prog 90=some 1:=by kernel_rfl
@[go_sem] theorem T.bytes90:HL.bytesT Tryz.prog 90=some 8:=by kernel_rfl
@[go_sem] theorem T.zero90:HL.zeroT Tryz.prog 90=some (.nilFunc):=by kernel_rfl
@[go_sem] theorem T.agg91:HL.aggN Tryz.prog 91=some none:=by kernel_rfl
@[go_sem] theorem T.size91:HL.sizeT Tryz.prog 91=some 1:=by kernel_rfl
@[go_sem] theorem T.bytes91:HL.bytesT Tryz.prog 91=some 8:=by kernel_rfl
@[go_sem] theorem T.zero91:HL.zeroT Tryz.prog 91=some (.nilFunc):=by kernel_rfl
@[go_sem] theorem T.agg92:HL.aggN Tryz.prog 92=some none:=by kernel_rfl
@[go_sem] theorem T.size92:HL.sizeT Tryz.prog 92=some 1:=by kernel_rfl
@[go_sem] theorem T.bytes92:HL.bytesT Tryz.prog 92=some 8:=by kernel_rfl
@[go_sem] theorem T.zero92:HL.zeroT Tryz.prog 92=some (.nilFunc):=by kernel_rfl
@[go_sem] theorem T.agg93:HL.aggN Tryz.prog 93=some none:=by kernel_rfl
@[go_sem] theorem T.size93:HL.sizeT Tryz.prog 93=some 1:=by kernel_rfl
@[go_sem] theorem T.bytes93:HL.bytesT Tryz.prog 93=some 16:=by kernel_rfl
@[go_sem] theorem T.zero93:HL.zeroT Tryz.prog 93=some (.nilIface):=by kernel_rfl
@[go_sem] theorem T.agg94:HL.aggN Tryz.prog 94=some none:=by kernel_rfl
@[go_sem] theorem T.size94:HL.sizeT Tryz.prog 94=some 1:=by kernel_rfl
@[go_sem] theorem T.bytes94:HL.bytesT Tryz.prog 94=some 16:=by kernel_rfl
@[go_sem] theorem T.zero94:HL.zeroT Tryz.prog 94=some (.nilIface):=by kernel_rfl
@[go_sem] theorem T.agg96:HL.aggN Tryz.prog 96=some none:=by kernel_rfl
@[go_sem] theorem T.size96:HL.sizeT Tryz.prog 96=some 1:=by kernel_rfl
@[go_sem] theorem T.bytes96:HL.bytesT Tryz.prog 96=some 8:=by kernel_rfl
@[go_sem] theorem T.zero96:HL.zeroT Tryz.prog 96=some (.nilFunc):=by kernel_rfl
@[go_sem] theorem T.agg97:HL.aggN Tryz.prog 97=some none:=by kernel_rfl
@[go_sem] theorem T.size97:HL.sizeT Tryz.prog 97=some 1:=by kernel_rfl
@[go_sem] theorem T.bytes97:HL.bytesT Tryz.prog 97=some 8:=by kernel_rfl
@[go_sem] theorem T.zero97:HL.zeroT Tryz.prog 97=some (.nilFunc):=by kernel_rfl
@[go_sem] theorem T.agg98:HL.aggN Tryz.prog 98=some none:=by kernel_rfl
@[go_sem] theorem T.size98:HL.sizeT Tryz.prog 98=some 1:=by kernel_rfl
@[go_sem] theorem T.bytes98:HL.bytesT Tryz.prog 98=some 8:=by kernel_rfl
@[go_sem] theorem T.zero98:HL.zeroT Tryz.prog 98=some (.nilFunc):=by kernel_rfl
@[go_sem] theorem T.agg99:HL.aggN Tryz.prog 99=some none:=by kernel_rfl
@[go_sem] theorem T.size99:HL.sizeT Tryz.prog 99=some 1:=by kernel_rfl
@[go_sem] theorem T.bytes99:HL.bytesT Tryz.prog 99=some 8:=by kernel_rfl
@[go_sem] theorem T.zero99:HL.zeroT Tryz.prog 99=some (.nilFunc):=by kernel_rfl
@[go_sem] theorem T.agg100:HL.aggN Tryz.prog 100=some none:=by kernel_rfl
@[go_sem] theorem T.size100:HL.sizeT Tryz.prog 100=some 1:=by kernel_rfl
@[go_sem] theorem T.bytes100:HL.bytesT Tryz.prog 100=some 8:=by kernel_rfl
@[go_sem] theorem T.zero100:HL.zeroT Tryz.prog 100=some (.nilFunc):=by kernel_rfl
@[go_sem] theorem T.agg101:HL.aggN Tryz.prog 101=some none:=by kernel_rfl
@[go_sem] theorem T.size101:HL.sizeT Tryz.prog 101=some 1:=by kernel_rfl
@[go_sem] theorem T.bytes101:HL.bytesT Tryz.prog 101=some 8:=by kernel_rfl
@[go_sem] theorem T.zero101:HL.zeroT Tryz.prog 101=some (.nilFunc):=by kernel_rfl
@[go_sem] theorem T.agg102:HL.aggN Tryz.prog 102=some (some 2):=by kernel_rfl
@[go_sem] theorem T.size102:HL.sizeT Tryz.prog 102=some 2:=by kernel_rfl
@[go_sem] theorem T.bytes102:HL.bytesT Tryz.prog 102=some 16:=by kernel_rfl
@[go_sem] theorem T.zero102:HL.zeroT Tryz.prog 102=some (.agg #[.int .i64 0,.int .i64 0]):=by kernel_rfl
@[go_sem] theorem T.places102:HL.placesT Tryz.prog 102=none:=by kernel_rfl
@[go_sem] theorem T.arr102:HL.arrT Tryz.prog 102=some (2,3):=by kernel_rfl
@[go_sem] theorem T.arrS102:HL.arrS Tryz.prog 102=some (2,1):=by kernel_rfl
@[go_sem] theorem T.agg103:HL.aggN Tryz.prog 103=some none:=by kernel_rfl
@[go_sem] theorem T.size103:HL.sizeT Tryz.prog 103=some 1:=by kernel_rfl
@[go_sem] theorem T.bytes103:HL.bytesT Tryz.prog 103=some 8:=by kernel_rfl
@[go_sem] theorem T.zero103:HL.zeroT Tryz.prog 103=some (.nilFunc):=by kernel_rfl
@[go_sem] theorem T.agg104:HL.aggN Tryz.prog 104=some none:=by kernel_rfl
@[go_sem] theorem T.size104:HL.sizeT Tryz.prog 104=some 1:=by kernel_rfl
@[go_sem] theorem T.bytes104:HL.bytesT Tryz.prog 104=some 8:=by kernel_rfl
@[go_sem] theorem T.zero104:HL.zeroT Tryz.prog 104=some (.nilFunc):=by kernel_rfl
@[go_sem] theorem T.agg105:HL.aggN Tryz.prog 105=some none:=by kernel_rfl
@[go_sem] theorem T.size105:HL.sizeT Tryz.prog 105=some 1:=by kernel_rfl
@[go_sem] theorem T.bytes105:HL.bytesT Tryz.prog 105=some 8:=by kernel_rfl
@[go_sem] theorem T.zero105:HL.zeroT Tryz.prog 105=some (.nilFunc):=by kernel_rfl
@[go_sem] theorem T.agg106:HL.aggN Tryz.prog 106=some none:=by kernel_rfl
@[go_sem] theorem T.size106:HL.sizeT Tryz.prog 106=some 1:=by kernel_rfl
@[go_sem] theorem T.bytes106:HL.bytesT Tryz.prog 106=some 8:=by kernel_rfl
@[go_sem] theorem T.zero106:HL.zeroT Tryz.prog 106=some (.nilFunc):=by kernel_rfl
@[go_sem] theorem T.agg107:HL.aggN Tryz.prog 107=some none:=by kernel_rfl
@[go_sem] theorem T.size107:HL.sizeT Tryz.prog 107=some 1:=by kernel_rfl
@[go_sem] theorem T.bytes107:HL.bytesT Tryz.prog 107=some 8:=by kernel_rfl
@[go_sem] theorem T.zero107:HL.zeroT Tryz.prog 107=some (.nilFunc):=by kernel_rfl
@[go_sem] theorem T.agg108:HL.aggN Tryz.prog 108=some none:=by kernel_rfl
@[go_sem] theorem T.size108:HL.sizeT Tryz.prog 108=some 1:=by kernel_rfl
@[go_sem] theorem T.bytes108:HL.bytesT Tryz.prog 108=some 8:=by kernel_rfl
@[go_sem] theorem T.zero108:HL.zeroT Tryz.prog 108=some (.pointer none):=by kernel_rfl
@[go_sem] theorem T.agg109:HL.aggN Tryz.prog 109=some none:=by kernel_rfl
@[go_sem] theorem T.size109:HL.sizeT Tryz.prog 109=some 1:=by kernel_rfl
@[go_sem] theorem T.bytes109:HL.bytesT Tryz.prog 109=some 8:=by kernel_rfl
@[go_sem] theorem T.zero109:HL.zeroT Tryz.prog 109=some (.nilFunc):=by kernel_rfl
@[go_sem] theorem T.agg110:HL.aggN Tryz.prog 110=some none:=by kernel_rfl
@[go_sem] theorem T.size110:HL.sizeT Tryz.prog 110=some 1:=by kernel_rfl
@[go_sem] theorem T.bytes110:HL.bytesT Tryz.prog 110=some 8:=by kernel_rfl
@[go_sem] theorem T.zero110:HL.zeroT Tryz.prog 110=some (.nilFunc):=by kernel_rfl
@[go_sem] theorem T.agg111:HL.aggN Tryz.prog 111=some none:=by kernel_rfl
@[go_sem] theorem T.size111:HL.sizeT Tryz.prog 111=some 1:=by kernel_rfl
@[go_sem] theorem T.bytes111:HL.bytesT Tryz.prog 111=some 8:=by kernel_rfl
@[go_sem] theorem T.zero111:HL.zeroT Tryz.prog 111=some (.nilFunc):=by kernel_rfl
@[go_sem] theorem T.agg112:HL.aggN Tryz.prog 112=some none:=by kernel_rfl
@[go_sem] theorem T.size112:HL.sizeT Tryz.prog 112=some 1:=by kernel_rfl
@[go_sem] theorem T.bytes112:HL.bytesT Tryz.prog 112=some 8:=by kernel_rfl
@[go_sem] theorem T.zero112:HL.zeroT Tryz.prog 112=some (.nilFunc):=by kernel_rfl
@[go_sem] theorem T.agg113:HL.aggN Tryz.prog 113=some none:=by kernel_rfl
@[go_sem] theorem T.size113:HL.sizeT Tryz.prog 113=some 1:=by kernel_rfl
@[go_sem] theorem T.bytes113:HL.bytesT Tryz.prog 113=some 24:=by kernel_rfl
@[go_sem] theorem T.zero113:HL.zeroT Tryz.prog 113=some (.slice none 0 0):=by kernel_rfl
@[go_sem] theorem T.elem113:HL.elemT Tryz.prog 113=some 102:=by kernel_rfl
@[go_sem] theorem T.elemS113:HL.elemS Tryz.prog 113=some 2:=by kernel_rfl
@[go_sem] theorem T.agg114:HL.aggN Tryz.prog 114=some none:=by kernel_rfl
@[go_sem] theorem T.size114:HL.sizeT Tryz.prog 114=some 1:=by kernel_rfl
@[go_sem] theorem T.bytes114:HL.bytesT Tryz.prog 114=some 8:=by kernel_rfl
@[go_sem] theorem T.zero114:HL.zeroT Tryz.prog 114=some (.nilFunc):=by kernel_rfl
@[go_sem] theorem T.agg115:HL.aggN Tryz.prog 115=some (some 24):=by kernel_rfl
@[go_sem] theorem T.size115:HL.sizeT Tryz.prog 115=some 24:=by kernel_rfl
@[go_sem] theorem T.bytes115:HL.bytesT Tryz.prog 115=some 24:=by kernel_rfl
@[go_sem] theorem T.zero115:HL.zeroT Tryz.prog 115=some (.agg #[.int .u8 0,.int .u8 0,.int .u8 0,.int .u8 0,.int .u8 0,.int .u8 0,.int .u8 0,.int .u8 0,.int .u8 0,.int .u8 0,.int .u8 0,.int .u8 0,.int .u8 0,.int .u8 0,.int .u8 0,.int .u8 0,.int .u8 0,.int .u8 0,.int .u8 0,.int .u8 0,.int .u8 0,.int .u8 0,.int .u8 0,.int .u8 0]):=by kernel_rfl
@[go_sem] theorem T.places115:HL.placesT Tryz.prog 115=none:=by kernel_rfl
@[go_sem] theorem T.arr115:HL.arrT Tryz.prog 115=some (24,5):=by kernel_rfl
@[go_sem] theorem T.arrS115:HL.arrS Tryz.prog 115=some (24,1):=by kernel_rfl
@[go_sem] theorem T.agg116:HL.aggN Tryz.prog 116=some none:=by kernel_rfl
@[go_sem] theorem T.size116:HL.sizeT Tryz.prog 116=some 1:=by kernel_rfl
@[go_sem] theorem T.bytes116:HL.bytesT Tryz.prog 116=some 8:=by kernel_rfl
@[go_sem] theorem T.zero116:HL.zeroT Tryz.prog 116=some (.int .u64 0):=by kernel_rfl
@[go_sem] theorem T.agg117:HL.aggN Tryz.prog 117=some none:=by kernel_rfl
@[go_sem] theorem T.size117:HL.sizeT Tryz.prog 117=some 1:=by kernel_rfl
@[go_sem] theorem T.bytes117:HL.bytesT Tryz.prog 117=some 8:=by kernel_rfl
@[go_sem] theorem T.zero117:HL.zeroT Tryz.prog 117=some (.nilFunc):=by kernel_rfl
@[go_sem] theorem T.agg118:HL.aggN Tryz.prog 118=some none:=by kernel_rfl
@[go_sem] theorem T.size118:HL.sizeT Tryz.prog 118=some 1:=by kernel_rfl
@[go_sem] theorem T.bytes118:HL.bytesT Tryz.prog 118=some 8:=by kernel_rfl
@[go_sem] theorem T.zero118:HL.zeroT Tryz.prog 118=some (.nilFunc):=by kernel_rfl
@[go_sem] theorem T.agg120:HL.aggN Tryz.prog 120=some none:=by kernel_rfl
@[go_sem] theorem T.size120:HL.sizeT Tryz.prog 120=some 1:=by kernel_rfl
@[go_sem] theorem T.bytes120:HL.bytesT Tryz.prog 120=some 8:=by kernel_rfl
@[go_sem] theorem T.zero120:HL.zeroT Tryz.prog 120=some (.nilFunc):=by kernel_rfl
@[go_sem] theorem T.agg121:HL.aggN Tryz.prog 121=some none:=by kernel_rfl
@[go_sem] theorem T.size121:HL.sizeT Tryz.prog 121=some 1:=by kernel_rfl
@[go_sem] theorem T.bytes121:HL.bytesT Tryz.prog 121=some 8:=by kernel_rfl
@[go_sem] theorem T.zero121:HL.zeroT Tryz.prog 121=some (.pointer none):=by kernel_rfl
@[go_sem] theorem T.agg122:HL.aggN Tryz.prog 122=some none:=by kernel_rfl
@[go_sem] theorem T.size122:HL.sizeT Tryz.prog 122=some 1:=by kernel_rfl
@[go_sem] theorem T.bytes122:HL.bytesT Tryz.prog 122=some 8:=by kernel_rfl
@[go_sem] theorem T.zero122:HL.zeroT Tryz.prog 122=some (.nilFunc):=by kernel_rfl
@[go_sem] theorem T.agg123:HL.aggN Tryz.prog 123=some none:=by kernel_rfl
@[go_sem] theorem T.size123:HL.sizeT Tryz.prog 123=some 1:=by kernel_rfl
@[go_sem] theorem T.bytes123:HL.bytesT Tryz.prog 123=some 8:=by kernel_rfl
@[go_sem] theorem T.zero123:HL.zeroT Tryz.prog 123=some (.nilFunc):=by kernel_rfl
@[go_sem] theorem T.agg124:HL.aggN Tryz.prog 124=some none:=by kernel_rfl
@[go_sem] theorem T.size124:HL.sizeT Tryz.prog 124=some 1:=by kernel_rfl
@[go_sem] theorem T.bytes124:HL.bytesT Tryz.prog 124=some 8:=by kernel_rfl
@[go_sem] theorem T.zero124:HL.zeroT Tryz.prog 124=some (.nilFunc):=by kernel_rfl
@[go_sem] theorem T.agg125:HL.aggN Tryz.prog 125=some (some 20):=by kernel_rfl
@[go_sem] theorem T.size125:HL.sizeT Tryz.prog 125=some 20:=by kernel_rfl
@[go_sem] theorem T.bytes125:HL.bytesT Tryz.prog 125=some 160:=by kernel_rfl
@[go_sem] theorem T.zero125:HL.zeroT Tryz.prog 125=some (.agg #[.int .u64 0,.int .u64 0,.int .u64 0,.int .u64 0,.int .u64 0,.int .u64 0,.int .u64 0,.int .u64 0,.int .u64 0,.int .u64 0,.int .u64 0,.int .u64 0,.int .u64 0,.int .u64 0,.int .u64 0,.int .u64 0,.int .u64 0,.int .u64 0,.int .u64 0,.int .u64 0]):=by kernel_rfl
@[go_sem] theorem T.places125:HL.placesT Tryz.prog 125=none:=by kernel_rfl
@[go_sem] theorem T.arr125:HL.arrT Tryz.prog 125=some (20,116):=by kernel_rfl
@[go_sem] theorem T.arrS125:HL.arrS Tryz.prog 125=some (20,1):=by kernel_rfl
@[go_sem] theorem T.agg126:HL.aggN Tryz.prog 126=some none:=by kernel_rfl
@[go_sem] theorem T.size126:HL.sizeT Tryz.prog 126=some 1:=by kernel_rfl
@[go_sem] theorem T.bytes126:HL.bytesT Tryz.prog 126=some 4:=by kernel_rfl
@[go_sem] theorem T.zero126:HL.zeroT Tryz.prog 126=some (.int .u32 0):=by kernel_rfl
@[go_sem] theorem T.agg128:HL.aggN Tryz.prog 128=some none:=by kernel_rfl
@[go_sem] theorem T.size128:HL.sizeT Tryz.prog 128=some 1:=by kernel_rfl
@[go_sem] theorem T.bytes128:HL.bytesT Tryz.prog 128=some 8:=by kernel_rfl
@[go_sem] theorem T.zero128:HL.zeroT Tryz.prog 128=some (.int .u64 0):=by kernel_rfl
@[go_sem] theorem T.agg129:HL.aggN Tryz.prog 129=some none:=by kernel_rfl
@[go_sem] theorem T.size129:HL.sizeT Tryz.prog 129=some 1:=by kernel_rfl
@[go_sem] theorem T.bytes129:HL.bytesT Tryz.prog 129=some 8:=by kernel_rfl
@[go_sem] theorem T.zero129:HL.zeroT Tryz.prog 129=some (.nilFunc):=by kernel_rfl
@[go_sem] theorem T.agg130:HL.aggN Tryz.prog 130=some none:=by kernel_rfl
@[go_sem] theorem T.size130:HL.sizeT Tryz.prog 130=some 1:=by kernel_rfl
@[go_sem] theorem T.bytes130:HL.bytesT Tryz.prog 130=some 8:=by kernel_rfl
@[go_sem] theorem T.zero130:HL.zeroT Tryz.prog 130=some (.nilFunc):=by kernel_rfl
@[go_sem] theorem T.agg131:HL.aggN Tryz.prog 131=some (some 32):=by kernel_rfl
@[go_sem] theorem T.size131:HL.sizeT Tryz.prog 131=some 32:=by kernel_rfl
@[go_sem] theorem T.bytes131:HL.bytesT Tryz.prog 131=some 32:=by kernel_rfl
@[go_sem] theorem T.zero131:HL.zeroT Tryz.prog 131=some (.agg #[.int .u8 0,.int .u8 0,.int .u8 0,.int .u8 0,.int .u8 0,.int .u8 0,.int .u8 0,.int .u8 0,.int .u8 0,.int .u8 0,.int .u8 0,.int .u8 0,.int .u8 0,.int .u8 0,.int .u8 0,.int .u8 0,.int .u8 0,.int .u8 0,.int .u8 0,.int .u8 0,.int .u8 0,.int .u8 0,.int .u8 0,.int .u8 0,.int .u8 0,.int .u8 0,.int .u8 0,.int .u8 0,.int .u8 0,.int .u8 0,.int .u8 0,.int .u8 0]):=by kernel_rfl
@[go_sem] theorem T.places131:HL.placesT Tryz.prog 131=none:=by kernel_rfl
@[go_sem] theorem T.arr131:HL.arrT Tryz.prog 131=some (32,5):=by kernel_rfl
@[go_sem] theorem T.arrS131:HL.arrS Tryz.prog 131=some (32,1):=by kernel_rfl
@[go_sem] theorem T.agg132:HL.aggN Tryz.prog 132=some (some 64):=by kernel_rfl
@[go_sem] theorem T.size132:HL.sizeT Tryz.prog 132=some 64:=by kernel_rfl
@[go_sem] theorem T.bytes132:HL.bytesT Tryz.prog 132=some 64:=by kernel_rfl
@[go_sem] theorem T.zero132:HL.zeroT Tryz.prog 132=some (.agg #[.int .u8 0,.int .u8 0,.int .u8 0,.int .u8 0,.int .u8 0,.int .u8 0,.int .u8 0,.int .u8 0,.int .u8 0,.int .u8 0,.int .u8 0,.int .u8 0,.int .u8 0,.int .u8 0,.int .u8 0,.int .u8 0,.int .u8 0,.int .u8 0,.int .u8 0,.int .u8 0,.int .u8 0,.int .u8 0,.int .u8 0,.int .u8 0,.int .u8 0,.int .u8 0,.int .u8 0,.int .u8 0,.int .u8 0,.int .u8 0,.int .u8 0,.int .u8 0,.int .u8 0,.int .u8 0,.int .u8 0,.int .u8 0,.int .u8 0,.int .u8 0,.int .u8 0,.int .u8 0,.int .u8 0,.int .u8 0,.int .u8 0,.int .u8 0,.int .u8 0,.int .u8 0,.int .u8 0,.int .u8 0,.int .u8 0,.int .u8 0,.int .u8 0,.int .u8 0,.int .u8 0,.int .u8 0,.int .u8 0,.int .u8 0,.int .u8 0,.int .u8 0,.int .u8 0,.int .u8 0,.int .u8 0,.int .u8 0,.int .u8 0,.int .u8 0]):=by kernel_rfl
@[go_sem] theorem T.places132:HL.placesT Tryz.prog 132=none:=by kernel_rfl
@[go_sem] theorem T.arr132:HL.arrT Tryz.prog 132=some (64,5):=by kernel_rfl
@[go_sem] theorem T.arrS132:HL.arrS Tryz.prog 132=some (64,1):=by kernel_rfl
@[go_sem] theorem T.agg133:HL.aggN Tryz.prog 133=some (some 4):=by kernel_rfl
@[go_sem] theorem T.size133:HL.sizeT Tryz.prog 133=some 4:=by kernel_rfl
@[go_sem] theorem T.bytes133:HL.bytesT Tryz.prog 133=some 40:=by kernel_rfl
@[go_sem] theorem T.zero133:HL.zeroT Tryz.prog 133=some (.agg #[.pointer none,.pointer none,.pointer none,.string ⟨#[]⟩]):=by kernel_rfl
@[go_sem] theorem T.places133:HL.placesT Tryz.prog 133=some [(0,1),(1,1),(2,1),(3,1)]:=by kernel_rfl
@[go_sem] theorem T.field133_0:HL.fieldT Tryz.prog 133 0=some (0,17):=by kernel_rfl
@[go_sem] theorem T.fieldO133_0:HL.fieldO Tryz.prog 133 0=some 0:=by kernel_rfl
@[go_sem] theorem T.field133_1:HL.fieldT Tryz.prog 133 1=some (1,17):=by kernel_rfl
@[go_sem] theorem T.fieldO133_1:HL.fieldO Tryz.prog 133 1=some 1:=by kernel_rfl
@[go_sem] theorem T.field133_2:HL.fieldT Tryz.prog 133 2=some (2,17):=by kernel_rfl
@[go_sem] theorem T.fieldO133_2:HL.fieldO Tryz.prog 133 2=some 2:=by kernel_rfl
@[go_sem] theorem T.field133_3:HL.fieldT Tryz.prog 133 3=some (3,9):=by kernel_rfl
@[go_sem] theorem T.fieldO133_3:HL.fieldO Tryz.prog 133 3=some 3:=by kernel_rfl
@[go_sem] theorem T.agg134:HL.aggN Tryz.prog 134=some (some 4):=by kernel_rfl
@[go_sem] theorem T.size134:HL.sizeT Tryz.prog 134=some 4:=by kernel_rfl
@[go_sem] theorem T.bytes134:HL.bytesT Tryz.prog 134=some 40:=by kernel_rfl
@[go_sem] theorem T.zero134:HL.zeroT Tryz.prog 134=some (.agg #[.pointer none,.pointer none,.pointer none,.string ⟨#[]⟩]):=by kernel_rfl
@[go_sem] theorem T.places134:HL.placesT Tryz.prog 134=some [(0,1),(1,1),(2,1),(3,1)]:=by kernel_rfl
@[go_sem] theorem T.field134_0:HL.fieldT Tryz.prog 134 0=some (0,17):=by kernel_rfl
@[go_sem] theorem T.fieldO134_0:HL.fieldO Tryz.prog 134 0=some 0:=by kernel_rfl
@[go_sem] theorem T.field134_1:HL.fieldT Tryz.prog 134 1=some (1,17):=by kernel_rfl
@[go_sem] theorem T.fieldO134_1:HL.fieldO Tryz.prog 134 1=some 1:=by kernel_rfl
@[go_sem] theorem T.field134_2:HL.fieldT Tryz.prog 134 2=some (2,17):=by kernel_rfl
@[go_sem] theorem T.fieldO134_2:HL.fieldO Tryz.prog 134 2=some 2:=by kernel_rfl
@[go_sem] theorem T.field134_3:HL.fieldT Tryz.prog 134 3=some (3,9):=by kernel_rfl
@[go_sem] theorem T.fieldO134_3:HL.fieldO Tryz.prog 134 3=some 3:=by kernel_rfl
@[go_sem] theorem T.agg135:HL.aggN Tryz.prog 135=some (some 0):=by kernel_rfl
@[go_sem] theorem T.size135:HL.sizeT Tryz.prog 135=some 0:=by kernel_rfl
@[go_sem] theorem T.bytes135:HL.bytesT Tryz.prog 135=some 0:=by kernel_rfl
@[go_sem] theorem T.zero135:HL.zeroT Tryz.prog 135=some (.agg #[]):=by kernel_rfl
@[go_sem] theorem T.places135:HL.placesT Tryz.prog 135=none:=by kernel_rfl
@[go_sem] theorem T.arr135:HL.arrT Tryz.prog 135=some (0,16):=by kernel_rfl
@[go_sem] theorem T.arrS135:HL.arrS Tryz.prog 135=some (0,1):=by kernel_rfl
@[go_sem] theorem T.agg136:HL.aggN Tryz.prog 136=some (some 0):=by kernel_rfl
@[go_sem] theorem T.size136:HL.sizeT Tryz.prog 136=some 0:=by kernel_rfl
@[go_sem] theorem T.bytes136:HL.bytesT Tryz.prog 136=some 0:=by kernel_rfl
@[go_sem] theorem T.zero136:HL.zeroT Tryz.prog 136=some (.agg #[]):=by kernel_rfl
@[go_sem] theorem T.places136:HL.placesT Tryz.prog 136=some [(0,0)]:=by kernel_rfl
@[go_sem] theorem T.field136_0:HL.fieldT Tryz.prog 136 0=some (0,135):=by kernel_rfl
@[go_sem] theorem T.agg137:HL.aggN Tryz.prog 137=some (some 0):=by kernel_rfl
@[go_sem] theorem T.size137:HL.sizeT Tryz.prog 137=some 0:=by kernel_rfl
@[go_sem] theorem T.bytes137:HL.bytesT Tryz.prog 137=some 0:=by kernel_rfl
@[go_sem] theorem T.zero137:HL.zeroT Tryz.prog 137=some (.agg #[]):=by kernel_rfl
@[go_sem] theorem T.places137:HL.placesT Tryz.prog 137=some [(0,0)]:=by kernel_rfl
@[go_sem] theorem T.field137_0:HL.fieldT Tryz.prog 137 0=some (0,135):=by kernel_rfl
@[go_sem] theorem T.agg138:HL.aggN Tryz.prog 138=some none:=by kernel_rfl
@[go_sem] theorem T.size138:HL.sizeT Tryz.prog 138=some 1:=by kernel_rfl
@[go_sem] theorem T.bytes138:HL.bytesT Tryz.prog 138=some 1:=by kernel_rfl
@[go_sem] theorem T.zero138:HL.zeroT Tryz.prog 138=some (.int .u8 0):=by kernel_rfl
@[go_sem] theorem T.agg139:HL.aggN Tryz.prog 139=some none:=by kernel_rfl
@[go_sem] theorem T.size139:HL.sizeT Tryz.prog 139=some 1:=by kernel_rfl
@[go_sem] theorem T.bytes139:HL.bytesT Tryz.prog 139=some 1:=by kernel_rfl
@[go_sem] theorem T.zero139:HL.zeroT Tryz.prog 139=some (.int .u8 0):=by kernel_rfl
@[go_sem] theorem T.agg140:HL.aggN Tryz.prog 140=some none:=by kernel_rfl
@[go_sem] theorem T.size140:HL.sizeT Tryz.prog 140=some 1:=by kernel_rfl
@[go_sem] theorem T.bytes140:HL.bytesT Tryz.prog 140=some 8:=by kernel_rfl
@[go_sem] theorem T.zero140:HL.zeroT Tryz.prog 140=some (.nilFunc):=by kernel_rfl
@[go_sem] theorem T.agg141:HL.aggN Tryz.prog 141=some none:=by kernel_rfl
@[go_sem] theorem T.size141:HL.sizeT Tryz.prog 141=some 1:=by kernel_rfl
@[go_sem] theorem T.bytes141:HL.bytesT Tryz.prog 141=some 4:=by kernel_rfl
@[go_sem] theorem T.zero141:HL.zeroT Tryz.prog 141=some (.int .i32 0):=by kernel_rfl
@[go_sem] theorem T.agg142:HL.aggN Tryz.prog 142=some none:=by kernel_rfl
@[go_sem] theorem T.size142:HL.sizeT Tryz.prog 142=some 1:=by kernel_rfl
@[go_sem] theorem T.bytes142:HL.bytesT Tryz.prog 142=some 4:=by kernel_rfl
@[go_sem] theorem T.zero142:HL.zeroT Tryz.prog 142=some (.int .i32 0):=by kernel_rfl
@[go_sem] theorem T.agg143:HL.aggN Tryz.prog 143=some (some 11):=by kernel_rfl
@[go_sem] theorem T.size143:HL.sizeT Tryz.prog 143=some 11:=by kernel_rfl
@[go_sem] theorem T.bytes143:HL.bytesT Tryz.prog 143=some 48:=by kernel_rfl
@[go_sem] theorem T.zero143:HL.zeroT Tryz.prog 143=some (.agg #[.int .u64 0,.int .u64 0,.int .u32 0,.int .u8 0,.int .u8 0,.int .u8 0,.int .u8 0,.nilFunc,.pointer none,.int .i32 0,.int .i32 0]):=by kernel_rfl
@[go_sem] theorem T.places143:HL.placesT Tryz.prog 143=some [(0,1),(1,1),(2,1),(3,1),(4,1),(5,1),(6,1),(7,1),(8,1),(9,1),(10,1)]:=by kernel_rfl
@[go_sem] theorem T.field143_0:HL.fieldT Tryz.prog 143 0=some (0,12):=by kernel_rfl
@[go_sem] theorem T.fieldO143_0:HL.fieldO Tryz.prog 143 0=some 0:=by kernel_rfl
@[go_sem] theorem T.field143_1:HL.fieldT Tryz.prog 143 1=some (1,12):=by kernel_rfl
@[go_sem] theorem T.fieldO143_1:HL.fieldO Tryz.prog 143 1=some 1:=by kernel_rfl
@[go_sem] theorem T.field143_2:HL.fieldT Tryz.prog 143 2=some (2,126):=by kernel_rfl
@[go_sem] theorem T.fieldO143_2:HL.fieldO Tryz.prog 143 2=some 2:=by kernel_rfl
@[go_sem] theorem T.field143_3:HL.fieldT Tryz.prog 143 3=some (3,138):=by kernel_rfl
@[go_sem] theorem T.fieldO143_3:HL.fieldO Tryz.prog 143 3=some 3:=by kernel_rfl
@[go_sem] theorem T.field143_4:HL.fieldT Tryz.prog 143 4=some (4,5):=by kernel_rfl
@[go_sem] theorem T.fieldO143_4:HL.fieldO Tryz.prog 143 4=some 4:=by kernel_rfl
@[go_sem] theorem T.field143_5:HL.fieldT Tryz.prog 143 5=some (5,5):=by kernel_rfl
@[go_sem] theorem T.fieldO143_5:HL.fieldO Tryz.prog 143 5=some 5:=by kernel_rfl
@[go_sem] theorem T.field143_6:HL.fieldT Tryz.prog 143 6=some (6,139):=by kernel_rfl
@[go_sem] theorem T.fieldO143_6:HL.fieldO Tryz.prog 143 6=some 6:=by kernel_rfl
@[go_sem] theorem T.field143_7:HL.fieldT Tryz.prog 143 7=some (7,140):=by kernel_rfl
@[go_sem] theorem T.fieldO143_7:HL.fieldO Tryz.prog 143 7=some 7:=by kernel_rfl
@[go_sem] theorem T.field143_8:HL.fieldT Tryz.prog 143 8=some (8,79):=by kernel_rfl
@[go_sem] theorem T.fieldO143_8:HL.fieldO Tryz.prog 143 8=some 8:=by kernel_rfl
@[go_sem] theorem T.field143_9:HL.fieldT Tryz.prog 143 9=some (9,141):=by kernel_rfl
@[go_sem] theorem T.fieldO143_9:HL.fieldO Tryz.prog 143 9=some 9:=by kernel_rfl
@[go_sem] theorem T.field143_10:HL.fieldT Tryz.prog 143 10=some (10,142):=by kernel_rfl
@[go_sem] theorem T.fieldO143_10:HL.fieldO Tryz.prog 143 10=some 10:=by kernel_rfl
@[go_sem] theorem T.agg144:HL.aggN Tryz.prog 144=some (some 11):=by kernel_rfl
@[go_sem] theorem T.size144:HL.sizeT Tryz.prog 144=some 11:=by kernel_rfl
@[go_sem] theorem T.bytes144:HL.bytesT Tryz.prog 144=some 48:=by kernel_rfl
@[go_sem] theorem T.zero144:HL.zeroT Tryz.prog 144=some (.agg #[.int .u64 0,.int .u64 0,.int .u32 0,.int .u8 0,.int .u8 0,.int .u8 0,.int .u8 0,.nilFunc,.pointer none,.int .i32 0,.int .i32 0]):=by kernel_rfl
@[go_sem] theorem T.places144:HL.placesT Tryz.prog 144=some [(0,1),(1,1),(2,1),(3,1),(4,1),(5,1),(6,1),(7,1),(8,1),(9,1),(10,1)]:=by kernel_rfl
@[go_sem] theorem T.field144_0:HL.fieldT Tryz.prog 144 0=some (0,12):=by kernel_rfl
@[go_sem] theorem T.fieldO144_0:HL.fieldO Tryz.prog 144 0=some 0:=by kernel_rfl
@[go_sem] theorem T.field144_1:HL.fieldT Tryz.prog 144 1=some (1,12):=by kernel_rfl
@[go_sem] theorem T.fieldO144_1:HL.fieldO Tryz.prog 144 1=some 1:=by kernel_rfl
@[go_sem] theorem T.field144_2:HL.fieldT Tryz.prog 144 2=some (2,126):=by kernel_rfl
@[go_sem] theorem T.fieldO144_2:HL.fieldO Tryz.prog 144 2=some 2:=by kernel_rfl
@[go_sem] theorem T.field144_3:HL.fieldT Tryz.prog 144 3=some (3,138):=by kernel_rfl
@[go_sem] theorem T.fieldO144_3:HL.fieldO Tryz.prog 144 3=some 3:=by kernel_rfl
@[go_sem] theorem T.field144_4:HL.fieldT Tryz.prog 144 4=some (4,5):=by kernel_rfl
@[go_sem] theorem T.fieldO144_4:HL.fieldO Tryz.prog 144 4=some 4:=by kernel_rfl
@[go_sem] theorem T.field144_5:HL.fieldT Tryz.prog 144 5=some (5,5):=by kernel_rfl
@[go_sem] theorem T.fieldO144_5:HL.fieldO Tryz.prog 144 5=some 5:=by kernel_rfl
@[go_sem] theorem T.field144_6:HL.fieldT Tryz.prog 144 6=some (6,139):=by kernel_rfl
@[go_sem] theorem T.fieldO144_6:HL.fieldO Tryz.prog 144 6=some 6:=by kernel_rfl
@[go_sem] theorem T.field144_7:HL.fieldT Tryz.prog 144 7=some (7,140):=by kernel_rfl
@[go_sem] theorem T.fieldO144_7:HL.fieldO Tryz.prog 144 7=some 7:=by kernel_rfl
@[go_sem] theorem T.field144_8:HL.fieldT Tryz.prog 144 8=some (8,79):=by kernel_rfl
@[go_sem] theorem T.fieldO144_8:HL.fieldO Tryz.prog 144 8=some 8:=by kernel_rfl
@[go_sem] theorem T.field144_9:HL.fieldT Tryz.prog 144 9=some (9,141):=by kernel_rfl
@[go_sem] theorem T.fieldO144_9:HL.fieldO Tryz.prog 144 9=some 9:=by kernel_rfl
@[go_sem] theorem T.field144_10:HL.fieldT Tryz.prog 144 10=some (10,142):=by kernel_rfl
@[go_sem] theorem T.fieldO144_10:HL.fieldO Tryz.prog 144 10=some 10:=by kernel_rfl
theorem T.el22:HL.ElT Tryz.prog 22 28 5 88 (.agg #[.int .i64 0,.slice none 0 0,.slice none 0 0,.slice none 0 0,.int .i64 0]):=⟨T.elem22,T.size28,T.bytes28,T.zero28⟩
@[go_sem] theorem T.bs22_0 {H:HL.Heap}:HL.buildSliceV Tryz.prog H 22 0 []=some (.slice (some ⟨H.size,0,none⟩) 0 0,H.push (.cells #[] 28)):=HL.bs_zero T.elem22 T.size28 T.zero28
theorem T.el25:HL.ElT Tryz.prog 25 9 1 16 (.string ⟨#[]⟩):=⟨T.elem25,T.size9,T.bytes9,T.zero9⟩
@[go_sem] theorem T.bs25_1 {H:HL.Heap} {n0:ByteArray}:HL.buildSliceV Tryz.prog H 25 1 [(0,.string n0)]=some (.slice (some ⟨H.size,0,none⟩) 1 1,H.push (.cells #[.string n0] 9)):=HL.bs_one T.elem25 T.size9 T.zero9 rfl
@[go_sem] theorem T.bs25_2 {H:HL.Heap} {n0:ByteArray} {n1:ByteArray}:HL.buildSliceV Tryz.prog H 25 2 [(0,.string n0),(1,.string n1)]=some (.slice (some ⟨H.size,0,none⟩) 2 2,H.push (.cells #[.string n0,.string n1] 9)):=HL.bs_two T.elem25 T.size9 T.zero9 rfl rfl
@[go_sem] theorem T.bs25_3 {H:HL.Heap} {n0:ByteArray} {n1:ByteArray} {n2:ByteArray}:HL.buildSliceV Tryz.prog H 25 3 [(0,.string n0),(1,.string n1),(2,.string n2)]=some (.slice (some ⟨H.size,0,none⟩) 3 3,H.push (.cells #[.string n0,.string n1,.string n2] 9)):=HL.bs_three T.elem25 T.size9 T.zero9 rfl rfl rfl
@[go_sem] theorem T.bs25_4 {H:HL.Heap} {n0:ByteArray} {n1:ByteArray} {n2:ByteArray} {n3:ByteArray}:HL.buildSliceV Tryz.prog H 25 4 [(0,.string n0),(1,.string n1),(2,.string n2),(3,.string n3)]=some (.slice (some ⟨H.size,0,none⟩) 4 4,H.push (.cells #[.string n0,.string n1,.string n2,.string n3] 9)):=HL.bs_four T.elem25 T.size9 T.zero9 rfl rfl rfl rfl
@[go_sem] theorem T.bs25_0 {H:HL.Heap}:HL.buildSliceV Tryz.prog H 25 0 []=some (.slice (some ⟨H.size,0,none⟩) 0 0,H.push (.cells #[] 9)):=HL.bs_zero T.elem25 T.size9 T.zero9
theorem T.el26:HL.ElT Tryz.prog 26 3 1 8 (.int .i64 0):=⟨T.elem26,T.size3,T.bytes3,T.zero3⟩
@[go_sem] theorem T.bs26_1 {H:HL.Heap} {k0:IntKind} {n0:Int}:HL.buildSliceV Tryz.prog H 26 1 [(0,.int k0 n0)]=some (.slice (some ⟨H.size,0,none⟩) 1 1,H.push (.cells #[.int k0 n0] 3)):=HL.bs_one T.elem26 T.size3 T.zero3 rfl
@[go_sem] theorem T.bs26_2 {H:HL.Heap} {k0:IntKind} {n0:Int} {k1:IntKind} {n1:Int}:HL.buildSliceV Tryz.prog H 26 2 [(0,.int k0 n0),(1,.int k1 n1)]=some (.slice (some ⟨H.size,0,none⟩) 2 2,H.push (.cells #[.int k0 n0,.int k1 n1] 3)):=HL.bs_two T.elem26 T.size3 T.zero3 rfl rfl
@[go_sem] theorem T.bs26_3 {H:HL.Heap} {k0:IntKind} {n0:Int} {k1:IntKind} {n1:Int} {k2:IntKind} {n2:Int}:HL.buildSliceV Tryz.prog H 26 3 [(0,.int k0 n0),(1,.int k1 n1),(2,.int k2 n2)]=some (.slice (some ⟨H.size,0,none⟩) 3 3,H.push (.cells #[.int k0 n0,.int k1 n1,.int k2 n2] 3)):=HL.bs_three T.elem26 T.size3 T.zero3 rfl rfl rfl
@[go_sem] theorem T.bs26_4 {H:HL.Heap} {k0:IntKind} {n0:Int} {k1:IntKind} {n1:Int} {k2:IntKind} {n2:Int} {k3:IntKind} {n3:Int}:HL.buildSliceV Tryz.prog H 26 4 [(0,.int k0 n0),(1,.int k1 n1),(2,.int k2 n2),(3,.int k3 n3)]=some (.slice (some ⟨H.size,0,none⟩) 4 4,H.push (.cells #[.int k0 n0,.int k1 n1,.int k2 n2,.int k3 n3] 3)):=HL.bs_four T.elem26 T.size3 T.zero3 rfl rfl rfl rfl
@[go_sem] theorem T.bs26_0 {H:HL.Heap}:HL.buildSliceV Tryz.prog H 26 0 []=some (.slice (some ⟨H.size,0,none⟩) 0 0,H.push (.cells #[] 3)):=HL.bs_zero T.elem26 T.size3 T.zero3
theorem T.el45:HL.ElT Tryz.prog 45 5 1 1 (.int .u8 0):=⟨T.elem45,T.size5,T.bytes5,T.zero5⟩
@[go_sem] theorem T.bs45_1 {H:HL.Heap} {k0:IntKind} {n0:Int}:HL.buildSliceV Tryz.prog H 45 1 [(0,.int k0 n0)]=some (.slice (some ⟨H.size,0,none⟩) 1 1,H.push (.cells #[.int k0 n0] 5)):=HL.bs_one T.elem45 T.size5 T.zero5 rfl
@[go_sem] theorem T.bs45_2 {H:HL.Heap} {k0:IntKind} {n0:Int} {k1:IntKind} {n1:Int}:HL.buildSliceV Tryz.prog H 45 2 [(0,.int k0 n0),(1,.int k1 n1)]=some (.slice (some ⟨H.size,0,none⟩) 2 2,H.push (.cells #[.int k0 n0,.int k1 n1] 5)):=HL.bs_two T.elem45 T.size5 T.zero5 rfl rfl
@[go_sem] theorem T.bs45_3 {H:HL.Heap} {k0:IntKind} {n0:Int} {k1:IntKind} {n1:Int} {k2:IntKind} {n2:Int}:HL.buildSliceV Tryz.prog H 45 3 [(0,.int k0 n0),(1,.int k1 n1),(2,.int k2 n2)]=some (.slice (some ⟨H.size,0,none⟩) 3 3,H.push (.cells #[.int k0 n0,.int k1 n1,.int k2 n2] 5)):=HL.bs_three T.elem45 T.size5 T.zero5 rfl rfl rfl
@[go_sem] theorem T.bs45_4 {H:HL.Heap} {k0:IntKind} {n0:Int} {k1:IntKind} {n1:Int} {k2:IntKind} {n2:Int} {k3:IntKind} {n3:Int}:HL.buildSliceV Tryz.prog H 45 4 [(0,.int k0 n0),(1,.int k1 n1),(2,.int k2 n2),(3,.int k3 n3)]=some (.slice (some ⟨H.size,0,none⟩) 4 4,H.push (.cells #[.int k0 n0,.int k1 n1,.int k2 n2,.int k3 n3] 5)):=HL.bs_four T.elem45 T.size5 T.zero5 rfl rfl rfl rfl
@[go_sem] theorem T.bs45_0 {H:HL.Heap}:HL.buildSliceV Tryz.prog H 45 0 []=some (.slice (some ⟨H.size,0,none⟩) 0 0,H.push (.cells #[] 5)):=HL.bs_zero T.elem45 T.size5 T.zero5
theorem T.el53:HL.ElT Tryz.prog 53 87 3 32 (.agg #[.int .i64 0,.string ⟨#[]⟩,.int .i64 0]):=⟨T.elem53,T.size87,T.bytes87,T.zero87⟩
@[go_sem] theorem T.bs53_0 {H:HL.Heap}:HL.buildSliceV Tryz.prog H 53 0 []=some (.slice (some ⟨H.size,0,none⟩) 0 0,H.push (.cells #[] 87)):=HL.bs_zero T.elem53 T.size87 T.zero87
theorem T.el59:HL.ElT Tryz.prog 59 61 6 112 (.agg #[.int .i64 0,.slice none 0 0,.slice none 0 0,.slice none 0 0,.int .i64 0,.slice none 0 0]):=⟨T.elem59,T.size61,T.bytes61,T.zero61⟩
@[go_sem] theorem T.bs59_0 {H:HL.Heap}:HL.buildSliceV Tryz.prog H 59 0 []=some (.slice (some ⟨H.size,0,none⟩) 0 0,H.push (.cells #[] 61)):=HL.bs_zero T.elem59 T.size61 T.zero61
theorem T.el113:HL.ElT Tryz.prog 113 102 2 16 (.agg #[.int .i64 0,.int .i64 0]):=⟨T.elem113,T.size102,T.bytes102,T.zero102⟩
@[go_sem] theorem T.bs113_0 {H:HL.Heap}:HL.buildSliceV Tryz.prog H 113 0 []=some (.slice (some ⟨H.size,0,none⟩) 0 0,H.push (.cells #[] 102)):=HL.bs_zero T.elem113 T.size102 T.zero102
@[go_sem] theorem T.pe15 {H:HL.Heap} {xo yo:Operand} {a:Addr}:HL.binV Tryz.prog (HL.full H) .eql 15 xo yo (.pointer (some a)) (.pointer none)=some (.bool false):=HL.bin_ptr_eql Tryz.underlying15
@[go_sem] theorem T.pn15 {H:HL.Heap} {xo yo:Operand} {a:Addr}:HL.binV Tryz.prog (HL.full H) .neq 15 xo yo (.pointer (some a)) (.pointer none)=some (.bool true):=HL.bin_ptr_neq Tryz.underlying15
@[go_sem] theorem T.ne15 {H:HL.Heap} {xo yo:Operand}:HL.binV Tryz.prog (HL.full H) .eql 15 xo yo (.pointer none) (.pointer none)=some (.bool true):=HL.bin_nil_eql Tryz.underlying15
@[go_sem] theorem T.nn15 {H:HL.Heap} {xo yo:Operand}:HL.binV Tryz.prog (HL.full H) .neq 15 xo yo (.pointer none) (.pointer none)=some (.bool false):=HL.bin_nil_neq Tryz.underlying15
@[go_sem] theorem T.pe16 {H:HL.Heap} {xo yo:Operand} {a:Addr}:HL.binV Tryz.prog (HL.full H) .eql 16 xo yo (.pointer (some a)) (.pointer none)=some (.bool false):=HL.bin_ptr_eql Tryz.underlying16
@[go_sem] theorem T.pn16 {H:HL.Heap} {xo yo:Operand} {a:Addr}:HL.binV Tryz.prog (HL.full H) .neq 16 xo yo (.pointer (some a)) (.pointer none)=some (.bool true):=HL.bin_ptr_neq Tryz.underlying16
@[go_sem] theorem T.ne16 {H:HL.Heap} {xo yo:Operand}:HL.binV Tryz.prog (HL.full H) .eql 16 xo yo (.pointer none) (.pointer none)=some (.bool true):=HL.bin_nil_eql Tryz.underlying16
@[go_sem] theorem T.nn16 {H:HL.Heap} {xo yo:Operand}:HL.binV Tryz.prog (HL.full H) .neq 16 xo yo (.pointer none) (.pointer none)=some (.bool false):=HL.bin_nil_neq Tryz.underlying16
@[go_sem] theorem T.pe17 {H:HL.Heap} {xo yo:Operand} {a:Addr}:HL.binV Tryz.prog (HL.full H) .eql 17 xo yo (.pointer (some a)) (.pointer none)=some (.bool false):=HL.bin_ptr_eql Tryz.underlying17
@[go_sem] theorem T.pn17 {H:HL.Heap} {xo yo:Operand} {a:Addr}:HL.binV Tryz.prog (HL.full H) .neq 17 xo yo (.pointer (some a)) (.pointer none)=some (.bool true):=HL.bin_ptr_neq Tryz.underlying17
@[go_sem] theorem T.ne17 {H:HL.Heap} {xo yo:Operand}:HL.binV Tryz.prog (HL.full H) .eql 17 xo yo (.pointer none) (.pointer none)=some (.bool true):=HL.bin_nil_eql Tryz.underlying17
@[go_sem] theorem T.nn17 {H:HL.Heap} {xo yo:Operand}:HL.binV Tryz.prog (HL.full H) .neq 17 xo yo (.pointer none) (.pointer none)=some (.bool false):=HL.bin_nil_neq Tryz.underlying17
@[go_sem] theorem T.pe44 {H:HL.Heap} {xo yo:Operand} {a:Addr}:HL.binV Tryz.prog (HL.full H) .eql 44 xo yo (.pointer (some a)) (.pointer none)=some (.bool false):=HL.bin_ptr_eql Tryz.underlying44
@[go_sem] theorem T.pn44 {H:HL.Heap} {xo yo:Operand} {a:Addr}:HL.binV Tryz.prog (HL.full H) .neq 44 xo yo (.pointer (some a)) (.pointer none)=some (.bool true):=HL.bin_ptr_neq Tryz.underlying44
@[go_sem] theorem T.ne44 {H:HL.Heap} {xo yo:Operand}:HL.binV Tryz.prog (HL.full H) .eql 44 xo yo (.pointer none) (.pointer none)=some (.bool true):=HL.bin_nil_eql Tryz.underlying44
@[go_sem] theorem T.nn44 {H:HL.Heap} {xo yo:Operand}:HL.binV Tryz.prog (HL.full H) .neq 44 xo yo (.pointer none) (.pointer none)=some (.bool false):=HL.bin_nil_neq Tryz.underlying44
@[go_sem] theorem T.pe56 {H:HL.Heap} {xo yo:Operand} {a:Addr}:HL.binV Tryz.prog (HL.full H) .eql 56 xo yo (.pointer (some a)) (.pointer none)=some (.bool false):=HL.bin_ptr_eql Tryz.underlying56
@[go_sem] theorem T.pn56 {H:HL.Heap} {xo yo:Operand} {a:Addr}:HL.binV Tryz.prog (HL.full H) .neq 56 xo yo (.pointer (some a)) (.pointer none)=some (.bool true):=HL.bin_ptr_neq Tryz.underlying56
@[go_sem] theorem T.ne56 {H:HL.Heap} {xo yo:Operand}:HL.binV Tryz.prog (HL.full H) .eql 56 xo yo (.pointer none) (.pointer none)=some (.bool true):=HL.bin_nil_eql Tryz.underlying56
@[go_sem] theorem T.nn56 {H:HL.Heap} {xo yo:Operand}:HL.binV Tryz.prog (HL.full H) .neq 56 xo yo (.pointer none) (.pointer none)=some (.bool false):=HL.bin_nil_neq Tryz.underlying56
@[go_sem] theorem T.pe70 {H:HL.Heap} {xo yo:Operand} {a:Addr}:HL.binV Tryz.prog (HL.full H) .eql 70 xo yo (.pointer (some a)) (.pointer none)=some (.bool false):=HL.bin_ptr_eql Tryz.underlying70
@[go_sem] theorem T.pn70 {H:HL.Heap} {xo yo:Operand} {a:Addr}:HL.binV Tryz.prog (HL.full H) .neq 70 xo yo (.pointer (some a)) (.pointer none)=some (.bool true):=HL.bin_ptr_neq Tryz.underlying70
@[go_sem] theorem T.ne70 {H:HL.Heap} {xo yo:Operand}:HL.binV Tryz.prog (HL.full H) .eql 70 xo yo (.pointer none) (.pointer none)=some (.bool true):=HL.bin_nil_eql Tryz.underlying70
@[go_sem] theorem T.nn70 {H:HL.Heap} {xo yo:Operand}:HL.binV Tryz.prog (HL.full H) .neq 70 xo yo (.pointer none) (.pointer none)=some (.bool false):=HL.bin_nil_neq Tryz.underlying70
@[go_sem] theorem T.pe79 {H:HL.Heap} {xo yo:Operand} {a:Addr}:HL.binV Tryz.prog (HL.full H) .eql 79 xo yo (.pointer (some a)) (.pointer none)=some (.bool false):=HL.bin_ptr_eql Tryz.underlying79
@[go_sem] theorem T.pn79 {H:HL.Heap} {xo yo:Operand} {a:Addr}:HL.binV Tryz.prog (HL.full H) .neq 79 xo yo (.pointer (some a)) (.pointer none)=some (.bool true):=HL.bin_ptr_neq Tryz.underlying79
@[go_sem] theorem T.ne79 {H:HL.Heap} {xo yo:Operand}:HL.binV Tryz.prog (HL.full H) .eql 79 xo yo (.pointer none) (.pointer none)=some (.bool true):=HL.bin_nil_eql Tryz.underlying79
@[go_sem] theorem T.nn79 {H:HL.Heap} {xo yo:Operand}:HL.binV Tryz.prog (HL.full H) .neq 79 xo yo (.pointer none) (.pointer none)=some (.bool false):=HL.bin_nil_neq Tryz.underlying79
@[go_sem] theorem T.pe108 {H:HL.Heap} {xo yo:Operand} {a:Addr}:HL.binV Tryz.prog (HL.full H) .eql 108 xo yo (.pointer (some a)) (.pointer none)=some (.bool false):=HL.bin_ptr_eql Tryz.underlying108
@[go_sem] theorem T.pn108 {H:HL.Heap} {xo yo:Operand} {a:Addr}:HL.binV Tryz.prog (HL.full H) .neq 108 xo yo (.pointer (some a)) (.pointer none)=some (.bool true):=HL.bin_ptr_neq Tryz.underlying108
@[go_sem] theorem T.ne108 {H:HL.Heap} {xo yo:Operand}:HL.binV Tryz.prog (HL.full H) .eql 108 xo yo (.pointer none) (.pointer none)=some (.bool true):=HL.bin_nil_eql Tryz.underlying108
@[go_sem] theorem T.nn108 {H:HL.Heap} {xo yo:Operand}:HL.binV Tryz.prog (HL.full H) .neq 108 xo yo (.pointer none) (.pointer none)=some (.bool false):=HL.bin_nil_neq Tryz.underlying108
@[go_sem] theorem T.be4 {H:HL.Heap} {xo yo:Operand} {x y:Bool}:HL.binV Tryz.prog (HL.full H) .eql 4 xo yo (.bool x) (.bool y)=some (.bool (x == y)):=HL.bin_bool_eql Tryz.underlying4
@[go_sem] theorem T.bn4 {H:HL.Heap} {xo yo:Operand} {x y:Bool}:HL.binV Tryz.prog (HL.full H) .neq 4 xo yo (.bool x) (.bool y)=some (.bool (!(x == y))):=HL.bin_bool_neq Tryz.underlying4
@[go_sem] theorem T.se33 {H:HL.Heap} {xo yo:Operand} {a0 b0:Int} {a1 b1:Int}:HL.binV Tryz.prog (HL.full H) .eql 33 xo yo (.agg #[.int .i64 a0,.int .i64 a1]) (.agg #[.int .i64 b0,.int .i64 b1])=some (.bool ((decide (a0=b0∧a1=b1∧True)))):=(HL.bin_struct (xs:=[.int .i64 a0,.int .i64 a1]) (ys:=[.int .i64 b0,.int .i64 b1]) Tryz.underlying33 (by kernel_rfl) (by kernel_rfl) (HL.eqF_int (by decide) Tryz.underlying31 rfl rfl (HL.eqF_int (by decide) Tryz.underlying3 rfl rfl HL.eqF_nil))).1
@[go_sem] theorem T.sn33 {H:HL.Heap} {xo yo:Operand} {a0 b0:Int} {a1 b1:Int}:HL.binV Tryz.prog (HL.full H) .neq 33 xo yo (.agg #[.int .i64 a0,.int .i64 a1]) (.agg #[.int .i64 b0,.int .i64 b1])=some (.bool (!(decide (a0=b0∧a1=b1∧True)))):=(HL.bin_struct (xs:=[.int .i64 a0,.int .i64 a1]) (ys:=[.int .i64 b0,.int .i64 b1]) Tryz.underlying33 (by kernel_rfl) (by kernel_rfl) (HL.eqF_int (by decide) Tryz.underlying31 rfl rfl (HL.eqF_int (by decide) Tryz.underlying3 rfl rfl HL.eqF_nil))).2
@[go_sem] theorem T.se87 {H:HL.Heap} {xo yo:Operand} {a0 b0:Int} {a1 b1:ByteArray} {a2 b2:Int}:HL.binV Tryz.prog (HL.full H) .eql 87 xo yo (.agg #[.int .i64 a0,.string a1,.int .i64 a2]) (.agg #[.int .i64 b0,.string b1,.int .i64 b2])=some (.bool ((decide (a0=b0∧a1=b1∧a2=b2∧True)))):=(HL.bin_struct (xs:=[.int .i64 a0,.string a1,.int .i64 a2]) (ys:=[.int .i64 b0,.string b1,.int .i64 b2]) Tryz.underlying87 (by kernel_rfl) (by kernel_rfl) (HL.eqF_int (by decide) Tryz.underlying3 rfl rfl (HL.eqF_str (by decide) Tryz.underlying9 rfl rfl (HL.eqF_int (by decide) Tryz.underlying3 rfl rfl HL.eqF_nil)))).1
@[go_sem] theorem T.sn87 {H:HL.Heap} {xo yo:Operand} {a0 b0:Int} {a1 b1:ByteArray} {a2 b2:Int}:HL.binV Tryz.prog (HL.full H) .neq 87 xo yo (.agg #[.int .i64 a0,.string a1,.int .i64 a2]) (.agg #[.int .i64 b0,.string b1,.int .i64 b2])=some (.bool (!(decide (a0=b0∧a1=b1∧a2=b2∧True)))):=(HL.bin_struct (xs:=[.int .i64 a0,.string a1,.int .i64 a2]) (ys:=[.int .i64 b0,.string b1,.int .i64 b2]) Tryz.underlying87 (by kernel_rfl) (by kernel_rfl) (HL.eqF_int (by decide) Tryz.underlying3 rfl rfl (HL.eqF_str (by decide) Tryz.underlying9 rfl rfl (HL.eqF_int (by decide) Tryz.underlying3 rfl rfl HL.eqF_nil)))).2
@[go_sem] theorem T.cv2_2 {V:HL.HV} {k:IntKind} {n:Int}:HL.convV Tryz.prog V 2 2 (.int k n)=some (.int .i64 (IntKind.i64.wrap n)):=HL.conv_int Tryz.underlying2 Tryz.underlying2
@[go_sem] theorem T.cv2_3 {V:HL.HV} {k:IntKind} {n:Int}:HL.convV Tryz.prog V 2 3 (.int k n)=some (.int .i64 (IntKind.i64.wrap n)):=HL.conv_int Tryz.underlying2 Tryz.underlying3
@[go_sem] theorem T.cv2_5 {V:HL.HV} {k:IntKind} {n:Int}:HL.convV Tryz.prog V 2 5 (.int k n)=some (.int .u8 (IntKind.u8.wrap n)):=HL.conv_int Tryz.underlying2 Tryz.underlying5
@[go_sem] theorem T.cv2_6 {V:HL.HV} {k:IntKind} {n:Int}:HL.convV Tryz.prog V 2 6 (.int k n)=some (.int .u8 (IntKind.u8.wrap n)):=HL.conv_int Tryz.underlying2 Tryz.underlying6
@[go_sem] theorem T.cv2_12 {V:HL.HV} {k:IntKind} {n:Int}:HL.convV Tryz.prog V 2 12 (.int k n)=some (.int .u64 (IntKind.u64.wrap n)):=HL.conv_int Tryz.underlying2 Tryz.underlying12
@[go_sem] theorem T.cv2_21 {V:HL.HV} {k:IntKind} {n:Int}:HL.convV Tryz.prog V 2 21 (.int k n)=some (.int .i32 (IntKind.i32.wrap n)):=HL.conv_int Tryz.underlying2 Tryz.underlying21
@[go_sem] theorem T.cv2_31 {V:HL.HV} {k:IntKind} {n:Int}:HL.convV Tryz.prog V 2 31 (.int k n)=some (.int .i64 (IntKind.i64.wrap n)):=HL.conv_int Tryz.underlying2 Tryz.underlying31
@[go_sem] theorem T.cv2_116 {V:HL.HV} {k:IntKind} {n:Int}:HL.convV Tryz.prog V 2 116 (.int k n)=some (.int .u64 (IntKind.u64.wrap n)):=HL.conv_int Tryz.underlying2 Tryz.underlying116
@[go_sem] theorem T.cv2_126 {V:HL.HV} {k:IntKind} {n:Int}:HL.convV Tryz.prog V 2 126 (.int k n)=some (.int .u32 (IntKind.u32.wrap n)):=HL.conv_int Tryz.underlying2 Tryz.underlying126
@[go_sem] theorem T.cv2_128 {V:HL.HV} {k:IntKind} {n:Int}:HL.convV Tryz.prog V 2 128 (.int k n)=some (.int .u64 (IntKind.u64.wrap n)):=HL.conv_int Tryz.underlying2 Tryz.underlying128
@[go_sem] theorem T.cv2_138 {V:HL.HV} {k:IntKind} {n:Int}:HL.convV Tryz.prog V 2 138 (.int k n)=some (.int .u8 (IntKind.u8.wrap n)):=HL.conv_int Tryz.underlying2 Tryz.underlying138
@[go_sem] theorem T.cv2_139 {V:HL.HV} {k:IntKind} {n:Int}:HL.convV Tryz.prog V 2 139 (.int k n)=some (.int .u8 (IntKind.u8.wrap n)):=HL.conv_int Tryz.underlying2 Tryz.underlying139
@[go_sem] theorem T.cv2_141 {V:HL.HV} {k:IntKind} {n:Int}:HL.convV Tryz.prog V 2 141 (.int k n)=some (.int .i32 (IntKind.i32.wrap n)):=HL.conv_int Tryz.underlying2 Tryz.underlying141
@[go_sem] theorem T.cv2_142 {V:HL.HV} {k:IntKind} {n:Int}:HL.convV Tryz.prog V 2 142 (.int k n)=some (.int .i32 (IntKind.i32.wrap n)):=HL.conv_int Tryz.underlying2 Tryz.underlying142
@[go_sem] theorem T.cv3_2 {V:HL.HV} {k:IntKind} {n:Int}:HL.convV Tryz.prog V 3 2 (.int k n)=some (.int .i64 (IntKind.i64.wrap n)):=HL.conv_int Tryz.underlying3 Tryz.underlying2
@[go_sem] theorem T.cv3_3 {V:HL.HV} {k:IntKind} {n:Int}:HL.convV Tryz.prog V 3 3 (.int k n)=some (.int .i64 (IntKind.i64.wrap n)):=HL.conv_int Tryz.underlying3 Tryz.underlying3
@[go_sem] theorem T.cv3_5 {V:HL.HV} {k:IntKind} {n:Int}:HL.convV Tryz.prog V 3 5 (.int k n)=some (.int .u8 (IntKind.u8.wrap n)):=HL.conv_int Tryz.underlying3 Tryz.underlying5
@[go_sem] theorem T.cv3_6 {V:HL.HV} {k:IntKind} {n:Int}:HL.convV Tryz.prog V 3 6 (.int k n)=some (.int .u8 (IntKind.u8.wrap n)):=HL.conv_int Tryz.underlying3 Tryz.underlying6
@[go_sem] theorem T.cv3_12 {V:HL.HV} {k:IntKind} {n:Int}:HL.convV Tryz.prog V 3 12 (.int k n)=some (.int .u64 (IntKind.u64.wrap n)):=HL.conv_int Tryz.underlying3 Tryz.underlying12
@[go_sem] theorem T.cv3_21 {V:HL.HV} {k:IntKind} {n:Int}:HL.convV Tryz.prog V 3 21 (.int k n)=some (.int .i32 (IntKind.i32.wrap n)):=HL.conv_int Tryz.underlying3 Tryz.underlying21
@[go_sem] theorem T.cv3_31 {V:HL.HV} {k:IntKind} {n:Int}:HL.convV Tryz.prog V 3 31 (.int k n)=some (.int .i64 (IntKind.i64.wrap n)):=HL.conv_int Tryz.underlying3 Tryz.underlying31
@[go_sem] theorem T.cv3_116 {V:HL.HV} {k:IntKind} {n:Int}:HL.convV Tryz.prog V 3 116 (.int k n)=some (.int .u64 (IntKind.u64.wrap n)):=HL.conv_int Tryz.underlying3 Tryz.underlying116
@[go_sem] theorem T.cv3_126 {V:HL.HV} {k:IntKind} {n:Int}:HL.convV Tryz.prog V 3 126 (.int k n)=some (.int .u32 (IntKind.u32.wrap n)):=HL.conv_int Tryz.underlying3 Tryz.underlying126
@[go_sem] theorem T.cv3_128 {V:HL.HV} {k:IntKind} {n:Int}:HL.convV Tryz.prog V 3 128 (.int k n)=some (.int .u64 (IntKind.u64.wrap n)):=HL.conv_int Tryz.underlying3 Tryz.underlying128
@[go_sem] theorem T.cv3_138 {V:HL.HV} {k:IntKind} {n:Int}:HL.convV Tryz.prog V 3 138 (.int k n)=some (.int .u8 (IntKind.u8.wrap n)):=HL.conv_int Tryz.underlying3 Tryz.underlying138
@[go_sem] theorem T.cv3_139 {V:HL.HV} {k:IntKind} {n:Int}:HL.convV Tryz.prog V 3 139 (.int k n)=some (.int .u8 (IntKind.u8.wrap n)):=HL.conv_int Tryz.underlying3 Tryz.underlying139
@[go_sem] theorem T.cv3_141 {V:HL.HV} {k:IntKind} {n:Int}:HL.convV Tryz.prog V 3 141 (.int k n)=some (.int .i32 (IntKind.i32.wrap n)):=HL.conv_int Tryz.underlying3 Tryz.underlying141
@[go_sem] theorem T.cv3_142 {V:HL.HV} {k:IntKind} {n:Int}:HL.convV Tryz.prog V 3 142 (.int k n)=some (.int .i32 (IntKind.i32.wrap n)):=HL.conv_int Tryz.underlying3 Tryz.underlying142
@[go_sem] theorem T.cv5_2 {V:HL.HV} {k:IntKind} {n:Int}:HL.convV Tryz.prog V 5 2 (.int k n)=some (.int .i64 (IntKind.i64.wrap n)):=HL.conv_int Tryz.underlying5 Tryz.underlying2
@[go_sem] theorem T.cv5_3 {V:HL.HV} {k:IntKind} {n:Int}:HL.convV Tryz.prog V 5 3 (.int k n)=some (.int .i64 (IntKind.i64.wrap n)):=HL.conv_int Tryz.underlying5 Tryz.underlying3
@[go_sem] theorem T.cv5_5 {V:HL.HV} {k:IntKind} {n:Int}:HL.convV Tryz.prog V 5 5 (.int k n)=some (.int .u8 (IntKind.u8.wrap n)):=HL.conv_int Tryz.underlying5 Tryz.underlying5
@[go_sem] theorem T.cv5_6 {V:HL.HV} {k:IntKind} {n:Int}:HL.convV Tryz.prog V 5 6 (.int k n)=some (.int .u8 (IntKind.u8.wrap n)):=HL.conv_int Tryz.underlying5 Tryz.underlying6
@[go_sem] theorem T.cv5_12 {V:HL.HV} {k:IntKind} {n:Int}:HL.convV Tryz.prog V 5 12 (.int k n)=some (.int .u64 (IntKind.u64.wrap n)):=HL.conv_int Tryz.underlying5 Tryz.underlying12
@[go_sem] theorem T.cv5_21 {V:HL.HV} {k:IntKind} {n:Int}:HL.convV Tryz.prog V 5 21 (.int k n)=some (.int .i32 (IntKind.i32.wrap n)):=HL.conv_int Tryz.underlying5 Tryz.underlying21
@[go_sem] theorem T.cv5_31 {V:HL.HV} {k:IntKind} {n:Int}:HL.convV Tryz.prog V 5 31 (.int k n)=some (.int .i64 (IntKind.i64.wrap n)):=HL.conv_int Tryz.underlying5 Tryz.underlying31
@[go_sem] theorem T.cv5_116 {V:HL.HV} {k:IntKind} {n:Int}:HL.convV Tryz.prog V 5 116 (.int k n)=some (.int .u64 (IntKind.u64.wrap n)):=HL.conv_int Tryz.underlying5 Tryz.underlying116
@[go_sem] theorem T.cv5_126 {V:HL.HV} {k:IntKind} {n:Int}:HL.convV Tryz.prog V 5 126 (.int k n)=some (.int .u32 (IntKind.u32.wrap n)):=HL.conv_int Tryz.underlying5 Tryz.underlying126
@[go_sem] theorem T.cv5_128 {V:HL.HV} {k:IntKind} {n:Int}:HL.convV Tryz.prog V 5 128 (.int k n)=some (.int .u64 (IntKind.u64.wrap n)):=HL.conv_int Tryz.underlying5 Tryz.underlying128
@[go_sem] theorem T.cv5_138 {V:HL.HV} {k:IntKind} {n:Int}:HL.convV Tryz.prog V 5 138 (.int k n)=some (.int .u8 (IntKind.u8.wrap n)):=HL.conv_int Tryz.underlying5 Tryz.underlying138
@[go_sem] theorem T.cv5_139 {V:HL.HV} {k:IntKind} {n:Int}:HL.convV Tryz.prog V 5 139 (.int k n)=some (.int .u8 (IntKind.u8.wrap n)):=HL.conv_int Tryz.underlying5 Tryz.underlying139
@[go_sem] theorem T.cv5_141 {V:HL.HV} {k:IntKind} {n:Int}:HL.convV Tryz.prog V 5 141 (.int k n)=some (.int .i32 (IntKind.i32.wrap n)):=HL.conv_int Tryz.underlying5 Tryz.underlying141
@[go_sem] theorem T.cv5_142 {V:HL.HV} {k:IntKind} {n:Int}:HL.convV Tryz.prog V 5 142 (.int k n)=some (.int .i32 (IntKind.i32.wrap n)):=HL.conv_int Tryz.underlying5 Tryz.underlying142
@[go_sem] theorem T.cv6_2 {V:HL.HV} {k:IntKind} {n:Int}:HL.convV Tryz.prog V 6 2 (.int k n)=some (.int .i64 (IntKind.i64.wrap n)):=HL.conv_int Tryz.underlying6 Tryz.underlying2
@[go_sem] theorem T.cv6_3 {V:HL.HV} {k:IntKind} {n:Int}:HL.convV Tryz.prog V 6 3 (.int k n)=some (.int .i64 (IntKind.i64.wrap n)):=HL.conv_int Tryz.underlying6 Tryz.underlying3
@[go_sem] theorem T.cv6_5 {V:HL.HV} {k:IntKind} {n:Int}:HL.convV Tryz.prog V 6 5 (.int k n)=some (.int .u8 (IntKind.u8.wrap n)):=HL.conv_int Tryz.underlying6 Tryz.underlying5
@[go_sem] theorem T.cv6_6 {V:HL.HV} {k:IntKind} {n:Int}:HL.convV Tryz.prog V 6 6 (.int k n)=some (.int .u8 (IntKind.u8.wrap n)):=HL.conv_int Tryz.underlying6 Tryz.underlying6
@[go_sem] theorem T.cv6_12 {V:HL.HV} {k:IntKind} {n:Int}:HL.convV Tryz.prog V 6 12 (.int k n)=some (.int .u64 (IntKind.u64.wrap n)):=HL.conv_int Tryz.underlying6 Tryz.underlying12
@[go_sem] theorem T.cv6_21 {V:HL.HV} {k:IntKind} {n:Int}:HL.convV Tryz.prog V 6 21 (.int k n)=some (.int .i32 (IntKind.i32.wrap n)):=HL.conv_int Tryz.underlying6 Tryz.underlying21
@[go_sem] theorem T.cv6_31 {V:HL.HV} {k:IntKind} {n:Int}:HL.convV Tryz.prog V 6 31 (.int k n)=some (.int .i64 (IntKind.i64.wrap n)):=HL.conv_int Tryz.underlying6 Tryz.underlying31
@[go_sem] theorem T.cv6_116 {V:HL.HV} {k:IntKind} {n:Int}:HL.convV Tryz.prog V 6 116 (.int k n)=some (.int .u64 (IntKind.u64.wrap n)):=HL.conv_int Tryz.underlying6 Tryz.underlying116
@[go_sem] theorem T.cv6_126 {V:HL.HV} {k:IntKind} {n:Int}:HL.convV Tryz.prog V 6 126 (.int k n)=some (.int .u32 (IntKind.u32.wrap n)):=HL.conv_int Tryz.underlying6 Tryz.underlying126
@[go_sem] theorem T.cv6_128 {V:HL.HV} {k:IntKind} {n:Int}:HL.convV Tryz.prog V 6 128 (.int k n)=some (.int .u64 (IntKind.u64.wrap n)):=HL.conv_int Tryz.underlying6 Tryz.underlying128
@[go_sem] theorem T.cv6_138 {V:HL.HV} {k:IntKind} {n:Int}:HL.convV Tryz.prog V 6 138 (.int k n)=some (.int .u8 (IntKind.u8.wrap n)):=HL.conv_int Tryz.underlying6 Tryz.underlying138
@[go_sem] theorem T.cv6_139 {V:HL.HV} {k:IntKind} {n:Int}:HL.convV Tryz.prog V 6 139 (.int k n)=some (.int .u8 (IntKind.u8.wrap n)):=HL.conv_int Tryz.underlying6 Tryz.underlying139
@[go_sem] theorem T.cv6_141 {V:HL.HV} {k:IntKind} {n:Int}:HL.convV Tryz.prog V 6 141 (.int k n)=some (.int .i32 (IntKind.i32.wrap n)):=HL.conv_int Tryz.underlying6 Tryz.underlying141
@[go_sem] theorem T.cv6_142 {V:HL.HV} {k:IntKind} {n:Int}:HL.convV Tryz.prog V 6 142 (.int k n)=some (.int .i32 (IntKind.i32.wrap n)):=HL.conv_int Tryz.underlying6 Tryz.underlying142
@[go_sem] theorem T.cv12_2 {V:HL.HV} {k:IntKind} {n:Int}:HL.convV Tryz.prog V 12 2 (.int k n)=some (.int .i64 (IntKind.i64.wrap n)):=HL.conv_int Tryz.underlying12 Tryz.underlying2
@[go_sem] theorem T.cv12_3 {V:HL.HV} {k:IntKind} {n:Int}:HL.convV Tryz.prog V 12 3 (.int k n)=some (.int .i64 (IntKind.i64.wrap n)):=HL.conv_int Tryz.underlying12 Tryz.underlying3
@[go_sem] theorem T.cv12_5 {V:HL.HV} {k:IntKind} {n:Int}:HL.convV Tryz.prog V 12 5 (.int k n)=some (.int .u8 (IntKind.u8.wrap n)):=HL.conv_int Tryz.underlying12 Tryz.underlying5
@[go_sem] theorem T.cv12_6 {V:HL.HV} {k:IntKind} {n:Int}:HL.convV Tryz.prog V 12 6 (.int k n)=some (.int .u8 (IntKind.u8.wrap n)):=HL.conv_int Tryz.underlying12 Tryz.underlying6
@[go_sem] theorem T.cv12_12 {V:HL.HV} {k:IntKind} {n:Int}:HL.convV Tryz.prog V 12 12 (.int k n)=some (.int .u64 (IntKind.u64.wrap n)):=HL.conv_int Tryz.underlying12 Tryz.underlying12
@[go_sem] theorem T.cv12_21 {V:HL.HV} {k:IntKind} {n:Int}:HL.convV Tryz.prog V 12 21 (.int k n)=some (.int .i32 (IntKind.i32.wrap n)):=HL.conv_int Tryz.underlying12 Tryz.underlying21
@[go_sem] theorem T.cv12_31 {V:HL.HV} {k:IntKind} {n:Int}:HL.convV Tryz.prog V 12 31 (.int k n)=some (.int .i64 (IntKind.i64.wrap n)):=HL.conv_int Tryz.underlying12 Tryz.underlying31
@[go_sem] theorem T.cv12_116 {V:HL.HV} {k:IntKind} {n:Int}:HL.convV Tryz.prog V 12 116 (.int k n)=some (.int .u64 (IntKind.u64.wrap n)):=HL.conv_int Tryz.underlying12 Tryz.underlying116
@[go_sem] theorem T.cv12_126 {V:HL.HV} {k:IntKind} {n:Int}:HL.convV Tryz.prog V 12 126 (.int k n)=some (.int .u32 (IntKind.u32.wrap n)):=HL.conv_int Tryz.underlying12 Tryz.underlying126
@[go_sem] theorem T.cv12_128 {V:HL.HV} {k:IntKind} {n:Int}:HL.convV Tryz.prog V 12 128 (.int k n)=some (.int .u64 (IntKind.u64.wrap n)):=HL.conv_int Tryz.underlying12 Tryz.underlying128
@[go_sem] theorem T.cv12_138 {V:HL.HV} {k:IntKind} {n:Int}:HL.convV Tryz.prog V 12 138 (.int k n)=some (.int .u8 (IntKind.u8.wrap n)):=HL.conv_int Tryz.underlying12 Tryz.underlying138
@[go_sem] theorem T.cv12_139 {V:HL.HV} {k:IntKind} {n:Int}:HL.convV Tryz.prog V 12 139 (.int k n)=some (.int .u8 (IntKind.u8.wrap n)):=HL.conv_int Tryz.underlying12 Tryz.underlying139
@[go_sem] theorem T.cv12_141 {V:HL.HV} {k:IntKind} {n:Int}:HL.convV Tryz.prog V 12 141 (.int k n)=some (.int .i32 (IntKind.i32.wrap n)):=HL.conv_int Tryz.underlying12 Tryz.underlying141
@[go_sem] theorem T.cv12_142 {V:HL.HV} {k:IntKind} {n:Int}:HL.convV Tryz.prog V 12 142 (.int k n)=some (.int .i32 (IntKind.i32.wrap n)):=HL.conv_int Tryz.underlying12 Tryz.underlying142
@[go_sem] theorem T.cv21_2 {V:HL.HV} {k:IntKind} {n:Int}:HL.convV Tryz.prog V 21 2 (.int k n)=some (.int .i64 (IntKind.i64.wrap n)):=HL.conv_int Tryz.underlying21 Tryz.underlying2
@[go_sem] theorem T.cv21_3 {V:HL.HV} {k:IntKind} {n:Int}:HL.convV Tryz.prog V 21 3 (.int k n)=some (.int .i64 (IntKind.i64.wrap n)):=HL.conv_int Tryz.underlying21 Tryz.underlying3
@[go_sem] theorem T.cv21_5 {V:HL.HV} {k:IntKind} {n:Int}:HL.convV Tryz.prog V 21 5 (.int k n)=some (.int .u8 (IntKind.u8.wrap n)):=HL.conv_int Tryz.underlying21 Tryz.underlying5
@[go_sem] theorem T.cv21_6 {V:HL.HV} {k:IntKind} {n:Int}:HL.convV Tryz.prog V 21 6 (.int k n)=some (.int .u8 (IntKind.u8.wrap n)):=HL.conv_int Tryz.underlying21 Tryz.underlying6
@[go_sem] theorem T.cv21_12 {V:HL.HV} {k:IntKind} {n:Int}:HL.convV Tryz.prog V 21 12 (.int k n)=some (.int .u64 (IntKind.u64.wrap n)):=HL.conv_int Tryz.underlying21 Tryz.underlying12
@[go_sem] theorem T.cv21_21 {V:HL.HV} {k:IntKind} {n:Int}:HL.convV Tryz.prog V 21 21 (.int k n)=some (.int .i32 (IntKind.i32.wrap n)):=HL.conv_int Tryz.underlying21 Tryz.underlying21
@[go_sem] theorem T.cv21_31 {V:HL.HV} {k:IntKind} {n:Int}:HL.convV Tryz.prog V 21 31 (.int k n)=some (.int .i64 (IntKind.i64.wrap n)):=HL.conv_int Tryz.underlying21 Tryz.underlying31
@[go_sem] theorem T.cv21_116 {V:HL.HV} {k:IntKind} {n:Int}:HL.convV Tryz.prog V 21 116 (.int k n)=some (.int .u64 (IntKind.u64.wrap n)):=HL.conv_int Tryz.underlying21 Tryz.underlying116
@[go_sem] theorem T.cv21_126 {V:HL.HV} {k:IntKind} {n:Int}:HL.convV Tryz.prog V 21 126 (.int k n)=some (.int .u32 (IntKind.u32.wrap n)):=HL.conv_int Tryz.underlying21 Tryz.underlying126
@[go_sem] theorem T.cv21_128 {V:HL.HV} {k:IntKind} {n:Int}:HL.convV Tryz.prog V 21 128 (.int k n)=some (.int .u64 (IntKind.u64.wrap n)):=HL.conv_int Tryz.underlying21 Tryz.underlying128
@[go_sem] theorem T.cv21_138 {V:HL.HV} {k:IntKind} {n:Int}:HL.convV Tryz.prog V 21 138 (.int k n)=some (.int .u8 (IntKind.u8.wrap n)):=HL.conv_int Tryz.underlying21 Tryz.underlying138
@[go_sem] theorem T.cv21_139 {V:HL.HV} {k:IntKind} {n:Int}:HL.convV Tryz.prog V 21 139 (.int k n)=some (.int .u8 (IntKind.u8.wrap n)):=HL.conv_int Tryz.underlying21 Tryz.underlying139
@[go_sem] theorem T.cv21_141 {V:HL.HV} {k:IntKind} {n:Int}:HL.convV Tryz.prog V 21 141 (.int k n)=some (.int .i32 (IntKind.i32.wrap n)):=HL.conv_int Tryz.underlying21 Tryz.underlying141
@[go_sem] theorem T.cv21_142 {V:HL.HV} {k:IntKind} {n:Int}:HL.convV Tryz.prog V 21 142 (.int k n)=some (.int .i32 (IntKind.i32.wrap n)):=HL.conv_int Tryz.underlying21 Tryz.underlying142
@[go_sem] theorem T.cv31_2 {V:HL.HV} {k:IntKind} {n:Int}:HL.convV Tryz.prog V 31 2 (.int k n)=some (.int .i64 (IntKind.i64.wrap n)):=HL.conv_int Tryz.underlying31 Tryz.underlying2
@[go_sem] theorem T.cv31_3 {V:HL.HV} {k:IntKind} {n:Int}:HL.convV Tryz.prog V 31 3 (.int k n)=some (.int .i64 (IntKind.i64.wrap n)):=HL.conv_int Tryz.underlying31 Tryz.underlying3
@[go_sem] theorem T.cv31_5 {V:HL.HV} {k:IntKind} {n:Int}:HL.convV Tryz.prog V 31 5 (.int k n)=some (.int .u8 (IntKind.u8.wrap n)):=HL.conv_int Tryz.underlying31 Tryz.underlying5
@[go_sem] theorem T.cv31_6 {V:HL.HV} {k:IntKind} {n:Int}:HL.convV Tryz.prog V 31 6 (.int k n)=some (.int .u8 (IntKind.u8.wrap n)):=HL.conv_int Tryz.underlying31 Tryz.underlying6
@[go_sem] theorem T.cv31_12 {V:HL.HV} {k:IntKind} {n:Int}:HL.convV Tryz.prog V 31 12 (.int k n)=some (.int .u64 (IntKind.u64.wrap n)):=HL.conv_int Tryz.underlying31 Tryz.underlying12
@[go_sem] theorem T.cv31_21 {V:HL.HV} {k:IntKind} {n:Int}:HL.convV Tryz.prog V 31 21 (.int k n)=some (.int .i32 (IntKind.i32.wrap n)):=HL.conv_int Tryz.underlying31 Tryz.underlying21
@[go_sem] theorem T.cv31_31 {V:HL.HV} {k:IntKind} {n:Int}:HL.convV Tryz.prog V 31 31 (.int k n)=some (.int .i64 (IntKind.i64.wrap n)):=HL.conv_int Tryz.underlying31 Tryz.underlying31
@[go_sem] theorem T.cv31_116 {V:HL.HV} {k:IntKind} {n:Int}:HL.convV Tryz.prog V 31 116 (.int k n)=some (.int .u64 (IntKind.u64.wrap n)):=HL.conv_int Tryz.underlying31 Tryz.underlying116
@[go_sem] theorem T.cv31_126 {V:HL.HV} {k:IntKind} {n:Int}:HL.convV Tryz.prog V 31 126 (.int k n)=some (.int .u32 (IntKind.u32.wrap n)):=HL.conv_int Tryz.underlying31 Tryz.underlying126
@[go_sem] theorem T.cv31_128 {V:HL.HV} {k:IntKind} {n:Int}:HL.convV Tryz.prog V 31 128 (.int k n)=some (.int .u64 (IntKind.u64.wrap n)):=HL.conv_int Tryz.underlying31 Tryz.underlying128
@[go_sem] theorem T.cv31_138 {V:HL.HV} {k:IntKind} {n:Int}:HL.convV Tryz.prog V 31 138 (.int k n)=some (.int .u8 (IntKind.u8.wrap n)):=HL.conv_int Tryz.underlying31 Tryz.underlying138
@[go_sem] theorem T.cv31_139 {V:HL.HV} {k:IntKind} {n:Int}:HL.convV Tryz.prog V 31 139 (.int k n)=some (.int .u8 (IntKind.u8.wrap n)):=HL.conv_int Tryz.underlying31 Tryz.underlying139
@[go_sem] theorem T.cv31_141 {V:HL.HV} {k:IntKind} {n:Int}:HL.convV Tryz.prog V 31 141 (.int k n)=some (.int .i32 (IntKind.i32.wrap n)):=HL.conv_int Tryz.underlying31 Tryz.underlying141
@[go_sem] theorem T.cv31_142 {V:HL.HV} {k:IntKind} {n:Int}:HL.convV Tryz.prog V 31 142 (.int k n)=some (.int .i32 (IntKind.i32.wrap n)):=HL.conv_int Tryz.underlying31 Tryz.underlying142
@[go_sem] theorem T.cv116_2 {V:HL.HV} {k:IntKind} {n:Int}:HL.convV Tryz.prog V 116 2 (.int k n)=some (.int .i64 (IntKind.i64.wrap n)):=HL.conv_int Tryz.underlying116 Tryz.underlying2
@[go_sem] theorem T.cv116_3 {V:HL.HV} {k:IntKind} {n:Int}:HL.convV Tryz.prog V 116 3 (.int k n)=some (.int .i64 (IntKind.i64.wrap n)):=HL.conv_int Tryz.underlying116 Tryz.underlying3
@[go_sem] theorem T.cv116_5 {V:HL.HV} {k:IntKind} {n:Int}:HL.convV Tryz.prog V 116 5 (.int k n)=some (.int .u8 (IntKind.u8.wrap n)):=HL.conv_int Tryz.underlying116 Tryz.underlying5
@[go_sem] theorem T.cv116_6 {V:HL.HV} {k:IntKind} {n:Int}:HL.convV Tryz.prog V 116 6 (.int k n)=some (.int .u8 (IntKind.u8.wrap n)):=HL.conv_int Tryz.underlying116 Tryz.underlying6
@[go_sem] theorem T.cv116_12 {V:HL.HV} {k:IntKind} {n:Int}:HL.convV Tryz.prog V 116 12 (.int k n)=some (.int .u64 (IntKind.u64.wrap n)):=HL.conv_int Tryz.underlying116 Tryz.underlying12
@[go_sem] theorem T.cv116_21 {V:HL.HV} {k:IntKind} {n:Int}:HL.convV Tryz.prog V 116 21 (.int k n)=some (.int .i32 (IntKind.i32.wrap n)):=HL.conv_int Tryz.underlying116 Tryz.underlying21
@[go_sem] theorem T.cv116_31 {V:HL.HV} {k:IntKind} {n:Int}:HL.convV Tryz.prog V 116 31 (.int k n)=some (.int .i64 (IntKind.i64.wrap n)):=HL.conv_int Tryz.underlying116 Tryz.underlying31
@[go_sem] theorem T.cv116_116 {V:HL.HV} {k:IntKind} {n:Int}:HL.convV Tryz.prog V 116 116 (.int k n)=some (.int .u64 (IntKind.u64.wrap n)):=HL.conv_int Tryz.underlying116 Tryz.underlying116
@[go_sem] theorem T.cv116_126 {V:HL.HV} {k:IntKind} {n:Int}:HL.convV Tryz.prog V 116 126 (.int k n)=some (.int .u32 (IntKind.u32.wrap n)):=HL.conv_int Tryz.underlying116 Tryz.underlying126
@[go_sem] theorem T.cv116_128 {V:HL.HV} {k:IntKind} {n:Int}:HL.convV Tryz.prog V 116 128 (.int k n)=some (.int .u64 (IntKind.u64.wrap n)):=HL.conv_int Tryz.underlying116 Tryz.underlying128
@[go_sem] theorem T.cv116_138 {V:HL.HV} {k:IntKind} {n:Int}:HL.convV Tryz.prog V 116 138 (.int k n)=some (.int .u8 (IntKind.u8.wrap n)):=HL.conv_int Tryz.underlying116 Tryz.underlying138
@[go_sem] theorem T.cv116_139 {V:HL.HV} {k:IntKind} {n:Int}:HL.convV Tryz.prog V 116 139 (.int k n)=some (.int .u8 (IntKind.u8.wrap n)):=HL.conv_int Tryz.underlying116 Tryz.underlying139
@[go_sem] theorem T.cv116_141 {V:HL.HV} {k:IntKind} {n:Int}:HL.convV Tryz.prog V 116 141 (.int k n)=some (.int .i32 (IntKind.i32.wrap n)):=HL.conv_int Tryz.underlying116 Tryz.underlying141
@[go_sem] theorem T.cv116_142 {V:HL.HV} {k:IntKind} {n:Int}:HL.convV Tryz.prog V 116 142 (.int k n)=some (.int .i32 (IntKind.i32.wrap n)):=HL.conv_int Tryz.underlying116 Tryz.underlying142
@[go_sem] theorem T.cv126_2 {V:HL.HV} {k:IntKind} {n:Int}:HL.convV Tryz.prog V 126 2 (.int k n)=some (.int .i64 (IntKind.i64.wrap n)):=HL.conv_int Tryz.underlying126 Tryz.underlying2
@[go_sem] theorem T.cv126_3 {V:HL.HV} {k:IntKind} {n:Int}:HL.convV Tryz.prog V 126 3 (.int k n)=some (.int .i64 (IntKind.i64.wrap n)):=HL.conv_int Tryz.underlying126 Tryz.underlying3
@[go_sem] theorem T.cv126_5 {V:HL.HV} {k:IntKind} {n:Int}:HL.convV Tryz.prog V 126 5 (.int k n)=some (.int .u8 (IntKind.u8.wrap n)):=HL.conv_int Tryz.underlying126 Tryz.underlying5
@[go_sem] theorem T.cv126_6 {V:HL.HV} {k:IntKind} {n:Int}:HL.convV Tryz.prog V 126 6 (.int k n)=some (.int .u8 (IntKind.u8.wrap n)):=HL.conv_int Tryz.underlying126 Tryz.underlying6
@[go_sem] theorem T.cv126_12 {V:HL.HV} {k:IntKind} {n:Int}:HL.convV Tryz.prog V 126 12 (.int k n)=some (.int .u64 (IntKind.u64.wrap n)):=HL.conv_int Tryz.underlying126 Tryz.underlying12
@[go_sem] theorem T.cv126_21 {V:HL.HV} {k:IntKind} {n:Int}:HL.convV Tryz.prog V 126 21 (.int k n)=some (.int .i32 (IntKind.i32.wrap n)):=HL.conv_int Tryz.underlying126 Tryz.underlying21
@[go_sem] theorem T.cv126_31 {V:HL.HV} {k:IntKind} {n:Int}:HL.convV Tryz.prog V 126 31 (.int k n)=some (.int .i64 (IntKind.i64.wrap n)):=HL.conv_int Tryz.underlying126 Tryz.underlying31
@[go_sem] theorem T.cv126_116 {V:HL.HV} {k:IntKind} {n:Int}:HL.convV Tryz.prog V 126 116 (.int k n)=some (.int .u64 (IntKind.u64.wrap n)):=HL.conv_int Tryz.underlying126 Tryz.underlying116
@[go_sem] theorem T.cv126_126 {V:HL.HV} {k:IntKind} {n:Int}:HL.convV Tryz.prog V 126 126 (.int k n)=some (.int .u32 (IntKind.u32.wrap n)):=HL.conv_int Tryz.underlying126 Tryz.underlying126
@[go_sem] theorem T.cv126_128 {V:HL.HV} {k:IntKind} {n:Int}:HL.convV Tryz.prog V 126 128 (.int k n)=some (.int .u64 (IntKind.u64.wrap n)):=HL.conv_int Tryz.underlying126 Tryz.underlying128
@[go_sem] theorem T.cv126_138 {V:HL.HV} {k:IntKind} {n:Int}:HL.convV Tryz.prog V 126 138 (.int k n)=some (.int .u8 (IntKind.u8.wrap n)):=HL.conv_int Tryz.underlying126 Tryz.underlying138
@[go_sem] theorem T.cv126_139 {V:HL.HV} {k:IntKind} {n:Int}:HL.convV Tryz.prog V 126 139 (.int k n)=some (.int .u8 (IntKind.u8.wrap n)):=HL.conv_int Tryz.underlying126 Tryz.underlying139
@[go_sem] theorem T.cv126_141 {V:HL.HV} {k:IntKind} {n:Int}:HL.convV Tryz.prog V 126 141 (.int k n)=some (.int .i32 (IntKind.i32.wrap n)):=HL.conv_int Tryz.underlying126 Tryz.underlying141
@[go_sem] theorem T.cv126_142 {V:HL.HV} {k:IntKind} {n:Int}:HL.convV Tryz.prog V 126 142 (.int k n)=some (.int .i32 (IntKind.i32.wrap n)):=HL.conv_int Tryz.underlying126 Tryz.underlying142
@[go_sem] theorem T.cv128_2 {V:HL.HV} {k:IntKind} {n:Int}:HL.convV Tryz.prog V 128 2 (.int k n)=some (.int .i64 (IntKind.i64.wrap n)):=HL.conv_int Tryz.underlying128 Tryz.underlying2
@[go_sem] theorem T.cv128_3 {V:HL.HV} {k:IntKind} {n:Int}:HL.convV Tryz.prog V 128 3 (.int k n)=some (.int .i64 (IntKind.i64.wrap n)):=HL.conv_int Tryz.underlying128 Tryz.underlying3
@[go_sem] theorem T.cv128_5 {V:HL.HV} {k:IntKind} {n:Int}:HL.convV Tryz.prog V 128 5 (.int k n)=some (.int .u8 (IntKind.u8.wrap n)):=HL.conv_int Tryz.underlying128 Tryz.underlying5
@[go_sem] theorem T.cv128_6 {V:HL.HV} {k:IntKind} {n:Int}:HL.convV Tryz.prog V 128 6 (.int k n)=some (.int .u8 (IntKind.u8.wrap n)):=HL.conv_int Tryz.underlying128 Tryz.underlying6
@[go_sem] theorem T.cv128_12 {V:HL.HV} {k:IntKind} {n:Int}:HL.convV Tryz.prog V 128 12 (.int k n)=some (.int .u64 (IntKind.u64.wrap n)):=HL.conv_int Tryz.underlying128 Tryz.underlying12
@[go_sem] theorem T.cv128_21 {V:HL.HV} {k:IntKind} {n:Int}:HL.convV Tryz.prog V 128 21 (.int k n)=some (.int .i32 (IntKind.i32.wrap n)):=HL.conv_int Tryz.underlying128 Tryz.underlying21
@[go_sem] theorem T.cv128_31 {V:HL.HV} {k:IntKind} {n:Int}:HL.convV Tryz.prog V 128 31 (.int k n)=some (.int .i64 (IntKind.i64.wrap n)):=HL.conv_int Tryz.underlying128 Tryz.underlying31
@[go_sem] theorem T.cv128_116 {V:HL.HV} {k:IntKind} {n:Int}:HL.convV Tryz.prog V 128 116 (.int k n)=some (.int .u64 (IntKind.u64.wrap n)):=HL.conv_int Tryz.underlying128 Tryz.underlying116
@[go_sem] theorem T.cv128_126 {V:HL.HV} {k:IntKind} {n:Int}:HL.convV Tryz.prog V 128 126 (.int k n)=some (.int .u32 (IntKind.u32.wrap n)):=HL.conv_int Tryz.underlying128 Tryz.underlying126
@[go_sem] theorem T.cv128_128 {V:HL.HV} {k:IntKind} {n:Int}:HL.convV Tryz.prog V 128 128 (.int k n)=some (.int .u64 (IntKind.u64.wrap n)):=HL.conv_int Tryz.underlying128 Tryz.underlying128
@[go_sem] theorem T.cv128_138 {V:HL.HV} {k:IntKind} {n:Int}:HL.convV Tryz.prog V 128 138 (.int k n)=some (.int .u8 (IntKind.u8.wrap n)):=HL.conv_int Tryz.underlying128 Tryz.underlying138
@[go_sem] theorem T.cv128_139 {V:HL.HV} {k:IntKind} {n:Int}:HL.convV Tryz.prog V 128 139 (.int k n)=some (.int .u8 (IntKind.u8.wrap n)):=HL.conv_int Tryz.underlying128 Tryz.underlying139
@[go_sem] theorem T.cv128_141 {V:HL.HV} {k:IntKind} {n:Int}:HL.convV Tryz.prog V 128 141 (.int k n)=some (.int .i32 (IntKind.i32.wrap n)):=HL.conv_int Tryz.underlying128 Tryz.underlying141
@[go_sem] theorem T.cv128_142 {V:HL.HV} {k:IntKind} {n:Int}:HL.convV Tryz.prog V 128 142 (.int k n)=some (.int .i32 (IntKind.i32.wrap n)):=HL.conv_int Tryz.underlying128 Tryz.underlying142
@[go_sem] theorem T.cv138_2 {V:HL.HV} {k:IntKind} {n:Int}:HL.convV Tryz.prog V 138 2 (.int k n)=some (.int .i64 (IntKind.i64.wrap n)):=HL.conv_int Tryz.underlying138 Tryz.underlying2
@[go_sem] theorem T.cv138_3 {V:HL.HV} {k:IntKind} {n:Int}:HL.convV Tryz.prog V 138 3 (.int k n)=some (.int .i64 (IntKind.i64.wrap n)):=HL.conv_int Tryz.underlying138 Tryz.underlying3
@[go_sem] theorem T.cv138_5 {V:HL.HV} {k:IntKind} {n:Int}:HL.convV Tryz.prog V 138 5 (.int k n)=some (.int .u8 (IntKind.u8.wrap n)):=HL.conv_int Tryz.underlying138 Tryz.underlying5
@[go_sem] theorem T.cv138_6 {V:HL.HV} {k:IntKind} {n:Int}:HL.convV Tryz.prog V 138 6 (.int k n)=some (.int .u8 (IntKind.u8.wrap n)):=HL.conv_int Tryz.underlying138 Tryz.underlying6
@[go_sem] theorem T.cv138_12 {V:HL.HV} {k:IntKind} {n:Int}:HL.convV Tryz.prog V 138 12 (.int k n)=some (.int .u64 (IntKind.u64.wrap n)):=HL.conv_int Tryz.underlying138 Tryz.underlying12
@[go_sem] theorem T.cv138_21 {V:HL.HV} {k:IntKind} {n:Int}:HL.convV Tryz.prog V 138 21 (.int k n)=some (.int .i32 (IntKind.i32.wrap n)):=HL.conv_int Tryz.underlying138 Tryz.underlying21
@[go_sem] theorem T.cv138_31 {V:HL.HV} {k:IntKind} {n:Int}:HL.convV Tryz.prog V 138 31 (.int k n)=some (.int .i64 (IntKind.i64.wrap n)):=HL.conv_int Tryz.underlying138 Tryz.underlying31
@[go_sem] theorem T.cv138_116 {V:HL.HV} {k:IntKind} {n:Int}:HL.convV Tryz.prog V 138 116 (.int k n)=some (.int .u64 (IntKind.u64.wrap n)):=HL.conv_int Tryz.underlying138 Tryz.underlying116
@[go_sem] theorem T.cv138_126 {V:HL.HV} {k:IntKind} {n:Int}:HL.convV Tryz.prog V 138 126 (.int k n)=some (.int .u32 (IntKind.u32.wrap n)):=HL.conv_int Tryz.underlying138 Tryz.underlying126
@[go_sem] theorem T.cv138_128 {V:HL.HV} {k:IntKind} {n:Int}:HL.convV Tryz.prog V 138 128 (.int k n)=some (.int .u64 (IntKind.u64.wrap n)):=HL.conv_int Tryz.underlying138 Tryz.underlying128
@[go_sem] theorem T.cv138_138 {V:HL.HV} {k:IntKind} {n:Int}:HL.convV Tryz.prog V 138 138 (.int k n)=some (.int .u8 (IntKind.u8.wrap n)):=HL.conv_int Tryz.underlying138 Tryz.underlying138
@[go_sem] theorem T.cv138_139 {V:HL.HV} {k:IntKind} {n:Int}:HL.convV Tryz.prog V 138 139 (.int k n)=some (.int .u8 (IntKind.u8.wrap n)):=HL.conv_int Tryz.underlying138 Tryz.underlying139
@[go_sem] theorem T.cv138_141 {V:HL.HV} {k:IntKind} {n:Int}:HL.convV Tryz.prog V 138 141 (.int k n)=some (.int .i32 (IntKind.i32.wrap n)):=HL.conv_int Tryz.underlying138 Tryz.underlying141
@[go_sem] theorem T.cv138_142 {V:HL.HV} {k:IntKind} {n:Int}:HL.convV Tryz.prog V 138 142 (.int k n)=some (.int .i32 (IntKind.i32.wrap n)):=HL.conv_int Tryz.underlying138 Tryz.underlying142
@[go_sem] theorem T.cv139_2 {V:HL.HV} {k:IntKind} {n:Int}:HL.convV Tryz.prog V 139 2 (.int k n)=some (.int .i64 (IntKind.i64.wrap n)):=HL.conv_int Tryz.underlying139 Tryz.underlying2
@[go_sem] theorem T.cv139_3 {V:HL.HV} {k:IntKind} {n:Int}:HL.convV Tryz.prog V 139 3 (.int k n)=some (.int .i64 (IntKind.i64.wrap n)):=HL.conv_int Tryz.underlying139 Tryz.underlying3
@[go_sem] theorem T.cv139_5 {V:HL.HV} {k:IntKind} {n:Int}:HL.convV Tryz.prog V 139 5 (.int k n)=some (.int .u8 (IntKind.u8.wrap n)):=HL.conv_int Tryz.underlying139 Tryz.underlying5
@[go_sem] theorem T.cv139_6 {V:HL.HV} {k:IntKind} {n:Int}:HL.convV Tryz.prog V 139 6 (.int k n)=some (.int .u8 (IntKind.u8.wrap n)):=HL.conv_int Tryz.underlying139 Tryz.underlying6
@[go_sem] theorem T.cv139_12 {V:HL.HV} {k:IntKind} {n:Int}:HL.convV Tryz.prog V 139 12 (.int k n)=some (.int .u64 (IntKind.u64.wrap n)):=HL.conv_int Tryz.underlying139 Tryz.underlying12
@[go_sem] theorem T.cv139_21 {V:HL.HV} {k:IntKind} {n:Int}:HL.convV Tryz.prog V 139 21 (.int k n)=some (.int .i32 (IntKind.i32.wrap n)):=HL.conv_int Tryz.underlying139 Tryz.underlying21
@[go_sem] theorem T.cv139_31 {V:HL.HV} {k:IntKind} {n:Int}:HL.convV Tryz.prog V 139 31 (.int k n)=some (.int .i64 (IntKind.i64.wrap n)):=HL.conv_int Tryz.underlying139 Tryz.underlying31
@[go_sem] theorem T.cv139_116 {V:HL.HV} {k:IntKind} {n:Int}:HL.convV Tryz.prog V 139 116 (.int k n)=some (.int .u64 (IntKind.u64.wrap n)):=HL.conv_int Tryz.underlying139 Tryz.underlying116
@[go_sem] theorem T.cv139_126 {V:HL.HV} {k:IntKind} {n:Int}:HL.convV Tryz.prog V 139 126 (.int k n)=some (.int .u32 (IntKind.u32.wrap n)):=HL.conv_int Tryz.underlying139 Tryz.underlying126
@[go_sem] theorem T.cv139_128 {V:HL.HV} {k:IntKind} {n:Int}:HL.convV Tryz.prog V 139 128 (.int k n)=some (.int .u64 (IntKind.u64.wrap n)):=HL.conv_int Tryz.underlying139 Tryz.underlying128
@[go_sem] theorem T.cv139_138 {V:HL.HV} {k:IntKind} {n:Int}:HL.convV Tryz.prog V 139 138 (.int k n)=some (.int .u8 (IntKind.u8.wrap n)):=HL.conv_int Tryz.underlying139 Tryz.underlying138
@[go_sem] theorem T.cv139_139 {V:HL.HV} {k:IntKind} {n:Int}:HL.convV Tryz.prog V 139 139 (.int k n)=some (.int .u8 (IntKind.u8.wrap n)):=HL.conv_int Tryz.underlying139 Tryz.underlying139
@[go_sem] theorem T.cv139_141 {V:HL.HV} {k:IntKind} {n:Int}:HL.convV Tryz.prog V 139 141 (.int k n)=some (.int .i32 (IntKind.i32.wrap n)):=HL.conv_int Tryz.underlying139 Tryz.underlying141
@[go_sem] theorem T.cv139_142 {V:HL.HV} {k:IntKind} {n:Int}:HL.convV Tryz.prog V 139 142 (.int k n)=some (.int .i32 (IntKind.i32.wrap n)):=HL.conv_int Tryz.underlying139 Tryz.underlying142
@[go_sem] theorem T.cv141_2 {V:HL.HV} {k:IntKind} {n:Int}:HL.convV Tryz.prog V 141 2 (.int k n)=some (.int .i64 (IntKind.i64.wrap n)):=HL.conv_int Tryz.underlying141 Tryz.underlying2
@[go_sem] theorem T.cv141_3 {V:HL.HV} {k:IntKind} {n:Int}:HL.convV Tryz.prog V 141 3 (.int k n)=some (.int .i64 (IntKind.i64.wrap n)):=HL.conv_int Tryz.underlying141 Tryz.underlying3
@[go_sem] theorem T.cv141_5 {V:HL.HV} {k:IntKind} {n:Int}:HL.convV Tryz.prog V 141 5 (.int k n)=some (.int .u8 (IntKind.u8.wrap n)):=HL.conv_int Tryz.underlying141 Tryz.underlying5
@[go_sem] theorem T.cv141_6 {V:HL.HV} {k:IntKind} {n:Int}:HL.convV Tryz.prog V 141 6 (.int k n)=some (.int .u8 (IntKind.u8.wrap n)):=HL.conv_int Tryz.underlying141 Tryz.underlying6
@[go_sem] theorem T.cv141_12 {V:HL.HV} {k:IntKind} {n:Int}:HL.convV Tryz.prog V 141 12 (.int k n)=some (.int .u64 (IntKind.u64.wrap n)):=HL.conv_int Tryz.underlying141 Tryz.underlying12
@[go_sem] theorem T.cv141_21 {V:HL.HV} {k:IntKind} {n:Int}:HL.convV Tryz.prog V 141 21 (.int k n)=some (.int .i32 (IntKind.i32.wrap n)):=HL.conv_int Tryz.underlying141 Tryz.underlying21
@[go_sem] theorem T.cv141_31 {V:HL.HV} {k:IntKind} {n:Int}:HL.convV Tryz.prog V 141 31 (.int k n)=some (.int .i64 (IntKind.i64.wrap n)):=HL.conv_int Tryz.underlying141 Tryz.underlying31
@[go_sem] theorem T.cv141_116 {V:HL.HV} {k:IntKind} {n:Int}:HL.convV Tryz.prog V 141 116 (.int k n)=some (.int .u64 (IntKind.u64.wrap n)):=HL.conv_int Tryz.underlying141 Tryz.underlying116
@[go_sem] theorem T.cv141_126 {V:HL.HV} {k:IntKind} {n:Int}:HL.convV Tryz.prog V 141 126 (.int k n)=some (.int .u32 (IntKind.u32.wrap n)):=HL.conv_int Tryz.underlying141 Tryz.underlying126
@[go_sem] theorem T.cv141_128 {V:HL.HV} {k:IntKind} {n:Int}:HL.convV Tryz.prog V 141 128 (.int k n)=some (.int .u64 (IntKind.u64.wrap n)):=HL.conv_int Tryz.underlying141 Tryz.underlying128
@[go_sem] theorem T.cv141_138 {V:HL.HV} {k:IntKind} {n:Int}:HL.convV Tryz.prog V 141 138 (.int k n)=some (.int .u8 (IntKind.u8.wrap n)):=HL.conv_int Tryz.underlying141 Tryz.underlying138
@[go_sem] theorem T.cv141_139 {V:HL.HV} {k:IntKind} {n:Int}:HL.convV Tryz.prog V 141 139 (.int k n)=some (.int .u8 (IntKind.u8.wrap n)):=HL.conv_int Tryz.underlying141 Tryz.underlying139
@[go_sem] theorem T.cv141_141 {V:HL.HV} {k:IntKind} {n:Int}:HL.convV Tryz.prog V 141 141 (.int k n)=some (.int .i32 (IntKind.i32.wrap n)):=HL.conv_int Tryz.underlying141 Tryz.underlying141
@[go_sem] theorem T.cv141_142 {V:HL.HV} {k:IntKind} {n:Int}:HL.convV Tryz.prog V 141 142 (.int k n)=some (.int .i32 (IntKind.i32.wrap n)):=HL.conv_int Tryz.underlying141 Tryz.underlying142
@[go_sem] theorem T.cv142_2 {V:HL.HV} {k:IntKind} {n:Int}:HL.convV Tryz.prog V 142 2 (.int k n)=some (.int .i64 (IntKind.i64.wrap n)):=HL.conv_int Tryz.underlying142 Tryz.underlying2
@[go_sem] theorem T.cv142_3 {V:HL.HV} {k:IntKind} {n:Int}:HL.convV Tryz.prog V 142 3 (.int k n)=some (.int .i64 (IntKind.i64.wrap n)):=HL.conv_int Tryz.underlying142 Tryz.underlying3
@[go_sem] theorem T.cv142_5 {V:HL.HV} {k:IntKind} {n:Int}:HL.convV Tryz.prog V 142 5 (.int k n)=some (.int .u8 (IntKind.u8.wrap n)):=HL.conv_int Tryz.underlying142 Tryz.underlying5
@[go_sem] theorem T.cv142_6 {V:HL.HV} {k:IntKind} {n:Int}:HL.convV Tryz.prog V 142 6 (.int k n)=some (.int .u8 (IntKind.u8.wrap n)):=HL.conv_int Tryz.underlying142 Tryz.underlying6
@[go_sem] theorem T.cv142_12 {V:HL.HV} {k:IntKind} {n:Int}:HL.convV Tryz.prog V 142 12 (.int k n)=some (.int .u64 (IntKind.u64.wrap n)):=HL.conv_int Tryz.underlying142 Tryz.underlying12
@[go_sem] theorem T.cv142_21 {V:HL.HV} {k:IntKind} {n:Int}:HL.convV Tryz.prog V 142 21 (.int k n)=some (.int .i32 (IntKind.i32.wrap n)):=HL.conv_int Tryz.underlying142 Tryz.underlying21
@[go_sem] theorem T.cv142_31 {V:HL.HV} {k:IntKind} {n:Int}:HL.convV Tryz.prog V 142 31 (.int k n)=some (.int .i64 (IntKind.i64.wrap n)):=HL.conv_int Tryz.underlying142 Tryz.underlying31
@[go_sem] theorem T.cv142_116 {V:HL.HV} {k:IntKind} {n:Int}:HL.convV Tryz.prog V 142 116 (.int k n)=some (.int .u64 (IntKind.u64.wrap n)):=HL.conv_int Tryz.underlying142 Tryz.underlying116
@[go_sem] theorem T.cv142_126 {V:HL.HV} {k:IntKind} {n:Int}:HL.convV Tryz.prog V 142 126 (.int k n)=some (.int .u32 (IntKind.u32.wrap n)):=HL.conv_int Tryz.underlying142 Tryz.underlying126
@[go_sem] theorem T.cv142_128 {V:HL.HV} {k:IntKind} {n:Int}:HL.convV Tryz.prog V 142 128 (.int k n)=some (.int .u64 (IntKind.u64.wrap n)):=HL.conv_int Tryz.underlying142 Tryz.underlying128
@[go_sem] theorem T.cv142_138 {V:HL.HV} {k:IntKind} {n:Int}:HL.convV Tryz.prog V 142 138 (.int k n)=some (.int .u8 (IntKind.u8.wrap n)):=HL.conv_int Tryz.underlying142 Tryz.underlying138
@[go_sem] theorem T.cv142_139 {V:HL.HV} {k:IntKind} {n:Int}:HL.convV Tryz.prog V 142 139 (.int k n)=some (.int .u8 (IntKind.u8.wrap n)):=HL.conv_int Tryz.underlying142 Tryz.underlying139
@[go_sem] theorem T.cv142_141 {V:HL.HV} {k:IntKind} {n:Int}:HL.convV Tryz.prog V 142 141 (.int k n)=some (.int .i32 (IntKind.i32.wrap n)):=HL.conv_int Tryz.underlying142 Tryz.underlying141
@[go_sem] theorem T.cv142_142 {V:HL.HV} {k:IntKind} {n:Int}:HL.convV Tryz.prog V 142 142 (.int k n)=some (.int .i32 (IntKind.i32.wrap n)):=HL.conv_int Tryz.underlying142 Tryz.underlying142
@[go_sem] theorem T.bs22_1 {H:HL.Heap} {x0:Int} {a1:Option Addr} {l1 c1:Nat} {a2:Option Addr} {l2 c2:Nat} {a3:Option Addr} {l3 c3:Nat} {x4:Int}:HL.buildSliceV Tryz.prog H 22 1 [(0,.agg #[.int .i64 x0,.slice a1 l1 c1,.slice a2 l2 c2,.slice a3 l3 c3,.int .i64 x4])]=some (.slice (some ⟨H.size,0,none⟩) 1 1,H.push (.cells #[.int .i64 x0,.slice a1 l1 c1,.slice a2 l2 c2,.slice a3 l3 c3,.int .i64 x4] 28)):=HL.bsl_of (vs:=[.agg #[.int .i64 x0,.slice a1 l1 c1,.slice a2 l2 c2,.slice a3 l3 c3,.int .i64 x4]]) T.elem22 T.size28 T.zero28 (Nat.le_of_ble_eq_true rfl) rfl rfl
@[go_sem] theorem T.bs22_2 {H:HL.Heap} {x0:Int} {a1:Option Addr} {l1 c1:Nat} {a2:Option Addr} {l2 c2:Nat} {a3:Option Addr} {l3 c3:Nat} {x4:Int} {x5:Int} {a6:Option Addr} {l6 c6:Nat} {a7:Option Addr} {l7 c7:Nat} {a8:Option Addr} {l8 c8:Nat} {x9:Int}:HL.buildSliceV Tryz.prog H 22 2 [(0,.agg #[.int .i64 x0,.slice a1 l1 c1,.slice a2 l2 c2,.slice a3 l3 c3,.int .i64 x4]),(1,.agg #[.int .i64 x5,.slice a6 l6 c6,.slice a7 l7 c7,.slice a8 l8 c8,.int .i64 x9])]=some (.slice (some ⟨H.size,0,none⟩) 2 2,H.push (.cells #[.int .i64 x0,.slice a1 l1 c1,.slice a2 l2 c2,.slice a3 l3 c3,.int .i64 x4,.int .i64 x5,.slice a6 l6 c6,.slice a7 l7 c7,.slice a8 l8 c8,.int .i64 x9] 28)):=HL.bsl_of (vs:=[.agg #[.int .i64 x0,.slice a1 l1 c1,.slice a2 l2 c2,.slice a3 l3 c3,.int .i64 x4],.agg #[.int .i64 x5,.slice a6 l6 c6,.slice a7 l7 c7,.slice a8 l8 c8,.int .i64 x9]]) T.elem22 T.size28 T.zero28 (Nat.le_of_ble_eq_true rfl) rfl rfl
@[go_sem] theorem T.bs22_3 {H:HL.Heap} {x0:Int} {a1:Option Addr} {l1 c1:Nat} {a2:Option Addr} {l2 c2:Nat} {a3:Option Addr} {l3 c3:Nat} {x4:Int} {x5:Int} {a6:Option Addr} {l6 c6:Nat} {a7:Option Addr} {l7 c7:Nat} {a8:Option Addr} {l8 c8:Nat} {x9:Int} {x10:Int} {a11:Option Addr} {l11 c11:Nat} {a12:Option Addr} {l12 c12:Nat} {a13:Option Addr} {l13 c13:Nat} {x14:Int}:HL.buildSliceV Tryz.prog H 22 3 [(0,.agg #[.int .i64 x0,.slice a1 l1 c1,.slice a2 l2 c2,.slice a3 l3 c3,.int .i64 x4]),(1,.agg #[.int .i64 x5,.slice a6 l6 c6,.slice a7 l7 c7,.slice a8 l8 c8,.int .i64 x9]),(2,.agg #[.int .i64 x10,.slice a11 l11 c11,.slice a12 l12 c12,.slice a13 l13 c13,.int .i64 x14])]=some (.slice (some ⟨H.size,0,none⟩) 3 3,H.push (.cells #[.int .i64 x0,.slice a1 l1 c1,.slice a2 l2 c2,.slice a3 l3 c3,.int .i64 x4,.int .i64 x5,.slice a6 l6 c6,.slice a7 l7 c7,.slice a8 l8 c8,.int .i64 x9,.int .i64 x10,.slice a11 l11 c11,.slice a12 l12 c12,.slice a13 l13 c13,.int .i64 x14] 28)):=HL.bsl_of (vs:=[.agg #[.int .i64 x0,.slice a1 l1 c1,.slice a2 l2 c2,.slice a3 l3 c3,.int .i64 x4],.agg #[.int .i64 x5,.slice a6 l6 c6,.slice a7 l7 c7,.slice a8 l8 c8,.int .i64 x9],.agg #[.int .i64 x10,.slice a11 l11 c11,.slice a12 l12 c12,.slice a13 l13 c13,.int .i64 x14]]) T.elem22 T.size28 T.zero28 (Nat.le_of_ble_eq_true rfl) rfl rfl
@[go_sem] theorem T.bs53_1 {H:HL.Heap} {x0:Int} {x1:ByteArray} {x2:Int}:HL.buildSliceV Tryz.prog H 53 1 [(0,.agg #[.int .i64 x0,.string x1,.int .i64 x2])]=some (.slice (some ⟨H.size,0,none⟩) 1 1,H.push (.cells #[.int .i64 x0,.string x1,.int .i64 x2] 87)):=HL.bsl_of (vs:=[.agg #[.int .i64 x0,.string x1,.int .i64 x2]]) T.elem53 T.size87 T.zero87 (Nat.le_of_ble_eq_true rfl) rfl rfl
@[go_sem] theorem T.bs53_2 {H:HL.Heap} {x0:Int} {x1:ByteArray} {x2:Int} {x3:Int} {x4:ByteArray} {x5:Int}:HL.buildSliceV Tryz.prog H 53 2 [(0,.agg #[.int .i64 x0,.string x1,.int .i64 x2]),(1,.agg #[.int .i64 x3,.string x4,.int .i64 x5])]=some (.slice (some ⟨H.size,0,none⟩) 2 2,H.push (.cells #[.int .i64 x0,.string x1,.int .i64 x2,.int .i64 x3,.string x4,.int .i64 x5] 87)):=HL.bsl_of (vs:=[.agg #[.int .i64 x0,.string x1,.int .i64 x2],.agg #[.int .i64 x3,.string x4,.int .i64 x5]]) T.elem53 T.size87 T.zero87 (Nat.le_of_ble_eq_true rfl) rfl rfl
@[go_sem] theorem T.bs53_3 {H:HL.Heap} {x0:Int} {x1:ByteArray} {x2:Int} {x3:Int} {x4:ByteArray} {x5:Int} {x6:Int} {x7:ByteArray} {x8:Int}:HL.buildSliceV Tryz.prog H 53 3 [(0,.agg #[.int .i64 x0,.string x1,.int .i64 x2]),(1,.agg #[.int .i64 x3,.string x4,.int .i64 x5]),(2,.agg #[.int .i64 x6,.string x7,.int .i64 x8])]=some (.slice (some ⟨H.size,0,none⟩) 3 3,H.push (.cells #[.int .i64 x0,.string x1,.int .i64 x2,.int .i64 x3,.string x4,.int .i64 x5,.int .i64 x6,.string x7,.int .i64 x8] 87)):=HL.bsl_of (vs:=[.agg #[.int .i64 x0,.string x1,.int .i64 x2],.agg #[.int .i64 x3,.string x4,.int .i64 x5],.agg #[.int .i64 x6,.string x7,.int .i64 x8]]) T.elem53 T.size87 T.zero87 (Nat.le_of_ble_eq_true rfl) rfl rfl
@[go_sem] theorem T.bs53_4 {H:HL.Heap} {x0:Int} {x1:ByteArray} {x2:Int} {x3:Int} {x4:ByteArray} {x5:Int} {x6:Int} {x7:ByteArray} {x8:Int} {x9:Int} {x10:ByteArray} {x11:Int}:HL.buildSliceV Tryz.prog H 53 4 [(0,.agg #[.int .i64 x0,.string x1,.int .i64 x2]),(1,.agg #[.int .i64 x3,.string x4,.int .i64 x5]),(2,.agg #[.int .i64 x6,.string x7,.int .i64 x8]),(3,.agg #[.int .i64 x9,.string x10,.int .i64 x11])]=some (.slice (some ⟨H.size,0,none⟩) 4 4,H.push (.cells #[.int .i64 x0,.string x1,.int .i64 x2,.int .i64 x3,.string x4,.int .i64 x5,.int .i64 x6,.string x7,.int .i64 x8,.int .i64 x9,.string x10,.int .i64 x11] 87)):=HL.bsl_of (vs:=[.agg #[.int .i64 x0,.string x1,.int .i64 x2],.agg #[.int .i64 x3,.string x4,.int .i64 x5],.agg #[.int .i64 x6,.string x7,.int .i64 x8],.agg #[.int .i64 x9,.string x10,.int .i64 x11]]) T.elem53 T.size87 T.zero87 (Nat.le_of_ble_eq_true rfl) rfl rfl
@[go_sem] theorem T.bs59_1 {H:HL.Heap} {x0:Int} {a1:Option Addr} {l1 c1:Nat} {a2:Option Addr} {l2 c2:Nat} {a3:Option Addr} {l3 c3:Nat} {x4:Int} {a5:Option Addr} {l5 c5:Nat}:HL.buildSliceV Tryz.prog H 59 1 [(0,.agg #[.int .i64 x0,.slice a1 l1 c1,.slice a2 l2 c2,.slice a3 l3 c3,.int .i64 x4,.slice a5 l5 c5])]=some (.slice (some ⟨H.size,0,none⟩) 1 1,H.push (.cells #[.int .i64 x0,.slice a1 l1 c1,.slice a2 l2 c2,.slice a3 l3 c3,.int .i64 x4,.slice a5 l5 c5] 61)):=HL.bsl_of (vs:=[.agg #[.int .i64 x0,.slice a1 l1 c1,.slice a2 l2 c2,.slice a3 l3 c3,.int .i64 x4,.slice a5 l5 c5]]) T.elem59 T.size61 T.zero61 (Nat.le_of_ble_eq_true rfl) rfl rfl
@[go_sem] theorem T.bs59_2 {H:HL.Heap} {x0:Int} {a1:Option Addr} {l1 c1:Nat} {a2:Option Addr} {l2 c2:Nat} {a3:Option Addr} {l3 c3:Nat} {x4:Int} {a5:Option Addr} {l5 c5:Nat} {x6:Int} {a7:Option Addr} {l7 c7:Nat} {a8:Option Addr} {l8 c8:Nat} {a9:Option Addr} {l9 c9:Nat} {x10:Int} {a11:Option Addr} {l11 c11:Nat}:HL.buildSliceV Tryz.prog H 59 2 [(0,.agg #[.int .i64 x0,.slice a1 l1 c1,.slice a2 l2 c2,.slice a3 l3 c3,.int .i64 x4,.slice a5 l5 c5]),(1,.agg #[.int .i64 x6,.slice a7 l7 c7,.slice a8 l8 c8,.slice a9 l9 c9,.int .i64 x10,.slice a11 l11 c11])]=some (.slice (some ⟨H.size,0,none⟩) 2 2,H.push (.cells #[.int .i64 x0,.slice a1 l1 c1,.slice a2 l2 c2,.slice a3 l3 c3,.int .i64 x4,.slice a5 l5 c5,.int .i64 x6,.slice a7 l7 c7,.slice a8 l8 c8,.slice a9 l9 c9,.int .i64 x10,.slice a11 l11 c11] 61)):=HL.bsl_of (vs:=[.agg #[.int .i64 x0,.slice a1 l1 c1,.slice a2 l2 c2,.slice a3 l3 c3,.int .i64 x4,.slice a5 l5 c5],.agg #[.int .i64 x6,.slice a7 l7 c7,.slice a8 l8 c8,.slice a9 l9 c9,.int .i64 x10,.slice a11 l11 c11]]) T.elem59 T.size61 T.zero61 (Nat.le_of_ble_eq_true rfl) rfl rfl
@[go_sem] theorem T.bs113_1 {H:HL.Heap} {x0:Int} {x1:Int}:HL.buildSliceV Tryz.prog H 113 1 [(0,.agg #[.int .i64 x0,.int .i64 x1])]=some (.slice (some ⟨H.size,0,none⟩) 1 1,H.push (.cells #[.int .i64 x0,.int .i64 x1] 102)):=HL.bsl_of (vs:=[.agg #[.int .i64 x0,.int .i64 x1]]) T.elem113 T.size102 T.zero102 (Nat.le_of_ble_eq_true rfl) rfl rfl
@[go_sem] theorem T.bs113_2 {H:HL.Heap} {x0:Int} {x1:Int} {x2:Int} {x3:Int}:HL.buildSliceV Tryz.prog H 113 2 [(0,.agg #[.int .i64 x0,.int .i64 x1]),(1,.agg #[.int .i64 x2,.int .i64 x3])]=some (.slice (some ⟨H.size,0,none⟩) 2 2,H.push (.cells #[.int .i64 x0,.int .i64 x1,.int .i64 x2,.int .i64 x3] 102)):=HL.bsl_of (vs:=[.agg #[.int .i64 x0,.int .i64 x1],.agg #[.int .i64 x2,.int .i64 x3]]) T.elem113 T.size102 T.zero102 (Nat.le_of_ble_eq_true rfl) rfl rfl
@[go_sem] theorem T.bs113_3 {H:HL.Heap} {x0:Int} {x1:Int} {x2:Int} {x3:Int} {x4:Int} {x5:Int}:HL.buildSliceV Tryz.prog H 113 3 [(0,.agg #[.int .i64 x0,.int .i64 x1]),(1,.agg #[.int .i64 x2,.int .i64 x3]),(2,.agg #[.int .i64 x4,.int .i64 x5])]=some (.slice (some ⟨H.size,0,none⟩) 3 3,H.push (.cells #[.int .i64 x0,.int .i64 x1,.int .i64 x2,.int .i64 x3,.int .i64 x4,.int .i64 x5] 102)):=HL.bsl_of (vs:=[.agg #[.int .i64 x0,.int .i64 x1],.agg #[.int .i64 x2,.int .i64 x3],.agg #[.int .i64 x4,.int .i64 x5]]) T.elem113 T.size102 T.zero102 (Nat.le_of_ble_eq_true rfl) rfl rfl
@[go_sem] theorem T.bs113_4 {H:HL.Heap} {x0:Int} {x1:Int} {x2:Int} {x3:Int} {x4:Int} {x5:Int} {x6:Int} {x7:Int}:HL.buildSliceV Tryz.prog H 113 4 [(0,.agg #[.int .i64 x0,.int .i64 x1]),(1,.agg #[.int .i64 x2,.int .i64 x3]),(2,.agg #[.int .i64 x4,.int .i64 x5]),(3,.agg #[.int .i64 x6,.int .i64 x7])]=some (.slice (some ⟨H.size,0,none⟩) 4 4,H.push (.cells #[.int .i64 x0,.int .i64 x1,.int .i64 x2,.int .i64 x3,.int .i64 x4,.int .i64 x5,.int .i64 x6,.int .i64 x7] 102)):=HL.bsl_of (vs:=[.agg #[.int .i64 x0,.int .i64 x1],.agg #[.int .i64 x2,.int .i64 x3],.agg #[.int .i64 x4,.int .i64 x5],.agg #[.int .i64 x6,.int .i64 x7]]) T.elem113 T.size102 T.zero102 (Nat.le_of_ble_eq_true rfl) rfl rfl
@[go_sem] theorem T.stn28 {H:HL.Heap} {z0 z1 z2 z3 z4:Value} {x0:Int} {a1:Option Addr} {l1 c1:Nat} {a2:Option Addr} {l2 c2:Nat} {a3:Option Addr} {l3 c3:Nat} {x4:Int}:HL.storeA Tryz.prog (H.push (.cells #[z0,z1,z2,z3,z4] 28)) 28 ⟨H.size,0,none⟩ (.agg #[.int .i64 x0,.slice a1 l1 c1,.slice a2 l2 c2,.slice a3 l3 c3,.int .i64 x4])=some (H.push (.cells #[.int .i64 x0,.slice a1 l1 c1,.slice a2 l2 c2,.slice a3 l3 c3,.int .i64 x4] 28)):=HL.store_new (z:=[z0,z1,z2,z3,z4]) (vs:=[.int .i64 x0,.slice a1 l1 c1,.slice a2 l2 c2,.slice a3 l3 c3,.int .i64 x4]) T.size28 rfl (HL.one_all rfl)
@[go_sem] theorem T.ln28 {H:HL.Heap} {z0 z1 z2 z3 z4:Value}:HL.cellsH (HL.cellH (H.push (.cells #[z0,z1,z2,z3,z4] 28))) ⟨H.size,0,none⟩ 0 5=some [z0,z1,z2,z3,z4]:=HL.Blk.cells0 (new:=[z0,z1,z2,z3,z4]) (HL.Blk.new rfl)
@[go_sem] theorem T.stn33 {H:HL.Heap} {z0 z1:Value} {x0:Int} {x1:Int}:HL.storeA Tryz.prog (H.push (.cells #[z0,z1] 33)) 33 ⟨H.size,0,none⟩ (.agg #[.int .i64 x0,.int .i64 x1])=some (H.push (.cells #[.int .i64 x0,.int .i64 x1] 33)):=HL.store_new (z:=[z0,z1]) (vs:=[.int .i64 x0,.int .i64 x1]) T.size33 rfl (HL.one_all rfl)
@[go_sem] theorem T.ln33 {H:HL.Heap} {z0 z1:Value}:HL.cellsH (HL.cellH (H.push (.cells #[z0,z1] 33))) ⟨H.size,0,none⟩ 0 2=some [z0,z1]:=HL.Blk.cells0 (new:=[z0,z1]) (HL.Blk.new rfl)
@[go_sem] theorem T.stn49 {H:HL.Heap} {z0 z1 z2:Value} {a0:Option Addr} {l0 c0:Nat} {a1:Option Addr} {a2:Option Addr} {l2 c2:Nat}:HL.storeA Tryz.prog (H.push (.cells #[z0,z1,z2] 49)) 49 ⟨H.size,0,none⟩ (.agg #[.slice a0 l0 c0,.pointer a1,.slice a2 l2 c2])=some (H.push (.cells #[.slice a0 l0 c0,.pointer a1,.slice a2 l2 c2] 49)):=HL.store_new (z:=[z0,z1,z2]) (vs:=[.slice a0 l0 c0,.pointer a1,.slice a2 l2 c2]) T.size49 rfl (HL.one_all rfl)
@[go_sem] theorem T.ln49 {H:HL.Heap} {z0 z1 z2:Value}:HL.cellsH (HL.cellH (H.push (.cells #[z0,z1,z2] 49))) ⟨H.size,0,none⟩ 0 3=some [z0,z1,z2]:=HL.Blk.cells0 (new:=[z0,z1,z2]) (HL.Blk.new rfl)
@[go_sem] theorem T.stn58 {H:HL.Heap} {z0 z1 z2 z3 z4:Value} {a0:Option Addr} {l0 c0:Nat} {x1:Int} {x2:Int} {x3:Int} {x4:Int}:HL.storeA Tryz.prog (H.push (.cells #[z0,z1,z2,z3,z4] 58)) 58 ⟨H.size,0,none⟩ (.agg #[.slice a0 l0 c0,.int .i64 x1,.int .i64 x2,.int .i64 x3,.int .i64 x4])=some (H.push (.cells #[.slice a0 l0 c0,.int .i64 x1,.int .i64 x2,.int .i64 x3,.int .i64 x4] 58)):=HL.store_new (z:=[z0,z1,z2,z3,z4]) (vs:=[.slice a0 l0 c0,.int .i64 x1,.int .i64 x2,.int .i64 x3,.int .i64 x4]) T.size58 rfl (HL.one_all rfl)
@[go_sem] theorem T.ln58 {H:HL.Heap} {z0 z1 z2 z3 z4:Value}:HL.cellsH (HL.cellH (H.push (.cells #[z0,z1,z2,z3,z4] 58))) ⟨H.size,0,none⟩ 0 5=some [z0,z1,z2,z3,z4]:=HL.Blk.cells0 (new:=[z0,z1,z2,z3,z4]) (HL.Blk.new rfl)
@[go_sem] theorem T.stn61 {H:HL.Heap} {z0 z1 z2 z3 z4 z5:Value} {x0:Int} {a1:Option Addr} {l1 c1:Nat} {a2:Option Addr} {l2 c2:Nat} {a3:Option Addr} {l3 c3:Nat} {x4:Int} {a5:Option Addr} {l5 c5:Nat}:HL.storeA Tryz.prog (H.push (.cells #[z0,z1,z2,z3,z4,z5] 61)) 61 ⟨H.size,0,none⟩ (.agg #[.int .i64 x0,.slice a1 l1 c1,.slice a2 l2 c2,.slice a3 l3 c3,.int .i64 x4,.slice a5 l5 c5])=some (H.push (.cells #[.int .i64 x0,.slice a1 l1 c1,.slice a2 l2 c2,.slice a3 l3 c3,.int .i64 x4,.slice a5 l5 c5] 61)):=HL.store_new (z:=[z0,z1,z2,z3,z4,z5]) (vs:=[.int .i64 x0,.slice a1 l1 c1,.slice a2 l2 c2,.slice a3 l3 c3,.int .i64 x4,.slice a5 l5 c5]) T.size61 rfl (HL.one_all rfl)
@[go_sem] theorem T.ln61 {H:HL.Heap} {z0 z1 z2 z3 z4 z5:Value}:HL.cellsH (HL.cellH (H.push (.cells #[z0,z1,z2,z3,z4,z5] 61))) ⟨H.size,0,none⟩ 0 6=some [z0,z1,z2,z3,z4,z5]:=HL.Blk.cells0 (new:=[z0,z1,z2,z3,z4,z5]) (HL.Blk.new rfl)
@[go_sem] theorem T.stn87 {H:HL.Heap} {z0 z1 z2:Value} {x0:Int} {x1:ByteArray} {x2:Int}:HL.storeA Tryz.prog (H.push (.cells #[z0,z1,z2] 87)) 87 ⟨H.size,0,none⟩ (.agg #[.int .i64 x0,.string x1,.int .i64 x2])=some (H.push (.cells #[.int .i64 x0,.string x1,.int .i64 x2] 87)):=HL.store_new (z:=[z0,z1,z2]) (vs:=[.int .i64 x0,.string x1,.int .i64 x2]) T.size87 rfl (HL.one_all rfl)
@[go_sem] theorem T.ln87 {H:HL.Heap} {z0 z1 z2:Value}:HL.cellsH (HL.cellH (H.push (.cells #[z0,z1,z2] 87))) ⟨H.size,0,none⟩ 0 3=some [z0,z1,z2]:=HL.Blk.cells0 (new:=[z0,z1,z2]) (HL.Blk.new rfl)
@[go_sem] theorem T.stn102 {H:HL.Heap} {z0 z1:Value} {x0:Int} {x1:Int}:HL.storeA Tryz.prog (H.push (.cells #[z0,z1] 102)) 102 ⟨H.size,0,none⟩ (.agg #[.int .i64 x0,.int .i64 x1])=some (H.push (.cells #[.int .i64 x0,.int .i64 x1] 102)):=HL.store_new (z:=[z0,z1]) (vs:=[.int .i64 x0,.int .i64 x1]) T.size102 rfl (HL.one_all rfl)
@[go_sem] theorem T.ln102 {H:HL.Heap} {z0 z1:Value}:HL.cellsH (HL.cellH (H.push (.cells #[z0,z1] 102))) ⟨H.size,0,none⟩ 0 2=some [z0,z1]:=HL.Blk.cells0 (new:=[z0,z1]) (HL.Blk.new rfl)
@[go_sem] theorem T.sl9 {H:HL.Heap} {a:HL.Str}:HL.lenV Tryz.prog (HL.full H) 9 (.string (HL.bs a))=some (.int .i64 a.length):=HL.str_len Tryz.underlying9
@[go_sem] theorem T.si9 {a:HL.Str} {k:IntKind} {n:Int}:HL.indexV Tryz.prog 9 (.string (HL.bs a)) (.int k n)=HL.chk (0≤n∧n < a.length) (some (HL.u8v (HL.bt8 a n.toNat))):=HL.str_index Tryz.underlying9
@[go_sem] theorem T.ss9 {a:HL.Str} {k k2:IntKind} {x y:Int}:HL.sliceV Tryz.prog 9 (.string (HL.bs a)) (some (.int k x)) (some (.int k2 y)) none=HL.chk (0≤y∧y≤a.length) (HL.chk (0≤x∧x≤y.toNat) (some (.string (HL.bs ((a.take y.toNat).drop x.toNat))))):=HL.str_sub Tryz.underlying9
@[go_sem] theorem T.so9 {a:HL.Str} {k:IntKind} {x:Int}:HL.sliceV Tryz.prog 9 (.string (HL.bs a)) (some (.int k x)) none none=HL.chk (0≤x∧x≤a.length) (some (.string (HL.bs (a.drop x.toNat)))):=HL.str_lo Tryz.underlying9
@[go_sem] theorem T.sh9 {a:HL.Str} {k:IntKind} {y:Int}:HL.sliceV Tryz.prog 9 (.string (HL.bs a)) none (some (.int k y)) none=HL.chk (0≤y∧y≤a.length) (some (.string (HL.bs (a.take y.toNat)))):=HL.str_hi Tryz.underlying9
@[go_sem] theorem T.sl10 {H:HL.Heap} {a:HL.Str}:HL.lenV Tryz.prog (HL.full H) 10 (.string (HL.bs a))=some (.int .i64 a.length):=HL.str_len Tryz.underlying10
@[go_sem] theorem T.si10 {a:HL.Str} {k:IntKind} {n:Int}:HL.indexV Tryz.prog 10 (.string (HL.bs a)) (.int k n)=HL.chk (0≤n∧n < a.length) (some (HL.u8v (HL.bt8 a n.toNat))):=HL.str_index Tryz.underlying10
@[go_sem] theorem T.ss10 {a:HL.Str} {k k2:IntKind} {x y:Int}:HL.sliceV Tryz.prog 10 (.string (HL.bs a)) (some (.int k x)) (some (.int k2 y)) none=HL.chk (0≤y∧y≤a.length) (HL.chk (0≤x∧x≤y.toNat) (some (.string (HL.bs ((a.take y.toNat).drop x.toNat))))):=HL.str_sub Tryz.underlying10
@[go_sem] theorem T.so10 {a:HL.Str} {k:IntKind} {x:Int}:HL.sliceV Tryz.prog 10 (.string (HL.bs a)) (some (.int k x)) none none=HL.chk (0≤x∧x≤a.length) (some (.string (HL.bs (a.drop x.toNat)))):=HL.str_lo Tryz.underlying10
@[go_sem] theorem T.sh10 {a:HL.Str} {k:IntKind} {y:Int}:HL.sliceV Tryz.prog 10 (.string (HL.bs a)) none (some (.int k y)) none=HL.chk (0≤y∧y≤a.length) (some (.string (HL.bs (a.take y.toNat)))):=HL.str_hi Tryz.underlying10
@[go_sem] theorem T.sl11 {H:HL.Heap} {a:HL.Str}:HL.lenV Tryz.prog (HL.full H) 11 (.string (HL.bs a))=some (.int .i64 a.length):=HL.str_len Tryz.underlying11
@[go_sem] theorem T.si11 {a:HL.Str} {k:IntKind} {n:Int}:HL.indexV Tryz.prog 11 (.string (HL.bs a)) (.int k n)=HL.chk (0≤n∧n < a.length) (some (HL.u8v (HL.bt8 a n.toNat))):=HL.str_index Tryz.underlying11
@[go_sem] theorem T.ss11 {a:HL.Str} {k k2:IntKind} {x y:Int}:HL.sliceV Tryz.prog 11 (.string (HL.bs a)) (some (.int k x)) (some (.int k2 y)) none=HL.chk (0≤y∧y≤a.length) (HL.chk (0≤x∧x≤y.toNat) (some (.string (HL.bs ((a.take y.toNat).drop x.toNat))))):=HL.str_sub Tryz.underlying11
@[go_sem] theorem T.so11 {a:HL.Str} {k:IntKind} {x:Int}:HL.sliceV Tryz.prog 11 (.string (HL.bs a)) (some (.int k x)) none none=HL.chk (0≤x∧x≤a.length) (some (.string (HL.bs (a.drop x.toNat)))):=HL.str_lo Tryz.underlying11
@[go_sem] theorem T.sh11 {a:HL.Str} {k:IntKind} {y:Int}:HL.sliceV Tryz.prog 11 (.string (HL.bs a)) none (some (.int k y)) none=HL.chk (0≤y∧y≤a.length) (some (.string (HL.bs (a.take y.toNat)))):=HL.str_hi Tryz.underlying11
end Go.Proofs
