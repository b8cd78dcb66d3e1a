/- Texts of this proof, put together: T. The conditions of each theorem stand in it. -/
import Derived.Test.YtcffdpmmadipeaaDoorProg
import Derived.Test.YtcffdpmmadipeaaDoorMX2
set_option linter.unusedSimpArgs false
set_option linter.unusedVariables false
namespace Go.Proofs
theorem T.mixed:Tryd.prog.follows .mixedOrders=true:=by kernel_rfl
@[go_sem] theorem T.agg1:HL.aggN Tryd.prog 1=some none:=by kernel_rfl
@[go_sem] theorem T.size1:HL.sizeT Tryd.prog 1=some 1:=by kernel_rfl
@[go_sem] theorem T.bytes1:HL.bytesT Tryd.prog 1=some 8:=by kernel_rfl
@[go_sem] theorem T.zero1:HL.zeroT Tryd.prog 1=some (.nilFunc):=by kernel_rfl
@[go_sem] theorem T.agg2:HL.aggN Tryd.prog 2=some none:=by kernel_rfl
@[go_sem] theorem T.size2:HL.sizeT Tryd.prog 2=some 1:=by kernel_rfl
@[go_sem] theorem T.bytes2:HL.bytesT Tryd.prog 2=some 8:=by kernel_rfl
@[go_sem] theorem T.zero2:HL.zeroT Tryd.prog 2=some (.int .i64 0):=by kernel_rfl
@[go_sem] theorem T.agg3:HL.aggN Tryd.prog 3=some none:=by kernel_rfl
@[go_sem] theorem T.size3:HL.sizeT Tryd.prog 3=some 1:=by kernel_rfl
@[go_sem] theorem T.bytes3:HL.bytesT Tryd.prog 3=some 8:=by kernel_rfl
@[go_sem] theorem T.zero3:HL.zeroT Tryd.prog 3=some (.int .i64 0):=by kernel_rfl
@[go_sem] theorem T.agg4:HL.aggN Tryd.prog 4=some none:=by kernel_rfl
@[go_sem] theorem T.size4:HL.sizeT Tryd.prog 4=some 1:=by kernel_rfl
@[go_sem] theorem T.bytes4:HL.bytesT Tryd.prog 4=some 1:=by kernel_rfl
@[go_sem] theorem T.zero4:HL.zeroT Tryd.prog 4=some (.bool false):=by kernel_rfl
@[go_sem] theorem T.agg5:HL.aggN Tryd.prog 5=some none:=by kernel_rfl
@[go_sem] theorem T.size5:HL.sizeT Tryd.prog 5=some 1:=by kernel_rfl
@[go_sem] theorem T.bytes5:HL.bytesT Tryd.prog 5=some 1:=by kernel_rfl
@[go_sem] theorem T.zero5:HL.zeroT Tryd.prog 5=some (.int .u8 0):=by kernel_rfl
@[go_sem] theorem T.agg6:HL.aggN Tryd.prog 6=some none:=by kernel_rfl
@[go_sem] theorem T.size6:HL.sizeT Tryd.prog 6=some 1:=by kernel_rfl
@[go_sem] theorem T.bytes6:HL.bytesT Tryd.prog 6=some 1:=by kernel_rfl
@[go_sem] theorem T.zero6:HL.zeroT Tryd.prog 6=some (.int .u8 0):=by kernel_rfl
@[go_sem] theorem T.agg7:HL.aggN Tryd.prog 7=some (some 4):=by kernel_rfl
@[go_sem] theorem T.size7:HL.sizeT Tryd.prog 7=some 4:=by kernel_rfl
@[go_sem] theorem T.bytes7:HL.bytesT Tryd.prog 7=some 24:=by kernel_rfl
@[go_sem] theorem T.zero7:HL.zeroT Tryd.prog 7=some (.agg #[.int .i64 0,.int .i64 0,.bool false,.int .u8 0]):=by kernel_rfl
@[go_sem] theorem T.places7:HL.placesT Tryd.prog 7=some [(0,1),(1,1),(2,1),(3,1)]:=by kernel_rfl
@[go_sem] theorem T.field7_0:HL.fieldT Tryd.prog 7 0=some (0,2):=by kernel_rfl
@[go_sem] theorem T.fieldO7_0:HL.fieldO Tryd.prog 7 0=some 0:=by kernel_rfl
@[go_sem] theorem T.field7_1:HL.fieldT Tryd.prog 7 1=some (1,3):=by kernel_rfl
@[go_sem] theorem T.fieldO7_1:HL.fieldO Tryd.prog 7 1=some 1:=by kernel_rfl
@[go_sem] theorem T.field7_2:HL.fieldT Tryd.prog 7 2=some (2,4):=by kernel_rfl
@[go_sem] theorem T.fieldO7_2:HL.fieldO Tryd.prog 7 2=some 2:=by kernel_rfl
@[go_sem] theorem T.field7_3:HL.fieldT Tryd.prog 7 3=some (3,6):=by kernel_rfl
@[go_sem] theorem T.fieldO7_3:HL.fieldO Tryd.prog 7 3=some 3:=by kernel_rfl
@[go_sem] theorem T.agg8:HL.aggN Tryd.prog 8=some (some 4):=by kernel_rfl
@[go_sem] theorem T.size8:HL.sizeT Tryd.prog 8=some 4:=by kernel_rfl
@[go_sem] theorem T.bytes8:HL.bytesT Tryd.prog 8=some 24:=by kernel_rfl
@[go_sem] theorem T.zero8:HL.zeroT Tryd.prog 8=some (.agg #[.int .i64 0,.int .i64 0,.bool false,.int .u8 0]):=by kernel_rfl
@[go_sem] theorem T.places8:HL.placesT Tryd.prog 8=some [(0,1),(1,1),(2,1),(3,1)]:=by kernel_rfl
@[go_sem] theorem T.field8_0:HL.fieldT Tryd.prog 8 0=some (0,2):=by kernel_rfl
@[go_sem] theorem T.fieldO8_0:HL.fieldO Tryd.prog 8 0=some 0:=by kernel_rfl
@[go_sem] theorem T.field8_1:HL.fieldT Tryd.prog 8 1=some (1,3):=by kernel_rfl
@[go_sem] theorem T.fieldO8_1:HL.fieldO Tryd.prog 8 1=some 1:=by kernel_rfl
@[go_sem] theorem T.field8_2:HL.fieldT Tryd.prog 8 2=some (2,4):=by kernel_rfl
@[go_sem] theorem T.fieldO8_2:HL.fieldO Tryd.prog 8 2=some 2:=by kernel_rfl
@[go_sem] theorem T.field8_3:HL.fieldT Tryd.prog 8 3=some (3,6):=by kernel_rfl
@[go_sem] theorem T.fieldO8_3:HL.fieldO Tryd.prog 8 3=some 3:=by kernel_rfl
@[go_sem] theorem T.agg9:HL.aggN Tryd.prog 9=some none:=by kernel_rfl
@[go_sem] theorem T.size9:HL.sizeT Tryd.prog 9=some 1:=by kernel_rfl
@[go_sem] theorem T.bytes9:HL.bytesT Tryd.prog 9=some 16:=by kernel_rfl
@[go_sem] theorem T.zero9:HL.zeroT Tryd.prog 9=some (.string ⟨#[]⟩):=by kernel_rfl
@[go_sem] theorem T.agg10:HL.aggN Tryd.prog 10=some none:=by kernel_rfl
@[go_sem] theorem T.size10:HL.sizeT Tryd.prog 10=some 1:=by kernel_rfl
@[go_sem] theorem T.bytes10:HL.bytesT Tryd.prog 10=some 16:=by kernel_rfl
@[go_sem] theorem T.zero10:HL.zeroT Tryd.prog 10=some (.string ⟨#[]⟩):=by kernel_rfl
@[go_sem] theorem T.agg11:HL.aggN Tryd.prog 11=some none:=by kernel_rfl
@[go_sem] theorem T.size11:HL.sizeT Tryd.prog 11=some 1:=by kernel_rfl
@[go_sem] theorem T.bytes11:HL.bytesT Tryd.prog 11=some 16:=by kernel_rfl
@[go_sem] theorem T.zero11:HL.zeroT Tryd.prog 11=some (.string ⟨#[]⟩):=by kernel_rfl
@[go_sem] theorem T.agg12:HL.aggN Tryd.prog 12=some none:=by kernel_rfl
@[go_sem] theorem T.size12:HL.sizeT Tryd.prog 12=some 1:=by kernel_rfl
@[go_sem] theorem T.bytes12:HL.bytesT Tryd.prog 12=some 8:=by kernel_rfl
@[go_sem] theorem T.zero12:HL.zeroT Tryd.prog 12=some (.int .u64 0):=by kernel_rfl
@[go_sem] theorem T.agg13:HL.aggN Tryd.prog 13=some (some 2):=by kernel_rfl
@[go_sem] theorem T.size13:HL.sizeT Tryd.prog 13=some 2:=by kernel_rfl
@[go_sem] theorem T.bytes13:HL.bytesT Tryd.prog 13=some 24:=by kernel_rfl
@[go_sem] theorem T.zero13:HL.zeroT Tryd.prog 13=some (.agg #[.string ⟨#[]⟩,.int .u64 0]):=by kernel_rfl
@[go_sem] theorem T.places13:HL.placesT Tryd.prog 13=some [(0,1),(1,1)]:=by kernel_rfl
@[go_sem] theorem T.field13_0:HL.fieldT Tryd.prog 13 0=some (0,9):=by kernel_rfl
@[go_sem] theorem T.fieldO13_0:HL.fieldO Tryd.prog 13 0=some 0:=by kernel_rfl
@[go_sem] theorem T.field13_1:HL.fieldT Tryd.prog 13 1=some (1,12):=by kernel_rfl
@[go_sem] theorem T.fieldO13_1:HL.fieldO Tryd.prog 13 1=some 1:=by kernel_rfl
@[go_sem] theorem T.agg14:HL.aggN Tryd.prog 14=some (some 2):=by kernel_rfl
@[go_sem] theorem T.size14:HL.sizeT Tryd.prog 14=some 2:=by kernel_rfl
@[go_sem] theorem T.bytes14:HL.bytesT Tryd.prog 14=some 24:=by kernel_rfl
@[go_sem] theorem T.zero14:HL.zeroT Tryd.prog 14=some (.agg #[.string ⟨#[]⟩,.int .u64 0]):=by kernel_rfl
@[go_sem] theorem T.places14:HL.placesT Tryd.prog 14=some [(0,1),(1,1)]:=by kernel_rfl
@[go_sem] theorem T.field14_0:HL.fieldT Tryd.prog 14 0=some (0,9):=by kernel_rfl
@[go_sem] theorem T.fieldO14_0:HL.fieldO Tryd.prog 14 0=some 0:=by kernel_rfl
@[go_sem] theorem T.field14_1:HL.fieldT Tryd.prog 14 1=some (1,12):=by kernel_rfl
@[go_sem] theorem T.fieldO14_1:HL.fieldO Tryd.prog 14 1=some 1:=by kernel_rfl
@[go_sem] theorem T.agg15:HL.aggN Tryd.prog 15=some none:=by kernel_rfl
@[go_sem] theorem T.size15:HL.sizeT Tryd.prog 15=some 1:=by kernel_rfl
@[go_sem] theorem T.bytes15:HL.bytesT Tryd.prog 15=some 8:=by kernel_rfl
@[go_sem] theorem T.zero15:HL.zeroT Tryd.prog 15=some (.pointer none):=by kernel_rfl
@[go_sem] theorem T.agg16:HL.aggN Tryd.prog 16=some none:=by kernel_rfl
@[go_sem] theorem T.size16:HL.sizeT Tryd.prog 16=some 1:=by kernel_rfl
@[go_sem] theorem T.bytes16:HL.bytesT Tryd.prog 16=some 8:=by kernel_rfl
@[go_sem] theorem T.zero16:HL.zeroT Tryd.prog 16=some (.pointer none):=by kernel_rfl
@[go_sem] theorem T.agg17:HL.aggN Tryd.prog 17=some none:=by kernel_rfl
@[go_sem] theorem T.size17:HL.sizeT Tryd.prog 17=some 1:=by kernel_rfl
@[go_sem] theorem T.bytes17:HL.bytesT Tryd.prog 17=some 8:=by kernel_rfl
@[go_sem] theorem T.zero17:HL.zeroT Tryd.prog 17=some (.pointer none):=by kernel_rfl
@[go_sem] theorem T.agg18:HL.aggN Tryd.prog 18=some (some 1):=by kernel_rfl
@[go_sem] theorem T.size18:HL.sizeT Tryd.prog 18=some 1:=by kernel_rfl
@[go_sem] theorem T.bytes18:HL.bytesT Tryd.prog 18=some 8:=by kernel_rfl
@[go_sem] theorem T.zero18:HL.zeroT Tryd.prog 18=some (.agg #[.pointer none]):=by kernel_rfl
@[go_sem] theorem T.places18:HL.placesT Tryd.prog 18=some [(0,1)]:=by kernel_rfl
@[go_sem] theorem T.field18_0:HL.fieldT Tryd.prog 18 0=some (0,17):=by kernel_rfl
@[go_sem] theorem T.fieldO18_0:HL.fieldO Tryd.prog 18 0=some 0:=by kernel_rfl
@[go_sem] theorem T.agg19:HL.aggN Tryd.prog 19=some (some 1):=by kernel_rfl
@[go_sem] theorem T.size19:HL.sizeT Tryd.prog 19=some 1:=by kernel_rfl
@[go_sem] theorem T.bytes19:HL.bytesT Tryd.prog 19=some 8:=by kernel_rfl
@[go_sem] theorem T.zero19:HL.zeroT Tryd.prog 19=some (.agg #[.pointer none]):=by kernel_rfl
@[go_sem] theorem T.places19:HL.placesT Tryd.prog 19=some [(0,1)]:=by kernel_rfl
@[go_sem] theorem T.field19_0:HL.fieldT Tryd.prog 19 0=some (0,17):=by kernel_rfl
@[go_sem] theorem T.fieldO19_0:HL.fieldO Tryd.prog 19 0=some 0:=by kernel_rfl
@[go_sem] theorem T.agg20:HL.aggN Tryd.prog 20=some none:=by kernel_rfl
@[go_sem] theorem T.size20:HL.sizeT Tryd.prog 20=some 1:=by kernel_rfl
@[go_sem] theorem T.bytes20:HL.bytesT Tryd.prog 20=some 16:=by kernel_rfl
@[go_sem] theorem T.zero20:HL.zeroT Tryd.prog 20=some (.nilIface):=by kernel_rfl
@[go_sem] theorem T.agg21:HL.aggN Tryd.prog 21=some none:=by kernel_rfl
@[go_sem] theorem T.size21:HL.sizeT Tryd.prog 21=some 1:=by kernel_rfl
@[go_sem] theorem T.bytes21:HL.bytesT Tryd.prog 21=some 4:=by kernel_rfl
@[go_sem] theorem T.zero21:HL.zeroT Tryd.prog 21=some (.int .i32 0):=by kernel_rfl
@[go_sem] theorem T.agg22:HL.aggN Tryd.prog 22=some none:=by kernel_rfl
@[go_sem] theorem T.size22:HL.sizeT Tryd.prog 22=some 1:=by kernel_rfl
@[go_sem] theorem T.bytes22:HL.bytesT Tryd.prog 22=some 24:=by kernel_rfl
@[go_sem] theorem T.zero22:HL.zeroT Tryd.prog 22=some (.slice none 0 0):=by kernel_rfl
@[go_sem] theorem T.elem22:HL.elemT Tryd.prog 22=some 36:=by kernel_rfl
@[go_sem] theorem T.elemS22:HL.elemS Tryd.prog 22=some 5:=by kernel_rfl
@[go_sem] theorem T.agg23:HL.aggN Tryd.prog 23=some none:=by kernel_rfl
@[go_sem] theorem T.size23:HL.sizeT Tryd.prog 23=some 1:=by kernel_rfl
@[go_sem] theorem T.bytes23:HL.bytesT Tryd.prog 23=some 8:=by kernel_rfl
@[go_sem] theorem T.zero23:HL.zeroT Tryd.prog 23=some (.nilFunc):=by kernel_rfl
@[go_sem] theorem T.agg24:HL.aggN Tryd.prog 24=some none:=by kernel_rfl
@[go_sem] theorem T.size24:HL.sizeT Tryd.prog 24=some 1:=by kernel_rfl
@[go_sem] theorem T.bytes24:HL.bytesT Tryd.prog 24=some 8:=by kernel_rfl
@[go_sem] theorem T.zero24:HL.zeroT Tryd.prog 24=some (.nilFunc):=by kernel_rfl
@[go_sem] theorem T.agg25:HL.aggN Tryd.prog 25=some none:=by kernel_rfl
@[go_sem] theorem T.size25:HL.sizeT Tryd.prog 25=some 1:=by kernel_rfl
@[go_sem] theorem T.bytes25:HL.bytesT Tryd.prog 25=some 8:=by kernel_rfl
@[go_sem] theorem T.zero25:HL.zeroT Tryd.prog 25=some (.nilFunc):=by kernel_rfl
@[go_sem] theorem T.agg26:HL.aggN Tryd.prog 26=some none:=by kernel_rfl
@[go_sem] theorem T.size26:HL.sizeT Tryd.prog 26=some 1:=by kernel_rfl
@[go_sem] theorem T.bytes26:HL.bytesT Tryd.prog 26=some 8:=by kernel_rfl
@[go_sem] theorem T.zero26:HL.zeroT Tryd.prog 26=some (.int .i64 0):=by kernel_rfl
@[go_sem] theorem T.agg27:HL.aggN Tryd.prog 27=some (some 2):=by kernel_rfl
@[go_sem] theorem T.size27:HL.sizeT Tryd.prog 27=some 2:=by kernel_rfl
@[go_sem] theorem T.bytes27:HL.bytesT Tryd.prog 27=some 16:=by kernel_rfl
@[go_sem] theorem T.zero27:HL.zeroT Tryd.prog 27=some (.agg #[.int .i64 0,.int .i64 0]):=by kernel_rfl
@[go_sem] theorem T.places27:HL.placesT Tryd.prog 27=some [(0,1),(1,1)]:=by kernel_rfl
@[go_sem] theorem T.field27_0:HL.fieldT Tryd.prog 27 0=some (0,26):=by kernel_rfl
@[go_sem] theorem T.fieldO27_0:HL.fieldO Tryd.prog 27 0=some 0:=by kernel_rfl
@[go_sem] theorem T.field27_1:HL.fieldT Tryd.prog 27 1=some (1,3):=by kernel_rfl
@[go_sem] theorem T.fieldO27_1:HL.fieldO Tryd.prog 27 1=some 1:=by kernel_rfl
@[go_sem] theorem T.agg28:HL.aggN Tryd.prog 28=some (some 2):=by kernel_rfl
@[go_sem] theorem T.size28:HL.sizeT Tryd.prog 28=some 2:=by kernel_rfl
@[go_sem] theorem T.bytes28:HL.bytesT Tryd.prog 28=some 16:=by kernel_rfl
@[go_sem] theorem T.zero28:HL.zeroT Tryd.prog 28=some (.agg #[.int .i64 0,.int .i64 0]):=by kernel_rfl
@[go_sem] theorem T.places28:HL.placesT Tryd.prog 28=some [(0,1),(1,1)]:=by kernel_rfl
@[go_sem] theorem T.field28_0:HL.fieldT Tryd.prog 28 0=some (0,26):=by kernel_rfl
@[go_sem] theorem T.fieldO28_0:HL.fieldO Tryd.prog 28 0=some 0:=by kernel_rfl
@[go_sem] theorem T.field28_1:HL.fieldT Tryd.prog 28 1=some (1,3):=by kernel_rfl
@[go_sem] theorem T.fieldO28_1:HL.fieldO Tryd.prog 28 1=some 1:=by kernel_rfl
@[go_sem] theorem T.agg30:HL.aggN Tryd.prog 30=some none:=by kernel_rfl
@[go_sem] theorem T.size30:HL.sizeT Tryd.prog 30=some 1:=by kernel_rfl
@[go_sem] theorem T.bytes30:HL.bytesT Tryd.prog 30=some 8:=by kernel_rfl
@[go_sem] theorem T.zero30:HL.zeroT Tryd.prog 30=some (.nilFunc):=by kernel_rfl
@[go_sem] theorem T.agg31:HL.aggN Tryd.prog 31=some none:=by kernel_rfl
@[go_sem] theorem T.size31:HL.sizeT Tryd.prog 31=some 1:=by kernel_rfl
@[go_sem] theorem T.bytes31:HL.bytesT Tryd.prog 31=some 8:=by kernel_rfl
@[go_sem] theorem T.zero31:HL.zeroT Tryd.prog 31=some (.nilFunc):=by kernel_rfl
@[go_sem] theorem T.agg32:HL.aggN Tryd.prog 32=some none:=by kernel_rfl
@[go_sem] theorem T.size32:HL.sizeT Tryd.prog 32=some 1:=by kernel_rfl
@[go_sem] theorem T.bytes32:HL.bytesT Tryd.prog 32=some 8:=by kernel_rfl
@[go_sem] theorem T.zero32:HL.zeroT Tryd.prog 32=some (.nilFunc):=by kernel_rfl
@[go_sem] theorem T.agg33:HL.aggN Tryd.prog 33=some none:=by kernel_rfl
@[go_sem] theorem T.size33:HL.sizeT Tryd.prog 33=some 1:=by kernel_rfl
@[go_sem] theorem T.bytes33:HL.bytesT Tryd.prog 33=some 24:=by kernel_rfl
@[go_sem] theorem T.zero33:HL.zeroT Tryd.prog 33=some (.slice none 0 0):=by kernel_rfl
@[go_sem] theorem T.elem33:HL.elemT Tryd.prog 33=some 9:=by kernel_rfl
@[go_sem] theorem T.elemS33:HL.elemS Tryd.prog 33=some 1:=by kernel_rfl
@[go_sem] theorem T.agg34:HL.aggN Tryd.prog 34=some none:=by kernel_rfl
@[go_sem] theorem T.size34:HL.sizeT Tryd.prog 34=some 1:=by kernel_rfl
@[go_sem] theorem T.bytes34:HL.bytesT Tryd.prog 34=some 24:=by kernel_rfl
@[go_sem] theorem T.zero34:HL.zeroT Tryd.prog 34=some (.slice none 0 0):=by kernel_rfl
@[go_sem] theorem T.elem34:HL.elemT Tryd.prog 34=some 3:=by kernel_rfl
@[go_sem] theorem T.elemS34:HL.elemS Tryd.prog 34=some 1:=by kernel_rfl
@[go_sem] theorem T.agg35:HL.aggN Tryd.prog 35=some (some 5):=by kernel_rfl
@[go_sem] theorem T.size35:HL.sizeT Tryd.prog 35=some 5:=by kernel_rfl
@[go_sem] theorem T.bytes35:HL.bytesT Tryd.prog 35=some 88:=by kernel_rfl
@[go_sem] theorem T.zero35:HL.zeroT Tryd.prog 35=some (.agg #[.int .i64 0,.slice none 0 0,.slice none 0 0,.slice none 0 0,.int .i64 0]):=by kernel_rfl
@[go_sem] theorem T.places35:HL.placesT Tryd.prog 35=some [(0,1),(1,1),(2,1),(3,1),(4,1)]:=by kernel_rfl
@[go_sem] theorem T.field35_0:HL.fieldT Tryd.prog 35 0=some (0,3):=by kernel_rfl
@[go_sem] theorem T.fieldO35_0:HL.fieldO Tryd.prog 35 0=some 0:=by kernel_rfl
@[go_sem] theorem T.field35_1:HL.fieldT Tryd.prog 35 1=some (1,33):=by kernel_rfl
@[go_sem] theorem T.fieldO35_1:HL.fieldO Tryd.prog 35 1=some 1:=by kernel_rfl
@[go_sem] theorem T.field35_2:HL.fieldT Tryd.prog 35 2=some (2,34):=by kernel_rfl
@[go_sem] theorem T.fieldO35_2:HL.fieldO Tryd.prog 35 2=some 2:=by kernel_rfl
@[go_sem] theorem T.field35_3:HL.fieldT Tryd.prog 35 3=some (3,34):=by kernel_rfl
@[go_sem] theorem T.fieldO35_3:HL.fieldO Tryd.prog 35 3=some 3:=by kernel_rfl
@[go_sem] theorem T.field35_4:HL.fieldT Tryd.prog 35 4=some (4,3):=by kernel_rfl
@[go_sem] theorem T.fieldO35_4:HL.fieldO Tryd.prog 35 4=some 4:=by kernel_rfl
@[go_sem] theorem T.agg36:HL.aggN Tryd.prog 36=some (some 5):=by kernel_rfl
@[go_sem] theorem T.size36:HL.sizeT Tryd.prog 36=some 5:=by kernel_rfl
@[go_sem] theorem T.bytes36:HL.bytesT Tryd.prog 36=some 88:=by kernel_rfl
@[go_sem] theorem T.zero36:HL.zeroT Tryd.prog 36=some (.agg #[.int .i64 0,.slice none 0 0,.slice none 0 0,.slice none 0 0,.int .i64 0]):=by kernel_rfl
@[go_sem] theorem T.places36:HL.placesT Tryd.prog 36=some [(0,1),(1,1),(2,1),(3,1),(4,1)]:=by kernel_rfl
@[go_sem] theorem T.field36_0:HL.fieldT Tryd.prog 36 0=some (0,3):=by kernel_rfl
@[go_sem] theorem T.fieldO36_0:HL.fieldO Tryd.prog 36 0=some 0:=by kernel_rfl
@[go_sem] theorem T.field36_1:HL.fieldT Tryd.prog 36 1=some (1,33):=by kernel_rfl
@[go_sem] theorem T.fieldO36_1:HL.fieldO Tryd.prog 36 1=some 1:=by kernel_rfl
@[go_sem] theorem T.field36_2:HL.fieldT Tryd.prog 36 2=some (2,34):=by kernel_rfl
@[go_sem] theorem T.fieldO36_2:HL.fieldO Tryd.prog 36 2=some 2:=by kernel_rfl
@[go_sem] theorem T.field36_3:HL.fieldT Tryd.prog 36 3=some (3,34):=by kernel_rfl
@[go_sem] theorem T.fieldO36_3:HL.fieldO Tryd.prog 36 3=some 3:=by kernel_rfl
@[go_sem] theorem T.field36_4:HL.fieldT Tryd.prog 36 4=some (4,3):=by kernel_rfl
@[go_sem] theorem T.fieldO36_4:HL.fieldO Tryd.prog 36 4=some 4:=by kernel_rfl
@[go_sem] theorem T.agg38:HL.aggN Tryd.prog 38=some none:=by kernel_rfl
@[go_sem] theorem T.size38:HL.sizeT Tryd.prog 38=some 1:=by kernel_rfl
@[go_sem] theorem T.bytes38:HL.bytesT Tryd.prog 38=some 8:=by kernel_rfl
@[go_sem] theorem T.zero38:HL.zeroT Tryd.prog 38=some (.nilFunc):=by kernel_rfl
@[go_sem] theorem T.agg39:HL.aggN Tryd.prog 39=some none:=by kernel_rfl
@[go_sem] theorem T.size39:HL.sizeT Tryd.prog 39=some 1:=by kernel_rfl
@[go_sem] theorem T.bytes39:HL.bytesT Tryd.prog 39=some 8:=by kernel_rfl
@[go_sem] theorem T.zero39:HL.zeroT Tryd.prog 39=some (.nilFunc):=by kernel_rfl
@[go_sem] theorem T.agg40:HL.aggN Tryd.prog 40=some none:=by kernel_rfl
@[go_sem] theorem T.size40:HL.sizeT Tryd.prog 40=some 1:=by kernel_rfl
@[go_sem] theorem T.bytes40:HL.bytesT Tryd.prog 40=some 8:=by kernel_rfl
@[go_sem] theorem T.zero40:HL.zeroT Tryd.prog 40=some (.pointer none):=by kernel_rfl
@[go_sem] theorem T.agg41:HL.aggN Tryd.prog 41=some none:=by kernel_rfl
@[go_sem] theorem T.size41:HL.sizeT Tryd.prog 41=some 1:=by kernel_rfl
@[go_sem] theorem T.bytes41:HL.bytesT Tryd.prog 41=some 24:=by kernel_rfl
@[go_sem] theorem T.zero41:HL.zeroT Tryd.prog 41=some (.slice none 0 0):=by kernel_rfl
@[go_sem] theorem T.elem41:HL.elemT Tryd.prog 41=some 5:=by kernel_rfl
@[go_sem] theorem T.elemS41:HL.elemS Tryd.prog 41=some 1:=by kernel_rfl
@[go_sem] theorem T.agg42:HL.aggN Tryd.prog 42=some (some 2):=by kernel_rfl
@[go_sem] theorem T.size42:HL.sizeT Tryd.prog 42=some 2:=by kernel_rfl
@[go_sem] theorem T.bytes42:HL.bytesT Tryd.prog 42=some 32:=by kernel_rfl
@[go_sem] theorem T.zero42:HL.zeroT Tryd.prog 42=some (.agg #[.pointer none,.slice none 0 0]):=by kernel_rfl
@[go_sem] theorem T.places42:HL.placesT Tryd.prog 42=some [(0,1),(1,1)]:=by kernel_rfl
@[go_sem] theorem T.field42_0:HL.fieldT Tryd.prog 42 0=some (0,40):=by kernel_rfl
@[go_sem] theorem T.fieldO42_0:HL.fieldO Tryd.prog 42 0=some 0:=by kernel_rfl
@[go_sem] theorem T.field42_1:HL.fieldT Tryd.prog 42 1=some (1,41):=by kernel_rfl
@[go_sem] theorem T.fieldO42_1:HL.fieldO Tryd.prog 42 1=some 1:=by kernel_rfl
@[go_sem] theorem T.agg43:HL.aggN Tryd.prog 43=some (some 2):=by kernel_rfl
@[go_sem] theorem T.size43:HL.sizeT Tryd.prog 43=some 2:=by kernel_rfl
@[go_sem] theorem T.bytes43:HL.bytesT Tryd.prog 43=some 32:=by kernel_rfl
@[go_sem] theorem T.zero43:HL.zeroT Tryd.prog 43=some (.agg #[.pointer none,.slice none 0 0]):=by kernel_rfl
@[go_sem] theorem T.places43:HL.placesT Tryd.prog 43=some [(0,1),(1,1)]:=by kernel_rfl
@[go_sem] theorem T.field43_0:HL.fieldT Tryd.prog 43 0=some (0,40):=by kernel_rfl
@[go_sem] theorem T.fieldO43_0:HL.fieldO Tryd.prog 43 0=some 0:=by kernel_rfl
@[go_sem] theorem T.field43_1:HL.fieldT Tryd.prog 43 1=some (1,41):=by kernel_rfl
@[go_sem] theorem T.fieldO43_1:HL.fieldO Tryd.prog 43 1=some 1:=by kernel_rfl
@[go_sem] theorem T.agg44:HL.aggN Tryd.prog 44=some (some 3):=by kernel_rfl
@[go_sem] theorem T.size44:HL.sizeT Tryd.prog 44=some 3:=by kernel_rfl
@[go_sem] theorem T.bytes44:HL.bytesT Tryd.prog 44=some 56:=by kernel_rfl
@[go_sem] theorem T.zero44:HL.zeroT Tryd.prog 44=some (.agg #[.slice none 0 0,.pointer none,.slice none 0 0]):=by kernel_rfl
@[go_sem] theorem T.places44:HL.placesT Tryd.prog 44=some [(0,1),(1,2)]:=by kernel_rfl
@[go_sem] theorem T.field44_0:HL.fieldT Tryd.prog 44 0=some (0,22):=by kernel_rfl
@[go_sem] theorem T.fieldO44_0:HL.fieldO Tryd.prog 44 0=some 0:=by kernel_rfl
@[go_sem] theorem T.field44_1:HL.fieldT Tryd.prog 44 1=some (1,43):=by kernel_rfl
@[go_sem] theorem T.fieldO44_1:HL.fieldO Tryd.prog 44 1=some 1:=by kernel_rfl
@[go_sem] theorem T.agg45:HL.aggN Tryd.prog 45=some (some 3):=by kernel_rfl
@[go_sem] theorem T.size45:HL.sizeT Tryd.prog 45=some 3:=by kernel_rfl
@[go_sem] theorem T.bytes45:HL.bytesT Tryd.prog 45=some 56:=by kernel_rfl
@[go_sem] theorem T.zero45:HL.zeroT Tryd.prog 45=some (.agg #[.slice none 0 0,.pointer none,.slice none 0 0]):=by kernel_rfl
@[go_sem] theorem T.places45:HL.placesT Tryd.prog 45=some [(0,1),(1,2)]:=by kernel_rfl
@[go_sem] theorem T.field45_0:HL.fieldT Tryd.prog 45 0=some (0,22):=by kernel_rfl
@[go_sem] theorem T.fieldO45_0:HL.fieldO Tryd.prog 45 0=some 0:=by kernel_rfl
@[go_sem] theorem T.field45_1:HL.fieldT Tryd.prog 45 1=some (1,43):=by kernel_rfl
@[go_sem] theorem T.fieldO45_1:HL.fieldO Tryd.prog 45 1=some 1:=by kernel_rfl
@[go_sem] theorem T.agg46:HL.aggN Tryd.prog 46=some none:=by kernel_rfl
@[go_sem] theorem T.size46:HL.sizeT Tryd.prog 46=some 1:=by kernel_rfl
@[go_sem] theorem T.bytes46:HL.bytesT Tryd.prog 46=some 8:=by kernel_rfl
@[go_sem] theorem T.zero46:HL.zeroT Tryd.prog 46=some (.nilFunc):=by kernel_rfl
@[go_sem] theorem T.agg47:HL.aggN Tryd.prog 47=some none:=by kernel_rfl
@[go_sem] theorem T.size47:HL.sizeT Tryd.prog 47=some 1:=by kernel_rfl
@[go_sem] theorem T.bytes47:HL.bytesT Tryd.prog 47=some 8:=by kernel_rfl
@[go_sem] theorem T.zero47:HL.zeroT Tryd.prog 47=some (.nilFunc):=by kernel_rfl
@[go_sem] theorem T.agg48:HL.aggN Tryd.prog 48=some none:=by kernel_rfl
@[go_sem] theorem T.size48:HL.sizeT Tryd.prog 48=some 1:=by kernel_rfl
@[go_sem] theorem T.bytes48:HL.bytesT Tryd.prog 48=some 24:=by kernel_rfl
@[go_sem] theorem T.zero48:HL.zeroT Tryd.prog 48=some (.slice none 0 0):=by kernel_rfl
@[go_sem] theorem T.elem48:HL.elemT Tryd.prog 48=some 77:=by kernel_rfl
@[go_sem] theorem T.elemS48:HL.elemS Tryd.prog 48=some 3:=by kernel_rfl
@[go_sem] theorem T.agg50:HL.aggN Tryd.prog 50=some none:=by kernel_rfl
@[go_sem] theorem T.size50:HL.sizeT Tryd.prog 50=some 1:=by kernel_rfl
@[go_sem] theorem T.bytes50:HL.bytesT Tryd.prog 50=some 8:=by kernel_rfl
@[go_sem] theorem T.zero50:HL.zeroT Tryd.prog 50=some (.nilFunc):=by kernel_rfl
@[go_sem] theorem T.agg51:HL.aggN Tryd.prog 51=some none:=by kernel_rfl
@[go_sem] theorem T.size51:HL.sizeT Tryd.prog 51=some 1:=by kernel_rfl
@[go_sem] theorem T.bytes51:HL.bytesT Tryd.prog 51=some 8:=by kernel_rfl
@[go_sem] theorem T.zero51:HL.zeroT Tryd.prog 51=some (.pointer none):=by kernel_rfl
@[go_sem] theorem T.agg52:HL.aggN Tryd.prog 52=some (some 5):=by kernel_rfl
@[go_sem] theorem T.size52:HL.sizeT Tryd.prog 52=some 5:=by kernel_rfl
@[go_sem] theorem T.bytes52:HL.bytesT Tryd.prog 52=some 56:=by kernel_rfl
@[go_sem] theorem T.zero52:HL.zeroT Tryd.prog 52=some (.agg #[.slice none 0 0,.int .i64 0,.int .i64 0,.int .i64 0,.int .i64 0]):=by kernel_rfl
@[go_sem] theorem T.places52:HL.placesT Tryd.prog 52=some [(0,1),(1,1),(2,1),(3,2)]:=by kernel_rfl
@[go_sem] theorem T.field52_0:HL.fieldT Tryd.prog 52 0=some (0,48):=by kernel_rfl
@[go_sem] theorem T.fieldO52_0:HL.fieldO Tryd.prog 52 0=some 0:=by kernel_rfl
@[go_sem] theorem T.field52_1:HL.fieldT Tryd.prog 52 1=some (1,3):=by kernel_rfl
@[go_sem] theorem T.fieldO52_1:HL.fieldO Tryd.prog 52 1=some 1:=by kernel_rfl
@[go_sem] theorem T.field52_2:HL.fieldT Tryd.prog 52 2=some (2,3):=by kernel_rfl
@[go_sem] theorem T.fieldO52_2:HL.fieldO Tryd.prog 52 2=some 2:=by kernel_rfl
@[go_sem] theorem T.field52_3:HL.fieldT Tryd.prog 52 3=some (3,28):=by kernel_rfl
@[go_sem] theorem T.fieldO52_3:HL.fieldO Tryd.prog 52 3=some 3:=by kernel_rfl
@[go_sem] theorem T.agg53:HL.aggN Tryd.prog 53=some (some 5):=by kernel_rfl
@[go_sem] theorem T.size53:HL.sizeT Tryd.prog 53=some 5:=by kernel_rfl
@[go_sem] theorem T.bytes53:HL.bytesT Tryd.prog 53=some 56:=by kernel_rfl
@[go_sem] theorem T.zero53:HL.zeroT Tryd.prog 53=some (.agg #[.slice none 0 0,.int .i64 0,.int .i64 0,.int .i64 0,.int .i64 0]):=by kernel_rfl
@[go_sem] theorem T.places53:HL.placesT Tryd.prog 53=some [(0,1),(1,1),(2,1),(3,2)]:=by kernel_rfl
@[go_sem] theorem T.field53_0:HL.fieldT Tryd.prog 53 0=some (0,48):=by kernel_rfl
@[go_sem] theorem T.fieldO53_0:HL.fieldO Tryd.prog 53 0=some 0:=by kernel_rfl
@[go_sem] theorem T.field53_1:HL.fieldT Tryd.prog 53 1=some (1,3):=by kernel_rfl
@[go_sem] theorem T.fieldO53_1:HL.fieldO Tryd.prog 53 1=some 1:=by kernel_rfl
@[go_sem] theorem T.field53_2:HL.fieldT Tryd.prog 53 2=some (2,3):=by kernel_rfl
@[go_sem] theorem T.fieldO53_2:HL.fieldO Tryd.prog 53 2=some 2:=by kernel_rfl
@[go_sem] theorem T.field53_3:HL.fieldT Tryd.prog 53 3=some (3,28):=by kernel_rfl
@[go_sem] theorem T.fieldO53_3:HL.fieldO Tryd.prog 53 3=some 3:=by kernel_rfl
@[go_sem] theorem T.agg54:HL.aggN Tryd.prog 54=some none:=by kernel_rfl
@[go_sem] theorem T.size54:HL.sizeT Tryd.prog 54=some 1:=by kernel_rfl
@[go_sem] theorem T.bytes54:HL.bytesT Tryd.prog 54=some 24:=by kernel_rfl
@[go_sem] theorem T.zero54:HL.zeroT Tryd.prog 54=some (.slice none 0 0):=by kernel_rfl
@[go_sem] theorem T.elem54:HL.elemT Tryd.prog 54=some 56:=by kernel_rfl
@[go_sem] theorem T.elemS54:HL.elemS Tryd.prog 54=some 6:=by kernel_rfl
@[go_sem] theorem T.agg55:HL.aggN Tryd.prog 55=some (some 6):=by kernel_rfl
@[go_sem] theorem T.size55:HL.sizeT Tryd.prog 55=some 6:=by kernel_rfl
@[go_sem] theorem T.bytes55:HL.bytesT Tryd.prog 55=some 112:=by kernel_rfl
@[go_sem] theorem T.zero55:HL.zeroT Tryd.prog 55=some (.agg #[.int .i64 0,.slice none 0 0,.slice none 0 0,.slice none 0 0,.int .i64 0,.slice none 0 0]):=by kernel_rfl
@[go_sem] theorem T.places55:HL.placesT Tryd.prog 55=some [(0,5),(5,1)]:=by kernel_rfl
@[go_sem] theorem T.field55_0:HL.fieldT Tryd.prog 55 0=some (0,36):=by kernel_rfl
@[go_sem] theorem T.fieldO55_0:HL.fieldO Tryd.prog 55 0=some 0:=by kernel_rfl
@[go_sem] theorem T.field55_1:HL.fieldT Tryd.prog 55 1=some (5,54):=by kernel_rfl
@[go_sem] theorem T.fieldO55_1:HL.fieldO Tryd.prog 55 1=some 5:=by kernel_rfl
@[go_sem] theorem T.agg56:HL.aggN Tryd.prog 56=some (some 6):=by kernel_rfl
@[go_sem] theorem T.size56:HL.sizeT Tryd.prog 56=some 6:=by kernel_rfl
@[go_sem] theorem T.bytes56:HL.bytesT Tryd.prog 56=some 112:=by kernel_rfl
@[go_sem] theorem T.zero56:HL.zeroT Tryd.prog 56=some (.agg #[.int .i64 0,.slice none 0 0,.slice none 0 0,.slice none 0 0,.int .i64 0,.slice none 0 0]):=by kernel_rfl
@[go_sem] theorem T.places56:HL.placesT Tryd.prog 56=some [(0,5),(5,1)]:=by kernel_rfl
@[go_sem] theorem T.field56_0:HL.fieldT Tryd.prog 56 0=some (0,36):=by kernel_rfl
@[go_sem] theorem T.fieldO56_0:HL.fieldO Tryd.prog 56 0=some 0:=by kernel_rfl
@[go_sem] theorem T.field56_1:HL.fieldT Tryd.prog 56 1=some (5,54):=by kernel_rfl
@[go_sem] theorem T.fieldO56_1:HL.fieldO Tryd.prog 56 1=some 5:=by kernel_rfl
@[go_sem] theorem T.agg57:HL.aggN Tryd.prog 57=some none:=by kernel_rfl
@[go_sem] theorem T.size57:HL.sizeT Tryd.prog 57=some 1:=by kernel_rfl
@[go_sem] theorem T.bytes57:HL.bytesT Tryd.prog 57=some 8:=by kernel_rfl
@[go_sem] theorem T.zero57:HL.zeroT Tryd.prog 57=some (.nilFunc):=by kernel_rfl
@[go_sem] theorem T.agg58:HL.aggN Tryd.prog 58=some none:=by kernel_rfl
@[go_sem] theorem T.size58:HL.sizeT Tryd.prog 58=some 1:=by kernel_rfl
@[go_sem] theorem T.bytes58:HL.bytesT Tryd.prog 58=some 8:=by kernel_rfl
@[go_sem] theorem T.zero58:HL.zeroT Tryd.prog 58=some (.nilFunc):=by kernel_rfl
@[go_sem] theorem T.agg59:HL.aggN Tryd.prog 59=some none:=by kernel_rfl
@[go_sem] theorem T.size59:HL.sizeT Tryd.prog 59=some 1:=by kernel_rfl
@[go_sem] theorem T.bytes59:HL.bytesT Tryd.prog 59=some 8:=by kernel_rfl
@[go_sem] theorem T.zero59:HL.zeroT Tryd.prog 59=some (.nilFunc):=by kernel_rfl
@[go_sem] theorem T.agg60:HL.aggN Tryd.prog 60=some none:=by kernel_rfl
@[go_sem] theorem T.size60:HL.sizeT Tryd.prog 60=some 1:=by kernel_rfl
@[go_sem] theorem T.bytes60:HL.bytesT Tryd.prog 60=some 8:=by kernel_rfl
@[go_sem] theorem T.zero60:HL.zeroT Tryd.prog 60=some (.nilFunc):=by kernel_rfl
@[go_sem] theorem T.agg61:HL.aggN Tryd.prog 61=some none:=by kernel_rfl
@[go_sem] theorem T.size61:HL.sizeT Tryd.prog 61=some 1:=by kernel_rfl
@[go_sem] theorem T.bytes61:HL.bytesT Tryd.prog 61=some 8:=by kernel_rfl
@[go_sem] theorem T.zero61:HL.zeroT Tryd.prog 61=some (.nilFunc):=by kernel_rfl
@[go_sem] theorem T.agg62:HL.aggN Tryd.prog 62=some none:=by kernel_rfl
@[go_sem] theorem T.size62:HL.sizeT Tryd.prog 62=some 1:=by kernel_rfl
@[go_sem] theorem T.bytes62:HL.bytesT Tryd.prog 62=some 8:=by kernel_rfl
@[go_sem] theorem T.zero62:HL.zeroT Tryd.prog 62=some (.nilFunc):=by kernel_rfl
@[go_sem] theorem T.agg63:HL.aggN Tryd.prog 63=some none:=by kernel_rfl
@[go_sem] theorem T.size63:HL.sizeT Tryd.prog 63=some 1:=by kernel_rfl
@[go_sem] theorem T.bytes63:HL.bytesT Tryd.prog 63=some 8:=by kernel_rfl
@[go_sem] theorem T.zero63:HL.zeroT Tryd.prog 63=some (.nilFunc):=by kernel_rfl
@[go_sem] theorem T.agg64:HL.aggN Tryd.prog 64=some none:=by kernel_rfl
@[go_sem] theorem T.size64:HL.sizeT Tryd.prog 64=some 1:=by kernel_rfl
@[go_sem] theorem T.bytes64:HL.bytesT Tryd.prog 64=some 8:=by kernel_rfl
@[go_sem] theorem T.zero64:HL.zeroT Tryd.prog 64=some (.nilFunc):=by kernel_rfl
@[go_sem] theorem T.agg65:HL.aggN Tryd.prog 65=some none:=by kernel_rfl
@[go_sem] theorem T.size65:HL.sizeT Tryd.prog 65=some 1:=by kernel_rfl
@[go_sem] theorem T.bytes65:HL.bytesT Tryd.prog 65=some 8:=by kernel_rfl
@[go_sem] theorem T.zero65:HL.zeroT Tryd.prog 65=some (.pointer none):=by kernel_rfl
@[go_sem] theorem T.agg66:HL.aggN Tryd.prog 66=some none:=by kernel_rfl
@[go_sem] theorem T.size66:HL.sizeT Tryd.prog 66=some 1:=by kernel_rfl
@[go_sem] theorem T.bytes66:HL.bytesT Tryd.prog 66=some 8:=by kernel_rfl
@[go_sem] theorem T.zero66:HL.zeroT Tryd.prog 66=some (.nilFunc):=by kernel_rfl
@[go_sem] theorem T.agg67:HL.aggN Tryd.prog 67=some none:=by kernel_rfl
@[go_sem] theorem T.size67:HL.sizeT Tryd.prog 67=some 1:=by kernel_rfl
@[go_sem] theorem T.bytes67:HL.bytesT Tryd.prog 67=some 8:=by kernel_rfl
@[go_sem] theorem T.zero67:HL.zeroT Tryd.prog 67=some (.nilFunc):=by kernel_rfl
@[go_sem] theorem T.agg68:HL.aggN Tryd.prog 68=some none:=by kernel_rfl
@[go_sem] theorem T.size68:HL.sizeT Tryd.prog 68=some 1:=by kernel_rfl
@[go_sem] theorem T.bytes68:HL.bytesT Tryd.prog 68=some 8:=by kernel_rfl
@[go_sem] theorem T.zero68:HL.zeroT Tryd.prog 68=some (.nilFunc):=by kernel_rfl
@[go_sem] theorem T.agg69:HL.aggN Tryd.prog 69=some none:=by kernel_rfl
@[go_sem] theorem T.size69:HL.sizeT Tryd.prog 69=some 1:=by kernel_rfl
@[go_sem] theorem T.bytes69:HL.bytesT Tryd.prog 69=some 8:=by kernel_rfl
@[go_sem] theorem T.zero69:HL.zeroT Tryd.prog 69=some (.nilFunc):=by kernel_rfl
@[go_sem] theorem T.agg70:HL.aggN Tryd.prog 70=some none:=by kernel_rfl
@[go_sem] theorem T.size70:HL.sizeT Tryd.prog 70=some 1:=by kernel_rfl
@[go_sem] theorem T.bytes70:HL.bytesT Tryd.prog 70=some 8:=by kernel_rfl
@[go_sem] theorem T.zero70:HL.zeroT Tryd.prog 70=some (.nilFunc):=by kernel_rfl
@[go_sem] theorem T.agg71:HL.aggN Tryd.prog 71=some none:=by kernel_rfl
@[go_sem] theorem T.size71:HL.sizeT Tryd.prog 71=some 1:=by kernel_rfl
@[go_sem] theorem T.bytes71:HL.bytesT Tryd.prog 71=some 8:=by kernel_rfl
@[go_sem] theorem T.zero71:HL.zeroT Tryd.prog 71=some (.nilFunc):=by kernel_rfl
@[go_sem] theorem T.agg72:HL.aggN Tryd.prog 72=some none:=by kernel_rfl
@[go_sem] theorem T.size72:HL.sizeT Tryd.prog 72=some 1:=by kernel_rfl
@[go_sem] theorem T.bytes72:HL.bytesT Tryd.prog 72=some 8:=by kernel_rfl
@[go_sem] theorem T.zero72:HL.zeroT Tryd.prog 72=some (.pointer none):=by kernel_rfl
@[go_sem] theorem T.agg73:HL.aggN Tryd.prog 73=some none:=by kernel_rfl
@[go_sem] theorem T.size73:HL.sizeT Tryd.prog 73=some 1:=by kernel_rfl
@[go_sem] theorem T.bytes73:HL.bytesT Tryd.prog 73=some 8:=by kernel_rfl
@[go_sem] theorem T.zero73:HL.zeroT Tryd.prog 73=some (.nilFunc):=by kernel_rfl
@[go_sem] theorem T.agg74:HL.aggN Tryd.prog 74=some none:=by kernel_rfl
@[go_sem] theorem T.size74:HL.sizeT Tryd.prog 74=some 1:=by kernel_rfl
@[go_sem] theorem T.bytes74:HL.bytesT Tryd.prog 74=some 8:=by kernel_rfl
@[go_sem] theorem T.zero74:HL.zeroT Tryd.prog 74=some (.nilFunc):=by kernel_rfl
@[go_sem] theorem T.agg75:HL.aggN Tryd.prog 75=some none:=by kernel_rfl
@[go_sem] theorem T.size75:HL.sizeT Tryd.prog 75=some 1:=by kernel_rfl
@[go_sem] theorem T.bytes75:HL.bytesT Tryd.prog 75=some 8:=by kernel_rfl
@[go_sem] theorem T.zero75:HL.zeroT Tryd.prog 75=some (.nilFunc):=by kernel_rfl
@[go_sem] theorem T.agg76:HL.aggN Tryd.prog 76=some (some 3):=by kernel_rfl
@[go_sem] theorem T.size76:HL.sizeT Tryd.prog 76=some 3:=by kernel_rfl
@[go_sem] theorem T.bytes76:HL.bytesT Tryd.prog 76=some 32:=by kernel_rfl
@[go_sem] theorem T.zero76:HL.zeroT Tryd.prog 76=some (.agg #[.int .i64 0,.string ⟨#[]⟩,.int .i64 0]):=by kernel_rfl
@[go_sem] theorem T.places76:HL.placesT Tryd.prog 76=some [(0,1),(1,1),(2,1)]:=by kernel_rfl
@[go_sem] theorem T.field76_0:HL.fieldT Tryd.prog 76 0=some (0,3):=by kernel_rfl
@[go_sem] theorem T.fieldO76_0:HL.fieldO Tryd.prog 76 0=some 0:=by kernel_rfl
@[go_sem] theorem T.field76_1:HL.fieldT Tryd.prog 76 1=some (1,9):=by kernel_rfl
@[go_sem] theorem T.fieldO76_1:HL.fieldO Tryd.prog 76 1=some 1:=by kernel_rfl
@[go_sem] theorem T.field76_2:HL.fieldT Tryd.prog 76 2=some (2,3):=by kernel_rfl
@[go_sem] theorem T.fieldO76_2:HL.fieldO Tryd.prog 76 2=some 2:=by kernel_rfl
@[go_sem] theorem T.agg77:HL.aggN Tryd.prog 77=some (some 3):=by kernel_rfl
@[go_sem] theorem T.size77:HL.sizeT Tryd.prog 77=some 3:=by kernel_rfl
@[go_sem] theorem T.bytes77:HL.bytesT Tryd.prog 77=some 32:=by kernel_rfl
@[go_sem] theorem T.zero77:HL.zeroT Tryd.prog 77=some (.agg #[.int .i64 0,.string ⟨#[]⟩,.int .i64 0]):=by kernel_rfl
@[go_sem] theorem T.places77:HL.placesT Tryd.prog 77=some [(0,1),(1,1),(2,1)]:=by kernel_rfl
@[go_sem] theorem T.field77_0:HL.fieldT Tryd.prog 77 0=some (0,3):=by kernel_rfl
@[go_sem] theorem T.fieldO77_0:HL.fieldO Tryd.prog 77 0=some 0:=by kernel_rfl
@[go_sem] theorem T.field77_1:HL.fieldT Tryd.prog 77 1=some (1,9):=by kernel_rfl
@[go_sem] theorem T.fieldO77_1:HL.fieldO Tryd.prog 77 1=some 1:=by kernel_rfl
@[go_sem] theorem T.field77_2:HL.fieldT Tryd.prog 77 2=some (2,3):=by kernel_rfl
@[go_sem] theorem T.fieldO77_2:HL.fieldO Tryd.prog 77 2=some 2:=by kernel_rfl
@[go_sem] theorem T.agg78:HL.aggN Tryd.prog 78=some none:=by kernel_rfl
@[go_sem] theorem T.size78:HL.sizeT Tryd.prog 78=some 1:=by kernel_rfl
@[go_sem] theorem T.bytes78:HL.bytesT Tryd.prog 78=some 8:=by kernel_rfl
@[go_sem] theorem T.zero78:HL.zeroT Tryd.prog 78=some (.nilFunc):=by kernel_rfl
@[go_sem] theorem T.agg79:HL.aggN Tryd.prog 79=some none:=by kernel_rfl
@[go_sem] theorem T.size79:HL.sizeT Tryd.prog 79=some 1:=by kernel_rfl
@[go_sem] theorem T.bytes79:HL.bytesT Tryd.prog 79=some 8:=by kernel_rfl
@[go_sem] theorem T.zero79:HL.zeroT Tryd.prog 79=some (.nilFunc):=by kernel_rfl
@[go_sem] theorem T.agg80:HL.aggN Tryd.prog 80=some none:=by kernel_rfl
@[go_sem] theorem T.size80:HL.sizeT Tryd.prog 80=some 1:=by kernel_rfl
@[go_sem] theorem T.bytes80:HL.bytesT Tryd.prog 80=some 8:=by kernel_rfl
@[go_sem] theorem T.zero80:HL.zeroT Tryd.prog 80=some (.nilFunc):=by kernel_rfl
@[go_sem] theorem T.agg81:HL.aggN Tryd.prog 81=some none:=by kernel_rfl
@[go_sem] theorem T.size81:HL.sizeT Tryd.prog 81=some 1:=by kernel_rfl
@[go_sem] theorem T.bytes81:HL.bytesT Tryd.prog 81=some 8:=by kernel_rfl
@[go_sem] theorem T.zero81:HL.zeroT Tryd.prog 81=some (.nilFunc):=by kernel_rfl
@[go_sem] theorem T.agg82:HL.aggN Tryd.prog 82=some none:=by kernel_rfl
@[go_sem] theorem T.size82:HL.sizeT Tryd.prog 82=some 1:=by kernel_rfl
@[go_sem] theorem T.bytes82:HL.bytesT Tryd.prog 82=some 16:=by kernel_rfl
@[go_sem] theorem T.zero82:HL.zeroT Tryd.prog 82=some (.nilIface):=by kernel_rfl
@[go_sem] theorem T.agg83:HL.aggN Tryd.prog 83=some none:=by kernel_rfl
@[go_sem] theorem T.size83:HL.sizeT Tryd.prog 83=some 1:=by kernel_rfl
@[go_sem] theorem T.bytes83:HL.bytesT Tryd.prog 83=some 16:=by kernel_rfl
@[go_sem] theorem T.zero83:HL.zeroT Tryd.prog 83=some (.nilIface):=by kernel_rfl
@[go_sem] theorem T.agg85:HL.aggN Tryd.prog 85=some none:=by kernel_rfl
@[go_sem] theorem T.size85:HL.sizeT Tryd.prog 85=some 1:=by kernel_rfl
@[go_sem] theorem T.bytes85:HL.bytesT Tryd.prog 85=some 8:=by kernel_rfl
@[go_sem] theorem T.zero85:HL.zeroT Tryd.prog 85=some (.nilFunc):=by kernel_rfl
@[go_sem] theorem T.agg86:HL.aggN Tryd.prog 86=some none:=by kernel_rfl
@[go_sem] theorem T.size86:HL.sizeT Tryd.prog 86=some 1:=by kernel_rfl
@[go_sem] theorem T.bytes86:HL.bytesT Tryd.prog 86=some 8:=by kernel_rfl
@[go_sem] theorem T.zero86:HL.zeroT Tryd.prog 86=some (.nilFunc):=by kernel_rfl
@[go_sem] theorem T.agg87:HL.aggN Tryd.prog 87=some (some 9):=by kernel_rfl
@[go_sem] theorem T.size87:HL.sizeT Tryd.prog 87=some 9:=by kernel_rfl
@[go_sem] theorem T.bytes87:HL.bytesT Tryd.prog 87=some 72:=by kernel_rfl
@[go_sem] theorem T.zero87:HL.zeroT Tryd.prog 87=some (.agg #[.int .i64 0,.int .i64 0,.int .i64 0,.int .i64 0,.int .i64 0,.int .i64 0,.int .i64 0,.int .i64 0,.int .i64 0]):=by kernel_rfl
@[go_sem] theorem T.places87:HL.placesT Tryd.prog 87=none:=by kernel_rfl
@[go_sem] theorem T.arr87:HL.arrT Tryd.prog 87=some (9,3):=by kernel_rfl
@[go_sem] theorem T.arrS87:HL.arrS Tryd.prog 87=some (9,1):=by kernel_rfl
@[go_sem] theorem T.agg88:HL.aggN Tryd.prog 88=some (some 9):=by kernel_rfl
@[go_sem] theorem T.size88:HL.sizeT Tryd.prog 88=some 9:=by kernel_rfl
@[go_sem] theorem T.bytes88:HL.bytesT Tryd.prog 88=some 144:=by kernel_rfl
@[go_sem] theorem T.zero88:HL.zeroT Tryd.prog 88=some (.agg #[.string ⟨#[]⟩,.string ⟨#[]⟩,.string ⟨#[]⟩,.string ⟨#[]⟩,.string ⟨#[]⟩,.string ⟨#[]⟩,.string ⟨#[]⟩,.string ⟨#[]⟩,.string ⟨#[]⟩]):=by kernel_rfl
@[go_sem] theorem T.places88:HL.placesT Tryd.prog 88=none:=by kernel_rfl
@[go_sem] theorem T.arr88:HL.arrT Tryd.prog 88=some (9,9):=by kernel_rfl
@[go_sem] theorem T.arrS88:HL.arrS Tryd.prog 88=some (9,1):=by kernel_rfl
@[go_sem] theorem T.agg89:HL.aggN Tryd.prog 89=some none:=by kernel_rfl
@[go_sem] theorem T.size89:HL.sizeT Tryd.prog 89=some 1:=by kernel_rfl
@[go_sem] theorem T.bytes89:HL.bytesT Tryd.prog 89=some 8:=by kernel_rfl
@[go_sem] theorem T.zero89:HL.zeroT Tryd.prog 89=some (.nilFunc):=by kernel_rfl
@[go_sem] theorem T.agg90:HL.aggN Tryd.prog 90=some none:=by kernel_rfl
@[go_sem] theorem T.size90:HL.sizeT Tryd.prog 90=some 1:=by kernel_rfl
@[go_sem] theorem T.bytes90:HL.bytesT Tryd.prog 90=some 8:=by kernel_rfl
@[go_sem] theorem T.zero90:HL.zeroT Tryd.prog 90=some (.nilFunc):=by kernel_rfl
@[go_sem] theorem T.agg91:HL.aggN Tryd.prog 91=some none:=by kernel_rfl
@[go_sem] theorem T.size91:HL.sizeT Tryd.prog 91=some 1:=by kernel_rfl
@[go_sem] theorem T.bytes91:HL.bytesT Tryd.prog 91=some 8:=by kernel_rfl
@[go_sem] theorem T.zero91:HL.zeroT Tryd.prog 91=some (.nilFunc):=by kernel_rfl
@[go_sem] theorem T.agg92:HL.aggN Tryd.prog 92=some none:=by kernel_rfl
@[go_sem] theorem T.size92:HL.sizeT Tryd.prog 92=some 1:=by kernel_rfl
@[go_sem] theorem T.bytes92:HL.bytesT Tryd.prog 92=some 8:=by kernel_rfl
@[go_sem] theorem T.zero92:HL.zeroT Tryd.prog 92=some (.nilFunc):=by kernel_rfl
@[go_sem] theorem T.agg93:HL.aggN Tryd.prog 93=some none:=by kernel_rfl
@[go_sem] theorem T.size93:HL.sizeT Tryd.prog 93=some 1:=by kernel_rfl
@[go_sem] theorem T.bytes93:HL.bytesT Tryd.prog 93=some 8:=by kernel_rfl
@[go_sem] theorem T.zero93:HL.zeroT Tryd.prog 93=some (.nilFunc):=by kernel_rfl
@[go_sem] theorem T.agg94:HL.aggN Tryd.prog 94=some (some 2):=by kernel_rfl
@[go_sem] theorem T.size94:HL.sizeT Tryd.prog 94=some 2:=by kernel_rfl
@[go_sem] theorem T.bytes94:HL.bytesT Tryd.prog 94=some 16:=by kernel_rfl
@[go_sem] theorem T.zero94:HL.zeroT Tryd.prog 94=some (.agg #[.int .i64 0,.int .i64 0]):=by kernel_rfl
@[go_sem] theorem T.places94:HL.placesT Tryd.prog 94=none:=by kernel_rfl
@[go_sem] theorem T.arr94:HL.arrT Tryd.prog 94=some (2,3):=by kernel_rfl
@[go_sem] theorem T.arrS94:HL.arrS Tryd.prog 94=some (2,1):=by kernel_rfl
@[go_sem] theorem T.agg95:HL.aggN Tryd.prog 95=some none:=by kernel_rfl
@[go_sem] theorem T.size95:HL.sizeT Tryd.prog 95=some 1:=by kernel_rfl
@[go_sem] theorem T.bytes95:HL.bytesT Tryd.prog 95=some 8:=by kernel_rfl
@[go_sem] theorem T.zero95:HL.zeroT Tryd.prog 95=some (.nilFunc):=by kernel_rfl
@[go_sem] theorem T.agg96:HL.aggN Tryd.prog 96=some none:=by kernel_rfl
@[go_sem] theorem T.size96:HL.sizeT Tryd.prog 96=some 1:=by kernel_rfl
@[go_sem] theorem T.bytes96:HL.bytesT Tryd.prog 96=some 8:=by kernel_rfl
@[go_sem] theorem T.zero96:HL.zeroT Tryd.prog 96=some (.nilFunc):=by kernel_rfl
@[go_sem] theorem T.agg97:HL.aggN Tryd.prog 97=some none:=by kernel_rfl
@[go_sem] theorem T.size97:HL.sizeT Tryd.prog 97=some 1:=by kernel_rfl
@[go_sem] theorem T.bytes97:HL.bytesT Tryd.prog 97=some 8:=by kernel_rfl
@[go_sem] theorem T.zero97:HL.zeroT Tryd.prog 97=some (.nilFunc):=by kernel_rfl
@[go_sem] theorem T.agg98:HL.aggN Tryd.prog 98=some none:=by kernel_rfl
@[go_sem] theorem T.size98:HL.sizeT Tryd.prog 98=some 1:=by kernel_rfl
@[go_sem] theorem T.bytes98:HL.bytesT Tryd.prog 98=some 8:=by kernel_rfl
@[go_sem] theorem T.zero98:HL.zeroT Tryd.prog 98=some (.nilFunc):=by kernel_rfl
@[go_sem] theorem T.agg99:HL.aggN Tryd.prog 99=some none:=by kernel_rfl
@[go_sem] theorem T.size99:HL.sizeT Tryd.prog 99=some 1:=by kernel_rfl
@[go_sem] theorem T.bytes99:HL.bytesT Tryd.prog 99=some 8:=by kernel_rfl
@[go_sem] theorem T.zero99:HL.zeroT Tryd.prog 99=some (.nilFunc):=by kernel_rfl
@[go_sem] theorem T.agg100:HL.aggN Tryd.prog 100=some none:=by kernel_rfl
@[go_sem] theorem T.size100:HL.sizeT Tryd.prog 100=some 1:=by kernel_rfl
@[go_sem] theorem T.bytes100:HL.bytesT Tryd.prog 100=some 8:=by kernel_rfl
@[go_sem] theorem T.zero100:HL.zeroT Tryd.prog 100=some (.pointer none):=by kernel_rfl
@[go_sem] theorem T.agg101:HL.aggN Tryd.prog 101=some none:=by kernel_rfl
@[go_sem] theorem T.size101:HL.sizeT Tryd.prog 101=some 1:=by kernel_rfl
@[go_sem] theorem T.bytes101:HL.bytesT Tryd.prog 101=some 8:=by kernel_rfl
@[go_sem] theorem T.zero101:HL.zeroT Tryd.prog 101=some (.nilFunc):=by kernel_rfl
@[go_sem] theorem T.agg102:HL.aggN Tryd.prog 102=some none:=by kernel_rfl
@[go_sem] theorem T.size102:HL.sizeT Tryd.prog 102=some 1:=by kernel_rfl
@[go_sem] theorem T.bytes102:HL.bytesT Tryd.prog 102=some 8:=by kernel_rfl
@[go_sem] theorem T.zero102:HL.zeroT Tryd.prog 102=some (.nilFunc):=by kernel_rfl
@[go_sem] theorem T.agg103:HL.aggN Tryd.prog 103=some none:=by kernel_rfl
@[go_sem] theorem T.size103:HL.sizeT Tryd.prog 103=some 1:=by kernel_rfl
@[go_sem] theorem T.bytes103:HL.bytesT Tryd.prog 103=some 8:=by kernel_rfl
@[go_sem] theorem T.zero103:HL.zeroT Tryd.prog 103=some (.nilFunc):=by kernel_rfl
@[go_sem] theorem T.agg104:HL.aggN Tryd.prog 104=some none:=by kernel_rfl
@[go_sem] theorem T.size104:HL.sizeT Tryd.prog 104=some 1:=by kernel_rfl
@[go_sem] theorem T.bytes104:HL.bytesT Tryd.prog 104=some 8:=by kernel_rfl
@[go_sem] theorem T.zero104:HL.zeroT Tryd.prog 104=some (.nilFunc):=by kernel_rfl
@[go_sem] theorem T.agg105:HL.aggN Tryd.prog 105=some none:=by kernel_rfl
@[go_sem] theorem T.size105:HL.sizeT Tryd.prog 105=some 1:=by kernel_rfl
@[go_sem] theorem T.bytes105:HL.bytesT Tryd.prog 105=some 24:=by kernel_rfl
@[go_sem] theorem T.zero105:HL.zeroT Tryd.prog 105=some (.slice none 0 0):=by kernel_rfl
@[go_sem] theorem T.elem105:HL.elemT Tryd.prog 105=some 94:=by kernel_rfl
@[go_sem] theorem T.elemS105:HL.elemS Tryd.prog 105=some 2:=by kernel_rfl
@[go_sem] theorem T.agg106:HL.aggN Tryd.prog 106=some none:=by kernel_rfl
@[go_sem] theorem T.size106:HL.sizeT Tryd.prog 106=some 1:=by kernel_rfl
@[go_sem] theorem T.bytes106:HL.bytesT Tryd.prog 106=some 8:=by kernel_rfl
@[go_sem] theorem T.zero106:HL.zeroT Tryd.prog 106=some (.nilFunc):=by kernel_rfl
@[go_sem] theorem T.agg107:HL.aggN Tryd.prog 107=some none:=by kernel_rfl
@[go_sem] theorem T.size107:HL.sizeT Tryd.prog 107=some 1:=by kernel_rfl
@[go_sem] theorem T.bytes107:HL.bytesT Tryd.prog 107=some 8:=by kernel_rfl
@[go_sem] theorem T.zero107:HL.zeroT Tryd.prog 107=some (.pointer none):=by kernel_rfl
@[go_sem] theorem T.agg108:HL.aggN Tryd.prog 108=some none:=by kernel_rfl
@[go_sem] theorem T.size108:HL.sizeT Tryd.prog 108=some 1:=by kernel_rfl
@[go_sem] theorem T.bytes108:HL.bytesT Tryd.prog 108=some 8:=by kernel_rfl
@[go_sem] theorem T.zero108:HL.zeroT Tryd.prog 108=some (.nilFunc):=by kernel_rfl
@[go_sem] theorem T.agg109:HL.aggN Tryd.prog 109=some (some 24):=by kernel_rfl
@[go_sem] theorem T.size109:HL.sizeT Tryd.prog 109=some 24:=by kernel_rfl
@[go_sem] theorem T.bytes109:HL.bytesT Tryd.prog 109=some 24:=by kernel_rfl
@[go_sem] theorem T.zero109:HL.zeroT Tryd.prog 109=some (.agg #[.int .u8 0,.int .u8 0,.int .u8 0,.int .u8 0,.int .u8 0,.int .u8 0,.int .u8 0,.int .u8 0,.int .u8 0,.int .u8 0,.int .u8 0,.int .u8 0,.int .u8 0,.int .u8 0,.int .u8 0,.int .u8 0,.int .u8 0,.int .u8 0,.int .u8 0,.int .u8 0,.int .u8 0,.int .u8 0,.int .u8 0,.int .u8 0]):=by kernel_rfl
@[go_sem] theorem T.places109:HL.placesT Tryd.prog 109=none:=by kernel_rfl
@[go_sem] theorem T.arr109:HL.arrT Tryd.prog 109=some (24,5):=by kernel_rfl
@[go_sem] theorem T.arrS109:HL.arrS Tryd.prog 109=some (24,1):=by kernel_rfl
@[go_sem] theorem T.agg110:HL.aggN Tryd.prog 110=some none:=by kernel_rfl
@[go_sem] theorem T.size110:HL.sizeT Tryd.prog 110=some 1:=by kernel_rfl
@[go_sem] theorem T.bytes110:HL.bytesT Tryd.prog 110=some 8:=by kernel_rfl
@[go_sem] theorem T.zero110:HL.zeroT Tryd.prog 110=some (.int .u64 0):=by kernel_rfl
@[go_sem] theorem T.agg111:HL.aggN Tryd.prog 111=some none:=by kernel_rfl
@[go_sem] theorem T.size111:HL.sizeT Tryd.prog 111=some 1:=by kernel_rfl
@[go_sem] theorem T.bytes111:HL.bytesT Tryd.prog 111=some 8:=by kernel_rfl
@[go_sem] theorem T.zero111:HL.zeroT Tryd.prog 111=some (.nilFunc):=by kernel_rfl
@[go_sem] theorem T.agg112:HL.aggN Tryd.prog 112=some none:=by kernel_rfl
@[go_sem] theorem T.size112:HL.sizeT Tryd.prog 112=some 1:=by kernel_rfl
@[go_sem] theorem T.bytes112:HL.bytesT Tryd.prog 112=some 8:=by kernel_rfl
@[go_sem] theorem T.zero112:HL.zeroT Tryd.prog 112=some (.nilFunc):=by kernel_rfl
@[go_sem] theorem T.agg114:HL.aggN Tryd.prog 114=some none:=by kernel_rfl
@[go_sem] theorem T.size114:HL.sizeT Tryd.prog 114=some 1:=by kernel_rfl
@[go_sem] theorem T.bytes114:HL.bytesT Tryd.prog 114=some 8:=by kernel_rfl
@[go_sem] theorem T.zero114:HL.zeroT Tryd.prog 114=some (.nilFunc):=by kernel_rfl
@[go_sem] theorem T.agg115:HL.aggN Tryd.prog 115=some none:=by kernel_rfl
@[go_sem] theorem T.size115:HL.sizeT Tryd.prog 115=some 1:=by kernel_rfl
@[go_sem] theorem T.bytes115:HL.bytesT Tryd.prog 115=some 8:=by kernel_rfl
@[go_sem] theorem T.zero115:HL.zeroT Tryd.prog 115=some (.nilFunc):=by kernel_rfl
@[go_sem] theorem T.agg116:HL.aggN Tryd.prog 116=some none:=by kernel_rfl
@[go_sem] theorem T.size116:HL.sizeT Tryd.prog 116=some 1:=by kernel_rfl
@[go_sem] theorem T.bytes116:HL.bytesT Tryd.prog 116=some 8:=by kernel_rfl
@[go_sem] theorem T.zero116:HL.zeroT Tryd.prog 116=some (.nilFunc):=by kernel_rfl
@[go_sem] theorem T.agg117:HL.aggN Tryd.prog 117=some (some 20):=by kernel_rfl
@[go_sem] theorem T.size117:HL.sizeT Tryd.prog 117=some 20:=by kernel_rfl
@[go_sem] theorem T.bytes117:HL.bytesT Tryd.prog 117=some 160:=by kernel_rfl
@[go_sem] theorem T.zero117:HL.zeroT Tryd.prog 117=some (.agg #[.int .u64 0,.int .u64 0,.int .u64 0,.int .u64 0,.int .u64 0,.int .u64 0,.int .u64 0,.int .u64 0,.int .u64 0,.int .u64 0,.int .u64 0,.int .u64 0,.int .u64 0,.int .u64 0,.int .u64 0,.int .u64 0,.int .u64 0,.int .u64 0,.int .u64 0,.int .u64 0]):=by kernel_rfl
@[go_sem] theorem T.places117:HL.placesT Tryd.prog 117=none:=by kernel_rfl
@[go_sem] theorem T.arr117:HL.arrT Tryd.prog 117=some (20,110):=by kernel_rfl
@[go_sem] theorem T.arrS117:HL.arrS Tryd.prog 117=some (20,1):=by kernel_rfl
@[go_sem] theorem T.agg118:HL.aggN Tryd.prog 118=some none:=by kernel_rfl
@[go_sem] theorem T.size118:HL.sizeT Tryd.prog 118=some 1:=by kernel_rfl
@[go_sem] theorem T.bytes118:HL.bytesT Tryd.prog 118=some 4:=by kernel_rfl
@[go_sem] theorem T.zero118:HL.zeroT Tryd.prog 118=some (.int .u32 0):=by kernel_rfl
@[go_sem] theorem T.agg120:HL.aggN Tryd.prog 120=some none:=by kernel_rfl
@[go_sem] theorem T.size120:HL.sizeT Tryd.prog 120=some 1:=by kernel_rfl
@[go_sem] theorem T.bytes120:HL.bytesT Tryd.prog 120=some 8:=by kernel_rfl
@[go_sem] theorem T.zero120:HL.zeroT Tryd.prog 120=some (.nilFunc):=by kernel_rfl
@[go_sem] theorem T.agg121:HL.aggN Tryd.prog 121=some none:=by kernel_rfl
@[go_sem] theorem T.size121:HL.sizeT Tryd.prog 121=some 1:=by kernel_rfl
@[go_sem] theorem T.bytes121:HL.bytesT Tryd.prog 121=some 8:=by kernel_rfl
@[go_sem] theorem T.zero121:HL.zeroT Tryd.prog 121=some (.int .u64 0):=by kernel_rfl
@[go_sem] theorem T.agg122:HL.aggN Tryd.prog 122=some none:=by kernel_rfl
@[go_sem] theorem T.size122:HL.sizeT Tryd.prog 122=some 1:=by kernel_rfl
@[go_sem] theorem T.bytes122:HL.bytesT Tryd.prog 122=some 8:=by kernel_rfl
@[go_sem] theorem T.zero122:HL.zeroT Tryd.prog 122=some (.nilFunc):=by kernel_rfl
@[go_sem] theorem T.agg123:HL.aggN Tryd.prog 123=some none:=by kernel_rfl
@[go_sem] theorem T.size123:HL.sizeT Tryd.prog 123=some 1:=by kernel_rfl
@[go_sem] theorem T.bytes123:HL.bytesT Tryd.prog 123=some 8:=by kernel_rfl
@[go_sem] theorem T.zero123:HL.zeroT Tryd.prog 123=some (.nilFunc):=by kernel_rfl
@[go_sem] theorem T.agg124:HL.aggN Tryd.prog 124=some (some 32):=by kernel_rfl
@[go_sem] theorem T.size124:HL.sizeT Tryd.prog 124=some 32:=by kernel_rfl
@[go_sem] theorem T.bytes124:HL.bytesT Tryd.prog 124=some 32:=by kernel_rfl
@[go_sem] theorem T.zero124:HL.zeroT Tryd.prog 124=some (.agg #[.int .u8 0,.int .u8 0,.int .u8 0,.int .u8 0,.int .u8 0,.int .u8 0,.int .u8 0,.int .u8 0,.int .u8 0,.int .u8 0,.int .u8 0,.int .u8 0,.int .u8 0,.int .u8 0,.int .u8 0,.int .u8 0,.int .u8 0,.int .u8 0,.int .u8 0,.int .u8 0,.int .u8 0,.int .u8 0,.int .u8 0,.int .u8 0,.int .u8 0,.int .u8 0,.int .u8 0,.int .u8 0,.int .u8 0,.int .u8 0,.int .u8 0,.int .u8 0]):=by kernel_rfl
@[go_sem] theorem T.places124:HL.placesT Tryd.prog 124=none:=by kernel_rfl
@[go_sem] theorem T.arr124:HL.arrT Tryd.prog 124=some (32,5):=by kernel_rfl
@[go_sem] theorem T.arrS124:HL.arrS Tryd.prog 124=some (32,1):=by kernel_rfl
@[go_sem] theorem T.agg125:HL.aggN Tryd.prog 125=some (some 64):=by kernel_rfl
@[go_sem] theorem T.size125:HL.sizeT Tryd.prog 125=some 64:=by kernel_rfl
@[go_sem] theorem T.bytes125:HL.bytesT Tryd.prog 125=some 64:=by kernel_rfl
@[go_sem] theorem T.zero125:HL.zeroT Tryd.prog 125=some (.agg #[.int .u8 0,.int .u8 0,.int .u8 0,.int .u8 0,.int .u8 0,.int .u8 0,.int .u8 0,.int .u8 0,.int .u8 0,.int .u8 0,.int .u8 0,.int .u8 0,.int .u8 0,.int .u8 0,.int .u8 0,.int .u8 0,.int .u8 0,.int .u8 0,.int .u8 0,.int .u8 0,.int .u8 0,.int .u8 0,.int .u8 0,.int .u8 0,.int .u8 0,.int .u8 0,.int .u8 0,.int .u8 0,.int .u8 0,.int .u8 0,.int .u8 0,.int .u8 0,.int .u8 0,.int .u8 0,.int .u8 0,.int .u8 0,.int .u8 0,.int .u8 0,.int .u8 0,.int .u8 0,.int .u8 0,.int .u8 0,.int .u8 0,.int .u8 0,.int .u8 0,.int .u8 0,.int .u8 0,.int .u8 0,.int .u8 0,.int .u8 0,.int .u8 0,.int .u8 0,.int .u8 0,.int .u8 0,.int .u8 0,.int .u8 0,.int .u8 0,.int .u8 0,.int .u8 0,.int .u8 0,.int .u8 0,.int .u8 0,.int .u8 0,.int .u8 0]):=by kernel_rfl
@[go_sem] theorem T.places125:HL.placesT Tryd.prog 125=none:=by kernel_rfl
@[go_sem] theorem T.arr125:HL.arrT Tryd.prog 125=some (64,5):=by kernel_rfl
@[go_sem] theorem T.arrS125:HL.arrS Tryd.prog 125=some (64,1):=by kernel_rfl
@[go_sem] theorem T.agg126:HL.aggN Tryd.prog 126=some (some 4):=by kernel_rfl
@[go_sem] theorem T.size126:HL.sizeT Tryd.prog 126=some 4:=by kernel_rfl
@[go_sem] theorem T.bytes126:HL.bytesT Tryd.prog 126=some 40:=by kernel_rfl
@[go_sem] theorem T.zero126:HL.zeroT Tryd.prog 126=some (.agg #[.pointer none,.pointer none,.pointer none,.string ⟨#[]⟩]):=by kernel_rfl
@[go_sem] theorem T.places126:HL.placesT Tryd.prog 126=some [(0,1),(1,1),(2,1),(3,1)]:=by kernel_rfl
@[go_sem] theorem T.field126_0:HL.fieldT Tryd.prog 126 0=some (0,17):=by kernel_rfl
@[go_sem] theorem T.fieldO126_0:HL.fieldO Tryd.prog 126 0=some 0:=by kernel_rfl
@[go_sem] theorem T.field126_1:HL.fieldT Tryd.prog 126 1=some (1,17):=by kernel_rfl
@[go_sem] theorem T.fieldO126_1:HL.fieldO Tryd.prog 126 1=some 1:=by kernel_rfl
@[go_sem] theorem T.field126_2:HL.fieldT Tryd.prog 126 2=some (2,17):=by kernel_rfl
@[go_sem] theorem T.fieldO126_2:HL.fieldO Tryd.prog 126 2=some 2:=by kernel_rfl
@[go_sem] theorem T.field126_3:HL.fieldT Tryd.prog 126 3=some (3,9):=by kernel_rfl
@[go_sem] theorem T.fieldO126_3:HL.fieldO Tryd.prog 126 3=some 3:=by kernel_rfl
@[go_sem] theorem T.agg127:HL.aggN Tryd.prog 127=some (some 4):=by kernel_rfl
@[go_sem] theorem T.size127:HL.sizeT Tryd.prog 127=some 4:=by kernel_rfl
@[go_sem] theorem T.bytes127:HL.bytesT Tryd.prog 127=some 40:=by kernel_rfl
@[go_sem] theorem T.zero127:HL.zeroT Tryd.prog 127=some (.agg #[.pointer none,.pointer none,.pointer none,.string ⟨#[]⟩]):=by kernel_rfl
@[go_sem] theorem T.places127:HL.placesT Tryd.prog 127=some [(0,1),(1,1),(2,1),(3,1)]:=by kernel_rfl
@[go_sem] theorem T.field127_0:HL.fieldT Tryd.prog 127 0=some (0,17):=by kernel_rfl
@[go_sem] theorem T.fieldO127_0:HL.fieldO Tryd.prog 127 0=some 0:=by kernel_rfl
@[go_sem] theorem T.field127_1:HL.fieldT Tryd.prog 127 1=some (1,17):=by kernel_rfl
@[go_sem] theorem T.fieldO127_1:HL.fieldO Tryd.prog 127 1=some 1:=by kernel_rfl
@[go_sem] theorem T.field127_2:HL.fieldT Tryd.prog 127 2=some (2,17):=by kernel_rfl
@[go_sem] theorem T.fieldO127_2:HL.fieldO Tryd.prog 127 2=some 2:=by kernel_rfl
@[go_sem] theorem T.field127_3:HL.fieldT Tryd.prog 127 3=some (3,9):=by kernel_rfl
@[go_sem] theorem T.fieldO127_3:HL.fieldO Tryd.prog 127 3=some 3:=by kernel_rfl
@[go_sem] theorem T.agg128:HL.aggN Tryd.prog 128=some (some 0):=by kernel_rfl
@[go_sem] theorem T.size128:HL.sizeT Tryd.prog 128=some 0:=by kernel_rfl
@[go_sem] theorem T.bytes128:HL.bytesT Tryd.prog 128=some 0:=by kernel_rfl
@[go_sem] theorem T.zero128:HL.zeroT Tryd.prog 128=some (.agg #[]):=by kernel_rfl
@[go_sem] theorem T.places128:HL.placesT Tryd.prog 128=none:=by kernel_rfl
@[go_sem] theorem T.arr128:HL.arrT Tryd.prog 128=some (0,16):=by kernel_rfl
@[go_sem] theorem T.arrS128:HL.arrS Tryd.prog 128=some (0,1):=by kernel_rfl
@[go_sem] theorem T.agg129:HL.aggN Tryd.prog 129=some (some 0):=by kernel_rfl
@[go_sem] theorem T.size129:HL.sizeT Tryd.prog 129=some 0:=by kernel_rfl
@[go_sem] theorem T.bytes129:HL.bytesT Tryd.prog 129=some 0:=by kernel_rfl
@[go_sem] theorem T.zero129:HL.zeroT Tryd.prog 129=some (.agg #[]):=by kernel_rfl
@[go_sem] theorem T.places129:HL.placesT Tryd.prog 129=some [(0,0)]:=by kernel_rfl
@[go_sem] theorem T.field129_0:HL.fieldT Tryd.prog 129 0=some (0,128):=by kernel_rfl
@[go_sem] theorem T.agg130:HL.aggN Tryd.prog 130=some (some 0):=by kernel_rfl
@[go_sem] theorem T.size130:HL.sizeT Tryd.prog 130=some 0:=by kernel_rfl
@[go_sem] theorem T.bytes130:HL.bytesT Tryd.prog 130=some 0:=by kernel_rfl
@[go_sem] theorem T.zero130:HL.zeroT Tryd.prog 130=some (.agg #[]):=by kernel_rfl
@[go_sem] theorem T.places130:HL.placesT Tryd.prog 130=some [(0,0)]:=by kernel_rfl
@[go_sem] theorem T.field130_0:HL.fieldT Tryd.prog 130 0=some (0,128):=by kernel_rfl
@[go_sem] theorem T.agg131:HL.aggN Tryd.prog 131=some none:=by kernel_rfl
@[go_sem] theorem T.size131:HL.sizeT Tryd.prog 131=some 1:=by kernel_rfl
@[go_sem] theorem T.bytes131:HL.bytesT Tryd.prog 131=some 1:=by kernel_rfl
@[go_sem] theorem T.zero131:HL.zeroT Tryd.prog 131=some (.int .u8 0):=by kernel_rfl
@[go_sem] theorem T.agg132:HL.aggN Tryd.prog 132=some none:=by kernel_rfl
@[go_sem] theorem T.size132:HL.sizeT Tryd.prog 132=some 1:=by kernel_rfl
@[go_sem] theorem T.bytes132:HL.bytesT Tryd.prog 132=some 1:=by kernel_rfl
@[go_sem] theorem T.zero132:HL.zeroT Tryd.prog 132=some (.int .u8 0):=by kernel_rfl
@[go_sem] theorem T.agg133:HL.aggN Tryd.prog 133=some none:=by kernel_rfl
@[go_sem] theorem T.size133:HL.sizeT Tryd.prog 133=some 1:=by kernel_rfl
@[go_sem] theorem T.bytes133:HL.bytesT Tryd.prog 133=some 8:=by kernel_rfl
@[go_sem] theorem T.zero133:HL.zeroT Tryd.prog 133=some (.nilFunc):=by kernel_rfl
@[go_sem] theorem T.agg134:HL.aggN Tryd.prog 134=some none:=by kernel_rfl
@[go_sem] theorem T.size134:HL.sizeT Tryd.prog 134=some 1:=by kernel_rfl
@[go_sem] theorem T.bytes134:HL.bytesT Tryd.prog 134=some 4:=by kernel_rfl
@[go_sem] theorem T.zero134:HL.zeroT Tryd.prog 134=some (.int .i32 0):=by kernel_rfl
@[go_sem] theorem T.agg135:HL.aggN Tryd.prog 135=some none:=by kernel_rfl
@[go_sem] theorem T.size135:HL.sizeT Tryd.prog 135=some 1:=by kernel_rfl
@[go_sem] theorem T.bytes135:HL.bytesT Tryd.prog 135=some 4:=by kernel_rfl
@[go_sem] theorem T.zero135:HL.zeroT Tryd.prog 135=some (.int .i32 0):=by kernel_rfl
@[go_sem] theorem T.agg136:HL.aggN Tryd.prog 136=some (some 11):=by kernel_rfl
@[go_sem] theorem T.size136:HL.sizeT Tryd.prog 136=some 11:=by kernel_rfl
@[go_sem] theorem T.bytes136:HL.bytesT Tryd.prog 136=some 48:=by kernel_rfl
@[go_sem] theorem T.zero136:HL.zeroT Tryd.prog 136=some (.agg #[.int .u64 0,.int .u64 0,.int .u32 0,.int .u8 0,.int .u8 0,.int .u8 0,.int .u8 0,.nilFunc,.pointer none,.int .i32 0,.int .i32 0]):=by kernel_rfl
@[go_sem] theorem T.places136:HL.placesT Tryd.prog 136=some [(0,1),(1,1),(2,1),(3,1),(4,1),(5,1),(6,1),(7,1),(8,1),(9,1),(10,1)]:=by kernel_rfl
@[go_sem] theorem T.field136_0:HL.fieldT Tryd.prog 136 0=some (0,12):=by kernel_rfl
@[go_sem] theorem T.fieldO136_0:HL.fieldO Tryd.prog 136 0=some 0:=by kernel_rfl
@[go_sem] theorem T.field136_1:HL.fieldT Tryd.prog 136 1=some (1,12):=by kernel_rfl
@[go_sem] theorem T.fieldO136_1:HL.fieldO Tryd.prog 136 1=some 1:=by kernel_rfl
@[go_sem] theorem T.field136_2:HL.fieldT Tryd.prog 136 2=some (2,118):=by kernel_rfl
@[go_sem] theorem T.fieldO136_2:HL.fieldO Tryd.prog 136 2=some 2:=by kernel_rfl
@[go_sem] theorem T.field136_3:HL.fieldT Tryd.prog 136 3=some (3,131):=by kernel_rfl
@[go_sem] theorem T.fieldO136_3:HL.fieldO Tryd.prog 136 3=some 3:=by kernel_rfl
@[go_sem] theorem T.field136_4:HL.fieldT Tryd.prog 136 4=some (4,5):=by kernel_rfl
@[go_sem] theorem T.fieldO136_4:HL.fieldO Tryd.prog 136 4=some 4:=by kernel_rfl
@[go_sem] theorem T.field136_5:HL.fieldT Tryd.prog 136 5=some (5,5):=by kernel_rfl
@[go_sem] theorem T.fieldO136_5:HL.fieldO Tryd.prog 136 5=some 5:=by kernel_rfl
@[go_sem] theorem T.field136_6:HL.fieldT Tryd.prog 136 6=some (6,132):=by kernel_rfl
@[go_sem] theorem T.fieldO136_6:HL.fieldO Tryd.prog 136 6=some 6:=by kernel_rfl
@[go_sem] theorem T.field136_7:HL.fieldT Tryd.prog 136 7=some (7,133):=by kernel_rfl
@[go_sem] theorem T.fieldO136_7:HL.fieldO Tryd.prog 136 7=some 7:=by kernel_rfl
@[go_sem] theorem T.field136_8:HL.fieldT Tryd.prog 136 8=some (8,72):=by kernel_rfl
@[go_sem] theorem T.fieldO136_8:HL.fieldO Tryd.prog 136 8=some 8:=by kernel_rfl
@[go_sem] theorem T.field136_9:HL.fieldT Tryd.prog 136 9=some (9,134):=by kernel_rfl
@[go_sem] theorem T.fieldO136_9:HL.fieldO Tryd.prog 136 9=some 9:=by kernel_rfl
@[go_sem] theorem T.field136_10:HL.fieldT Tryd.prog 136 10=some (10,135):=by kernel_rfl
@[go_sem] theorem T.fieldO136_10:HL.fieldO Tryd.prog 136 10=some 10:=by kernel_rfl
@[go_sem] theorem T.agg137:HL.aggN Tryd.prog 137=some (some 11):=by kernel_rfl
@[go_sem] theorem T.size137:HL.sizeT Tryd.prog 137=some 11:=by kernel_rfl
@[go_sem] theorem T.bytes137:HL.bytesT Tryd.prog 137=some 48:=by kernel_rfl
@[go_sem] theorem T.zero137:HL.zeroT Tryd.prog 137=some (.agg #[.int .u64 0,.int .u64 0,.int .u32 0,.int .u8 0,.int .u8 0,.int .u8 0,.int .u8 0,.nilFunc,.pointer none,.int .i32 0,.int .i32 0]):=by kernel_rfl
@[go_sem] theorem T.places137:HL.placesT Tryd.prog 137=some [(0,1),(1,1),(2,1),(3,1),(4,1),(5,1),(6,1),(7,1),(8,1),(9,1),(10,1)]:=by kernel_rfl
@[go_sem] theorem T.field137_0:HL.fieldT Tryd.prog 137 0=some (0,12):=by kernel_rfl
@[go_sem] theorem T.fieldO137_0:HL.fieldO Tryd.prog 137 0=some 0:=by kernel_rfl
@[go_sem] theorem T.field137_1:HL.fieldT Tryd.prog 137 1=some (1,12):=by kernel_rfl
@[go_sem] theorem T.fieldO137_1:HL.fieldO Tryd.prog 137 1=some 1:=by kernel_rfl
@[go_sem] theorem T.field137_2:HL.fieldT Tryd.prog 137 2=some (2,118):=by kernel_rfl
@[go_sem] theorem T.fieldO137_2:HL.fieldO Tryd.prog 137 2=some 2:=by kernel_rfl
@[go_sem] theorem T.field137_3:HL.fieldT Tryd.prog 137 3=some (3,131):=by kernel_rfl
@[go_sem] theorem T.fieldO137_3:HL.fieldO Tryd.prog 137 3=some 3:=by kernel_rfl
@[go_sem] theorem T.field137_4:HL.fieldT Tryd.prog 137 4=some (4,5):=by kernel_rfl
@[go_sem] theorem T.fieldO137_4:HL.fieldO Tryd.prog 137 4=some 4:=by kernel_rfl
@[go_sem] theorem T.field137_5:HL.fieldT Tryd.prog 137 5=some (5,5):=by kernel_rfl
@[go_sem] theorem T.fieldO137_5:HL.fieldO Tryd.prog 137 5=some 5:=by kernel_rfl
@[go_sem] theorem T.field137_6:HL.fieldT Tryd.prog 137 6=some (6,132):=by kernel_rfl
@[go_sem] theorem T.fieldO137_6:HL.fieldO Tryd.prog 137 6=some 6:=by kernel_rfl
@[go_sem] theorem T.field137_7:HL.fieldT Tryd.prog 137 7=some (7,133):=by kernel_rfl
@[go_sem] theorem T.fieldO137_7:HL.fieldO Tryd.prog 137 7=some 7:=by kernel_rfl
@[go_sem] theorem T.field137_8:HL.fieldT Tryd.prog 137 8=some (8,72):=by kernel_rfl
@[go_sem] theorem T.fieldO137_8:HL.fieldO Tryd.prog 137 8=some 8:=by kernel_rfl
@[go_sem] theorem T.field137_9:HL.fieldT Tryd.prog 137 9=some (9,134):=by kernel_rfl
@[go_sem] theorem T.fieldO137_9:HL.fieldO Tryd.prog 137 9=some 9:=by kernel_rfl
@[go_sem] theorem T.field137_10:HL.fieldT Tryd.prog 137 10=some (10,135):=by kernel_rfl
@[go_sem] theorem T.fieldO137_10:HL.fieldO Tryd.prog 137 10=some 10:=by kernel_rfl
theorem T.el22:HL.ElT Tryd.prog 22 36 5 88 (.agg #[.int .i64 0,.slice none 0 0,.slice none 0 0,.slice none 0 0,.int .i64 0]):=⟨T.elem22,T.size36,T.bytes36,T.zero36⟩
@[go_sem] theorem T.bs22_0 {H:HL.Heap}:HL.buildSliceV Tryd.prog H 22 0 []=some (.slice (some ⟨H.size,0,none⟩) 0 0,H.push (.cells #[] 36)):=HL.bs_zero T.elem22 T.size36 T.zero36
theorem T.el33:HL.ElT Tryd.prog 33 9 1 16 (.string ⟨#[]⟩):=⟨T.elem33,T.size9,T.bytes9,T.zero9⟩
@[go_sem] theorem T.bs33_1 {H:HL.Heap} {n0:ByteArray}:HL.buildSliceV Tryd.prog H 33 1 [(0,.string n0)]=some (.slice (some ⟨H.size,0,none⟩) 1 1,H.push (.cells #[.string n0] 9)):=HL.bs_one T.elem33 T.size9 T.zero9 rfl
@[go_sem] theorem T.bs33_2 {H:HL.Heap} {n0:ByteArray} {n1:ByteArray}:HL.buildSliceV Tryd.prog H 33 2 [(0,.string n0),(1,.string n1)]=some (.slice (some ⟨H.size,0,none⟩) 2 2,H.push (.cells #[.string n0,.string n1] 9)):=HL.bs_two T.elem33 T.size9 T.zero9 rfl rfl
@[go_sem] theorem T.bs33_3 {H:HL.Heap} {n0:ByteArray} {n1:ByteArray} {n2:ByteArray}:HL.buildSliceV Tryd.prog H 33 3 [(0,.string n0),(1,.string n1),(2,.string n2)]=some (.slice (some ⟨H.size,0,none⟩) 3 3,H.push (.cells #[.string n0,.string n1,.string n2] 9)):=HL.bs_three T.elem33 T.size9 T.zero9 rfl rfl rfl
@[go_sem] theorem T.bs33_4 {H:HL.Heap} {n0:ByteArray} {n1:ByteArray} {n2:ByteArray} {n3:ByteArray}:HL.buildSliceV Tryd.prog H 33 4 [(0,.string n0),(1,.string n1),(2,.string n2),(3,.string n3)]=some (.slice (some ⟨H.size,0,none⟩) 4 4,H.push (.cells #[.string n0,.string n1,.string n2,.string n3] 9)):=HL.bs_four T.elem33 T.size9 T.zero9 rfl rfl rfl rfl
@[go_sem] theorem T.bs33_0 {H:HL.Heap}:HL.buildSliceV Tryd.prog H 33 0 []=some (.slice (some ⟨H.size,0,none⟩) 0 0,H.push (.cells #[] 9)):=HL.bs_zero T.elem33 T.size9 T.zero9
theorem T.el34:HL.ElT Tryd.prog 34 3 1 8 (.int .i64 0):=⟨T.elem34,T.size3,T.bytes3,T.zero3⟩
@[go_sem] theorem T.bs34_1 {H:HL.Heap} {k0:IntKind} {n0:Int}:HL.buildSliceV Tryd.prog H 34 1 [(0,.int k0 n0)]=some (.slice (some ⟨H.size,0,none⟩) 1 1,H.push (.cells #[.int k0 n0] 3)):=HL.bs_one T.elem34 T.size3 T.zero3 rfl
@[go_sem] theorem T.bs34_2 {H:HL.Heap} {k0:IntKind} {n0:Int} {k1:IntKind} {n1:Int}:HL.buildSliceV Tryd.prog H 34 2 [(0,.int k0 n0),(1,.int k1 n1)]=some (.slice (some ⟨H.size,0,none⟩) 2 2,H.push (.cells #[.int k0 n0,.int k1 n1] 3)):=HL.bs_two T.elem34 T.size3 T.zero3 rfl rfl
@[go_sem] theorem T.bs34_3 {H:HL.Heap} {k0:IntKind} {n0:Int} {k1:IntKind} {n1:Int} {k2:IntKind} {n2:Int}:HL.buildSliceV Tryd.prog H 34 3 [(0,.int k0 n0),(1,.int k1 n1),(2,.int k2 n2)]=some (.slice (some ⟨H.size,0,none⟩) 3 3,H.push (.cells #[.int k0 n0,.int k1 n1,.int k2 n2] 3)):=HL.bs_three T.elem34 T.size3 T.zero3 rfl rfl rfl
@[go_sem] theorem T.bs34_4 {H:HL.Heap} {k0:IntKind} {n0:Int} {k1:IntKind} {n1:Int} {k2:IntKind} {n2:Int} {k3:IntKind} {n3:Int}:HL.buildSliceV Tryd.prog H 34 4 [(0,.int k0 n0),(1,.int k1 n1),(2,.int k2 n2),(3,.int k3 n3)]=some (.slice (some ⟨H.size,0,none⟩) 4 4,H.push (.cells #[.int k0 n0,.int k1 n1,.int k2 n2,.int k3 n3] 3)):=HL.bs_four T.elem34 T.size3 T.zero3 rfl rfl rfl rfl
@[go_sem] theorem T.bs34_0 {H:HL.Heap}:HL.buildSliceV Tryd.prog H 34 0 []=some (.slice (some ⟨H.size,0,none⟩) 0 0,H.push (.cells #[] 3)):=HL.bs_zero T.elem34 T.size3 T.zero3
theorem T.el41:HL.ElT Tryd.prog 41 5 1 1 (.int .u8 0):=⟨T.elem41,T.size5,T.bytes5,T.zero5⟩
@[go_sem] theorem T.bs41_1 {H:HL.Heap} {k0:IntKind} {n0:Int}:HL.buildSliceV Tryd.prog H 41 1 [(0,.int k0 n0)]=some (.slice (some ⟨H.size,0,none⟩) 1 1,H.push (.cells #[.int k0 n0] 5)):=HL.bs_one T.elem41 T.size5 T.zero5 rfl
@[go_sem] theorem T.bs41_2 {H:HL.Heap} {k0:IntKind} {n0:Int} {k1:IntKind} {n1:Int}:HL.buildSliceV Tryd.prog H 41 2 [(0,.int k0 n0),(1,.int k1 n1)]=some (.slice (some ⟨H.size,0,none⟩) 2 2,H.push (.cells #[.int k0 n0,.int k1 n1] 5)):=HL.bs_two T.elem41 T.size5 T.zero5 rfl rfl
@[go_sem] theorem T.bs41_3 {H:HL.Heap} {k0:IntKind} {n0:Int} {k1:IntKind} {n1:Int} {k2:IntKind} {n2:Int}:HL.buildSliceV Tryd.prog H 41 3 [(0,.int k0 n0),(1,.int k1 n1),(2,.int k2 n2)]=some (.slice (some ⟨H.size,0,none⟩) 3 3,H.push (.cells #[.int k0 n0,.int k1 n1,.int k2 n2] 5)):=HL.bs_three T.elem41 T.size5 T.zero5 rfl rfl rfl
@[go_sem] theorem T.bs41_4 {H:HL.Heap} {k0:IntKind} {n0:Int} {k1:IntKind} {n1:Int} {k2:IntKind} {n2:Int} {k3:IntKind} {n3:Int}:HL.buildSliceV Tryd.prog H 41 4 [(0,.int k0 n0),(1,.int k1 n1),(2,.int k2 n2),(3,.int k3 n3)]=some (.slice (some ⟨H.size,0,none⟩) 4 4,H.push (.cells #[.int k0 n0,.int k1 n1,.int k2 n2,.int k3 n3] 5)):=HL.bs_four T.elem41 T.size5 T.zero5 rfl rfl rfl rfl
@[go_sem] theorem T.bs41_0 {H:HL.Heap}:HL.buildSliceV Tryd.prog H 41 0 []=some (.slice (some ⟨H.size,0,none⟩) 0 0,H.push (.cells #[] 5)):=HL.bs_zero T.elem41 T.size5 T.zero5
theorem T.el48:HL.ElT Tryd.prog 48 77 3 32 (.agg #[.int .i64 0,.string ⟨#[]⟩,.int .i64 0]):=⟨T.elem48,T.size77,T.bytes77,T.zero77⟩
@[go_sem] theorem T.bs48_0 {H:HL.Heap}:HL.buildSliceV Tryd.prog H 48 0 []=some (.slice (some ⟨H.size,0,none⟩) 0 0,H.push (.cells #[] 77)):=HL.bs_zero T.elem48 T.size77 T.zero77
theorem T.el54:HL.ElT Tryd.prog 54 56 6 112 (.agg #[.int .i64 0,.slice none 0 0,.slice none 0 0,.slice none 0 0,.int .i64 0,.slice none 0 0]):=⟨T.elem54,T.size56,T.bytes56,T.zero56⟩
@[go_sem] theorem T.bs54_0 {H:HL.Heap}:HL.buildSliceV Tryd.prog H 54 0 []=some (.slice (some ⟨H.size,0,none⟩) 0 0,H.push (.cells #[] 56)):=HL.bs_zero T.elem54 T.size56 T.zero56
theorem T.el105:HL.ElT Tryd.prog 105 94 2 16 (.agg #[.int .i64 0,.int .i64 0]):=⟨T.elem105,T.size94,T.bytes94,T.zero94⟩
@[go_sem] theorem T.bs105_0 {H:HL.Heap}:HL.buildSliceV Tryd.prog H 105 0 []=some (.slice (some ⟨H.size,0,none⟩) 0 0,H.push (.cells #[] 94)):=HL.bs_zero T.elem105 T.size94 T.zero94
@[go_sem] theorem T.pe15 {H:HL.Heap} {xo yo:Operand} {a:Addr}:HL.binV Tryd.prog (HL.full H) .eql 15 xo yo (.pointer (some a)) (.pointer none)=some (.bool false):=HL.bin_ptr_eql Tryd.underlying15
@[go_sem] theorem T.pn15 {H:HL.Heap} {xo yo:Operand} {a:Addr}:HL.binV Tryd.prog (HL.full H) .neq 15 xo yo (.pointer (some a)) (.pointer none)=some (.bool true):=HL.bin_ptr_neq Tryd.underlying15
@[go_sem] theorem T.ne15 {H:HL.Heap} {xo yo:Operand}:HL.binV Tryd.prog (HL.full H) .eql 15 xo yo (.pointer none) (.pointer none)=some (.bool true):=HL.bin_nil_eql Tryd.underlying15
@[go_sem] theorem T.nn15 {H:HL.Heap} {xo yo:Operand}:HL.binV Tryd.prog (HL.full H) .neq 15 xo yo (.pointer none) (.pointer none)=some (.bool false):=HL.bin_nil_neq Tryd.underlying15
@[go_sem] theorem T.pe16 {H:HL.Heap} {xo yo:Operand} {a:Addr}:HL.binV Tryd.prog (HL.full H) .eql 16 xo yo (.pointer (some a)) (.pointer none)=some (.bool false):=HL.bin_ptr_eql Tryd.underlying16
@[go_sem] theorem T.pn16 {H:HL.Heap} {xo yo:Operand} {a:Addr}:HL.binV Tryd.prog (HL.full H) .neq 16 xo yo (.pointer (some a)) (.pointer none)=some (.bool true):=HL.bin_ptr_neq Tryd.underlying16
@[go_sem] theorem T.ne16 {H:HL.Heap} {xo yo:Operand}:HL.binV Tryd.prog (HL.full H) .eql 16 xo yo (.pointer none) (.pointer none)=some (.bool true):=HL.bin_nil_eql Tryd.underlying16
@[go_sem] theorem T.nn16 {H:HL.Heap} {xo yo:Operand}:HL.binV Tryd.prog (HL.full H) .neq 16 xo yo (.pointer none) (.pointer none)=some (.bool false):=HL.bin_nil_neq Tryd.underlying16
@[go_sem] theorem T.pe17 {H:HL.Heap} {xo yo:Operand} {a:Addr}:HL.binV Tryd.prog (HL.full H) .eql 17 xo yo (.pointer (some a)) (.pointer none)=some (.bool false):=HL.bin_ptr_eql Tryd.underlying17
@[go_sem] theorem T.pn17 {H:HL.Heap} {xo yo:Operand} {a:Addr}:HL.binV Tryd.prog (HL.full H) .neq 17 xo yo (.pointer (some a)) (.pointer none)=some (.bool true):=HL.bin_ptr_neq Tryd.underlying17
@[go_sem] theorem T.ne17 {H:HL.Heap} {xo yo:Operand}:HL.binV Tryd.prog (HL.full H) .eql 17 xo yo (.pointer none) (.pointer none)=some (.bool true):=HL.bin_nil_eql Tryd.underlying17
@[go_sem] theorem T.nn17 {H:HL.Heap} {xo yo:Operand}:HL.binV Tryd.prog (HL.full H) .neq 17 xo yo (.pointer none) (.pointer none)=some (.bool false):=HL.bin_nil_neq Tryd.underlying17
@[go_sem] theorem T.pe40 {H:HL.Heap} {xo yo:Operand} {a:Addr}:HL.binV Tryd.prog (HL.full H) .eql 40 xo yo (.pointer (some a)) (.pointer none)=some (.bool false):=HL.bin_ptr_eql Tryd.underlying40
@[go_sem] theorem T.pn40 {H:HL.Heap} {xo yo:Operand} {a:Addr}:HL.binV Tryd.prog (HL.full H) .neq 40 xo yo (.pointer (some a)) (.pointer none)=some (.bool true):=HL.bin_ptr_neq Tryd.underlying40
@[go_sem] theorem T.ne40 {H:HL.Heap} {xo yo:Operand}:HL.binV Tryd.prog (HL.full H) .eql 40 xo yo (.pointer none) (.pointer none)=some (.bool true):=HL.bin_nil_eql Tryd.underlying40
@[go_sem] theorem T.nn40 {H:HL.Heap} {xo yo:Operand}:HL.binV Tryd.prog (HL.full H) .neq 40 xo yo (.pointer none) (.pointer none)=some (.bool false):=HL.bin_nil_neq Tryd.underlying40
@[go_sem] theorem T.pe51 {H:HL.Heap} {xo yo:Operand} {a:Addr}:HL.binV Tryd.prog (HL.full H) .eql 51 xo yo (.pointer (some a)) (.pointer none)=some (.bool false):=HL.bin_ptr_eql Tryd.underlying51
@[go_sem] theorem T.pn51 {H:HL.Heap} {xo yo:Operand} {a:Addr}:HL.binV Tryd.prog (HL.full H) .neq 51 xo yo (.pointer (some a)) (.pointer none)=some (.bool true):=HL.bin_ptr_neq Tryd.underlying51
@[go_sem] theorem T.ne51 {H:HL.Heap} {xo yo:Operand}:HL.binV Tryd.prog (HL.full H) .eql 51 xo yo (.pointer none) (.pointer none)=some (.bool true):=HL.bin_nil_eql Tryd.underlying51
@[go_sem] theorem T.nn51 {H:HL.Heap} {xo yo:Operand}:HL.binV Tryd.prog (HL.full H) .neq 51 xo yo (.pointer none) (.pointer none)=some (.bool false):=HL.bin_nil_neq Tryd.underlying51
@[go_sem] theorem T.pe65 {H:HL.Heap} {xo yo:Operand} {a:Addr}:HL.binV Tryd.prog (HL.full H) .eql 65 xo yo (.pointer (some a)) (.pointer none)=some (.bool false):=HL.bin_ptr_eql Tryd.underlying65
@[go_sem] theorem T.pn65 {H:HL.Heap} {xo yo:Operand} {a:Addr}:HL.binV Tryd.prog (HL.full H) .neq 65 xo yo (.pointer (some a)) (.pointer none)=some (.bool true):=HL.bin_ptr_neq Tryd.underlying65
@[go_sem] theorem T.ne65 {H:HL.Heap} {xo yo:Operand}:HL.binV Tryd.prog (HL.full H) .eql 65 xo yo (.pointer none) (.pointer none)=some (.bool true):=HL.bin_nil_eql Tryd.underlying65
@[go_sem] theorem T.nn65 {H:HL.Heap} {xo yo:Operand}:HL.binV Tryd.prog (HL.full H) .neq 65 xo yo (.pointer none) (.pointer none)=some (.bool false):=HL.bin_nil_neq Tryd.underlying65
@[go_sem] theorem T.pe72 {H:HL.Heap} {xo yo:Operand} {a:Addr}:HL.binV Tryd.prog (HL.full H) .eql 72 xo yo (.pointer (some a)) (.pointer none)=some (.bool false):=HL.bin_ptr_eql Tryd.underlying72
@[go_sem] theorem T.pn72 {H:HL.Heap} {xo yo:Operand} {a:Addr}:HL.binV Tryd.prog (HL.full H) .neq 72 xo yo (.pointer (some a)) (.pointer none)=some (.bool true):=HL.bin_ptr_neq Tryd.underlying72
@[go_sem] theorem T.ne72 {H:HL.Heap} {xo yo:Operand}:HL.binV Tryd.prog (HL.full H) .eql 72 xo yo (.pointer none) (.pointer none)=some (.bool true):=HL.bin_nil_eql Tryd.underlying72
@[go_sem] theorem T.nn72 {H:HL.Heap} {xo yo:Operand}:HL.binV Tryd.prog (HL.full H) .neq 72 xo yo (.pointer none) (.pointer none)=some (.bool false):=HL.bin_nil_neq Tryd.underlying72
@[go_sem] theorem T.pe100 {H:HL.Heap} {xo yo:Operand} {a:Addr}:HL.binV Tryd.prog (HL.full H) .eql 100 xo yo (.pointer (some a)) (.pointer none)=some (.bool false):=HL.bin_ptr_eql Tryd.underlying100
@[go_sem] theorem T.pn100 {H:HL.Heap} {xo yo:Operand} {a:Addr}:HL.binV Tryd.prog (HL.full H) .neq 100 xo yo (.pointer (some a)) (.pointer none)=some (.bool true):=HL.bin_ptr_neq Tryd.underlying100
@[go_sem] theorem T.ne100 {H:HL.Heap} {xo yo:Operand}:HL.binV Tryd.prog (HL.full H) .eql 100 xo yo (.pointer none) (.pointer none)=some (.bool true):=HL.bin_nil_eql Tryd.underlying100
@[go_sem] theorem T.nn100 {H:HL.Heap} {xo yo:Operand}:HL.binV Tryd.prog (HL.full H) .neq 100 xo yo (.pointer none) (.pointer none)=some (.bool false):=HL.bin_nil_neq Tryd.underlying100
@[go_sem] theorem T.be4 {H:HL.Heap} {xo yo:Operand} {x y:Bool}:HL.binV Tryd.prog (HL.full H) .eql 4 xo yo (.bool x) (.bool y)=some (.bool (x == y)):=HL.bin_bool_eql Tryd.underlying4
@[go_sem] theorem T.bn4 {H:HL.Heap} {xo yo:Operand} {x y:Bool}:HL.binV Tryd.prog (HL.full H) .neq 4 xo yo (.bool x) (.bool y)=some (.bool (!(x == y))):=HL.bin_bool_neq Tryd.underlying4
@[go_sem] theorem T.se28 {H:HL.Heap} {xo yo:Operand} {a0 b0:Int} {a1 b1:Int}:HL.binV Tryd.prog (HL.full H) .eql 28 xo yo (.agg #[.int .i64 a0,.int .i64 a1]) (.agg #[.int .i64 b0,.int .i64 b1])=some (.bool ((decide (a0=b0∧a1=b1∧True)))):=(HL.bin_struct (xs:=[.int .i64 a0,.int .i64 a1]) (ys:=[.int .i64 b0,.int .i64 b1]) Tryd.underlying28 (by kernel_rfl) (by kernel_rfl) (HL.eqF_int (by decide) Tryd.underlying26 rfl rfl (HL.eqF_int (by decide) Tryd.underlying3 rfl rfl HL.eqF_nil))).1
@[go_sem] theorem T.sn28 {H:HL.Heap} {xo yo:Operand} {a0 b0:Int} {a1 b1:Int}:HL.binV Tryd.prog (HL.full H) .neq 28 xo yo (.agg #[.int .i64 a0,.int .i64 a1]) (.agg #[.int .i64 b0,.int .i64 b1])=some (.bool (!(decide (a0=b0∧a1=b1∧True)))):=(HL.bin_struct (xs:=[.int .i64 a0,.int .i64 a1]) (ys:=[.int .i64 b0,.int .i64 b1]) Tryd.underlying28 (by kernel_rfl) (by kernel_rfl) (HL.eqF_int (by decide) Tryd.underlying26 rfl rfl (HL.eqF_int (by decide) Tryd.underlying3 rfl rfl HL.eqF_nil))).2
@[go_sem] theorem T.se77 {H:HL.Heap} {xo yo:Operand} {a0 b0:Int} {a1 b1:ByteArray} {a2 b2:Int}:HL.binV Tryd.prog (HL.full H) .eql 77 xo yo (.agg #[.int .i64 a0,.string a1,.int .i64 a2]) (.agg #[.int .i64 b0,.string b1,.int .i64 b2])=some (.bool ((decide (a0=b0∧a1=b1∧a2=b2∧True)))):=(HL.bin_struct (xs:=[.int .i64 a0,.string a1,.int .i64 a2]) (ys:=[.int .i64 b0,.string b1,.int .i64 b2]) Tryd.underlying77 (by kernel_rfl) (by kernel_rfl) (HL.eqF_int (by decide) Tryd.underlying3 rfl rfl (HL.eqF_str (by decide) Tryd.underlying9 rfl rfl (HL.eqF_int (by decide) Tryd.underlying3 rfl rfl HL.eqF_nil)))).1
@[go_sem] theorem T.sn77 {H:HL.Heap} {xo yo:Operand} {a0 b0:Int} {a1 b1:ByteArray} {a2 b2:Int}:HL.binV Tryd.prog (HL.full H) .neq 77 xo yo (.agg #[.int .i64 a0,.string a1,.int .i64 a2]) (.agg #[.int .i64 b0,.string b1,.int .i64 b2])=some (.bool (!(decide (a0=b0∧a1=b1∧a2=b2∧True)))):=(HL.bin_struct (xs:=[.int .i64 a0,.string a1,.int .i64 a2]) (ys:=[.int .i64 b0,.string b1,.int .i64 b2]) Tryd.underlying77 (by kernel_rfl) (by kernel_rfl) (HL.eqF_int (by decide) Tryd.underlying3 rfl rfl (HL.eqF_str (by decide) Tryd.underlying9 rfl rfl (HL.eqF_int (by decide) Tryd.underlying3 rfl rfl HL.eqF_nil)))).2
@[go_sem] theorem T.cv2_2 {V:HL.HV} {k:IntKind} {n:Int}:HL.convV Tryd.prog V 2 2 (.int k n)=some (.int .i64 (IntKind.i64.wrap n)):=HL.conv_int Tryd.underlying2 Tryd.underlying2
@[go_sem] theorem T.cv2_3 {V:HL.HV} {k:IntKind} {n:Int}:HL.convV Tryd.prog V 2 3 (.int k n)=some (.int .i64 (IntKind.i64.wrap n)):=HL.conv_int Tryd.underlying2 Tryd.underlying3
@[go_sem] theorem T.cv2_5 {V:HL.HV} {k:IntKind} {n:Int}:HL.convV Tryd.prog V 2 5 (.int k n)=some (.int .u8 (IntKind.u8.wrap n)):=HL.conv_int Tryd.underlying2 Tryd.underlying5
@[go_sem] theorem T.cv2_6 {V:HL.HV} {k:IntKind} {n:Int}:HL.convV Tryd.prog V 2 6 (.int k n)=some (.int .u8 (IntKind.u8.wrap n)):=HL.conv_int Tryd.underlying2 Tryd.underlying6
@[go_sem] theorem T.cv2_12 {V:HL.HV} {k:IntKind} {n:Int}:HL.convV Tryd.prog V 2 12 (.int k n)=some (.int .u64 (IntKind.u64.wrap n)):=HL.conv_int Tryd.underlying2 Tryd.underlying12
@[go_sem] theorem T.cv2_21 {V:HL.HV} {k:IntKind} {n:Int}:HL.convV Tryd.prog V 2 21 (.int k n)=some (.int .i32 (IntKind.i32.wrap n)):=HL.conv_int Tryd.underlying2 Tryd.underlying21
@[go_sem] theorem T.cv2_26 {V:HL.HV} {k:IntKind} {n:Int}:HL.convV Tryd.prog V 2 26 (.int k n)=some (.int .i64 (IntKind.i64.wrap n)):=HL.conv_int Tryd.underlying2 Tryd.underlying26
@[go_sem] theorem T.cv2_110 {V:HL.HV} {k:IntKind} {n:Int}:HL.convV Tryd.prog V 2 110 (.int k n)=some (.int .u64 (IntKind.u64.wrap n)):=HL.conv_int Tryd.underlying2 Tryd.underlying110
@[go_sem] theorem T.cv2_118 {V:HL.HV} {k:IntKind} {n:Int}:HL.convV Tryd.prog V 2 118 (.int k n)=some (.int .u32 (IntKind.u32.wrap n)):=HL.conv_int Tryd.underlying2 Tryd.underlying118
@[go_sem] theorem T.cv2_121 {V:HL.HV} {k:IntKind} {n:Int}:HL.convV Tryd.prog V 2 121 (.int k n)=some (.int .u64 (IntKind.u64.wrap n)):=HL.conv_int Tryd.underlying2 Tryd.underlying121
@[go_sem] theorem T.cv2_131 {V:HL.HV} {k:IntKind} {n:Int}:HL.convV Tryd.prog V 2 131 (.int k n)=some (.int .u8 (IntKind.u8.wrap n)):=HL.conv_int Tryd.underlying2 Tryd.underlying131
@[go_sem] theorem T.cv2_132 {V:HL.HV} {k:IntKind} {n:Int}:HL.convV Tryd.prog V 2 132 (.int k n)=some (.int .u8 (IntKind.u8.wrap n)):=HL.conv_int Tryd.underlying2 Tryd.underlying132
@[go_sem] theorem T.cv2_134 {V:HL.HV} {k:IntKind} {n:Int}:HL.convV Tryd.prog V 2 134 (.int k n)=some (.int .i32 (IntKind.i32.wrap n)):=HL.conv_int Tryd.underlying2 Tryd.underlying134
@[go_sem] theorem T.cv2_135 {V:HL.HV} {k:IntKind} {n:Int}:HL.convV Tryd.prog V 2 135 (.int k n)=some (.int .i32 (IntKind.i32.wrap n)):=HL.conv_int Tryd.underlying2 Tryd.underlying135
@[go_sem] theorem T.cv3_2 {V:HL.HV} {k:IntKind} {n:Int}:HL.convV Tryd.prog V 3 2 (.int k n)=some (.int .i64 (IntKind.i64.wrap n)):=HL.conv_int Tryd.underlying3 Tryd.underlying2
@[go_sem] theorem T.cv3_3 {V:HL.HV} {k:IntKind} {n:Int}:HL.convV Tryd.prog V 3 3 (.int k n)=some (.int .i64 (IntKind.i64.wrap n)):=HL.conv_int Tryd.underlying3 Tryd.underlying3
@[go_sem] theorem T.cv3_5 {V:HL.HV} {k:IntKind} {n:Int}:HL.convV Tryd.prog V 3 5 (.int k n)=some (.int .u8 (IntKind.u8.wrap n)):=HL.conv_int Tryd.underlying3 Tryd.underlying5
@[go_sem] theorem T.cv3_6 {V:HL.HV} {k:IntKind} {n:Int}:HL.convV Tryd.prog V 3 6 (.int k n)=some (.int .u8 (IntKind.u8.wrap n)):=HL.conv_int Tryd.underlying3 Tryd.underlying6
@[go_sem] theorem T.cv3_12 {V:HL.HV} {k:IntKind} {n:Int}:HL.convV Tryd.prog V 3 12 (.int k n)=some (.int .u64 (IntKind.u64.wrap n)):=HL.conv_int Tryd.underlying3 Tryd.underlying12
@[go_sem] theorem T.cv3_21 {V:HL.HV} {k:IntKind} {n:Int}:HL.convV Tryd.prog V 3 21 (.int k n)=some (.int .i32 (IntKind.i32.wrap n)):=HL.conv_int Tryd.underlying3 Tryd.underlying21
@[go_sem] theorem T.cv3_26 {V:HL.HV} {k:IntKind} {n:Int}:HL.convV Tryd.prog V 3 26 (.int k n)=some (.int .i64 (IntKind.i64.wrap n)):=HL.conv_int Tryd.underlying3 Tryd.underlying26
@[go_sem] theorem T.cv3_110 {V:HL.HV} {k:IntKind} {n:Int}:HL.convV Tryd.prog V 3 110 (.int k n)=some (.int .u64 (IntKind.u64.wrap n)):=HL.conv_int Tryd.underlying3 Tryd.underlying110
@[go_sem] theorem T.cv3_118 {V:HL.HV} {k:IntKind} {n:Int}:HL.convV Tryd.prog V 3 118 (.int k n)=some (.int .u32 (IntKind.u32.wrap n)):=HL.conv_int Tryd.underlying3 Tryd.underlying118
@[go_sem] theorem T.cv3_121 {V:HL.HV} {k:IntKind} {n:Int}:HL.convV Tryd.prog V 3 121 (.int k n)=some (.int .u64 (IntKind.u64.wrap n)):=HL.conv_int Tryd.underlying3 Tryd.underlying121
@[go_sem] theorem T.cv3_131 {V:HL.HV} {k:IntKind} {n:Int}:HL.convV Tryd.prog V 3 131 (.int k n)=some (.int .u8 (IntKind.u8.wrap n)):=HL.conv_int Tryd.underlying3 Tryd.underlying131
@[go_sem] theorem T.cv3_132 {V:HL.HV} {k:IntKind} {n:Int}:HL.convV Tryd.prog V 3 132 (.int k n)=some (.int .u8 (IntKind.u8.wrap n)):=HL.conv_int Tryd.underlying3 Tryd.underlying132
@[go_sem] theorem T.cv3_134 {V:HL.HV} {k:IntKind} {n:Int}:HL.convV Tryd.prog V 3 134 (.int k n)=some (.int .i32 (IntKind.i32.wrap n)):=HL.conv_int Tryd.underlying3 Tryd.underlying134
@[go_sem] theorem T.cv3_135 {V:HL.HV} {k:IntKind} {n:Int}:HL.convV Tryd.prog V 3 135 (.int k n)=some (.int .i32 (IntKind.i32.wrap n)):=HL.conv_int Tryd.underlying3 Tryd.underlying135
@[go_sem] theorem T.cv5_2 {V:HL.HV} {k:IntKind} {n:Int}:HL.convV Tryd.prog V 5 2 (.int k n)=some (.int .i64 (IntKind.i64.wrap n)):=HL.conv_int Tryd.underlying5 Tryd.underlying2
@[go_sem] theorem T.cv5_3 {V:HL.HV} {k:IntKind} {n:Int}:HL.convV Tryd.prog V 5 3 (.int k n)=some (.int .i64 (IntKind.i64.wrap n)):=HL.conv_int Tryd.underlying5 Tryd.underlying3
@[go_sem] theorem T.cv5_5 {V:HL.HV} {k:IntKind} {n:Int}:HL.convV Tryd.prog V 5 5 (.int k n)=some (.int .u8 (IntKind.u8.wrap n)):=HL.conv_int Tryd.underlying5 Tryd.underlying5
@[go_sem] theorem T.cv5_6 {V:HL.HV} {k:IntKind} {n:Int}:HL.convV Tryd.prog V 5 6 (.int k n)=some (.int .u8 (IntKind.u8.wrap n)):=HL.conv_int Tryd.underlying5 Tryd.underlying6
@[go_sem] theorem T.cv5_12 {V:HL.HV} {k:IntKind} {n:Int}:HL.convV Tryd.prog V 5 12 (.int k n)=some (.int .u64 (IntKind.u64.wrap n)):=HL.conv_int Tryd.underlying5 Tryd.underlying12
@[go_sem] theorem T.cv5_21 {V:HL.HV} {k:IntKind} {n:Int}:HL.convV Tryd.prog V 5 21 (.int k n)=some (.int .i32 (IntKind.i32.wrap n)):=HL.conv_int Tryd.underlying5 Tryd.underlying21
@[go_sem] theorem T.cv5_26 {V:HL.HV} {k:IntKind} {n:Int}:HL.convV Tryd.prog V 5 26 (.int k n)=some (.int .i64 (IntKind.i64.wrap n)):=HL.conv_int Tryd.underlying5 Tryd.underlying26
@[go_sem] theorem T.cv5_110 {V:HL.HV} {k:IntKind} {n:Int}:HL.convV Tryd.prog V 5 110 (.int k n)=some (.int .u64 (IntKind.u64.wrap n)):=HL.conv_int Tryd.underlying5 Tryd.underlying110
@[go_sem] theorem T.cv5_118 {V:HL.HV} {k:IntKind} {n:Int}:HL.convV Tryd.prog V 5 118 (.int k n)=some (.int .u32 (IntKind.u32.wrap n)):=HL.conv_int Tryd.underlying5 Tryd.underlying118
@[go_sem] theorem T.cv5_121 {V:HL.HV} {k:IntKind} {n:Int}:HL.convV Tryd.prog V 5 121 (.int k n)=some (.int .u64 (IntKind.u64.wrap n)):=HL.conv_int Tryd.underlying5 Tryd.underlying121
@[go_sem] theorem T.cv5_131 {V:HL.HV} {k:IntKind} {n:Int}:HL.convV Tryd.prog V 5 131 (.int k n)=some (.int .u8 (IntKind.u8.wrap n)):=HL.conv_int Tryd.underlying5 Tryd.underlying131
@[go_sem] theorem T.cv5_132 {V:HL.HV} {k:IntKind} {n:Int}:HL.convV Tryd.prog V 5 132 (.int k n)=some (.int .u8 (IntKind.u8.wrap n)):=HL.conv_int Tryd.underlying5 Tryd.underlying132
@[go_sem] theorem T.cv5_134 {V:HL.HV} {k:IntKind} {n:Int}:HL.convV Tryd.prog V 5 134 (.int k n)=some (.int .i32 (IntKind.i32.wrap n)):=HL.conv_int Tryd.underlying5 Tryd.underlying134
@[go_sem] theorem T.cv5_135 {V:HL.HV} {k:IntKind} {n:Int}:HL.convV Tryd.prog V 5 135 (.int k n)=some (.int .i32 (IntKind.i32.wrap n)):=HL.conv_int Tryd.underlying5 Tryd.underlying135
@[go_sem] theorem T.cv6_2 {V:HL.HV} {k:IntKind} {n:Int}:HL.convV Tryd.prog V 6 2 (.int k n)=some (.int .i64 (IntKind.i64.wrap n)):=HL.conv_int Tryd.underlying6 Tryd.underlying2
@[go_sem] theorem T.cv6_3 {V:HL.HV} {k:IntKind} {n:Int}:HL.convV Tryd.prog V 6 3 (.int k n)=some (.int .i64 (IntKind.i64.wrap n)):=HL.conv_int Tryd.underlying6 Tryd.underlying3
@[go_sem] theorem T.cv6_5 {V:HL.HV} {k:IntKind} {n:Int}:HL.convV Tryd.prog V 6 5 (.int k n)=some (.int .u8 (IntKind.u8.wrap n)):=HL.conv_int Tryd.underlying6 Tryd.underlying5
@[go_sem] theorem T.cv6_6 {V:HL.HV} {k:IntKind} {n:Int}:HL.convV Tryd.prog V 6 6 (.int k n)=some (.int .u8 (IntKind.u8.wrap n)):=HL.conv_int Tryd.underlying6 Tryd.underlying6
@[go_sem] theorem T.cv6_12 {V:HL.HV} {k:IntKind} {n:Int}:HL.convV Tryd.prog V 6 12 (.int k n)=some (.int .u64 (IntKind.u64.wrap n)):=HL.conv_int Tryd.underlying6 Tryd.underlying12
@[go_sem] theorem T.cv6_21 {V:HL.HV} {k:IntKind} {n:Int}:HL.convV Tryd.prog V 6 21 (.int k n)=some (.int .i32 (IntKind.i32.wrap n)):=HL.conv_int Tryd.underlying6 Tryd.underlying21
@[go_sem] theorem T.cv6_26 {V:HL.HV} {k:IntKind} {n:Int}:HL.convV Tryd.prog V 6 26 (.int k n)=some (.int .i64 (IntKind.i64.wrap n)):=HL.conv_int Tryd.underlying6 Tryd.underlying26
@[go_sem] theorem T.cv6_110 {V:HL.HV} {k:IntKind} {n:Int}:HL.convV Tryd.prog V 6 110 (.int k n)=some (.int .u64 (IntKind.u64.wrap n)):=HL.conv_int Tryd.underlying6 Tryd.underlying110
@[go_sem] theorem T.cv6_118 {V:HL.HV} {k:IntKind} {n:Int}:HL.convV Tryd.prog V 6 118 (.int k n)=some (.int .u32 (IntKind.u32.wrap n)):=HL.conv_int Tryd.underlying6 Tryd.underlying118
@[go_sem] theorem T.cv6_121 {V:HL.HV} {k:IntKind} {n:Int}:HL.convV Tryd.prog V 6 121 (.int k n)=some (.int .u64 (IntKind.u64.wrap n)):=HL.conv_int Tryd.underlying6 Tryd.underlying121
@[go_sem] theorem T.cv6_131 {V:HL.HV} {k:IntKind} {n:Int}:HL.convV Tryd.prog V 6 131 (.int k n)=some (.int .u8 (IntKind.u8.wrap n)):=HL.conv_int Tryd.underlying6 Tryd.underlying131
@[go_sem] theorem T.cv6_132 {V:HL.HV} {k:IntKind} {n:Int}:HL.convV Tryd.prog V 6 132 (.int k n)=some (.int .u8 (IntKind.u8.wrap n)):=HL.conv_int Tryd.underlying6 Tryd.underlying132
@[go_sem] theorem T.cv6_134 {V:HL.HV} {k:IntKind} {n:Int}:HL.convV Tryd.prog V 6 134 (.int k n)=some (.int .i32 (IntKind.i32.wrap n)):=HL.conv_int Tryd.underlying6 Tryd.underlying134
@[go_sem] theorem T.cv6_135 {V:HL.HV} {k:IntKind} {n:Int}:HL.convV Tryd.prog V 6 135 (.int k n)=some (.int .i32 (IntKind.i32.wrap n)):=HL.conv_int Tryd.underlying6 Tryd.underlying135
@[go_sem] theorem T.cv12_2 {V:HL.HV} {k:IntKind} {n:Int}:HL.convV Tryd.prog V 12 2 (.int k n)=some (.int .i64 (IntKind.i64.wrap n)):=HL.conv_int Tryd.underlying12 Tryd.underlying2
@[go_sem] theorem T.cv12_3 {V:HL.HV} {k:IntKind} {n:Int}:HL.convV Tryd.prog V 12 3 (.int k n)=some (.int .i64 (IntKind.i64.wrap n)):=HL.conv_int Tryd.underlying12 Tryd.underlying3
@[go_sem] theorem T.cv12_5 {V:HL.HV} {k:IntKind} {n:Int}:HL.convV Tryd.prog V 12 5 (.int k n)=some (.int .u8 (IntKind.u8.wrap n)):=HL.conv_int Tryd.underlying12 Tryd.underlying5
@[go_sem] theorem T.cv12_6 {V:HL.HV} {k:IntKind} {n:Int}:HL.convV Tryd.prog V 12 6 (.int k n)=some (.int .u8 (IntKind.u8.wrap n)):=HL.conv_int Tryd.underlying12 Tryd.underlying6
@[go_sem] theorem T.cv12_12 {V:HL.HV} {k:IntKind} {n:Int}:HL.convV Tryd.prog V 12 12 (.int k n)=some (.int .u64 (IntKind.u64.wrap n)):=HL.conv_int Tryd.underlying12 Tryd.underlying12
@[go_sem] theorem T.cv12_21 {V:HL.HV} {k:IntKind} {n:Int}:HL.convV Tryd.prog V 12 21 (.int k n)=some (.int .i32 (IntKind.i32.wrap n)):=HL.conv_int Tryd.underlying12 Tryd.underlying21
@[go_sem] theorem T.cv12_26 {V:HL.HV} {k:IntKind} {n:Int}:HL.convV Tryd.prog V 12 26 (.int k n)=some (.int .i64 (IntKind.i64.wrap n)):=HL.conv_int Tryd.underlying12 Tryd.underlying26
@[go_sem] theorem T.cv12_110 {V:HL.HV} {k:IntKind} {n:Int}:HL.convV Tryd.prog V 12 110 (.int k n)=some (.int .u64 (IntKind.u64.wrap n)):=HL.conv_int Tryd.underlying12 Tryd.underlying110
@[go_sem] theorem T.cv12_118 {V:HL.HV} {k:IntKind} {n:Int}:HL.convV Tryd.prog V 12 118 (.int k n)=some (.int .u32 (IntKind.u32.wrap n)):=HL.conv_int Tryd.underlying12 Tryd.underlying118
@[go_sem] theorem T.cv12_121 {V:HL.HV} {k:IntKind} {n:Int}:HL.convV Tryd.prog V 12 121 (.int k n)=some (.int .u64 (IntKind.u64.wrap n)):=HL.conv_int Tryd.underlying12 Tryd.underlying121
@[go_sem] theorem T.cv12_131 {V:HL.HV} {k:IntKind} {n:Int}:HL.convV Tryd.prog V 12 131 (.int k n)=some (.int .u8 (IntKind.u8.wrap n)):=HL.conv_int Tryd.underlying12 Tryd.underlying131
@[go_sem] theorem T.cv12_132 {V:HL.HV} {k:IntKind} {n:Int}:HL.convV Tryd.prog V 12 132 (.int k n)=some (.int .u8 (IntKind.u8.wrap n)):=HL.conv_int Tryd.underlying12 Tryd.underlying132
@[go_sem] theorem T.cv12_134 {V:HL.HV} {k:IntKind} {n:Int}:HL.convV Tryd.prog V 12 134 (.int k n)=some (.int .i32 (IntKind.i32.wrap n)):=HL.conv_int Tryd.underlying12 Tryd.underlying134
@[go_sem] theorem T.cv12_135 {V:HL.HV} {k:IntKind} {n:Int}:HL.convV Tryd.prog V 12 135 (.int k n)=some (.int .i32 (IntKind.i32.wrap n)):=HL.conv_int Tryd.underlying12 Tryd.underlying135
@[go_sem] theorem T.cv21_2 {V:HL.HV} {k:IntKind} {n:Int}:HL.convV Tryd.prog V 21 2 (.int k n)=some (.int .i64 (IntKind.i64.wrap n)):=HL.conv_int Tryd.underlying21 Tryd.underlying2
@[go_sem] theorem T.cv21_3 {V:HL.HV} {k:IntKind} {n:Int}:HL.convV Tryd.prog V 21 3 (.int k n)=some (.int .i64 (IntKind.i64.wrap n)):=HL.conv_int Tryd.underlying21 Tryd.underlying3
@[go_sem] theorem T.cv21_5 {V:HL.HV} {k:IntKind} {n:Int}:HL.convV Tryd.prog V 21 5 (.int k n)=some (.int .u8 (IntKind.u8.wrap n)):=HL.conv_int Tryd.underlying21 Tryd.underlying5
@[go_sem] theorem T.cv21_6 {V:HL.HV} {k:IntKind} {n:Int}:HL.convV Tryd.prog V 21 6 (.int k n)=some (.int .u8 (IntKind.u8.wrap n)):=HL.conv_int Tryd.underlying21 Tryd.underlying6
@[go_sem] theorem T.cv21_12 {V:HL.HV} {k:IntKind} {n:Int}:HL.convV Tryd.prog V 21 12 (.int k n)=some (.int .u64 (IntKind.u64.wrap n)):=HL.conv_int Tryd.underlying21 Tryd.underlying12
@[go_sem] theorem T.cv21_21 {V:HL.HV} {k:IntKind} {n:Int}:HL.convV Tryd.prog V 21 21 (.int k n)=some (.int .i32 (IntKind.i32.wrap n)):=HL.conv_int Tryd.underlying21 Tryd.underlying21
@[go_sem] theorem T.cv21_26 {V:HL.HV} {k:IntKind} {n:Int}:HL.convV Tryd.prog V 21 26 (.int k n)=some (.int .i64 (IntKind.i64.wrap n)):=HL.conv_int Tryd.underlying21 Tryd.underlying26
@[go_sem] theorem T.cv21_110 {V:HL.HV} {k:IntKind} {n:Int}:HL.convV Tryd.prog V 21 110 (.int k n)=some (.int .u64 (IntKind.u64.wrap n)):=HL.conv_int Tryd.underlying21 Tryd.underlying110
@[go_sem] theorem T.cv21_118 {V:HL.HV} {k:IntKind} {n:Int}:HL.convV Tryd.prog V 21 118 (.int k n)=some (.int .u32 (IntKind.u32.wrap n)):=HL.conv_int Tryd.underlying21 Tryd.underlying118
@[go_sem] theorem T.cv21_121 {V:HL.HV} {k:IntKind} {n:Int}:HL.convV Tryd.prog V 21 121 (.int k n)=some (.int .u64 (IntKind.u64.wrap n)):=HL.conv_int Tryd.underlying21 Tryd.underlying121
@[go_sem] theorem T.cv21_131 {V:HL.HV} {k:IntKind} {n:Int}:HL.convV Tryd.prog V 21 131 (.int k n)=some (.int .u8 (IntKind.u8.wrap n)):=HL.conv_int Tryd.underlying21 Tryd.underlying131
@[go_sem] theorem T.cv21_132 {V:HL.HV} {k:IntKind} {n:Int}:HL.convV Tryd.prog V 21 132 (.int k n)=some (.int .u8 (IntKind.u8.wrap n)):=HL.conv_int Tryd.underlying21 Tryd.underlying132
@[go_sem] theorem T.cv21_134 {V:HL.HV} {k:IntKind} {n:Int}:HL.convV Tryd.prog V 21 134 (.int k n)=some (.int .i32 (IntKind.i32.wrap n)):=HL.conv_int Tryd.underlying21 Tryd.underlying134
@[go_sem] theorem T.cv21_135 {V:HL.HV} {k:IntKind} {n:Int}:HL.convV Tryd.prog V 21 135 (.int k n)=some (.int .i32 (IntKind.i32.wrap n)):=HL.conv_int Tryd.underlying21 Tryd.underlying135
@[go_sem] theorem T.cv26_2 {V:HL.HV} {k:IntKind} {n:Int}:HL.convV Tryd.prog V 26 2 (.int k n)=some (.int .i64 (IntKind.i64.wrap n)):=HL.conv_int Tryd.underlying26 Tryd.underlying2
@[go_sem] theorem T.cv26_3 {V:HL.HV} {k:IntKind} {n:Int}:HL.convV Tryd.prog V 26 3 (.int k n)=some (.int .i64 (IntKind.i64.wrap n)):=HL.conv_int Tryd.underlying26 Tryd.underlying3
@[go_sem] theorem T.cv26_5 {V:HL.HV} {k:IntKind} {n:Int}:HL.convV Tryd.prog V 26 5 (.int k n)=some (.int .u8 (IntKind.u8.wrap n)):=HL.conv_int Tryd.underlying26 Tryd.underlying5
@[go_sem] theorem T.cv26_6 {V:HL.HV} {k:IntKind} {n:Int}:HL.convV Tryd.prog V 26 6 (.int k n)=some (.int .u8 (IntKind.u8.wrap n)):=HL.conv_int Tryd.underlying26 Tryd.underlying6
@[go_sem] theorem T.cv26_12 {V:HL.HV} {k:IntKind} {n:Int}:HL.convV Tryd.prog V 26 12 (.int k n)=some (.int .u64 (IntKind.u64.wrap n)):=HL.conv_int Tryd.underlying26 Tryd.underlying12
@[go_sem] theorem T.cv26_21 {V:HL.HV} {k:IntKind} {n:Int}:HL.convV Tryd.prog V 26 21 (.int k n)=some (.int .i32 (IntKind.i32.wrap n)):=HL.conv_int Tryd.underlying26 Tryd.underlying21
@[go_sem] theorem T.cv26_26 {V:HL.HV} {k:IntKind} {n:Int}:HL.convV Tryd.prog V 26 26 (.int k n)=some (.int .i64 (IntKind.i64.wrap n)):=HL.conv_int Tryd.underlying26 Tryd.underlying26
@[go_sem] theorem T.cv26_110 {V:HL.HV} {k:IntKind} {n:Int}:HL.convV Tryd.prog V 26 110 (.int k n)=some (.int .u64 (IntKind.u64.wrap n)):=HL.conv_int Tryd.underlying26 Tryd.underlying110
@[go_sem] theorem T.cv26_118 {V:HL.HV} {k:IntKind} {n:Int}:HL.convV Tryd.prog V 26 118 (.int k n)=some (.int .u32 (IntKind.u32.wrap n)):=HL.conv_int Tryd.underlying26 Tryd.underlying118
@[go_sem] theorem T.cv26_121 {V:HL.HV} {k:IntKind} {n:Int}:HL.convV Tryd.prog V 26 121 (.int k n)=some (.int .u64 (IntKind.u64.wrap n)):=HL.conv_int Tryd.underlying26 Tryd.underlying121
@[go_sem] theorem T.cv26_131 {V:HL.HV} {k:IntKind} {n:Int}:HL.convV Tryd.prog V 26 131 (.int k n)=some (.int .u8 (IntKind.u8.wrap n)):=HL.conv_int Tryd.underlying26 Tryd.underlying131
@[go_sem] theorem T.cv26_132 {V:HL.HV} {k:IntKind} {n:Int}:HL.convV Tryd.prog V 26 132 (.int k n)=some (.int .u8 (IntKind.u8.wrap n)):=HL.conv_int Tryd.underlying26 Tryd.underlying132
@[go_sem] theorem T.cv26_134 {V:HL.HV} {k:IntKind} {n:Int}:HL.convV Tryd.prog V 26 134 (.int k n)=some (.int .i32 (IntKind.i32.wrap n)):=HL.conv_int Tryd.underlying26 Tryd.underlying134
@[go_sem] theorem T.cv26_135 {V:HL.HV} {k:IntKind} {n:Int}:HL.convV Tryd.prog V 26 135 (.int k n)=some (.int .i32 (IntKind.i32.wrap n)):=HL.conv_int Tryd.underlying26 Tryd.underlying135
@[go_sem] theorem T.cv110_2 {V:HL.HV} {k:IntKind} {n:Int}:HL.convV Tryd.prog V 110 2 (.int k n)=some (.int .i64 (IntKind.i64.wrap n)):=HL.conv_int Tryd.underlying110 Tryd.underlying2
@[go_sem] theorem T.cv110_3 {V:HL.HV} {k:IntKind} {n:Int}:HL.convV Tryd.prog V 110 3 (.int k n)=some (.int .i64 (IntKind.i64.wrap n)):=HL.conv_int Tryd.underlying110 Tryd.underlying3
@[go_sem] theorem T.cv110_5 {V:HL.HV} {k:IntKind} {n:Int}:HL.convV Tryd.prog V 110 5 (.int k n)=some (.int .u8 (IntKind.u8.wrap n)):=HL.conv_int Tryd.underlying110 Tryd.underlying5
@[go_sem] theorem T.cv110_6 {V:HL.HV} {k:IntKind} {n:Int}:HL.convV Tryd.prog V 110 6 (.int k n)=some (.int .u8 (IntKind.u8.wrap n)):=HL.conv_int Tryd.underlying110 Tryd.underlying6
@[go_sem] theorem T.cv110_12 {V:HL.HV} {k:IntKind} {n:Int}:HL.convV Tryd.prog V 110 12 (.int k n)=some (.int .u64 (IntKind.u64.wrap n)):=HL.conv_int Tryd.underlying110 Tryd.underlying12
@[go_sem] theorem T.cv110_21 {V:HL.HV} {k:IntKind} {n:Int}:HL.convV Tryd.prog V 110 21 (.int k n)=some (.int .i32 (IntKind.i32.wrap n)):=HL.conv_int Tryd.underlying110 Tryd.underlying21
@[go_sem] theorem T.cv110_26 {V:HL.HV} {k:IntKind} {n:Int}:HL.convV Tryd.prog V 110 26 (.int k n)=some (.int .i64 (IntKind.i64.wrap n)):=HL.conv_int Tryd.underlying110 Tryd.underlying26
@[go_sem] theorem T.cv110_110 {V:HL.HV} {k:IntKind} {n:Int}:HL.convV Tryd.prog V 110 110 (.int k n)=some (.int .u64 (IntKind.u64.wrap n)):=HL.conv_int Tryd.underlying110 Tryd.underlying110
@[go_sem] theorem T.cv110_118 {V:HL.HV} {k:IntKind} {n:Int}:HL.convV Tryd.prog V 110 118 (.int k n)=some (.int .u32 (IntKind.u32.wrap n)):=HL.conv_int Tryd.underlying110 Tryd.underlying118
@[go_sem] theorem T.cv110_121 {V:HL.HV} {k:IntKind} {n:Int}:HL.convV Tryd.prog V 110 121 (.int k n)=some (.int .u64 (IntKind.u64.wrap n)):=HL.conv_int Tryd.underlying110 Tryd.underlying121
@[go_sem] theorem T.cv110_131 {V:HL.HV} {k:IntKind} {n:Int}:HL.convV Tryd.prog V 110 131 (.int k n)=some (.int .u8 (IntKind.u8.wrap n)):=HL.conv_int Tryd.underlying110 Tryd.underlying131
@[go_sem] theorem T.cv110_132 {V:HL.HV} {k:IntKind} {n:Int}:HL.convV Tryd.prog V 110 132 (.int k n)=some (.int .u8 (IntKind.u8.wrap n)):=HL.conv_int Tryd.underlying110 Tryd.underlying132
@[go_sem] theorem T.cv110_134 {V:HL.HV} {k:IntKind} {n:Int}:HL.convV Tryd.prog V 110 134 (.int k n)=some (.int .i32 (IntKind.i32.wrap n)):=HL.conv_int Tryd.underlying110 Tryd.underlying134
@[go_sem] theorem T.cv110_135 {V:HL.HV} {k:IntKind} {n:Int}:HL.convV Tryd.prog V 110 135 (.int k n)=some (.int .i32 (IntKind.i32.wrap n)):=HL.conv_int Tryd.underlying110 Tryd.underlying135
@[go_sem] theorem T.cv118_2 {V:HL.HV} {k:IntKind} {n:Int}:HL.convV Tryd.prog V 118 2 (.int k n)=some (.int .i64 (IntKind.i64.wrap n)):=HL.conv_int Tryd.underlying118 Tryd.underlying2
@[go_sem] theorem T.cv118_3 {V:HL.HV} {k:IntKind} {n:Int}:HL.convV Tryd.prog V 118 3 (.int k n)=some (.int .i64 (IntKind.i64.wrap n)):=HL.conv_int Tryd.underlying118 Tryd.underlying3
@[go_sem] theorem T.cv118_5 {V:HL.HV} {k:IntKind} {n:Int}:HL.convV Tryd.prog V 118 5 (.int k n)=some (.int .u8 (IntKind.u8.wrap n)):=HL.conv_int Tryd.underlying118 Tryd.underlying5
@[go_sem] theorem T.cv118_6 {V:HL.HV} {k:IntKind} {n:Int}:HL.convV Tryd.prog V 118 6 (.int k n)=some (.int .u8 (IntKind.u8.wrap n)):=HL.conv_int Tryd.underlying118 Tryd.underlying6
@[go_sem] theorem T.cv118_12 {V:HL.HV} {k:IntKind} {n:Int}:HL.convV Tryd.prog V 118 12 (.int k n)=some (.int .u64 (IntKind.u64.wrap n)):=HL.conv_int Tryd.underlying118 Tryd.underlying12
@[go_sem] theorem T.cv118_21 {V:HL.HV} {k:IntKind} {n:Int}:HL.convV Tryd.prog V 118 21 (.int k n)=some (.int .i32 (IntKind.i32.wrap n)):=HL.conv_int Tryd.underlying118 Tryd.underlying21
@[go_sem] theorem T.cv118_26 {V:HL.HV} {k:IntKind} {n:Int}:HL.convV Tryd.prog V 118 26 (.int k n)=some (.int .i64 (IntKind.i64.wrap n)):=HL.conv_int Tryd.underlying118 Tryd.underlying26
@[go_sem] theorem T.cv118_110 {V:HL.HV} {k:IntKind} {n:Int}:HL.convV Tryd.prog V 118 110 (.int k n)=some (.int .u64 (IntKind.u64.wrap n)):=HL.conv_int Tryd.underlying118 Tryd.underlying110
@[go_sem] theorem T.cv118_118 {V:HL.HV} {k:IntKind} {n:Int}:HL.convV Tryd.prog V 118 118 (.int k n)=some (.int .u32 (IntKind.u32.wrap n)):=HL.conv_int Tryd.underlying118 Tryd.underlying118
@[go_sem] theorem T.cv118_121 {V:HL.HV} {k:IntKind} {n:Int}:HL.convV Tryd.prog V 118 121 (.int k n)=some (.int .u64 (IntKind.u64.wrap n)):=HL.conv_int Tryd.underlying118 Tryd.underlying121
@[go_sem] theorem T.cv118_131 {V:HL.HV} {k:IntKind} {n:Int}:HL.convV Tryd.prog V 118 131 (.int k n)=some (.int .u8 (IntKind.u8.wrap n)):=HL.conv_int Tryd.underlying118 Tryd.underlying131
@[go_sem] theorem T.cv118_132 {V:HL.HV} {k:IntKind} {n:Int}:HL.convV Tryd.prog V 118 132 (.int k n)=some (.int .u8 (IntKind.u8.wrap n)):=HL.conv_int Tryd.underlying118 Tryd.underlying132
@[go_sem] theorem T.cv118_134 {V:HL.HV} {k:IntKind} {n:Int}:HL.convV Tryd.prog V 118 134 (.int k n)=some (.int .i32 (IntKind.i32.wrap n)):=HL.conv_int Tryd.underlying118 Tryd.underlying134
@[go_sem] theorem T.cv118_135 {V:HL.HV} {k:IntKind} {n:Int}:HL.convV Tryd.prog V 118 135 (.int k n)=some (.int .i32 (IntKind.i32.wrap n)):=HL.conv_int Tryd.underlying118 Tryd.underlying135
@[go_sem] theorem T.cv121_2 {V:HL.HV} {k:IntKind} {n:Int}:HL.convV Tryd.prog V 121 2 (.int k n)=some (.int .i64 (IntKind.i64.wrap n)):=HL.conv_int Tryd.underlying121 Tryd.underlying2
@[go_sem] theorem T.cv121_3 {V:HL.HV} {k:IntKind} {n:Int}:HL.convV Tryd.prog V 121 3 (.int k n)=some (.int .i64 (IntKind.i64.wrap n)):=HL.conv_int Tryd.underlying121 Tryd.underlying3
@[go_sem] theorem T.cv121_5 {V:HL.HV} {k:IntKind} {n:Int}:HL.convV Tryd.prog V 121 5 (.int k n)=some (.int .u8 (IntKind.u8.wrap n)):=HL.conv_int Tryd.underlying121 Tryd.underlying5
@[go_sem] theorem T.cv121_6 {V:HL.HV} {k:IntKind} {n:Int}:HL.convV Tryd.prog V 121 6 (.int k n)=some (.int .u8 (IntKind.u8.wrap n)):=HL.conv_int Tryd.underlying121 Tryd.underlying6
@[go_sem] theorem T.cv121_12 {V:HL.HV} {k:IntKind} {n:Int}:HL.convV Tryd.prog V 121 12 (.int k n)=some (.int .u64 (IntKind.u64.wrap n)):=HL.conv_int Tryd.underlying121 Tryd.underlying12
@[go_sem] theorem T.cv121_21 {V:HL.HV} {k:IntKind} {n:Int}:HL.convV Tryd.prog V 121 21 (.int k n)=some (.int .i32 (IntKind.i32.wrap n)):=HL.conv_int Tryd.underlying121 Tryd.underlying21
@[go_sem] theorem T.cv121_26 {V:HL.HV} {k:IntKind} {n:Int}:HL.convV Tryd.prog V 121 26 (.int k n)=some (.int .i64 (IntKind.i64.wrap n)):=HL.conv_int Tryd.underlying121 Tryd.underlying26
@[go_sem] theorem T.cv121_110 {V:HL.HV} {k:IntKind} {n:Int}:HL.convV Tryd.prog V 121 110 (.int k n)=some (.int .u64 (IntKind.u64.wrap n)):=HL.conv_int Tryd.underlying121 Tryd.underlying110
@[go_sem] theorem T.cv121_118 {V:HL.HV} {k:IntKind} {n:Int}:HL.convV Tryd.prog V 121 118 (.int k n)=some (.int .u32 (IntKind.u32.wrap n)):=HL.conv_int Tryd.underlying121 Tryd.underlying118
@[go_sem] theorem T.cv121_121 {V:HL.HV} {k:IntKind} {n:Int}:HL.convV Tryd.prog V 121 121 (.int k n)=some (.int .u64 (IntKind.u64.wrap n)):=HL.conv_int Tryd.underlying121 Tryd.underlying121
@[go_sem] theorem T.cv121_131 {V:HL.HV} {k:IntKind} {n:Int}:HL.convV Tryd.prog V 121 131 (.int k n)=some (.int .u8 (IntKind.u8.wrap n)):=HL.conv_int Tryd.underlying121 Tryd.underlying131
@[go_sem] theorem T.cv121_132 {V:HL.HV} {k:IntKind} {n:Int}:HL.convV Tryd.prog V 121 132 (.int k n)=some (.int .u8 (IntKind.u8.wrap n)):=HL.conv_int Tryd.underlying121 Tryd.underlying132
@[go_sem] theorem T.cv121_134 {V:HL.HV} {k:IntKind} {n:Int}:HL.convV Tryd.prog V 121 134 (.int k n)=some (.int .i32 (IntKind.i32.wrap n)):=HL.conv_int Tryd.underlying121 Tryd.underlying134
@[go_sem] theorem T.cv121_135 {V:HL.HV} {k:IntKind} {n:Int}:HL.convV Tryd.prog V 121 135 (.int k n)=some (.int .i32 (IntKind.i32.wrap n)):=HL.conv_int Tryd.underlying121 Tryd.underlying135
@[go_sem] theorem T.cv131_2 {V:HL.HV} {k:IntKind} {n:Int}:HL.convV Tryd.prog V 131 2 (.int k n)=some (.int .i64 (IntKind.i64.wrap n)):=HL.conv_int Tryd.underlying131 Tryd.underlying2
@[go_sem] theorem T.cv131_3 {V:HL.HV} {k:IntKind} {n:Int}:HL.convV Tryd.prog V 131 3 (.int k n)=some (.int .i64 (IntKind.i64.wrap n)):=HL.conv_int Tryd.underlying131 Tryd.underlying3
@[go_sem] theorem T.cv131_5 {V:HL.HV} {k:IntKind} {n:Int}:HL.convV Tryd.prog V 131 5 (.int k n)=some (.int .u8 (IntKind.u8.wrap n)):=HL.conv_int Tryd.underlying131 Tryd.underlying5
@[go_sem] theorem T.cv131_6 {V:HL.HV} {k:IntKind} {n:Int}:HL.convV Tryd.prog V 131 6 (.int k n)=some (.int .u8 (IntKind.u8.wrap n)):=HL.conv_int Tryd.underlying131 Tryd.underlying6
@[go_sem] theorem T.cv131_12 {V:HL.HV} {k:IntKind} {n:Int}:HL.convV Tryd.prog V 131 12 (.int k n)=some (.int .u64 (IntKind.u64.wrap n)):=HL.conv_int Tryd.underlying131 Tryd.underlying12
@[go_sem] theorem T.cv131_21 {V:HL.HV} {k:IntKind} {n:Int}:HL.convV Tryd.prog V 131 21 (.int k n)=some (.int .i32 (IntKind.i32.wrap n)):=HL.conv_int Tryd.underlying131 Tryd.underlying21
@[go_sem] theorem T.cv131_26 {V:HL.HV} {k:IntKind} {n:Int}:HL.convV Tryd.prog V 131 26 (.int k n)=some (.int .i64 (IntKind.i64.wrap n)):=HL.conv_int Tryd.underlying131 Tryd.underlying26
@[go_sem] theorem T.cv131_110 {V:HL.HV} {k:IntKind} {n:Int}:HL.convV Tryd.prog V 131 110 (.int k n)=some (.int .u64 (IntKind.u64.wrap n)):=HL.conv_int Tryd.underlying131 Tryd.underlying110
@[go_sem] theorem T.cv131_118 {V:HL.HV} {k:IntKind} {n:Int}:HL.convV Tryd.prog V 131 118 (.int k n)=some (.int .u32 (IntKind.u32.wrap n)):=HL.conv_int Tryd.underlying131 Tryd.underlying118
@[go_sem] theorem T.cv131_121 {V:HL.HV} {k:IntKind} {n:Int}:HL.convV Tryd.prog V 131 121 (.int k n)=some (.int .u64 (IntKind.u64.wrap n)):=HL.conv_int Tryd.underlying131 Tryd.underlying121
@[go_sem] theorem T.cv131_131 {V:HL.HV} {k:IntKind} {n:Int}:HL.convV Tryd.prog V 131 131 (.int k n)=some (.int .u8 (IntKind.u8.wrap n)):=HL.conv_int Tryd.underlying131 Tryd.underlying131
@[go_sem] theorem T.cv131_132 {V:HL.HV} {k:IntKind} {n:Int}:HL.convV Tryd.prog V 131 132 (.int k n)=some (.int .u8 (IntKind.u8.wrap n)):=HL.conv_int Tryd.underlying131 Tryd.underlying132
@[go_sem] theorem T.cv131_134 {V:HL.HV} {k:IntKind} {n:Int}:HL.convV Tryd.prog V 131 134 (.int k n)=some (.int .i32 (IntKind.i32.wrap n)):=HL.conv_int Tryd.underlying131 Tryd.underlying134
@[go_sem] theorem T.cv131_135 {V:HL.HV} {k:IntKind} {n:Int}:HL.convV Tryd.prog V 131 135 (.int k n)=some (.int .i32 (IntKind.i32.wrap n)):=HL.conv_int Tryd.underlying131 Tryd.underlying135
@[go_sem] theorem T.cv132_2 {V:HL.HV} {k:IntKind} {n:Int}:HL.convV Tryd.prog V 132 2 (.int k n)=some (.int .i64 (IntKind.i64.wrap n)):=HL.conv_int Tryd.underlying132 Tryd.underlying2
@[go_sem] theorem T.cv132_3 {V:HL.HV} {k:IntKind} {n:Int}:HL.convV Tryd.prog V 132 3 (.int k n)=some (.int .i64 (IntKind.i64.wrap n)):=HL.conv_int Tryd.underlying132 Tryd.underlying3
@[go_sem] theorem T.cv132_5 {V:HL.HV} {k:IntKind} {n:Int}:HL.convV Tryd.prog V 132 5 (.int k n)=some (.int .u8 (IntKind.u8.wrap n)):=HL.conv_int Tryd.underlying132 Tryd.underlying5
@[go_sem] theorem T.cv132_6 {V:HL.HV} {k:IntKind} {n:Int}:HL.convV Tryd.prog V 132 6 (.int k n)=some (.int .u8 (IntKind.u8.wrap n)):=HL.conv_int Tryd.underlying132 Tryd.underlying6
@[go_sem] theorem T.cv132_12 {V:HL.HV} {k:IntKind} {n:Int}:HL.convV Tryd.prog V 132 12 (.int k n)=some (.int .u64 (IntKind.u64.wrap n)):=HL.conv_int Tryd.underlying132 Tryd.underlying12
@[go_sem] theorem T.cv132_21 {V:HL.HV} {k:IntKind} {n:Int}:HL.convV Tryd.prog V 132 21 (.int k n)=some (.int .i32 (IntKind.i32.wrap n)):=HL.conv_int Tryd.underlying132 Tryd.underlying21
@[go_sem] theorem T.cv132_26 {V:HL.HV} {k:IntKind} {n:Int}:HL.convV Tryd.prog V 132 26 (.int k n)=some (.int .i64 (IntKind.i64.wrap n)):=HL.conv_int Tryd.underlying132 Tryd.underlying26
@[go_sem] theorem T.cv132_110 {V:HL.HV} {k:IntKind} {n:Int}:HL.convV Tryd.prog V 132 110 (.int k n)=some (.int .u64 (IntKind.u64.wrap n)):=HL.conv_int Tryd.underlying132 Tryd.underlying110
@[go_sem] theorem T.cv132_118 {V:HL.HV} {k:IntKind} {n:Int}:HL.convV Tryd.prog V 132 118 (.int k n)=some (.int .u32 (IntKind.u32.wrap n)):=HL.conv_int Tryd.underlying132 Tryd.underlying118
@[go_sem] theorem T.cv132_121 {V:HL.HV} {k:IntKind} {n:Int}:HL.convV Tryd.prog V 132 121 (.int k n)=some (.int .u64 (IntKind.u64.wrap n)):=HL.conv_int Tryd.underlying132 Tryd.underlying121
@[go_sem] theorem T.cv132_131 {V:HL.HV} {k:IntKind} {n:Int}:HL.convV Tryd.prog V 132 131 (.int k n)=some (.int .u8 (IntKind.u8.wrap n)):=HL.conv_int Tryd.underlying132 Tryd.underlying131
@[go_sem] theorem T.cv132_132 {V:HL.HV} {k:IntKind} {n:Int}:HL.convV Tryd.prog V 132 132 (.int k n)=some (.int .u8 (IntKind.u8.wrap n)):=HL.conv_int Tryd.underlying132 Tryd.underlying132
@[go_sem] theorem T.cv132_134 {V:HL.HV} {k:IntKind} {n:Int}:HL.convV Tryd.prog V 132 134 (.int k n)=some (.int .i32 (IntKind.i32.wrap n)):=HL.conv_int Tryd.underlying132 Tryd.underlying134
@[go_sem] theorem T.cv132_135 {V:HL.HV} {k:IntKind} {n:Int}:HL.convV Tryd.prog V 132 135 (.int k n)=some (.int .i32 (IntKind.i32.wrap n)):=HL.conv_int Tryd.underlying132 Tryd.underlying135
@[go_sem] theorem T.cv134_2 {V:HL.HV} {k:IntKind} {n:Int}:HL.convV Tryd.prog V 134 2 (.int k n)=some (.int .i64 (IntKind.i64.wrap n)):=HL.conv_int Tryd.underlying134 Tryd.underlying2
@[go_sem] theorem T.cv134_3 {V:HL.HV} {k:IntKind} {n:Int}:HL.convV Tryd.prog V 134 3 (.int k n)=some (.int .i64 (IntKind.i64.wrap n)):=HL.conv_int Tryd.underlying134 Tryd.underlying3
@[go_sem] theorem T.cv134_5 {V:HL.HV} {k:IntKind} {n:Int}:HL.convV Tryd.prog V 134 5 (.int k n)=some (.int .u8 (IntKind.u8.wrap n)):=HL.conv_int Tryd.underlying134 Tryd.underlying5
@[go_sem] theorem T.cv134_6 {V:HL.HV} {k:IntKind} {n:Int}:HL.convV Tryd.prog V 134 6 (.int k n)=some (.int .u8 (IntKind.u8.wrap n)):=HL.conv_int Tryd.underlying134 Tryd.underlying6
@[go_sem] theorem T.cv134_12 {V:HL.HV} {k:IntKind} {n:Int}:HL.convV Tryd.prog V 134 12 (.int k n)=some (.int .u64 (IntKind.u64.wrap n)):=HL.conv_int Tryd.underlying134 Tryd.underlying12
@[go_sem] theorem T.cv134_21 {V:HL.HV} {k:IntKind} {n:Int}:HL.convV Tryd.prog V 134 21 (.int k n)=some (.int .i32 (IntKind.i32.wrap n)):=HL.conv_int Tryd.underlying134 Tryd.underlying21
@[go_sem] theorem T.cv134_26 {V:HL.HV} {k:IntKind} {n:Int}:HL.convV Tryd.prog V 134 26 (.int k n)=some (.int .i64 (IntKind.i64.wrap n)):=HL.conv_int Tryd.underlying134 Tryd.underlying26
@[go_sem] theorem T.cv134_110 {V:HL.HV} {k:IntKind} {n:Int}:HL.convV Tryd.prog V 134 110 (.int k n)=some (.int .u64 (IntKind.u64.wrap n)):=HL.conv_int Tryd.underlying134 Tryd.underlying110
@[go_sem] theorem T.cv134_118 {V:HL.HV} {k:IntKind} {n:Int}:HL.convV Tryd.prog V 134 118 (.int k n)=some (.int .u32 (IntKind.u32.wrap n)):=HL.conv_int Tryd.underlying134 Tryd.underlying118
@[go_sem] theorem T.cv134_121 {V:HL.HV} {k:IntKind} {n:Int}:HL.convV Tryd.prog V 134 121 (.int k n)=some (.int .u64 (IntKind.u64.wrap n)):=HL.conv_int Tryd.underlying134 Tryd.underlying121
@[go_sem] theorem T.cv134_131 {V:HL.HV} {k:IntKind} {n:Int}:HL.convV Tryd.prog V 134 131 (.int k n)=some (.int .u8 (IntKind.u8.wrap n)):=HL.conv_int Tryd.underlying134 Tryd.underlying131
@[go_sem] theorem T.cv134_132 {V:HL.HV} {k:IntKind} {n:Int}:HL.convV Tryd.prog V 134 132 (.int k n)=some (.int .u8 (IntKind.u8.wrap n)):=HL.conv_int Tryd.underlying134 Tryd.underlying132
@[go_sem] theorem T.cv134_134 {V:HL.HV} {k:IntKind} {n:Int}:HL.convV Tryd.prog V 134 134 (.int k n)=some (.int .i32 (IntKind.i32.wrap n)):=HL.conv_int Tryd.underlying134 Tryd.underlying134
@[go_sem] theorem T.cv134_135 {V:HL.HV} {k:IntKind} {n:Int}:HL.convV Tryd.prog V 134 135 (.int k n)=some (.int .i32 (IntKind.i32.wrap n)):=HL.conv_int Tryd.underlying134 Tryd.underlying135
@[go_sem] theorem T.cv135_2 {V:HL.HV} {k:IntKind} {n:Int}:HL.convV Tryd.prog V 135 2 (.int k n)=some (.int .i64 (IntKind.i64.wrap n)):=HL.conv_int Tryd.underlying135 Tryd.underlying2
@[go_sem] theorem T.cv135_3 {V:HL.HV} {k:IntKind} {n:Int}:HL.convV Tryd.prog V 135 3 (.int k n)=some (.int .i64 (IntKind.i64.wrap n)):=HL.conv_int Tryd.underlying135 Tryd.underlying3
@[go_sem] theorem T.cv135_5 {V:HL.HV} {k:IntKind} {n:Int}:HL.convV Tryd.prog V 135 5 (.int k n)=some (.int .u8 (IntKind.u8.wrap n)):=HL.conv_int Tryd.underlying135 Tryd.underlying5
@[go_sem] theorem T.cv135_6 {V:HL.HV} {k:IntKind} {n:Int}:HL.convV Tryd.prog V 135 6 (.int k n)=some (.int .u8 (IntKind.u8.wrap n)):=HL.conv_int Tryd.underlying135 Tryd.underlying6
@[go_sem] theorem T.cv135_12 {V:HL.HV} {k:IntKind} {n:Int}:HL.convV Tryd.prog V 135 12 (.int k n)=some (.int .u64 (IntKind.u64.wrap n)):=HL.conv_int Tryd.underlying135 Tryd.underlying12
@[go_sem] theorem T.cv135_21 {V:HL.HV} {k:IntKind} {n:Int}:HL.convV Tryd.prog V 135 21 (.int k n)=some (.int .i32 (IntKind.i32.wrap n)):=HL.conv_int Tryd.underlying135 Tryd.underlying21
@[go_sem] theorem T.cv135_26 {V:HL.HV} {k:IntKind} {n:Int}:HL.convV Tryd.prog V 135 26 (.int k n)=some (.int .i64 (IntKind.i64.wrap n)):=HL.conv_int Tryd.underlying135 Tryd.underlying26
@[go_sem] theorem T.cv135_110 {V:HL.HV} {k:IntKind} {n:Int}:HL.convV Tryd.prog V 135 110 (.int k n)=some (.int .u64 (IntKind.u64.wrap n)):=HL.conv_int Tryd.underlying135 Tryd.underlying110
@[go_sem] theorem T.cv135_118 {V:HL.HV} {k:IntKind} {n:Int}:HL.convV Tryd.prog V 135 118 (.int k n)=some (.int .u32 (IntKind.u32.wrap n)):=HL.conv_int Tryd.underlying135 Tryd.underlying118
@[go_sem] theorem T.cv135_121 {V:HL.HV} {k:IntKind} {n:Int}:HL.convV Tryd.prog V 135 121 (.int k n)=some (.int .u64 (IntKind.u64.wrap n)):=HL.conv_int Tryd.underlying135 Tryd.underlying121
@[go_sem] theorem T.cv135_131 {V:HL.HV} {k:IntKind} {n:Int}:HL.convV Tryd.prog V 135 131 (.int k n)=some (.int .u8 (IntKind.u8.wrap n)):=HL.conv_int Tryd.underlying135 Tryd.underlying131
@[go_sem] theorem T.cv135_132 {V:HL.HV} {k:IntKind} {n:Int}:HL.convV Tryd.prog V 135 132 (.int k n)=some (.int .u8 (IntKind.u8.wrap n)):=HL.conv_int Tryd.underlying135 Tryd.underlying132
@[go_sem] theorem T.cv135_134 {V:HL.HV} {k:IntKind} {n:Int}:HL.convV Tryd.prog V 135 134 (.int k n)=some (.int .i32 (IntKind.i32.wrap n)):=HL.conv_int Tryd.underlying135 Tryd.underlying134
@[go_sem] theorem T.cv135_135 {V:HL.HV} {k:IntKind} {n:Int}:HL.convV Tryd.prog V 135 135 (.int k n)=some (.int .i32 (IntKind.i32.wrap n)):=HL.conv_int Tryd.underlying135 Tryd.underlying135
@[go_sem] theorem T.bs22_1 {H:HL.Heap} {x0:Int} {a1:Option Addr} {l1 c1:Nat} {a2:Option Addr} {l2 c2:Nat} {a3:Option Addr} {l3 c3:Nat} {x4:Int}:HL.buildSliceV Tryd.prog H 22 1 [(0,.agg #[.int .i64 x0,.slice a1 l1 c1,.slice a2 l2 c2,.slice a3 l3 c3,.int .i64 x4])]=some (.slice (some ⟨H.size,0,none⟩) 1 1,H.push (.cells #[.int .i64 x0,.slice a1 l1 c1,.slice a2 l2 c2,.slice a3 l3 c3,.int .i64 x4] 36)):=HL.bsl_of (vs:=[.agg #[.int .i64 x0,.slice a1 l1 c1,.slice a2 l2 c2,.slice a3 l3 c3,.int .i64 x4]]) T.elem22 T.size36 T.zero36 (Nat.le_of_ble_eq_true rfl) rfl rfl
@[go_sem] theorem T.bs22_2 {H:HL.Heap} {x0:Int} {a1:Option Addr} {l1 c1:Nat} {a2:Option Addr} {l2 c2:Nat} {a3:Option Addr} {l3 c3:Nat} {x4:Int} {x5:Int} {a6:Option Addr} {l6 c6:Nat} {a7:Option Addr} {l7 c7:Nat} {a8:Option Addr} {l8 c8:Nat} {x9:Int}:HL.buildSliceV Tryd.prog H 22 2 [(0,.agg #[.int .i64 x0,.slice a1 l1 c1,.slice a2 l2 c2,.slice a3 l3 c3,.int .i64 x4]),(1,.agg #[.int .i64 x5,.slice a6 l6 c6,.slice a7 l7 c7,.slice a8 l8 c8,.int .i64 x9])]=some (.slice (some ⟨H.size,0,none⟩) 2 2,H.push (.cells #[.int .i64 x0,.slice a1 l1 c1,.slice a2 l2 c2,.slice a3 l3 c3,.int .i64 x4,.int .i64 x5,.slice a6 l6 c6,.slice a7 l7 c7,.slice a8 l8 c8,.int .i64 x9] 36)):=HL.bsl_of (vs:=[.agg #[.int .i64 x0,.slice a1 l1 c1,.slice a2 l2 c2,.slice a3 l3 c3,.int .i64 x4],.agg #[.int .i64 x5,.slice a6 l6 c6,.slice a7 l7 c7,.slice a8 l8 c8,.int .i64 x9]]) T.elem22 T.size36 T.zero36 (Nat.le_of_ble_eq_true rfl) rfl rfl
@[go_sem] theorem T.bs22_3 {H:HL.Heap} {x0:Int} {a1:Option Addr} {l1 c1:Nat} {a2:Option Addr} {l2 c2:Nat} {a3:Option Addr} {l3 c3:Nat} {x4:Int} {x5:Int} {a6:Option Addr} {l6 c6:Nat} {a7:Option Addr} {l7 c7:Nat} {a8:Option Addr} {l8 c8:Nat} {x9:Int} {x10:Int} {a11:Option Addr} {l11 c11:Nat} {a12:Option Addr} {l12 c12:Nat} {a13:Option Addr} {l13 c13:Nat} {x14:Int}:HL.buildSliceV Tryd.prog H 22 3 [(0,.agg #[.int .i64 x0,.slice a1 l1 c1,.slice a2 l2 c2,.slice a3 l3 c3,.int .i64 x4]),(1,.agg #[.int .i64 x5,.slice a6 l6 c6,.slice a7 l7 c7,.slice a8 l8 c8,.int .i64 x9]),(2,.agg #[.int .i64 x10,.slice a11 l11 c11,.slice a12 l12 c12,.slice a13 l13 c13,.int .i64 x14])]=some (.slice (some ⟨H.size,0,none⟩) 3 3,H.push (.cells #[.int .i64 x0,.slice a1 l1 c1,.slice a2 l2 c2,.slice a3 l3 c3,.int .i64 x4,.int .i64 x5,.slice a6 l6 c6,.slice a7 l7 c7,.slice a8 l8 c8,.int .i64 x9,.int .i64 x10,.slice a11 l11 c11,.slice a12 l12 c12,.slice a13 l13 c13,.int .i64 x14] 36)):=HL.bsl_of (vs:=[.agg #[.int .i64 x0,.slice a1 l1 c1,.slice a2 l2 c2,.slice a3 l3 c3,.int .i64 x4],.agg #[.int .i64 x5,.slice a6 l6 c6,.slice a7 l7 c7,.slice a8 l8 c8,.int .i64 x9],.agg #[.int .i64 x10,.slice a11 l11 c11,.slice a12 l12 c12,.slice a13 l13 c13,.int .i64 x14]]) T.elem22 T.size36 T.zero36 (Nat.le_of_ble_eq_true rfl) rfl rfl
@[go_sem] theorem T.bs48_1 {H:HL.Heap} {x0:Int} {x1:ByteArray} {x2:Int}:HL.buildSliceV Tryd.prog H 48 1 [(0,.agg #[.int .i64 x0,.string x1,.int .i64 x2])]=some (.slice (some ⟨H.size,0,none⟩) 1 1,H.push (.cells #[.int .i64 x0,.string x1,.int .i64 x2] 77)):=HL.bsl_of (vs:=[.agg #[.int .i64 x0,.string x1,.int .i64 x2]]) T.elem48 T.size77 T.zero77 (Nat.le_of_ble_eq_true rfl) rfl rfl
@[go_sem] theorem T.bs48_2 {H:HL.Heap} {x0:Int} {x1:ByteArray} {x2:Int} {x3:Int} {x4:ByteArray} {x5:Int}:HL.buildSliceV Tryd.prog H 48 2 [(0,.agg #[.int .i64 x0,.string x1,.int .i64 x2]),(1,.agg #[.int .i64 x3,.string x4,.int .i64 x5])]=some (.slice (some ⟨H.size,0,none⟩) 2 2,H.push (.cells #[.int .i64 x0,.string x1,.int .i64 x2,.int .i64 x3,.string x4,.int .i64 x5] 77)):=HL.bsl_of (vs:=[.agg #[.int .i64 x0,.string x1,.int .i64 x2],.agg #[.int .i64 x3,.string x4,.int .i64 x5]]) T.elem48 T.size77 T.zero77 (Nat.le_of_ble_eq_true rfl) rfl rfl
@[go_sem] theorem T.bs48_3 {H:HL.Heap} {x0:Int} {x1:ByteArray} {x2:Int} {x3:Int} {x4:ByteArray} {x5:Int} {x6:Int} {x7:ByteArray} {x8:Int}:HL.buildSliceV Tryd.prog H 48 3 [(0,.agg #[.int .i64 x0,.string x1,.int .i64 x2]),(1,.agg #[.int .i64 x3,.string x4,.int .i64 x5]),(2,.agg #[.int .i64 x6,.string x7,.int .i64 x8])]=some (.slice (some ⟨H.size,0,none⟩) 3 3,H.push (.cells #[.int .i64 x0,.string x1,.int .i64 x2,.int .i64 x3,.string x4,.int .i64 x5,.int .i64 x6,.string x7,.int .i64 x8] 77)):=HL.bsl_of (vs:=[.agg #[.int .i64 x0,.string x1,.int .i64 x2],.agg #[.int .i64 x3,.string x4,.int .i64 x5],.agg #[.int .i64 x6,.string x7,.int .i64 x8]]) T.elem48 T.size77 T.zero77 (Nat.le_of_ble_eq_true rfl) rfl rfl
@[go_sem] theorem T.bs48_4 {H:HL.Heap} {x0:Int} {x1:ByteArray} {x2:Int} {x3:Int} {x4:ByteArray} {x5:Int} {x6:Int} {x7:ByteArray} {x8:Int} {x9:Int} {x10:ByteArray} {x11:Int}:HL.buildSliceV Tryd.prog H 48 4 [(0,.agg #[.int .i64 x0,.string x1,.int .i64 x2]),(1,.agg #[.int .i64 x3,.string x4,.int .i64 x5]),(2,.agg #[.int .i64 x6,.string x7,.int .i64 x8]),(3,.agg #[.int .i64 x9,.string x10,.int .i64 x11])]=some (.slice (some ⟨H.size,0,none⟩) 4 4,H.push (.cells #[.int .i64 x0,.string x1,.int .i64 x2,.int .i64 x3,.string x4,.int .i64 x5,.int .i64 x6,.string x7,.int .i64 x8,.int .i64 x9,.string x10,.int .i64 x11] 77)):=HL.bsl_of (vs:=[.agg #[.int .i64 x0,.string x1,.int .i64 x2],.agg #[.int .i64 x3,.string x4,.int .i64 x5],.agg #[.int .i64 x6,.string x7,.int .i64 x8],.agg #[.int .i64 x9,.string x10,.int .i64 x11]]) T.elem48 T.size77 T.zero77 (Nat.le_of_ble_eq_true rfl) rfl rfl
@[go_sem] theorem T.bs54_1 {H:HL.Heap} {x0:Int} {a1:Option Addr} {l1 c1:Nat} {a2:Option Addr} {l2 c2:Nat} {a3:Option Addr} {l3 c3:Nat} {x4:Int} {a5:Option Addr} {l5 c5:Nat}:HL.buildSliceV Tryd.prog H 54 1 [(0,.agg #[.int .i64 x0,.slice a1 l1 c1,.slice a2 l2 c2,.slice a3 l3 c3,.int .i64 x4,.slice a5 l5 c5])]=some (.slice (some ⟨H.size,0,none⟩) 1 1,H.push (.cells #[.int .i64 x0,.slice a1 l1 c1,.slice a2 l2 c2,.slice a3 l3 c3,.int .i64 x4,.slice a5 l5 c5] 56)):=HL.bsl_of (vs:=[.agg #[.int .i64 x0,.slice a1 l1 c1,.slice a2 l2 c2,.slice a3 l3 c3,.int .i64 x4,.slice a5 l5 c5]]) T.elem54 T.size56 T.zero56 (Nat.le_of_ble_eq_true rfl) rfl rfl
@[go_sem] theorem T.bs54_2 {H:HL.Heap} {x0:Int} {a1:Option Addr} {l1 c1:Nat} {a2:Option Addr} {l2 c2:Nat} {a3:Option Addr} {l3 c3:Nat} {x4:Int} {a5:Option Addr} {l5 c5:Nat} {x6:Int} {a7:Option Addr} {l7 c7:Nat} {a8:Option Addr} {l8 c8:Nat} {a9:Option Addr} {l9 c9:Nat} {x10:Int} {a11:Option Addr} {l11 c11:Nat}:HL.buildSliceV Tryd.prog H 54 2 [(0,.agg #[.int .i64 x0,.slice a1 l1 c1,.slice a2 l2 c2,.slice a3 l3 c3,.int .i64 x4,.slice a5 l5 c5]),(1,.agg #[.int .i64 x6,.slice a7 l7 c7,.slice a8 l8 c8,.slice a9 l9 c9,.int .i64 x10,.slice a11 l11 c11])]=some (.slice (some ⟨H.size,0,none⟩) 2 2,H.push (.cells #[.int .i64 x0,.slice a1 l1 c1,.slice a2 l2 c2,.slice a3 l3 c3,.int .i64 x4,.slice a5 l5 c5,.int .i64 x6,.slice a7 l7 c7,.slice a8 l8 c8,.slice a9 l9 c9,.int .i64 x10,.slice a11 l11 c11] 56)):=HL.bsl_of (vs:=[.agg #[.int .i64 x0,.slice a1 l1 c1,.slice a2 l2 c2,.slice a3 l3 c3,.int .i64 x4,.slice a5 l5 c5],.agg #[.int .i64 x6,.slice a7 l7 c7,.slice a8 l8 c8,.slice a9 l9 c9,.int .i64 x10,.slice a11 l11 c11]]) T.elem54 T.size56 T.zero56 (Nat.le_of_ble_eq_true rfl) rfl rfl
@[go_sem] theorem T.bs105_1 {H:HL.Heap} {x0:Int} {x1:Int}:HL.buildSliceV Tryd.prog H 105 1 [(0,.agg #[.int .i64 x0,.int .i64 x1])]=some (.slice (some ⟨H.size,0,none⟩) 1 1,H.push (.cells #[.int .i64 x0,.int .i64 x1] 94)):=HL.bsl_of (vs:=[.agg #[.int .i64 x0,.int .i64 x1]]) T.elem105 T.size94 T.zero94 (Nat.le_of_ble_eq_true rfl) rfl rfl
@[go_sem] theorem T.bs105_2 {H:HL.Heap} {x0:Int} {x1:Int} {x2:Int} {x3:Int}:HL.buildSliceV Tryd.prog H 105 2 [(0,.agg #[.int .i64 x0,.int .i64 x1]),(1,.agg #[.int .i64 x2,.int .i64 x3])]=some (.slice (some ⟨H.size,0,none⟩) 2 2,H.push (.cells #[.int .i64 x0,.int .i64 x1,.int .i64 x2,.int .i64 x3] 94)):=HL.bsl_of (vs:=[.agg #[.int .i64 x0,.int .i64 x1],.agg #[.int .i64 x2,.int .i64 x3]]) T.elem105 T.size94 T.zero94 (Nat.le_of_ble_eq_true rfl) rfl rfl
@[go_sem] theorem T.bs105_3 {H:HL.Heap} {x0:Int} {x1:Int} {x2:Int} {x3:Int} {x4:Int} {x5:Int}:HL.buildSliceV Tryd.prog H 105 3 [(0,.agg #[.int .i64 x0,.int .i64 x1]),(1,.agg #[.int .i64 x2,.int .i64 x3]),(2,.agg #[.int .i64 x4,.int .i64 x5])]=some (.slice (some ⟨H.size,0,none⟩) 3 3,H.push (.cells #[.int .i64 x0,.int .i64 x1,.int .i64 x2,.int .i64 x3,.int .i64 x4,.int .i64 x5] 94)):=HL.bsl_of (vs:=[.agg #[.int .i64 x0,.int .i64 x1],.agg #[.int .i64 x2,.int .i64 x3],.agg #[.int .i64 x4,.int .i64 x5]]) T.elem105 T.size94 T.zero94 (Nat.le_of_ble_eq_true rfl) rfl rfl
@[go_sem] theorem T.bs105_4 {H:HL.Heap} {x0:Int} {x1:Int} {x2:Int} {x3:Int} {x4:Int} {x5:Int} {x6:Int} {x7:Int}:HL.buildSliceV Tryd.prog H 105 4 [(0,.agg #[.int .i64 x0,.int .i64 x1]),(1,.agg #[.int .i64 x2,.int .i64 x3]),(2,.agg #[.int .i64 x4,.int .i64 x5]),(3,.agg #[.int .i64 x6,.int .i64 x7])]=some (.slice (some ⟨H.size,0,none⟩) 4 4,H.push (.cells #[.int .i64 x0,.int .i64 x1,.int .i64 x2,.int .i64 x3,.int .i64 x4,.int .i64 x5,.int .i64 x6,.int .i64 x7] 94)):=HL.bsl_of (vs:=[.agg #[.int .i64 x0,.int .i64 x1],.agg #[.int .i64 x2,.int .i64 x3],.agg #[.int .i64 x4,.int .i64 x5],.agg #[.int .i64 x6,.int .i64 x7]]) T.elem105 T.size94 T.zero94 (Nat.le_of_ble_eq_true rfl) rfl rfl
@[go_sem] theorem T.stn28 {H:HL.Heap} {z0 z1:Value} {x0:Int} {x1:Int}:HL.storeA Tryd.prog (H.push (.cells #[z0,z1] 28)) 28 ⟨H.size,0,none⟩ (.agg #[.int .i64 x0,.int .i64 x1])=some (H.push (.cells #[.int .i64 x0,.int .i64 x1] 28)):=HL.store_new (z:=[z0,z1]) (vs:=[.int .i64 x0,.int .i64 x1]) T.size28 rfl (HL.one_all rfl)
@[go_sem] theorem T.ln28 {H:HL.Heap} {z0 z1:Value}:HL.cellsH (HL.cellH (H.push (.cells #[z0,z1] 28))) ⟨H.size,0,none⟩ 0 2=some [z0,z1]:=HL.Blk.cells0 (new:=[z0,z1]) (HL.Blk.new rfl)
@[go_sem] theorem T.stn36 {H:HL.Heap} {z0 z1 z2 z3 z4:Value} {x0:Int} {a1:Option Addr} {l1 c1:Nat} {a2:Option Addr} {l2 c2:Nat} {a3:Option Addr} {l3 c3:Nat} {x4:Int}:HL.storeA Tryd.prog (H.push (.cells #[z0,z1,z2,z3,z4] 36)) 36 ⟨H.size,0,none⟩ (.agg #[.int .i64 x0,.slice a1 l1 c1,.slice a2 l2 c2,.slice a3 l3 c3,.int .i64 x4])=some (H.push (.cells #[.int .i64 x0,.slice a1 l1 c1,.slice a2 l2 c2,.slice a3 l3 c3,.int .i64 x4] 36)):=HL.store_new (z:=[z0,z1,z2,z3,z4]) (vs:=[.int .i64 x0,.slice a1 l1 c1,.slice a2 l2 c2,.slice a3 l3 c3,.int .i64 x4]) T.size36 rfl (HL.one_all rfl)
@[go_sem] theorem T.ln36 {H:HL.Heap} {z0 z1 z2 z3 z4:Value}:HL.cellsH (HL.cellH (H.push (.cells #[z0,z1,z2,z3,z4] 36))) ⟨H.size,0,none⟩ 0 5=some [z0,z1,z2,z3,z4]:=HL.Blk.cells0 (new:=[z0,z1,z2,z3,z4]) (HL.Blk.new rfl)
@[go_sem] theorem T.stn45 {H:HL.Heap} {z0 z1 z2:Value} {a0:Option Addr} {l0 c0:Nat} {a1:Option Addr} {a2:Option Addr} {l2 c2:Nat}:HL.storeA Tryd.prog (H.push (.cells #[z0,z1,z2] 45)) 45 ⟨H.size,0,none⟩ (.agg #[.slice a0 l0 c0,.pointer a1,.slice a2 l2 c2])=some (H.push (.cells #[.slice a0 l0 c0,.pointer a1,.slice a2 l2 c2] 45)):=HL.store_new (z:=[z0,z1,z2]) (vs:=[.slice a0 l0 c0,.pointer a1,.slice a2 l2 c2]) T.size45 rfl (HL.one_all rfl)
@[go_sem] theorem T.ln45 {H:HL.Heap} {z0 z1 z2:Value}:HL.cellsH (HL.cellH (H.push (.cells #[z0,z1,z2] 45))) ⟨H.size,0,none⟩ 0 3=some [z0,z1,z2]:=HL.Blk.cells0 (new:=[z0,z1,z2]) (HL.Blk.new rfl)
@[go_sem] theorem T.stn53 {H:HL.Heap} {z0 z1 z2 z3 z4:Value} {a0:Option Addr} {l0 c0:Nat} {x1:Int} {x2:Int} {x3:Int} {x4:Int}:HL.storeA Tryd.prog (H.push (.cells #[z0,z1,z2,z3,z4] 53)) 53 ⟨H.size,0,none⟩ (.agg #[.slice a0 l0 c0,.int .i64 x1,.int .i64 x2,.int .i64 x3,.int .i64 x4])=some (H.push (.cells #[.slice a0 l0 c0,.int .i64 x1,.int .i64 x2,.int .i64 x3,.int .i64 x4] 53)):=HL.store_new (z:=[z0,z1,z2,z3,z4]) (vs:=[.slice a0 l0 c0,.int .i64 x1,.int .i64 x2,.int .i64 x3,.int .i64 x4]) T.size53 rfl (HL.one_all rfl)
@[go_sem] theorem T.ln53 {H:HL.Heap} {z0 z1 z2 z3 z4:Value}:HL.cellsH (HL.cellH (H.push (.cells #[z0,z1,z2,z3,z4] 53))) ⟨H.size,0,none⟩ 0 5=some [z0,z1,z2,z3,z4]:=HL.Blk.cells0 (new:=[z0,z1,z2,z3,z4]) (HL.Blk.new rfl)
@[go_sem] theorem T.stn56 {H:HL.Heap} {z0 z1 z2 z3 z4 z5:Value} {x0:Int} {a1:Option Addr} {l1 c1:Nat} {a2:Option Addr} {l2 c2:Nat} {a3:Option Addr} {l3 c3:Nat} {x4:Int} {a5:Option Addr} {l5 c5:Nat}:HL.storeA Tryd.prog (H.push (.cells #[z0,z1,z2,z3,z4,z5] 56)) 56 ⟨H.size,0,none⟩ (.agg #[.int .i64 x0,.slice a1 l1 c1,.slice a2 l2 c2,.slice a3 l3 c3,.int .i64 x4,.slice a5 l5 c5])=some (H.push (.cells #[.int .i64 x0,.slice a1 l1 c1,.slice a2 l2 c2,.slice a3 l3 c3,.int .i64 x4,.slice a5 l5 c5] 56)):=HL.store_new (z:=[z0,z1,z2,z3,z4,z5]) (vs:=[.int .i64 x0,.slice a1 l1 c1,.slice a2 l2 c2,.slice a3 l3 c3,.int .i64 x4,.slice a5 l5 c5]) T.size56 rfl (HL.one_all rfl)
@[go_sem] theorem T.ln56 {H:HL.Heap} {z0 z1 z2 z3 z4 z5:Value}:HL.cellsH (HL.cellH (H.push (.cells #[z0,z1,z2,z3,z4,z5] 56))) ⟨H.size,0,none⟩ 0 6=some [z0,z1,z2,z3,z4,z5]:=HL.Blk.cells0 (new:=[z0,z1,z2,z3,z4,z5]) (HL.Blk.new rfl)
@[go_sem] theorem T.stn77 {H:HL.Heap} {z0 z1 z2:Value} {x0:Int} {x1:ByteArray} {x2:Int}:HL.storeA Tryd.prog (H.push (.cells #[z0,z1,z2] 77)) 77 ⟨H.size,0,none⟩ (.agg #[.int .i64 x0,.string x1,.int .i64 x2])=some (H.push (.cells #[.int .i64 x0,.string x1,.int .i64 x2] 77)):=HL.store_new (z:=[z0,z1,z2]) (vs:=[.int .i64 x0,.string x1,.int .i64 x2]) T.size77 rfl (HL.one_all rfl)
@[go_sem] theorem T.ln77 {H:HL.Heap} {z0 z1 z2:Value}:HL.cellsH (HL.cellH (H.push (.cells #[z0,z1,z2] 77))) ⟨H.size,0,none⟩ 0 3=some [z0,z1,z2]:=HL.Blk.cells0 (new:=[z0,z1,z2]) (HL.Blk.new rfl)
@[go_sem] theorem T.stn94 {H:HL.Heap} {z0 z1:Value} {x0:Int} {x1:Int}:HL.storeA Tryd.prog (H.push (.cells #[z0,z1] 94)) 94 ⟨H.size,0,none⟩ (.agg #[.int .i64 x0,.int .i64 x1])=some (H.push (.cells #[.int .i64 x0,.int .i64 x1] 94)):=HL.store_new (z:=[z0,z1]) (vs:=[.int .i64 x0,.int .i64 x1]) T.size94 rfl (HL.one_all rfl)
@[go_sem] theorem T.ln94 {H:HL.Heap} {z0 z1:Value}:HL.cellsH (HL.cellH (H.push (.cells #[z0,z1] 94))) ⟨H.size,0,none⟩ 0 2=some [z0,z1]:=HL.Blk.cells0 (new:=[z0,z1]) (HL.Blk.new rfl)
@[go_sem] theorem T.sl9 {H:HL.Heap} {a:HL.Str}:HL.lenV Tryd.prog (HL.full H) 9 (.string (HL.bs a))=some (.int .i64 a.length):=HL.str_len Tryd.underlying9
@[go_sem] theorem T.si9 {a:HL.Str} {k:IntKind} {n:Int}:HL.indexV Tryd.prog 9 (.string (HL.bs a)) (.int k n)=HL.chk (0≤n∧n < a.length) (some (HL.u8v (HL.bt8 a n.toNat))):=HL.str_index Tryd.underlying9
@[go_sem] theorem T.ss9 {a:HL.Str} {k k2:IntKind} {x y:Int}:HL.sliceV Tryd.prog 9 (.string (HL.bs a)) (some (.int k x)) (some (.int k2 y)) none=HL.chk (0≤y∧y≤a.length) (HL.chk (0≤x∧x≤y.toNat) (some (.string (HL.bs ((a.take y.toNat).drop x.toNat))))):=HL.str_sub Tryd.underlying9
@[go_sem] theorem T.so9 {a:HL.Str} {k:IntKind} {x:Int}:HL.sliceV Tryd.prog 9 (.string (HL.bs a)) (some (.int k x)) none none=HL.chk (0≤x∧x≤a.length) (some (.string (HL.bs (a.drop x.toNat)))):=HL.str_lo Tryd.underlying9
@[go_sem] theorem T.sh9 {a:HL.Str} {k:IntKind} {y:Int}:HL.sliceV Tryd.prog 9 (.string (HL.bs a)) none (some (.int k y)) none=HL.chk (0≤y∧y≤a.length) (some (.string (HL.bs (a.take y.toNat)))):=HL.str_hi Tryd.underlying9
@[go_sem] theorem T.sl10 {H:HL.Heap} {a:HL.Str}:HL.lenV Tryd.prog (HL.full H) 10 (.string (HL.bs a))=some (.int .i64 a.length):=HL.str_len Tryd.underlying10
@[go_sem] theorem T.si10 {a:HL.Str} {k:IntKind} {n:Int}:HL.indexV Tryd.prog 10 (.string (HL.bs a)) (.int k n)=HL.chk (0≤n∧n < a.length) (some (HL.u8v (HL.bt8 a n.toNat))):=HL.str_index Tryd.underlying10
@[go_sem] theorem T.ss10 {a:HL.Str} {k k2:IntKind} {x y:Int}:HL.sliceV Tryd.prog 10 (.string (HL.bs a)) (some (.int k x)) (some (.int k2 y)) none=HL.chk (0≤y∧y≤a.length) (HL.chk (0≤x∧x≤y.toNat) (some (.string (HL.bs ((a.take y.toNat).drop x.toNat))))):=HL.str_sub Tryd.underlying10
@[go_sem] theorem T.so10 {a:HL.Str} {k:IntKind} {x:Int}:HL.sliceV Tryd.prog 10 (.string (HL.bs a)) (some (.int k x)) none none=HL.chk (0≤x∧x≤a.length) (some (.string (HL.bs (a.drop x.toNat)))):=HL.str_lo Tryd.underlying10
@[go_sem] theorem T.sh10 {a:HL.Str} {k:IntKind} {y:Int}:HL.sliceV Tryd.prog 10 (.string (HL.bs a)) none (some (.int k y)) none=HL.chk (0≤y∧y≤a.length) (some (.string (HL.bs (a.take y.toNat)))):=HL.str_hi Tryd.underlying10
@[go_sem] theorem T.sl11 {H:HL.Heap} {a:HL.Str}:HL.lenV Tryd.prog (HL.full H) 11 (.string (HL.bs a))=some (.int .i64 a.length):=HL.str_len Tryd.underlying11
@[go_sem] theorem T.si11 {a:HL.Str} {k:IntKind} {n:Int}:HL.indexV Tryd.prog 11 (.string (HL.bs a)) (.int k n)=HL.chk (0≤n∧n < a.length) (some (HL.u8v (HL.bt8 a n.toNat))):=HL.str_index Tryd.underlying11
@[go_sem] theorem T.ss11 {a:HL.Str} {k k2:IntKind} {x y:Int}:HL.sliceV Tryd.prog 11 (.string (HL.bs a)) (some (.int k x)) (some (.int k2 y)) none=HL.chk (0≤y∧y≤a.length) (HL.chk (0≤x∧x≤y.toNat) (some (.string (HL.bs ((a.take y.toNat).drop x.toNat))))):=HL.str_sub Tryd.underlying11
@[go_sem] theorem T.so11 {a:HL.Str} {k:IntKind} {x:Int}:HL.sliceV Tryd.prog 11 (.string (HL.bs a)) (some (.int k x)) none none=HL.chk (0≤x∧x≤a.length) (some (.string (HL.bs (a.drop x.toNat)))):=HL.str_lo Tryd.underlying11
@[go_sem] theorem T.sh11 {a:HL.Str} {k:IntKind} {y:Int}:HL.sliceV Tryd.prog 11 (.string (HL.bs a)) none (some (.int k y)) none=HL.chk (0≤y∧y≤a.length) (some (.string (HL.bs (a.take y.toNat)))):=HL.str_hi Tryd.underlying11
end Go.Proofs
