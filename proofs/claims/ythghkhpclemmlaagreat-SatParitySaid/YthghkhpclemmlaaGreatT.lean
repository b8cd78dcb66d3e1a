/- Closed facts on the types of the program. -/
import Derived.Test.YthghkhpclemmlaaGreatProg
import Derived.Test.YthghkhpclemmlaaGreatL06
namespace Go.Proofs
theorem T.mixed : Tryz.prog.follows .mixedOrders = true := by kernel_rfl
@[go_sem] theorem T.agg1 : HL.aggN Tryz.prog 1 = some none := by kernel_rfl
@[go_sem] theorem T.size1 : HL.sizeT Tryz.prog 1 = some 1 := by kernel_rfl
@[go_sem] theorem T.bytes1 : HL.bytesT Tryz.prog 1 = some 8 := by kernel_rfl
@[go_sem] theorem T.zero1 : HL.zeroT Tryz.prog 1 = some (.nilFunc) := by kernel_rfl
@[go_sem] theorem T.agg2 : HL.aggN Tryz.prog 2 = some none := by kernel_rfl
@[go_sem] theorem T.size2 : HL.sizeT Tryz.prog 2 = some 1 := by kernel_rfl
@[go_sem] theorem T.bytes2 : HL.bytesT Tryz.prog 2 = some 8 := by kernel_rfl
@[go_sem] theorem T.zero2 : HL.zeroT Tryz.prog 2 = some (.int .i64 0) := by kernel_rfl
@[go_sem] theorem T.agg3 : HL.aggN Tryz.prog 3 = some none := by kernel_rfl
@[go_sem] theorem T.size3 : HL.sizeT Tryz.prog 3 = some 1 := by kernel_rfl
@[go_sem] theorem T.bytes3 : HL.bytesT Tryz.prog 3 = some 8 := by kernel_rfl
@[go_sem] theorem T.zero3 : HL.zeroT Tryz.prog 3 = some (.int .i64 0) := by kernel_rfl
@[go_sem] theorem T.agg4 : HL.aggN Tryz.prog 4 = some none := by kernel_rfl
@[go_sem] theorem T.size4 : HL.sizeT Tryz.prog 4 = some 1 := by kernel_rfl
@[go_sem] theorem T.bytes4 : HL.bytesT Tryz.prog 4 = some 1 := by kernel_rfl
@[go_sem] theorem T.zero4 : HL.zeroT Tryz.prog 4 = some (.bool false) := by kernel_rfl
@[go_sem] theorem T.agg5 : HL.aggN Tryz.prog 5 = some none := by kernel_rfl
@[go_sem] theorem T.size5 : HL.sizeT Tryz.prog 5 = some 1 := by kernel_rfl
@[go_sem] theorem T.bytes5 : HL.bytesT Tryz.prog 5 = some 1 := by kernel_rfl
@[go_sem] theorem T.zero5 : HL.zeroT Tryz.prog 5 = some (.int .u8 0) := by kernel_rfl
@[go_sem] theorem T.agg6 : HL.aggN Tryz.prog 6 = some none := by kernel_rfl
@[go_sem] theorem T.size6 : HL.sizeT Tryz.prog 6 = some 1 := by kernel_rfl
@[go_sem] theorem T.bytes6 : HL.bytesT Tryz.prog 6 = some 1 := by kernel_rfl
@[go_sem] theorem T.zero6 : HL.zeroT Tryz.prog 6 = some (.int .u8 0) := by kernel_rfl
@[go_sem] theorem T.agg7 : HL.aggN Tryz.prog 7 = some (some 4) := by kernel_rfl
@[go_sem] theorem T.size7 : HL.sizeT Tryz.prog 7 = some 4 := by kernel_rfl
@[go_sem] theorem T.bytes7 : HL.bytesT Tryz.prog 7 = some 24 := by kernel_rfl
@[go_sem] theorem T.zero7 : HL.zeroT Tryz.prog 7 = some (.agg #[.int .i64 0, .int .i64 0, .bool false, .int .u8 0]) := by kernel_rfl
@[go_sem] theorem T.places7 : HL.placesT Tryz.prog 7 = some [(0, 1), (1, 1), (2, 1), (3, 1)] := by kernel_rfl
@[go_sem] theorem T.field7_0 : HL.fieldT Tryz.prog 7 0 = some (0, 2) := by kernel_rfl
@[go_sem] theorem T.fieldO7_0 : HL.fieldO Tryz.prog 7 0 = some 0 := by kernel_rfl
@[go_sem] theorem T.field7_1 : HL.fieldT Tryz.prog 7 1 = some (1, 3) := by kernel_rfl
@[go_sem] theorem T.fieldO7_1 : HL.fieldO Tryz.prog 7 1 = some 1 := by kernel_rfl
@[go_sem] theorem T.field7_2 : HL.fieldT Tryz.prog 7 2 = some (2, 4) := by kernel_rfl
@[go_sem] theorem T.fieldO7_2 : HL.fieldO Tryz.prog 7 2 = some 2 := by kernel_rfl
@[go_sem] theorem T.field7_3 : HL.fieldT Tryz.prog 7 3 = some (3, 6) := by kernel_rfl
@[go_sem] theorem T.fieldO7_3 : HL.fieldO Tryz.prog 7 3 = some 3 := by kernel_rfl
@[go_sem] theorem T.agg8 : HL.aggN Tryz.prog 8 = some (some 4) := by kernel_rfl
@[go_sem] theorem T.size8 : HL.sizeT Tryz.prog 8 = some 4 := by kernel_rfl
@[go_sem] theorem T.bytes8 : HL.bytesT Tryz.prog 8 = some 24 := by kernel_rfl
@[go_sem] theorem T.zero8 : HL.zeroT Tryz.prog 8 = some (.agg #[.int .i64 0, .int .i64 0, .bool false, .int .u8 0]) := by kernel_rfl
@[go_sem] theorem T.places8 : HL.placesT Tryz.prog 8 = some [(0, 1), (1, 1), (2, 1), (3, 1)] := by kernel_rfl
@[go_sem] theorem T.field8_0 : HL.fieldT Tryz.prog 8 0 = some (0, 2) := by kernel_rfl
@[go_sem] theorem T.fieldO8_0 : HL.fieldO Tryz.prog 8 0 = some 0 := by kernel_rfl
@[go_sem] theorem T.field8_1 : HL.fieldT Tryz.prog 8 1 = some (1, 3) := by kernel_rfl
@[go_sem] theorem T.fieldO8_1 : HL.fieldO Tryz.prog 8 1 = some 1 := by kernel_rfl
@[go_sem] theorem T.field8_2 : HL.fieldT Tryz.prog 8 2 = some (2, 4) := by kernel_rfl
@[go_sem] theorem T.fieldO8_2 : HL.fieldO Tryz.prog 8 2 = some 2 := by kernel_rfl
@[go_sem] theorem T.field8_3 : HL.fieldT Tryz.prog 8 3 = some (3, 6) := by kernel_rfl
@[go_sem] theorem T.fieldO8_3 : HL.fieldO Tryz.prog 8 3 = some 3 := by kernel_rfl
@[go_sem] theorem T.agg9 : HL.aggN Tryz.prog 9 = some none := by kernel_rfl
@[go_sem] theorem T.size9 : HL.sizeT Tryz.prog 9 = some 1 := by kernel_rfl
@[go_sem] theorem T.bytes9 : HL.bytesT Tryz.prog 9 = some 16 := by kernel_rfl
@[go_sem] theorem T.zero9 : HL.zeroT Tryz.prog 9 = some (.string ⟨#[]⟩) := by kernel_rfl
@[go_sem] theorem T.agg10 : HL.aggN Tryz.prog 10 = some none := by kernel_rfl
@[go_sem] theorem T.size10 : HL.sizeT Tryz.prog 10 = some 1 := by kernel_rfl
@[go_sem] theorem T.bytes10 : HL.bytesT Tryz.prog 10 = some 16 := by kernel_rfl
@[go_sem] theorem T.zero10 : HL.zeroT Tryz.prog 10 = some (.string ⟨#[]⟩) := by kernel_rfl
@[go_sem] theorem T.agg11 : HL.aggN Tryz.prog 11 = some none := by kernel_rfl
@[go_sem] theorem T.size11 : HL.sizeT Tryz.prog 11 = some 1 := by kernel_rfl
@[go_sem] theorem T.bytes11 : HL.bytesT Tryz.prog 11 = some 16 := by kernel_rfl
@[go_sem] theorem T.zero11 : HL.zeroT Tryz.prog 11 = some (.string ⟨#[]⟩) := by kernel_rfl
@[go_sem] theorem T.agg12 : HL.aggN Tryz.prog 12 = some none := by kernel_rfl
@[go_sem] theorem T.size12 : HL.sizeT Tryz.prog 12 = some 1 := by kernel_rfl
@[go_sem] theorem T.bytes12 : HL.bytesT Tryz.prog 12 = some 8 := by kernel_rfl
@[go_sem] theorem T.zero12 : HL.zeroT Tryz.prog 12 = some (.int .u64 0) := by kernel_rfl
@[go_sem] theorem T.agg13 : HL.aggN Tryz.prog 13 = some (some 2) := by kernel_rfl
@[go_sem] theorem T.size13 : HL.sizeT Tryz.prog 13 = some 2 := by kernel_rfl
@[go_sem] theorem T.bytes13 : HL.bytesT Tryz.prog 13 = some 24 := by kernel_rfl
@[go_sem] theorem T.zero13 : HL.zeroT Tryz.prog 13 = some (.agg #[.string ⟨#[]⟩, .int .u64 0]) := by kernel_rfl
@[go_sem] theorem T.places13 : HL.placesT Tryz.prog 13 = some [(0, 1), (1, 1)] := by kernel_rfl
@[go_sem] theorem T.field13_0 : HL.fieldT Tryz.prog 13 0 = some (0, 9) := by kernel_rfl
@[go_sem] theorem T.fieldO13_0 : HL.fieldO Tryz.prog 13 0 = some 0 := by kernel_rfl
@[go_sem] theorem T.field13_1 : HL.fieldT Tryz.prog 13 1 = some (1, 12) := by kernel_rfl
@[go_sem] theorem T.fieldO13_1 : HL.fieldO Tryz.prog 13 1 = some 1 := by kernel_rfl
@[go_sem] theorem T.agg14 : HL.aggN Tryz.prog 14 = some (some 2) := by kernel_rfl
@[go_sem] theorem T.size14 : HL.sizeT Tryz.prog 14 = some 2 := by kernel_rfl
@[go_sem] theorem T.bytes14 : HL.bytesT Tryz.prog 14 = some 24 := by kernel_rfl
@[go_sem] theorem T.zero14 : HL.zeroT Tryz.prog 14 = some (.agg #[.string ⟨#[]⟩, .int .u64 0]) := by kernel_rfl
@[go_sem] theorem T.places14 : HL.placesT Tryz.prog 14 = some [(0, 1), (1, 1)] := by kernel_rfl
@[go_sem] theorem T.field14_0 : HL.fieldT Tryz.prog 14 0 = some (0, 9) := by kernel_rfl
@[go_sem] theorem T.fieldO14_0 : HL.fieldO Tryz.prog 14 0 = some 0 := by kernel_rfl
@[go_sem] theorem T.field14_1 : HL.fieldT Tryz.prog 14 1 = some (1, 12) := by kernel_rfl
@[go_sem] theorem T.fieldO14_1 : HL.fieldO Tryz.prog 14 1 = some 1 := by kernel_rfl
@[go_sem] theorem T.agg15 : HL.aggN Tryz.prog 15 = some none := by kernel_rfl
@[go_sem] theorem T.size15 : HL.sizeT Tryz.prog 15 = some 1 := by kernel_rfl
@[go_sem] theorem T.bytes15 : HL.bytesT Tryz.prog 15 = some 8 := by kernel_rfl
@[go_sem] theorem T.zero15 : HL.zeroT Tryz.prog 15 = some (.pointer none) := by kernel_rfl
@[go_sem] theorem T.agg16 : HL.aggN Tryz.prog 16 = some none := by kernel_rfl
@[go_sem] theorem T.size16 : HL.sizeT Tryz.prog 16 = some 1 := by kernel_rfl
@[go_sem] theorem T.bytes16 : HL.bytesT Tryz.prog 16 = some 8 := by kernel_rfl
@[go_sem] theorem T.zero16 : HL.zeroT Tryz.prog 16 = some (.pointer none) := by kernel_rfl
@[go_sem] theorem T.agg17 : HL.aggN Tryz.prog 17 = some none := by kernel_rfl
@[go_sem] theorem T.size17 : HL.sizeT Tryz.prog 17 = some 1 := by kernel_rfl
@[go_sem] theorem T.bytes17 : HL.bytesT Tryz.prog 17 = some 8 := by kernel_rfl
@[go_sem] theorem T.zero17 : HL.zeroT Tryz.prog 17 = some (.pointer none) := by kernel_rfl
@[go_sem] theorem T.agg18 : HL.aggN Tryz.prog 18 = some (some 1) := by kernel_rfl
@[go_sem] theorem T.size18 : HL.sizeT Tryz.prog 18 = some 1 := by kernel_rfl
@[go_sem] theorem T.bytes18 : HL.bytesT Tryz.prog 18 = some 8 := by kernel_rfl
@[go_sem] theorem T.zero18 : HL.zeroT Tryz.prog 18 = some (.agg #[.pointer none]) := by kernel_rfl
@[go_sem] theorem T.places18 : HL.placesT Tryz.prog 18 = some [(0, 1)] := by kernel_rfl
@[go_sem] theorem T.field18_0 : HL.fieldT Tryz.prog 18 0 = some (0, 17) := by kernel_rfl
@[go_sem] theorem T.fieldO18_0 : HL.fieldO Tryz.prog 18 0 = some 0 := by kernel_rfl
@[go_sem] theorem T.agg19 : HL.aggN Tryz.prog 19 = some (some 1) := by kernel_rfl
@[go_sem] theorem T.size19 : HL.sizeT Tryz.prog 19 = some 1 := by kernel_rfl
@[go_sem] theorem T.bytes19 : HL.bytesT Tryz.prog 19 = some 8 := by kernel_rfl
@[go_sem] theorem T.zero19 : HL.zeroT Tryz.prog 19 = some (.agg #[.pointer none]) := by kernel_rfl
@[go_sem] theorem T.places19 : HL.placesT Tryz.prog 19 = some [(0, 1)] := by kernel_rfl
@[go_sem] theorem T.field19_0 : HL.fieldT Tryz.prog 19 0 = some (0, 17) := by kernel_rfl
@[go_sem] theorem T.fieldO19_0 : HL.fieldO Tryz.prog 19 0 = some 0 := by kernel_rfl
@[go_sem] theorem T.agg20 : HL.aggN Tryz.prog 20 = some none := by kernel_rfl
@[go_sem] theorem T.size20 : HL.sizeT Tryz.prog 20 = some 1 := by kernel_rfl
@[go_sem] theorem T.bytes20 : HL.bytesT Tryz.prog 20 = some 16 := by kernel_rfl
@[go_sem] theorem T.zero20 : HL.zeroT Tryz.prog 20 = some (.nilIface) := by kernel_rfl
@[go_sem] theorem T.agg21 : HL.aggN Tryz.prog 21 = some none := by kernel_rfl
@[go_sem] theorem T.size21 : HL.sizeT Tryz.prog 21 = some 1 := by kernel_rfl
@[go_sem] theorem T.bytes21 : HL.bytesT Tryz.prog 21 = some 4 := by kernel_rfl
@[go_sem] theorem T.zero21 : HL.zeroT Tryz.prog 21 = some (.int .i32 0) := by kernel_rfl
@[go_sem] theorem T.agg22 : HL.aggN Tryz.prog 22 = some none := by kernel_rfl
@[go_sem] theorem T.size22 : HL.sizeT Tryz.prog 22 = some 1 := by kernel_rfl
@[go_sem] theorem T.bytes22 : HL.bytesT Tryz.prog 22 = some 24 := by kernel_rfl
@[go_sem] theorem T.zero22 : HL.zeroT Tryz.prog 22 = some (.slice none 0 0) := by kernel_rfl
@[go_sem] theorem T.elem22 : HL.elemT Tryz.prog 22 = some 4 := by kernel_rfl
@[go_sem] theorem T.elemS22 : HL.elemS Tryz.prog 22 = some 1 := by kernel_rfl
@[go_sem] theorem T.agg23 : HL.aggN Tryz.prog 23 = some (some 2) := by kernel_rfl
@[go_sem] theorem T.size23 : HL.sizeT Tryz.prog 23 = some 2 := by kernel_rfl
@[go_sem] theorem T.bytes23 : HL.bytesT Tryz.prog 23 = some 2 := by kernel_rfl
@[go_sem] theorem T.zero23 : HL.zeroT Tryz.prog 23 = some (.agg #[.bool false, .bool false]) := by kernel_rfl
@[go_sem] theorem T.places23 : HL.placesT Tryz.prog 23 = none := by kernel_rfl
@[go_sem] theorem T.arr23 : HL.arrT Tryz.prog 23 = some (2, 4) := by kernel_rfl
@[go_sem] theorem T.arrS23 : HL.arrS Tryz.prog 23 = some (2, 1) := by kernel_rfl
@[go_sem] theorem T.agg24 : HL.aggN Tryz.prog 24 = some none := by kernel_rfl
@[go_sem] theorem T.size24 : HL.sizeT Tryz.prog 24 = some 1 := by kernel_rfl
@[go_sem] theorem T.bytes24 : HL.bytesT Tryz.prog 24 = some 8 := by kernel_rfl
@[go_sem] theorem T.zero24 : HL.zeroT Tryz.prog 24 = some (.nilFunc) := by kernel_rfl
@[go_sem] theorem T.agg25 : HL.aggN Tryz.prog 25 = some none := by kernel_rfl
@[go_sem] theorem T.size25 : HL.sizeT Tryz.prog 25 = some 1 := by kernel_rfl
@[go_sem] theorem T.bytes25 : HL.bytesT Tryz.prog 25 = some 8 := by kernel_rfl
@[go_sem] theorem T.zero25 : HL.zeroT Tryz.prog 25 = some (.pointer none) := by kernel_rfl
@[go_sem] theorem T.agg26 : HL.aggN Tryz.prog 26 = some none := by kernel_rfl
@[go_sem] theorem T.size26 : HL.sizeT Tryz.prog 26 = some 1 := by kernel_rfl
@[go_sem] theorem T.bytes26 : HL.bytesT Tryz.prog 26 = some 8 := by kernel_rfl
@[go_sem] theorem T.zero26 : HL.zeroT Tryz.prog 26 = some (.int .i64 0) := by kernel_rfl
@[go_sem] theorem T.agg28 : HL.aggN Tryz.prog 28 = some none := by kernel_rfl
@[go_sem] theorem T.size28 : HL.sizeT Tryz.prog 28 = some 1 := by kernel_rfl
@[go_sem] theorem T.bytes28 : HL.bytesT Tryz.prog 28 = some 8 := by kernel_rfl
@[go_sem] theorem T.zero28 : HL.zeroT Tryz.prog 28 = some (.nilFunc) := by kernel_rfl
@[go_sem] theorem T.agg29 : HL.aggN Tryz.prog 29 = some none := by kernel_rfl
@[go_sem] theorem T.size29 : HL.sizeT Tryz.prog 29 = some 1 := by kernel_rfl
@[go_sem] theorem T.bytes29 : HL.bytesT Tryz.prog 29 = some 8 := by kernel_rfl
@[go_sem] theorem T.zero29 : HL.zeroT Tryz.prog 29 = some (.nilFunc) := by kernel_rfl
@[go_sem] theorem T.agg30 : HL.aggN Tryz.prog 30 = some none := by kernel_rfl
@[go_sem] theorem T.size30 : HL.sizeT Tryz.prog 30 = some 1 := by kernel_rfl
@[go_sem] theorem T.bytes30 : HL.bytesT Tryz.prog 30 = some 24 := by kernel_rfl
@[go_sem] theorem T.zero30 : HL.zeroT Tryz.prog 30 = some (.slice none 0 0) := by kernel_rfl
@[go_sem] theorem T.elem30 : HL.elemT Tryz.prog 30 = some 3 := by kernel_rfl
@[go_sem] theorem T.elemS30 : HL.elemS Tryz.prog 30 = some 1 := by kernel_rfl
@[go_sem] theorem T.agg31 : HL.aggN Tryz.prog 31 = some none := by kernel_rfl
@[go_sem] theorem T.size31 : HL.sizeT Tryz.prog 31 = some 1 := by kernel_rfl
@[go_sem] theorem T.bytes31 : HL.bytesT Tryz.prog 31 = some 8 := by kernel_rfl
@[go_sem] theorem T.zero31 : HL.zeroT Tryz.prog 31 = some (.nilFunc) := by kernel_rfl
@[go_sem] theorem T.agg32 : HL.aggN Tryz.prog 32 = some none := by kernel_rfl
@[go_sem] theorem T.size32 : HL.sizeT Tryz.prog 32 = some 1 := by kernel_rfl
@[go_sem] theorem T.bytes32 : HL.bytesT Tryz.prog 32 = some 8 := by kernel_rfl
@[go_sem] theorem T.zero32 : HL.zeroT Tryz.prog 32 = some (.nilFunc) := by kernel_rfl
@[go_sem] theorem T.agg33 : HL.aggN Tryz.prog 33 = some none := by kernel_rfl
@[go_sem] theorem T.size33 : HL.sizeT Tryz.prog 33 = some 1 := by kernel_rfl
@[go_sem] theorem T.bytes33 : HL.bytesT Tryz.prog 33 = some 24 := by kernel_rfl
@[go_sem] theorem T.zero33 : HL.zeroT Tryz.prog 33 = some (.slice none 0 0) := by kernel_rfl
@[go_sem] theorem T.elem33 : HL.elemT Tryz.prog 33 = some 30 := by kernel_rfl
@[go_sem] theorem T.elemS33 : HL.elemS Tryz.prog 33 = some 1 := by kernel_rfl
@[go_sem] theorem T.agg34 : HL.aggN Tryz.prog 34 = some none := by kernel_rfl
@[go_sem] theorem T.size34 : HL.sizeT Tryz.prog 34 = some 1 := by kernel_rfl
@[go_sem] theorem T.bytes34 : HL.bytesT Tryz.prog 34 = some 8 := by kernel_rfl
@[go_sem] theorem T.zero34 : HL.zeroT Tryz.prog 34 = some (.nilFunc) := by kernel_rfl
@[go_sem] theorem T.agg35 : HL.aggN Tryz.prog 35 = some none := by kernel_rfl
@[go_sem] theorem T.size35 : HL.sizeT Tryz.prog 35 = some 1 := by kernel_rfl
@[go_sem] theorem T.bytes35 : HL.bytesT Tryz.prog 35 = some 8 := by kernel_rfl
@[go_sem] theorem T.zero35 : HL.zeroT Tryz.prog 35 = some (.nilFunc) := by kernel_rfl
@[go_sem] theorem T.agg36 : HL.aggN Tryz.prog 36 = some none := by kernel_rfl
@[go_sem] theorem T.size36 : HL.sizeT Tryz.prog 36 = some 1 := by kernel_rfl
@[go_sem] theorem T.bytes36 : HL.bytesT Tryz.prog 36 = some 8 := by kernel_rfl
@[go_sem] theorem T.zero36 : HL.zeroT Tryz.prog 36 = some (.nilFunc) := by kernel_rfl
@[go_sem] theorem T.agg37 : HL.aggN Tryz.prog 37 = some none := by kernel_rfl
@[go_sem] theorem T.size37 : HL.sizeT Tryz.prog 37 = some 1 := by kernel_rfl
@[go_sem] theorem T.bytes37 : HL.bytesT Tryz.prog 37 = some 8 := by kernel_rfl
@[go_sem] theorem T.zero37 : HL.zeroT Tryz.prog 37 = some (.nilFunc) := by kernel_rfl
@[go_sem] theorem T.agg38 : HL.aggN Tryz.prog 38 = some none := by kernel_rfl
@[go_sem] theorem T.size38 : HL.sizeT Tryz.prog 38 = some 1 := by kernel_rfl
@[go_sem] theorem T.bytes38 : HL.bytesT Tryz.prog 38 = some 8 := by kernel_rfl
@[go_sem] theorem T.zero38 : HL.zeroT Tryz.prog 38 = some (.nilFunc) := by kernel_rfl
@[go_sem] theorem T.agg39 : HL.aggN Tryz.prog 39 = some none := by kernel_rfl
@[go_sem] theorem T.size39 : HL.sizeT Tryz.prog 39 = some 1 := by kernel_rfl
@[go_sem] theorem T.bytes39 : HL.bytesT Tryz.prog 39 = some 24 := by kernel_rfl
@[go_sem] theorem T.zero39 : HL.zeroT Tryz.prog 39 = some (.slice none 0 0) := by kernel_rfl
@[go_sem] theorem T.elem39 : HL.elemT Tryz.prog 39 = some 42 := by kernel_rfl
@[go_sem] theorem T.elemS39 : HL.elemS Tryz.prog 39 = some 2 := by kernel_rfl
@[go_sem] theorem T.agg40 : HL.aggN Tryz.prog 40 = some none := by kernel_rfl
@[go_sem] theorem T.size40 : HL.sizeT Tryz.prog 40 = some 1 := by kernel_rfl
@[go_sem] theorem T.bytes40 : HL.bytesT Tryz.prog 40 = some 8 := by kernel_rfl
@[go_sem] theorem T.zero40 : HL.zeroT Tryz.prog 40 = some (.nilFunc) := by kernel_rfl
@[go_sem] theorem T.agg41 : HL.aggN Tryz.prog 41 = some (some 2) := by kernel_rfl
@[go_sem] theorem T.size41 : HL.sizeT Tryz.prog 41 = some 2 := by kernel_rfl
@[go_sem] theorem T.bytes41 : HL.bytesT Tryz.prog 41 = some 32 := by kernel_rfl
@[go_sem] theorem T.zero41 : HL.zeroT Tryz.prog 41 = some (.agg #[.bool false, .slice none 0 0]) := by kernel_rfl
@[go_sem] theorem T.places41 : HL.placesT Tryz.prog 41 = some [(0, 1), (1, 1)] := by kernel_rfl
@[go_sem] theorem T.field41_0 : HL.fieldT Tryz.prog 41 0 = some (0, 4) := by kernel_rfl
@[go_sem] theorem T.fieldO41_0 : HL.fieldO Tryz.prog 41 0 = some 0 := by kernel_rfl
@[go_sem] theorem T.field41_1 : HL.fieldT Tryz.prog 41 1 = some (1, 30) := by kernel_rfl
@[go_sem] theorem T.fieldO41_1 : HL.fieldO Tryz.prog 41 1 = some 1 := by kernel_rfl
@[go_sem] theorem T.agg42 : HL.aggN Tryz.prog 42 = some (some 2) := by kernel_rfl
@[go_sem] theorem T.size42 : HL.sizeT Tryz.prog 42 = some 2 := by kernel_rfl
@[go_sem] theorem T.bytes42 : HL.bytesT Tryz.prog 42 = some 32 := by kernel_rfl
@[go_sem] theorem T.zero42 : HL.zeroT Tryz.prog 42 = some (.agg #[.bool false, .slice none 0 0]) := by kernel_rfl
@[go_sem] theorem T.places42 : HL.placesT Tryz.prog 42 = some [(0, 1), (1, 1)] := by kernel_rfl
@[go_sem] theorem T.field42_0 : HL.fieldT Tryz.prog 42 0 = some (0, 4) := by kernel_rfl
@[go_sem] theorem T.fieldO42_0 : HL.fieldO Tryz.prog 42 0 = some 0 := by kernel_rfl
@[go_sem] theorem T.field42_1 : HL.fieldT Tryz.prog 42 1 = some (1, 30) := by kernel_rfl
@[go_sem] theorem T.fieldO42_1 : HL.fieldO Tryz.prog 42 1 = some 1 := by kernel_rfl
@[go_sem] theorem T.agg43 : HL.aggN Tryz.prog 43 = some none := by kernel_rfl
@[go_sem] theorem T.size43 : HL.sizeT Tryz.prog 43 = some 1 := by kernel_rfl
@[go_sem] theorem T.bytes43 : HL.bytesT Tryz.prog 43 = some 8 := by kernel_rfl
@[go_sem] theorem T.zero43 : HL.zeroT Tryz.prog 43 = some (.pointer none) := by kernel_rfl
@[go_sem] theorem T.agg45 : HL.aggN Tryz.prog 45 = some none := by kernel_rfl
@[go_sem] theorem T.size45 : HL.sizeT Tryz.prog 45 = some 1 := by kernel_rfl
@[go_sem] theorem T.bytes45 : HL.bytesT Tryz.prog 45 = some 8 := by kernel_rfl
@[go_sem] theorem T.zero45 : HL.zeroT Tryz.prog 45 = some (.nilFunc) := by kernel_rfl
@[go_sem] theorem T.agg46 : HL.aggN Tryz.prog 46 = some none := by kernel_rfl
@[go_sem] theorem T.size46 : HL.sizeT Tryz.prog 46 = some 1 := by kernel_rfl
@[go_sem] theorem T.bytes46 : HL.bytesT Tryz.prog 46 = some 24 := by kernel_rfl
@[go_sem] theorem T.zero46 : HL.zeroT Tryz.prog 46 = some (.slice none 0 0) := by kernel_rfl
@[go_sem] theorem T.elem46 : HL.elemT Tryz.prog 46 = some 48 := by kernel_rfl
@[go_sem] theorem T.elemS46 : HL.elemS Tryz.prog 46 = some 1 := by kernel_rfl
@[go_sem] theorem T.agg47 : HL.aggN Tryz.prog 47 = some none := by kernel_rfl
@[go_sem] theorem T.size47 : HL.sizeT Tryz.prog 47 = some 1 := by kernel_rfl
@[go_sem] theorem T.bytes47 : HL.bytesT Tryz.prog 47 = some 24 := by kernel_rfl
@[go_sem] theorem T.zero47 : HL.zeroT Tryz.prog 47 = some (.slice none 0 0) := by kernel_rfl
@[go_sem] theorem T.elem47 : HL.elemT Tryz.prog 47 = some 86 := by kernel_rfl
@[go_sem] theorem T.elemS47 : HL.elemS Tryz.prog 47 = some 1 := by kernel_rfl
@[go_sem] theorem T.agg48 : HL.aggN Tryz.prog 48 = some none := by kernel_rfl
@[go_sem] theorem T.size48 : HL.sizeT Tryz.prog 48 = some 1 := by kernel_rfl
@[go_sem] theorem T.bytes48 : HL.bytesT Tryz.prog 48 = some 24 := by kernel_rfl
@[go_sem] theorem T.zero48 : HL.zeroT Tryz.prog 48 = some (.slice none 0 0) := by kernel_rfl
@[go_sem] theorem T.elem48 : HL.elemT Tryz.prog 48 = some 75 := by kernel_rfl
@[go_sem] theorem T.elemS48 : HL.elemS Tryz.prog 48 = some 1 := by kernel_rfl
@[go_sem] theorem T.agg49 : HL.aggN Tryz.prog 49 = some (some 15) := by kernel_rfl
@[go_sem] theorem T.size49 : HL.sizeT Tryz.prog 49 = some 15 := by kernel_rfl
@[go_sem] theorem T.bytes49 : HL.bytesT Tryz.prog 49 = some 264 := by kernel_rfl
@[go_sem] theorem T.zero49 : HL.zeroT Tryz.prog 49 = some (.agg #[.pointer none, .slice none 0 0, .slice none 0 0, .slice none 0 0, .slice none 0 0, .slice none 0 0, .slice none 0 0, .slice none 0 0, .slice none 0 0, .int .i64 0, .int .i64 0, .slice none 0 0, .int .i64 0, .int .i64 0, .bool false]) := by kernel_rfl
@[go_sem] theorem T.places49 : HL.placesT Tryz.prog 49 = some [(0, 1), (1, 1), (2, 1), (3, 1), (4, 1), (5, 1), (6, 1), (7, 1), (8, 1), (9, 1), (10, 1), (11, 1), (12, 1), (13, 1), (14, 1)] := by kernel_rfl
@[go_sem] theorem T.field49_0 : HL.fieldT Tryz.prog 49 0 = some (0, 43) := by kernel_rfl
@[go_sem] theorem T.fieldO49_0 : HL.fieldO Tryz.prog 49 0 = some 0 := by kernel_rfl
@[go_sem] theorem T.field49_1 : HL.fieldT Tryz.prog 49 1 = some (1, 46) := by kernel_rfl
@[go_sem] theorem T.fieldO49_1 : HL.fieldO Tryz.prog 49 1 = some 1 := by kernel_rfl
@[go_sem] theorem T.field49_2 : HL.fieldT Tryz.prog 49 2 = some (2, 47) := by kernel_rfl
@[go_sem] theorem T.fieldO49_2 : HL.fieldO Tryz.prog 49 2 = some 2 := by kernel_rfl
@[go_sem] theorem T.field49_3 : HL.fieldT Tryz.prog 49 3 = some (3, 30) := by kernel_rfl
@[go_sem] theorem T.fieldO49_3 : HL.fieldO Tryz.prog 49 3 = some 3 := by kernel_rfl
@[go_sem] theorem T.field49_4 : HL.fieldT Tryz.prog 49 4 = some (4, 48) := by kernel_rfl
@[go_sem] theorem T.fieldO49_4 : HL.fieldO Tryz.prog 49 4 = some 4 := by kernel_rfl
@[go_sem] theorem T.field49_5 : HL.fieldT Tryz.prog 49 5 = some (5, 22) := by kernel_rfl
@[go_sem] theorem T.fieldO49_5 : HL.fieldO Tryz.prog 49 5 = some 5 := by kernel_rfl
@[go_sem] theorem T.field49_6 : HL.fieldT Tryz.prog 49 6 = some (6, 22) := by kernel_rfl
@[go_sem] theorem T.fieldO49_6 : HL.fieldO Tryz.prog 49 6 = some 6 := by kernel_rfl
@[go_sem] theorem T.field49_7 : HL.fieldT Tryz.prog 49 7 = some (7, 30) := by kernel_rfl
@[go_sem] theorem T.fieldO49_7 : HL.fieldO Tryz.prog 49 7 = some 7 := by kernel_rfl
@[go_sem] theorem T.field49_8 : HL.fieldT Tryz.prog 49 8 = some (8, 30) := by kernel_rfl
@[go_sem] theorem T.fieldO49_8 : HL.fieldO Tryz.prog 49 8 = some 8 := by kernel_rfl
@[go_sem] theorem T.field49_9 : HL.fieldT Tryz.prog 49 9 = some (9, 3) := by kernel_rfl
@[go_sem] theorem T.fieldO49_9 : HL.fieldO Tryz.prog 49 9 = some 9 := by kernel_rfl
@[go_sem] theorem T.field49_10 : HL.fieldT Tryz.prog 49 10 = some (10, 2) := by kernel_rfl
@[go_sem] theorem T.fieldO49_10 : HL.fieldO Tryz.prog 49 10 = some 10 := by kernel_rfl
@[go_sem] theorem T.field49_11 : HL.fieldT Tryz.prog 49 11 = some (11, 48) := by kernel_rfl
@[go_sem] theorem T.fieldO49_11 : HL.fieldO Tryz.prog 49 11 = some 11 := by kernel_rfl
@[go_sem] theorem T.field49_12 : HL.fieldT Tryz.prog 49 12 = some (12, 3) := by kernel_rfl
@[go_sem] theorem T.fieldO49_12 : HL.fieldO Tryz.prog 49 12 = some 12 := by kernel_rfl
@[go_sem] theorem T.field49_13 : HL.fieldT Tryz.prog 49 13 = some (13, 3) := by kernel_rfl
@[go_sem] theorem T.fieldO49_13 : HL.fieldO Tryz.prog 49 13 = some 13 := by kernel_rfl
@[go_sem] theorem T.field49_14 : HL.fieldT Tryz.prog 49 14 = some (14, 4) := by kernel_rfl
@[go_sem] theorem T.fieldO49_14 : HL.fieldO Tryz.prog 49 14 = some 14 := by kernel_rfl
@[go_sem] theorem T.agg50 : HL.aggN Tryz.prog 50 = some (some 15) := by kernel_rfl
@[go_sem] theorem T.size50 : HL.sizeT Tryz.prog 50 = some 15 := by kernel_rfl
@[go_sem] theorem T.bytes50 : HL.bytesT Tryz.prog 50 = some 264 := by kernel_rfl
@[go_sem] theorem T.zero50 : HL.zeroT Tryz.prog 50 = some (.agg #[.pointer none, .slice none 0 0, .slice none 0 0, .slice none 0 0, .slice none 0 0, .slice none 0 0, .slice none 0 0, .slice none 0 0, .slice none 0 0, .int .i64 0, .int .i64 0, .slice none 0 0, .int .i64 0, .int .i64 0, .bool false]) := by kernel_rfl
@[go_sem] theorem T.places50 : HL.placesT Tryz.prog 50 = some [(0, 1), (1, 1), (2, 1), (3, 1), (4, 1), (5, 1), (6, 1), (7, 1), (8, 1), (9, 1), (10, 1), (11, 1), (12, 1), (13, 1), (14, 1)] := by kernel_rfl
@[go_sem] theorem T.field50_0 : HL.fieldT Tryz.prog 50 0 = some (0, 43) := by kernel_rfl
@[go_sem] theorem T.fieldO50_0 : HL.fieldO Tryz.prog 50 0 = some 0 := by kernel_rfl
@[go_sem] theorem T.field50_1 : HL.fieldT Tryz.prog 50 1 = some (1, 46) := by kernel_rfl
@[go_sem] theorem T.fieldO50_1 : HL.fieldO Tryz.prog 50 1 = some 1 := by kernel_rfl
@[go_sem] theorem T.field50_2 : HL.fieldT Tryz.prog 50 2 = some (2, 47) := by kernel_rfl
@[go_sem] theorem T.fieldO50_2 : HL.fieldO Tryz.prog 50 2 = some 2 := by kernel_rfl
@[go_sem] theorem T.field50_3 : HL.fieldT Tryz.prog 50 3 = some (3, 30) := by kernel_rfl
@[go_sem] theorem T.fieldO50_3 : HL.fieldO Tryz.prog 50 3 = some 3 := by kernel_rfl
@[go_sem] theorem T.field50_4 : HL.fieldT Tryz.prog 50 4 = some (4, 48) := by kernel_rfl
@[go_sem] theorem T.fieldO50_4 : HL.fieldO Tryz.prog 50 4 = some 4 := by kernel_rfl
@[go_sem] theorem T.field50_5 : HL.fieldT Tryz.prog 50 5 = some (5, 22) := by kernel_rfl
@[go_sem] theorem T.fieldO50_5 : HL.fieldO Tryz.prog 50 5 = some 5 := by kernel_rfl
@[go_sem] theorem T.field50_6 : HL.fieldT Tryz.prog 50 6 = some (6, 22) := by kernel_rfl
@[go_sem] theorem T.fieldO50_6 : HL.fieldO Tryz.prog 50 6 = some 6 := by kernel_rfl
@[go_sem] theorem T.field50_7 : HL.fieldT Tryz.prog 50 7 = some (7, 30) := by kernel_rfl
@[go_sem] theorem T.fieldO50_7 : HL.fieldO Tryz.prog 50 7 = some 7 := by kernel_rfl
@[go_sem] theorem T.field50_8 : HL.fieldT Tryz.prog 50 8 = some (8, 30) := by kernel_rfl
@[go_sem] theorem T.fieldO50_8 : HL.fieldO Tryz.prog 50 8 = some 8 := by kernel_rfl
@[go_sem] theorem T.field50_9 : HL.fieldT Tryz.prog 50 9 = some (9, 3) := by kernel_rfl
@[go_sem] theorem T.fieldO50_9 : HL.fieldO Tryz.prog 50 9 = some 9 := by kernel_rfl
@[go_sem] theorem T.field50_10 : HL.fieldT Tryz.prog 50 10 = some (10, 2) := by kernel_rfl
@[go_sem] theorem T.fieldO50_10 : HL.fieldO Tryz.prog 50 10 = some 10 := by kernel_rfl
@[go_sem] theorem T.field50_11 : HL.fieldT Tryz.prog 50 11 = some (11, 48) := by kernel_rfl
@[go_sem] theorem T.fieldO50_11 : HL.fieldO Tryz.prog 50 11 = some 11 := by kernel_rfl
@[go_sem] theorem T.field50_12 : HL.fieldT Tryz.prog 50 12 = some (12, 3) := by kernel_rfl
@[go_sem] theorem T.fieldO50_12 : HL.fieldO Tryz.prog 50 12 = some 12 := by kernel_rfl
@[go_sem] theorem T.field50_13 : HL.fieldT Tryz.prog 50 13 = some (13, 3) := by kernel_rfl
@[go_sem] theorem T.fieldO50_13 : HL.fieldO Tryz.prog 50 13 = some 13 := by kernel_rfl
@[go_sem] theorem T.field50_14 : HL.fieldT Tryz.prog 50 14 = some (14, 4) := by kernel_rfl
@[go_sem] theorem T.fieldO50_14 : HL.fieldO Tryz.prog 50 14 = some 14 := by kernel_rfl
@[go_sem] theorem T.agg51 : HL.aggN Tryz.prog 51 = some (some 22) := by kernel_rfl
@[go_sem] theorem T.size51 : HL.sizeT Tryz.prog 51 = some 22 := by kernel_rfl
@[go_sem] theorem T.bytes51 : HL.bytesT Tryz.prog 51 = some 384 := by kernel_rfl
@[go_sem] theorem T.zero51 : HL.zeroT Tryz.prog 51 = some (.agg #[.int .i64 0, .slice none 0 0, .int .i64 0, .slice none 0 0, .int .i64 0, .slice none 0 0, .slice none 0 0, .pointer none, .slice none 0 0, .slice none 0 0, .slice none 0 0, .slice none 0 0, .slice none 0 0, .slice none 0 0, .slice none 0 0, .slice none 0 0, .int .i64 0, .int .i64 0, .slice none 0 0, .int .i64 0, .int .i64 0, .bool false]) := by kernel_rfl
@[go_sem] theorem T.places51 : HL.placesT Tryz.prog 51 = some [(0, 1), (1, 1), (2, 1), (3, 1), (4, 1), (5, 1), (6, 1), (7, 15)] := by kernel_rfl
@[go_sem] theorem T.field51_0 : HL.fieldT Tryz.prog 51 0 = some (0, 3) := by kernel_rfl
@[go_sem] theorem T.fieldO51_0 : HL.fieldO Tryz.prog 51 0 = some 0 := by kernel_rfl
@[go_sem] theorem T.field51_1 : HL.fieldT Tryz.prog 51 1 = some (1, 33) := by kernel_rfl
@[go_sem] theorem T.fieldO51_1 : HL.fieldO Tryz.prog 51 1 = some 1 := by kernel_rfl
@[go_sem] theorem T.field51_2 : HL.fieldT Tryz.prog 51 2 = some (2, 3) := by kernel_rfl
@[go_sem] theorem T.fieldO51_2 : HL.fieldO Tryz.prog 51 2 = some 2 := by kernel_rfl
@[go_sem] theorem T.field51_3 : HL.fieldT Tryz.prog 51 3 = some (3, 39) := by kernel_rfl
@[go_sem] theorem T.fieldO51_3 : HL.fieldO Tryz.prog 51 3 = some 3 := by kernel_rfl
@[go_sem] theorem T.field51_4 : HL.fieldT Tryz.prog 51 4 = some (4, 3) := by kernel_rfl
@[go_sem] theorem T.fieldO51_4 : HL.fieldO Tryz.prog 51 4 = some 4 := by kernel_rfl
@[go_sem] theorem T.field51_5 : HL.fieldT Tryz.prog 51 5 = some (5, 22) := by kernel_rfl
@[go_sem] theorem T.fieldO51_5 : HL.fieldO Tryz.prog 51 5 = some 5 := by kernel_rfl
@[go_sem] theorem T.field51_6 : HL.fieldT Tryz.prog 51 6 = some (6, 30) := by kernel_rfl
@[go_sem] theorem T.fieldO51_6 : HL.fieldO Tryz.prog 51 6 = some 6 := by kernel_rfl
@[go_sem] theorem T.field51_7 : HL.fieldT Tryz.prog 51 7 = some (7, 50) := by kernel_rfl
@[go_sem] theorem T.fieldO51_7 : HL.fieldO Tryz.prog 51 7 = some 7 := by kernel_rfl
@[go_sem] theorem T.agg52 : HL.aggN Tryz.prog 52 = some (some 22) := by kernel_rfl
@[go_sem] theorem T.size52 : HL.sizeT Tryz.prog 52 = some 22 := by kernel_rfl
@[go_sem] theorem T.bytes52 : HL.bytesT Tryz.prog 52 = some 384 := by kernel_rfl
@[go_sem] theorem T.zero52 : HL.zeroT Tryz.prog 52 = some (.agg #[.int .i64 0, .slice none 0 0, .int .i64 0, .slice none 0 0, .int .i64 0, .slice none 0 0, .slice none 0 0, .pointer none, .slice none 0 0, .slice none 0 0, .slice none 0 0, .slice none 0 0, .slice none 0 0, .slice none 0 0, .slice none 0 0, .slice none 0 0, .int .i64 0, .int .i64 0, .slice none 0 0, .int .i64 0, .int .i64 0, .bool false]) := by kernel_rfl
@[go_sem] theorem T.places52 : HL.placesT Tryz.prog 52 = some [(0, 1), (1, 1), (2, 1), (3, 1), (4, 1), (5, 1), (6, 1), (7, 15)] := by kernel_rfl
@[go_sem] theorem T.field52_0 : HL.fieldT Tryz.prog 52 0 = some (0, 3) := by kernel_rfl
@[go_sem] theorem T.fieldO52_0 : HL.fieldO Tryz.prog 52 0 = some 0 := by kernel_rfl
@[go_sem] theorem T.field52_1 : HL.fieldT Tryz.prog 52 1 = some (1, 33) := by kernel_rfl
@[go_sem] theorem T.fieldO52_1 : HL.fieldO Tryz.prog 52 1 = some 1 := by kernel_rfl
@[go_sem] theorem T.field52_2 : HL.fieldT Tryz.prog 52 2 = some (2, 3) := by kernel_rfl
@[go_sem] theorem T.fieldO52_2 : HL.fieldO Tryz.prog 52 2 = some 2 := by kernel_rfl
@[go_sem] theorem T.field52_3 : HL.fieldT Tryz.prog 52 3 = some (3, 39) := by kernel_rfl
@[go_sem] theorem T.fieldO52_3 : HL.fieldO Tryz.prog 52 3 = some 3 := by kernel_rfl
@[go_sem] theorem T.field52_4 : HL.fieldT Tryz.prog 52 4 = some (4, 3) := by kernel_rfl
@[go_sem] theorem T.fieldO52_4 : HL.fieldO Tryz.prog 52 4 = some 4 := by kernel_rfl
@[go_sem] theorem T.field52_5 : HL.fieldT Tryz.prog 52 5 = some (5, 22) := by kernel_rfl
@[go_sem] theorem T.fieldO52_5 : HL.fieldO Tryz.prog 52 5 = some 5 := by kernel_rfl
@[go_sem] theorem T.field52_6 : HL.fieldT Tryz.prog 52 6 = some (6, 30) := by kernel_rfl
@[go_sem] theorem T.fieldO52_6 : HL.fieldO Tryz.prog 52 6 = some 6 := by kernel_rfl
@[go_sem] theorem T.field52_7 : HL.fieldT Tryz.prog 52 7 = some (7, 50) := by kernel_rfl
@[go_sem] theorem T.fieldO52_7 : HL.fieldO Tryz.prog 52 7 = some 7 := by kernel_rfl
@[go_sem] theorem T.agg53 : HL.aggN Tryz.prog 53 = some none := by kernel_rfl
@[go_sem] theorem T.size53 : HL.sizeT Tryz.prog 53 = some 1 := by kernel_rfl
@[go_sem] theorem T.bytes53 : HL.bytesT Tryz.prog 53 = some 8 := by kernel_rfl
@[go_sem] theorem T.zero53 : HL.zeroT Tryz.prog 53 = some (.nilFunc) := by kernel_rfl
@[go_sem] theorem T.agg54 : HL.aggN Tryz.prog 54 = some none := by kernel_rfl
@[go_sem] theorem T.size54 : HL.sizeT Tryz.prog 54 = some 1 := by kernel_rfl
@[go_sem] theorem T.bytes54 : HL.bytesT Tryz.prog 54 = some 8 := by kernel_rfl
@[go_sem] theorem T.zero54 : HL.zeroT Tryz.prog 54 = some (.nilFunc) := by kernel_rfl
@[go_sem] theorem T.agg56 : HL.aggN Tryz.prog 56 = some none := by kernel_rfl
@[go_sem] theorem T.size56 : HL.sizeT Tryz.prog 56 = some 1 := by kernel_rfl
@[go_sem] theorem T.bytes56 : HL.bytesT Tryz.prog 56 = some 8 := by kernel_rfl
@[go_sem] theorem T.zero56 : HL.zeroT Tryz.prog 56 = some (.nilFunc) := by kernel_rfl
@[go_sem] theorem T.agg57 : HL.aggN Tryz.prog 57 = some none := by kernel_rfl
@[go_sem] theorem T.size57 : HL.sizeT Tryz.prog 57 = some 1 := by kernel_rfl
@[go_sem] theorem T.bytes57 : HL.bytesT Tryz.prog 57 = some 8 := by kernel_rfl
@[go_sem] theorem T.zero57 : HL.zeroT Tryz.prog 57 = some (.nilFunc) := by kernel_rfl
@[go_sem] theorem T.agg58 : HL.aggN Tryz.prog 58 = some none := by kernel_rfl
@[go_sem] theorem T.size58 : HL.sizeT Tryz.prog 58 = some 1 := by kernel_rfl
@[go_sem] theorem T.bytes58 : HL.bytesT Tryz.prog 58 = some 8 := by kernel_rfl
@[go_sem] theorem T.zero58 : HL.zeroT Tryz.prog 58 = some (.nilFunc) := by kernel_rfl
@[go_sem] theorem T.agg60 : HL.aggN Tryz.prog 60 = some none := by kernel_rfl
@[go_sem] theorem T.size60 : HL.sizeT Tryz.prog 60 = some 1 := by kernel_rfl
@[go_sem] theorem T.bytes60 : HL.bytesT Tryz.prog 60 = some 8 := by kernel_rfl
@[go_sem] theorem T.zero60 : HL.zeroT Tryz.prog 60 = some (.nilFunc) := by kernel_rfl
@[go_sem] theorem T.agg61 : HL.aggN Tryz.prog 61 = some none := by kernel_rfl
@[go_sem] theorem T.size61 : HL.sizeT Tryz.prog 61 = some 1 := by kernel_rfl
@[go_sem] theorem T.bytes61 : HL.bytesT Tryz.prog 61 = some 8 := by kernel_rfl
@[go_sem] theorem T.zero61 : HL.zeroT Tryz.prog 61 = some (.nilFunc) := by kernel_rfl
@[go_sem] theorem T.agg62 : HL.aggN Tryz.prog 62 = some none := by kernel_rfl
@[go_sem] theorem T.size62 : HL.sizeT Tryz.prog 62 = some 1 := by kernel_rfl
@[go_sem] theorem T.bytes62 : HL.bytesT Tryz.prog 62 = some 8 := by kernel_rfl
@[go_sem] theorem T.zero62 : HL.zeroT Tryz.prog 62 = some (.nilFunc) := by kernel_rfl
@[go_sem] theorem T.agg63 : HL.aggN Tryz.prog 63 = some none := by kernel_rfl
@[go_sem] theorem T.size63 : HL.sizeT Tryz.prog 63 = some 1 := by kernel_rfl
@[go_sem] theorem T.bytes63 : HL.bytesT Tryz.prog 63 = some 8 := by kernel_rfl
@[go_sem] theorem T.zero63 : HL.zeroT Tryz.prog 63 = some (.nilFunc) := by kernel_rfl
@[go_sem] theorem T.agg64 : HL.aggN Tryz.prog 64 = some none := by kernel_rfl
@[go_sem] theorem T.size64 : HL.sizeT Tryz.prog 64 = some 1 := by kernel_rfl
@[go_sem] theorem T.bytes64 : HL.bytesT Tryz.prog 64 = some 8 := by kernel_rfl
@[go_sem] theorem T.zero64 : HL.zeroT Tryz.prog 64 = some (.nilFunc) := by kernel_rfl
@[go_sem] theorem T.agg65 : HL.aggN Tryz.prog 65 = some none := by kernel_rfl
@[go_sem] theorem T.size65 : HL.sizeT Tryz.prog 65 = some 1 := by kernel_rfl
@[go_sem] theorem T.bytes65 : HL.bytesT Tryz.prog 65 = some 8 := by kernel_rfl
@[go_sem] theorem T.zero65 : HL.zeroT Tryz.prog 65 = some (.nilFunc) := by kernel_rfl
@[go_sem] theorem T.agg66 : HL.aggN Tryz.prog 66 = some none := by kernel_rfl
@[go_sem] theorem T.size66 : HL.sizeT Tryz.prog 66 = some 1 := by kernel_rfl
@[go_sem] theorem T.bytes66 : HL.bytesT Tryz.prog 66 = some 8 := by kernel_rfl
@[go_sem] theorem T.zero66 : HL.zeroT Tryz.prog 66 = some (.nilFunc) := by kernel_rfl
@[go_sem] theorem T.agg67 : HL.aggN Tryz.prog 67 = some none := by kernel_rfl
@[go_sem] theorem T.size67 : HL.sizeT Tryz.prog 67 = some 1 := by kernel_rfl
@[go_sem] theorem T.bytes67 : HL.bytesT Tryz.prog 67 = some 24 := by kernel_rfl
@[go_sem] theorem T.zero67 : HL.zeroT Tryz.prog 67 = some (.slice none 0 0) := by kernel_rfl
@[go_sem] theorem T.elem67 : HL.elemT Tryz.prog 67 = some 2 := by kernel_rfl
@[go_sem] theorem T.elemS67 : HL.elemS Tryz.prog 67 = some 1 := by kernel_rfl
@[go_sem] theorem T.agg68 : HL.aggN Tryz.prog 68 = some (some 3) := by kernel_rfl
@[go_sem] theorem T.size68 : HL.sizeT Tryz.prog 68 = some 3 := by kernel_rfl
@[go_sem] theorem T.bytes68 : HL.bytesT Tryz.prog 68 = some 72 := by kernel_rfl
@[go_sem] theorem T.zero68 : HL.zeroT Tryz.prog 68 = some (.agg #[.slice none 0 0, .slice none 0 0, .slice none 0 0]) := by kernel_rfl
@[go_sem] theorem T.places68 : HL.placesT Tryz.prog 68 = some [(0, 1), (1, 1), (2, 1)] := by kernel_rfl
@[go_sem] theorem T.field68_0 : HL.fieldT Tryz.prog 68 0 = some (0, 30) := by kernel_rfl
@[go_sem] theorem T.fieldO68_0 : HL.fieldO Tryz.prog 68 0 = some 0 := by kernel_rfl
@[go_sem] theorem T.field68_1 : HL.fieldT Tryz.prog 68 1 = some (1, 30) := by kernel_rfl
@[go_sem] theorem T.fieldO68_1 : HL.fieldO Tryz.prog 68 1 = some 1 := by kernel_rfl
@[go_sem] theorem T.field68_2 : HL.fieldT Tryz.prog 68 2 = some (2, 67) := by kernel_rfl
@[go_sem] theorem T.fieldO68_2 : HL.fieldO Tryz.prog 68 2 = some 2 := by kernel_rfl
@[go_sem] theorem T.agg69 : HL.aggN Tryz.prog 69 = some (some 3) := by kernel_rfl
@[go_sem] theorem T.size69 : HL.sizeT Tryz.prog 69 = some 3 := by kernel_rfl
@[go_sem] theorem T.bytes69 : HL.bytesT Tryz.prog 69 = some 72 := by kernel_rfl
@[go_sem] theorem T.zero69 : HL.zeroT Tryz.prog 69 = some (.agg #[.slice none 0 0, .slice none 0 0, .slice none 0 0]) := by kernel_rfl
@[go_sem] theorem T.places69 : HL.placesT Tryz.prog 69 = some [(0, 1), (1, 1), (2, 1)] := by kernel_rfl
@[go_sem] theorem T.field69_0 : HL.fieldT Tryz.prog 69 0 = some (0, 30) := by kernel_rfl
@[go_sem] theorem T.fieldO69_0 : HL.fieldO Tryz.prog 69 0 = some 0 := by kernel_rfl
@[go_sem] theorem T.field69_1 : HL.fieldT Tryz.prog 69 1 = some (1, 30) := by kernel_rfl
@[go_sem] theorem T.fieldO69_1 : HL.fieldO Tryz.prog 69 1 = some 1 := by kernel_rfl
@[go_sem] theorem T.field69_2 : HL.fieldT Tryz.prog 69 2 = some (2, 67) := by kernel_rfl
@[go_sem] theorem T.fieldO69_2 : HL.fieldO Tryz.prog 69 2 = some 2 := by kernel_rfl
@[go_sem] theorem T.agg70 : HL.aggN Tryz.prog 70 = some none := by kernel_rfl
@[go_sem] theorem T.size70 : HL.sizeT Tryz.prog 70 = some 1 := by kernel_rfl
@[go_sem] theorem T.bytes70 : HL.bytesT Tryz.prog 70 = some 8 := by kernel_rfl
@[go_sem] theorem T.zero70 : HL.zeroT Tryz.prog 70 = some (.nilFunc) := by kernel_rfl
@[go_sem] theorem T.agg71 : HL.aggN Tryz.prog 71 = some none := by kernel_rfl
@[go_sem] theorem T.size71 : HL.sizeT Tryz.prog 71 = some 1 := by kernel_rfl
@[go_sem] theorem T.bytes71 : HL.bytesT Tryz.prog 71 = some 8 := by kernel_rfl
@[go_sem] theorem T.zero71 : HL.zeroT Tryz.prog 71 = some (.nilFunc) := by kernel_rfl
@[go_sem] theorem T.agg72 : HL.aggN Tryz.prog 72 = some none := by kernel_rfl
@[go_sem] theorem T.size72 : HL.sizeT Tryz.prog 72 = some 1 := by kernel_rfl
@[go_sem] theorem T.bytes72 : HL.bytesT Tryz.prog 72 = some 8 := by kernel_rfl
@[go_sem] theorem T.zero72 : HL.zeroT Tryz.prog 72 = some (.nilFunc) := by kernel_rfl
@[go_sem] theorem T.agg73 : HL.aggN Tryz.prog 73 = some none := by kernel_rfl
@[go_sem] theorem T.size73 : HL.sizeT Tryz.prog 73 = some 1 := by kernel_rfl
@[go_sem] theorem T.bytes73 : HL.bytesT Tryz.prog 73 = some 8 := by kernel_rfl
@[go_sem] theorem T.zero73 : HL.zeroT Tryz.prog 73 = some (.nilFunc) := by kernel_rfl
@[go_sem] theorem T.agg74 : HL.aggN Tryz.prog 74 = some none := by kernel_rfl
@[go_sem] theorem T.size74 : HL.sizeT Tryz.prog 74 = some 1 := by kernel_rfl
@[go_sem] theorem T.bytes74 : HL.bytesT Tryz.prog 74 = some 8 := by kernel_rfl
@[go_sem] theorem T.zero74 : HL.zeroT Tryz.prog 74 = some (.map none) := by kernel_rfl
@[go_sem] theorem T.agg75 : HL.aggN Tryz.prog 75 = some none := by kernel_rfl
@[go_sem] theorem T.size75 : HL.sizeT Tryz.prog 75 = some 1 := by kernel_rfl
@[go_sem] theorem T.bytes75 : HL.bytesT Tryz.prog 75 = some 8 := by kernel_rfl
@[go_sem] theorem T.zero75 : HL.zeroT Tryz.prog 75 = some (.pointer none) := by kernel_rfl
@[go_sem] theorem T.agg76 : HL.aggN Tryz.prog 76 = some none := by kernel_rfl
@[go_sem] theorem T.size76 : HL.sizeT Tryz.prog 76 = some 1 := by kernel_rfl
@[go_sem] theorem T.bytes76 : HL.bytesT Tryz.prog 76 = some 8 := by kernel_rfl
@[go_sem] theorem T.zero76 : HL.zeroT Tryz.prog 76 = some (.nilFunc) := by kernel_rfl
@[go_sem] theorem T.agg77 : HL.aggN Tryz.prog 77 = some none := by kernel_rfl
@[go_sem] theorem T.size77 : HL.sizeT Tryz.prog 77 = some 1 := by kernel_rfl
@[go_sem] theorem T.bytes77 : HL.bytesT Tryz.prog 77 = some 8 := by kernel_rfl
@[go_sem] theorem T.zero77 : HL.zeroT Tryz.prog 77 = some (.nilFunc) := by kernel_rfl
@[go_sem] theorem T.agg78 : HL.aggN Tryz.prog 78 = some none := by kernel_rfl
@[go_sem] theorem T.size78 : HL.sizeT Tryz.prog 78 = some 1 := by kernel_rfl
@[go_sem] theorem T.bytes78 : HL.bytesT Tryz.prog 78 = some 8 := by kernel_rfl
@[go_sem] theorem T.zero78 : HL.zeroT Tryz.prog 78 = some (.nilFunc) := by kernel_rfl
@[go_sem] theorem T.agg79 : HL.aggN Tryz.prog 79 = some none := by kernel_rfl
@[go_sem] theorem T.size79 : HL.sizeT Tryz.prog 79 = some 1 := by kernel_rfl
@[go_sem] theorem T.bytes79 : HL.bytesT Tryz.prog 79 = some 8 := by kernel_rfl
@[go_sem] theorem T.zero79 : HL.zeroT Tryz.prog 79 = some (.nilFunc) := by kernel_rfl
@[go_sem] theorem T.agg80 : HL.aggN Tryz.prog 80 = some none := by kernel_rfl
@[go_sem] theorem T.size80 : HL.sizeT Tryz.prog 80 = some 1 := by kernel_rfl
@[go_sem] theorem T.bytes80 : HL.bytesT Tryz.prog 80 = some 8 := by kernel_rfl
@[go_sem] theorem T.zero80 : HL.zeroT Tryz.prog 80 = some (.nilFunc) := by kernel_rfl
@[go_sem] theorem T.agg81 : HL.aggN Tryz.prog 81 = some none := by kernel_rfl
@[go_sem] theorem T.size81 : HL.sizeT Tryz.prog 81 = some 1 := by kernel_rfl
@[go_sem] theorem T.bytes81 : HL.bytesT Tryz.prog 81 = some 8 := by kernel_rfl
@[go_sem] theorem T.zero81 : HL.zeroT Tryz.prog 81 = some (.nilFunc) := by kernel_rfl
@[go_sem] theorem T.agg82 : HL.aggN Tryz.prog 82 = some none := by kernel_rfl
@[go_sem] theorem T.size82 : HL.sizeT Tryz.prog 82 = some 1 := by kernel_rfl
@[go_sem] theorem T.bytes82 : HL.bytesT Tryz.prog 82 = some 8 := by kernel_rfl
@[go_sem] theorem T.zero82 : HL.zeroT Tryz.prog 82 = some (.nilFunc) := by kernel_rfl
@[go_sem] theorem T.agg83 : HL.aggN Tryz.prog 83 = some none := by kernel_rfl
@[go_sem] theorem T.size83 : HL.sizeT Tryz.prog 83 = some 1 := by kernel_rfl
@[go_sem] theorem T.bytes83 : HL.bytesT Tryz.prog 83 = some 8 := by kernel_rfl
@[go_sem] theorem T.zero83 : HL.zeroT Tryz.prog 83 = some (.nilFunc) := by kernel_rfl
@[go_sem] theorem T.agg84 : HL.aggN Tryz.prog 84 = some none := by kernel_rfl
@[go_sem] theorem T.size84 : HL.sizeT Tryz.prog 84 = some 1 := by kernel_rfl
@[go_sem] theorem T.bytes84 : HL.bytesT Tryz.prog 84 = some 8 := by kernel_rfl
@[go_sem] theorem T.zero84 : HL.zeroT Tryz.prog 84 = some (.nilFunc) := by kernel_rfl
@[go_sem] theorem T.agg85 : HL.aggN Tryz.prog 85 = some none := by kernel_rfl
@[go_sem] theorem T.size85 : HL.sizeT Tryz.prog 85 = some 1 := by kernel_rfl
@[go_sem] theorem T.bytes85 : HL.bytesT Tryz.prog 85 = some 8 := by kernel_rfl
@[go_sem] theorem T.zero85 : HL.zeroT Tryz.prog 85 = some (.int .u64 0) := by kernel_rfl
@[go_sem] theorem T.agg86 : HL.aggN Tryz.prog 86 = some none := by kernel_rfl
@[go_sem] theorem T.size86 : HL.sizeT Tryz.prog 86 = some 1 := by kernel_rfl
@[go_sem] theorem T.bytes86 : HL.bytesT Tryz.prog 86 = some 1 := by kernel_rfl
@[go_sem] theorem T.zero86 : HL.zeroT Tryz.prog 86 = some (.int .i8 0) := by kernel_rfl
@[go_sem] theorem T.agg87 : HL.aggN Tryz.prog 87 = some none := by kernel_rfl
@[go_sem] theorem T.size87 : HL.sizeT Tryz.prog 87 = some 1 := by kernel_rfl
@[go_sem] theorem T.bytes87 : HL.bytesT Tryz.prog 87 = some 8 := by kernel_rfl
@[go_sem] theorem T.zero87 : HL.zeroT Tryz.prog 87 = some (.nilFunc) := by kernel_rfl
@[go_sem] theorem T.agg88 : HL.aggN Tryz.prog 88 = some (some 3) := by kernel_rfl
@[go_sem] theorem T.size88 : HL.sizeT Tryz.prog 88 = some 3 := by kernel_rfl
@[go_sem] theorem T.bytes88 : HL.bytesT Tryz.prog 88 = some 40 := by kernel_rfl
@[go_sem] theorem T.zero88 : HL.zeroT Tryz.prog 88 = some (.agg #[.slice none 0 0, .int .i64 0, .bool false]) := by kernel_rfl
@[go_sem] theorem T.places88 : HL.placesT Tryz.prog 88 = some [(0, 1), (1, 1), (2, 1)] := by kernel_rfl
@[go_sem] theorem T.field88_0 : HL.fieldT Tryz.prog 88 0 = some (0, 30) := by kernel_rfl
@[go_sem] theorem T.fieldO88_0 : HL.fieldO Tryz.prog 88 0 = some 0 := by kernel_rfl
@[go_sem] theorem T.field88_1 : HL.fieldT Tryz.prog 88 1 = some (1, 3) := by kernel_rfl
@[go_sem] theorem T.fieldO88_1 : HL.fieldO Tryz.prog 88 1 = some 1 := by kernel_rfl
@[go_sem] theorem T.field88_2 : HL.fieldT Tryz.prog 88 2 = some (2, 4) := by kernel_rfl
@[go_sem] theorem T.fieldO88_2 : HL.fieldO Tryz.prog 88 2 = some 2 := by kernel_rfl
@[go_sem] theorem T.agg89 : HL.aggN Tryz.prog 89 = some (some 3) := by kernel_rfl
@[go_sem] theorem T.size89 : HL.sizeT Tryz.prog 89 = some 3 := by kernel_rfl
@[go_sem] theorem T.bytes89 : HL.bytesT Tryz.prog 89 = some 40 := by kernel_rfl
@[go_sem] theorem T.zero89 : HL.zeroT Tryz.prog 89 = some (.agg #[.slice none 0 0, .int .i64 0, .bool false]) := by kernel_rfl
@[go_sem] theorem T.places89 : HL.placesT Tryz.prog 89 = some [(0, 1), (1, 1), (2, 1)] := by kernel_rfl
@[go_sem] theorem T.field89_0 : HL.fieldT Tryz.prog 89 0 = some (0, 30) := by kernel_rfl
@[go_sem] theorem T.fieldO89_0 : HL.fieldO Tryz.prog 89 0 = some 0 := by kernel_rfl
@[go_sem] theorem T.field89_1 : HL.fieldT Tryz.prog 89 1 = some (1, 3) := by kernel_rfl
@[go_sem] theorem T.fieldO89_1 : HL.fieldO Tryz.prog 89 1 = some 1 := by kernel_rfl
@[go_sem] theorem T.field89_2 : HL.fieldT Tryz.prog 89 2 = some (2, 4) := by kernel_rfl
@[go_sem] theorem T.fieldO89_2 : HL.fieldO Tryz.prog 89 2 = some 2 := by kernel_rfl
@[go_sem] theorem T.agg90 : HL.aggN Tryz.prog 90 = some none := by kernel_rfl
@[go_sem] theorem T.size90 : HL.sizeT Tryz.prog 90 = some 1 := by kernel_rfl
@[go_sem] theorem T.bytes90 : HL.bytesT Tryz.prog 90 = some 8 := by kernel_rfl
@[go_sem] theorem T.zero90 : HL.zeroT Tryz.prog 90 = some (.pointer none) := by kernel_rfl
@[go_sem] theorem T.agg91 : HL.aggN Tryz.prog 91 = some none := by kernel_rfl
@[go_sem] theorem T.size91 : HL.sizeT Tryz.prog 91 = some 1 := by kernel_rfl
@[go_sem] theorem T.bytes91 : HL.bytesT Tryz.prog 91 = some 8 := by kernel_rfl
@[go_sem] theorem T.zero91 : HL.zeroT Tryz.prog 91 = some (.nilFunc) := by kernel_rfl
@[go_sem] theorem T.agg93 : HL.aggN Tryz.prog 93 = some none := by kernel_rfl
@[go_sem] theorem T.size93 : HL.sizeT Tryz.prog 93 = some 1 := by kernel_rfl
@[go_sem] theorem T.bytes93 : HL.bytesT Tryz.prog 93 = some 8 := by kernel_rfl
@[go_sem] theorem T.zero93 : HL.zeroT Tryz.prog 93 = some (.nilFunc) := by kernel_rfl
@[go_sem] theorem T.agg94 : HL.aggN Tryz.prog 94 = some none := by kernel_rfl
@[go_sem] theorem T.size94 : HL.sizeT Tryz.prog 94 = some 1 := by kernel_rfl
@[go_sem] theorem T.bytes94 : HL.bytesT Tryz.prog 94 = some 8 := by kernel_rfl
@[go_sem] theorem T.zero94 : HL.zeroT Tryz.prog 94 = some (.nilFunc) := by kernel_rfl
@[go_sem] theorem T.agg95 : HL.aggN Tryz.prog 95 = some none := by kernel_rfl
@[go_sem] theorem T.size95 : HL.sizeT Tryz.prog 95 = some 1 := by kernel_rfl
@[go_sem] theorem T.bytes95 : HL.bytesT Tryz.prog 95 = some 8 := by kernel_rfl
@[go_sem] theorem T.zero95 : HL.zeroT Tryz.prog 95 = some (.nilFunc) := by kernel_rfl
@[go_sem] theorem T.agg96 : HL.aggN Tryz.prog 96 = some none := by kernel_rfl
@[go_sem] theorem T.size96 : HL.sizeT Tryz.prog 96 = some 1 := by kernel_rfl
@[go_sem] theorem T.bytes96 : HL.bytesT Tryz.prog 96 = some 8 := by kernel_rfl
@[go_sem] theorem T.zero96 : HL.zeroT Tryz.prog 96 = some (.nilFunc) := by kernel_rfl
@[go_sem] theorem T.agg97 : HL.aggN Tryz.prog 97 = some none := by kernel_rfl
@[go_sem] theorem T.size97 : HL.sizeT Tryz.prog 97 = some 1 := by kernel_rfl
@[go_sem] theorem T.bytes97 : HL.bytesT Tryz.prog 97 = some 8 := by kernel_rfl
@[go_sem] theorem T.zero97 : HL.zeroT Tryz.prog 97 = some (.nilFunc) := by kernel_rfl
@[go_sem] theorem T.agg99 : HL.aggN Tryz.prog 99 = some none := by kernel_rfl
@[go_sem] theorem T.size99 : HL.sizeT Tryz.prog 99 = some 1 := by kernel_rfl
@[go_sem] theorem T.bytes99 : HL.bytesT Tryz.prog 99 = some 8 := by kernel_rfl
@[go_sem] theorem T.zero99 : HL.zeroT Tryz.prog 99 = some (.nilFunc) := by kernel_rfl
@[go_sem] theorem T.agg100 : HL.aggN Tryz.prog 100 = some none := by kernel_rfl
@[go_sem] theorem T.size100 : HL.sizeT Tryz.prog 100 = some 1 := by kernel_rfl
@[go_sem] theorem T.bytes100 : HL.bytesT Tryz.prog 100 = some 8 := by kernel_rfl
@[go_sem] theorem T.zero100 : HL.zeroT Tryz.prog 100 = some (.nilFunc) := by kernel_rfl
@[go_sem] theorem T.agg101 : HL.aggN Tryz.prog 101 = some none := by kernel_rfl
@[go_sem] theorem T.size101 : HL.sizeT Tryz.prog 101 = some 1 := by kernel_rfl
@[go_sem] theorem T.bytes101 : HL.bytesT Tryz.prog 101 = some 8 := by kernel_rfl
@[go_sem] theorem T.zero101 : HL.zeroT Tryz.prog 101 = some (.int .i64 0) := by kernel_rfl
@[go_sem] theorem T.agg103 : HL.aggN Tryz.prog 103 = some none := by kernel_rfl
@[go_sem] theorem T.size103 : HL.sizeT Tryz.prog 103 = some 1 := by kernel_rfl
@[go_sem] theorem T.bytes103 : HL.bytesT Tryz.prog 103 = some 8 := by kernel_rfl
@[go_sem] theorem T.zero103 : HL.zeroT Tryz.prog 103 = some (.nilFunc) := by kernel_rfl
@[go_sem] theorem T.agg104 : HL.aggN Tryz.prog 104 = some none := by kernel_rfl
@[go_sem] theorem T.size104 : HL.sizeT Tryz.prog 104 = some 1 := by kernel_rfl
@[go_sem] theorem T.bytes104 : HL.bytesT Tryz.prog 104 = some 8 := by kernel_rfl
@[go_sem] theorem T.zero104 : HL.zeroT Tryz.prog 104 = some (.nilFunc) := by kernel_rfl
@[go_sem] theorem T.agg105 : HL.aggN Tryz.prog 105 = some none := by kernel_rfl
@[go_sem] theorem T.size105 : HL.sizeT Tryz.prog 105 = some 1 := by kernel_rfl
@[go_sem] theorem T.bytes105 : HL.bytesT Tryz.prog 105 = some 8 := by kernel_rfl
@[go_sem] theorem T.zero105 : HL.zeroT Tryz.prog 105 = some (.nilFunc) := by kernel_rfl
@[go_sem] theorem T.agg106 : HL.aggN Tryz.prog 106 = some none := by kernel_rfl
@[go_sem] theorem T.size106 : HL.sizeT Tryz.prog 106 = some 1 := by kernel_rfl
@[go_sem] theorem T.bytes106 : HL.bytesT Tryz.prog 106 = some 8 := by kernel_rfl
@[go_sem] theorem T.zero106 : HL.zeroT Tryz.prog 106 = some (.nilFunc) := by kernel_rfl
@[go_sem] theorem T.agg107 : HL.aggN Tryz.prog 107 = some none := by kernel_rfl
@[go_sem] theorem T.size107 : HL.sizeT Tryz.prog 107 = some 1 := by kernel_rfl
@[go_sem] theorem T.bytes107 : HL.bytesT Tryz.prog 107 = some 8 := by kernel_rfl
@[go_sem] theorem T.zero107 : HL.zeroT Tryz.prog 107 = some (.nilFunc) := by kernel_rfl
@[go_sem] theorem T.agg108 : HL.aggN Tryz.prog 108 = some none := by kernel_rfl
@[go_sem] theorem T.size108 : HL.sizeT Tryz.prog 108 = some 1 := by kernel_rfl
@[go_sem] theorem T.bytes108 : HL.bytesT Tryz.prog 108 = some 4 := by kernel_rfl
@[go_sem] theorem T.zero108 : HL.zeroT Tryz.prog 108 = some (.int .u32 0) := by kernel_rfl
@[go_sem] theorem T.agg109 : HL.aggN Tryz.prog 109 = some none := by kernel_rfl
@[go_sem] theorem T.size109 : HL.sizeT Tryz.prog 109 = some 1 := by kernel_rfl
@[go_sem] theorem T.bytes109 : HL.bytesT Tryz.prog 109 = some 8 := by kernel_rfl
@[go_sem] theorem T.zero109 : HL.zeroT Tryz.prog 109 = some (.nilFunc) := by kernel_rfl
@[go_sem] theorem T.agg110 : HL.aggN Tryz.prog 110 = some none := by kernel_rfl
@[go_sem] theorem T.size110 : HL.sizeT Tryz.prog 110 = some 1 := by kernel_rfl
@[go_sem] theorem T.bytes110 : HL.bytesT Tryz.prog 110 = some 8 := by kernel_rfl
@[go_sem] theorem T.zero110 : HL.zeroT Tryz.prog 110 = some (.int .u64 0) := by kernel_rfl
@[go_sem] theorem T.agg111 : HL.aggN Tryz.prog 111 = some none := by kernel_rfl
@[go_sem] theorem T.size111 : HL.sizeT Tryz.prog 111 = some 1 := by kernel_rfl
@[go_sem] theorem T.bytes111 : HL.bytesT Tryz.prog 111 = some 8 := by kernel_rfl
@[go_sem] theorem T.zero111 : HL.zeroT Tryz.prog 111 = some (.nilFunc) := by kernel_rfl
@[go_sem] theorem T.agg112 : HL.aggN Tryz.prog 112 = some none := by kernel_rfl
@[go_sem] theorem T.size112 : HL.sizeT Tryz.prog 112 = some 1 := by kernel_rfl
@[go_sem] theorem T.bytes112 : HL.bytesT Tryz.prog 112 = some 8 := by kernel_rfl
@[go_sem] theorem T.zero112 : HL.zeroT Tryz.prog 112 = some (.nilFunc) := by kernel_rfl
@[go_sem] theorem T.agg113 : HL.aggN Tryz.prog 113 = some none := by kernel_rfl
@[go_sem] theorem T.size113 : HL.sizeT Tryz.prog 113 = some 1 := by kernel_rfl
@[go_sem] theorem T.bytes113 : HL.bytesT Tryz.prog 113 = some 8 := by kernel_rfl
@[go_sem] theorem T.zero113 : HL.zeroT Tryz.prog 113 = some (.nilFunc) := by kernel_rfl
@[go_sem] theorem T.agg114 : HL.aggN Tryz.prog 114 = some none := by kernel_rfl
@[go_sem] theorem T.size114 : HL.sizeT Tryz.prog 114 = some 1 := by kernel_rfl
@[go_sem] theorem T.bytes114 : HL.bytesT Tryz.prog 114 = some 8 := by kernel_rfl
@[go_sem] theorem T.zero114 : HL.zeroT Tryz.prog 114 = some (.nilFunc) := by kernel_rfl
@[go_sem] theorem T.agg115 : HL.aggN Tryz.prog 115 = some none := by kernel_rfl
@[go_sem] theorem T.size115 : HL.sizeT Tryz.prog 115 = some 1 := by kernel_rfl
@[go_sem] theorem T.bytes115 : HL.bytesT Tryz.prog 115 = some 8 := by kernel_rfl
@[go_sem] theorem T.zero115 : HL.zeroT Tryz.prog 115 = some (.int .u64 0) := by kernel_rfl
@[go_sem] theorem T.agg116 : HL.aggN Tryz.prog 116 = some none := by kernel_rfl
@[go_sem] theorem T.size116 : HL.sizeT Tryz.prog 116 = some 1 := by kernel_rfl
@[go_sem] theorem T.bytes116 : HL.bytesT Tryz.prog 116 = some 8 := by kernel_rfl
@[go_sem] theorem T.zero116 : HL.zeroT Tryz.prog 116 = some (.nilFunc) := by kernel_rfl
@[go_sem] theorem T.agg117 : HL.aggN Tryz.prog 117 = some none := by kernel_rfl
@[go_sem] theorem T.size117 : HL.sizeT Tryz.prog 117 = some 1 := by kernel_rfl
@[go_sem] theorem T.bytes117 : HL.bytesT Tryz.prog 117 = some 8 := by kernel_rfl
@[go_sem] theorem T.zero117 : HL.zeroT Tryz.prog 117 = some (.nilFunc) := by kernel_rfl
@[go_sem] theorem T.agg118 : HL.aggN Tryz.prog 118 = some none := by kernel_rfl
@[go_sem] theorem T.size118 : HL.sizeT Tryz.prog 118 = some 1 := by kernel_rfl
@[go_sem] theorem T.bytes118 : HL.bytesT Tryz.prog 118 = some 8 := by kernel_rfl
@[go_sem] theorem T.zero118 : HL.zeroT Tryz.prog 118 = some (.nilFunc) := by kernel_rfl
@[go_sem] theorem T.agg119 : HL.aggN Tryz.prog 119 = some none := by kernel_rfl
@[go_sem] theorem T.size119 : HL.sizeT Tryz.prog 119 = some 1 := by kernel_rfl
@[go_sem] theorem T.bytes119 : HL.bytesT Tryz.prog 119 = some 8 := by kernel_rfl
@[go_sem] theorem T.zero119 : HL.zeroT Tryz.prog 119 = some (.pointer none) := by kernel_rfl
@[go_sem] theorem T.agg120 : HL.aggN Tryz.prog 120 = some none := by kernel_rfl
@[go_sem] theorem T.size120 : HL.sizeT Tryz.prog 120 = some 1 := by kernel_rfl
@[go_sem] theorem T.bytes120 : HL.bytesT Tryz.prog 120 = some 8 := by kernel_rfl
@[go_sem] theorem T.zero120 : HL.zeroT Tryz.prog 120 = some (.nilFunc) := by kernel_rfl
@[go_sem] theorem T.agg121 : HL.aggN Tryz.prog 121 = some none := by kernel_rfl
@[go_sem] theorem T.size121 : HL.sizeT Tryz.prog 121 = some 1 := by kernel_rfl
@[go_sem] theorem T.bytes121 : HL.bytesT Tryz.prog 121 = some 8 := by kernel_rfl
@[go_sem] theorem T.zero121 : HL.zeroT Tryz.prog 121 = some (.nilFunc) := by kernel_rfl
@[go_sem] theorem T.agg122 : HL.aggN Tryz.prog 122 = some none := by kernel_rfl
@[go_sem] theorem T.size122 : HL.sizeT Tryz.prog 122 = some 1 := by kernel_rfl
@[go_sem] theorem T.bytes122 : HL.bytesT Tryz.prog 122 = some 8 := by kernel_rfl
@[go_sem] theorem T.zero122 : HL.zeroT Tryz.prog 122 = some (.nilFunc) := by kernel_rfl
@[go_sem] theorem T.agg123 : HL.aggN Tryz.prog 123 = some none := by kernel_rfl
@[go_sem] theorem T.size123 : HL.sizeT Tryz.prog 123 = some 1 := by kernel_rfl
@[go_sem] theorem T.bytes123 : HL.bytesT Tryz.prog 123 = some 8 := by kernel_rfl
@[go_sem] theorem T.zero123 : HL.zeroT Tryz.prog 123 = some (.nilFunc) := by kernel_rfl
@[go_sem] theorem T.agg124 : HL.aggN Tryz.prog 124 = some none := by kernel_rfl
@[go_sem] theorem T.size124 : HL.sizeT Tryz.prog 124 = some 1 := by kernel_rfl
@[go_sem] theorem T.bytes124 : HL.bytesT Tryz.prog 124 = some 8 := by kernel_rfl
@[go_sem] theorem T.zero124 : HL.zeroT Tryz.prog 124 = some (.pointer none) := by kernel_rfl
@[go_sem] theorem T.agg126 : HL.aggN Tryz.prog 126 = some none := by kernel_rfl
@[go_sem] theorem T.size126 : HL.sizeT Tryz.prog 126 = some 1 := by kernel_rfl
@[go_sem] theorem T.bytes126 : HL.bytesT Tryz.prog 126 = some 8 := by kernel_rfl
@[go_sem] theorem T.zero126 : HL.zeroT Tryz.prog 126 = some (.nilFunc) := by kernel_rfl
@[go_sem] theorem T.agg127 : HL.aggN Tryz.prog 127 = some none := by kernel_rfl
@[go_sem] theorem T.size127 : HL.sizeT Tryz.prog 127 = some 1 := by kernel_rfl
@[go_sem] theorem T.bytes127 : HL.bytesT Tryz.prog 127 = some 8 := by kernel_rfl
@[go_sem] theorem T.zero127 : HL.zeroT Tryz.prog 127 = some (.nilFunc) := by kernel_rfl
@[go_sem] theorem T.agg128 : HL.aggN Tryz.prog 128 = some (some 4) := by kernel_rfl
@[go_sem] theorem T.size128 : HL.sizeT Tryz.prog 128 = some 4 := by kernel_rfl
@[go_sem] theorem T.bytes128 : HL.bytesT Tryz.prog 128 = some 40 := by kernel_rfl
@[go_sem] theorem T.zero128 : HL.zeroT Tryz.prog 128 = some (.agg #[.pointer none, .pointer none, .pointer none, .string ⟨#[]⟩]) := by kernel_rfl
@[go_sem] theorem T.places128 : HL.placesT Tryz.prog 128 = some [(0, 1), (1, 1), (2, 1), (3, 1)] := by kernel_rfl
@[go_sem] theorem T.field128_0 : HL.fieldT Tryz.prog 128 0 = some (0, 17) := by kernel_rfl
@[go_sem] theorem T.fieldO128_0 : HL.fieldO Tryz.prog 128 0 = some 0 := by kernel_rfl
@[go_sem] theorem T.field128_1 : HL.fieldT Tryz.prog 128 1 = some (1, 17) := by kernel_rfl
@[go_sem] theorem T.fieldO128_1 : HL.fieldO Tryz.prog 128 1 = some 1 := by kernel_rfl
@[go_sem] theorem T.field128_2 : HL.fieldT Tryz.prog 128 2 = some (2, 17) := by kernel_rfl
@[go_sem] theorem T.fieldO128_2 : HL.fieldO Tryz.prog 128 2 = some 2 := by kernel_rfl
@[go_sem] theorem T.field128_3 : HL.fieldT Tryz.prog 128 3 = some (3, 9) := by kernel_rfl
@[go_sem] theorem T.fieldO128_3 : HL.fieldO Tryz.prog 128 3 = some 3 := by kernel_rfl
@[go_sem] theorem T.agg129 : HL.aggN Tryz.prog 129 = some (some 4) := by kernel_rfl
@[go_sem] theorem T.size129 : HL.sizeT Tryz.prog 129 = some 4 := by kernel_rfl
@[go_sem] theorem T.bytes129 : HL.bytesT Tryz.prog 129 = some 40 := by kernel_rfl
@[go_sem] theorem T.zero129 : HL.zeroT Tryz.prog 129 = some (.agg #[.pointer none, .pointer none, .pointer none, .string ⟨#[]⟩]) := by kernel_rfl
@[go_sem] theorem T.places129 : HL.placesT Tryz.prog 129 = some [(0, 1), (1, 1), (2, 1), (3, 1)] := by kernel_rfl
@[go_sem] theorem T.field129_0 : HL.fieldT Tryz.prog 129 0 = some (0, 17) := by kernel_rfl
@[go_sem] theorem T.fieldO129_0 : HL.fieldO Tryz.prog 129 0 = some 0 := by kernel_rfl
@[go_sem] theorem T.field129_1 : HL.fieldT Tryz.prog 129 1 = some (1, 17) := by kernel_rfl
@[go_sem] theorem T.fieldO129_1 : HL.fieldO Tryz.prog 129 1 = some 1 := by kernel_rfl
@[go_sem] theorem T.field129_2 : HL.fieldT Tryz.prog 129 2 = some (2, 17) := by kernel_rfl
@[go_sem] theorem T.fieldO129_2 : HL.fieldO Tryz.prog 129 2 = some 2 := by kernel_rfl
@[go_sem] theorem T.field129_3 : HL.fieldT Tryz.prog 129 3 = some (3, 9) := by kernel_rfl
@[go_sem] theorem T.fieldO129_3 : HL.fieldO Tryz.prog 129 3 = some 3 := by kernel_rfl
@[go_sem] theorem T.agg130 : HL.aggN Tryz.prog 130 = some (some 0) := by kernel_rfl
@[go_sem] theorem T.size130 : HL.sizeT Tryz.prog 130 = some 0 := by kernel_rfl
@[go_sem] theorem T.bytes130 : HL.bytesT Tryz.prog 130 = some 0 := by kernel_rfl
@[go_sem] theorem T.zero130 : HL.zeroT Tryz.prog 130 = some (.agg #[]) := by kernel_rfl
@[go_sem] theorem T.places130 : HL.placesT Tryz.prog 130 = none := by kernel_rfl
@[go_sem] theorem T.arr130 : HL.arrT Tryz.prog 130 = some (0, 16) := by kernel_rfl
@[go_sem] theorem T.arrS130 : HL.arrS Tryz.prog 130 = some (0, 1) := by kernel_rfl
@[go_sem] theorem T.agg131 : HL.aggN Tryz.prog 131 = some (some 0) := by kernel_rfl
@[go_sem] theorem T.size131 : HL.sizeT Tryz.prog 131 = some 0 := by kernel_rfl
@[go_sem] theorem T.bytes131 : HL.bytesT Tryz.prog 131 = some 0 := by kernel_rfl
@[go_sem] theorem T.zero131 : HL.zeroT Tryz.prog 131 = some (.agg #[]) := by kernel_rfl
@[go_sem] theorem T.places131 : HL.placesT Tryz.prog 131 = some [(0, 0)] := by kernel_rfl
@[go_sem] theorem T.field131_0 : HL.fieldT Tryz.prog 131 0 = some (0, 130) := by kernel_rfl
@[go_sem] theorem T.agg132 : HL.aggN Tryz.prog 132 = some (some 0) := by kernel_rfl
@[go_sem] theorem T.size132 : HL.sizeT Tryz.prog 132 = some 0 := by kernel_rfl
@[go_sem] theorem T.bytes132 : HL.bytesT Tryz.prog 132 = some 0 := by kernel_rfl
@[go_sem] theorem T.zero132 : HL.zeroT Tryz.prog 132 = some (.agg #[]) := by kernel_rfl
@[go_sem] theorem T.places132 : HL.placesT Tryz.prog 132 = some [(0, 0)] := by kernel_rfl
@[go_sem] theorem T.field132_0 : HL.fieldT Tryz.prog 132 0 = some (0, 130) := by kernel_rfl
@[go_sem] theorem T.agg133 : HL.aggN Tryz.prog 133 = some none := by kernel_rfl
@[go_sem] theorem T.size133 : HL.sizeT Tryz.prog 133 = some 1 := by kernel_rfl
@[go_sem] theorem T.bytes133 : HL.bytesT Tryz.prog 133 = some 8 := by kernel_rfl
@[go_sem] theorem T.zero133 : HL.zeroT Tryz.prog 133 = some (.nilFunc) := by kernel_rfl
@[go_sem] theorem T.agg134 : HL.aggN Tryz.prog 134 = some none := by kernel_rfl
@[go_sem] theorem T.size134 : HL.sizeT Tryz.prog 134 = some 1 := by kernel_rfl
@[go_sem] theorem T.bytes134 : HL.bytesT Tryz.prog 134 = some 1 := by kernel_rfl
@[go_sem] theorem T.zero134 : HL.zeroT Tryz.prog 134 = some (.int .u8 0) := by kernel_rfl
@[go_sem] theorem T.agg135 : HL.aggN Tryz.prog 135 = some none := by kernel_rfl
@[go_sem] theorem T.size135 : HL.sizeT Tryz.prog 135 = some 1 := by kernel_rfl
@[go_sem] theorem T.bytes135 : HL.bytesT Tryz.prog 135 = some 1 := by kernel_rfl
@[go_sem] theorem T.zero135 : HL.zeroT Tryz.prog 135 = some (.int .u8 0) := by kernel_rfl
@[go_sem] theorem T.agg136 : HL.aggN Tryz.prog 136 = some none := by kernel_rfl
@[go_sem] theorem T.size136 : HL.sizeT Tryz.prog 136 = some 1 := by kernel_rfl
@[go_sem] theorem T.bytes136 : HL.bytesT Tryz.prog 136 = some 8 := by kernel_rfl
@[go_sem] theorem T.zero136 : HL.zeroT Tryz.prog 136 = some (.nilFunc) := by kernel_rfl
@[go_sem] theorem T.agg137 : HL.aggN Tryz.prog 137 = some none := by kernel_rfl
@[go_sem] theorem T.size137 : HL.sizeT Tryz.prog 137 = some 1 := by kernel_rfl
@[go_sem] theorem T.bytes137 : HL.bytesT Tryz.prog 137 = some 8 := by kernel_rfl
@[go_sem] theorem T.zero137 : HL.zeroT Tryz.prog 137 = some (.pointer none) := by kernel_rfl
@[go_sem] theorem T.agg138 : HL.aggN Tryz.prog 138 = some none := by kernel_rfl
@[go_sem] theorem T.size138 : HL.sizeT Tryz.prog 138 = some 1 := by kernel_rfl
@[go_sem] theorem T.bytes138 : HL.bytesT Tryz.prog 138 = some 4 := by kernel_rfl
@[go_sem] theorem T.zero138 : HL.zeroT Tryz.prog 138 = some (.int .i32 0) := by kernel_rfl
@[go_sem] theorem T.agg139 : HL.aggN Tryz.prog 139 = some none := by kernel_rfl
@[go_sem] theorem T.size139 : HL.sizeT Tryz.prog 139 = some 1 := by kernel_rfl
@[go_sem] theorem T.bytes139 : HL.bytesT Tryz.prog 139 = some 4 := by kernel_rfl
@[go_sem] theorem T.zero139 : HL.zeroT Tryz.prog 139 = some (.int .i32 0) := by kernel_rfl
@[go_sem] theorem T.agg140 : HL.aggN Tryz.prog 140 = some (some 11) := by kernel_rfl
@[go_sem] theorem T.size140 : HL.sizeT Tryz.prog 140 = some 11 := by kernel_rfl
@[go_sem] theorem T.bytes140 : HL.bytesT Tryz.prog 140 = some 48 := by kernel_rfl
@[go_sem] theorem T.zero140 : HL.zeroT Tryz.prog 140 = some (.agg #[.int .u64 0, .int .u64 0, .int .u32 0, .int .u8 0, .int .u8 0, .int .u8 0, .int .u8 0, .nilFunc, .pointer none, .int .i32 0, .int .i32 0]) := by kernel_rfl
@[go_sem] theorem T.places140 : HL.placesT Tryz.prog 140 = some [(0, 1), (1, 1), (2, 1), (3, 1), (4, 1), (5, 1), (6, 1), (7, 1), (8, 1), (9, 1), (10, 1)] := by kernel_rfl
@[go_sem] theorem T.field140_0 : HL.fieldT Tryz.prog 140 0 = some (0, 12) := by kernel_rfl
@[go_sem] theorem T.fieldO140_0 : HL.fieldO Tryz.prog 140 0 = some 0 := by kernel_rfl
@[go_sem] theorem T.field140_1 : HL.fieldT Tryz.prog 140 1 = some (1, 12) := by kernel_rfl
@[go_sem] theorem T.fieldO140_1 : HL.fieldO Tryz.prog 140 1 = some 1 := by kernel_rfl
@[go_sem] theorem T.field140_2 : HL.fieldT Tryz.prog 140 2 = some (2, 108) := by kernel_rfl
@[go_sem] theorem T.fieldO140_2 : HL.fieldO Tryz.prog 140 2 = some 2 := by kernel_rfl
@[go_sem] theorem T.field140_3 : HL.fieldT Tryz.prog 140 3 = some (3, 134) := by kernel_rfl
@[go_sem] theorem T.fieldO140_3 : HL.fieldO Tryz.prog 140 3 = some 3 := by kernel_rfl
@[go_sem] theorem T.field140_4 : HL.fieldT Tryz.prog 140 4 = some (4, 5) := by kernel_rfl
@[go_sem] theorem T.fieldO140_4 : HL.fieldO Tryz.prog 140 4 = some 4 := by kernel_rfl
@[go_sem] theorem T.field140_5 : HL.fieldT Tryz.prog 140 5 = some (5, 5) := by kernel_rfl
@[go_sem] theorem T.fieldO140_5 : HL.fieldO Tryz.prog 140 5 = some 5 := by kernel_rfl
@[go_sem] theorem T.field140_6 : HL.fieldT Tryz.prog 140 6 = some (6, 135) := by kernel_rfl
@[go_sem] theorem T.fieldO140_6 : HL.fieldO Tryz.prog 140 6 = some 6 := by kernel_rfl
@[go_sem] theorem T.field140_7 : HL.fieldT Tryz.prog 140 7 = some (7, 136) := by kernel_rfl
@[go_sem] theorem T.fieldO140_7 : HL.fieldO Tryz.prog 140 7 = some 7 := by kernel_rfl
@[go_sem] theorem T.field140_8 : HL.fieldT Tryz.prog 140 8 = some (8, 137) := by kernel_rfl
@[go_sem] theorem T.fieldO140_8 : HL.fieldO Tryz.prog 140 8 = some 8 := by kernel_rfl
@[go_sem] theorem T.field140_9 : HL.fieldT Tryz.prog 140 9 = some (9, 138) := by kernel_rfl
@[go_sem] theorem T.fieldO140_9 : HL.fieldO Tryz.prog 140 9 = some 9 := by kernel_rfl
@[go_sem] theorem T.field140_10 : HL.fieldT Tryz.prog 140 10 = some (10, 139) := by kernel_rfl
@[go_sem] theorem T.fieldO140_10 : HL.fieldO Tryz.prog 140 10 = some 10 := by kernel_rfl
@[go_sem] theorem T.agg141 : HL.aggN Tryz.prog 141 = some (some 11) := by kernel_rfl
@[go_sem] theorem T.size141 : HL.sizeT Tryz.prog 141 = some 11 := by kernel_rfl
@[go_sem] theorem T.bytes141 : HL.bytesT Tryz.prog 141 = some 48 := by kernel_rfl
@[go_sem] theorem T.zero141 : HL.zeroT Tryz.prog 141 = some (.agg #[.int .u64 0, .int .u64 0, .int .u32 0, .int .u8 0, .int .u8 0, .int .u8 0, .int .u8 0, .nilFunc, .pointer none, .int .i32 0, .int .i32 0]) := by kernel_rfl
@[go_sem] theorem T.places141 : HL.placesT Tryz.prog 141 = some [(0, 1), (1, 1), (2, 1), (3, 1), (4, 1), (5, 1), (6, 1), (7, 1), (8, 1), (9, 1), (10, 1)] := by kernel_rfl
@[go_sem] theorem T.field141_0 : HL.fieldT Tryz.prog 141 0 = some (0, 12) := by kernel_rfl
@[go_sem] theorem T.fieldO141_0 : HL.fieldO Tryz.prog 141 0 = some 0 := by kernel_rfl
@[go_sem] theorem T.field141_1 : HL.fieldT Tryz.prog 141 1 = some (1, 12) := by kernel_rfl
@[go_sem] theorem T.fieldO141_1 : HL.fieldO Tryz.prog 141 1 = some 1 := by kernel_rfl
@[go_sem] theorem T.field141_2 : HL.fieldT Tryz.prog 141 2 = some (2, 108) := by kernel_rfl
@[go_sem] theorem T.fieldO141_2 : HL.fieldO Tryz.prog 141 2 = some 2 := by kernel_rfl
@[go_sem] theorem T.field141_3 : HL.fieldT Tryz.prog 141 3 = some (3, 134) := by kernel_rfl
@[go_sem] theorem T.fieldO141_3 : HL.fieldO Tryz.prog 141 3 = some 3 := by kernel_rfl
@[go_sem] theorem T.field141_4 : HL.fieldT Tryz.prog 141 4 = some (4, 5) := by kernel_rfl
@[go_sem] theorem T.fieldO141_4 : HL.fieldO Tryz.prog 141 4 = some 4 := by kernel_rfl
@[go_sem] theorem T.field141_5 : HL.fieldT Tryz.prog 141 5 = some (5, 5) := by kernel_rfl
@[go_sem] theorem T.fieldO141_5 : HL.fieldO Tryz.prog 141 5 = some 5 := by kernel_rfl
@[go_sem] theorem T.field141_6 : HL.fieldT Tryz.prog 141 6 = some (6, 135) := by kernel_rfl
@[go_sem] theorem T.fieldO141_6 : HL.fieldO Tryz.prog 141 6 = some 6 := by kernel_rfl
@[go_sem] theorem T.field141_7 : HL.fieldT Tryz.prog 141 7 = some (7, 136) := by kernel_rfl
@[go_sem] theorem T.fieldO141_7 : HL.fieldO Tryz.prog 141 7 = some 7 := by kernel_rfl
@[go_sem] theorem T.field141_8 : HL.fieldT Tryz.prog 141 8 = some (8, 137) := by kernel_rfl
@[go_sem] theorem T.fieldO141_8 : HL.fieldO Tryz.prog 141 8 = some 8 := by kernel_rfl
@[go_sem] theorem T.field141_9 : HL.fieldT Tryz.prog 141 9 = some (9, 138) := by kernel_rfl
@[go_sem] theorem T.fieldO141_9 : HL.fieldO Tryz.prog 141 9 = some 9 := by kernel_rfl
@[go_sem] theorem T.field141_10 : HL.fieldT Tryz.prog 141 10 = some (10, 139) := by kernel_rfl
@[go_sem] theorem T.fieldO141_10 : HL.fieldO Tryz.prog 141 10 = some 10 := by kernel_rfl
@[go_sem] theorem T.agg142 : HL.aggN Tryz.prog 142 = some none := by kernel_rfl
@[go_sem] theorem T.size142 : HL.sizeT Tryz.prog 142 = some 1 := by kernel_rfl
@[go_sem] theorem T.bytes142 : HL.bytesT Tryz.prog 142 = some 8 := by kernel_rfl
@[go_sem] theorem T.zero142 : HL.zeroT Tryz.prog 142 = some (.pointer none) := by kernel_rfl
theorem T.el22 : HL.ElT Tryz.prog 22 4 1 1 (.bool false) := ⟨T.elem22, T.size4, T.bytes4, T.zero4⟩
@[go_sem] theorem T.bs22_1 {H : HL.Heap} {n0 : Bool} : HL.buildSliceV Tryz.prog H 22 1 [(0, .bool n0)] = some (.slice (some ⟨H.size, 0, none⟩) 1 1, H.push (.cells #[.bool n0] 4)) := HL.bs_one T.elem22 T.size4 T.zero4 rfl
@[go_sem] theorem T.bs22_2 {H : HL.Heap} {n0 : Bool} {n1 : Bool} : HL.buildSliceV Tryz.prog H 22 2 [(0, .bool n0), (1, .bool n1)] = some (.slice (some ⟨H.size, 0, none⟩) 2 2, H.push (.cells #[.bool n0, .bool n1] 4)) := HL.bs_two T.elem22 T.size4 T.zero4 rfl rfl
@[go_sem] theorem T.bs22_3 {H : HL.Heap} {n0 : Bool} {n1 : Bool} {n2 : Bool} : HL.buildSliceV Tryz.prog H 22 3 [(0, .bool n0), (1, .bool n1), (2, .bool n2)] = some (.slice (some ⟨H.size, 0, none⟩) 3 3, H.push (.cells #[.bool n0, .bool n1, .bool n2] 4)) := HL.bs_three T.elem22 T.size4 T.zero4 rfl rfl rfl
@[go_sem] theorem T.bs22_4 {H : HL.Heap} {n0 : Bool} {n1 : Bool} {n2 : Bool} {n3 : Bool} : HL.buildSliceV Tryz.prog H 22 4 [(0, .bool n0), (1, .bool n1), (2, .bool n2), (3, .bool n3)] = some (.slice (some ⟨H.size, 0, none⟩) 4 4, H.push (.cells #[.bool n0, .bool n1, .bool n2, .bool n3] 4)) := HL.bs_four T.elem22 T.size4 T.zero4 rfl rfl rfl rfl
@[go_sem] theorem T.bs22_0 {H : HL.Heap} : HL.buildSliceV Tryz.prog H 22 0 [] = some (.slice (some ⟨H.size, 0, none⟩) 0 0, H.push (.cells #[] 4)) := HL.bs_zero T.elem22 T.size4 T.zero4
theorem T.el30 : HL.ElT Tryz.prog 30 3 1 8 (.int .i64 0) := ⟨T.elem30, T.size3, T.bytes3, T.zero3⟩
@[go_sem] theorem T.bs30_1 {H : HL.Heap} {k0 : IntKind} {n0 : Int} : HL.buildSliceV Tryz.prog H 30 1 [(0, .int k0 n0)] = some (.slice (some ⟨H.size, 0, none⟩) 1 1, H.push (.cells #[.int k0 n0] 3)) := HL.bs_one T.elem30 T.size3 T.zero3 rfl
@[go_sem] theorem T.bs30_2 {H : HL.Heap} {k0 : IntKind} {n0 : Int} {k1 : IntKind} {n1 : Int} : HL.buildSliceV Tryz.prog H 30 2 [(0, .int k0 n0), (1, .int k1 n1)] = some (.slice (some ⟨H.size, 0, none⟩) 2 2, H.push (.cells #[.int k0 n0, .int k1 n1] 3)) := HL.bs_two T.elem30 T.size3 T.zero3 rfl rfl
@[go_sem] theorem T.bs30_3 {H : HL.Heap} {k0 : IntKind} {n0 : Int} {k1 : IntKind} {n1 : Int} {k2 : IntKind} {n2 : Int} : HL.buildSliceV Tryz.prog H 30 3 [(0, .int k0 n0), (1, .int k1 n1), (2, .int k2 n2)] = some (.slice (some ⟨H.size, 0, none⟩) 3 3, H.push (.cells #[.int k0 n0, .int k1 n1, .int k2 n2] 3)) := HL.bs_three T.elem30 T.size3 T.zero3 rfl rfl rfl
@[go_sem] theorem T.bs30_4 {H : HL.Heap} {k0 : IntKind} {n0 : Int} {k1 : IntKind} {n1 : Int} {k2 : IntKind} {n2 : Int} {k3 : IntKind} {n3 : Int} : HL.buildSliceV Tryz.prog H 30 4 [(0, .int k0 n0), (1, .int k1 n1), (2, .int k2 n2), (3, .int k3 n3)] = some (.slice (some ⟨H.size, 0, none⟩) 4 4, H.push (.cells #[.int k0 n0, .int k1 n1, .int k2 n2, .int k3 n3] 3)) := HL.bs_four T.elem30 T.size3 T.zero3 rfl rfl rfl rfl
@[go_sem] theorem T.bs30_0 {H : HL.Heap} : HL.buildSliceV Tryz.prog H 30 0 [] = some (.slice (some ⟨H.size, 0, none⟩) 0 0, H.push (.cells #[] 3)) := HL.bs_zero T.elem30 T.size3 T.zero3
theorem T.el33 : HL.ElT Tryz.prog 33 30 1 24 (.slice none 0 0) := ⟨T.elem33, T.size30, T.bytes30, T.zero30⟩
@[go_sem] theorem T.bs33_1 {H : HL.Heap} {a0 : Option Addr} {l0 c0 : Nat} : HL.buildSliceV Tryz.prog H 33 1 [(0, .slice a0 l0 c0)] = some (.slice (some ⟨H.size, 0, none⟩) 1 1, H.push (.cells #[.slice a0 l0 c0] 30)) := HL.bs_one T.elem33 T.size30 T.zero30 rfl
@[go_sem] theorem T.bs33_2 {H : HL.Heap} {a0 : Option Addr} {l0 c0 : Nat} {a1 : Option Addr} {l1 c1 : Nat} : HL.buildSliceV Tryz.prog H 33 2 [(0, .slice a0 l0 c0), (1, .slice a1 l1 c1)] = some (.slice (some ⟨H.size, 0, none⟩) 2 2, H.push (.cells #[.slice a0 l0 c0, .slice a1 l1 c1] 30)) := HL.bs_two T.elem33 T.size30 T.zero30 rfl rfl
@[go_sem] theorem T.bs33_3 {H : HL.Heap} {a0 : Option Addr} {l0 c0 : Nat} {a1 : Option Addr} {l1 c1 : Nat} {a2 : Option Addr} {l2 c2 : Nat} : HL.buildSliceV Tryz.prog H 33 3 [(0, .slice a0 l0 c0), (1, .slice a1 l1 c1), (2, .slice a2 l2 c2)] = some (.slice (some ⟨H.size, 0, none⟩) 3 3, H.push (.cells #[.slice a0 l0 c0, .slice a1 l1 c1, .slice a2 l2 c2] 30)) := HL.bs_three T.elem33 T.size30 T.zero30 rfl rfl rfl
@[go_sem] theorem T.bs33_4 {H : HL.Heap} {a0 : Option Addr} {l0 c0 : Nat} {a1 : Option Addr} {l1 c1 : Nat} {a2 : Option Addr} {l2 c2 : Nat} {a3 : Option Addr} {l3 c3 : Nat} : HL.buildSliceV Tryz.prog H 33 4 [(0, .slice a0 l0 c0), (1, .slice a1 l1 c1), (2, .slice a2 l2 c2), (3, .slice a3 l3 c3)] = some (.slice (some ⟨H.size, 0, none⟩) 4 4, H.push (.cells #[.slice a0 l0 c0, .slice a1 l1 c1, .slice a2 l2 c2, .slice a3 l3 c3] 30)) := HL.bs_four T.elem33 T.size30 T.zero30 rfl rfl rfl rfl
@[go_sem] theorem T.bs33_0 {H : HL.Heap} : HL.buildSliceV Tryz.prog H 33 0 [] = some (.slice (some ⟨H.size, 0, none⟩) 0 0, H.push (.cells #[] 30)) := HL.bs_zero T.elem33 T.size30 T.zero30
theorem T.el39 : HL.ElT Tryz.prog 39 42 2 32 (.agg #[.bool false, .slice none 0 0]) := ⟨T.elem39, T.size42, T.bytes42, T.zero42⟩
@[go_sem] theorem T.bs39_0 {H : HL.Heap} : HL.buildSliceV Tryz.prog H 39 0 [] = some (.slice (some ⟨H.size, 0, none⟩) 0 0, H.push (.cells #[] 42)) := HL.bs_zero T.elem39 T.size42 T.zero42
theorem T.el46 : HL.ElT Tryz.prog 46 48 1 24 (.slice none 0 0) := ⟨T.elem46, T.size48, T.bytes48, T.zero48⟩
@[go_sem] theorem T.bs46_1 {H : HL.Heap} {a0 : Option Addr} {l0 c0 : Nat} : HL.buildSliceV Tryz.prog H 46 1 [(0, .slice a0 l0 c0)] = some (.slice (some ⟨H.size, 0, none⟩) 1 1, H.push (.cells #[.slice a0 l0 c0] 48)) := HL.bs_one T.elem46 T.size48 T.zero48 rfl
@[go_sem] theorem T.bs46_2 {H : HL.Heap} {a0 : Option Addr} {l0 c0 : Nat} {a1 : Option Addr} {l1 c1 : Nat} : HL.buildSliceV Tryz.prog H 46 2 [(0, .slice a0 l0 c0), (1, .slice a1 l1 c1)] = some (.slice (some ⟨H.size, 0, none⟩) 2 2, H.push (.cells #[.slice a0 l0 c0, .slice a1 l1 c1] 48)) := HL.bs_two T.elem46 T.size48 T.zero48 rfl rfl
@[go_sem] theorem T.bs46_3 {H : HL.Heap} {a0 : Option Addr} {l0 c0 : Nat} {a1 : Option Addr} {l1 c1 : Nat} {a2 : Option Addr} {l2 c2 : Nat} : HL.buildSliceV Tryz.prog H 46 3 [(0, .slice a0 l0 c0), (1, .slice a1 l1 c1), (2, .slice a2 l2 c2)] = some (.slice (some ⟨H.size, 0, none⟩) 3 3, H.push (.cells #[.slice a0 l0 c0, .slice a1 l1 c1, .slice a2 l2 c2] 48)) := HL.bs_three T.elem46 T.size48 T.zero48 rfl rfl rfl
@[go_sem] theorem T.bs46_4 {H : HL.Heap} {a0 : Option Addr} {l0 c0 : Nat} {a1 : Option Addr} {l1 c1 : Nat} {a2 : Option Addr} {l2 c2 : Nat} {a3 : Option Addr} {l3 c3 : Nat} : HL.buildSliceV Tryz.prog H 46 4 [(0, .slice a0 l0 c0), (1, .slice a1 l1 c1), (2, .slice a2 l2 c2), (3, .slice a3 l3 c3)] = some (.slice (some ⟨H.size, 0, none⟩) 4 4, H.push (.cells #[.slice a0 l0 c0, .slice a1 l1 c1, .slice a2 l2 c2, .slice a3 l3 c3] 48)) := HL.bs_four T.elem46 T.size48 T.zero48 rfl rfl rfl rfl
@[go_sem] theorem T.bs46_0 {H : HL.Heap} : HL.buildSliceV Tryz.prog H 46 0 [] = some (.slice (some ⟨H.size, 0, none⟩) 0 0, H.push (.cells #[] 48)) := HL.bs_zero T.elem46 T.size48 T.zero48
theorem T.el47 : HL.ElT Tryz.prog 47 86 1 1 (.int .i8 0) := ⟨T.elem47, T.size86, T.bytes86, T.zero86⟩
@[go_sem] theorem T.bs47_1 {H : HL.Heap} {k0 : IntKind} {n0 : Int} : HL.buildSliceV Tryz.prog H 47 1 [(0, .int k0 n0)] = some (.slice (some ⟨H.size, 0, none⟩) 1 1, H.push (.cells #[.int k0 n0] 86)) := HL.bs_one T.elem47 T.size86 T.zero86 rfl
@[go_sem] theorem T.bs47_2 {H : HL.Heap} {k0 : IntKind} {n0 : Int} {k1 : IntKind} {n1 : Int} : HL.buildSliceV Tryz.prog H 47 2 [(0, .int k0 n0), (1, .int k1 n1)] = some (.slice (some ⟨H.size, 0, none⟩) 2 2, H.push (.cells #[.int k0 n0, .int k1 n1] 86)) := HL.bs_two T.elem47 T.size86 T.zero86 rfl rfl
@[go_sem] theorem T.bs47_3 {H : HL.Heap} {k0 : IntKind} {n0 : Int} {k1 : IntKind} {n1 : Int} {k2 : IntKind} {n2 : Int} : HL.buildSliceV Tryz.prog H 47 3 [(0, .int k0 n0), (1, .int k1 n1), (2, .int k2 n2)] = some (.slice (some ⟨H.size, 0, none⟩) 3 3, H.push (.cells #[.int k0 n0, .int k1 n1, .int k2 n2] 86)) := HL.bs_three T.elem47 T.size86 T.zero86 rfl rfl rfl
@[go_sem] theorem T.bs47_4 {H : HL.Heap} {k0 : IntKind} {n0 : Int} {k1 : IntKind} {n1 : Int} {k2 : IntKind} {n2 : Int} {k3 : IntKind} {n3 : Int} : HL.buildSliceV Tryz.prog H 47 4 [(0, .int k0 n0), (1, .int k1 n1), (2, .int k2 n2), (3, .int k3 n3)] = some (.slice (some ⟨H.size, 0, none⟩) 4 4, H.push (.cells #[.int k0 n0, .int k1 n1, .int k2 n2, .int k3 n3] 86)) := HL.bs_four T.elem47 T.size86 T.zero86 rfl rfl rfl rfl
@[go_sem] theorem T.bs47_0 {H : HL.Heap} : HL.buildSliceV Tryz.prog H 47 0 [] = some (.slice (some ⟨H.size, 0, none⟩) 0 0, H.push (.cells #[] 86)) := HL.bs_zero T.elem47 T.size86 T.zero86
theorem T.el48 : HL.ElT Tryz.prog 48 75 1 8 (.pointer none) := ⟨T.elem48, T.size75, T.bytes75, T.zero75⟩
@[go_sem] theorem T.bs48_1 {H : HL.Heap} {a0 : Option Addr} : HL.buildSliceV Tryz.prog H 48 1 [(0, .pointer a0)] = some (.slice (some ⟨H.size, 0, none⟩) 1 1, H.push (.cells #[.pointer a0] 75)) := HL.bs_one T.elem48 T.size75 T.zero75 rfl
@[go_sem] theorem T.bs48_2 {H : HL.Heap} {a0 : Option Addr} {a1 : Option Addr} : HL.buildSliceV Tryz.prog H 48 2 [(0, .pointer a0), (1, .pointer a1)] = some (.slice (some ⟨H.size, 0, none⟩) 2 2, H.push (.cells #[.pointer a0, .pointer a1] 75)) := HL.bs_two T.elem48 T.size75 T.zero75 rfl rfl
@[go_sem] theorem T.bs48_3 {H : HL.Heap} {a0 : Option Addr} {a1 : Option Addr} {a2 : Option Addr} : HL.buildSliceV Tryz.prog H 48 3 [(0, .pointer a0), (1, .pointer a1), (2, .pointer a2)] = some (.slice (some ⟨H.size, 0, none⟩) 3 3, H.push (.cells #[.pointer a0, .pointer a1, .pointer a2] 75)) := HL.bs_three T.elem48 T.size75 T.zero75 rfl rfl rfl
@[go_sem] theorem T.bs48_4 {H : HL.Heap} {a0 : Option Addr} {a1 : Option Addr} {a2 : Option Addr} {a3 : Option Addr} : HL.buildSliceV Tryz.prog H 48 4 [(0, .pointer a0), (1, .pointer a1), (2, .pointer a2), (3, .pointer a3)] = some (.slice (some ⟨H.size, 0, none⟩) 4 4, H.push (.cells #[.pointer a0, .pointer a1, .pointer a2, .pointer a3] 75)) := HL.bs_four T.elem48 T.size75 T.zero75 rfl rfl rfl rfl
@[go_sem] theorem T.bs48_0 {H : HL.Heap} : HL.buildSliceV Tryz.prog H 48 0 [] = some (.slice (some ⟨H.size, 0, none⟩) 0 0, H.push (.cells #[] 75)) := HL.bs_zero T.elem48 T.size75 T.zero75
theorem T.el67 : HL.ElT Tryz.prog 67 2 1 8 (.int .i64 0) := ⟨T.elem67, T.size2, T.bytes2, T.zero2⟩
@[go_sem] theorem T.bs67_1 {H : HL.Heap} {k0 : IntKind} {n0 : Int} : HL.buildSliceV Tryz.prog H 67 1 [(0, .int k0 n0)] = some (.slice (some ⟨H.size, 0, none⟩) 1 1, H.push (.cells #[.int k0 n0] 2)) := HL.bs_one T.elem67 T.size2 T.zero2 rfl
@[go_sem] theorem T.bs67_2 {H : HL.Heap} {k0 : IntKind} {n0 : Int} {k1 : IntKind} {n1 : Int} : HL.buildSliceV Tryz.prog H 67 2 [(0, .int k0 n0), (1, .int k1 n1)] = some (.slice (some ⟨H.size, 0, none⟩) 2 2, H.push (.cells #[.int k0 n0, .int k1 n1] 2)) := HL.bs_two T.elem67 T.size2 T.zero2 rfl rfl
@[go_sem] theorem T.bs67_3 {H : HL.Heap} {k0 : IntKind} {n0 : Int} {k1 : IntKind} {n1 : Int} {k2 : IntKind} {n2 : Int} : HL.buildSliceV Tryz.prog H 67 3 [(0, .int k0 n0), (1, .int k1 n1), (2, .int k2 n2)] = some (.slice (some ⟨H.size, 0, none⟩) 3 3, H.push (.cells #[.int k0 n0, .int k1 n1, .int k2 n2] 2)) := HL.bs_three T.elem67 T.size2 T.zero2 rfl rfl rfl
@[go_sem] theorem T.bs67_4 {H : HL.Heap} {k0 : IntKind} {n0 : Int} {k1 : IntKind} {n1 : Int} {k2 : IntKind} {n2 : Int} {k3 : IntKind} {n3 : Int} : HL.buildSliceV Tryz.prog H 67 4 [(0, .int k0 n0), (1, .int k1 n1), (2, .int k2 n2), (3, .int k3 n3)] = some (.slice (some ⟨H.size, 0, none⟩) 4 4, H.push (.cells #[.int k0 n0, .int k1 n1, .int k2 n2, .int k3 n3] 2)) := HL.bs_four T.elem67 T.size2 T.zero2 rfl rfl rfl rfl
@[go_sem] theorem T.bs67_0 {H : HL.Heap} : HL.buildSliceV Tryz.prog H 67 0 [] = some (.slice (some ⟨H.size, 0, none⟩) 0 0, H.push (.cells #[] 2)) := HL.bs_zero T.elem67 T.size2 T.zero2
@[go_sem] theorem T.pe15 {H : HL.Heap} {xo yo : Operand} {a : Addr} : HL.binV Tryz.prog (HL.full H) .eql 15 xo yo (.pointer (some a)) (.pointer none) = some (.bool false) := HL.bin_ptr_eql Tryz.underlying15
@[go_sem] theorem T.pn15 {H : HL.Heap} {xo yo : Operand} {a : Addr} : HL.binV Tryz.prog (HL.full H) .neq 15 xo yo (.pointer (some a)) (.pointer none) = some (.bool true) := HL.bin_ptr_neq Tryz.underlying15
@[go_sem] theorem T.ne15 {H : HL.Heap} {xo yo : Operand} : HL.binV Tryz.prog (HL.full H) .eql 15 xo yo (.pointer none) (.pointer none) = some (.bool true) := HL.bin_nil_eql Tryz.underlying15
@[go_sem] theorem T.nn15 {H : HL.Heap} {xo yo : Operand} : HL.binV Tryz.prog (HL.full H) .neq 15 xo yo (.pointer none) (.pointer none) = some (.bool false) := HL.bin_nil_neq Tryz.underlying15
@[go_sem] theorem T.pe16 {H : HL.Heap} {xo yo : Operand} {a : Addr} : HL.binV Tryz.prog (HL.full H) .eql 16 xo yo (.pointer (some a)) (.pointer none) = some (.bool false) := HL.bin_ptr_eql Tryz.underlying16
@[go_sem] theorem T.pn16 {H : HL.Heap} {xo yo : Operand} {a : Addr} : HL.binV Tryz.prog (HL.full H) .neq 16 xo yo (.pointer (some a)) (.pointer none) = some (.bool true) := HL.bin_ptr_neq Tryz.underlying16
@[go_sem] theorem T.ne16 {H : HL.Heap} {xo yo : Operand} : HL.binV Tryz.prog (HL.full H) .eql 16 xo yo (.pointer none) (.pointer none) = some (.bool true) := HL.bin_nil_eql Tryz.underlying16
@[go_sem] theorem T.nn16 {H : HL.Heap} {xo yo : Operand} : HL.binV Tryz.prog (HL.full H) .neq 16 xo yo (.pointer none) (.pointer none) = some (.bool false) := HL.bin_nil_neq Tryz.underlying16
@[go_sem] theorem T.pe17 {H : HL.Heap} {xo yo : Operand} {a : Addr} : HL.binV Tryz.prog (HL.full H) .eql 17 xo yo (.pointer (some a)) (.pointer none) = some (.bool false) := HL.bin_ptr_eql Tryz.underlying17
@[go_sem] theorem T.pn17 {H : HL.Heap} {xo yo : Operand} {a : Addr} : HL.binV Tryz.prog (HL.full H) .neq 17 xo yo (.pointer (some a)) (.pointer none) = some (.bool true) := HL.bin_ptr_neq Tryz.underlying17
@[go_sem] theorem T.ne17 {H : HL.Heap} {xo yo : Operand} : HL.binV Tryz.prog (HL.full H) .eql 17 xo yo (.pointer none) (.pointer none) = some (.bool true) := HL.bin_nil_eql Tryz.underlying17
@[go_sem] theorem T.nn17 {H : HL.Heap} {xo yo : Operand} : HL.binV Tryz.prog (HL.full H) .neq 17 xo yo (.pointer none) (.pointer none) = some (.bool false) := HL.bin_nil_neq Tryz.underlying17
@[go_sem] theorem T.pe25 {H : HL.Heap} {xo yo : Operand} {a : Addr} : HL.binV Tryz.prog (HL.full H) .eql 25 xo yo (.pointer (some a)) (.pointer none) = some (.bool false) := HL.bin_ptr_eql Tryz.underlying25
@[go_sem] theorem T.pn25 {H : HL.Heap} {xo yo : Operand} {a : Addr} : HL.binV Tryz.prog (HL.full H) .neq 25 xo yo (.pointer (some a)) (.pointer none) = some (.bool true) := HL.bin_ptr_neq Tryz.underlying25
@[go_sem] theorem T.ne25 {H : HL.Heap} {xo yo : Operand} : HL.binV Tryz.prog (HL.full H) .eql 25 xo yo (.pointer none) (.pointer none) = some (.bool true) := HL.bin_nil_eql Tryz.underlying25
@[go_sem] theorem T.nn25 {H : HL.Heap} {xo yo : Operand} : HL.binV Tryz.prog (HL.full H) .neq 25 xo yo (.pointer none) (.pointer none) = some (.bool false) := HL.bin_nil_neq Tryz.underlying25
@[go_sem] theorem T.pe43 {H : HL.Heap} {xo yo : Operand} {a : Addr} : HL.binV Tryz.prog (HL.full H) .eql 43 xo yo (.pointer (some a)) (.pointer none) = some (.bool false) := HL.bin_ptr_eql Tryz.underlying43
@[go_sem] theorem T.pn43 {H : HL.Heap} {xo yo : Operand} {a : Addr} : HL.binV Tryz.prog (HL.full H) .neq 43 xo yo (.pointer (some a)) (.pointer none) = some (.bool true) := HL.bin_ptr_neq Tryz.underlying43
@[go_sem] theorem T.ne43 {H : HL.Heap} {xo yo : Operand} : HL.binV Tryz.prog (HL.full H) .eql 43 xo yo (.pointer none) (.pointer none) = some (.bool true) := HL.bin_nil_eql Tryz.underlying43
@[go_sem] theorem T.nn43 {H : HL.Heap} {xo yo : Operand} : HL.binV Tryz.prog (HL.full H) .neq 43 xo yo (.pointer none) (.pointer none) = some (.bool false) := HL.bin_nil_neq Tryz.underlying43
@[go_sem] theorem T.pe75 {H : HL.Heap} {xo yo : Operand} {a : Addr} : HL.binV Tryz.prog (HL.full H) .eql 75 xo yo (.pointer (some a)) (.pointer none) = some (.bool false) := HL.bin_ptr_eql Tryz.underlying75
@[go_sem] theorem T.pn75 {H : HL.Heap} {xo yo : Operand} {a : Addr} : HL.binV Tryz.prog (HL.full H) .neq 75 xo yo (.pointer (some a)) (.pointer none) = some (.bool true) := HL.bin_ptr_neq Tryz.underlying75
@[go_sem] theorem T.ne75 {H : HL.Heap} {xo yo : Operand} : HL.binV Tryz.prog (HL.full H) .eql 75 xo yo (.pointer none) (.pointer none) = some (.bool true) := HL.bin_nil_eql Tryz.underlying75
@[go_sem] theorem T.nn75 {H : HL.Heap} {xo yo : Operand} : HL.binV Tryz.prog (HL.full H) .neq 75 xo yo (.pointer none) (.pointer none) = some (.bool false) := HL.bin_nil_neq Tryz.underlying75
@[go_sem] theorem T.pe90 {H : HL.Heap} {xo yo : Operand} {a : Addr} : HL.binV Tryz.prog (HL.full H) .eql 90 xo yo (.pointer (some a)) (.pointer none) = some (.bool false) := HL.bin_ptr_eql Tryz.underlying90
@[go_sem] theorem T.pn90 {H : HL.Heap} {xo yo : Operand} {a : Addr} : HL.binV Tryz.prog (HL.full H) .neq 90 xo yo (.pointer (some a)) (.pointer none) = some (.bool true) := HL.bin_ptr_neq Tryz.underlying90
@[go_sem] theorem T.ne90 {H : HL.Heap} {xo yo : Operand} : HL.binV Tryz.prog (HL.full H) .eql 90 xo yo (.pointer none) (.pointer none) = some (.bool true) := HL.bin_nil_eql Tryz.underlying90
@[go_sem] theorem T.nn90 {H : HL.Heap} {xo yo : Operand} : HL.binV Tryz.prog (HL.full H) .neq 90 xo yo (.pointer none) (.pointer none) = some (.bool false) := HL.bin_nil_neq Tryz.underlying90
@[go_sem] theorem T.pe119 {H : HL.Heap} {xo yo : Operand} {a : Addr} : HL.binV Tryz.prog (HL.full H) .eql 119 xo yo (.pointer (some a)) (.pointer none) = some (.bool false) := HL.bin_ptr_eql Tryz.underlying119
@[go_sem] theorem T.pn119 {H : HL.Heap} {xo yo : Operand} {a : Addr} : HL.binV Tryz.prog (HL.full H) .neq 119 xo yo (.pointer (some a)) (.pointer none) = some (.bool true) := HL.bin_ptr_neq Tryz.underlying119
@[go_sem] theorem T.ne119 {H : HL.Heap} {xo yo : Operand} : HL.binV Tryz.prog (HL.full H) .eql 119 xo yo (.pointer none) (.pointer none) = some (.bool true) := HL.bin_nil_eql Tryz.underlying119
@[go_sem] theorem T.nn119 {H : HL.Heap} {xo yo : Operand} : HL.binV Tryz.prog (HL.full H) .neq 119 xo yo (.pointer none) (.pointer none) = some (.bool false) := HL.bin_nil_neq Tryz.underlying119
@[go_sem] theorem T.pe124 {H : HL.Heap} {xo yo : Operand} {a : Addr} : HL.binV Tryz.prog (HL.full H) .eql 124 xo yo (.pointer (some a)) (.pointer none) = some (.bool false) := HL.bin_ptr_eql Tryz.underlying124
@[go_sem] theorem T.pn124 {H : HL.Heap} {xo yo : Operand} {a : Addr} : HL.binV Tryz.prog (HL.full H) .neq 124 xo yo (.pointer (some a)) (.pointer none) = some (.bool true) := HL.bin_ptr_neq Tryz.underlying124
@[go_sem] theorem T.ne124 {H : HL.Heap} {xo yo : Operand} : HL.binV Tryz.prog (HL.full H) .eql 124 xo yo (.pointer none) (.pointer none) = some (.bool true) := HL.bin_nil_eql Tryz.underlying124
@[go_sem] theorem T.nn124 {H : HL.Heap} {xo yo : Operand} : HL.binV Tryz.prog (HL.full H) .neq 124 xo yo (.pointer none) (.pointer none) = some (.bool false) := HL.bin_nil_neq Tryz.underlying124
@[go_sem] theorem T.pe137 {H : HL.Heap} {xo yo : Operand} {a : Addr} : HL.binV Tryz.prog (HL.full H) .eql 137 xo yo (.pointer (some a)) (.pointer none) = some (.bool false) := HL.bin_ptr_eql Tryz.underlying137
@[go_sem] theorem T.pn137 {H : HL.Heap} {xo yo : Operand} {a : Addr} : HL.binV Tryz.prog (HL.full H) .neq 137 xo yo (.pointer (some a)) (.pointer none) = some (.bool true) := HL.bin_ptr_neq Tryz.underlying137
@[go_sem] theorem T.ne137 {H : HL.Heap} {xo yo : Operand} : HL.binV Tryz.prog (HL.full H) .eql 137 xo yo (.pointer none) (.pointer none) = some (.bool true) := HL.bin_nil_eql Tryz.underlying137
@[go_sem] theorem T.nn137 {H : HL.Heap} {xo yo : Operand} : HL.binV Tryz.prog (HL.full H) .neq 137 xo yo (.pointer none) (.pointer none) = some (.bool false) := HL.bin_nil_neq Tryz.underlying137
@[go_sem] theorem T.be4 {H : HL.Heap} {xo yo : Operand} {x y : Bool} : HL.binV Tryz.prog (HL.full H) .eql 4 xo yo (.bool x) (.bool y) = some (.bool (x == y)) := HL.bin_bool_eql Tryz.underlying4
@[go_sem] theorem T.bn4 {H : HL.Heap} {xo yo : Operand} {x y : Bool} : HL.binV Tryz.prog (HL.full H) .neq 4 xo yo (.bool x) (.bool y) = some (.bool (!(x == y))) := HL.bin_bool_neq Tryz.underlying4
@[go_sem] theorem T.cv2_2 {V : HL.HV} {k : IntKind} {n : Int} : HL.convV Tryz.prog V 2 2 (.int k n) = some (.int .i64 (IntKind.i64.wrap n)) := HL.conv_int Tryz.underlying2 Tryz.underlying2
@[go_sem] theorem T.cv2_3 {V : HL.HV} {k : IntKind} {n : Int} : HL.convV Tryz.prog V 2 3 (.int k n) = some (.int .i64 (IntKind.i64.wrap n)) := HL.conv_int Tryz.underlying2 Tryz.underlying3
@[go_sem] theorem T.cv2_5 {V : HL.HV} {k : IntKind} {n : Int} : HL.convV Tryz.prog V 2 5 (.int k n) = some (.int .u8 (IntKind.u8.wrap n)) := HL.conv_int Tryz.underlying2 Tryz.underlying5
@[go_sem] theorem T.cv2_6 {V : HL.HV} {k : IntKind} {n : Int} : HL.convV Tryz.prog V 2 6 (.int k n) = some (.int .u8 (IntKind.u8.wrap n)) := HL.conv_int Tryz.underlying2 Tryz.underlying6
@[go_sem] theorem T.cv2_12 {V : HL.HV} {k : IntKind} {n : Int} : HL.convV Tryz.prog V 2 12 (.int k n) = some (.int .u64 (IntKind.u64.wrap n)) := HL.conv_int Tryz.underlying2 Tryz.underlying12
@[go_sem] theorem T.cv2_21 {V : HL.HV} {k : IntKind} {n : Int} : HL.convV Tryz.prog V 2 21 (.int k n) = some (.int .i32 (IntKind.i32.wrap n)) := HL.conv_int Tryz.underlying2 Tryz.underlying21
@[go_sem] theorem T.cv2_26 {V : HL.HV} {k : IntKind} {n : Int} : HL.convV Tryz.prog V 2 26 (.int k n) = some (.int .i64 (IntKind.i64.wrap n)) := HL.conv_int Tryz.underlying2 Tryz.underlying26
@[go_sem] theorem T.cv2_85 {V : HL.HV} {k : IntKind} {n : Int} : HL.convV Tryz.prog V 2 85 (.int k n) = some (.int .u64 (IntKind.u64.wrap n)) := HL.conv_int Tryz.underlying2 Tryz.underlying85
@[go_sem] theorem T.cv2_86 {V : HL.HV} {k : IntKind} {n : Int} : HL.convV Tryz.prog V 2 86 (.int k n) = some (.int .i8 (IntKind.i8.wrap n)) := HL.conv_int Tryz.underlying2 Tryz.underlying86
@[go_sem] theorem T.cv2_101 {V : HL.HV} {k : IntKind} {n : Int} : HL.convV Tryz.prog V 2 101 (.int k n) = some (.int .i64 (IntKind.i64.wrap n)) := HL.conv_int Tryz.underlying2 Tryz.underlying101
@[go_sem] theorem T.cv2_108 {V : HL.HV} {k : IntKind} {n : Int} : HL.convV Tryz.prog V 2 108 (.int k n) = some (.int .u32 (IntKind.u32.wrap n)) := HL.conv_int Tryz.underlying2 Tryz.underlying108
@[go_sem] theorem T.cv2_110 {V : HL.HV} {k : IntKind} {n : Int} : HL.convV Tryz.prog V 2 110 (.int k n) = some (.int .u64 (IntKind.u64.wrap n)) := HL.conv_int Tryz.underlying2 Tryz.underlying110
@[go_sem] theorem T.cv2_115 {V : HL.HV} {k : IntKind} {n : Int} : HL.convV Tryz.prog V 2 115 (.int k n) = some (.int .u64 (IntKind.u64.wrap n)) := HL.conv_int Tryz.underlying2 Tryz.underlying115
@[go_sem] theorem T.cv2_134 {V : HL.HV} {k : IntKind} {n : Int} : HL.convV Tryz.prog V 2 134 (.int k n) = some (.int .u8 (IntKind.u8.wrap n)) := HL.conv_int Tryz.underlying2 Tryz.underlying134
@[go_sem] theorem T.cv2_135 {V : HL.HV} {k : IntKind} {n : Int} : HL.convV Tryz.prog V 2 135 (.int k n) = some (.int .u8 (IntKind.u8.wrap n)) := HL.conv_int Tryz.underlying2 Tryz.underlying135
@[go_sem] theorem T.cv2_138 {V : HL.HV} {k : IntKind} {n : Int} : HL.convV Tryz.prog V 2 138 (.int k n) = some (.int .i32 (IntKind.i32.wrap n)) := HL.conv_int Tryz.underlying2 Tryz.underlying138
@[go_sem] theorem T.cv2_139 {V : HL.HV} {k : IntKind} {n : Int} : HL.convV Tryz.prog V 2 139 (.int k n) = some (.int .i32 (IntKind.i32.wrap n)) := HL.conv_int Tryz.underlying2 Tryz.underlying139
@[go_sem] theorem T.cv3_2 {V : HL.HV} {k : IntKind} {n : Int} : HL.convV Tryz.prog V 3 2 (.int k n) = some (.int .i64 (IntKind.i64.wrap n)) := HL.conv_int Tryz.underlying3 Tryz.underlying2
@[go_sem] theorem T.cv3_3 {V : HL.HV} {k : IntKind} {n : Int} : HL.convV Tryz.prog V 3 3 (.int k n) = some (.int .i64 (IntKind.i64.wrap n)) := HL.conv_int Tryz.underlying3 Tryz.underlying3
@[go_sem] theorem T.cv3_5 {V : HL.HV} {k : IntKind} {n : Int} : HL.convV Tryz.prog V 3 5 (.int k n) = some (.int .u8 (IntKind.u8.wrap n)) := HL.conv_int Tryz.underlying3 Tryz.underlying5
@[go_sem] theorem T.cv3_6 {V : HL.HV} {k : IntKind} {n : Int} : HL.convV Tryz.prog V 3 6 (.int k n) = some (.int .u8 (IntKind.u8.wrap n)) := HL.conv_int Tryz.underlying3 Tryz.underlying6
@[go_sem] theorem T.cv3_12 {V : HL.HV} {k : IntKind} {n : Int} : HL.convV Tryz.prog V 3 12 (.int k n) = some (.int .u64 (IntKind.u64.wrap n)) := HL.conv_int Tryz.underlying3 Tryz.underlying12
@[go_sem] theorem T.cv3_21 {V : HL.HV} {k : IntKind} {n : Int} : HL.convV Tryz.prog V 3 21 (.int k n) = some (.int .i32 (IntKind.i32.wrap n)) := HL.conv_int Tryz.underlying3 Tryz.underlying21
@[go_sem] theorem T.cv3_26 {V : HL.HV} {k : IntKind} {n : Int} : HL.convV Tryz.prog V 3 26 (.int k n) = some (.int .i64 (IntKind.i64.wrap n)) := HL.conv_int Tryz.underlying3 Tryz.underlying26
@[go_sem] theorem T.cv3_85 {V : HL.HV} {k : IntKind} {n : Int} : HL.convV Tryz.prog V 3 85 (.int k n) = some (.int .u64 (IntKind.u64.wrap n)) := HL.conv_int Tryz.underlying3 Tryz.underlying85
@[go_sem] theorem T.cv3_86 {V : HL.HV} {k : IntKind} {n : Int} : HL.convV Tryz.prog V 3 86 (.int k n) = some (.int .i8 (IntKind.i8.wrap n)) := HL.conv_int Tryz.underlying3 Tryz.underlying86
@[go_sem] theorem T.cv3_101 {V : HL.HV} {k : IntKind} {n : Int} : HL.convV Tryz.prog V 3 101 (.int k n) = some (.int .i64 (IntKind.i64.wrap n)) := HL.conv_int Tryz.underlying3 Tryz.underlying101
@[go_sem] theorem T.cv3_108 {V : HL.HV} {k : IntKind} {n : Int} : HL.convV Tryz.prog V 3 108 (.int k n) = some (.int .u32 (IntKind.u32.wrap n)) := HL.conv_int Tryz.underlying3 Tryz.underlying108
@[go_sem] theorem T.cv3_110 {V : HL.HV} {k : IntKind} {n : Int} : HL.convV Tryz.prog V 3 110 (.int k n) = some (.int .u64 (IntKind.u64.wrap n)) := HL.conv_int Tryz.underlying3 Tryz.underlying110
@[go_sem] theorem T.cv3_115 {V : HL.HV} {k : IntKind} {n : Int} : HL.convV Tryz.prog V 3 115 (.int k n) = some (.int .u64 (IntKind.u64.wrap n)) := HL.conv_int Tryz.underlying3 Tryz.underlying115
@[go_sem] theorem T.cv3_134 {V : HL.HV} {k : IntKind} {n : Int} : HL.convV Tryz.prog V 3 134 (.int k n) = some (.int .u8 (IntKind.u8.wrap n)) := HL.conv_int Tryz.underlying3 Tryz.underlying134
@[go_sem] theorem T.cv3_135 {V : HL.HV} {k : IntKind} {n : Int} : HL.convV Tryz.prog V 3 135 (.int k n) = some (.int .u8 (IntKind.u8.wrap n)) := HL.conv_int Tryz.underlying3 Tryz.underlying135
@[go_sem] theorem T.cv3_138 {V : HL.HV} {k : IntKind} {n : Int} : HL.convV Tryz.prog V 3 138 (.int k n) = some (.int .i32 (IntKind.i32.wrap n)) := HL.conv_int Tryz.underlying3 Tryz.underlying138
@[go_sem] theorem T.cv3_139 {V : HL.HV} {k : IntKind} {n : Int} : HL.convV Tryz.prog V 3 139 (.int k n) = some (.int .i32 (IntKind.i32.wrap n)) := HL.conv_int Tryz.underlying3 Tryz.underlying139
@[go_sem] theorem T.cv5_2 {V : HL.HV} {k : IntKind} {n : Int} : HL.convV Tryz.prog V 5 2 (.int k n) = some (.int .i64 (IntKind.i64.wrap n)) := HL.conv_int Tryz.underlying5 Tryz.underlying2
@[go_sem] theorem T.cv5_3 {V : HL.HV} {k : IntKind} {n : Int} : HL.convV Tryz.prog V 5 3 (.int k n) = some (.int .i64 (IntKind.i64.wrap n)) := HL.conv_int Tryz.underlying5 Tryz.underlying3
@[go_sem] theorem T.cv5_5 {V : HL.HV} {k : IntKind} {n : Int} : HL.convV Tryz.prog V 5 5 (.int k n) = some (.int .u8 (IntKind.u8.wrap n)) := HL.conv_int Tryz.underlying5 Tryz.underlying5
@[go_sem] theorem T.cv5_6 {V : HL.HV} {k : IntKind} {n : Int} : HL.convV Tryz.prog V 5 6 (.int k n) = some (.int .u8 (IntKind.u8.wrap n)) := HL.conv_int Tryz.underlying5 Tryz.underlying6
@[go_sem] theorem T.cv5_12 {V : HL.HV} {k : IntKind} {n : Int} : HL.convV Tryz.prog V 5 12 (.int k n) = some (.int .u64 (IntKind.u64.wrap n)) := HL.conv_int Tryz.underlying5 Tryz.underlying12
@[go_sem] theorem T.cv5_21 {V : HL.HV} {k : IntKind} {n : Int} : HL.convV Tryz.prog V 5 21 (.int k n) = some (.int .i32 (IntKind.i32.wrap n)) := HL.conv_int Tryz.underlying5 Tryz.underlying21
@[go_sem] theorem T.cv5_26 {V : HL.HV} {k : IntKind} {n : Int} : HL.convV Tryz.prog V 5 26 (.int k n) = some (.int .i64 (IntKind.i64.wrap n)) := HL.conv_int Tryz.underlying5 Tryz.underlying26
@[go_sem] theorem T.cv5_85 {V : HL.HV} {k : IntKind} {n : Int} : HL.convV Tryz.prog V 5 85 (.int k n) = some (.int .u64 (IntKind.u64.wrap n)) := HL.conv_int Tryz.underlying5 Tryz.underlying85
@[go_sem] theorem T.cv5_86 {V : HL.HV} {k : IntKind} {n : Int} : HL.convV Tryz.prog V 5 86 (.int k n) = some (.int .i8 (IntKind.i8.wrap n)) := HL.conv_int Tryz.underlying5 Tryz.underlying86
@[go_sem] theorem T.cv5_101 {V : HL.HV} {k : IntKind} {n : Int} : HL.convV Tryz.prog V 5 101 (.int k n) = some (.int .i64 (IntKind.i64.wrap n)) := HL.conv_int Tryz.underlying5 Tryz.underlying101
@[go_sem] theorem T.cv5_108 {V : HL.HV} {k : IntKind} {n : Int} : HL.convV Tryz.prog V 5 108 (.int k n) = some (.int .u32 (IntKind.u32.wrap n)) := HL.conv_int Tryz.underlying5 Tryz.underlying108
@[go_sem] theorem T.cv5_110 {V : HL.HV} {k : IntKind} {n : Int} : HL.convV Tryz.prog V 5 110 (.int k n) = some (.int .u64 (IntKind.u64.wrap n)) := HL.conv_int Tryz.underlying5 Tryz.underlying110
@[go_sem] theorem T.cv5_115 {V : HL.HV} {k : IntKind} {n : Int} : HL.convV Tryz.prog V 5 115 (.int k n) = some (.int .u64 (IntKind.u64.wrap n)) := HL.conv_int Tryz.underlying5 Tryz.underlying115
@[go_sem] theorem T.cv5_134 {V : HL.HV} {k : IntKind} {n : Int} : HL.convV Tryz.prog V 5 134 (.int k n) = some (.int .u8 (IntKind.u8.wrap n)) := HL.conv_int Tryz.underlying5 Tryz.underlying134
@[go_sem] theorem T.cv5_135 {V : HL.HV} {k : IntKind} {n : Int} : HL.convV Tryz.prog V 5 135 (.int k n) = some (.int .u8 (IntKind.u8.wrap n)) := HL.conv_int Tryz.underlying5 Tryz.underlying135
@[go_sem] theorem T.cv5_138 {V : HL.HV} {k : IntKind} {n : Int} : HL.convV Tryz.prog V 5 138 (.int k n) = some (.int .i32 (IntKind.i32.wrap n)) := HL.conv_int Tryz.underlying5 Tryz.underlying138
@[go_sem] theorem T.cv5_139 {V : HL.HV} {k : IntKind} {n : Int} : HL.convV Tryz.prog V 5 139 (.int k n) = some (.int .i32 (IntKind.i32.wrap n)) := HL.conv_int Tryz.underlying5 Tryz.underlying139
@[go_sem] theorem T.cv6_2 {V : HL.HV} {k : IntKind} {n : Int} : HL.convV Tryz.prog V 6 2 (.int k n) = some (.int .i64 (IntKind.i64.wrap n)) := HL.conv_int Tryz.underlying6 Tryz.underlying2
@[go_sem] theorem T.cv6_3 {V : HL.HV} {k : IntKind} {n : Int} : HL.convV Tryz.prog V 6 3 (.int k n) = some (.int .i64 (IntKind.i64.wrap n)) := HL.conv_int Tryz.underlying6 Tryz.underlying3
@[go_sem] theorem T.cv6_5 {V : HL.HV} {k : IntKind} {n : Int} : HL.convV Tryz.prog V 6 5 (.int k n) = some (.int .u8 (IntKind.u8.wrap n)) := HL.conv_int Tryz.underlying6 Tryz.underlying5
@[go_sem] theorem T.cv6_6 {V : HL.HV} {k : IntKind} {n : Int} : HL.convV Tryz.prog V 6 6 (.int k n) = some (.int .u8 (IntKind.u8.wrap n)) := HL.conv_int Tryz.underlying6 Tryz.underlying6
@[go_sem] theorem T.cv6_12 {V : HL.HV} {k : IntKind} {n : Int} : HL.convV Tryz.prog V 6 12 (.int k n) = some (.int .u64 (IntKind.u64.wrap n)) := HL.conv_int Tryz.underlying6 Tryz.underlying12
@[go_sem] theorem T.cv6_21 {V : HL.HV} {k : IntKind} {n : Int} : HL.convV Tryz.prog V 6 21 (.int k n) = some (.int .i32 (IntKind.i32.wrap n)) := HL.conv_int Tryz.underlying6 Tryz.underlying21
@[go_sem] theorem T.cv6_26 {V : HL.HV} {k : IntKind} {n : Int} : HL.convV Tryz.prog V 6 26 (.int k n) = some (.int .i64 (IntKind.i64.wrap n)) := HL.conv_int Tryz.underlying6 Tryz.underlying26
@[go_sem] theorem T.cv6_85 {V : HL.HV} {k : IntKind} {n : Int} : HL.convV Tryz.prog V 6 85 (.int k n) = some (.int .u64 (IntKind.u64.wrap n)) := HL.conv_int Tryz.underlying6 Tryz.underlying85
@[go_sem] theorem T.cv6_86 {V : HL.HV} {k : IntKind} {n : Int} : HL.convV Tryz.prog V 6 86 (.int k n) = some (.int .i8 (IntKind.i8.wrap n)) := HL.conv_int Tryz.underlying6 Tryz.underlying86
@[go_sem] theorem T.cv6_101 {V : HL.HV} {k : IntKind} {n : Int} : HL.convV Tryz.prog V 6 101 (.int k n) = some (.int .i64 (IntKind.i64.wrap n)) := HL.conv_int Tryz.underlying6 Tryz.underlying101
@[go_sem] theorem T.cv6_108 {V : HL.HV} {k : IntKind} {n : Int} : HL.convV Tryz.prog V 6 108 (.int k n) = some (.int .u32 (IntKind.u32.wrap n)) := HL.conv_int Tryz.underlying6 Tryz.underlying108
@[go_sem] theorem T.cv6_110 {V : HL.HV} {k : IntKind} {n : Int} : HL.convV Tryz.prog V 6 110 (.int k n) = some (.int .u64 (IntKind.u64.wrap n)) := HL.conv_int Tryz.underlying6 Tryz.underlying110
@[go_sem] theorem T.cv6_115 {V : HL.HV} {k : IntKind} {n : Int} : HL.convV Tryz.prog V 6 115 (.int k n) = some (.int .u64 (IntKind.u64.wrap n)) := HL.conv_int Tryz.underlying6 Tryz.underlying115
@[go_sem] theorem T.cv6_134 {V : HL.HV} {k : IntKind} {n : Int} : HL.convV Tryz.prog V 6 134 (.int k n) = some (.int .u8 (IntKind.u8.wrap n)) := HL.conv_int Tryz.underlying6 Tryz.underlying134
@[go_sem] theorem T.cv6_135 {V : HL.HV} {k : IntKind} {n : Int} : HL.convV Tryz.prog V 6 135 (.int k n) = some (.int .u8 (IntKind.u8.wrap n)) := HL.conv_int Tryz.underlying6 Tryz.underlying135
@[go_sem] theorem T.cv6_138 {V : HL.HV} {k : IntKind} {n : Int} : HL.convV Tryz.prog V 6 138 (.int k n) = some (.int .i32 (IntKind.i32.wrap n)) := HL.conv_int Tryz.underlying6 Tryz.underlying138
@[go_sem] theorem T.cv6_139 {V : HL.HV} {k : IntKind} {n : Int} : HL.convV Tryz.prog V 6 139 (.int k n) = some (.int .i32 (IntKind.i32.wrap n)) := HL.conv_int Tryz.underlying6 Tryz.underlying139
@[go_sem] theorem T.cv12_2 {V : HL.HV} {k : IntKind} {n : Int} : HL.convV Tryz.prog V 12 2 (.int k n) = some (.int .i64 (IntKind.i64.wrap n)) := HL.conv_int Tryz.underlying12 Tryz.underlying2
@[go_sem] theorem T.cv12_3 {V : HL.HV} {k : IntKind} {n : Int} : HL.convV Tryz.prog V 12 3 (.int k n) = some (.int .i64 (IntKind.i64.wrap n)) := HL.conv_int Tryz.underlying12 Tryz.underlying3
@[go_sem] theorem T.cv12_5 {V : HL.HV} {k : IntKind} {n : Int} : HL.convV Tryz.prog V 12 5 (.int k n) = some (.int .u8 (IntKind.u8.wrap n)) := HL.conv_int Tryz.underlying12 Tryz.underlying5
@[go_sem] theorem T.cv12_6 {V : HL.HV} {k : IntKind} {n : Int} : HL.convV Tryz.prog V 12 6 (.int k n) = some (.int .u8 (IntKind.u8.wrap n)) := HL.conv_int Tryz.underlying12 Tryz.underlying6
@[go_sem] theorem T.cv12_12 {V : HL.HV} {k : IntKind} {n : Int} : HL.convV Tryz.prog V 12 12 (.int k n) = some (.int .u64 (IntKind.u64.wrap n)) := HL.conv_int Tryz.underlying12 Tryz.underlying12
@[go_sem] theorem T.cv12_21 {V : HL.HV} {k : IntKind} {n : Int} : HL.convV Tryz.prog V 12 21 (.int k n) = some (.int .i32 (IntKind.i32.wrap n)) := HL.conv_int Tryz.underlying12 Tryz.underlying21
@[go_sem] theorem T.cv12_26 {V : HL.HV} {k : IntKind} {n : Int} : HL.convV Tryz.prog V 12 26 (.int k n) = some (.int .i64 (IntKind.i64.wrap n)) := HL.conv_int Tryz.underlying12 Tryz.underlying26
@[go_sem] theorem T.cv12_85 {V : HL.HV} {k : IntKind} {n : Int} : HL.convV Tryz.prog V 12 85 (.int k n) = some (.int .u64 (IntKind.u64.wrap n)) := HL.conv_int Tryz.underlying12 Tryz.underlying85
@[go_sem] theorem T.cv12_86 {V : HL.HV} {k : IntKind} {n : Int} : HL.convV Tryz.prog V 12 86 (.int k n) = some (.int .i8 (IntKind.i8.wrap n)) := HL.conv_int Tryz.underlying12 Tryz.underlying86
@[go_sem] theorem T.cv12_101 {V : HL.HV} {k : IntKind} {n : Int} : HL.convV Tryz.prog V 12 101 (.int k n) = some (.int .i64 (IntKind.i64.wrap n)) := HL.conv_int Tryz.underlying12 Tryz.underlying101
@[go_sem] theorem T.cv12_108 {V : HL.HV} {k : IntKind} {n : Int} : HL.convV Tryz.prog V 12 108 (.int k n) = some (.int .u32 (IntKind.u32.wrap n)) := HL.conv_int Tryz.underlying12 Tryz.underlying108
@[go_sem] theorem T.cv12_110 {V : HL.HV} {k : IntKind} {n : Int} : HL.convV Tryz.prog V 12 110 (.int k n) = some (.int .u64 (IntKind.u64.wrap n)) := HL.conv_int Tryz.underlying12 Tryz.underlying110
@[go_sem] theorem T.cv12_115 {V : HL.HV} {k : IntKind} {n : Int} : HL.convV Tryz.prog V 12 115 (.int k n) = some (.int .u64 (IntKind.u64.wrap n)) := HL.conv_int Tryz.underlying12 Tryz.underlying115
@[go_sem] theorem T.cv12_134 {V : HL.HV} {k : IntKind} {n : Int} : HL.convV Tryz.prog V 12 134 (.int k n) = some (.int .u8 (IntKind.u8.wrap n)) := HL.conv_int Tryz.underlying12 Tryz.underlying134
@[go_sem] theorem T.cv12_135 {V : HL.HV} {k : IntKind} {n : Int} : HL.convV Tryz.prog V 12 135 (.int k n) = some (.int .u8 (IntKind.u8.wrap n)) := HL.conv_int Tryz.underlying12 Tryz.underlying135
@[go_sem] theorem T.cv12_138 {V : HL.HV} {k : IntKind} {n : Int} : HL.convV Tryz.prog V 12 138 (.int k n) = some (.int .i32 (IntKind.i32.wrap n)) := HL.conv_int Tryz.underlying12 Tryz.underlying138
@[go_sem] theorem T.cv12_139 {V : HL.HV} {k : IntKind} {n : Int} : HL.convV Tryz.prog V 12 139 (.int k n) = some (.int .i32 (IntKind.i32.wrap n)) := HL.conv_int Tryz.underlying12 Tryz.underlying139
@[go_sem] theorem T.cv21_2 {V : HL.HV} {k : IntKind} {n : Int} : HL.convV Tryz.prog V 21 2 (.int k n) = some (.int .i64 (IntKind.i64.wrap n)) := HL.conv_int Tryz.underlying21 Tryz.underlying2
@[go_sem] theorem T.cv21_3 {V : HL.HV} {k : IntKind} {n : Int} : HL.convV Tryz.prog V 21 3 (.int k n) = some (.int .i64 (IntKind.i64.wrap n)) := HL.conv_int Tryz.underlying21 Tryz.underlying3
@[go_sem] theorem T.cv21_5 {V : HL.HV} {k : IntKind} {n : Int} : HL.convV Tryz.prog V 21 5 (.int k n) = some (.int .u8 (IntKind.u8.wrap n)) := HL.conv_int Tryz.underlying21 Tryz.underlying5
@[go_sem] theorem T.cv21_6 {V : HL.HV} {k : IntKind} {n : Int} : HL.convV Tryz.prog V 21 6 (.int k n) = some (.int .u8 (IntKind.u8.wrap n)) := HL.conv_int Tryz.underlying21 Tryz.underlying6
@[go_sem] theorem T.cv21_12 {V : HL.HV} {k : IntKind} {n : Int} : HL.convV Tryz.prog V 21 12 (.int k n) = some (.int .u64 (IntKind.u64.wrap n)) := HL.conv_int Tryz.underlying21 Tryz.underlying12
@[go_sem] theorem T.cv21_21 {V : HL.HV} {k : IntKind} {n : Int} : HL.convV Tryz.prog V 21 21 (.int k n) = some (.int .i32 (IntKind.i32.wrap n)) := HL.conv_int Tryz.underlying21 Tryz.underlying21
@[go_sem] theorem T.cv21_26 {V : HL.HV} {k : IntKind} {n : Int} : HL.convV Tryz.prog V 21 26 (.int k n) = some (.int .i64 (IntKind.i64.wrap n)) := HL.conv_int Tryz.underlying21 Tryz.underlying26
@[go_sem] theorem T.cv21_85 {V : HL.HV} {k : IntKind} {n : Int} : HL.convV Tryz.prog V 21 85 (.int k n) = some (.int .u64 (IntKind.u64.wrap n)) := HL.conv_int Tryz.underlying21 Tryz.underlying85
@[go_sem] theorem T.cv21_86 {V : HL.HV} {k : IntKind} {n : Int} : HL.convV Tryz.prog V 21 86 (.int k n) = some (.int .i8 (IntKind.i8.wrap n)) := HL.conv_int Tryz.underlying21 Tryz.underlying86
@[go_sem] theorem T.cv21_101 {V : HL.HV} {k : IntKind} {n : Int} : HL.convV Tryz.prog V 21 101 (.int k n) = some (.int .i64 (IntKind.i64.wrap n)) := HL.conv_int Tryz.underlying21 Tryz.underlying101
@[go_sem] theorem T.cv21_108 {V : HL.HV} {k : IntKind} {n : Int} : HL.convV Tryz.prog V 21 108 (.int k n) = some (.int .u32 (IntKind.u32.wrap n)) := HL.conv_int Tryz.underlying21 Tryz.underlying108
@[go_sem] theorem T.cv21_110 {V : HL.HV} {k : IntKind} {n : Int} : HL.convV Tryz.prog V 21 110 (.int k n) = some (.int .u64 (IntKind.u64.wrap n)) := HL.conv_int Tryz.underlying21 Tryz.underlying110
@[go_sem] theorem T.cv21_115 {V : HL.HV} {k : IntKind} {n : Int} : HL.convV Tryz.prog V 21 115 (.int k n) = some (.int .u64 (IntKind.u64.wrap n)) := HL.conv_int Tryz.underlying21 Tryz.underlying115
@[go_sem] theorem T.cv21_134 {V : HL.HV} {k : IntKind} {n : Int} : HL.convV Tryz.prog V 21 134 (.int k n) = some (.int .u8 (IntKind.u8.wrap n)) := HL.conv_int Tryz.underlying21 Tryz.underlying134
@[go_sem] theorem T.cv21_135 {V : HL.HV} {k : IntKind} {n : Int} : HL.convV Tryz.prog V 21 135 (.int k n) = some (.int .u8 (IntKind.u8.wrap n)) := HL.conv_int Tryz.underlying21 Tryz.underlying135
@[go_sem] theorem T.cv21_138 {V : HL.HV} {k : IntKind} {n : Int} : HL.convV Tryz.prog V 21 138 (.int k n) = some (.int .i32 (IntKind.i32.wrap n)) := HL.conv_int Tryz.underlying21 Tryz.underlying138
@[go_sem] theorem T.cv21_139 {V : HL.HV} {k : IntKind} {n : Int} : HL.convV Tryz.prog V 21 139 (.int k n) = some (.int .i32 (IntKind.i32.wrap n)) := HL.conv_int Tryz.underlying21 Tryz.underlying139
@[go_sem] theorem T.cv26_2 {V : HL.HV} {k : IntKind} {n : Int} : HL.convV Tryz.prog V 26 2 (.int k n) = some (.int .i64 (IntKind.i64.wrap n)) := HL.conv_int Tryz.underlying26 Tryz.underlying2
@[go_sem] theorem T.cv26_3 {V : HL.HV} {k : IntKind} {n : Int} : HL.convV Tryz.prog V 26 3 (.int k n) = some (.int .i64 (IntKind.i64.wrap n)) := HL.conv_int Tryz.underlying26 Tryz.underlying3
@[go_sem] theorem T.cv26_5 {V : HL.HV} {k : IntKind} {n : Int} : HL.convV Tryz.prog V 26 5 (.int k n) = some (.int .u8 (IntKind.u8.wrap n)) := HL.conv_int Tryz.underlying26 Tryz.underlying5
@[go_sem] theorem T.cv26_6 {V : HL.HV} {k : IntKind} {n : Int} : HL.convV Tryz.prog V 26 6 (.int k n) = some (.int .u8 (IntKind.u8.wrap n)) := HL.conv_int Tryz.underlying26 Tryz.underlying6
@[go_sem] theorem T.cv26_12 {V : HL.HV} {k : IntKind} {n : Int} : HL.convV Tryz.prog V 26 12 (.int k n) = some (.int .u64 (IntKind.u64.wrap n)) := HL.conv_int Tryz.underlying26 Tryz.underlying12
@[go_sem] theorem T.cv26_21 {V : HL.HV} {k : IntKind} {n : Int} : HL.convV Tryz.prog V 26 21 (.int k n) = some (.int .i32 (IntKind.i32.wrap n)) := HL.conv_int Tryz.underlying26 Tryz.underlying21
@[go_sem] theorem T.cv26_26 {V : HL.HV} {k : IntKind} {n : Int} : HL.convV Tryz.prog V 26 26 (.int k n) = some (.int .i64 (IntKind.i64.wrap n)) := HL.conv_int Tryz.underlying26 Tryz.underlying26
@[go_sem] theorem T.cv26_85 {V : HL.HV} {k : IntKind} {n : Int} : HL.convV Tryz.prog V 26 85 (.int k n) = some (.int .u64 (IntKind.u64.wrap n)) := HL.conv_int Tryz.underlying26 Tryz.underlying85
@[go_sem] theorem T.cv26_86 {V : HL.HV} {k : IntKind} {n : Int} : HL.convV Tryz.prog V 26 86 (.int k n) = some (.int .i8 (IntKind.i8.wrap n)) := HL.conv_int Tryz.underlying26 Tryz.underlying86
@[go_sem] theorem T.cv26_101 {V : HL.HV} {k : IntKind} {n : Int} : HL.convV Tryz.prog V 26 101 (.int k n) = some (.int .i64 (IntKind.i64.wrap n)) := HL.conv_int Tryz.underlying26 Tryz.underlying101
@[go_sem] theorem T.cv26_108 {V : HL.HV} {k : IntKind} {n : Int} : HL.convV Tryz.prog V 26 108 (.int k n) = some (.int .u32 (IntKind.u32.wrap n)) := HL.conv_int Tryz.underlying26 Tryz.underlying108
@[go_sem] theorem T.cv26_110 {V : HL.HV} {k : IntKind} {n : Int} : HL.convV Tryz.prog V 26 110 (.int k n) = some (.int .u64 (IntKind.u64.wrap n)) := HL.conv_int Tryz.underlying26 Tryz.underlying110
@[go_sem] theorem T.cv26_115 {V : HL.HV} {k : IntKind} {n : Int} : HL.convV Tryz.prog V 26 115 (.int k n) = some (.int .u64 (IntKind.u64.wrap n)) := HL.conv_int Tryz.underlying26 Tryz.underlying115
@[go_sem] theorem T.cv26_134 {V : HL.HV} {k : IntKind} {n : Int} : HL.convV Tryz.prog V 26 134 (.int k n) = some (.int .u8 (IntKind.u8.wrap n)) := HL.conv_int Tryz.underlying26 Tryz.underlying134
@[go_sem] theorem T.cv26_135 {V : HL.HV} {k : IntKind} {n : Int} : HL.convV Tryz.prog V 26 135 (.int k n) = some (.int .u8 (IntKind.u8.wrap n)) := HL.conv_int Tryz.underlying26 Tryz.underlying135
@[go_sem] theorem T.cv26_138 {V : HL.HV} {k : IntKind} {n : Int} : HL.convV Tryz.prog V 26 138 (.int k n) = some (.int .i32 (IntKind.i32.wrap n)) := HL.conv_int Tryz.underlying26 Tryz.underlying138
@[go_sem] theorem T.cv26_139 {V : HL.HV} {k : IntKind} {n : Int} : HL.convV Tryz.prog V 26 139 (.int k n) = some (.int .i32 (IntKind.i32.wrap n)) := HL.conv_int Tryz.underlying26 Tryz.underlying139
@[go_sem] theorem T.cv85_2 {V : HL.HV} {k : IntKind} {n : Int} : HL.convV Tryz.prog V 85 2 (.int k n) = some (.int .i64 (IntKind.i64.wrap n)) := HL.conv_int Tryz.underlying85 Tryz.underlying2
@[go_sem] theorem T.cv85_3 {V : HL.HV} {k : IntKind} {n : Int} : HL.convV Tryz.prog V 85 3 (.int k n) = some (.int .i64 (IntKind.i64.wrap n)) := HL.conv_int Tryz.underlying85 Tryz.underlying3
@[go_sem] theorem T.cv85_5 {V : HL.HV} {k : IntKind} {n : Int} : HL.convV Tryz.prog V 85 5 (.int k n) = some (.int .u8 (IntKind.u8.wrap n)) := HL.conv_int Tryz.underlying85 Tryz.underlying5
@[go_sem] theorem T.cv85_6 {V : HL.HV} {k : IntKind} {n : Int} : HL.convV Tryz.prog V 85 6 (.int k n) = some (.int .u8 (IntKind.u8.wrap n)) := HL.conv_int Tryz.underlying85 Tryz.underlying6
@[go_sem] theorem T.cv85_12 {V : HL.HV} {k : IntKind} {n : Int} : HL.convV Tryz.prog V 85 12 (.int k n) = some (.int .u64 (IntKind.u64.wrap n)) := HL.conv_int Tryz.underlying85 Tryz.underlying12
@[go_sem] theorem T.cv85_21 {V : HL.HV} {k : IntKind} {n : Int} : HL.convV Tryz.prog V 85 21 (.int k n) = some (.int .i32 (IntKind.i32.wrap n)) := HL.conv_int Tryz.underlying85 Tryz.underlying21
@[go_sem] theorem T.cv85_26 {V : HL.HV} {k : IntKind} {n : Int} : HL.convV Tryz.prog V 85 26 (.int k n) = some (.int .i64 (IntKind.i64.wrap n)) := HL.conv_int Tryz.underlying85 Tryz.underlying26
@[go_sem] theorem T.cv85_85 {V : HL.HV} {k : IntKind} {n : Int} : HL.convV Tryz.prog V 85 85 (.int k n) = some (.int .u64 (IntKind.u64.wrap n)) := HL.conv_int Tryz.underlying85 Tryz.underlying85
@[go_sem] theorem T.cv85_86 {V : HL.HV} {k : IntKind} {n : Int} : HL.convV Tryz.prog V 85 86 (.int k n) = some (.int .i8 (IntKind.i8.wrap n)) := HL.conv_int Tryz.underlying85 Tryz.underlying86
@[go_sem] theorem T.cv85_101 {V : HL.HV} {k : IntKind} {n : Int} : HL.convV Tryz.prog V 85 101 (.int k n) = some (.int .i64 (IntKind.i64.wrap n)) := HL.conv_int Tryz.underlying85 Tryz.underlying101
@[go_sem] theorem T.cv85_108 {V : HL.HV} {k : IntKind} {n : Int} : HL.convV Tryz.prog V 85 108 (.int k n) = some (.int .u32 (IntKind.u32.wrap n)) := HL.conv_int Tryz.underlying85 Tryz.underlying108
@[go_sem] theorem T.cv85_110 {V : HL.HV} {k : IntKind} {n : Int} : HL.convV Tryz.prog V 85 110 (.int k n) = some (.int .u64 (IntKind.u64.wrap n)) := HL.conv_int Tryz.underlying85 Tryz.underlying110
@[go_sem] theorem T.cv85_115 {V : HL.HV} {k : IntKind} {n : Int} : HL.convV Tryz.prog V 85 115 (.int k n) = some (.int .u64 (IntKind.u64.wrap n)) := HL.conv_int Tryz.underlying85 Tryz.underlying115
@[go_sem] theorem T.cv85_134 {V : HL.HV} {k : IntKind} {n : Int} : HL.convV Tryz.prog V 85 134 (.int k n) = some (.int .u8 (IntKind.u8.wrap n)) := HL.conv_int Tryz.underlying85 Tryz.underlying134
@[go_sem] theorem T.cv85_135 {V : HL.HV} {k : IntKind} {n : Int} : HL.convV Tryz.prog V 85 135 (.int k n) = some (.int .u8 (IntKind.u8.wrap n)) := HL.conv_int Tryz.underlying85 Tryz.underlying135
@[go_sem] theorem T.cv85_138 {V : HL.HV} {k : IntKind} {n : Int} : HL.convV Tryz.prog V 85 138 (.int k n) = some (.int .i32 (IntKind.i32.wrap n)) := HL.conv_int Tryz.underlying85 Tryz.underlying138
@[go_sem] theorem T.cv85_139 {V : HL.HV} {k : IntKind} {n : Int} : HL.convV Tryz.prog V 85 139 (.int k n) = some (.int .i32 (IntKind.i32.wrap n)) := HL.conv_int Tryz.underlying85 Tryz.underlying139
@[go_sem] theorem T.cv86_2 {V : HL.HV} {k : IntKind} {n : Int} : HL.convV Tryz.prog V 86 2 (.int k n) = some (.int .i64 (IntKind.i64.wrap n)) := HL.conv_int Tryz.underlying86 Tryz.underlying2
@[go_sem] theorem T.cv86_3 {V : HL.HV} {k : IntKind} {n : Int} : HL.convV Tryz.prog V 86 3 (.int k n) = some (.int .i64 (IntKind.i64.wrap n)) := HL.conv_int Tryz.underlying86 Tryz.underlying3
@[go_sem] theorem T.cv86_5 {V : HL.HV} {k : IntKind} {n : Int} : HL.convV Tryz.prog V 86 5 (.int k n) = some (.int .u8 (IntKind.u8.wrap n)) := HL.conv_int Tryz.underlying86 Tryz.underlying5
@[go_sem] theorem T.cv86_6 {V : HL.HV} {k : IntKind} {n : Int} : HL.convV Tryz.prog V 86 6 (.int k n) = some (.int .u8 (IntKind.u8.wrap n)) := HL.conv_int Tryz.underlying86 Tryz.underlying6
@[go_sem] theorem T.cv86_12 {V : HL.HV} {k : IntKind} {n : Int} : HL.convV Tryz.prog V 86 12 (.int k n) = some (.int .u64 (IntKind.u64.wrap n)) := HL.conv_int Tryz.underlying86 Tryz.underlying12
@[go_sem] theorem T.cv86_21 {V : HL.HV} {k : IntKind} {n : Int} : HL.convV Tryz.prog V 86 21 (.int k n) = some (.int .i32 (IntKind.i32.wrap n)) := HL.conv_int Tryz.underlying86 Tryz.underlying21
@[go_sem] theorem T.cv86_26 {V : HL.HV} {k : IntKind} {n : Int} : HL.convV Tryz.prog V 86 26 (.int k n) = some (.int .i64 (IntKind.i64.wrap n)) := HL.conv_int Tryz.underlying86 Tryz.underlying26
@[go_sem] theorem T.cv86_85 {V : HL.HV} {k : IntKind} {n : Int} : HL.convV Tryz.prog V 86 85 (.int k n) = some (.int .u64 (IntKind.u64.wrap n)) := HL.conv_int Tryz.underlying86 Tryz.underlying85
@[go_sem] theorem T.cv86_86 {V : HL.HV} {k : IntKind} {n : Int} : HL.convV Tryz.prog V 86 86 (.int k n) = some (.int .i8 (IntKind.i8.wrap n)) := HL.conv_int Tryz.underlying86 Tryz.underlying86
@[go_sem] theorem T.cv86_101 {V : HL.HV} {k : IntKind} {n : Int} : HL.convV Tryz.prog V 86 101 (.int k n) = some (.int .i64 (IntKind.i64.wrap n)) := HL.conv_int Tryz.underlying86 Tryz.underlying101
@[go_sem] theorem T.cv86_108 {V : HL.HV} {k : IntKind} {n : Int} : HL.convV Tryz.prog V 86 108 (.int k n) = some (.int .u32 (IntKind.u32.wrap n)) := HL.conv_int Tryz.underlying86 Tryz.underlying108
@[go_sem] theorem T.cv86_110 {V : HL.HV} {k : IntKind} {n : Int} : HL.convV Tryz.prog V 86 110 (.int k n) = some (.int .u64 (IntKind.u64.wrap n)) := HL.conv_int Tryz.underlying86 Tryz.underlying110
@[go_sem] theorem T.cv86_115 {V : HL.HV} {k : IntKind} {n : Int} : HL.convV Tryz.prog V 86 115 (.int k n) = some (.int .u64 (IntKind.u64.wrap n)) := HL.conv_int Tryz.underlying86 Tryz.underlying115
@[go_sem] theorem T.cv86_134 {V : HL.HV} {k : IntKind} {n : Int} : HL.convV Tryz.prog V 86 134 (.int k n) = some (.int .u8 (IntKind.u8.wrap n)) := HL.conv_int Tryz.underlying86 Tryz.underlying134
@[go_sem] theorem T.cv86_135 {V : HL.HV} {k : IntKind} {n : Int} : HL.convV Tryz.prog V 86 135 (.int k n) = some (.int .u8 (IntKind.u8.wrap n)) := HL.conv_int Tryz.underlying86 Tryz.underlying135
@[go_sem] theorem T.cv86_138 {V : HL.HV} {k : IntKind} {n : Int} : HL.convV Tryz.prog V 86 138 (.int k n) = some (.int .i32 (IntKind.i32.wrap n)) := HL.conv_int Tryz.underlying86 Tryz.underlying138
@[go_sem] theorem T.cv86_139 {V : HL.HV} {k : IntKind} {n : Int} : HL.convV Tryz.prog V 86 139 (.int k n) = some (.int .i32 (IntKind.i32.wrap n)) := HL.conv_int Tryz.underlying86 Tryz.underlying139
@[go_sem] theorem T.cv101_2 {V : HL.HV} {k : IntKind} {n : Int} : HL.convV Tryz.prog V 101 2 (.int k n) = some (.int .i64 (IntKind.i64.wrap n)) := HL.conv_int Tryz.underlying101 Tryz.underlying2
@[go_sem] theorem T.cv101_3 {V : HL.HV} {k : IntKind} {n : Int} : HL.convV Tryz.prog V 101 3 (.int k n) = some (.int .i64 (IntKind.i64.wrap n)) := HL.conv_int Tryz.underlying101 Tryz.underlying3
@[go_sem] theorem T.cv101_5 {V : HL.HV} {k : IntKind} {n : Int} : HL.convV Tryz.prog V 101 5 (.int k n) = some (.int .u8 (IntKind.u8.wrap n)) := HL.conv_int Tryz.underlying101 Tryz.underlying5
@[go_sem] theorem T.cv101_6 {V : HL.HV} {k : IntKind} {n : Int} : HL.convV Tryz.prog V 101 6 (.int k n) = some (.int .u8 (IntKind.u8.wrap n)) := HL.conv_int Tryz.underlying101 Tryz.underlying6
@[go_sem] theorem T.cv101_12 {V : HL.HV} {k : IntKind} {n : Int} : HL.convV Tryz.prog V 101 12 (.int k n) = some (.int .u64 (IntKind.u64.wrap n)) := HL.conv_int Tryz.underlying101 Tryz.underlying12
@[go_sem] theorem T.cv101_21 {V : HL.HV} {k : IntKind} {n : Int} : HL.convV Tryz.prog V 101 21 (.int k n) = some (.int .i32 (IntKind.i32.wrap n)) := HL.conv_int Tryz.underlying101 Tryz.underlying21
@[go_sem] theorem T.cv101_26 {V : HL.HV} {k : IntKind} {n : Int} : HL.convV Tryz.prog V 101 26 (.int k n) = some (.int .i64 (IntKind.i64.wrap n)) := HL.conv_int Tryz.underlying101 Tryz.underlying26
@[go_sem] theorem T.cv101_85 {V : HL.HV} {k : IntKind} {n : Int} : HL.convV Tryz.prog V 101 85 (.int k n) = some (.int .u64 (IntKind.u64.wrap n)) := HL.conv_int Tryz.underlying101 Tryz.underlying85
@[go_sem] theorem T.cv101_86 {V : HL.HV} {k : IntKind} {n : Int} : HL.convV Tryz.prog V 101 86 (.int k n) = some (.int .i8 (IntKind.i8.wrap n)) := HL.conv_int Tryz.underlying101 Tryz.underlying86
@[go_sem] theorem T.cv101_101 {V : HL.HV} {k : IntKind} {n : Int} : HL.convV Tryz.prog V 101 101 (.int k n) = some (.int .i64 (IntKind.i64.wrap n)) := HL.conv_int Tryz.underlying101 Tryz.underlying101
@[go_sem] theorem T.cv101_108 {V : HL.HV} {k : IntKind} {n : Int} : HL.convV Tryz.prog V 101 108 (.int k n) = some (.int .u32 (IntKind.u32.wrap n)) := HL.conv_int Tryz.underlying101 Tryz.underlying108
@[go_sem] theorem T.cv101_110 {V : HL.HV} {k : IntKind} {n : Int} : HL.convV Tryz.prog V 101 110 (.int k n) = some (.int .u64 (IntKind.u64.wrap n)) := HL.conv_int Tryz.underlying101 Tryz.underlying110
@[go_sem] theorem T.cv101_115 {V : HL.HV} {k : IntKind} {n : Int} : HL.convV Tryz.prog V 101 115 (.int k n) = some (.int .u64 (IntKind.u64.wrap n)) := HL.conv_int Tryz.underlying101 Tryz.underlying115
@[go_sem] theorem T.cv101_134 {V : HL.HV} {k : IntKind} {n : Int} : HL.convV Tryz.prog V 101 134 (.int k n) = some (.int .u8 (IntKind.u8.wrap n)) := HL.conv_int Tryz.underlying101 Tryz.underlying134
@[go_sem] theorem T.cv101_135 {V : HL.HV} {k : IntKind} {n : Int} : HL.convV Tryz.prog V 101 135 (.int k n) = some (.int .u8 (IntKind.u8.wrap n)) := HL.conv_int Tryz.underlying101 Tryz.underlying135
@[go_sem] theorem T.cv101_138 {V : HL.HV} {k : IntKind} {n : Int} : HL.convV Tryz.prog V 101 138 (.int k n) = some (.int .i32 (IntKind.i32.wrap n)) := HL.conv_int Tryz.underlying101 Tryz.underlying138
@[go_sem] theorem T.cv101_139 {V : HL.HV} {k : IntKind} {n : Int} : HL.convV Tryz.prog V 101 139 (.int k n) = some (.int .i32 (IntKind.i32.wrap n)) := HL.conv_int Tryz.underlying101 Tryz.underlying139
@[go_sem] theorem T.cv108_2 {V : HL.HV} {k : IntKind} {n : Int} : HL.convV Tryz.prog V 108 2 (.int k n) = some (.int .i64 (IntKind.i64.wrap n)) := HL.conv_int Tryz.underlying108 Tryz.underlying2
@[go_sem] theorem T.cv108_3 {V : HL.HV} {k : IntKind} {n : Int} : HL.convV Tryz.prog V 108 3 (.int k n) = some (.int .i64 (IntKind.i64.wrap n)) := HL.conv_int Tryz.underlying108 Tryz.underlying3
@[go_sem] theorem T.cv108_5 {V : HL.HV} {k : IntKind} {n : Int} : HL.convV Tryz.prog V 108 5 (.int k n) = some (.int .u8 (IntKind.u8.wrap n)) := HL.conv_int Tryz.underlying108 Tryz.underlying5
@[go_sem] theorem T.cv108_6 {V : HL.HV} {k : IntKind} {n : Int} : HL.convV Tryz.prog V 108 6 (.int k n) = some (.int .u8 (IntKind.u8.wrap n)) := HL.conv_int Tryz.underlying108 Tryz.underlying6
@[go_sem] theorem T.cv108_12 {V : HL.HV} {k : IntKind} {n : Int} : HL.convV Tryz.prog V 108 12 (.int k n) = some (.int .u64 (IntKind.u64.wrap n)) := HL.conv_int Tryz.underlying108 Tryz.underlying12
@[go_sem] theorem T.cv108_21 {V : HL.HV} {k : IntKind} {n : Int} : HL.convV Tryz.prog V 108 21 (.int k n) = some (.int .i32 (IntKind.i32.wrap n)) := HL.conv_int Tryz.underlying108 Tryz.underlying21
@[go_sem] theorem T.cv108_26 {V : HL.HV} {k : IntKind} {n : Int} : HL.convV Tryz.prog V 108 26 (.int k n) = some (.int .i64 (IntKind.i64.wrap n)) := HL.conv_int Tryz.underlying108 Tryz.underlying26
@[go_sem] theorem T.cv108_85 {V : HL.HV} {k : IntKind} {n : Int} : HL.convV Tryz.prog V 108 85 (.int k n) = some (.int .u64 (IntKind.u64.wrap n)) := HL.conv_int Tryz.underlying108 Tryz.underlying85
@[go_sem] theorem T.cv108_86 {V : HL.HV} {k : IntKind} {n : Int} : HL.convV Tryz.prog V 108 86 (.int k n) = some (.int .i8 (IntKind.i8.wrap n)) := HL.conv_int Tryz.underlying108 Tryz.underlying86
@[go_sem] theorem T.cv108_101 {V : HL.HV} {k : IntKind} {n : Int} : HL.convV Tryz.prog V 108 101 (.int k n) = some (.int .i64 (IntKind.i64.wrap n)) := HL.conv_int Tryz.underlying108 Tryz.underlying101
@[go_sem] theorem T.cv108_108 {V : HL.HV} {k : IntKind} {n : Int} : HL.convV Tryz.prog V 108 108 (.int k n) = some (.int .u32 (IntKind.u32.wrap n)) := HL.conv_int Tryz.underlying108 Tryz.underlying108
@[go_sem] theorem T.cv108_110 {V : HL.HV} {k : IntKind} {n : Int} : HL.convV Tryz.prog V 108 110 (.int k n) = some (.int .u64 (IntKind.u64.wrap n)) := HL.conv_int Tryz.underlying108 Tryz.underlying110
@[go_sem] theorem T.cv108_115 {V : HL.HV} {k : IntKind} {n : Int} : HL.convV Tryz.prog V 108 115 (.int k n) = some (.int .u64 (IntKind.u64.wrap n)) := HL.conv_int Tryz.underlying108 Tryz.underlying115
@[go_sem] theorem T.cv108_134 {V : HL.HV} {k : IntKind} {n : Int} : HL.convV Tryz.prog V 108 134 (.int k n) = some (.int .u8 (IntKind.u8.wrap n)) := HL.conv_int Tryz.underlying108 Tryz.underlying134
@[go_sem] theorem T.cv108_135 {V : HL.HV} {k : IntKind} {n : Int} : HL.convV Tryz.prog V 108 135 (.int k n) = some (.int .u8 (IntKind.u8.wrap n)) := HL.conv_int Tryz.underlying108 Tryz.underlying135
@[go_sem] theorem T.cv108_138 {V : HL.HV} {k : IntKind} {n : Int} : HL.convV Tryz.prog V 108 138 (.int k n) = some (.int .i32 (IntKind.i32.wrap n)) := HL.conv_int Tryz.underlying108 Tryz.underlying138
@[go_sem] theorem T.cv108_139 {V : HL.HV} {k : IntKind} {n : Int} : HL.convV Tryz.prog V 108 139 (.int k n) = some (.int .i32 (IntKind.i32.wrap n)) := HL.conv_int Tryz.underlying108 Tryz.underlying139
@[go_sem] theorem T.cv110_2 {V : HL.HV} {k : IntKind} {n : Int} : HL.convV Tryz.prog V 110 2 (.int k n) = some (.int .i64 (IntKind.i64.wrap n)) := HL.conv_int Tryz.underlying110 Tryz.underlying2
@[go_sem] theorem T.cv110_3 {V : HL.HV} {k : IntKind} {n : Int} : HL.convV Tryz.prog V 110 3 (.int k n) = some (.int .i64 (IntKind.i64.wrap n)) := HL.conv_int Tryz.underlying110 Tryz.underlying3
@[go_sem] theorem T.cv110_5 {V : HL.HV} {k : IntKind} {n : Int} : HL.convV Tryz.prog V 110 5 (.int k n) = some (.int .u8 (IntKind.u8.wrap n)) := HL.conv_int Tryz.underlying110 Tryz.underlying5
@[go_sem] theorem T.cv110_6 {V : HL.HV} {k : IntKind} {n : Int} : HL.convV Tryz.prog V 110 6 (.int k n) = some (.int .u8 (IntKind.u8.wrap n)) := HL.conv_int Tryz.underlying110 Tryz.underlying6
@[go_sem] theorem T.cv110_12 {V : HL.HV} {k : IntKind} {n : Int} : HL.convV Tryz.prog V 110 12 (.int k n) = some (.int .u64 (IntKind.u64.wrap n)) := HL.conv_int Tryz.underlying110 Tryz.underlying12
@[go_sem] theorem T.cv110_21 {V : HL.HV} {k : IntKind} {n : Int} : HL.convV Tryz.prog V 110 21 (.int k n) = some (.int .i32 (IntKind.i32.wrap n)) := HL.conv_int Tryz.underlying110 Tryz.underlying21
@[go_sem] theorem T.cv110_26 {V : HL.HV} {k : IntKind} {n : Int} : HL.convV Tryz.prog V 110 26 (.int k n) = some (.int .i64 (IntKind.i64.wrap n)) := HL.conv_int Tryz.underlying110 Tryz.underlying26
@[go_sem] theorem T.cv110_85 {V : HL.HV} {k : IntKind} {n : Int} : HL.convV Tryz.prog V 110 85 (.int k n) = some (.int .u64 (IntKind.u64.wrap n)) := HL.conv_int Tryz.underlying110 Tryz.underlying85
@[go_sem] theorem T.cv110_86 {V : HL.HV} {k : IntKind} {n : Int} : HL.convV Tryz.prog V 110 86 (.int k n) = some (.int .i8 (IntKind.i8.wrap n)) := HL.conv_int Tryz.underlying110 Tryz.underlying86
@[go_sem] theorem T.cv110_101 {V : HL.HV} {k : IntKind} {n : Int} : HL.convV Tryz.prog V 110 101 (.int k n) = some (.int .i64 (IntKind.i64.wrap n)) := HL.conv_int Tryz.underlying110 Tryz.underlying101
@[go_sem] theorem T.cv110_108 {V : HL.HV} {k : IntKind} {n : Int} : HL.convV Tryz.prog V 110 108 (.int k n) = some (.int .u32 (IntKind.u32.wrap n)) := HL.conv_int Tryz.underlying110 Tryz.underlying108
@[go_sem] theorem T.cv110_110 {V : HL.HV} {k : IntKind} {n : Int} : HL.convV Tryz.prog V 110 110 (.int k n) = some (.int .u64 (IntKind.u64.wrap n)) := HL.conv_int Tryz.underlying110 Tryz.underlying110
@[go_sem] theorem T.cv110_115 {V : HL.HV} {k : IntKind} {n : Int} : HL.convV Tryz.prog V 110 115 (.int k n) = some (.int .u64 (IntKind.u64.wrap n)) := HL.conv_int Tryz.underlying110 Tryz.underlying115
@[go_sem] theorem T.cv110_134 {V : HL.HV} {k : IntKind} {n : Int} : HL.convV Tryz.prog V 110 134 (.int k n) = some (.int .u8 (IntKind.u8.wrap n)) := HL.conv_int Tryz.underlying110 Tryz.underlying134
@[go_sem] theorem T.cv110_135 {V : HL.HV} {k : IntKind} {n : Int} : HL.convV Tryz.prog V 110 135 (.int k n) = some (.int .u8 (IntKind.u8.wrap n)) := HL.conv_int Tryz.underlying110 Tryz.underlying135
@[go_sem] theorem T.cv110_138 {V : HL.HV} {k : IntKind} {n : Int} : HL.convV Tryz.prog V 110 138 (.int k n) = some (.int .i32 (IntKind.i32.wrap n)) := HL.conv_int Tryz.underlying110 Tryz.underlying138
@[go_sem] theorem T.cv110_139 {V : HL.HV} {k : IntKind} {n : Int} : HL.convV Tryz.prog V 110 139 (.int k n) = some (.int .i32 (IntKind.i32.wrap n)) := HL.conv_int Tryz.underlying110 Tryz.underlying139
@[go_sem] theorem T.cv115_2 {V : HL.HV} {k : IntKind} {n : Int} : HL.convV Tryz.prog V 115 2 (.int k n) = some (.int .i64 (IntKind.i64.wrap n)) := HL.conv_int Tryz.underlying115 Tryz.underlying2
@[go_sem] theorem T.cv115_3 {V : HL.HV} {k : IntKind} {n : Int} : HL.convV Tryz.prog V 115 3 (.int k n) = some (.int .i64 (IntKind.i64.wrap n)) := HL.conv_int Tryz.underlying115 Tryz.underlying3
@[go_sem] theorem T.cv115_5 {V : HL.HV} {k : IntKind} {n : Int} : HL.convV Tryz.prog V 115 5 (.int k n) = some (.int .u8 (IntKind.u8.wrap n)) := HL.conv_int Tryz.underlying115 Tryz.underlying5
@[go_sem] theorem T.cv115_6 {V : HL.HV} {k : IntKind} {n : Int} : HL.convV Tryz.prog V 115 6 (.int k n) = some (.int .u8 (IntKind.u8.wrap n)) := HL.conv_int Tryz.underlying115 Tryz.underlying6
@[go_sem] theorem T.cv115_12 {V : HL.HV} {k : IntKind} {n : Int} : HL.convV Tryz.prog V 115 12 (.int k n) = some (.int .u64 (IntKind.u64.wrap n)) := HL.conv_int Tryz.underlying115 Tryz.underlying12
@[go_sem] theorem T.cv115_21 {V : HL.HV} {k : IntKind} {n : Int} : HL.convV Tryz.prog V 115 21 (.int k n) = some (.int .i32 (IntKind.i32.wrap n)) := HL.conv_int Tryz.underlying115 Tryz.underlying21
@[go_sem] theorem T.cv115_26 {V : HL.HV} {k : IntKind} {n : Int} : HL.convV Tryz.prog V 115 26 (.int k n) = some (.int .i64 (IntKind.i64.wrap n)) := HL.conv_int Tryz.underlying115 Tryz.underlying26
@[go_sem] theorem T.cv115_85 {V : HL.HV} {k : IntKind} {n : Int} : HL.convV Tryz.prog V 115 85 (.int k n) = some (.int .u64 (IntKind.u64.wrap n)) := HL.conv_int Tryz.underlying115 Tryz.underlying85
@[go_sem] theorem T.cv115_86 {V : HL.HV} {k : IntKind} {n : Int} : HL.convV Tryz.prog V 115 86 (.int k n) = some (.int .i8 (IntKind.i8.wrap n)) := HL.conv_int Tryz.underlying115 Tryz.underlying86
@[go_sem] theorem T.cv115_101 {V : HL.HV} {k : IntKind} {n : Int} : HL.convV Tryz.prog V 115 101 (.int k n) = some (.int .i64 (IntKind.i64.wrap n)) := HL.conv_int Tryz.underlying115 Tryz.underlying101
@[go_sem] theorem T.cv115_108 {V : HL.HV} {k : IntKind} {n : Int} : HL.convV Tryz.prog V 115 108 (.int k n) = some (.int .u32 (IntKind.u32.wrap n)) := HL.conv_int Tryz.underlying115 Tryz.underlying108
@[go_sem] theorem T.cv115_110 {V : HL.HV} {k : IntKind} {n : Int} : HL.convV Tryz.prog V 115 110 (.int k n) = some (.int .u64 (IntKind.u64.wrap n)) := HL.conv_int Tryz.underlying115 Tryz.underlying110
@[go_sem] theorem T.cv115_115 {V : HL.HV} {k : IntKind} {n : Int} : HL.convV Tryz.prog V 115 115 (.int k n) = some (.int .u64 (IntKind.u64.wrap n)) := HL.conv_int Tryz.underlying115 Tryz.underlying115
@[go_sem] theorem T.cv115_134 {V : HL.HV} {k : IntKind} {n : Int} : HL.convV Tryz.prog V 115 134 (.int k n) = some (.int .u8 (IntKind.u8.wrap n)) := HL.conv_int Tryz.underlying115 Tryz.underlying134
@[go_sem] theorem T.cv115_135 {V : HL.HV} {k : IntKind} {n : Int} : HL.convV Tryz.prog V 115 135 (.int k n) = some (.int .u8 (IntKind.u8.wrap n)) := HL.conv_int Tryz.underlying115 Tryz.underlying135
@[go_sem] theorem T.cv115_138 {V : HL.HV} {k : IntKind} {n : Int} : HL.convV Tryz.prog V 115 138 (.int k n) = some (.int .i32 (IntKind.i32.wrap n)) := HL.conv_int Tryz.underlying115 Tryz.underlying138
@[go_sem] theorem T.cv115_139 {V : HL.HV} {k : IntKind} {n : Int} : HL.convV Tryz.prog V 115 139 (.int k n) = some (.int .i32 (IntKind.i32.wrap n)) := HL.conv_int Tryz.underlying115 Tryz.underlying139
@[go_sem] theorem T.cv134_2 {V : HL.HV} {k : IntKind} {n : Int} : HL.convV Tryz.prog V 134 2 (.int k n) = some (.int .i64 (IntKind.i64.wrap n)) := HL.conv_int Tryz.underlying134 Tryz.underlying2
@[go_sem] theorem T.cv134_3 {V : HL.HV} {k : IntKind} {n : Int} : HL.convV Tryz.prog V 134 3 (.int k n) = some (.int .i64 (IntKind.i64.wrap n)) := HL.conv_int Tryz.underlying134 Tryz.underlying3
@[go_sem] theorem T.cv134_5 {V : HL.HV} {k : IntKind} {n : Int} : HL.convV Tryz.prog V 134 5 (.int k n) = some (.int .u8 (IntKind.u8.wrap n)) := HL.conv_int Tryz.underlying134 Tryz.underlying5
@[go_sem] theorem T.cv134_6 {V : HL.HV} {k : IntKind} {n : Int} : HL.convV Tryz.prog V 134 6 (.int k n) = some (.int .u8 (IntKind.u8.wrap n)) := HL.conv_int Tryz.underlying134 Tryz.underlying6
@[go_sem] theorem T.cv134_12 {V : HL.HV} {k : IntKind} {n : Int} : HL.convV Tryz.prog V 134 12 (.int k n) = some (.int .u64 (IntKind.u64.wrap n)) := HL.conv_int Tryz.underlying134 Tryz.underlying12
@[go_sem] theorem T.cv134_21 {V : HL.HV} {k : IntKind} {n : Int} : HL.convV Tryz.prog V 134 21 (.int k n) = some (.int .i32 (IntKind.i32.wrap n)) := HL.conv_int Tryz.underlying134 Tryz.underlying21
@[go_sem] theorem T.cv134_26 {V : HL.HV} {k : IntKind} {n : Int} : HL.convV Tryz.prog V 134 26 (.int k n) = some (.int .i64 (IntKind.i64.wrap n)) := HL.conv_int Tryz.underlying134 Tryz.underlying26
@[go_sem] theorem T.cv134_85 {V : HL.HV} {k : IntKind} {n : Int} : HL.convV Tryz.prog V 134 85 (.int k n) = some (.int .u64 (IntKind.u64.wrap n)) := HL.conv_int Tryz.underlying134 Tryz.underlying85
@[go_sem] theorem T.cv134_86 {V : HL.HV} {k : IntKind} {n : Int} : HL.convV Tryz.prog V 134 86 (.int k n) = some (.int .i8 (IntKind.i8.wrap n)) := HL.conv_int Tryz.underlying134 Tryz.underlying86
@[go_sem] theorem T.cv134_101 {V : HL.HV} {k : IntKind} {n : Int} : HL.convV Tryz.prog V 134 101 (.int k n) = some (.int .i64 (IntKind.i64.wrap n)) := HL.conv_int Tryz.underlying134 Tryz.underlying101
@[go_sem] theorem T.cv134_108 {V : HL.HV} {k : IntKind} {n : Int} : HL.convV Tryz.prog V 134 108 (.int k n) = some (.int .u32 (IntKind.u32.wrap n)) := HL.conv_int Tryz.underlying134 Tryz.underlying108
@[go_sem] theorem T.cv134_110 {V : HL.HV} {k : IntKind} {n : Int} : HL.convV Tryz.prog V 134 110 (.int k n) = some (.int .u64 (IntKind.u64.wrap n)) := HL.conv_int Tryz.underlying134 Tryz.underlying110
@[go_sem] theorem T.cv134_115 {V : HL.HV} {k : IntKind} {n : Int} : HL.convV Tryz.prog V 134 115 (.int k n) = some (.int .u64 (IntKind.u64.wrap n)) := HL.conv_int Tryz.underlying134 Tryz.underlying115
@[go_sem] theorem T.cv134_134 {V : HL.HV} {k : IntKind} {n : Int} : HL.convV Tryz.prog V 134 134 (.int k n) = some (.int .u8 (IntKind.u8.wrap n)) := HL.conv_int Tryz.underlying134 Tryz.underlying134
@[go_sem] theorem T.cv134_135 {V : HL.HV} {k : IntKind} {n : Int} : HL.convV Tryz.prog V 134 135 (.int k n) = some (.int .u8 (IntKind.u8.wrap n)) := HL.conv_int Tryz.underlying134 Tryz.underlying135
@[go_sem] theorem T.cv134_138 {V : HL.HV} {k : IntKind} {n : Int} : HL.convV Tryz.prog V 134 138 (.int k n) = some (.int .i32 (IntKind.i32.wrap n)) := HL.conv_int Tryz.underlying134 Tryz.underlying138
@[go_sem] theorem T.cv134_139 {V : HL.HV} {k : IntKind} {n : Int} : HL.convV Tryz.prog V 134 139 (.int k n) = some (.int .i32 (IntKind.i32.wrap n)) := HL.conv_int Tryz.underlying134 Tryz.underlying139
@[go_sem] theorem T.cv135_2 {V : HL.HV} {k : IntKind} {n : Int} : HL.convV Tryz.prog V 135 2 (.int k n) = some (.int .i64 (IntKind.i64.wrap n)) := HL.conv_int Tryz.underlying135 Tryz.underlying2
@[go_sem] theorem T.cv135_3 {V : HL.HV} {k : IntKind} {n : Int} : HL.convV Tryz.prog V 135 3 (.int k n) = some (.int .i64 (IntKind.i64.wrap n)) := HL.conv_int Tryz.underlying135 Tryz.underlying3
@[go_sem] theorem T.cv135_5 {V : HL.HV} {k : IntKind} {n : Int} : HL.convV Tryz.prog V 135 5 (.int k n) = some (.int .u8 (IntKind.u8.wrap n)) := HL.conv_int Tryz.underlying135 Tryz.underlying5
@[go_sem] theorem T.cv135_6 {V : HL.HV} {k : IntKind} {n : Int} : HL.convV Tryz.prog V 135 6 (.int k n) = some (.int .u8 (IntKind.u8.wrap n)) := HL.conv_int Tryz.underlying135 Tryz.underlying6
@[go_sem] theorem T.cv135_12 {V : HL.HV} {k : IntKind} {n : Int} : HL.convV Tryz.prog V 135 12 (.int k n) = some (.int .u64 (IntKind.u64.wrap n)) := HL.conv_int Tryz.underlying135 Tryz.underlying12
@[go_sem] theorem T.cv135_21 {V : HL.HV} {k : IntKind} {n : Int} : HL.convV Tryz.prog V 135 21 (.int k n) = some (.int .i32 (IntKind.i32.wrap n)) := HL.conv_int Tryz.underlying135 Tryz.underlying21
@[go_sem] theorem T.cv135_26 {V : HL.HV} {k : IntKind} {n : Int} : HL.convV Tryz.prog V 135 26 (.int k n) = some (.int .i64 (IntKind.i64.wrap n)) := HL.conv_int Tryz.underlying135 Tryz.underlying26
@[go_sem] theorem T.cv135_85 {V : HL.HV} {k : IntKind} {n : Int} : HL.convV Tryz.prog V 135 85 (.int k n) = some (.int .u64 (IntKind.u64.wrap n)) := HL.conv_int Tryz.underlying135 Tryz.underlying85
@[go_sem] theorem T.cv135_86 {V : HL.HV} {k : IntKind} {n : Int} : HL.convV Tryz.prog V 135 86 (.int k n) = some (.int .i8 (IntKind.i8.wrap n)) := HL.conv_int Tryz.underlying135 Tryz.underlying86
@[go_sem] theorem T.cv135_101 {V : HL.HV} {k : IntKind} {n : Int} : HL.convV Tryz.prog V 135 101 (.int k n) = some (.int .i64 (IntKind.i64.wrap n)) := HL.conv_int Tryz.underlying135 Tryz.underlying101
@[go_sem] theorem T.cv135_108 {V : HL.HV} {k : IntKind} {n : Int} : HL.convV Tryz.prog V 135 108 (.int k n) = some (.int .u32 (IntKind.u32.wrap n)) := HL.conv_int Tryz.underlying135 Tryz.underlying108
@[go_sem] theorem T.cv135_110 {V : HL.HV} {k : IntKind} {n : Int} : HL.convV Tryz.prog V 135 110 (.int k n) = some (.int .u64 (IntKind.u64.wrap n)) := HL.conv_int Tryz.underlying135 Tryz.underlying110
@[go_sem] theorem T.cv135_115 {V : HL.HV} {k : IntKind} {n : Int} : HL.convV Tryz.prog V 135 115 (.int k n) = some (.int .u64 (IntKind.u64.wrap n)) := HL.conv_int Tryz.underlying135 Tryz.underlying115
@[go_sem] theorem T.cv135_134 {V : HL.HV} {k : IntKind} {n : Int} : HL.convV Tryz.prog V 135 134 (.int k n) = some (.int .u8 (IntKind.u8.wrap n)) := HL.conv_int Tryz.underlying135 Tryz.underlying134
@[go_sem] theorem T.cv135_135 {V : HL.HV} {k : IntKind} {n : Int} : HL.convV Tryz.prog V 135 135 (.int k n) = some (.int .u8 (IntKind.u8.wrap n)) := HL.conv_int Tryz.underlying135 Tryz.underlying135
@[go_sem] theorem T.cv135_138 {V : HL.HV} {k : IntKind} {n : Int} : HL.convV Tryz.prog V 135 138 (.int k n) = some (.int .i32 (IntKind.i32.wrap n)) := HL.conv_int Tryz.underlying135 Tryz.underlying138
@[go_sem] theorem T.cv135_139 {V : HL.HV} {k : IntKind} {n : Int} : HL.convV Tryz.prog V 135 139 (.int k n) = some (.int .i32 (IntKind.i32.wrap n)) := HL.conv_int Tryz.underlying135 Tryz.underlying139
@[go_sem] theorem T.cv138_2 {V : HL.HV} {k : IntKind} {n : Int} : HL.convV Tryz.prog V 138 2 (.int k n) = some (.int .i64 (IntKind.i64.wrap n)) := HL.conv_int Tryz.underlying138 Tryz.underlying2
@[go_sem] theorem T.cv138_3 {V : HL.HV} {k : IntKind} {n : Int} : HL.convV Tryz.prog V 138 3 (.int k n) = some (.int .i64 (IntKind.i64.wrap n)) := HL.conv_int Tryz.underlying138 Tryz.underlying3
@[go_sem] theorem T.cv138_5 {V : HL.HV} {k : IntKind} {n : Int} : HL.convV Tryz.prog V 138 5 (.int k n) = some (.int .u8 (IntKind.u8.wrap n)) := HL.conv_int Tryz.underlying138 Tryz.underlying5
@[go_sem] theorem T.cv138_6 {V : HL.HV} {k : IntKind} {n : Int} : HL.convV Tryz.prog V 138 6 (.int k n) = some (.int .u8 (IntKind.u8.wrap n)) := HL.conv_int Tryz.underlying138 Tryz.underlying6
@[go_sem] theorem T.cv138_12 {V : HL.HV} {k : IntKind} {n : Int} : HL.convV Tryz.prog V 138 12 (.int k n) = some (.int .u64 (IntKind.u64.wrap n)) := HL.conv_int Tryz.underlying138 Tryz.underlying12
@[go_sem] theorem T.cv138_21 {V : HL.HV} {k : IntKind} {n : Int} : HL.convV Tryz.prog V 138 21 (.int k n) = some (.int .i32 (IntKind.i32.wrap n)) := HL.conv_int Tryz.underlying138 Tryz.underlying21
@[go_sem] theorem T.cv138_26 {V : HL.HV} {k : IntKind} {n : Int} : HL.convV Tryz.prog V 138 26 (.int k n) = some (.int .i64 (IntKind.i64.wrap n)) := HL.conv_int Tryz.underlying138 Tryz.underlying26
@[go_sem] theorem T.cv138_85 {V : HL.HV} {k : IntKind} {n : Int} : HL.convV Tryz.prog V 138 85 (.int k n) = some (.int .u64 (IntKind.u64.wrap n)) := HL.conv_int Tryz.underlying138 Tryz.underlying85
@[go_sem] theorem T.cv138_86 {V : HL.HV} {k : IntKind} {n : Int} : HL.convV Tryz.prog V 138 86 (.int k n) = some (.int .i8 (IntKind.i8.wrap n)) := HL.conv_int Tryz.underlying138 Tryz.underlying86
@[go_sem] theorem T.cv138_101 {V : HL.HV} {k : IntKind} {n : Int} : HL.convV Tryz.prog V 138 101 (.int k n) = some (.int .i64 (IntKind.i64.wrap n)) := HL.conv_int Tryz.underlying138 Tryz.underlying101
@[go_sem] theorem T.cv138_108 {V : HL.HV} {k : IntKind} {n : Int} : HL.convV Tryz.prog V 138 108 (.int k n) = some (.int .u32 (IntKind.u32.wrap n)) := HL.conv_int Tryz.underlying138 Tryz.underlying108
@[go_sem] theorem T.cv138_110 {V : HL.HV} {k : IntKind} {n : Int} : HL.convV Tryz.prog V 138 110 (.int k n) = some (.int .u64 (IntKind.u64.wrap n)) := HL.conv_int Tryz.underlying138 Tryz.underlying110
@[go_sem] theorem T.cv138_115 {V : HL.HV} {k : IntKind} {n : Int} : HL.convV Tryz.prog V 138 115 (.int k n) = some (.int .u64 (IntKind.u64.wrap n)) := HL.conv_int Tryz.underlying138 Tryz.underlying115
@[go_sem] theorem T.cv138_134 {V : HL.HV} {k : IntKind} {n : Int} : HL.convV Tryz.prog V 138 134 (.int k n) = some (.int .u8 (IntKind.u8.wrap n)) := HL.conv_int Tryz.underlying138 Tryz.underlying134
@[go_sem] theorem T.cv138_135 {V : HL.HV} {k : IntKind} {n : Int} : HL.convV Tryz.prog V 138 135 (.int k n) = some (.int .u8 (IntKind.u8.wrap n)) := HL.conv_int Tryz.underlying138 Tryz.underlying135
@[go_sem] theorem T.cv138_138 {V : HL.HV} {k : IntKind} {n : Int} : HL.convV Tryz.prog V 138 138 (.int k n) = some (.int .i32 (IntKind.i32.wrap n)) := HL.conv_int Tryz.underlying138 Tryz.underlying138
@[go_sem] theorem T.cv138_139 {V : HL.HV} {k : IntKind} {n : Int} : HL.convV Tryz.prog V 138 139 (.int k n) = some (.int .i32 (IntKind.i32.wrap n)) := HL.conv_int Tryz.underlying138 Tryz.underlying139
@[go_sem] theorem T.cv139_2 {V : HL.HV} {k : IntKind} {n : Int} : HL.convV Tryz.prog V 139 2 (.int k n) = some (.int .i64 (IntKind.i64.wrap n)) := HL.conv_int Tryz.underlying139 Tryz.underlying2
@[go_sem] theorem T.cv139_3 {V : HL.HV} {k : IntKind} {n : Int} : HL.convV Tryz.prog V 139 3 (.int k n) = some (.int .i64 (IntKind.i64.wrap n)) := HL.conv_int Tryz.underlying139 Tryz.underlying3
@[go_sem] theorem T.cv139_5 {V : HL.HV} {k : IntKind} {n : Int} : HL.convV Tryz.prog V 139 5 (.int k n) = some (.int .u8 (IntKind.u8.wrap n)) := HL.conv_int Tryz.underlying139 Tryz.underlying5
@[go_sem] theorem T.cv139_6 {V : HL.HV} {k : IntKind} {n : Int} : HL.convV Tryz.prog V 139 6 (.int k n) = some (.int .u8 (IntKind.u8.wrap n)) := HL.conv_int Tryz.underlying139 Tryz.underlying6
@[go_sem] theorem T.cv139_12 {V : HL.HV} {k : IntKind} {n : Int} : HL.convV Tryz.prog V 139 12 (.int k n) = some (.int .u64 (IntKind.u64.wrap n)) := HL.conv_int Tryz.underlying139 Tryz.underlying12
@[go_sem] theorem T.cv139_21 {V : HL.HV} {k : IntKind} {n : Int} : HL.convV Tryz.prog V 139 21 (.int k n) = some (.int .i32 (IntKind.i32.wrap n)) := HL.conv_int Tryz.underlying139 Tryz.underlying21
@[go_sem] theorem T.cv139_26 {V : HL.HV} {k : IntKind} {n : Int} : HL.convV Tryz.prog V 139 26 (.int k n) = some (.int .i64 (IntKind.i64.wrap n)) := HL.conv_int Tryz.underlying139 Tryz.underlying26
@[go_sem] theorem T.cv139_85 {V : HL.HV} {k : IntKind} {n : Int} : HL.convV Tryz.prog V 139 85 (.int k n) = some (.int .u64 (IntKind.u64.wrap n)) := HL.conv_int Tryz.underlying139 Tryz.underlying85
@[go_sem] theorem T.cv139_86 {V : HL.HV} {k : IntKind} {n : Int} : HL.convV Tryz.prog V 139 86 (.int k n) = some (.int .i8 (IntKind.i8.wrap n)) := HL.conv_int Tryz.underlying139 Tryz.underlying86
@[go_sem] theorem T.cv139_101 {V : HL.HV} {k : IntKind} {n : Int} : HL.convV Tryz.prog V 139 101 (.int k n) = some (.int .i64 (IntKind.i64.wrap n)) := HL.conv_int Tryz.underlying139 Tryz.underlying101
@[go_sem] theorem T.cv139_108 {V : HL.HV} {k : IntKind} {n : Int} : HL.convV Tryz.prog V 139 108 (.int k n) = some (.int .u32 (IntKind.u32.wrap n)) := HL.conv_int Tryz.underlying139 Tryz.underlying108
@[go_sem] theorem T.cv139_110 {V : HL.HV} {k : IntKind} {n : Int} : HL.convV Tryz.prog V 139 110 (.int k n) = some (.int .u64 (IntKind.u64.wrap n)) := HL.conv_int Tryz.underlying139 Tryz.underlying110
@[go_sem] theorem T.cv139_115 {V : HL.HV} {k : IntKind} {n : Int} : HL.convV Tryz.prog V 139 115 (.int k n) = some (.int .u64 (IntKind.u64.wrap n)) := HL.conv_int Tryz.underlying139 Tryz.underlying115
@[go_sem] theorem T.cv139_134 {V : HL.HV} {k : IntKind} {n : Int} : HL.convV Tryz.prog V 139 134 (.int k n) = some (.int .u8 (IntKind.u8.wrap n)) := HL.conv_int Tryz.underlying139 Tryz.underlying134
@[go_sem] theorem T.cv139_135 {V : HL.HV} {k : IntKind} {n : Int} : HL.convV Tryz.prog V 139 135 (.int k n) = some (.int .u8 (IntKind.u8.wrap n)) := HL.conv_int Tryz.underlying139 Tryz.underlying135
@[go_sem] theorem T.cv139_138 {V : HL.HV} {k : IntKind} {n : Int} : HL.convV Tryz.prog V 139 138 (.int k n) = some (.int .i32 (IntKind.i32.wrap n)) := HL.conv_int Tryz.underlying139 Tryz.underlying138
@[go_sem] theorem T.cv139_139 {V : HL.HV} {k : IntKind} {n : Int} : HL.convV Tryz.prog V 139 139 (.int k n) = some (.int .i32 (IntKind.i32.wrap n)) := HL.conv_int Tryz.underlying139 Tryz.underlying139
@[go_sem] theorem T.bs39_1 {H : HL.Heap} {x0 : Bool} {a1 : Option Addr} {l1 c1 : Nat} : HL.buildSliceV Tryz.prog H 39 1 [(0, .agg #[.bool x0, .slice a1 l1 c1])] = some (.slice (some ⟨H.size, 0, none⟩) 1 1, H.push (.cells #[.bool x0, .slice a1 l1 c1] 42)) := HL.bsl_of (vs := [.agg #[.bool x0, .slice a1 l1 c1]]) T.elem39 T.size42 T.zero42 (Nat.le_of_ble_eq_true rfl) rfl rfl
@[go_sem] theorem T.bs39_2 {H : HL.Heap} {x0 : Bool} {a1 : Option Addr} {l1 c1 : Nat} {x2 : Bool} {a3 : Option Addr} {l3 c3 : Nat} : HL.buildSliceV Tryz.prog H 39 2 [(0, .agg #[.bool x0, .slice a1 l1 c1]), (1, .agg #[.bool x2, .slice a3 l3 c3])] = some (.slice (some ⟨H.size, 0, none⟩) 2 2, H.push (.cells #[.bool x0, .slice a1 l1 c1, .bool x2, .slice a3 l3 c3] 42)) := HL.bsl_of (vs := [.agg #[.bool x0, .slice a1 l1 c1], .agg #[.bool x2, .slice a3 l3 c3]]) T.elem39 T.size42 T.zero42 (Nat.le_of_ble_eq_true rfl) rfl rfl
@[go_sem] theorem T.bs39_3 {H : HL.Heap} {x0 : Bool} {a1 : Option Addr} {l1 c1 : Nat} {x2 : Bool} {a3 : Option Addr} {l3 c3 : Nat} {x4 : Bool} {a5 : Option Addr} {l5 c5 : Nat} : HL.buildSliceV Tryz.prog H 39 3 [(0, .agg #[.bool x0, .slice a1 l1 c1]), (1, .agg #[.bool x2, .slice a3 l3 c3]), (2, .agg #[.bool x4, .slice a5 l5 c5])] = some (.slice (some ⟨H.size, 0, none⟩) 3 3, H.push (.cells #[.bool x0, .slice a1 l1 c1, .bool x2, .slice a3 l3 c3, .bool x4, .slice a5 l5 c5] 42)) := HL.bsl_of (vs := [.agg #[.bool x0, .slice a1 l1 c1], .agg #[.bool x2, .slice a3 l3 c3], .agg #[.bool x4, .slice a5 l5 c5]]) T.elem39 T.size42 T.zero42 (Nat.le_of_ble_eq_true rfl) rfl rfl
@[go_sem] theorem T.bs39_4 {H : HL.Heap} {x0 : Bool} {a1 : Option Addr} {l1 c1 : Nat} {x2 : Bool} {a3 : Option Addr} {l3 c3 : Nat} {x4 : Bool} {a5 : Option Addr} {l5 c5 : Nat} {x6 : Bool} {a7 : Option Addr} {l7 c7 : Nat} : HL.buildSliceV Tryz.prog H 39 4 [(0, .agg #[.bool x0, .slice a1 l1 c1]), (1, .agg #[.bool x2, .slice a3 l3 c3]), (2, .agg #[.bool x4, .slice a5 l5 c5]), (3, .agg #[.bool x6, .slice a7 l7 c7])] = some (.slice (some ⟨H.size, 0, none⟩) 4 4, H.push (.cells #[.bool x0, .slice a1 l1 c1, .bool x2, .slice a3 l3 c3, .bool x4, .slice a5 l5 c5, .bool x6, .slice a7 l7 c7] 42)) := HL.bsl_of (vs := [.agg #[.bool x0, .slice a1 l1 c1], .agg #[.bool x2, .slice a3 l3 c3], .agg #[.bool x4, .slice a5 l5 c5], .agg #[.bool x6, .slice a7 l7 c7]]) T.elem39 T.size42 T.zero42 (Nat.le_of_ble_eq_true rfl) rfl rfl
@[go_sem] theorem T.stn23 {H : HL.Heap} {z0 z1 : Value} {x0 : Bool} {x1 : Bool} : HL.storeA Tryz.prog (H.push (.cells #[z0, z1] 23)) 23 ⟨H.size, 0, none⟩ (.agg #[.bool x0, .bool x1]) = some (H.push (.cells #[.bool x0, .bool x1] 23)) := HL.store_new (z := [z0, z1]) (vs := [.bool x0, .bool x1]) T.size23 rfl (HL.one_all rfl)
@[go_sem] theorem T.ln23 {H : HL.Heap} {z0 z1 : Value} : HL.cellsH (HL.cellH (H.push (.cells #[z0, z1] 23))) ⟨H.size, 0, none⟩ 0 2 = some [z0, z1] := HL.Blk.cells0 (new := [z0, z1]) (HL.Blk.new rfl)
@[go_sem] theorem T.stn42 {H : HL.Heap} {z0 z1 : Value} {x0 : Bool} {a1 : Option Addr} {l1 c1 : Nat} : HL.storeA Tryz.prog (H.push (.cells #[z0, z1] 42)) 42 ⟨H.size, 0, none⟩ (.agg #[.bool x0, .slice a1 l1 c1]) = some (H.push (.cells #[.bool x0, .slice a1 l1 c1] 42)) := HL.store_new (z := [z0, z1]) (vs := [.bool x0, .slice a1 l1 c1]) T.size42 rfl (HL.one_all rfl)
@[go_sem] theorem T.ln42 {H : HL.Heap} {z0 z1 : Value} : HL.cellsH (HL.cellH (H.push (.cells #[z0, z1] 42))) ⟨H.size, 0, none⟩ 0 2 = some [z0, z1] := HL.Blk.cells0 (new := [z0, z1]) (HL.Blk.new rfl)
@[go_sem] theorem T.stn50 {H : HL.Heap} {z0 z1 z2 z3 z4 z5 z6 z7 z8 z9 z10 z11 z12 z13 z14 : Value} {a0 : Option Addr} {a1 : Option Addr} {l1 c1 : Nat} {a2 : Option Addr} {l2 c2 : Nat} {a3 : Option Addr} {l3 c3 : Nat} {a4 : Option Addr} {l4 c4 : Nat} {a5 : Option Addr} {l5 c5 : Nat} {a6 : Option Addr} {l6 c6 : Nat} {a7 : Option Addr} {l7 c7 : Nat} {a8 : Option Addr} {l8 c8 : Nat} {x9 : Int} {x10 : Int} {a11 : Option Addr} {l11 c11 : Nat} {x12 : Int} {x13 : Int} {x14 : Bool} : HL.storeA Tryz.prog (H.push (.cells #[z0, z1, z2, z3, z4, z5, z6, z7, z8, z9, z10, z11, z12, z13, z14] 50)) 50 ⟨H.size, 0, none⟩ (.agg #[.pointer a0, .slice a1 l1 c1, .slice a2 l2 c2, .slice a3 l3 c3, .slice a4 l4 c4, .slice a5 l5 c5, .slice a6 l6 c6, .slice a7 l7 c7, .slice a8 l8 c8, .int .i64 x9, .int .i64 x10, .slice a11 l11 c11, .int .i64 x12, .int .i64 x13, .bool x14]) = some (H.push (.cells #[.pointer a0, .slice a1 l1 c1, .slice a2 l2 c2, .slice a3 l3 c3, .slice a4 l4 c4, .slice a5 l5 c5, .slice a6 l6 c6, .slice a7 l7 c7, .slice a8 l8 c8, .int .i64 x9, .int .i64 x10, .slice a11 l11 c11, .int .i64 x12, .int .i64 x13, .bool x14] 50)) := HL.store_new (z := [z0, z1, z2, z3, z4, z5, z6, z7, z8, z9, z10, z11, z12, z13, z14]) (vs := [.pointer a0, .slice a1 l1 c1, .slice a2 l2 c2, .slice a3 l3 c3, .slice a4 l4 c4, .slice a5 l5 c5, .slice a6 l6 c6, .slice a7 l7 c7, .slice a8 l8 c8, .int .i64 x9, .int .i64 x10, .slice a11 l11 c11, .int .i64 x12, .int .i64 x13, .bool x14]) T.size50 rfl (HL.one_all rfl)
@[go_sem] theorem T.ln50 {H : HL.Heap} {z0 z1 z2 z3 z4 z5 z6 z7 z8 z9 z10 z11 z12 z13 z14 : Value} : HL.cellsH (HL.cellH (H.push (.cells #[z0, z1, z2, z3, z4, z5, z6, z7, z8, z9, z10, z11, z12, z13, z14] 50))) ⟨H.size, 0, none⟩ 0 15 = some [z0, z1, z2, z3, z4, z5, z6, z7, z8, z9, z10, z11, z12, z13, z14] := HL.Blk.cells0 (new := [z0, z1, z2, z3, z4, z5, z6, z7, z8, z9, z10, z11, z12, z13, z14]) (HL.Blk.new rfl)
@[go_sem] theorem T.stn69 {H : HL.Heap} {z0 z1 z2 : Value} {a0 : Option Addr} {l0 c0 : Nat} {a1 : Option Addr} {l1 c1 : Nat} {a2 : Option Addr} {l2 c2 : Nat} : HL.storeA Tryz.prog (H.push (.cells #[z0, z1, z2] 69)) 69 ⟨H.size, 0, none⟩ (.agg #[.slice a0 l0 c0, .slice a1 l1 c1, .slice a2 l2 c2]) = some (H.push (.cells #[.slice a0 l0 c0, .slice a1 l1 c1, .slice a2 l2 c2] 69)) := HL.store_new (z := [z0, z1, z2]) (vs := [.slice a0 l0 c0, .slice a1 l1 c1, .slice a2 l2 c2]) T.size69 rfl (HL.one_all rfl)
@[go_sem] theorem T.ln69 {H : HL.Heap} {z0 z1 z2 : Value} : HL.cellsH (HL.cellH (H.push (.cells #[z0, z1, z2] 69))) ⟨H.size, 0, none⟩ 0 3 = some [z0, z1, z2] := HL.Blk.cells0 (new := [z0, z1, z2]) (HL.Blk.new rfl)
@[go_sem] theorem T.stn89 {H : HL.Heap} {z0 z1 z2 : Value} {a0 : Option Addr} {l0 c0 : Nat} {x1 : Int} {x2 : Bool} : HL.storeA Tryz.prog (H.push (.cells #[z0, z1, z2] 89)) 89 ⟨H.size, 0, none⟩ (.agg #[.slice a0 l0 c0, .int .i64 x1, .bool x2]) = some (H.push (.cells #[.slice a0 l0 c0, .int .i64 x1, .bool x2] 89)) := HL.store_new (z := [z0, z1, z2]) (vs := [.slice a0 l0 c0, .int .i64 x1, .bool x2]) T.size89 rfl (HL.one_all rfl)
@[go_sem] theorem T.ln89 {H : HL.Heap} {z0 z1 z2 : Value} : HL.cellsH (HL.cellH (H.push (.cells #[z0, z1, z2] 89))) ⟨H.size, 0, none⟩ 0 3 = some [z0, z1, z2] := HL.Blk.cells0 (new := [z0, z1, z2]) (HL.Blk.new rfl)
@[go_sem] theorem T.sl9 {H : HL.Heap} {a : HL.Str} : HL.lenV Tryz.prog (HL.full H) 9 (.string (HL.bs a)) = some (.int .i64 a.length) := HL.str_len Tryz.underlying9
@[go_sem] theorem T.si9 {a : HL.Str} {k : IntKind} {n : Int} : HL.indexV Tryz.prog 9 (.string (HL.bs a)) (.int k n) = HL.chk (0 ≤ n ∧ n < a.length) (some (HL.u8v (HL.bt8 a n.toNat))) := HL.str_index Tryz.underlying9
@[go_sem] theorem T.ss9 {a : HL.Str} {k k2 : IntKind} {x y : Int} : HL.sliceV Tryz.prog 9 (.string (HL.bs a)) (some (.int k x)) (some (.int k2 y)) none = HL.chk (0 ≤ y ∧ y ≤ a.length) (HL.chk (0 ≤ x ∧ x ≤ y.toNat) (some (.string (HL.bs ((a.take y.toNat).drop x.toNat))))) := HL.str_sub Tryz.underlying9
@[go_sem] theorem T.so9 {a : HL.Str} {k : IntKind} {x : Int} : HL.sliceV Tryz.prog 9 (.string (HL.bs a)) (some (.int k x)) none none = HL.chk (0 ≤ x ∧ x ≤ a.length) (some (.string (HL.bs (a.drop x.toNat)))) := HL.str_lo Tryz.underlying9
@[go_sem] theorem T.sh9 {a : HL.Str} {k : IntKind} {y : Int} : HL.sliceV Tryz.prog 9 (.string (HL.bs a)) none (some (.int k y)) none = HL.chk (0 ≤ y ∧ y ≤ a.length) (some (.string (HL.bs (a.take y.toNat)))) := HL.str_hi Tryz.underlying9
@[go_sem] theorem T.sl10 {H : HL.Heap} {a : HL.Str} : HL.lenV Tryz.prog (HL.full H) 10 (.string (HL.bs a)) = some (.int .i64 a.length) := HL.str_len Tryz.underlying10
@[go_sem] theorem T.si10 {a : HL.Str} {k : IntKind} {n : Int} : HL.indexV Tryz.prog 10 (.string (HL.bs a)) (.int k n) = HL.chk (0 ≤ n ∧ n < a.length) (some (HL.u8v (HL.bt8 a n.toNat))) := HL.str_index Tryz.underlying10
@[go_sem] theorem T.ss10 {a : HL.Str} {k k2 : IntKind} {x y : Int} : HL.sliceV Tryz.prog 10 (.string (HL.bs a)) (some (.int k x)) (some (.int k2 y)) none = HL.chk (0 ≤ y ∧ y ≤ a.length) (HL.chk (0 ≤ x ∧ x ≤ y.toNat) (some (.string (HL.bs ((a.take y.toNat).drop x.toNat))))) := HL.str_sub Tryz.underlying10
@[go_sem] theorem T.so10 {a : HL.Str} {k : IntKind} {x : Int} : HL.sliceV Tryz.prog 10 (.string (HL.bs a)) (some (.int k x)) none none = HL.chk (0 ≤ x ∧ x ≤ a.length) (some (.string (HL.bs (a.drop x.toNat)))) := HL.str_lo Tryz.underlying10
@[go_sem] theorem T.sh10 {a : HL.Str} {k : IntKind} {y : Int} : HL.sliceV Tryz.prog 10 (.string (HL.bs a)) none (some (.int k y)) none = HL.chk (0 ≤ y ∧ y ≤ a.length) (some (.string (HL.bs (a.take y.toNat)))) := HL.str_hi Tryz.underlying10
@[go_sem] theorem T.sl11 {H : HL.Heap} {a : HL.Str} : HL.lenV Tryz.prog (HL.full H) 11 (.string (HL.bs a)) = some (.int .i64 a.length) := HL.str_len Tryz.underlying11
@[go_sem] theorem T.si11 {a : HL.Str} {k : IntKind} {n : Int} : HL.indexV Tryz.prog 11 (.string (HL.bs a)) (.int k n) = HL.chk (0 ≤ n ∧ n < a.length) (some (HL.u8v (HL.bt8 a n.toNat))) := HL.str_index Tryz.underlying11
@[go_sem] theorem T.ss11 {a : HL.Str} {k k2 : IntKind} {x y : Int} : HL.sliceV Tryz.prog 11 (.string (HL.bs a)) (some (.int k x)) (some (.int k2 y)) none = HL.chk (0 ≤ y ∧ y ≤ a.length) (HL.chk (0 ≤ x ∧ x ≤ y.toNat) (some (.string (HL.bs ((a.take y.toNat).drop x.toNat))))) := HL.str_sub Tryz.underlying11
@[go_sem] theorem T.so11 {a : HL.Str} {k : IntKind} {x : Int} : HL.sliceV Tryz.prog 11 (.string (HL.bs a)) (some (.int k x)) none none = HL.chk (0 ≤ x ∧ x ≤ a.length) (some (.string (HL.bs (a.drop x.toNat)))) := HL.str_lo Tryz.underlying11
@[go_sem] theorem T.sh11 {a : HL.Str} {k : IntKind} {y : Int} : HL.sliceV Tryz.prog 11 (.string (HL.bs a)) none (some (.int k y)) none = HL.chk (0 ≤ y ∧ y ≤ a.length) (some (.string (HL.bs (a.take y.toNat)))) := HL.str_hi Tryz.underlying11
end Go.Proofs
