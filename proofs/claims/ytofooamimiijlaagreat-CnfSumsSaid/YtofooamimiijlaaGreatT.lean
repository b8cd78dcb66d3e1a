/- Closed facts on the types of the program. -/
import Derived.Test.YtofooamimiijlaaGreatProg
import Derived.Test.YtofooamimiijlaaGreatL06
namespace Go.Proofs
theorem T.mixed : Tryz.prog.follows .mixedOrders = true := by kernel_rfl
@[go_sem] theorem T.agg1 : HL.aggN Tryz.prog 1 = some none := by kernel_rfl
@[go_sem] theorem T.size1 : HL.sizeT Tryz.prog 1 = some 1 := by kernel_rfl
@[go_sem] theorem T.bytes1 : HL.bytesT Tryz.prog 1 = some 8 := by kernel_rfl
@[go_sem] theorem T.zero1 : HL.zeroT Tryz.prog 1 = some (.nilFunc) := by kernel_rfl
@[go_sem] theorem T.agg2 : HL.aggN Tryz.prog 2 = some none := by kernel_rfl
@[go_sem] theorem T.size2 : HL.sizeT Tryz.prog 2 = some 1 := by kernel_rfl
@[go_sem] theorem T.bytes2 : HL.bytesT Tryz.prog 2 = some 8 := by kernel_rfl
@[go_sem] theorem T.zero2 : HL.zeroT Tryz.prog 2 = some (.int .i64 0) := by kernel_rfl
@[go_sem] theorem T.agg3 : HL.aggN Tryz.prog 3 = some none := by kernel_rfl
@[go_sem] theorem T.size3 : HL.sizeT Tryz.prog 3 = some 1 := by kernel_rfl
@[go_sem] theorem T.bytes3 : HL.bytesT Tryz.prog 3 = some 8 := by kernel_rfl
@[go_sem] theorem T.zero3 : HL.zeroT Tryz.prog 3 = some (.int .i64 0) := by kernel_rfl
@[go_sem] theorem T.agg4 : HL.aggN Tryz.prog 4 = some none := by kernel_rfl
@[go_sem] theorem T.size4 : HL.sizeT Tryz.prog 4 = some 1 := by kernel_rfl
@[go_sem] theorem T.bytes4 : HL.bytesT Tryz.prog 4 = some 1 := by kernel_rfl
@[go_sem] theorem T.zero4 : HL.zeroT Tryz.prog 4 = some (.bool false) := by kernel_rfl
@[go_sem] theorem T.agg5 : HL.aggN Tryz.prog 5 = some none := by kernel_rfl
@[go_sem] theorem T.size5 : HL.sizeT Tryz.prog 5 = some 1 := by kernel_rfl
@[go_sem] theorem T.bytes5 : HL.bytesT Tryz.prog 5 = some 1 := by kernel_rfl
@[go_sem] theorem T.zero5 : HL.zeroT Tryz.prog 5 = some (.int .u8 0) := by kernel_rfl
@[go_sem] theorem T.agg6 : HL.aggN Tryz.prog 6 = some none := by kernel_rfl
@[go_sem] theorem T.size6 : HL.sizeT Tryz.prog 6 = some 1 := by kernel_rfl
@[go_sem] theorem T.bytes6 : HL.bytesT Tryz.prog 6 = some 1 := by kernel_rfl
@[go_sem] theorem T.zero6 : HL.zeroT Tryz.prog 6 = some (.int .u8 0) := by kernel_rfl
@[go_sem] theorem T.agg7 : HL.aggN Tryz.prog 7 = some (some 4) := by kernel_rfl
@[go_sem] theorem T.size7 : HL.sizeT Tryz.prog 7 = some 4 := by kernel_rfl
@[go_sem] theorem T.bytes7 : HL.bytesT Tryz.prog 7 = some 24 := by kernel_rfl
@[go_sem] theorem T.zero7 : HL.zeroT Tryz.prog 7 = some (.agg #[.int .i64 0, .int .i64 0, .bool false, .int .u8 0]) := by kernel_rfl
@[go_sem] theorem T.places7 : HL.placesT Tryz.prog 7 = some [(0, 1), (1, 1), (2, 1), (3, 1)] := by kernel_rfl
@[go_sem] theorem T.field7_0 : HL.fieldT Tryz.prog 7 0 = some (0, 2) := by kernel_rfl
@[go_sem] theorem T.fieldO7_0 : HL.fieldO Tryz.prog 7 0 = some 0 := by kernel_rfl
@[go_sem] theorem T.field7_1 : HL.fieldT Tryz.prog 7 1 = some (1, 3) := by kernel_rfl
@[go_sem] theorem T.fieldO7_1 : HL.fieldO Tryz.prog 7 1 = some 1 := by kernel_rfl
@[go_sem] theorem T.field7_2 : HL.fieldT Tryz.prog 7 2 = some (2, 4) := by kernel_rfl
@[go_sem] theorem T.fieldO7_2 : HL.fieldO Tryz.prog 7 2 = some 2 := by kernel_rfl
@[go_sem] theorem T.field7_3 : HL.fieldT Tryz.prog 7 3 = some (3, 6) := by kernel_rfl
@[go_sem] theorem T.fieldO7_3 : HL.fieldO Tryz.prog 7 3 = some 3 := by kernel_rfl
@[go_sem] theorem T.agg8 : HL.aggN Tryz.prog 8 = some (some 4) := by kernel_rfl
@[go_sem] theorem T.size8 : HL.sizeT Tryz.prog 8 = some 4 := by kernel_rfl
@[go_sem] theorem T.bytes8 : HL.bytesT Tryz.prog 8 = some 24 := by kernel_rfl
@[go_sem] theorem T.zero8 : HL.zeroT Tryz.prog 8 = some (.agg #[.int .i64 0, .int .i64 0, .bool false, .int .u8 0]) := by kernel_rfl
@[go_sem] theorem T.places8 : HL.placesT Tryz.prog 8 = some [(0, 1), (1, 1), (2, 1), (3, 1)] := by kernel_rfl
@[go_sem] theorem T.field8_0 : HL.fieldT Tryz.prog 8 0 = some (0, 2) := by kernel_rfl
@[go_sem] theorem T.fieldO8_0 : HL.fieldO Tryz.prog 8 0 = some 0 := by kernel_rfl
@[go_sem] theorem T.field8_1 : HL.fieldT Tryz.prog 8 1 = some (1, 3) := by kernel_rfl
@[go_sem] theorem T.fieldO8_1 : HL.fieldO Tryz.prog 8 1 = some 1 := by kernel_rfl
@[go_sem] theorem T.field8_2 : HL.fieldT Tryz.prog 8 2 = some (2, 4) := by kernel_rfl
@[go_sem] theorem T.fieldO8_2 : HL.fieldO Tryz.prog 8 2 = some 2 := by kernel_rfl
@[go_sem] theorem T.field8_3 : HL.fieldT Tryz.prog 8 3 = some (3, 6) := by kernel_rfl
@[go_sem] theorem T.fieldO8_3 : HL.fieldO Tryz.prog 8 3 = some 3 := by kernel_rfl
@[go_sem] theorem T.agg9 : HL.aggN Tryz.prog 9 = some none := by kernel_rfl
@[go_sem] theorem T.size9 : HL.sizeT Tryz.prog 9 = some 1 := by kernel_rfl
@[go_sem] theorem T.bytes9 : HL.bytesT Tryz.prog 9 = some 16 := by kernel_rfl
@[go_sem] theorem T.zero9 : HL.zeroT Tryz.prog 9 = some (.string ⟨#[]⟩) := by kernel_rfl
@[go_sem] theorem T.agg10 : HL.aggN Tryz.prog 10 = some none := by kernel_rfl
@[go_sem] theorem T.size10 : HL.sizeT Tryz.prog 10 = some 1 := by kernel_rfl
@[go_sem] theorem T.bytes10 : HL.bytesT Tryz.prog 10 = some 16 := by kernel_rfl
@[go_sem] theorem T.zero10 : HL.zeroT Tryz.prog 10 = some (.string ⟨#[]⟩) := by kernel_rfl
@[go_sem] theorem T.agg11 : HL.aggN Tryz.prog 11 = some none := by kernel_rfl
@[go_sem] theorem T.size11 : HL.sizeT Tryz.prog 11 = some 1 := by kernel_rfl
@[go_sem] theorem T.bytes11 : HL.bytesT Tryz.prog 11 = some 16 := by kernel_rfl
@[go_sem] theorem T.zero11 : HL.zeroT Tryz.prog 11 = some (.string ⟨#[]⟩) := by kernel_rfl
@[go_sem] theorem T.agg12 : HL.aggN Tryz.prog 12 = some none := by kernel_rfl
@[go_sem] theorem T.size12 : HL.sizeT Tryz.prog 12 = some 1 := by kernel_rfl
@[go_sem] theorem T.bytes12 : HL.bytesT Tryz.prog 12 = some 8 := by kernel_rfl
@[go_sem] theorem T.zero12 : HL.zeroT Tryz.prog 12 = some (.int .u64 0) := by kernel_rfl
@[go_sem] theorem T.agg13 : HL.aggN Tryz.prog 13 = some (some 2) := by kernel_rfl
@[go_sem] theorem T.size13 : HL.sizeT Tryz.prog 13 = some 2 := by kernel_rfl
@[go_sem] theorem T.bytes13 : HL.bytesT Tryz.prog 13 = some 24 := by kernel_rfl
@[go_sem] theorem T.zero13 : HL.zeroT Tryz.prog 13 = some (.agg #[.string ⟨#[]⟩, .int .u64 0]) := by kernel_rfl
@[go_sem] theorem T.places13 : HL.placesT Tryz.prog 13 = some [(0, 1), (1, 1)] := by kernel_rfl
@[go_sem] theorem T.field13_0 : HL.fieldT Tryz.prog 13 0 = some (0, 9) := by kernel_rfl
@[go_sem] theorem T.fieldO13_0 : HL.fieldO Tryz.prog 13 0 = some 0 := by kernel_rfl
@[go_sem] theorem T.field13_1 : HL.fieldT Tryz.prog 13 1 = some (1, 12) := by kernel_rfl
@[go_sem] theorem T.fieldO13_1 : HL.fieldO Tryz.prog 13 1 = some 1 := by kernel_rfl
@[go_sem] theorem T.agg14 : HL.aggN Tryz.prog 14 = some (some 2) := by kernel_rfl
@[go_sem] theorem T.size14 : HL.sizeT Tryz.prog 14 = some 2 := by kernel_rfl
@[go_sem] theorem T.bytes14 : HL.bytesT Tryz.prog 14 = some 24 := by kernel_rfl
@[go_sem] theorem T.zero14 : HL.zeroT Tryz.prog 14 = some (.agg #[.string ⟨#[]⟩, .int .u64 0]) := by kernel_rfl
@[go_sem] theorem T.places14 : HL.placesT Tryz.prog 14 = some [(0, 1), (1, 1)] := by kernel_rfl
@[go_sem] theorem T.field14_0 : HL.fieldT Tryz.prog 14 0 = some (0, 9) := by kernel_rfl
@[go_sem] theorem T.fieldO14_0 : HL.fieldO Tryz.prog 14 0 = some 0 := by kernel_rfl
@[go_sem] theorem T.field14_1 : HL.fieldT Tryz.prog 14 1 = some (1, 12) := by kernel_rfl
@[go_sem] theorem T.fieldO14_1 : HL.fieldO Tryz.prog 14 1 = some 1 := by kernel_rfl
@[go_sem] theorem T.agg15 : HL.aggN Tryz.prog 15 = some none := by kernel_rfl
@[go_sem] theorem T.size15 : HL.sizeT Tryz.prog 15 = some 1 := by kernel_rfl
@[go_sem] theorem T.bytes15 : HL.bytesT Tryz.prog 15 = some 8 := by kernel_rfl
@[go_sem] theorem T.zero15 : HL.zeroT Tryz.prog 15 = some (.pointer none) := by kernel_rfl
@[go_sem] theorem T.agg16 : HL.aggN Tryz.prog 16 = some none := by kernel_rfl
@[go_sem] theorem T.size16 : HL.sizeT Tryz.prog 16 = some 1 := by kernel_rfl
@[go_sem] theorem T.bytes16 : HL.bytesT Tryz.prog 16 = some 8 := by kernel_rfl
@[go_sem] theorem T.zero16 : HL.zeroT Tryz.prog 16 = some (.pointer none) := by kernel_rfl
@[go_sem] theorem T.agg17 : HL.aggN Tryz.prog 17 = some none := by kernel_rfl
@[go_sem] theorem T.size17 : HL.sizeT Tryz.prog 17 = some 1 := by kernel_rfl
@[go_sem] theorem T.bytes17 : HL.bytesT Tryz.prog 17 = some 8 := by kernel_rfl
@[go_sem] theorem T.zero17 : HL.zeroT Tryz.prog 17 = some (.pointer none) := by kernel_rfl
@[go_sem] theorem T.agg18 : HL.aggN Tryz.prog 18 = some (some 1) := by kernel_rfl
@[go_sem] theorem T.size18 : HL.sizeT Tryz.prog 18 = some 1 := by kernel_rfl
@[go_sem] theorem T.bytes18 : HL.bytesT Tryz.prog 18 = some 8 := by kernel_rfl
@[go_sem] theorem T.zero18 : HL.zeroT Tryz.prog 18 = some (.agg #[.pointer none]) := by kernel_rfl
@[go_sem] theorem T.places18 : HL.placesT Tryz.prog 18 = some [(0, 1)] := by kernel_rfl
@[go_sem] theorem T.field18_0 : HL.fieldT Tryz.prog 18 0 = some (0, 17) := by kernel_rfl
@[go_sem] theorem T.fieldO18_0 : HL.fieldO Tryz.prog 18 0 = some 0 := by kernel_rfl
@[go_sem] theorem T.agg19 : HL.aggN Tryz.prog 19 = some (some 1) := by kernel_rfl
@[go_sem] theorem T.size19 : HL.sizeT Tryz.prog 19 = some 1 := by kernel_rfl
@[go_sem] theorem T.bytes19 : HL.bytesT Tryz.prog 19 = some 8 := by kernel_rfl
@[go_sem] theorem T.zero19 : HL.zeroT Tryz.prog 19 = some (.agg #[.pointer none]) := by kernel_rfl
@[go_sem] theorem T.places19 : HL.placesT Tryz.prog 19 = some [(0, 1)] := by kernel_rfl
@[go_sem] theorem T.field19_0 : HL.fieldT Tryz.prog 19 0 = some (0, 17) := by kernel_rfl
@[go_sem] theorem T.fieldO19_0 : HL.fieldO Tryz.prog 19 0 = some 0 := by kernel_rfl
@[go_sem] theorem T.agg20 : HL.aggN Tryz.prog 20 = some none := by kernel_rfl
@[go_sem] theorem T.size20 : HL.sizeT Tryz.prog 20 = some 1 := by kernel_rfl
@[go_sem] theorem T.bytes20 : HL.bytesT Tryz.prog 20 = some 16 := by kernel_rfl
@[go_sem] theorem T.zero20 : HL.zeroT Tryz.prog 20 = some (.nilIface) := by kernel_rfl
@[go_sem] theorem T.agg21 : HL.aggN Tryz.prog 21 = some none := by kernel_rfl
@[go_sem] theorem T.size21 : HL.sizeT Tryz.prog 21 = some 1 := by kernel_rfl
@[go_sem] theorem T.bytes21 : HL.bytesT Tryz.prog 21 = some 4 := by kernel_rfl
@[go_sem] theorem T.zero21 : HL.zeroT Tryz.prog 21 = some (.int .i32 0) := by kernel_rfl
@[go_sem] theorem T.agg22 : HL.aggN Tryz.prog 22 = some none := by kernel_rfl
@[go_sem] theorem T.size22 : HL.sizeT Tryz.prog 22 = some 1 := by kernel_rfl
@[go_sem] theorem T.bytes22 : HL.bytesT Tryz.prog 22 = some 8 := by kernel_rfl
@[go_sem] theorem T.zero22 : HL.zeroT Tryz.prog 22 = some (.nilFunc) := by kernel_rfl
@[go_sem] theorem T.agg23 : HL.aggN Tryz.prog 23 = some none := by kernel_rfl
@[go_sem] theorem T.size23 : HL.sizeT Tryz.prog 23 = some 1 := by kernel_rfl
@[go_sem] theorem T.bytes23 : HL.bytesT Tryz.prog 23 = some 8 := by kernel_rfl
@[go_sem] theorem T.zero23 : HL.zeroT Tryz.prog 23 = some (.nilFunc) := by kernel_rfl
@[go_sem] theorem T.agg24 : HL.aggN Tryz.prog 24 = some none := by kernel_rfl
@[go_sem] theorem T.size24 : HL.sizeT Tryz.prog 24 = some 1 := by kernel_rfl
@[go_sem] theorem T.bytes24 : HL.bytesT Tryz.prog 24 = some 8 := by kernel_rfl
@[go_sem] theorem T.zero24 : HL.zeroT Tryz.prog 24 = some (.pointer none) := by kernel_rfl
@[go_sem] theorem T.agg25 : HL.aggN Tryz.prog 25 = some none := by kernel_rfl
@[go_sem] theorem T.size25 : HL.sizeT Tryz.prog 25 = some 1 := by kernel_rfl
@[go_sem] theorem T.bytes25 : HL.bytesT Tryz.prog 25 = some 8 := by kernel_rfl
@[go_sem] theorem T.zero25 : HL.zeroT Tryz.prog 25 = some (.nilFunc) := by kernel_rfl
@[go_sem] theorem T.agg26 : HL.aggN Tryz.prog 26 = some none := by kernel_rfl
@[go_sem] theorem T.size26 : HL.sizeT Tryz.prog 26 = some 1 := by kernel_rfl
@[go_sem] theorem T.bytes26 : HL.bytesT Tryz.prog 26 = some 24 := by kernel_rfl
@[go_sem] theorem T.zero26 : HL.zeroT Tryz.prog 26 = some (.slice none 0 0) := by kernel_rfl
@[go_sem] theorem T.elem26 : HL.elemT Tryz.prog 26 = some 3 := by kernel_rfl
@[go_sem] theorem T.elemS26 : HL.elemS Tryz.prog 26 = some 1 := by kernel_rfl
@[go_sem] theorem T.agg27 : HL.aggN Tryz.prog 27 = some none := by kernel_rfl
@[go_sem] theorem T.size27 : HL.sizeT Tryz.prog 27 = some 1 := by kernel_rfl
@[go_sem] theorem T.bytes27 : HL.bytesT Tryz.prog 27 = some 8 := by kernel_rfl
@[go_sem] theorem T.zero27 : HL.zeroT Tryz.prog 27 = some (.nilFunc) := by kernel_rfl
@[go_sem] theorem T.agg28 : HL.aggN Tryz.prog 28 = some none := by kernel_rfl
@[go_sem] theorem T.size28 : HL.sizeT Tryz.prog 28 = some 1 := by kernel_rfl
@[go_sem] theorem T.bytes28 : HL.bytesT Tryz.prog 28 = some 8 := by kernel_rfl
@[go_sem] theorem T.zero28 : HL.zeroT Tryz.prog 28 = some (.nilFunc) := by kernel_rfl
@[go_sem] theorem T.agg29 : HL.aggN Tryz.prog 29 = some none := by kernel_rfl
@[go_sem] theorem T.size29 : HL.sizeT Tryz.prog 29 = some 1 := by kernel_rfl
@[go_sem] theorem T.bytes29 : HL.bytesT Tryz.prog 29 = some 8 := by kernel_rfl
@[go_sem] theorem T.zero29 : HL.zeroT Tryz.prog 29 = some (.nilFunc) := by kernel_rfl
@[go_sem] theorem T.agg30 : HL.aggN Tryz.prog 30 = some none := by kernel_rfl
@[go_sem] theorem T.size30 : HL.sizeT Tryz.prog 30 = some 1 := by kernel_rfl
@[go_sem] theorem T.bytes30 : HL.bytesT Tryz.prog 30 = some 8 := by kernel_rfl
@[go_sem] theorem T.zero30 : HL.zeroT Tryz.prog 30 = some (.nilFunc) := by kernel_rfl
@[go_sem] theorem T.agg31 : HL.aggN Tryz.prog 31 = some none := by kernel_rfl
@[go_sem] theorem T.size31 : HL.sizeT Tryz.prog 31 = some 1 := by kernel_rfl
@[go_sem] theorem T.bytes31 : HL.bytesT Tryz.prog 31 = some 8 := by kernel_rfl
@[go_sem] theorem T.zero31 : HL.zeroT Tryz.prog 31 = some (.nilFunc) := by kernel_rfl
@[go_sem] theorem T.agg32 : HL.aggN Tryz.prog 32 = some none := by kernel_rfl
@[go_sem] theorem T.size32 : HL.sizeT Tryz.prog 32 = some 1 := by kernel_rfl
@[go_sem] theorem T.bytes32 : HL.bytesT Tryz.prog 32 = some 8 := by kernel_rfl
@[go_sem] theorem T.zero32 : HL.zeroT Tryz.prog 32 = some (.pointer none) := by kernel_rfl
@[go_sem] theorem T.agg33 : HL.aggN Tryz.prog 33 = some none := by kernel_rfl
@[go_sem] theorem T.size33 : HL.sizeT Tryz.prog 33 = some 1 := by kernel_rfl
@[go_sem] theorem T.bytes33 : HL.bytesT Tryz.prog 33 = some 8 := by kernel_rfl
@[go_sem] theorem T.zero33 : HL.zeroT Tryz.prog 33 = some (.nilFunc) := by kernel_rfl
@[go_sem] theorem T.agg34 : HL.aggN Tryz.prog 34 = some none := by kernel_rfl
@[go_sem] theorem T.size34 : HL.sizeT Tryz.prog 34 = some 1 := by kernel_rfl
@[go_sem] theorem T.bytes34 : HL.bytesT Tryz.prog 34 = some 8 := by kernel_rfl
@[go_sem] theorem T.zero34 : HL.zeroT Tryz.prog 34 = some (.pointer none) := by kernel_rfl
@[go_sem] theorem T.agg35 : HL.aggN Tryz.prog 35 = some none := by kernel_rfl
@[go_sem] theorem T.size35 : HL.sizeT Tryz.prog 35 = some 1 := by kernel_rfl
@[go_sem] theorem T.bytes35 : HL.bytesT Tryz.prog 35 = some 8 := by kernel_rfl
@[go_sem] theorem T.zero35 : HL.zeroT Tryz.prog 35 = some (.int .i64 0) := by kernel_rfl
@[go_sem] theorem T.agg37 : HL.aggN Tryz.prog 37 = some none := by kernel_rfl
@[go_sem] theorem T.size37 : HL.sizeT Tryz.prog 37 = some 1 := by kernel_rfl
@[go_sem] theorem T.bytes37 : HL.bytesT Tryz.prog 37 = some 8 := by kernel_rfl
@[go_sem] theorem T.zero37 : HL.zeroT Tryz.prog 37 = some (.nilFunc) := by kernel_rfl
@[go_sem] theorem T.agg38 : HL.aggN Tryz.prog 38 = some none := by kernel_rfl
@[go_sem] theorem T.size38 : HL.sizeT Tryz.prog 38 = some 1 := by kernel_rfl
@[go_sem] theorem T.bytes38 : HL.bytesT Tryz.prog 38 = some 8 := by kernel_rfl
@[go_sem] theorem T.zero38 : HL.zeroT Tryz.prog 38 = some (.nilFunc) := by kernel_rfl
@[go_sem] theorem T.agg39 : HL.aggN Tryz.prog 39 = some none := by kernel_rfl
@[go_sem] theorem T.size39 : HL.sizeT Tryz.prog 39 = some 1 := by kernel_rfl
@[go_sem] theorem T.bytes39 : HL.bytesT Tryz.prog 39 = some 24 := by kernel_rfl
@[go_sem] theorem T.zero39 : HL.zeroT Tryz.prog 39 = some (.slice none 0 0) := by kernel_rfl
@[go_sem] theorem T.elem39 : HL.elemT Tryz.prog 39 = some 26 := by kernel_rfl
@[go_sem] theorem T.elemS39 : HL.elemS Tryz.prog 39 = some 1 := by kernel_rfl
@[go_sem] theorem T.agg40 : HL.aggN Tryz.prog 40 = some none := by kernel_rfl
@[go_sem] theorem T.size40 : HL.sizeT Tryz.prog 40 = some 1 := by kernel_rfl
@[go_sem] theorem T.bytes40 : HL.bytesT Tryz.prog 40 = some 8 := by kernel_rfl
@[go_sem] theorem T.zero40 : HL.zeroT Tryz.prog 40 = some (.nilFunc) := by kernel_rfl
@[go_sem] theorem T.agg41 : HL.aggN Tryz.prog 41 = some none := by kernel_rfl
@[go_sem] theorem T.size41 : HL.sizeT Tryz.prog 41 = some 1 := by kernel_rfl
@[go_sem] theorem T.bytes41 : HL.bytesT Tryz.prog 41 = some 8 := by kernel_rfl
@[go_sem] theorem T.zero41 : HL.zeroT Tryz.prog 41 = some (.nilFunc) := by kernel_rfl
@[go_sem] theorem T.agg42 : HL.aggN Tryz.prog 42 = some none := by kernel_rfl
@[go_sem] theorem T.size42 : HL.sizeT Tryz.prog 42 = some 1 := by kernel_rfl
@[go_sem] theorem T.bytes42 : HL.bytesT Tryz.prog 42 = some 8 := by kernel_rfl
@[go_sem] theorem T.zero42 : HL.zeroT Tryz.prog 42 = some (.nilFunc) := by kernel_rfl
@[go_sem] theorem T.agg43 : HL.aggN Tryz.prog 43 = some none := by kernel_rfl
@[go_sem] theorem T.size43 : HL.sizeT Tryz.prog 43 = some 1 := by kernel_rfl
@[go_sem] theorem T.bytes43 : HL.bytesT Tryz.prog 43 = some 8 := by kernel_rfl
@[go_sem] theorem T.zero43 : HL.zeroT Tryz.prog 43 = some (.nilFunc) := by kernel_rfl
@[go_sem] theorem T.agg44 : HL.aggN Tryz.prog 44 = some none := by kernel_rfl
@[go_sem] theorem T.size44 : HL.sizeT Tryz.prog 44 = some 1 := by kernel_rfl
@[go_sem] theorem T.bytes44 : HL.bytesT Tryz.prog 44 = some 24 := by kernel_rfl
@[go_sem] theorem T.zero44 : HL.zeroT Tryz.prog 44 = some (.slice none 0 0) := by kernel_rfl
@[go_sem] theorem T.elem44 : HL.elemT Tryz.prog 44 = some 4 := by kernel_rfl
@[go_sem] theorem T.elemS44 : HL.elemS Tryz.prog 44 = some 1 := by kernel_rfl
@[go_sem] theorem T.agg45 : HL.aggN Tryz.prog 45 = some none := by kernel_rfl
@[go_sem] theorem T.size45 : HL.sizeT Tryz.prog 45 = some 1 := by kernel_rfl
@[go_sem] theorem T.bytes45 : HL.bytesT Tryz.prog 45 = some 8 := by kernel_rfl
@[go_sem] theorem T.zero45 : HL.zeroT Tryz.prog 45 = some (.nilFunc) := by kernel_rfl
@[go_sem] theorem T.agg46 : HL.aggN Tryz.prog 46 = some none := by kernel_rfl
@[go_sem] theorem T.size46 : HL.sizeT Tryz.prog 46 = some 1 := by kernel_rfl
@[go_sem] theorem T.bytes46 : HL.bytesT Tryz.prog 46 = some 8 := by kernel_rfl
@[go_sem] theorem T.zero46 : HL.zeroT Tryz.prog 46 = some (.nilFunc) := by kernel_rfl
@[go_sem] theorem T.agg47 : HL.aggN Tryz.prog 47 = some none := by kernel_rfl
@[go_sem] theorem T.size47 : HL.sizeT Tryz.prog 47 = some 1 := by kernel_rfl
@[go_sem] theorem T.bytes47 : HL.bytesT Tryz.prog 47 = some 8 := by kernel_rfl
@[go_sem] theorem T.zero47 : HL.zeroT Tryz.prog 47 = some (.nilFunc) := by kernel_rfl
@[go_sem] theorem T.agg48 : HL.aggN Tryz.prog 48 = some none := by kernel_rfl
@[go_sem] theorem T.size48 : HL.sizeT Tryz.prog 48 = some 1 := by kernel_rfl
@[go_sem] theorem T.bytes48 : HL.bytesT Tryz.prog 48 = some 8 := by kernel_rfl
@[go_sem] theorem T.zero48 : HL.zeroT Tryz.prog 48 = some (.nilFunc) := by kernel_rfl
@[go_sem] theorem T.agg49 : HL.aggN Tryz.prog 49 = some none := by kernel_rfl
@[go_sem] theorem T.size49 : HL.sizeT Tryz.prog 49 = some 1 := by kernel_rfl
@[go_sem] theorem T.bytes49 : HL.bytesT Tryz.prog 49 = some 24 := by kernel_rfl
@[go_sem] theorem T.zero49 : HL.zeroT Tryz.prog 49 = some (.slice none 0 0) := by kernel_rfl
@[go_sem] theorem T.elem49 : HL.elemT Tryz.prog 49 = some 82 := by kernel_rfl
@[go_sem] theorem T.elemS49 : HL.elemS Tryz.prog 49 = some 2 := by kernel_rfl
@[go_sem] theorem T.agg50 : HL.aggN Tryz.prog 50 = some none := by kernel_rfl
@[go_sem] theorem T.size50 : HL.sizeT Tryz.prog 50 = some 1 := by kernel_rfl
@[go_sem] theorem T.bytes50 : HL.bytesT Tryz.prog 50 = some 8 := by kernel_rfl
@[go_sem] theorem T.zero50 : HL.zeroT Tryz.prog 50 = some (.map none) := by kernel_rfl
@[go_sem] theorem T.agg51 : HL.aggN Tryz.prog 51 = some (some 3) := by kernel_rfl
@[go_sem] theorem T.size51 : HL.sizeT Tryz.prog 51 = some 3 := by kernel_rfl
@[go_sem] theorem T.bytes51 : HL.bytesT Tryz.prog 51 = some 56 := by kernel_rfl
@[go_sem] theorem T.zero51 : HL.zeroT Tryz.prog 51 = some (.agg #[.slice none 0 0, .slice none 0 0, .map none]) := by kernel_rfl
@[go_sem] theorem T.places51 : HL.placesT Tryz.prog 51 = some [(0, 1), (1, 1), (2, 1)] := by kernel_rfl
@[go_sem] theorem T.field51_0 : HL.fieldT Tryz.prog 51 0 = some (0, 49) := by kernel_rfl
@[go_sem] theorem T.fieldO51_0 : HL.fieldO Tryz.prog 51 0 = some 0 := by kernel_rfl
@[go_sem] theorem T.field51_1 : HL.fieldT Tryz.prog 51 1 = some (1, 26) := by kernel_rfl
@[go_sem] theorem T.fieldO51_1 : HL.fieldO Tryz.prog 51 1 = some 1 := by kernel_rfl
@[go_sem] theorem T.field51_2 : HL.fieldT Tryz.prog 51 2 = some (2, 50) := by kernel_rfl
@[go_sem] theorem T.fieldO51_2 : HL.fieldO Tryz.prog 51 2 = some 2 := by kernel_rfl
@[go_sem] theorem T.agg52 : HL.aggN Tryz.prog 52 = some (some 3) := by kernel_rfl
@[go_sem] theorem T.size52 : HL.sizeT Tryz.prog 52 = some 3 := by kernel_rfl
@[go_sem] theorem T.bytes52 : HL.bytesT Tryz.prog 52 = some 56 := by kernel_rfl
@[go_sem] theorem T.zero52 : HL.zeroT Tryz.prog 52 = some (.agg #[.slice none 0 0, .slice none 0 0, .map none]) := by kernel_rfl
@[go_sem] theorem T.places52 : HL.placesT Tryz.prog 52 = some [(0, 1), (1, 1), (2, 1)] := by kernel_rfl
@[go_sem] theorem T.field52_0 : HL.fieldT Tryz.prog 52 0 = some (0, 49) := by kernel_rfl
@[go_sem] theorem T.fieldO52_0 : HL.fieldO Tryz.prog 52 0 = some 0 := by kernel_rfl
@[go_sem] theorem T.field52_1 : HL.fieldT Tryz.prog 52 1 = some (1, 26) := by kernel_rfl
@[go_sem] theorem T.fieldO52_1 : HL.fieldO Tryz.prog 52 1 = some 1 := by kernel_rfl
@[go_sem] theorem T.field52_2 : HL.fieldT Tryz.prog 52 2 = some (2, 50) := by kernel_rfl
@[go_sem] theorem T.fieldO52_2 : HL.fieldO Tryz.prog 52 2 = some 2 := by kernel_rfl
@[go_sem] theorem T.agg54 : HL.aggN Tryz.prog 54 = some none := by kernel_rfl
@[go_sem] theorem T.size54 : HL.sizeT Tryz.prog 54 = some 1 := by kernel_rfl
@[go_sem] theorem T.bytes54 : HL.bytesT Tryz.prog 54 = some 8 := by kernel_rfl
@[go_sem] theorem T.zero54 : HL.zeroT Tryz.prog 54 = some (.nilFunc) := by kernel_rfl
@[go_sem] theorem T.agg55 : HL.aggN Tryz.prog 55 = some none := by kernel_rfl
@[go_sem] theorem T.size55 : HL.sizeT Tryz.prog 55 = some 1 := by kernel_rfl
@[go_sem] theorem T.bytes55 : HL.bytesT Tryz.prog 55 = some 8 := by kernel_rfl
@[go_sem] theorem T.zero55 : HL.zeroT Tryz.prog 55 = some (.nilFunc) := by kernel_rfl
@[go_sem] theorem T.agg56 : HL.aggN Tryz.prog 56 = some none := by kernel_rfl
@[go_sem] theorem T.size56 : HL.sizeT Tryz.prog 56 = some 1 := by kernel_rfl
@[go_sem] theorem T.bytes56 : HL.bytesT Tryz.prog 56 = some 8 := by kernel_rfl
@[go_sem] theorem T.zero56 : HL.zeroT Tryz.prog 56 = some (.map none) := by kernel_rfl
@[go_sem] theorem T.agg57 : HL.aggN Tryz.prog 57 = some (some 3) := by kernel_rfl
@[go_sem] theorem T.size57 : HL.sizeT Tryz.prog 57 = some 3 := by kernel_rfl
@[go_sem] theorem T.bytes57 : HL.bytesT Tryz.prog 57 = some 40 := by kernel_rfl
@[go_sem] theorem T.zero57 : HL.zeroT Tryz.prog 57 = some (.agg #[.pointer none, .map none, .slice none 0 0]) := by kernel_rfl
@[go_sem] theorem T.places57 : HL.placesT Tryz.prog 57 = some [(0, 1), (1, 1), (2, 1)] := by kernel_rfl
@[go_sem] theorem T.field57_0 : HL.fieldT Tryz.prog 57 0 = some (0, 24) := by kernel_rfl
@[go_sem] theorem T.fieldO57_0 : HL.fieldO Tryz.prog 57 0 = some 0 := by kernel_rfl
@[go_sem] theorem T.field57_1 : HL.fieldT Tryz.prog 57 1 = some (1, 56) := by kernel_rfl
@[go_sem] theorem T.fieldO57_1 : HL.fieldO Tryz.prog 57 1 = some 1 := by kernel_rfl
@[go_sem] theorem T.field57_2 : HL.fieldT Tryz.prog 57 2 = some (2, 39) := by kernel_rfl
@[go_sem] theorem T.fieldO57_2 : HL.fieldO Tryz.prog 57 2 = some 2 := by kernel_rfl
@[go_sem] theorem T.agg58 : HL.aggN Tryz.prog 58 = some (some 3) := by kernel_rfl
@[go_sem] theorem T.size58 : HL.sizeT Tryz.prog 58 = some 3 := by kernel_rfl
@[go_sem] theorem T.bytes58 : HL.bytesT Tryz.prog 58 = some 40 := by kernel_rfl
@[go_sem] theorem T.zero58 : HL.zeroT Tryz.prog 58 = some (.agg #[.pointer none, .map none, .slice none 0 0]) := by kernel_rfl
@[go_sem] theorem T.places58 : HL.placesT Tryz.prog 58 = some [(0, 1), (1, 1), (2, 1)] := by kernel_rfl
@[go_sem] theorem T.field58_0 : HL.fieldT Tryz.prog 58 0 = some (0, 24) := by kernel_rfl
@[go_sem] theorem T.fieldO58_0 : HL.fieldO Tryz.prog 58 0 = some 0 := by kernel_rfl
@[go_sem] theorem T.field58_1 : HL.fieldT Tryz.prog 58 1 = some (1, 56) := by kernel_rfl
@[go_sem] theorem T.fieldO58_1 : HL.fieldO Tryz.prog 58 1 = some 1 := by kernel_rfl
@[go_sem] theorem T.field58_2 : HL.fieldT Tryz.prog 58 2 = some (2, 39) := by kernel_rfl
@[go_sem] theorem T.fieldO58_2 : HL.fieldO Tryz.prog 58 2 = some 2 := by kernel_rfl
@[go_sem] theorem T.agg59 : HL.aggN Tryz.prog 59 = some none := by kernel_rfl
@[go_sem] theorem T.size59 : HL.sizeT Tryz.prog 59 = some 1 := by kernel_rfl
@[go_sem] theorem T.bytes59 : HL.bytesT Tryz.prog 59 = some 8 := by kernel_rfl
@[go_sem] theorem T.zero59 : HL.zeroT Tryz.prog 59 = some (.nilFunc) := by kernel_rfl
@[go_sem] theorem T.agg60 : HL.aggN Tryz.prog 60 = some none := by kernel_rfl
@[go_sem] theorem T.size60 : HL.sizeT Tryz.prog 60 = some 1 := by kernel_rfl
@[go_sem] theorem T.bytes60 : HL.bytesT Tryz.prog 60 = some 8 := by kernel_rfl
@[go_sem] theorem T.zero60 : HL.zeroT Tryz.prog 60 = some (.pointer none) := by kernel_rfl
@[go_sem] theorem T.agg62 : HL.aggN Tryz.prog 62 = some none := by kernel_rfl
@[go_sem] theorem T.size62 : HL.sizeT Tryz.prog 62 = some 1 := by kernel_rfl
@[go_sem] theorem T.bytes62 : HL.bytesT Tryz.prog 62 = some 8 := by kernel_rfl
@[go_sem] theorem T.zero62 : HL.zeroT Tryz.prog 62 = some (.nilFunc) := by kernel_rfl
@[go_sem] theorem T.agg63 : HL.aggN Tryz.prog 63 = some none := by kernel_rfl
@[go_sem] theorem T.size63 : HL.sizeT Tryz.prog 63 = some 1 := by kernel_rfl
@[go_sem] theorem T.bytes63 : HL.bytesT Tryz.prog 63 = some 24 := by kernel_rfl
@[go_sem] theorem T.zero63 : HL.zeroT Tryz.prog 63 = some (.slice none 0 0) := by kernel_rfl
@[go_sem] theorem T.elem63 : HL.elemT Tryz.prog 63 = some 115 := by kernel_rfl
@[go_sem] theorem T.elemS63 : HL.elemS Tryz.prog 63 = some 2 := by kernel_rfl
@[go_sem] theorem T.agg64 : HL.aggN Tryz.prog 64 = some none := by kernel_rfl
@[go_sem] theorem T.size64 : HL.sizeT Tryz.prog 64 = some 1 := by kernel_rfl
@[go_sem] theorem T.bytes64 : HL.bytesT Tryz.prog 64 = some 24 := by kernel_rfl
@[go_sem] theorem T.zero64 : HL.zeroT Tryz.prog 64 = some (.slice none 0 0) := by kernel_rfl
@[go_sem] theorem T.elem64 : HL.elemT Tryz.prog 64 = some 66 := by kernel_rfl
@[go_sem] theorem T.elemS64 : HL.elemS Tryz.prog 64 = some 1 := by kernel_rfl
@[go_sem] theorem T.agg65 : HL.aggN Tryz.prog 65 = some none := by kernel_rfl
@[go_sem] theorem T.size65 : HL.sizeT Tryz.prog 65 = some 1 := by kernel_rfl
@[go_sem] theorem T.bytes65 : HL.bytesT Tryz.prog 65 = some 24 := by kernel_rfl
@[go_sem] theorem T.zero65 : HL.zeroT Tryz.prog 65 = some (.slice none 0 0) := by kernel_rfl
@[go_sem] theorem T.elem65 : HL.elemT Tryz.prog 65 = some 103 := by kernel_rfl
@[go_sem] theorem T.elemS65 : HL.elemS Tryz.prog 65 = some 1 := by kernel_rfl
@[go_sem] theorem T.agg66 : HL.aggN Tryz.prog 66 = some none := by kernel_rfl
@[go_sem] theorem T.size66 : HL.sizeT Tryz.prog 66 = some 1 := by kernel_rfl
@[go_sem] theorem T.bytes66 : HL.bytesT Tryz.prog 66 = some 24 := by kernel_rfl
@[go_sem] theorem T.zero66 : HL.zeroT Tryz.prog 66 = some (.slice none 0 0) := by kernel_rfl
@[go_sem] theorem T.elem66 : HL.elemT Tryz.prog 66 = some 95 := by kernel_rfl
@[go_sem] theorem T.elemS66 : HL.elemS Tryz.prog 66 = some 1 := by kernel_rfl
@[go_sem] theorem T.agg67 : HL.aggN Tryz.prog 67 = some (some 15) := by kernel_rfl
@[go_sem] theorem T.size67 : HL.sizeT Tryz.prog 67 = some 15 := by kernel_rfl
@[go_sem] theorem T.bytes67 : HL.bytesT Tryz.prog 67 = some 264 := by kernel_rfl
@[go_sem] theorem T.zero67 : HL.zeroT Tryz.prog 67 = some (.agg #[.pointer none, .slice none 0 0, .slice none 0 0, .slice none 0 0, .slice none 0 0, .slice none 0 0, .slice none 0 0, .slice none 0 0, .slice none 0 0, .int .i64 0, .int .i64 0, .slice none 0 0, .int .i64 0, .int .i64 0, .bool false]) := by kernel_rfl
@[go_sem] theorem T.places67 : HL.placesT Tryz.prog 67 = some [(0, 1), (1, 1), (2, 1), (3, 1), (4, 1), (5, 1), (6, 1), (7, 1), (8, 1), (9, 1), (10, 1), (11, 1), (12, 1), (13, 1), (14, 1)] := by kernel_rfl
@[go_sem] theorem T.field67_0 : HL.fieldT Tryz.prog 67 0 = some (0, 60) := by kernel_rfl
@[go_sem] theorem T.fieldO67_0 : HL.fieldO Tryz.prog 67 0 = some 0 := by kernel_rfl
@[go_sem] theorem T.field67_1 : HL.fieldT Tryz.prog 67 1 = some (1, 64) := by kernel_rfl
@[go_sem] theorem T.fieldO67_1 : HL.fieldO Tryz.prog 67 1 = some 1 := by kernel_rfl
@[go_sem] theorem T.field67_2 : HL.fieldT Tryz.prog 67 2 = some (2, 65) := by kernel_rfl
@[go_sem] theorem T.fieldO67_2 : HL.fieldO Tryz.prog 67 2 = some 2 := by kernel_rfl
@[go_sem] theorem T.field67_3 : HL.fieldT Tryz.prog 67 3 = some (3, 26) := by kernel_rfl
@[go_sem] theorem T.fieldO67_3 : HL.fieldO Tryz.prog 67 3 = some 3 := by kernel_rfl
@[go_sem] theorem T.field67_4 : HL.fieldT Tryz.prog 67 4 = some (4, 66) := by kernel_rfl
@[go_sem] theorem T.fieldO67_4 : HL.fieldO Tryz.prog 67 4 = some 4 := by kernel_rfl
@[go_sem] theorem T.field67_5 : HL.fieldT Tryz.prog 67 5 = some (5, 44) := by kernel_rfl
@[go_sem] theorem T.fieldO67_5 : HL.fieldO Tryz.prog 67 5 = some 5 := by kernel_rfl
@[go_sem] theorem T.field67_6 : HL.fieldT Tryz.prog 67 6 = some (6, 44) := by kernel_rfl
@[go_sem] theorem T.fieldO67_6 : HL.fieldO Tryz.prog 67 6 = some 6 := by kernel_rfl
@[go_sem] theorem T.field67_7 : HL.fieldT Tryz.prog 67 7 = some (7, 26) := by kernel_rfl
@[go_sem] theorem T.fieldO67_7 : HL.fieldO Tryz.prog 67 7 = some 7 := by kernel_rfl
@[go_sem] theorem T.field67_8 : HL.fieldT Tryz.prog 67 8 = some (8, 26) := by kernel_rfl
@[go_sem] theorem T.fieldO67_8 : HL.fieldO Tryz.prog 67 8 = some 8 := by kernel_rfl
@[go_sem] theorem T.field67_9 : HL.fieldT Tryz.prog 67 9 = some (9, 3) := by kernel_rfl
@[go_sem] theorem T.fieldO67_9 : HL.fieldO Tryz.prog 67 9 = some 9 := by kernel_rfl
@[go_sem] theorem T.field67_10 : HL.fieldT Tryz.prog 67 10 = some (10, 2) := by kernel_rfl
@[go_sem] theorem T.fieldO67_10 : HL.fieldO Tryz.prog 67 10 = some 10 := by kernel_rfl
@[go_sem] theorem T.field67_11 : HL.fieldT Tryz.prog 67 11 = some (11, 66) := by kernel_rfl
@[go_sem] theorem T.fieldO67_11 : HL.fieldO Tryz.prog 67 11 = some 11 := by kernel_rfl
@[go_sem] theorem T.field67_12 : HL.fieldT Tryz.prog 67 12 = some (12, 3) := by kernel_rfl
@[go_sem] theorem T.fieldO67_12 : HL.fieldO Tryz.prog 67 12 = some 12 := by kernel_rfl
@[go_sem] theorem T.field67_13 : HL.fieldT Tryz.prog 67 13 = some (13, 3) := by kernel_rfl
@[go_sem] theorem T.fieldO67_13 : HL.fieldO Tryz.prog 67 13 = some 13 := by kernel_rfl
@[go_sem] theorem T.field67_14 : HL.fieldT Tryz.prog 67 14 = some (14, 4) := by kernel_rfl
@[go_sem] theorem T.fieldO67_14 : HL.fieldO Tryz.prog 67 14 = some 14 := by kernel_rfl
@[go_sem] theorem T.agg68 : HL.aggN Tryz.prog 68 = some (some 15) := by kernel_rfl
@[go_sem] theorem T.size68 : HL.sizeT Tryz.prog 68 = some 15 := by kernel_rfl
@[go_sem] theorem T.bytes68 : HL.bytesT Tryz.prog 68 = some 264 := by kernel_rfl
@[go_sem] theorem T.zero68 : HL.zeroT Tryz.prog 68 = some (.agg #[.pointer none, .slice none 0 0, .slice none 0 0, .slice none 0 0, .slice none 0 0, .slice none 0 0, .slice none 0 0, .slice none 0 0, .slice none 0 0, .int .i64 0, .int .i64 0, .slice none 0 0, .int .i64 0, .int .i64 0, .bool false]) := by kernel_rfl
@[go_sem] theorem T.places68 : HL.placesT Tryz.prog 68 = some [(0, 1), (1, 1), (2, 1), (3, 1), (4, 1), (5, 1), (6, 1), (7, 1), (8, 1), (9, 1), (10, 1), (11, 1), (12, 1), (13, 1), (14, 1)] := by kernel_rfl
@[go_sem] theorem T.field68_0 : HL.fieldT Tryz.prog 68 0 = some (0, 60) := by kernel_rfl
@[go_sem] theorem T.fieldO68_0 : HL.fieldO Tryz.prog 68 0 = some 0 := by kernel_rfl
@[go_sem] theorem T.field68_1 : HL.fieldT Tryz.prog 68 1 = some (1, 64) := by kernel_rfl
@[go_sem] theorem T.fieldO68_1 : HL.fieldO Tryz.prog 68 1 = some 1 := by kernel_rfl
@[go_sem] theorem T.field68_2 : HL.fieldT Tryz.prog 68 2 = some (2, 65) := by kernel_rfl
@[go_sem] theorem T.fieldO68_2 : HL.fieldO Tryz.prog 68 2 = some 2 := by kernel_rfl
@[go_sem] theorem T.field68_3 : HL.fieldT Tryz.prog 68 3 = some (3, 26) := by kernel_rfl
@[go_sem] theorem T.fieldO68_3 : HL.fieldO Tryz.prog 68 3 = some 3 := by kernel_rfl
@[go_sem] theorem T.field68_4 : HL.fieldT Tryz.prog 68 4 = some (4, 66) := by kernel_rfl
@[go_sem] theorem T.fieldO68_4 : HL.fieldO Tryz.prog 68 4 = some 4 := by kernel_rfl
@[go_sem] theorem T.field68_5 : HL.fieldT Tryz.prog 68 5 = some (5, 44) := by kernel_rfl
@[go_sem] theorem T.fieldO68_5 : HL.fieldO Tryz.prog 68 5 = some 5 := by kernel_rfl
@[go_sem] theorem T.field68_6 : HL.fieldT Tryz.prog 68 6 = some (6, 44) := by kernel_rfl
@[go_sem] theorem T.fieldO68_6 : HL.fieldO Tryz.prog 68 6 = some 6 := by kernel_rfl
@[go_sem] theorem T.field68_7 : HL.fieldT Tryz.prog 68 7 = some (7, 26) := by kernel_rfl
@[go_sem] theorem T.fieldO68_7 : HL.fieldO Tryz.prog 68 7 = some 7 := by kernel_rfl
@[go_sem] theorem T.field68_8 : HL.fieldT Tryz.prog 68 8 = some (8, 26) := by kernel_rfl
@[go_sem] theorem T.fieldO68_8 : HL.fieldO Tryz.prog 68 8 = some 8 := by kernel_rfl
@[go_sem] theorem T.field68_9 : HL.fieldT Tryz.prog 68 9 = some (9, 3) := by kernel_rfl
@[go_sem] theorem T.fieldO68_9 : HL.fieldO Tryz.prog 68 9 = some 9 := by kernel_rfl
@[go_sem] theorem T.field68_10 : HL.fieldT Tryz.prog 68 10 = some (10, 2) := by kernel_rfl
@[go_sem] theorem T.fieldO68_10 : HL.fieldO Tryz.prog 68 10 = some 10 := by kernel_rfl
@[go_sem] theorem T.field68_11 : HL.fieldT Tryz.prog 68 11 = some (11, 66) := by kernel_rfl
@[go_sem] theorem T.fieldO68_11 : HL.fieldO Tryz.prog 68 11 = some 11 := by kernel_rfl
@[go_sem] theorem T.field68_12 : HL.fieldT Tryz.prog 68 12 = some (12, 3) := by kernel_rfl
@[go_sem] theorem T.fieldO68_12 : HL.fieldO Tryz.prog 68 12 = some 12 := by kernel_rfl
@[go_sem] theorem T.field68_13 : HL.fieldT Tryz.prog 68 13 = some (13, 3) := by kernel_rfl
@[go_sem] theorem T.fieldO68_13 : HL.fieldO Tryz.prog 68 13 = some 13 := by kernel_rfl
@[go_sem] theorem T.field68_14 : HL.fieldT Tryz.prog 68 14 = some (14, 4) := by kernel_rfl
@[go_sem] theorem T.fieldO68_14 : HL.fieldO Tryz.prog 68 14 = some 14 := by kernel_rfl
@[go_sem] theorem T.agg69 : HL.aggN Tryz.prog 69 = some (some 22) := by kernel_rfl
@[go_sem] theorem T.size69 : HL.sizeT Tryz.prog 69 = some 22 := by kernel_rfl
@[go_sem] theorem T.bytes69 : HL.bytesT Tryz.prog 69 = some 384 := by kernel_rfl
@[go_sem] theorem T.zero69 : HL.zeroT Tryz.prog 69 = some (.agg #[.int .i64 0, .slice none 0 0, .int .i64 0, .slice none 0 0, .int .i64 0, .slice none 0 0, .slice none 0 0, .pointer none, .slice none 0 0, .slice none 0 0, .slice none 0 0, .slice none 0 0, .slice none 0 0, .slice none 0 0, .slice none 0 0, .slice none 0 0, .int .i64 0, .int .i64 0, .slice none 0 0, .int .i64 0, .int .i64 0, .bool false]) := by kernel_rfl
@[go_sem] theorem T.places69 : HL.placesT Tryz.prog 69 = some [(0, 1), (1, 1), (2, 1), (3, 1), (4, 1), (5, 1), (6, 1), (7, 15)] := by kernel_rfl
@[go_sem] theorem T.field69_0 : HL.fieldT Tryz.prog 69 0 = some (0, 3) := by kernel_rfl
@[go_sem] theorem T.fieldO69_0 : HL.fieldO Tryz.prog 69 0 = some 0 := by kernel_rfl
@[go_sem] theorem T.field69_1 : HL.fieldT Tryz.prog 69 1 = some (1, 39) := by kernel_rfl
@[go_sem] theorem T.fieldO69_1 : HL.fieldO Tryz.prog 69 1 = some 1 := by kernel_rfl
@[go_sem] theorem T.field69_2 : HL.fieldT Tryz.prog 69 2 = some (2, 3) := by kernel_rfl
@[go_sem] theorem T.fieldO69_2 : HL.fieldO Tryz.prog 69 2 = some 2 := by kernel_rfl
@[go_sem] theorem T.field69_3 : HL.fieldT Tryz.prog 69 3 = some (3, 63) := by kernel_rfl
@[go_sem] theorem T.fieldO69_3 : HL.fieldO Tryz.prog 69 3 = some 3 := by kernel_rfl
@[go_sem] theorem T.field69_4 : HL.fieldT Tryz.prog 69 4 = some (4, 3) := by kernel_rfl
@[go_sem] theorem T.fieldO69_4 : HL.fieldO Tryz.prog 69 4 = some 4 := by kernel_rfl
@[go_sem] theorem T.field69_5 : HL.fieldT Tryz.prog 69 5 = some (5, 44) := by kernel_rfl
@[go_sem] theorem T.fieldO69_5 : HL.fieldO Tryz.prog 69 5 = some 5 := by kernel_rfl
@[go_sem] theorem T.field69_6 : HL.fieldT Tryz.prog 69 6 = some (6, 26) := by kernel_rfl
@[go_sem] theorem T.fieldO69_6 : HL.fieldO Tryz.prog 69 6 = some 6 := by kernel_rfl
@[go_sem] theorem T.field69_7 : HL.fieldT Tryz.prog 69 7 = some (7, 68) := by kernel_rfl
@[go_sem] theorem T.fieldO69_7 : HL.fieldO Tryz.prog 69 7 = some 7 := by kernel_rfl
@[go_sem] theorem T.agg70 : HL.aggN Tryz.prog 70 = some (some 22) := by kernel_rfl
@[go_sem] theorem T.size70 : HL.sizeT Tryz.prog 70 = some 22 := by kernel_rfl
@[go_sem] theorem T.bytes70 : HL.bytesT Tryz.prog 70 = some 384 := by kernel_rfl
@[go_sem] theorem T.zero70 : HL.zeroT Tryz.prog 70 = some (.agg #[.int .i64 0, .slice none 0 0, .int .i64 0, .slice none 0 0, .int .i64 0, .slice none 0 0, .slice none 0 0, .pointer none, .slice none 0 0, .slice none 0 0, .slice none 0 0, .slice none 0 0, .slice none 0 0, .slice none 0 0, .slice none 0 0, .slice none 0 0, .int .i64 0, .int .i64 0, .slice none 0 0, .int .i64 0, .int .i64 0, .bool false]) := by kernel_rfl
@[go_sem] theorem T.places70 : HL.placesT Tryz.prog 70 = some [(0, 1), (1, 1), (2, 1), (3, 1), (4, 1), (5, 1), (6, 1), (7, 15)] := by kernel_rfl
@[go_sem] theorem T.field70_0 : HL.fieldT Tryz.prog 70 0 = some (0, 3) := by kernel_rfl
@[go_sem] theorem T.fieldO70_0 : HL.fieldO Tryz.prog 70 0 = some 0 := by kernel_rfl
@[go_sem] theorem T.field70_1 : HL.fieldT Tryz.prog 70 1 = some (1, 39) := by kernel_rfl
@[go_sem] theorem T.fieldO70_1 : HL.fieldO Tryz.prog 70 1 = some 1 := by kernel_rfl
@[go_sem] theorem T.field70_2 : HL.fieldT Tryz.prog 70 2 = some (2, 3) := by kernel_rfl
@[go_sem] theorem T.fieldO70_2 : HL.fieldO Tryz.prog 70 2 = some 2 := by kernel_rfl
@[go_sem] theorem T.field70_3 : HL.fieldT Tryz.prog 70 3 = some (3, 63) := by kernel_rfl
@[go_sem] theorem T.fieldO70_3 : HL.fieldO Tryz.prog 70 3 = some 3 := by kernel_rfl
@[go_sem] theorem T.field70_4 : HL.fieldT Tryz.prog 70 4 = some (4, 3) := by kernel_rfl
@[go_sem] theorem T.fieldO70_4 : HL.fieldO Tryz.prog 70 4 = some 4 := by kernel_rfl
@[go_sem] theorem T.field70_5 : HL.fieldT Tryz.prog 70 5 = some (5, 44) := by kernel_rfl
@[go_sem] theorem T.fieldO70_5 : HL.fieldO Tryz.prog 70 5 = some 5 := by kernel_rfl
@[go_sem] theorem T.field70_6 : HL.fieldT Tryz.prog 70 6 = some (6, 26) := by kernel_rfl
@[go_sem] theorem T.fieldO70_6 : HL.fieldO Tryz.prog 70 6 = some 6 := by kernel_rfl
@[go_sem] theorem T.field70_7 : HL.fieldT Tryz.prog 70 7 = some (7, 68) := by kernel_rfl
@[go_sem] theorem T.fieldO70_7 : HL.fieldO Tryz.prog 70 7 = some 7 := by kernel_rfl
@[go_sem] theorem T.agg71 : HL.aggN Tryz.prog 71 = some none := by kernel_rfl
@[go_sem] theorem T.size71 : HL.sizeT Tryz.prog 71 = some 1 := by kernel_rfl
@[go_sem] theorem T.bytes71 : HL.bytesT Tryz.prog 71 = some 8 := by kernel_rfl
@[go_sem] theorem T.zero71 : HL.zeroT Tryz.prog 71 = some (.nilFunc) := by kernel_rfl
@[go_sem] theorem T.agg72 : HL.aggN Tryz.prog 72 = some none := by kernel_rfl
@[go_sem] theorem T.size72 : HL.sizeT Tryz.prog 72 = some 1 := by kernel_rfl
@[go_sem] theorem T.bytes72 : HL.bytesT Tryz.prog 72 = some 8 := by kernel_rfl
@[go_sem] theorem T.zero72 : HL.zeroT Tryz.prog 72 = some (.nilFunc) := by kernel_rfl
@[go_sem] theorem T.agg74 : HL.aggN Tryz.prog 74 = some none := by kernel_rfl
@[go_sem] theorem T.size74 : HL.sizeT Tryz.prog 74 = some 1 := by kernel_rfl
@[go_sem] theorem T.bytes74 : HL.bytesT Tryz.prog 74 = some 8 := by kernel_rfl
@[go_sem] theorem T.zero74 : HL.zeroT Tryz.prog 74 = some (.nilFunc) := by kernel_rfl
@[go_sem] theorem T.agg75 : HL.aggN Tryz.prog 75 = some none := by kernel_rfl
@[go_sem] theorem T.size75 : HL.sizeT Tryz.prog 75 = some 1 := by kernel_rfl
@[go_sem] theorem T.bytes75 : HL.bytesT Tryz.prog 75 = some 8 := by kernel_rfl
@[go_sem] theorem T.zero75 : HL.zeroT Tryz.prog 75 = some (.nilFunc) := by kernel_rfl
@[go_sem] theorem T.agg76 : HL.aggN Tryz.prog 76 = some none := by kernel_rfl
@[go_sem] theorem T.size76 : HL.sizeT Tryz.prog 76 = some 1 := by kernel_rfl
@[go_sem] theorem T.bytes76 : HL.bytesT Tryz.prog 76 = some 8 := by kernel_rfl
@[go_sem] theorem T.zero76 : HL.zeroT Tryz.prog 76 = some (.nilFunc) := by kernel_rfl
@[go_sem] theorem T.agg78 : HL.aggN Tryz.prog 78 = some none := by kernel_rfl
@[go_sem] theorem T.size78 : HL.sizeT Tryz.prog 78 = some 1 := by kernel_rfl
@[go_sem] theorem T.bytes78 : HL.bytesT Tryz.prog 78 = some 8 := by kernel_rfl
@[go_sem] theorem T.zero78 : HL.zeroT Tryz.prog 78 = some (.nilFunc) := by kernel_rfl
@[go_sem] theorem T.agg79 : HL.aggN Tryz.prog 79 = some none := by kernel_rfl
@[go_sem] theorem T.size79 : HL.sizeT Tryz.prog 79 = some 1 := by kernel_rfl
@[go_sem] theorem T.bytes79 : HL.bytesT Tryz.prog 79 = some 8 := by kernel_rfl
@[go_sem] theorem T.zero79 : HL.zeroT Tryz.prog 79 = some (.nilFunc) := by kernel_rfl
@[go_sem] theorem T.agg80 : HL.aggN Tryz.prog 80 = some none := by kernel_rfl
@[go_sem] theorem T.size80 : HL.sizeT Tryz.prog 80 = some 1 := by kernel_rfl
@[go_sem] theorem T.bytes80 : HL.bytesT Tryz.prog 80 = some 8 := by kernel_rfl
@[go_sem] theorem T.zero80 : HL.zeroT Tryz.prog 80 = some (.nilFunc) := by kernel_rfl
@[go_sem] theorem T.agg81 : HL.aggN Tryz.prog 81 = some (some 2) := by kernel_rfl
@[go_sem] theorem T.size81 : HL.sizeT Tryz.prog 81 = some 2 := by kernel_rfl
@[go_sem] theorem T.bytes81 : HL.bytesT Tryz.prog 81 = some 16 := by kernel_rfl
@[go_sem] theorem T.zero81 : HL.zeroT Tryz.prog 81 = some (.agg #[.int .i64 0, .int .i64 0]) := by kernel_rfl
@[go_sem] theorem T.places81 : HL.placesT Tryz.prog 81 = some [(0, 1), (1, 1)] := by kernel_rfl
@[go_sem] theorem T.field81_0 : HL.fieldT Tryz.prog 81 0 = some (0, 3) := by kernel_rfl
@[go_sem] theorem T.fieldO81_0 : HL.fieldO Tryz.prog 81 0 = some 0 := by kernel_rfl
@[go_sem] theorem T.field81_1 : HL.fieldT Tryz.prog 81 1 = some (1, 3) := by kernel_rfl
@[go_sem] theorem T.fieldO81_1 : HL.fieldO Tryz.prog 81 1 = some 1 := by kernel_rfl
@[go_sem] theorem T.agg82 : HL.aggN Tryz.prog 82 = some (some 2) := by kernel_rfl
@[go_sem] theorem T.size82 : HL.sizeT Tryz.prog 82 = some 2 := by kernel_rfl
@[go_sem] theorem T.bytes82 : HL.bytesT Tryz.prog 82 = some 16 := by kernel_rfl
@[go_sem] theorem T.zero82 : HL.zeroT Tryz.prog 82 = some (.agg #[.int .i64 0, .int .i64 0]) := by kernel_rfl
@[go_sem] theorem T.places82 : HL.placesT Tryz.prog 82 = some [(0, 1), (1, 1)] := by kernel_rfl
@[go_sem] theorem T.field82_0 : HL.fieldT Tryz.prog 82 0 = some (0, 3) := by kernel_rfl
@[go_sem] theorem T.fieldO82_0 : HL.fieldO Tryz.prog 82 0 = some 0 := by kernel_rfl
@[go_sem] theorem T.field82_1 : HL.fieldT Tryz.prog 82 1 = some (1, 3) := by kernel_rfl
@[go_sem] theorem T.fieldO82_1 : HL.fieldO Tryz.prog 82 1 = some 1 := by kernel_rfl
@[go_sem] theorem T.agg84 : HL.aggN Tryz.prog 84 = some none := by kernel_rfl
@[go_sem] theorem T.size84 : HL.sizeT Tryz.prog 84 = some 1 := by kernel_rfl
@[go_sem] theorem T.bytes84 : HL.bytesT Tryz.prog 84 = some 8 := by kernel_rfl
@[go_sem] theorem T.zero84 : HL.zeroT Tryz.prog 84 = some (.nilFunc) := by kernel_rfl
@[go_sem] theorem T.agg85 : HL.aggN Tryz.prog 85 = some none := by kernel_rfl
@[go_sem] theorem T.size85 : HL.sizeT Tryz.prog 85 = some 1 := by kernel_rfl
@[go_sem] theorem T.bytes85 : HL.bytesT Tryz.prog 85 = some 8 := by kernel_rfl
@[go_sem] theorem T.zero85 : HL.zeroT Tryz.prog 85 = some (.nilFunc) := by kernel_rfl
@[go_sem] theorem T.agg86 : HL.aggN Tryz.prog 86 = some none := by kernel_rfl
@[go_sem] theorem T.size86 : HL.sizeT Tryz.prog 86 = some 1 := by kernel_rfl
@[go_sem] theorem T.bytes86 : HL.bytesT Tryz.prog 86 = some 8 := by kernel_rfl
@[go_sem] theorem T.zero86 : HL.zeroT Tryz.prog 86 = some (.nilFunc) := by kernel_rfl
@[go_sem] theorem T.agg88 : HL.aggN Tryz.prog 88 = some none := by kernel_rfl
@[go_sem] theorem T.size88 : HL.sizeT Tryz.prog 88 = some 1 := by kernel_rfl
@[go_sem] theorem T.bytes88 : HL.bytesT Tryz.prog 88 = some 8 := by kernel_rfl
@[go_sem] theorem T.zero88 : HL.zeroT Tryz.prog 88 = some (.nilFunc) := by kernel_rfl
@[go_sem] theorem T.agg89 : HL.aggN Tryz.prog 89 = some none := by kernel_rfl
@[go_sem] theorem T.size89 : HL.sizeT Tryz.prog 89 = some 1 := by kernel_rfl
@[go_sem] theorem T.bytes89 : HL.bytesT Tryz.prog 89 = some 24 := by kernel_rfl
@[go_sem] theorem T.zero89 : HL.zeroT Tryz.prog 89 = some (.slice none 0 0) := by kernel_rfl
@[go_sem] theorem T.elem89 : HL.elemT Tryz.prog 89 = some 2 := by kernel_rfl
@[go_sem] theorem T.elemS89 : HL.elemS Tryz.prog 89 = some 1 := by kernel_rfl
@[go_sem] theorem T.agg90 : HL.aggN Tryz.prog 90 = some (some 3) := by kernel_rfl
@[go_sem] theorem T.size90 : HL.sizeT Tryz.prog 90 = some 3 := by kernel_rfl
@[go_sem] theorem T.bytes90 : HL.bytesT Tryz.prog 90 = some 72 := by kernel_rfl
@[go_sem] theorem T.zero90 : HL.zeroT Tryz.prog 90 = some (.agg #[.slice none 0 0, .slice none 0 0, .slice none 0 0]) := by kernel_rfl
@[go_sem] theorem T.places90 : HL.placesT Tryz.prog 90 = some [(0, 1), (1, 1), (2, 1)] := by kernel_rfl
@[go_sem] theorem T.field90_0 : HL.fieldT Tryz.prog 90 0 = some (0, 26) := by kernel_rfl
@[go_sem] theorem T.fieldO90_0 : HL.fieldO Tryz.prog 90 0 = some 0 := by kernel_rfl
@[go_sem] theorem T.field90_1 : HL.fieldT Tryz.prog 90 1 = some (1, 26) := by kernel_rfl
@[go_sem] theorem T.fieldO90_1 : HL.fieldO Tryz.prog 90 1 = some 1 := by kernel_rfl
@[go_sem] theorem T.field90_2 : HL.fieldT Tryz.prog 90 2 = some (2, 89) := by kernel_rfl
@[go_sem] theorem T.fieldO90_2 : HL.fieldO Tryz.prog 90 2 = some 2 := by kernel_rfl
@[go_sem] theorem T.agg91 : HL.aggN Tryz.prog 91 = some (some 3) := by kernel_rfl
@[go_sem] theorem T.size91 : HL.sizeT Tryz.prog 91 = some 3 := by kernel_rfl
@[go_sem] theorem T.bytes91 : HL.bytesT Tryz.prog 91 = some 72 := by kernel_rfl
@[go_sem] theorem T.zero91 : HL.zeroT Tryz.prog 91 = some (.agg #[.slice none 0 0, .slice none 0 0, .slice none 0 0]) := by kernel_rfl
@[go_sem] theorem T.places91 : HL.placesT Tryz.prog 91 = some [(0, 1), (1, 1), (2, 1)] := by kernel_rfl
@[go_sem] theorem T.field91_0 : HL.fieldT Tryz.prog 91 0 = some (0, 26) := by kernel_rfl
@[go_sem] theorem T.fieldO91_0 : HL.fieldO Tryz.prog 91 0 = some 0 := by kernel_rfl
@[go_sem] theorem T.field91_1 : HL.fieldT Tryz.prog 91 1 = some (1, 26) := by kernel_rfl
@[go_sem] theorem T.fieldO91_1 : HL.fieldO Tryz.prog 91 1 = some 1 := by kernel_rfl
@[go_sem] theorem T.field91_2 : HL.fieldT Tryz.prog 91 2 = some (2, 89) := by kernel_rfl
@[go_sem] theorem T.fieldO91_2 : HL.fieldO Tryz.prog 91 2 = some 2 := by kernel_rfl
@[go_sem] theorem T.agg92 : HL.aggN Tryz.prog 92 = some none := by kernel_rfl
@[go_sem] theorem T.size92 : HL.sizeT Tryz.prog 92 = some 1 := by kernel_rfl
@[go_sem] theorem T.bytes92 : HL.bytesT Tryz.prog 92 = some 8 := by kernel_rfl
@[go_sem] theorem T.zero92 : HL.zeroT Tryz.prog 92 = some (.nilFunc) := by kernel_rfl
@[go_sem] theorem T.agg93 : HL.aggN Tryz.prog 93 = some none := by kernel_rfl
@[go_sem] theorem T.size93 : HL.sizeT Tryz.prog 93 = some 1 := by kernel_rfl
@[go_sem] theorem T.bytes93 : HL.bytesT Tryz.prog 93 = some 8 := by kernel_rfl
@[go_sem] theorem T.zero93 : HL.zeroT Tryz.prog 93 = some (.nilFunc) := by kernel_rfl
@[go_sem] theorem T.agg94 : HL.aggN Tryz.prog 94 = some none := by kernel_rfl
@[go_sem] theorem T.size94 : HL.sizeT Tryz.prog 94 = some 1 := by kernel_rfl
@[go_sem] theorem T.bytes94 : HL.bytesT Tryz.prog 94 = some 8 := by kernel_rfl
@[go_sem] theorem T.zero94 : HL.zeroT Tryz.prog 94 = some (.nilFunc) := by kernel_rfl
@[go_sem] theorem T.agg95 : HL.aggN Tryz.prog 95 = some none := by kernel_rfl
@[go_sem] theorem T.size95 : HL.sizeT Tryz.prog 95 = some 1 := by kernel_rfl
@[go_sem] theorem T.bytes95 : HL.bytesT Tryz.prog 95 = some 8 := by kernel_rfl
@[go_sem] theorem T.zero95 : HL.zeroT Tryz.prog 95 = some (.pointer none) := by kernel_rfl
@[go_sem] theorem T.agg96 : HL.aggN Tryz.prog 96 = some none := by kernel_rfl
@[go_sem] theorem T.size96 : HL.sizeT Tryz.prog 96 = some 1 := by kernel_rfl
@[go_sem] theorem T.bytes96 : HL.bytesT Tryz.prog 96 = some 8 := by kernel_rfl
@[go_sem] theorem T.zero96 : HL.zeroT Tryz.prog 96 = some (.nilFunc) := by kernel_rfl
@[go_sem] theorem T.agg97 : HL.aggN Tryz.prog 97 = some none := by kernel_rfl
@[go_sem] theorem T.size97 : HL.sizeT Tryz.prog 97 = some 1 := by kernel_rfl
@[go_sem] theorem T.bytes97 : HL.bytesT Tryz.prog 97 = some 8 := by kernel_rfl
@[go_sem] theorem T.zero97 : HL.zeroT Tryz.prog 97 = some (.nilFunc) := by kernel_rfl
@[go_sem] theorem T.agg98 : HL.aggN Tryz.prog 98 = some none := by kernel_rfl
@[go_sem] theorem T.size98 : HL.sizeT Tryz.prog 98 = some 1 := by kernel_rfl
@[go_sem] theorem T.bytes98 : HL.bytesT Tryz.prog 98 = some 8 := by kernel_rfl
@[go_sem] theorem T.zero98 : HL.zeroT Tryz.prog 98 = some (.nilFunc) := by kernel_rfl
@[go_sem] theorem T.agg99 : HL.aggN Tryz.prog 99 = some none := by kernel_rfl
@[go_sem] theorem T.size99 : HL.sizeT Tryz.prog 99 = some 1 := by kernel_rfl
@[go_sem] theorem T.bytes99 : HL.bytesT Tryz.prog 99 = some 8 := by kernel_rfl
@[go_sem] theorem T.zero99 : HL.zeroT Tryz.prog 99 = some (.nilFunc) := by kernel_rfl
@[go_sem] theorem T.agg100 : HL.aggN Tryz.prog 100 = some none := by kernel_rfl
@[go_sem] theorem T.size100 : HL.sizeT Tryz.prog 100 = some 1 := by kernel_rfl
@[go_sem] theorem T.bytes100 : HL.bytesT Tryz.prog 100 = some 8 := by kernel_rfl
@[go_sem] theorem T.zero100 : HL.zeroT Tryz.prog 100 = some (.nilFunc) := by kernel_rfl
@[go_sem] theorem T.agg101 : HL.aggN Tryz.prog 101 = some none := by kernel_rfl
@[go_sem] theorem T.size101 : HL.sizeT Tryz.prog 101 = some 1 := by kernel_rfl
@[go_sem] theorem T.bytes101 : HL.bytesT Tryz.prog 101 = some 8 := by kernel_rfl
@[go_sem] theorem T.zero101 : HL.zeroT Tryz.prog 101 = some (.nilFunc) := by kernel_rfl
@[go_sem] theorem T.agg102 : HL.aggN Tryz.prog 102 = some none := by kernel_rfl
@[go_sem] theorem T.size102 : HL.sizeT Tryz.prog 102 = some 1 := by kernel_rfl
@[go_sem] theorem T.bytes102 : HL.bytesT Tryz.prog 102 = some 8 := by kernel_rfl
@[go_sem] theorem T.zero102 : HL.zeroT Tryz.prog 102 = some (.int .u64 0) := by kernel_rfl
@[go_sem] theorem T.agg103 : HL.aggN Tryz.prog 103 = some none := by kernel_rfl
@[go_sem] theorem T.size103 : HL.sizeT Tryz.prog 103 = some 1 := by kernel_rfl
@[go_sem] theorem T.bytes103 : HL.bytesT Tryz.prog 103 = some 1 := by kernel_rfl
@[go_sem] theorem T.zero103 : HL.zeroT Tryz.prog 103 = some (.int .i8 0) := by kernel_rfl
@[go_sem] theorem T.agg104 : HL.aggN Tryz.prog 104 = some none := by kernel_rfl
@[go_sem] theorem T.size104 : HL.sizeT Tryz.prog 104 = some 1 := by kernel_rfl
@[go_sem] theorem T.bytes104 : HL.bytesT Tryz.prog 104 = some 8 := by kernel_rfl
@[go_sem] theorem T.zero104 : HL.zeroT Tryz.prog 104 = some (.nilFunc) := by kernel_rfl
@[go_sem] theorem T.agg105 : HL.aggN Tryz.prog 105 = some (some 3) := by kernel_rfl
@[go_sem] theorem T.size105 : HL.sizeT Tryz.prog 105 = some 3 := by kernel_rfl
@[go_sem] theorem T.bytes105 : HL.bytesT Tryz.prog 105 = some 40 := by kernel_rfl
@[go_sem] theorem T.zero105 : HL.zeroT Tryz.prog 105 = some (.agg #[.slice none 0 0, .int .i64 0, .bool false]) := by kernel_rfl
@[go_sem] theorem T.places105 : HL.placesT Tryz.prog 105 = some [(0, 1), (1, 1), (2, 1)] := by kernel_rfl
@[go_sem] theorem T.field105_0 : HL.fieldT Tryz.prog 105 0 = some (0, 26) := by kernel_rfl
@[go_sem] theorem T.fieldO105_0 : HL.fieldO Tryz.prog 105 0 = some 0 := by kernel_rfl
@[go_sem] theorem T.field105_1 : HL.fieldT Tryz.prog 105 1 = some (1, 3) := by kernel_rfl
@[go_sem] theorem T.fieldO105_1 : HL.fieldO Tryz.prog 105 1 = some 1 := by kernel_rfl
@[go_sem] theorem T.field105_2 : HL.fieldT Tryz.prog 105 2 = some (2, 4) := by kernel_rfl
@[go_sem] theorem T.fieldO105_2 : HL.fieldO Tryz.prog 105 2 = some 2 := by kernel_rfl
@[go_sem] theorem T.agg106 : HL.aggN Tryz.prog 106 = some (some 3) := by kernel_rfl
@[go_sem] theorem T.size106 : HL.sizeT Tryz.prog 106 = some 3 := by kernel_rfl
@[go_sem] theorem T.bytes106 : HL.bytesT Tryz.prog 106 = some 40 := by kernel_rfl
@[go_sem] theorem T.zero106 : HL.zeroT Tryz.prog 106 = some (.agg #[.slice none 0 0, .int .i64 0, .bool false]) := by kernel_rfl
@[go_sem] theorem T.places106 : HL.placesT Tryz.prog 106 = some [(0, 1), (1, 1), (2, 1)] := by kernel_rfl
@[go_sem] theorem T.field106_0 : HL.fieldT Tryz.prog 106 0 = some (0, 26) := by kernel_rfl
@[go_sem] theorem T.fieldO106_0 : HL.fieldO Tryz.prog 106 0 = some 0 := by kernel_rfl
@[go_sem] theorem T.field106_1 : HL.fieldT Tryz.prog 106 1 = some (1, 3) := by kernel_rfl
@[go_sem] theorem T.fieldO106_1 : HL.fieldO Tryz.prog 106 1 = some 1 := by kernel_rfl
@[go_sem] theorem T.field106_2 : HL.fieldT Tryz.prog 106 2 = some (2, 4) := by kernel_rfl
@[go_sem] theorem T.fieldO106_2 : HL.fieldO Tryz.prog 106 2 = some 2 := by kernel_rfl
@[go_sem] theorem T.agg107 : HL.aggN Tryz.prog 107 = some none := by kernel_rfl
@[go_sem] theorem T.size107 : HL.sizeT Tryz.prog 107 = some 1 := by kernel_rfl
@[go_sem] theorem T.bytes107 : HL.bytesT Tryz.prog 107 = some 8 := by kernel_rfl
@[go_sem] theorem T.zero107 : HL.zeroT Tryz.prog 107 = some (.pointer none) := by kernel_rfl
@[go_sem] theorem T.agg108 : HL.aggN Tryz.prog 108 = some none := by kernel_rfl
@[go_sem] theorem T.size108 : HL.sizeT Tryz.prog 108 = some 1 := by kernel_rfl
@[go_sem] theorem T.bytes108 : HL.bytesT Tryz.prog 108 = some 8 := by kernel_rfl
@[go_sem] theorem T.zero108 : HL.zeroT Tryz.prog 108 = some (.nilFunc) := by kernel_rfl
@[go_sem] theorem T.agg110 : HL.aggN Tryz.prog 110 = some none := by kernel_rfl
@[go_sem] theorem T.size110 : HL.sizeT Tryz.prog 110 = some 1 := by kernel_rfl
@[go_sem] theorem T.bytes110 : HL.bytesT Tryz.prog 110 = some 8 := by kernel_rfl
@[go_sem] theorem T.zero110 : HL.zeroT Tryz.prog 110 = some (.nilFunc) := by kernel_rfl
@[go_sem] theorem T.agg111 : HL.aggN Tryz.prog 111 = some none := by kernel_rfl
@[go_sem] theorem T.size111 : HL.sizeT Tryz.prog 111 = some 1 := by kernel_rfl
@[go_sem] theorem T.bytes111 : HL.bytesT Tryz.prog 111 = some 8 := by kernel_rfl
@[go_sem] theorem T.zero111 : HL.zeroT Tryz.prog 111 = some (.nilFunc) := by kernel_rfl
@[go_sem] theorem T.agg112 : HL.aggN Tryz.prog 112 = some none := by kernel_rfl
@[go_sem] theorem T.size112 : HL.sizeT Tryz.prog 112 = some 1 := by kernel_rfl
@[go_sem] theorem T.bytes112 : HL.bytesT Tryz.prog 112 = some 8 := by kernel_rfl
@[go_sem] theorem T.zero112 : HL.zeroT Tryz.prog 112 = some (.nilFunc) := by kernel_rfl
@[go_sem] theorem T.agg113 : HL.aggN Tryz.prog 113 = some none := by kernel_rfl
@[go_sem] theorem T.size113 : HL.sizeT Tryz.prog 113 = some 1 := by kernel_rfl
@[go_sem] theorem T.bytes113 : HL.bytesT Tryz.prog 113 = some 8 := by kernel_rfl
@[go_sem] theorem T.zero113 : HL.zeroT Tryz.prog 113 = some (.nilFunc) := by kernel_rfl
@[go_sem] theorem T.agg114 : HL.aggN Tryz.prog 114 = some (some 2) := by kernel_rfl
@[go_sem] theorem T.size114 : HL.sizeT Tryz.prog 114 = some 2 := by kernel_rfl
@[go_sem] theorem T.bytes114 : HL.bytesT Tryz.prog 114 = some 32 := by kernel_rfl
@[go_sem] theorem T.zero114 : HL.zeroT Tryz.prog 114 = some (.agg #[.bool false, .slice none 0 0]) := by kernel_rfl
@[go_sem] theorem T.places114 : HL.placesT Tryz.prog 114 = some [(0, 1), (1, 1)] := by kernel_rfl
@[go_sem] theorem T.field114_0 : HL.fieldT Tryz.prog 114 0 = some (0, 4) := by kernel_rfl
@[go_sem] theorem T.fieldO114_0 : HL.fieldO Tryz.prog 114 0 = some 0 := by kernel_rfl
@[go_sem] theorem T.field114_1 : HL.fieldT Tryz.prog 114 1 = some (1, 26) := by kernel_rfl
@[go_sem] theorem T.fieldO114_1 : HL.fieldO Tryz.prog 114 1 = some 1 := by kernel_rfl
@[go_sem] theorem T.agg115 : HL.aggN Tryz.prog 115 = some (some 2) := by kernel_rfl
@[go_sem] theorem T.size115 : HL.sizeT Tryz.prog 115 = some 2 := by kernel_rfl
@[go_sem] theorem T.bytes115 : HL.bytesT Tryz.prog 115 = some 32 := by kernel_rfl
@[go_sem] theorem T.zero115 : HL.zeroT Tryz.prog 115 = some (.agg #[.bool false, .slice none 0 0]) := by kernel_rfl
@[go_sem] theorem T.places115 : HL.placesT Tryz.prog 115 = some [(0, 1), (1, 1)] := by kernel_rfl
@[go_sem] theorem T.field115_0 : HL.fieldT Tryz.prog 115 0 = some (0, 4) := by kernel_rfl
@[go_sem] theorem T.fieldO115_0 : HL.fieldO Tryz.prog 115 0 = some 0 := by kernel_rfl
@[go_sem] theorem T.field115_1 : HL.fieldT Tryz.prog 115 1 = some (1, 26) := by kernel_rfl
@[go_sem] theorem T.fieldO115_1 : HL.fieldO Tryz.prog 115 1 = some 1 := by kernel_rfl
@[go_sem] theorem T.agg116 : HL.aggN Tryz.prog 116 = some none := by kernel_rfl
@[go_sem] theorem T.size116 : HL.sizeT Tryz.prog 116 = some 1 := by kernel_rfl
@[go_sem] theorem T.bytes116 : HL.bytesT Tryz.prog 116 = some 8 := by kernel_rfl
@[go_sem] theorem T.zero116 : HL.zeroT Tryz.prog 116 = some (.nilFunc) := by kernel_rfl
@[go_sem] theorem T.agg117 : HL.aggN Tryz.prog 117 = some none := by kernel_rfl
@[go_sem] theorem T.size117 : HL.sizeT Tryz.prog 117 = some 1 := by kernel_rfl
@[go_sem] theorem T.bytes117 : HL.bytesT Tryz.prog 117 = some 8 := by kernel_rfl
@[go_sem] theorem T.zero117 : HL.zeroT Tryz.prog 117 = some (.nilFunc) := by kernel_rfl
@[go_sem] theorem T.agg118 : HL.aggN Tryz.prog 118 = some none := by kernel_rfl
@[go_sem] theorem T.size118 : HL.sizeT Tryz.prog 118 = some 1 := by kernel_rfl
@[go_sem] theorem T.bytes118 : HL.bytesT Tryz.prog 118 = some 8 := by kernel_rfl
@[go_sem] theorem T.zero118 : HL.zeroT Tryz.prog 118 = some (.nilFunc) := by kernel_rfl
@[go_sem] theorem T.agg119 : HL.aggN Tryz.prog 119 = some none := by kernel_rfl
@[go_sem] theorem T.size119 : HL.sizeT Tryz.prog 119 = some 1 := by kernel_rfl
@[go_sem] theorem T.bytes119 : HL.bytesT Tryz.prog 119 = some 8 := by kernel_rfl
@[go_sem] theorem T.zero119 : HL.zeroT Tryz.prog 119 = some (.int .i64 0) := by kernel_rfl
@[go_sem] theorem T.agg121 : HL.aggN Tryz.prog 121 = some none := by kernel_rfl
@[go_sem] theorem T.size121 : HL.sizeT Tryz.prog 121 = some 1 := by kernel_rfl
@[go_sem] theorem T.bytes121 : HL.bytesT Tryz.prog 121 = some 8 := by kernel_rfl
@[go_sem] theorem T.zero121 : HL.zeroT Tryz.prog 121 = some (.nilFunc) := by kernel_rfl
@[go_sem] theorem T.agg122 : HL.aggN Tryz.prog 122 = some none := by kernel_rfl
@[go_sem] theorem T.size122 : HL.sizeT Tryz.prog 122 = some 1 := by kernel_rfl
@[go_sem] theorem T.bytes122 : HL.bytesT Tryz.prog 122 = some 8 := by kernel_rfl
@[go_sem] theorem T.zero122 : HL.zeroT Tryz.prog 122 = some (.nilFunc) := by kernel_rfl
@[go_sem] theorem T.agg123 : HL.aggN Tryz.prog 123 = some none := by kernel_rfl
@[go_sem] theorem T.size123 : HL.sizeT Tryz.prog 123 = some 1 := by kernel_rfl
@[go_sem] theorem T.bytes123 : HL.bytesT Tryz.prog 123 = some 8 := by kernel_rfl
@[go_sem] theorem T.zero123 : HL.zeroT Tryz.prog 123 = some (.nilFunc) := by kernel_rfl
@[go_sem] theorem T.agg124 : HL.aggN Tryz.prog 124 = some none := by kernel_rfl
@[go_sem] theorem T.size124 : HL.sizeT Tryz.prog 124 = some 1 := by kernel_rfl
@[go_sem] theorem T.bytes124 : HL.bytesT Tryz.prog 124 = some 8 := by kernel_rfl
@[go_sem] theorem T.zero124 : HL.zeroT Tryz.prog 124 = some (.nilFunc) := by kernel_rfl
@[go_sem] theorem T.agg125 : HL.aggN Tryz.prog 125 = some none := by kernel_rfl
@[go_sem] theorem T.size125 : HL.sizeT Tryz.prog 125 = some 1 := by kernel_rfl
@[go_sem] theorem T.bytes125 : HL.bytesT Tryz.prog 125 = some 8 := by kernel_rfl
@[go_sem] theorem T.zero125 : HL.zeroT Tryz.prog 125 = some (.nilFunc) := by kernel_rfl
@[go_sem] theorem T.agg126 : HL.aggN Tryz.prog 126 = some none := by kernel_rfl
@[go_sem] theorem T.size126 : HL.sizeT Tryz.prog 126 = some 1 := by kernel_rfl
@[go_sem] theorem T.bytes126 : HL.bytesT Tryz.prog 126 = some 4 := by kernel_rfl
@[go_sem] theorem T.zero126 : HL.zeroT Tryz.prog 126 = some (.int .u32 0) := by kernel_rfl
@[go_sem] theorem T.agg127 : HL.aggN Tryz.prog 127 = some none := by kernel_rfl
@[go_sem] theorem T.size127 : HL.sizeT Tryz.prog 127 = some 1 := by kernel_rfl
@[go_sem] theorem T.bytes127 : HL.bytesT Tryz.prog 127 = some 8 := by kernel_rfl
@[go_sem] theorem T.zero127 : HL.zeroT Tryz.prog 127 = some (.nilFunc) := by kernel_rfl
@[go_sem] theorem T.agg128 : HL.aggN Tryz.prog 128 = some none := by kernel_rfl
@[go_sem] theorem T.size128 : HL.sizeT Tryz.prog 128 = some 1 := by kernel_rfl
@[go_sem] theorem T.bytes128 : HL.bytesT Tryz.prog 128 = some 8 := by kernel_rfl
@[go_sem] theorem T.zero128 : HL.zeroT Tryz.prog 128 = some (.int .u64 0) := by kernel_rfl
@[go_sem] theorem T.agg129 : HL.aggN Tryz.prog 129 = some none := by kernel_rfl
@[go_sem] theorem T.size129 : HL.sizeT Tryz.prog 129 = some 1 := by kernel_rfl
@[go_sem] theorem T.bytes129 : HL.bytesT Tryz.prog 129 = some 8 := by kernel_rfl
@[go_sem] theorem T.zero129 : HL.zeroT Tryz.prog 129 = some (.nilFunc) := by kernel_rfl
@[go_sem] theorem T.agg130 : HL.aggN Tryz.prog 130 = some none := by kernel_rfl
@[go_sem] theorem T.size130 : HL.sizeT Tryz.prog 130 = some 1 := by kernel_rfl
@[go_sem] theorem T.bytes130 : HL.bytesT Tryz.prog 130 = some 8 := by kernel_rfl
@[go_sem] theorem T.zero130 : HL.zeroT Tryz.prog 130 = some (.nilFunc) := by kernel_rfl
@[go_sem] theorem T.agg131 : HL.aggN Tryz.prog 131 = some none := by kernel_rfl
@[go_sem] theorem T.size131 : HL.sizeT Tryz.prog 131 = some 1 := by kernel_rfl
@[go_sem] theorem T.bytes131 : HL.bytesT Tryz.prog 131 = some 8 := by kernel_rfl
@[go_sem] theorem T.zero131 : HL.zeroT Tryz.prog 131 = some (.nilFunc) := by kernel_rfl
@[go_sem] theorem T.agg132 : HL.aggN Tryz.prog 132 = some none := by kernel_rfl
@[go_sem] theorem T.size132 : HL.sizeT Tryz.prog 132 = some 1 := by kernel_rfl
@[go_sem] theorem T.bytes132 : HL.bytesT Tryz.prog 132 = some 8 := by kernel_rfl
@[go_sem] theorem T.zero132 : HL.zeroT Tryz.prog 132 = some (.nilFunc) := by kernel_rfl
@[go_sem] theorem T.agg133 : HL.aggN Tryz.prog 133 = some none := by kernel_rfl
@[go_sem] theorem T.size133 : HL.sizeT Tryz.prog 133 = some 1 := by kernel_rfl
@[go_sem] theorem T.bytes133 : HL.bytesT Tryz.prog 133 = some 8 := by kernel_rfl
@[go_sem] theorem T.zero133 : HL.zeroT Tryz.prog 133 = some (.int .u64 0) := by kernel_rfl
@[go_sem] theorem T.agg134 : HL.aggN Tryz.prog 134 = some none := by kernel_rfl
@[go_sem] theorem T.size134 : HL.sizeT Tryz.prog 134 = some 1 := by kernel_rfl
@[go_sem] theorem T.bytes134 : HL.bytesT Tryz.prog 134 = some 8 := by kernel_rfl
@[go_sem] theorem T.zero134 : HL.zeroT Tryz.prog 134 = some (.nilFunc) := by kernel_rfl
@[go_sem] theorem T.agg135 : HL.aggN Tryz.prog 135 = some none := by kernel_rfl
@[go_sem] theorem T.size135 : HL.sizeT Tryz.prog 135 = some 1 := by kernel_rfl
@[go_sem] theorem T.bytes135 : HL.bytesT Tryz.prog 135 = some 8 := by kernel_rfl
@[go_sem] theorem T.zero135 : HL.zeroT Tryz.prog 135 = some (.nilFunc) := by kernel_rfl
@[go_sem] theorem T.agg136 : HL.aggN Tryz.prog 136 = some none := by kernel_rfl
@[go_sem] theorem T.size136 : HL.sizeT Tryz.prog 136 = some 1 := by kernel_rfl
@[go_sem] theorem T.bytes136 : HL.bytesT Tryz.prog 136 = some 8 := by kernel_rfl
@[go_sem] theorem T.zero136 : HL.zeroT Tryz.prog 136 = some (.nilFunc) := by kernel_rfl
@[go_sem] theorem T.agg137 : HL.aggN Tryz.prog 137 = some none := by kernel_rfl
@[go_sem] theorem T.size137 : HL.sizeT Tryz.prog 137 = some 1 := by kernel_rfl
@[go_sem] theorem T.bytes137 : HL.bytesT Tryz.prog 137 = some 8 := by kernel_rfl
@[go_sem] theorem T.zero137 : HL.zeroT Tryz.prog 137 = some (.pointer none) := by kernel_rfl
@[go_sem] theorem T.agg138 : HL.aggN Tryz.prog 138 = some none := by kernel_rfl
@[go_sem] theorem T.size138 : HL.sizeT Tryz.prog 138 = some 1 := by kernel_rfl
@[go_sem] theorem T.bytes138 : HL.bytesT Tryz.prog 138 = some 8 := by kernel_rfl
@[go_sem] theorem T.zero138 : HL.zeroT Tryz.prog 138 = some (.nilFunc) := by kernel_rfl
@[go_sem] theorem T.agg139 : HL.aggN Tryz.prog 139 = some none := by kernel_rfl
@[go_sem] theorem T.size139 : HL.sizeT Tryz.prog 139 = some 1 := by kernel_rfl
@[go_sem] theorem T.bytes139 : HL.bytesT Tryz.prog 139 = some 8 := by kernel_rfl
@[go_sem] theorem T.zero139 : HL.zeroT Tryz.prog 139 = some (.nilFunc) := by kernel_rfl
@[go_sem] theorem T.agg140 : HL.aggN Tryz.prog 140 = some none := by kernel_rfl
@[go_sem] theorem T.size140 : HL.sizeT Tryz.prog 140 = some 1 := by kernel_rfl
@[go_sem] theorem T.bytes140 : HL.bytesT Tryz.prog 140 = some 8 := by kernel_rfl
@[go_sem] theorem T.zero140 : HL.zeroT Tryz.prog 140 = some (.nilFunc) := by kernel_rfl
@[go_sem] theorem T.agg141 : HL.aggN Tryz.prog 141 = some none := by kernel_rfl
@[go_sem] theorem T.size141 : HL.sizeT Tryz.prog 141 = some 1 := by kernel_rfl
@[go_sem] theorem T.bytes141 : HL.bytesT Tryz.prog 141 = some 8 := by kernel_rfl
@[go_sem] theorem T.zero141 : HL.zeroT Tryz.prog 141 = some (.nilFunc) := by kernel_rfl
@[go_sem] theorem T.agg142 : HL.aggN Tryz.prog 142 = some none := by kernel_rfl
@[go_sem] theorem T.size142 : HL.sizeT Tryz.prog 142 = some 1 := by kernel_rfl
@[go_sem] theorem T.bytes142 : HL.bytesT Tryz.prog 142 = some 8 := by kernel_rfl
@[go_sem] theorem T.zero142 : HL.zeroT Tryz.prog 142 = some (.pointer none) := by kernel_rfl
@[go_sem] theorem T.agg144 : HL.aggN Tryz.prog 144 = some none := by kernel_rfl
@[go_sem] theorem T.size144 : HL.sizeT Tryz.prog 144 = some 1 := by kernel_rfl
@[go_sem] theorem T.bytes144 : HL.bytesT Tryz.prog 144 = some 8 := by kernel_rfl
@[go_sem] theorem T.zero144 : HL.zeroT Tryz.prog 144 = some (.nilFunc) := by kernel_rfl
@[go_sem] theorem T.agg145 : HL.aggN Tryz.prog 145 = some none := by kernel_rfl
@[go_sem] theorem T.size145 : HL.sizeT Tryz.prog 145 = some 1 := by kernel_rfl
@[go_sem] theorem T.bytes145 : HL.bytesT Tryz.prog 145 = some 8 := by kernel_rfl
@[go_sem] theorem T.zero145 : HL.zeroT Tryz.prog 145 = some (.nilFunc) := by kernel_rfl
@[go_sem] theorem T.agg146 : HL.aggN Tryz.prog 146 = some (some 4) := by kernel_rfl
@[go_sem] theorem T.size146 : HL.sizeT Tryz.prog 146 = some 4 := by kernel_rfl
@[go_sem] theorem T.bytes146 : HL.bytesT Tryz.prog 146 = some 40 := by kernel_rfl
@[go_sem] theorem T.zero146 : HL.zeroT Tryz.prog 146 = some (.agg #[.pointer none, .pointer none, .pointer none, .string ⟨#[]⟩]) := by kernel_rfl
@[go_sem] theorem T.places146 : HL.placesT Tryz.prog 146 = some [(0, 1), (1, 1), (2, 1), (3, 1)] := by kernel_rfl
@[go_sem] theorem T.field146_0 : HL.fieldT Tryz.prog 146 0 = some (0, 17) := by kernel_rfl
@[go_sem] theorem T.fieldO146_0 : HL.fieldO Tryz.prog 146 0 = some 0 := by kernel_rfl
@[go_sem] theorem T.field146_1 : HL.fieldT Tryz.prog 146 1 = some (1, 17) := by kernel_rfl
@[go_sem] theorem T.fieldO146_1 : HL.fieldO Tryz.prog 146 1 = some 1 := by kernel_rfl
@[go_sem] theorem T.field146_2 : HL.fieldT Tryz.prog 146 2 = some (2, 17) := by kernel_rfl
@[go_sem] theorem T.fieldO146_2 : HL.fieldO Tryz.prog 146 2 = some 2 := by kernel_rfl
@[go_sem] theorem T.field146_3 : HL.fieldT Tryz.prog 146 3 = some (3, 9) := by kernel_rfl
@[go_sem] theorem T.fieldO146_3 : HL.fieldO Tryz.prog 146 3 = some 3 := by kernel_rfl
@[go_sem] theorem T.agg147 : HL.aggN Tryz.prog 147 = some (some 4) := by kernel_rfl
@[go_sem] theorem T.size147 : HL.sizeT Tryz.prog 147 = some 4 := by kernel_rfl
@[go_sem] theorem T.bytes147 : HL.bytesT Tryz.prog 147 = some 40 := by kernel_rfl
@[go_sem] theorem T.zero147 : HL.zeroT Tryz.prog 147 = some (.agg #[.pointer none, .pointer none, .pointer none, .string ⟨#[]⟩]) := by kernel_rfl
@[go_sem] theorem T.places147 : HL.placesT Tryz.prog 147 = some [(0, 1), (1, 1), (2, 1), (3, 1)] := by kernel_rfl
@[go_sem] theorem T.field147_0 : HL.fieldT Tryz.prog 147 0 = some (0, 17) := by kernel_rfl
@[go_sem] theorem T.fieldO147_0 : HL.fieldO Tryz.prog 147 0 = some 0 := by kernel_rfl
@[go_sem] theorem T.field147_1 : HL.fieldT Tryz.prog 147 1 = some (1, 17) := by kernel_rfl
@[go_sem] theorem T.fieldO147_1 : HL.fieldO Tryz.prog 147 1 = some 1 := by kernel_rfl
@[go_sem] theorem T.field147_2 : HL.fieldT Tryz.prog 147 2 = some (2, 17) := by kernel_rfl
@[go_sem] theorem T.fieldO147_2 : HL.fieldO Tryz.prog 147 2 = some 2 := by kernel_rfl
@[go_sem] theorem T.field147_3 : HL.fieldT Tryz.prog 147 3 = some (3, 9) := by kernel_rfl
@[go_sem] theorem T.fieldO147_3 : HL.fieldO Tryz.prog 147 3 = some 3 := by kernel_rfl
@[go_sem] theorem T.agg148 : HL.aggN Tryz.prog 148 = some (some 0) := by kernel_rfl
@[go_sem] theorem T.size148 : HL.sizeT Tryz.prog 148 = some 0 := by kernel_rfl
@[go_sem] theorem T.bytes148 : HL.bytesT Tryz.prog 148 = some 0 := by kernel_rfl
@[go_sem] theorem T.zero148 : HL.zeroT Tryz.prog 148 = some (.agg #[]) := by kernel_rfl
@[go_sem] theorem T.places148 : HL.placesT Tryz.prog 148 = none := by kernel_rfl
@[go_sem] theorem T.arr148 : HL.arrT Tryz.prog 148 = some (0, 16) := by kernel_rfl
@[go_sem] theorem T.arrS148 : HL.arrS Tryz.prog 148 = some (0, 1) := by kernel_rfl
@[go_sem] theorem T.agg149 : HL.aggN Tryz.prog 149 = some (some 0) := by kernel_rfl
@[go_sem] theorem T.size149 : HL.sizeT Tryz.prog 149 = some 0 := by kernel_rfl
@[go_sem] theorem T.bytes149 : HL.bytesT Tryz.prog 149 = some 0 := by kernel_rfl
@[go_sem] theorem T.zero149 : HL.zeroT Tryz.prog 149 = some (.agg #[]) := by kernel_rfl
@[go_sem] theorem T.places149 : HL.placesT Tryz.prog 149 = some [(0, 0)] := by kernel_rfl
@[go_sem] theorem T.field149_0 : HL.fieldT Tryz.prog 149 0 = some (0, 148) := by kernel_rfl
@[go_sem] theorem T.agg150 : HL.aggN Tryz.prog 150 = some (some 0) := by kernel_rfl
@[go_sem] theorem T.size150 : HL.sizeT Tryz.prog 150 = some 0 := by kernel_rfl
@[go_sem] theorem T.bytes150 : HL.bytesT Tryz.prog 150 = some 0 := by kernel_rfl
@[go_sem] theorem T.zero150 : HL.zeroT Tryz.prog 150 = some (.agg #[]) := by kernel_rfl
@[go_sem] theorem T.places150 : HL.placesT Tryz.prog 150 = some [(0, 0)] := by kernel_rfl
@[go_sem] theorem T.field150_0 : HL.fieldT Tryz.prog 150 0 = some (0, 148) := by kernel_rfl
@[go_sem] theorem T.agg151 : HL.aggN Tryz.prog 151 = some none := by kernel_rfl
@[go_sem] theorem T.size151 : HL.sizeT Tryz.prog 151 = some 1 := by kernel_rfl
@[go_sem] theorem T.bytes151 : HL.bytesT Tryz.prog 151 = some 1 := by kernel_rfl
@[go_sem] theorem T.zero151 : HL.zeroT Tryz.prog 151 = some (.int .u8 0) := by kernel_rfl
@[go_sem] theorem T.agg152 : HL.aggN Tryz.prog 152 = some none := by kernel_rfl
@[go_sem] theorem T.size152 : HL.sizeT Tryz.prog 152 = some 1 := by kernel_rfl
@[go_sem] theorem T.bytes152 : HL.bytesT Tryz.prog 152 = some 1 := by kernel_rfl
@[go_sem] theorem T.zero152 : HL.zeroT Tryz.prog 152 = some (.int .u8 0) := by kernel_rfl
@[go_sem] theorem T.agg153 : HL.aggN Tryz.prog 153 = some none := by kernel_rfl
@[go_sem] theorem T.size153 : HL.sizeT Tryz.prog 153 = some 1 := by kernel_rfl
@[go_sem] theorem T.bytes153 : HL.bytesT Tryz.prog 153 = some 8 := by kernel_rfl
@[go_sem] theorem T.zero153 : HL.zeroT Tryz.prog 153 = some (.nilFunc) := by kernel_rfl
@[go_sem] theorem T.agg154 : HL.aggN Tryz.prog 154 = some none := by kernel_rfl
@[go_sem] theorem T.size154 : HL.sizeT Tryz.prog 154 = some 1 := by kernel_rfl
@[go_sem] theorem T.bytes154 : HL.bytesT Tryz.prog 154 = some 8 := by kernel_rfl
@[go_sem] theorem T.zero154 : HL.zeroT Tryz.prog 154 = some (.pointer none) := by kernel_rfl
@[go_sem] theorem T.agg155 : HL.aggN Tryz.prog 155 = some none := by kernel_rfl
@[go_sem] theorem T.size155 : HL.sizeT Tryz.prog 155 = some 1 := by kernel_rfl
@[go_sem] theorem T.bytes155 : HL.bytesT Tryz.prog 155 = some 4 := by kernel_rfl
@[go_sem] theorem T.zero155 : HL.zeroT Tryz.prog 155 = some (.int .i32 0) := by kernel_rfl
@[go_sem] theorem T.agg156 : HL.aggN Tryz.prog 156 = some none := by kernel_rfl
@[go_sem] theorem T.size156 : HL.sizeT Tryz.prog 156 = some 1 := by kernel_rfl
@[go_sem] theorem T.bytes156 : HL.bytesT Tryz.prog 156 = some 4 := by kernel_rfl
@[go_sem] theorem T.zero156 : HL.zeroT Tryz.prog 156 = some (.int .i32 0) := by kernel_rfl
@[go_sem] theorem T.agg157 : HL.aggN Tryz.prog 157 = some (some 11) := by kernel_rfl
@[go_sem] theorem T.size157 : HL.sizeT Tryz.prog 157 = some 11 := by kernel_rfl
@[go_sem] theorem T.bytes157 : HL.bytesT Tryz.prog 157 = some 48 := by kernel_rfl
@[go_sem] theorem T.zero157 : HL.zeroT Tryz.prog 157 = some (.agg #[.int .u64 0, .int .u64 0, .int .u32 0, .int .u8 0, .int .u8 0, .int .u8 0, .int .u8 0, .nilFunc, .pointer none, .int .i32 0, .int .i32 0]) := by kernel_rfl
@[go_sem] theorem T.places157 : HL.placesT Tryz.prog 157 = some [(0, 1), (1, 1), (2, 1), (3, 1), (4, 1), (5, 1), (6, 1), (7, 1), (8, 1), (9, 1), (10, 1)] := by kernel_rfl
@[go_sem] theorem T.field157_0 : HL.fieldT Tryz.prog 157 0 = some (0, 12) := by kernel_rfl
@[go_sem] theorem T.fieldO157_0 : HL.fieldO Tryz.prog 157 0 = some 0 := by kernel_rfl
@[go_sem] theorem T.field157_1 : HL.fieldT Tryz.prog 157 1 = some (1, 12) := by kernel_rfl
@[go_sem] theorem T.fieldO157_1 : HL.fieldO Tryz.prog 157 1 = some 1 := by kernel_rfl
@[go_sem] theorem T.field157_2 : HL.fieldT Tryz.prog 157 2 = some (2, 126) := by kernel_rfl
@[go_sem] theorem T.fieldO157_2 : HL.fieldO Tryz.prog 157 2 = some 2 := by kernel_rfl
@[go_sem] theorem T.field157_3 : HL.fieldT Tryz.prog 157 3 = some (3, 151) := by kernel_rfl
@[go_sem] theorem T.fieldO157_3 : HL.fieldO Tryz.prog 157 3 = some 3 := by kernel_rfl
@[go_sem] theorem T.field157_4 : HL.fieldT Tryz.prog 157 4 = some (4, 5) := by kernel_rfl
@[go_sem] theorem T.fieldO157_4 : HL.fieldO Tryz.prog 157 4 = some 4 := by kernel_rfl
@[go_sem] theorem T.field157_5 : HL.fieldT Tryz.prog 157 5 = some (5, 5) := by kernel_rfl
@[go_sem] theorem T.fieldO157_5 : HL.fieldO Tryz.prog 157 5 = some 5 := by kernel_rfl
@[go_sem] theorem T.field157_6 : HL.fieldT Tryz.prog 157 6 = some (6, 152) := by kernel_rfl
@[go_sem] theorem T.fieldO157_6 : HL.fieldO Tryz.prog 157 6 = some 6 := by kernel_rfl
@[go_sem] theorem T.field157_7 : HL.fieldT Tryz.prog 157 7 = some (7, 153) := by kernel_rfl
@[go_sem] theorem T.fieldO157_7 : HL.fieldO Tryz.prog 157 7 = some 7 := by kernel_rfl
@[go_sem] theorem T.field157_8 : HL.fieldT Tryz.prog 157 8 = some (8, 154) := by kernel_rfl
@[go_sem] theorem T.fieldO157_8 : HL.fieldO Tryz.prog 157 8 = some 8 := by kernel_rfl
@[go_sem] theorem T.field157_9 : HL.fieldT Tryz.prog 157 9 = some (9, 155) := by kernel_rfl
@[go_sem] theorem T.fieldO157_9 : HL.fieldO Tryz.prog 157 9 = some 9 := by kernel_rfl
@[go_sem] theorem T.field157_10 : HL.fieldT Tryz.prog 157 10 = some (10, 156) := by kernel_rfl
@[go_sem] theorem T.fieldO157_10 : HL.fieldO Tryz.prog 157 10 = some 10 := by kernel_rfl
@[go_sem] theorem T.agg158 : HL.aggN Tryz.prog 158 = some (some 11) := by kernel_rfl
@[go_sem] theorem T.size158 : HL.sizeT Tryz.prog 158 = some 11 := by kernel_rfl
@[go_sem] theorem T.bytes158 : HL.bytesT Tryz.prog 158 = some 48 := by kernel_rfl
@[go_sem] theorem T.zero158 : HL.zeroT Tryz.prog 158 = some (.agg #[.int .u64 0, .int .u64 0, .int .u32 0, .int .u8 0, .int .u8 0, .int .u8 0, .int .u8 0, .nilFunc, .pointer none, .int .i32 0, .int .i32 0]) := by kernel_rfl
@[go_sem] theorem T.places158 : HL.placesT Tryz.prog 158 = some [(0, 1), (1, 1), (2, 1), (3, 1), (4, 1), (5, 1), (6, 1), (7, 1), (8, 1), (9, 1), (10, 1)] := by kernel_rfl
@[go_sem] theorem T.field158_0 : HL.fieldT Tryz.prog 158 0 = some (0, 12) := by kernel_rfl
@[go_sem] theorem T.fieldO158_0 : HL.fieldO Tryz.prog 158 0 = some 0 := by kernel_rfl
@[go_sem] theorem T.field158_1 : HL.fieldT Tryz.prog 158 1 = some (1, 12) := by kernel_rfl
@[go_sem] theorem T.fieldO158_1 : HL.fieldO Tryz.prog 158 1 = some 1 := by kernel_rfl
@[go_sem] theorem T.field158_2 : HL.fieldT Tryz.prog 158 2 = some (2, 126) := by kernel_rfl
@[go_sem] theorem T.fieldO158_2 : HL.fieldO Tryz.prog 158 2 = some 2 := by kernel_rfl
@[go_sem] theorem T.field158_3 : HL.fieldT Tryz.prog 158 3 = some (3, 151) := by kernel_rfl
@[go_sem] theorem T.fieldO158_3 : HL.fieldO Tryz.prog 158 3 = some 3 := by kernel_rfl
@[go_sem] theorem T.field158_4 : HL.fieldT Tryz.prog 158 4 = some (4, 5) := by kernel_rfl
@[go_sem] theorem T.fieldO158_4 : HL.fieldO Tryz.prog 158 4 = some 4 := by kernel_rfl
@[go_sem] theorem T.field158_5 : HL.fieldT Tryz.prog 158 5 = some (5, 5) := by kernel_rfl
@[go_sem] theorem T.fieldO158_5 : HL.fieldO Tryz.prog 158 5 = some 5 := by kernel_rfl
@[go_sem] theorem T.field158_6 : HL.fieldT Tryz.prog 158 6 = some (6, 152) := by kernel_rfl
@[go_sem] theorem T.fieldO158_6 : HL.fieldO Tryz.prog 158 6 = some 6 := by kernel_rfl
@[go_sem] theorem T.field158_7 : HL.fieldT Tryz.prog 158 7 = some (7, 153) := by kernel_rfl
@[go_sem] theorem T.fieldO158_7 : HL.fieldO Tryz.prog 158 7 = some 7 := by kernel_rfl
@[go_sem] theorem T.field158_8 : HL.fieldT Tryz.prog 158 8 = some (8, 154) := by kernel_rfl
@[go_sem] theorem T.fieldO158_8 : HL.fieldO Tryz.prog 158 8 = some 8 := by kernel_rfl
@[go_sem] theorem T.field158_9 : HL.fieldT Tryz.prog 158 9 = some (9, 155) := by kernel_rfl
@[go_sem] theorem T.fieldO158_9 : HL.fieldO Tryz.prog 158 9 = some 9 := by kernel_rfl
@[go_sem] theorem T.field158_10 : HL.fieldT Tryz.prog 158 10 = some (10, 156) := by kernel_rfl
@[go_sem] theorem T.fieldO158_10 : HL.fieldO Tryz.prog 158 10 = some 10 := by kernel_rfl
@[go_sem] theorem T.agg159 : HL.aggN Tryz.prog 159 = some none := by kernel_rfl
@[go_sem] theorem T.size159 : HL.sizeT Tryz.prog 159 = some 1 := by kernel_rfl
@[go_sem] theorem T.bytes159 : HL.bytesT Tryz.prog 159 = some 8 := by kernel_rfl
@[go_sem] theorem T.zero159 : HL.zeroT Tryz.prog 159 = some (.pointer none) := by kernel_rfl
theorem T.el26 : HL.ElT Tryz.prog 26 3 1 8 (.int .i64 0) := ⟨T.elem26, T.size3, T.bytes3, T.zero3⟩
@[go_sem] theorem T.bs26_1 {H : HL.Heap} {k0 : IntKind} {n0 : Int} : HL.buildSliceV Tryz.prog H 26 1 [(0, .int k0 n0)] = some (.slice (some ⟨H.size, 0, none⟩) 1 1, H.push (.cells #[.int k0 n0] 3)) := HL.bs_one T.elem26 T.size3 T.zero3 rfl
@[go_sem] theorem T.bs26_2 {H : HL.Heap} {k0 : IntKind} {n0 : Int} {k1 : IntKind} {n1 : Int} : HL.buildSliceV Tryz.prog H 26 2 [(0, .int k0 n0), (1, .int k1 n1)] = some (.slice (some ⟨H.size, 0, none⟩) 2 2, H.push (.cells #[.int k0 n0, .int k1 n1] 3)) := HL.bs_two T.elem26 T.size3 T.zero3 rfl rfl
@[go_sem] theorem T.bs26_3 {H : HL.Heap} {k0 : IntKind} {n0 : Int} {k1 : IntKind} {n1 : Int} {k2 : IntKind} {n2 : Int} : HL.buildSliceV Tryz.prog H 26 3 [(0, .int k0 n0), (1, .int k1 n1), (2, .int k2 n2)] = some (.slice (some ⟨H.size, 0, none⟩) 3 3, H.push (.cells #[.int k0 n0, .int k1 n1, .int k2 n2] 3)) := HL.bs_three T.elem26 T.size3 T.zero3 rfl rfl rfl
@[go_sem] theorem T.bs26_4 {H : HL.Heap} {k0 : IntKind} {n0 : Int} {k1 : IntKind} {n1 : Int} {k2 : IntKind} {n2 : Int} {k3 : IntKind} {n3 : Int} : HL.buildSliceV Tryz.prog H 26 4 [(0, .int k0 n0), (1, .int k1 n1), (2, .int k2 n2), (3, .int k3 n3)] = some (.slice (some ⟨H.size, 0, none⟩) 4 4, H.push (.cells #[.int k0 n0, .int k1 n1, .int k2 n2, .int k3 n3] 3)) := HL.bs_four T.elem26 T.size3 T.zero3 rfl rfl rfl rfl
@[go_sem] theorem T.bs26_0 {H : HL.Heap} : HL.buildSliceV Tryz.prog H 26 0 [] = some (.slice (some ⟨H.size, 0, none⟩) 0 0, H.push (.cells #[] 3)) := HL.bs_zero T.elem26 T.size3 T.zero3
theorem T.el39 : HL.ElT Tryz.prog 39 26 1 24 (.slice none 0 0) := ⟨T.elem39, T.size26, T.bytes26, T.zero26⟩
@[go_sem] theorem T.bs39_1 {H : HL.Heap} {a0 : Option Addr} {l0 c0 : Nat} : HL.buildSliceV Tryz.prog H 39 1 [(0, .slice a0 l0 c0)] = some (.slice (some ⟨H.size, 0, none⟩) 1 1, H.push (.cells #[.slice a0 l0 c0] 26)) := HL.bs_one T.elem39 T.size26 T.zero26 rfl
@[go_sem] theorem T.bs39_2 {H : HL.Heap} {a0 : Option Addr} {l0 c0 : Nat} {a1 : Option Addr} {l1 c1 : Nat} : HL.buildSliceV Tryz.prog H 39 2 [(0, .slice a0 l0 c0), (1, .slice a1 l1 c1)] = some (.slice (some ⟨H.size, 0, none⟩) 2 2, H.push (.cells #[.slice a0 l0 c0, .slice a1 l1 c1] 26)) := HL.bs_two T.elem39 T.size26 T.zero26 rfl rfl
@[go_sem] theorem T.bs39_3 {H : HL.Heap} {a0 : Option Addr} {l0 c0 : Nat} {a1 : Option Addr} {l1 c1 : Nat} {a2 : Option Addr} {l2 c2 : Nat} : HL.buildSliceV Tryz.prog H 39 3 [(0, .slice a0 l0 c0), (1, .slice a1 l1 c1), (2, .slice a2 l2 c2)] = some (.slice (some ⟨H.size, 0, none⟩) 3 3, H.push (.cells #[.slice a0 l0 c0, .slice a1 l1 c1, .slice a2 l2 c2] 26)) := HL.bs_three T.elem39 T.size26 T.zero26 rfl rfl rfl
@[go_sem] theorem T.bs39_4 {H : HL.Heap} {a0 : Option Addr} {l0 c0 : Nat} {a1 : Option Addr} {l1 c1 : Nat} {a2 : Option Addr} {l2 c2 : Nat} {a3 : Option Addr} {l3 c3 : Nat} : HL.buildSliceV Tryz.prog H 39 4 [(0, .slice a0 l0 c0), (1, .slice a1 l1 c1), (2, .slice a2 l2 c2), (3, .slice a3 l3 c3)] = some (.slice (some ⟨H.size, 0, none⟩) 4 4, H.push (.cells #[.slice a0 l0 c0, .slice a1 l1 c1, .slice a2 l2 c2, .slice a3 l3 c3] 26)) := HL.bs_four T.elem39 T.size26 T.zero26 rfl rfl rfl rfl
@[go_sem] theorem T.bs39_0 {H : HL.Heap} : HL.buildSliceV Tryz.prog H 39 0 [] = some (.slice (some ⟨H.size, 0, none⟩) 0 0, H.push (.cells #[] 26)) := HL.bs_zero T.elem39 T.size26 T.zero26
theorem T.el44 : HL.ElT Tryz.prog 44 4 1 1 (.bool false) := ⟨T.elem44, T.size4, T.bytes4, T.zero4⟩
@[go_sem] theorem T.bs44_1 {H : HL.Heap} {n0 : Bool} : HL.buildSliceV Tryz.prog H 44 1 [(0, .bool n0)] = some (.slice (some ⟨H.size, 0, none⟩) 1 1, H.push (.cells #[.bool n0] 4)) := HL.bs_one T.elem44 T.size4 T.zero4 rfl
@[go_sem] theorem T.bs44_2 {H : HL.Heap} {n0 : Bool} {n1 : Bool} : HL.buildSliceV Tryz.prog H 44 2 [(0, .bool n0), (1, .bool n1)] = some (.slice (some ⟨H.size, 0, none⟩) 2 2, H.push (.cells #[.bool n0, .bool n1] 4)) := HL.bs_two T.elem44 T.size4 T.zero4 rfl rfl
@[go_sem] theorem T.bs44_3 {H : HL.Heap} {n0 : Bool} {n1 : Bool} {n2 : Bool} : HL.buildSliceV Tryz.prog H 44 3 [(0, .bool n0), (1, .bool n1), (2, .bool n2)] = some (.slice (some ⟨H.size, 0, none⟩) 3 3, H.push (.cells #[.bool n0, .bool n1, .bool n2] 4)) := HL.bs_three T.elem44 T.size4 T.zero4 rfl rfl rfl
@[go_sem] theorem T.bs44_4 {H : HL.Heap} {n0 : Bool} {n1 : Bool} {n2 : Bool} {n3 : Bool} : HL.buildSliceV Tryz.prog H 44 4 [(0, .bool n0), (1, .bool n1), (2, .bool n2), (3, .bool n3)] = some (.slice (some ⟨H.size, 0, none⟩) 4 4, H.push (.cells #[.bool n0, .bool n1, .bool n2, .bool n3] 4)) := HL.bs_four T.elem44 T.size4 T.zero4 rfl rfl rfl rfl
@[go_sem] theorem T.bs44_0 {H : HL.Heap} : HL.buildSliceV Tryz.prog H 44 0 [] = some (.slice (some ⟨H.size, 0, none⟩) 0 0, H.push (.cells #[] 4)) := HL.bs_zero T.elem44 T.size4 T.zero4
theorem T.el49 : HL.ElT Tryz.prog 49 82 2 16 (.agg #[.int .i64 0, .int .i64 0]) := ⟨T.elem49, T.size82, T.bytes82, T.zero82⟩
@[go_sem] theorem T.bs49_0 {H : HL.Heap} : HL.buildSliceV Tryz.prog H 49 0 [] = some (.slice (some ⟨H.size, 0, none⟩) 0 0, H.push (.cells #[] 82)) := HL.bs_zero T.elem49 T.size82 T.zero82
theorem T.el63 : HL.ElT Tryz.prog 63 115 2 32 (.agg #[.bool false, .slice none 0 0]) := ⟨T.elem63, T.size115, T.bytes115, T.zero115⟩
@[go_sem] theorem T.bs63_0 {H : HL.Heap} : HL.buildSliceV Tryz.prog H 63 0 [] = some (.slice (some ⟨H.size, 0, none⟩) 0 0, H.push (.cells #[] 115)) := HL.bs_zero T.elem63 T.size115 T.zero115
theorem T.el64 : HL.ElT Tryz.prog 64 66 1 24 (.slice none 0 0) := ⟨T.elem64, T.size66, T.bytes66, T.zero66⟩
@[go_sem] theorem T.bs64_1 {H : HL.Heap} {a0 : Option Addr} {l0 c0 : Nat} : HL.buildSliceV Tryz.prog H 64 1 [(0, .slice a0 l0 c0)] = some (.slice (some ⟨H.size, 0, none⟩) 1 1, H.push (.cells #[.slice a0 l0 c0] 66)) := HL.bs_one T.elem64 T.size66 T.zero66 rfl
@[go_sem] theorem T.bs64_2 {H : HL.Heap} {a0 : Option Addr} {l0 c0 : Nat} {a1 : Option Addr} {l1 c1 : Nat} : HL.buildSliceV Tryz.prog H 64 2 [(0, .slice a0 l0 c0), (1, .slice a1 l1 c1)] = some (.slice (some ⟨H.size, 0, none⟩) 2 2, H.push (.cells #[.slice a0 l0 c0, .slice a1 l1 c1] 66)) := HL.bs_two T.elem64 T.size66 T.zero66 rfl rfl
@[go_sem] theorem T.bs64_3 {H : HL.Heap} {a0 : Option Addr} {l0 c0 : Nat} {a1 : Option Addr} {l1 c1 : Nat} {a2 : Option Addr} {l2 c2 : Nat} : HL.buildSliceV Tryz.prog H 64 3 [(0, .slice a0 l0 c0), (1, .slice a1 l1 c1), (2, .slice a2 l2 c2)] = some (.slice (some ⟨H.size, 0, none⟩) 3 3, H.push (.cells #[.slice a0 l0 c0, .slice a1 l1 c1, .slice a2 l2 c2] 66)) := HL.bs_three T.elem64 T.size66 T.zero66 rfl rfl rfl
@[go_sem] theorem T.bs64_4 {H : HL.Heap} {a0 : Option Addr} {l0 c0 : Nat} {a1 : Option Addr} {l1 c1 : Nat} {a2 : Option Addr} {l2 c2 : Nat} {a3 : Option Addr} {l3 c3 : Nat} : HL.buildSliceV Tryz.prog H 64 4 [(0, .slice a0 l0 c0), (1, .slice a1 l1 c1), (2, .slice a2 l2 c2), (3, .slice a3 l3 c3)] = some (.slice (some ⟨H.size, 0, none⟩) 4 4, H.push (.cells #[.slice a0 l0 c0, .slice a1 l1 c1, .slice a2 l2 c2, .slice a3 l3 c3] 66)) := HL.bs_four T.elem64 T.size66 T.zero66 rfl rfl rfl rfl
@[go_sem] theorem T.bs64_0 {H : HL.Heap} : HL.buildSliceV Tryz.prog H 64 0 [] = some (.slice (some ⟨H.size, 0, none⟩) 0 0, H.push (.cells #[] 66)) := HL.bs_zero T.elem64 T.size66 T.zero66
theorem T.el65 : HL.ElT Tryz.prog 65 103 1 1 (.int .i8 0) := ⟨T.elem65, T.size103, T.bytes103, T.zero103⟩
@[go_sem] theorem T.bs65_1 {H : HL.Heap} {k0 : IntKind} {n0 : Int} : HL.buildSliceV Tryz.prog H 65 1 [(0, .int k0 n0)] = some (.slice (some ⟨H.size, 0, none⟩) 1 1, H.push (.cells #[.int k0 n0] 103)) := HL.bs_one T.elem65 T.size103 T.zero103 rfl
@[go_sem] theorem T.bs65_2 {H : HL.Heap} {k0 : IntKind} {n0 : Int} {k1 : IntKind} {n1 : Int} : HL.buildSliceV Tryz.prog H 65 2 [(0, .int k0 n0), (1, .int k1 n1)] = some (.slice (some ⟨H.size, 0, none⟩) 2 2, H.push (.cells #[.int k0 n0, .int k1 n1] 103)) := HL.bs_two T.elem65 T.size103 T.zero103 rfl rfl
@[go_sem] theorem T.bs65_3 {H : HL.Heap} {k0 : IntKind} {n0 : Int} {k1 : IntKind} {n1 : Int} {k2 : IntKind} {n2 : Int} : HL.buildSliceV Tryz.prog H 65 3 [(0, .int k0 n0), (1, .int k1 n1), (2, .int k2 n2)] = some (.slice (some ⟨H.size, 0, none⟩) 3 3, H.push (.cells #[.int k0 n0, .int k1 n1, .int k2 n2] 103)) := HL.bs_three T.elem65 T.size103 T.zero103 rfl rfl rfl
@[go_sem] theorem T.bs65_4 {H : HL.Heap} {k0 : IntKind} {n0 : Int} {k1 : IntKind} {n1 : Int} {k2 : IntKind} {n2 : Int} {k3 : IntKind} {n3 : Int} : HL.buildSliceV Tryz.prog H 65 4 [(0, .int k0 n0), (1, .int k1 n1), (2, .int k2 n2), (3, .int k3 n3)] = some (.slice (some ⟨H.size, 0, none⟩) 4 4, H.push (.cells #[.int k0 n0, .int k1 n1, .int k2 n2, .int k3 n3] 103)) := HL.bs_four T.elem65 T.size103 T.zero103 rfl rfl rfl rfl
@[go_sem] theorem T.bs65_0 {H : HL.Heap} : HL.buildSliceV Tryz.prog H 65 0 [] = some (.slice (some ⟨H.size, 0, none⟩) 0 0, H.push (.cells #[] 103)) := HL.bs_zero T.elem65 T.size103 T.zero103
theorem T.el66 : HL.ElT Tryz.prog 66 95 1 8 (.pointer none) := ⟨T.elem66, T.size95, T.bytes95, T.zero95⟩
@[go_sem] theorem T.bs66_1 {H : HL.Heap} {a0 : Option Addr} : HL.buildSliceV Tryz.prog H 66 1 [(0, .pointer a0)] = some (.slice (some ⟨H.size, 0, none⟩) 1 1, H.push (.cells #[.pointer a0] 95)) := HL.bs_one T.elem66 T.size95 T.zero95 rfl
@[go_sem] theorem T.bs66_2 {H : HL.Heap} {a0 : Option Addr} {a1 : Option Addr} : HL.buildSliceV Tryz.prog H 66 2 [(0, .pointer a0), (1, .pointer a1)] = some (.slice (some ⟨H.size, 0, none⟩) 2 2, H.push (.cells #[.pointer a0, .pointer a1] 95)) := HL.bs_two T.elem66 T.size95 T.zero95 rfl rfl
@[go_sem] theorem T.bs66_3 {H : HL.Heap} {a0 : Option Addr} {a1 : Option Addr} {a2 : Option Addr} : HL.buildSliceV Tryz.prog H 66 3 [(0, .pointer a0), (1, .pointer a1), (2, .pointer a2)] = some (.slice (some ⟨H.size, 0, none⟩) 3 3, H.push (.cells #[.pointer a0, .pointer a1, .pointer a2] 95)) := HL.bs_three T.elem66 T.size95 T.zero95 rfl rfl rfl
@[go_sem] theorem T.bs66_4 {H : HL.Heap} {a0 : Option Addr} {a1 : Option Addr} {a2 : Option Addr} {a3 : Option Addr} : HL.buildSliceV Tryz.prog H 66 4 [(0, .pointer a0), (1, .pointer a1), (2, .pointer a2), (3, .pointer a3)] = some (.slice (some ⟨H.size, 0, none⟩) 4 4, H.push (.cells #[.pointer a0, .pointer a1, .pointer a2, .pointer a3] 95)) := HL.bs_four T.elem66 T.size95 T.zero95 rfl rfl rfl rfl
@[go_sem] theorem T.bs66_0 {H : HL.Heap} : HL.buildSliceV Tryz.prog H 66 0 [] = some (.slice (some ⟨H.size, 0, none⟩) 0 0, H.push (.cells #[] 95)) := HL.bs_zero T.elem66 T.size95 T.zero95
theorem T.el89 : HL.ElT Tryz.prog 89 2 1 8 (.int .i64 0) := ⟨T.elem89, T.size2, T.bytes2, T.zero2⟩
@[go_sem] theorem T.bs89_1 {H : HL.Heap} {k0 : IntKind} {n0 : Int} : HL.buildSliceV Tryz.prog H 89 1 [(0, .int k0 n0)] = some (.slice (some ⟨H.size, 0, none⟩) 1 1, H.push (.cells #[.int k0 n0] 2)) := HL.bs_one T.elem89 T.size2 T.zero2 rfl
@[go_sem] theorem T.bs89_2 {H : HL.Heap} {k0 : IntKind} {n0 : Int} {k1 : IntKind} {n1 : Int} : HL.buildSliceV Tryz.prog H 89 2 [(0, .int k0 n0), (1, .int k1 n1)] = some (.slice (some ⟨H.size, 0, none⟩) 2 2, H.push (.cells #[.int k0 n0, .int k1 n1] 2)) := HL.bs_two T.elem89 T.size2 T.zero2 rfl rfl
@[go_sem] theorem T.bs89_3 {H : HL.Heap} {k0 : IntKind} {n0 : Int} {k1 : IntKind} {n1 : Int} {k2 : IntKind} {n2 : Int} : HL.buildSliceV Tryz.prog H 89 3 [(0, .int k0 n0), (1, .int k1 n1), (2, .int k2 n2)] = some (.slice (some ⟨H.size, 0, none⟩) 3 3, H.push (.cells #[.int k0 n0, .int k1 n1, .int k2 n2] 2)) := HL.bs_three T.elem89 T.size2 T.zero2 rfl rfl rfl
@[go_sem] theorem T.bs89_4 {H : HL.Heap} {k0 : IntKind} {n0 : Int} {k1 : IntKind} {n1 : Int} {k2 : IntKind} {n2 : Int} {k3 : IntKind} {n3 : Int} : HL.buildSliceV Tryz.prog H 89 4 [(0, .int k0 n0), (1, .int k1 n1), (2, .int k2 n2), (3, .int k3 n3)] = some (.slice (some ⟨H.size, 0, none⟩) 4 4, H.push (.cells #[.int k0 n0, .int k1 n1, .int k2 n2, .int k3 n3] 2)) := HL.bs_four T.elem89 T.size2 T.zero2 rfl rfl rfl rfl
@[go_sem] theorem T.bs89_0 {H : HL.Heap} : HL.buildSliceV Tryz.prog H 89 0 [] = some (.slice (some ⟨H.size, 0, none⟩) 0 0, H.push (.cells #[] 2)) := HL.bs_zero T.elem89 T.size2 T.zero2
@[go_sem] theorem T.pe15 {H : HL.Heap} {xo yo : Operand} {a : Addr} : HL.binV Tryz.prog (HL.full H) .eql 15 xo yo (.pointer (some a)) (.pointer none) = some (.bool false) := HL.bin_ptr_eql Tryz.underlying15
@[go_sem] theorem T.pn15 {H : HL.Heap} {xo yo : Operand} {a : Addr} : HL.binV Tryz.prog (HL.full H) .neq 15 xo yo (.pointer (some a)) (.pointer none) = some (.bool true) := HL.bin_ptr_neq Tryz.underlying15
@[go_sem] theorem T.ne15 {H : HL.Heap} {xo yo : Operand} : HL.binV Tryz.prog (HL.full H) .eql 15 xo yo (.pointer none) (.pointer none) = some (.bool true) := HL.bin_nil_eql Tryz.underlying15
@[go_sem] theorem T.nn15 {H : HL.Heap} {xo yo : Operand} : HL.binV Tryz.prog (HL.full H) .neq 15 xo yo (.pointer none) (.pointer none) = some (.bool false) := HL.bin_nil_neq Tryz.underlying15
@[go_sem] theorem T.pe16 {H : HL.Heap} {xo yo : Operand} {a : Addr} : HL.binV Tryz.prog (HL.full H) .eql 16 xo yo (.pointer (some a)) (.pointer none) = some (.bool false) := HL.bin_ptr_eql Tryz.underlying16
@[go_sem] theorem T.pn16 {H : HL.Heap} {xo yo : Operand} {a : Addr} : HL.binV Tryz.prog (HL.full H) .neq 16 xo yo (.pointer (some a)) (.pointer none) = some (.bool true) := HL.bin_ptr_neq Tryz.underlying16
@[go_sem] theorem T.ne16 {H : HL.Heap} {xo yo : Operand} : HL.binV Tryz.prog (HL.full H) .eql 16 xo yo (.pointer none) (.pointer none) = some (.bool true) := HL.bin_nil_eql Tryz.underlying16
@[go_sem] theorem T.nn16 {H : HL.Heap} {xo yo : Operand} : HL.binV Tryz.prog (HL.full H) .neq 16 xo yo (.pointer none) (.pointer none) = some (.bool false) := HL.bin_nil_neq Tryz.underlying16
@[go_sem] theorem T.pe17 {H : HL.Heap} {xo yo : Operand} {a : Addr} : HL.binV Tryz.prog (HL.full H) .eql 17 xo yo (.pointer (some a)) (.pointer none) = some (.bool false) := HL.bin_ptr_eql Tryz.underlying17
@[go_sem] theorem T.pn17 {H : HL.Heap} {xo yo : Operand} {a : Addr} : HL.binV Tryz.prog (HL.full H) .neq 17 xo yo (.pointer (some a)) (.pointer none) = some (.bool true) := HL.bin_ptr_neq Tryz.underlying17
@[go_sem] theorem T.ne17 {H : HL.Heap} {xo yo : Operand} : HL.binV Tryz.prog (HL.full H) .eql 17 xo yo (.pointer none) (.pointer none) = some (.bool true) := HL.bin_nil_eql Tryz.underlying17
@[go_sem] theorem T.nn17 {H : HL.Heap} {xo yo : Operand} : HL.binV Tryz.prog (HL.full H) .neq 17 xo yo (.pointer none) (.pointer none) = some (.bool false) := HL.bin_nil_neq Tryz.underlying17
@[go_sem] theorem T.pe24 {H : HL.Heap} {xo yo : Operand} {a : Addr} : HL.binV Tryz.prog (HL.full H) .eql 24 xo yo (.pointer (some a)) (.pointer none) = some (.bool false) := HL.bin_ptr_eql Tryz.underlying24
@[go_sem] theorem T.pn24 {H : HL.Heap} {xo yo : Operand} {a : Addr} : HL.binV Tryz.prog (HL.full H) .neq 24 xo yo (.pointer (some a)) (.pointer none) = some (.bool true) := HL.bin_ptr_neq Tryz.underlying24
@[go_sem] theorem T.ne24 {H : HL.Heap} {xo yo : Operand} : HL.binV Tryz.prog (HL.full H) .eql 24 xo yo (.pointer none) (.pointer none) = some (.bool true) := HL.bin_nil_eql Tryz.underlying24
@[go_sem] theorem T.nn24 {H : HL.Heap} {xo yo : Operand} : HL.binV Tryz.prog (HL.full H) .neq 24 xo yo (.pointer none) (.pointer none) = some (.bool false) := HL.bin_nil_neq Tryz.underlying24
@[go_sem] theorem T.pe32 {H : HL.Heap} {xo yo : Operand} {a : Addr} : HL.binV Tryz.prog (HL.full H) .eql 32 xo yo (.pointer (some a)) (.pointer none) = some (.bool false) := HL.bin_ptr_eql Tryz.underlying32
@[go_sem] theorem T.pn32 {H : HL.Heap} {xo yo : Operand} {a : Addr} : HL.binV Tryz.prog (HL.full H) .neq 32 xo yo (.pointer (some a)) (.pointer none) = some (.bool true) := HL.bin_ptr_neq Tryz.underlying32
@[go_sem] theorem T.ne32 {H : HL.Heap} {xo yo : Operand} : HL.binV Tryz.prog (HL.full H) .eql 32 xo yo (.pointer none) (.pointer none) = some (.bool true) := HL.bin_nil_eql Tryz.underlying32
@[go_sem] theorem T.nn32 {H : HL.Heap} {xo yo : Operand} : HL.binV Tryz.prog (HL.full H) .neq 32 xo yo (.pointer none) (.pointer none) = some (.bool false) := HL.bin_nil_neq Tryz.underlying32
@[go_sem] theorem T.pe34 {H : HL.Heap} {xo yo : Operand} {a : Addr} : HL.binV Tryz.prog (HL.full H) .eql 34 xo yo (.pointer (some a)) (.pointer none) = some (.bool false) := HL.bin_ptr_eql Tryz.underlying34
@[go_sem] theorem T.pn34 {H : HL.Heap} {xo yo : Operand} {a : Addr} : HL.binV Tryz.prog (HL.full H) .neq 34 xo yo (.pointer (some a)) (.pointer none) = some (.bool true) := HL.bin_ptr_neq Tryz.underlying34
@[go_sem] theorem T.ne34 {H : HL.Heap} {xo yo : Operand} : HL.binV Tryz.prog (HL.full H) .eql 34 xo yo (.pointer none) (.pointer none) = some (.bool true) := HL.bin_nil_eql Tryz.underlying34
@[go_sem] theorem T.nn34 {H : HL.Heap} {xo yo : Operand} : HL.binV Tryz.prog (HL.full H) .neq 34 xo yo (.pointer none) (.pointer none) = some (.bool false) := HL.bin_nil_neq Tryz.underlying34
@[go_sem] theorem T.pe60 {H : HL.Heap} {xo yo : Operand} {a : Addr} : HL.binV Tryz.prog (HL.full H) .eql 60 xo yo (.pointer (some a)) (.pointer none) = some (.bool false) := HL.bin_ptr_eql Tryz.underlying60
@[go_sem] theorem T.pn60 {H : HL.Heap} {xo yo : Operand} {a : Addr} : HL.binV Tryz.prog (HL.full H) .neq 60 xo yo (.pointer (some a)) (.pointer none) = some (.bool true) := HL.bin_ptr_neq Tryz.underlying60
@[go_sem] theorem T.ne60 {H : HL.Heap} {xo yo : Operand} : HL.binV Tryz.prog (HL.full H) .eql 60 xo yo (.pointer none) (.pointer none) = some (.bool true) := HL.bin_nil_eql Tryz.underlying60
@[go_sem] theorem T.nn60 {H : HL.Heap} {xo yo : Operand} : HL.binV Tryz.prog (HL.full H) .neq 60 xo yo (.pointer none) (.pointer none) = some (.bool false) := HL.bin_nil_neq Tryz.underlying60
@[go_sem] theorem T.pe95 {H : HL.Heap} {xo yo : Operand} {a : Addr} : HL.binV Tryz.prog (HL.full H) .eql 95 xo yo (.pointer (some a)) (.pointer none) = some (.bool false) := HL.bin_ptr_eql Tryz.underlying95
@[go_sem] theorem T.pn95 {H : HL.Heap} {xo yo : Operand} {a : Addr} : HL.binV Tryz.prog (HL.full H) .neq 95 xo yo (.pointer (some a)) (.pointer none) = some (.bool true) := HL.bin_ptr_neq Tryz.underlying95
@[go_sem] theorem T.ne95 {H : HL.Heap} {xo yo : Operand} : HL.binV Tryz.prog (HL.full H) .eql 95 xo yo (.pointer none) (.pointer none) = some (.bool true) := HL.bin_nil_eql Tryz.underlying95
@[go_sem] theorem T.nn95 {H : HL.Heap} {xo yo : Operand} : HL.binV Tryz.prog (HL.full H) .neq 95 xo yo (.pointer none) (.pointer none) = some (.bool false) := HL.bin_nil_neq Tryz.underlying95
@[go_sem] theorem T.pe107 {H : HL.Heap} {xo yo : Operand} {a : Addr} : HL.binV Tryz.prog (HL.full H) .eql 107 xo yo (.pointer (some a)) (.pointer none) = some (.bool false) := HL.bin_ptr_eql Tryz.underlying107
@[go_sem] theorem T.pn107 {H : HL.Heap} {xo yo : Operand} {a : Addr} : HL.binV Tryz.prog (HL.full H) .neq 107 xo yo (.pointer (some a)) (.pointer none) = some (.bool true) := HL.bin_ptr_neq Tryz.underlying107
@[go_sem] theorem T.ne107 {H : HL.Heap} {xo yo : Operand} : HL.binV Tryz.prog (HL.full H) .eql 107 xo yo (.pointer none) (.pointer none) = some (.bool true) := HL.bin_nil_eql Tryz.underlying107
@[go_sem] theorem T.nn107 {H : HL.Heap} {xo yo : Operand} : HL.binV Tryz.prog (HL.full H) .neq 107 xo yo (.pointer none) (.pointer none) = some (.bool false) := HL.bin_nil_neq Tryz.underlying107
@[go_sem] theorem T.pe137 {H : HL.Heap} {xo yo : Operand} {a : Addr} : HL.binV Tryz.prog (HL.full H) .eql 137 xo yo (.pointer (some a)) (.pointer none) = some (.bool false) := HL.bin_ptr_eql Tryz.underlying137
@[go_sem] theorem T.pn137 {H : HL.Heap} {xo yo : Operand} {a : Addr} : HL.binV Tryz.prog (HL.full H) .neq 137 xo yo (.pointer (some a)) (.pointer none) = some (.bool true) := HL.bin_ptr_neq Tryz.underlying137
@[go_sem] theorem T.ne137 {H : HL.Heap} {xo yo : Operand} : HL.binV Tryz.prog (HL.full H) .eql 137 xo yo (.pointer none) (.pointer none) = some (.bool true) := HL.bin_nil_eql Tryz.underlying137
@[go_sem] theorem T.nn137 {H : HL.Heap} {xo yo : Operand} : HL.binV Tryz.prog (HL.full H) .neq 137 xo yo (.pointer none) (.pointer none) = some (.bool false) := HL.bin_nil_neq Tryz.underlying137
@[go_sem] theorem T.pe142 {H : HL.Heap} {xo yo : Operand} {a : Addr} : HL.binV Tryz.prog (HL.full H) .eql 142 xo yo (.pointer (some a)) (.pointer none) = some (.bool false) := HL.bin_ptr_eql Tryz.underlying142
@[go_sem] theorem T.pn142 {H : HL.Heap} {xo yo : Operand} {a : Addr} : HL.binV Tryz.prog (HL.full H) .neq 142 xo yo (.pointer (some a)) (.pointer none) = some (.bool true) := HL.bin_ptr_neq Tryz.underlying142
@[go_sem] theorem T.ne142 {H : HL.Heap} {xo yo : Operand} : HL.binV Tryz.prog (HL.full H) .eql 142 xo yo (.pointer none) (.pointer none) = some (.bool true) := HL.bin_nil_eql Tryz.underlying142
@[go_sem] theorem T.nn142 {H : HL.Heap} {xo yo : Operand} : HL.binV Tryz.prog (HL.full H) .neq 142 xo yo (.pointer none) (.pointer none) = some (.bool false) := HL.bin_nil_neq Tryz.underlying142
@[go_sem] theorem T.pe154 {H : HL.Heap} {xo yo : Operand} {a : Addr} : HL.binV Tryz.prog (HL.full H) .eql 154 xo yo (.pointer (some a)) (.pointer none) = some (.bool false) := HL.bin_ptr_eql Tryz.underlying154
@[go_sem] theorem T.pn154 {H : HL.Heap} {xo yo : Operand} {a : Addr} : HL.binV Tryz.prog (HL.full H) .neq 154 xo yo (.pointer (some a)) (.pointer none) = some (.bool true) := HL.bin_ptr_neq Tryz.underlying154
@[go_sem] theorem T.ne154 {H : HL.Heap} {xo yo : Operand} : HL.binV Tryz.prog (HL.full H) .eql 154 xo yo (.pointer none) (.pointer none) = some (.bool true) := HL.bin_nil_eql Tryz.underlying154
@[go_sem] theorem T.nn154 {H : HL.Heap} {xo yo : Operand} : HL.binV Tryz.prog (HL.full H) .neq 154 xo yo (.pointer none) (.pointer none) = some (.bool false) := HL.bin_nil_neq Tryz.underlying154
@[go_sem] theorem T.be4 {H : HL.Heap} {xo yo : Operand} {x y : Bool} : HL.binV Tryz.prog (HL.full H) .eql 4 xo yo (.bool x) (.bool y) = some (.bool (x == y)) := HL.bin_bool_eql Tryz.underlying4
@[go_sem] theorem T.bn4 {H : HL.Heap} {xo yo : Operand} {x y : Bool} : HL.binV Tryz.prog (HL.full H) .neq 4 xo yo (.bool x) (.bool y) = some (.bool (!(x == y))) := HL.bin_bool_neq Tryz.underlying4
@[go_sem] theorem T.se82 {H : HL.Heap} {xo yo : Operand} {a0 b0 : Int} {a1 b1 : Int} : HL.binV Tryz.prog (HL.full H) .eql 82 xo yo (.agg #[.int .i64 a0, .int .i64 a1]) (.agg #[.int .i64 b0, .int .i64 b1]) = some (.bool ((decide (a0 = b0 ∧ a1 = b1 ∧ True)))) := (HL.bin_struct (xs := [.int .i64 a0, .int .i64 a1]) (ys := [.int .i64 b0, .int .i64 b1]) Tryz.underlying82 (by kernel_rfl) (by kernel_rfl) (HL.eqF_int (by decide) Tryz.underlying3 rfl rfl (HL.eqF_int (by decide) Tryz.underlying3 rfl rfl HL.eqF_nil))).1
@[go_sem] theorem T.sn82 {H : HL.Heap} {xo yo : Operand} {a0 b0 : Int} {a1 b1 : Int} : HL.binV Tryz.prog (HL.full H) .neq 82 xo yo (.agg #[.int .i64 a0, .int .i64 a1]) (.agg #[.int .i64 b0, .int .i64 b1]) = some (.bool (!(decide (a0 = b0 ∧ a1 = b1 ∧ True)))) := (HL.bin_struct (xs := [.int .i64 a0, .int .i64 a1]) (ys := [.int .i64 b0, .int .i64 b1]) Tryz.underlying82 (by kernel_rfl) (by kernel_rfl) (HL.eqF_int (by decide) Tryz.underlying3 rfl rfl (HL.eqF_int (by decide) Tryz.underlying3 rfl rfl HL.eqF_nil))).2
@[go_sem] theorem T.cv2_2 {V : HL.HV} {k : IntKind} {n : Int} : HL.convV Tryz.prog V 2 2 (.int k n) = some (.int .i64 (IntKind.i64.wrap n)) := HL.conv_int Tryz.underlying2 Tryz.underlying2
@[go_sem] theorem T.cv2_3 {V : HL.HV} {k : IntKind} {n : Int} : HL.convV Tryz.prog V 2 3 (.int k n) = some (.int .i64 (IntKind.i64.wrap n)) := HL.conv_int Tryz.underlying2 Tryz.underlying3
@[go_sem] theorem T.cv2_5 {V : HL.HV} {k : IntKind} {n : Int} : HL.convV Tryz.prog V 2 5 (.int k n) = some (.int .u8 (IntKind.u8.wrap n)) := HL.conv_int Tryz.underlying2 Tryz.underlying5
@[go_sem] theorem T.cv2_6 {V : HL.HV} {k : IntKind} {n : Int} : HL.convV Tryz.prog V 2 6 (.int k n) = some (.int .u8 (IntKind.u8.wrap n)) := HL.conv_int Tryz.underlying2 Tryz.underlying6
@[go_sem] theorem T.cv2_12 {V : HL.HV} {k : IntKind} {n : Int} : HL.convV Tryz.prog V 2 12 (.int k n) = some (.int .u64 (IntKind.u64.wrap n)) := HL.conv_int Tryz.underlying2 Tryz.underlying12
@[go_sem] theorem T.cv2_21 {V : HL.HV} {k : IntKind} {n : Int} : HL.convV Tryz.prog V 2 21 (.int k n) = some (.int .i32 (IntKind.i32.wrap n)) := HL.conv_int Tryz.underlying2 Tryz.underlying21
@[go_sem] theorem T.cv2_35 {V : HL.HV} {k : IntKind} {n : Int} : HL.convV Tryz.prog V 2 35 (.int k n) = some (.int .i64 (IntKind.i64.wrap n)) := HL.conv_int Tryz.underlying2 Tryz.underlying35
@[go_sem] theorem T.cv2_102 {V : HL.HV} {k : IntKind} {n : Int} : HL.convV Tryz.prog V 2 102 (.int k n) = some (.int .u64 (IntKind.u64.wrap n)) := HL.conv_int Tryz.underlying2 Tryz.underlying102
@[go_sem] theorem T.cv2_103 {V : HL.HV} {k : IntKind} {n : Int} : HL.convV Tryz.prog V 2 103 (.int k n) = some (.int .i8 (IntKind.i8.wrap n)) := HL.conv_int Tryz.underlying2 Tryz.underlying103
@[go_sem] theorem T.cv2_119 {V : HL.HV} {k : IntKind} {n : Int} : HL.convV Tryz.prog V 2 119 (.int k n) = some (.int .i64 (IntKind.i64.wrap n)) := HL.conv_int Tryz.underlying2 Tryz.underlying119
@[go_sem] theorem T.cv2_126 {V : HL.HV} {k : IntKind} {n : Int} : HL.convV Tryz.prog V 2 126 (.int k n) = some (.int .u32 (IntKind.u32.wrap n)) := HL.conv_int Tryz.underlying2 Tryz.underlying126
@[go_sem] theorem T.cv2_128 {V : HL.HV} {k : IntKind} {n : Int} : HL.convV Tryz.prog V 2 128 (.int k n) = some (.int .u64 (IntKind.u64.wrap n)) := HL.conv_int Tryz.underlying2 Tryz.underlying128
@[go_sem] theorem T.cv2_133 {V : HL.HV} {k : IntKind} {n : Int} : HL.convV Tryz.prog V 2 133 (.int k n) = some (.int .u64 (IntKind.u64.wrap n)) := HL.conv_int Tryz.underlying2 Tryz.underlying133
@[go_sem] theorem T.cv2_151 {V : HL.HV} {k : IntKind} {n : Int} : HL.convV Tryz.prog V 2 151 (.int k n) = some (.int .u8 (IntKind.u8.wrap n)) := HL.conv_int Tryz.underlying2 Tryz.underlying151
@[go_sem] theorem T.cv2_152 {V : HL.HV} {k : IntKind} {n : Int} : HL.convV Tryz.prog V 2 152 (.int k n) = some (.int .u8 (IntKind.u8.wrap n)) := HL.conv_int Tryz.underlying2 Tryz.underlying152
@[go_sem] theorem T.cv2_155 {V : HL.HV} {k : IntKind} {n : Int} : HL.convV Tryz.prog V 2 155 (.int k n) = some (.int .i32 (IntKind.i32.wrap n)) := HL.conv_int Tryz.underlying2 Tryz.underlying155
@[go_sem] theorem T.cv2_156 {V : HL.HV} {k : IntKind} {n : Int} : HL.convV Tryz.prog V 2 156 (.int k n) = some (.int .i32 (IntKind.i32.wrap n)) := HL.conv_int Tryz.underlying2 Tryz.underlying156
@[go_sem] theorem T.cv3_2 {V : HL.HV} {k : IntKind} {n : Int} : HL.convV Tryz.prog V 3 2 (.int k n) = some (.int .i64 (IntKind.i64.wrap n)) := HL.conv_int Tryz.underlying3 Tryz.underlying2
@[go_sem] theorem T.cv3_3 {V : HL.HV} {k : IntKind} {n : Int} : HL.convV Tryz.prog V 3 3 (.int k n) = some (.int .i64 (IntKind.i64.wrap n)) := HL.conv_int Tryz.underlying3 Tryz.underlying3
@[go_sem] theorem T.cv3_5 {V : HL.HV} {k : IntKind} {n : Int} : HL.convV Tryz.prog V 3 5 (.int k n) = some (.int .u8 (IntKind.u8.wrap n)) := HL.conv_int Tryz.underlying3 Tryz.underlying5
@[go_sem] theorem T.cv3_6 {V : HL.HV} {k : IntKind} {n : Int} : HL.convV Tryz.prog V 3 6 (.int k n) = some (.int .u8 (IntKind.u8.wrap n)) := HL.conv_int Tryz.underlying3 Tryz.underlying6
@[go_sem] theorem T.cv3_12 {V : HL.HV} {k : IntKind} {n : Int} : HL.convV Tryz.prog V 3 12 (.int k n) = some (.int .u64 (IntKind.u64.wrap n)) := HL.conv_int Tryz.underlying3 Tryz.underlying12
@[go_sem] theorem T.cv3_21 {V : HL.HV} {k : IntKind} {n : Int} : HL.convV Tryz.prog V 3 21 (.int k n) = some (.int .i32 (IntKind.i32.wrap n)) := HL.conv_int Tryz.underlying3 Tryz.underlying21
@[go_sem] theorem T.cv3_35 {V : HL.HV} {k : IntKind} {n : Int} : HL.convV Tryz.prog V 3 35 (.int k n) = some (.int .i64 (IntKind.i64.wrap n)) := HL.conv_int Tryz.underlying3 Tryz.underlying35
@[go_sem] theorem T.cv3_102 {V : HL.HV} {k : IntKind} {n : Int} : HL.convV Tryz.prog V 3 102 (.int k n) = some (.int .u64 (IntKind.u64.wrap n)) := HL.conv_int Tryz.underlying3 Tryz.underlying102
@[go_sem] theorem T.cv3_103 {V : HL.HV} {k : IntKind} {n : Int} : HL.convV Tryz.prog V 3 103 (.int k n) = some (.int .i8 (IntKind.i8.wrap n)) := HL.conv_int Tryz.underlying3 Tryz.underlying103
@[go_sem] theorem T.cv3_119 {V : HL.HV} {k : IntKind} {n : Int} : HL.convV Tryz.prog V 3 119 (.int k n) = some (.int .i64 (IntKind.i64.wrap n)) := HL.conv_int Tryz.underlying3 Tryz.underlying119
@[go_sem] theorem T.cv3_126 {V : HL.HV} {k : IntKind} {n : Int} : HL.convV Tryz.prog V 3 126 (.int k n) = some (.int .u32 (IntKind.u32.wrap n)) := HL.conv_int Tryz.underlying3 Tryz.underlying126
@[go_sem] theorem T.cv3_128 {V : HL.HV} {k : IntKind} {n : Int} : HL.convV Tryz.prog V 3 128 (.int k n) = some (.int .u64 (IntKind.u64.wrap n)) := HL.conv_int Tryz.underlying3 Tryz.underlying128
@[go_sem] theorem T.cv3_133 {V : HL.HV} {k : IntKind} {n : Int} : HL.convV Tryz.prog V 3 133 (.int k n) = some (.int .u64 (IntKind.u64.wrap n)) := HL.conv_int Tryz.underlying3 Tryz.underlying133
@[go_sem] theorem T.cv3_151 {V : HL.HV} {k : IntKind} {n : Int} : HL.convV Tryz.prog V 3 151 (.int k n) = some (.int .u8 (IntKind.u8.wrap n)) := HL.conv_int Tryz.underlying3 Tryz.underlying151
@[go_sem] theorem T.cv3_152 {V : HL.HV} {k : IntKind} {n : Int} : HL.convV Tryz.prog V 3 152 (.int k n) = some (.int .u8 (IntKind.u8.wrap n)) := HL.conv_int Tryz.underlying3 Tryz.underlying152
@[go_sem] theorem T.cv3_155 {V : HL.HV} {k : IntKind} {n : Int} : HL.convV Tryz.prog V 3 155 (.int k n) = some (.int .i32 (IntKind.i32.wrap n)) := HL.conv_int Tryz.underlying3 Tryz.underlying155
@[go_sem] theorem T.cv3_156 {V : HL.HV} {k : IntKind} {n : Int} : HL.convV Tryz.prog V 3 156 (.int k n) = some (.int .i32 (IntKind.i32.wrap n)) := HL.conv_int Tryz.underlying3 Tryz.underlying156
@[go_sem] theorem T.cv5_2 {V : HL.HV} {k : IntKind} {n : Int} : HL.convV Tryz.prog V 5 2 (.int k n) = some (.int .i64 (IntKind.i64.wrap n)) := HL.conv_int Tryz.underlying5 Tryz.underlying2
@[go_sem] theorem T.cv5_3 {V : HL.HV} {k : IntKind} {n : Int} : HL.convV Tryz.prog V 5 3 (.int k n) = some (.int .i64 (IntKind.i64.wrap n)) := HL.conv_int Tryz.underlying5 Tryz.underlying3
@[go_sem] theorem T.cv5_5 {V : HL.HV} {k : IntKind} {n : Int} : HL.convV Tryz.prog V 5 5 (.int k n) = some (.int .u8 (IntKind.u8.wrap n)) := HL.conv_int Tryz.underlying5 Tryz.underlying5
@[go_sem] theorem T.cv5_6 {V : HL.HV} {k : IntKind} {n : Int} : HL.convV Tryz.prog V 5 6 (.int k n) = some (.int .u8 (IntKind.u8.wrap n)) := HL.conv_int Tryz.underlying5 Tryz.underlying6
@[go_sem] theorem T.cv5_12 {V : HL.HV} {k : IntKind} {n : Int} : HL.convV Tryz.prog V 5 12 (.int k n) = some (.int .u64 (IntKind.u64.wrap n)) := HL.conv_int Tryz.underlying5 Tryz.underlying12
@[go_sem] theorem T.cv5_21 {V : HL.HV} {k : IntKind} {n : Int} : HL.convV Tryz.prog V 5 21 (.int k n) = some (.int .i32 (IntKind.i32.wrap n)) := HL.conv_int Tryz.underlying5 Tryz.underlying21
@[go_sem] theorem T.cv5_35 {V : HL.HV} {k : IntKind} {n : Int} : HL.convV Tryz.prog V 5 35 (.int k n) = some (.int .i64 (IntKind.i64.wrap n)) := HL.conv_int Tryz.underlying5 Tryz.underlying35
@[go_sem] theorem T.cv5_102 {V : HL.HV} {k : IntKind} {n : Int} : HL.convV Tryz.prog V 5 102 (.int k n) = some (.int .u64 (IntKind.u64.wrap n)) := HL.conv_int Tryz.underlying5 Tryz.underlying102
@[go_sem] theorem T.cv5_103 {V : HL.HV} {k : IntKind} {n : Int} : HL.convV Tryz.prog V 5 103 (.int k n) = some (.int .i8 (IntKind.i8.wrap n)) := HL.conv_int Tryz.underlying5 Tryz.underlying103
@[go_sem] theorem T.cv5_119 {V : HL.HV} {k : IntKind} {n : Int} : HL.convV Tryz.prog V 5 119 (.int k n) = some (.int .i64 (IntKind.i64.wrap n)) := HL.conv_int Tryz.underlying5 Tryz.underlying119
@[go_sem] theorem T.cv5_126 {V : HL.HV} {k : IntKind} {n : Int} : HL.convV Tryz.prog V 5 126 (.int k n) = some (.int .u32 (IntKind.u32.wrap n)) := HL.conv_int Tryz.underlying5 Tryz.underlying126
@[go_sem] theorem T.cv5_128 {V : HL.HV} {k : IntKind} {n : Int} : HL.convV Tryz.prog V 5 128 (.int k n) = some (.int .u64 (IntKind.u64.wrap n)) := HL.conv_int Tryz.underlying5 Tryz.underlying128
@[go_sem] theorem T.cv5_133 {V : HL.HV} {k : IntKind} {n : Int} : HL.convV Tryz.prog V 5 133 (.int k n) = some (.int .u64 (IntKind.u64.wrap n)) := HL.conv_int Tryz.underlying5 Tryz.underlying133
@[go_sem] theorem T.cv5_151 {V : HL.HV} {k : IntKind} {n : Int} : HL.convV Tryz.prog V 5 151 (.int k n) = some (.int .u8 (IntKind.u8.wrap n)) := HL.conv_int Tryz.underlying5 Tryz.underlying151
@[go_sem] theorem T.cv5_152 {V : HL.HV} {k : IntKind} {n : Int} : HL.convV Tryz.prog V 5 152 (.int k n) = some (.int .u8 (IntKind.u8.wrap n)) := HL.conv_int Tryz.underlying5 Tryz.underlying152
@[go_sem] theorem T.cv5_155 {V : HL.HV} {k : IntKind} {n : Int} : HL.convV Tryz.prog V 5 155 (.int k n) = some (.int .i32 (IntKind.i32.wrap n)) := HL.conv_int Tryz.underlying5 Tryz.underlying155
@[go_sem] theorem T.cv5_156 {V : HL.HV} {k : IntKind} {n : Int} : HL.convV Tryz.prog V 5 156 (.int k n) = some (.int .i32 (IntKind.i32.wrap n)) := HL.conv_int Tryz.underlying5 Tryz.underlying156
@[go_sem] theorem T.cv6_2 {V : HL.HV} {k : IntKind} {n : Int} : HL.convV Tryz.prog V 6 2 (.int k n) = some (.int .i64 (IntKind.i64.wrap n)) := HL.conv_int Tryz.underlying6 Tryz.underlying2
@[go_sem] theorem T.cv6_3 {V : HL.HV} {k : IntKind} {n : Int} : HL.convV Tryz.prog V 6 3 (.int k n) = some (.int .i64 (IntKind.i64.wrap n)) := HL.conv_int Tryz.underlying6 Tryz.underlying3
@[go_sem] theorem T.cv6_5 {V : HL.HV} {k : IntKind} {n : Int} : HL.convV Tryz.prog V 6 5 (.int k n) = some (.int .u8 (IntKind.u8.wrap n)) := HL.conv_int Tryz.underlying6 Tryz.underlying5
@[go_sem] theorem T.cv6_6 {V : HL.HV} {k : IntKind} {n : Int} : HL.convV Tryz.prog V 6 6 (.int k n) = some (.int .u8 (IntKind.u8.wrap n)) := HL.conv_int Tryz.underlying6 Tryz.underlying6
@[go_sem] theorem T.cv6_12 {V : HL.HV} {k : IntKind} {n : Int} : HL.convV Tryz.prog V 6 12 (.int k n) = some (.int .u64 (IntKind.u64.wrap n)) := HL.conv_int Tryz.underlying6 Tryz.underlying12
@[go_sem] theorem T.cv6_21 {V : HL.HV} {k : IntKind} {n : Int} : HL.convV Tryz.prog V 6 21 (.int k n) = some (.int .i32 (IntKind.i32.wrap n)) := HL.conv_int Tryz.underlying6 Tryz.underlying21
@[go_sem] theorem T.cv6_35 {V : HL.HV} {k : IntKind} {n : Int} : HL.convV Tryz.prog V 6 35 (.int k n) = some (.int .i64 (IntKind.i64.wrap n)) := HL.conv_int Tryz.underlying6 Tryz.underlying35
@[go_sem] theorem T.cv6_102 {V : HL.HV} {k : IntKind} {n : Int} : HL.convV Tryz.prog V 6 102 (.int k n) = some (.int .u64 (IntKind.u64.wrap n)) := HL.conv_int Tryz.underlying6 Tryz.underlying102
@[go_sem] theorem T.cv6_103 {V : HL.HV} {k : IntKind} {n : Int} : HL.convV Tryz.prog V 6 103 (.int k n) = some (.int .i8 (IntKind.i8.wrap n)) := HL.conv_int Tryz.underlying6 Tryz.underlying103
@[go_sem] theorem T.cv6_119 {V : HL.HV} {k : IntKind} {n : Int} : HL.convV Tryz.prog V 6 119 (.int k n) = some (.int .i64 (IntKind.i64.wrap n)) := HL.conv_int Tryz.underlying6 Tryz.underlying119
@[go_sem] theorem T.cv6_126 {V : HL.HV} {k : IntKind} {n : Int} : HL.convV Tryz.prog V 6 126 (.int k n) = some (.int .u32 (IntKind.u32.wrap n)) := HL.conv_int Tryz.underlying6 Tryz.underlying126
@[go_sem] theorem T.cv6_128 {V : HL.HV} {k : IntKind} {n : Int} : HL.convV Tryz.prog V 6 128 (.int k n) = some (.int .u64 (IntKind.u64.wrap n)) := HL.conv_int Tryz.underlying6 Tryz.underlying128
@[go_sem] theorem T.cv6_133 {V : HL.HV} {k : IntKind} {n : Int} : HL.convV Tryz.prog V 6 133 (.int k n) = some (.int .u64 (IntKind.u64.wrap n)) := HL.conv_int Tryz.underlying6 Tryz.underlying133
@[go_sem] theorem T.cv6_151 {V : HL.HV} {k : IntKind} {n : Int} : HL.convV Tryz.prog V 6 151 (.int k n) = some (.int .u8 (IntKind.u8.wrap n)) := HL.conv_int Tryz.underlying6 Tryz.underlying151
@[go_sem] theorem T.cv6_152 {V : HL.HV} {k : IntKind} {n : Int} : HL.convV Tryz.prog V 6 152 (.int k n) = some (.int .u8 (IntKind.u8.wrap n)) := HL.conv_int Tryz.underlying6 Tryz.underlying152
@[go_sem] theorem T.cv6_155 {V : HL.HV} {k : IntKind} {n : Int} : HL.convV Tryz.prog V 6 155 (.int k n) = some (.int .i32 (IntKind.i32.wrap n)) := HL.conv_int Tryz.underlying6 Tryz.underlying155
@[go_sem] theorem T.cv6_156 {V : HL.HV} {k : IntKind} {n : Int} : HL.convV Tryz.prog V 6 156 (.int k n) = some (.int .i32 (IntKind.i32.wrap n)) := HL.conv_int Tryz.underlying6 Tryz.underlying156
@[go_sem] theorem T.cv12_2 {V : HL.HV} {k : IntKind} {n : Int} : HL.convV Tryz.prog V 12 2 (.int k n) = some (.int .i64 (IntKind.i64.wrap n)) := HL.conv_int Tryz.underlying12 Tryz.underlying2
@[go_sem] theorem T.cv12_3 {V : HL.HV} {k : IntKind} {n : Int} : HL.convV Tryz.prog V 12 3 (.int k n) = some (.int .i64 (IntKind.i64.wrap n)) := HL.conv_int Tryz.underlying12 Tryz.underlying3
@[go_sem] theorem T.cv12_5 {V : HL.HV} {k : IntKind} {n : Int} : HL.convV Tryz.prog V 12 5 (.int k n) = some (.int .u8 (IntKind.u8.wrap n)) := HL.conv_int Tryz.underlying12 Tryz.underlying5
@[go_sem] theorem T.cv12_6 {V : HL.HV} {k : IntKind} {n : Int} : HL.convV Tryz.prog V 12 6 (.int k n) = some (.int .u8 (IntKind.u8.wrap n)) := HL.conv_int Tryz.underlying12 Tryz.underlying6
@[go_sem] theorem T.cv12_12 {V : HL.HV} {k : IntKind} {n : Int} : HL.convV Tryz.prog V 12 12 (.int k n) = some (.int .u64 (IntKind.u64.wrap n)) := HL.conv_int Tryz.underlying12 Tryz.underlying12
@[go_sem] theorem T.cv12_21 {V : HL.HV} {k : IntKind} {n : Int} : HL.convV Tryz.prog V 12 21 (.int k n) = some (.int .i32 (IntKind.i32.wrap n)) := HL.conv_int Tryz.underlying12 Tryz.underlying21
@[go_sem] theorem T.cv12_35 {V : HL.HV} {k : IntKind} {n : Int} : HL.convV Tryz.prog V 12 35 (.int k n) = some (.int .i64 (IntKind.i64.wrap n)) := HL.conv_int Tryz.underlying12 Tryz.underlying35
@[go_sem] theorem T.cv12_102 {V : HL.HV} {k : IntKind} {n : Int} : HL.convV Tryz.prog V 12 102 (.int k n) = some (.int .u64 (IntKind.u64.wrap n)) := HL.conv_int Tryz.underlying12 Tryz.underlying102
@[go_sem] theorem T.cv12_103 {V : HL.HV} {k : IntKind} {n : Int} : HL.convV Tryz.prog V 12 103 (.int k n) = some (.int .i8 (IntKind.i8.wrap n)) := HL.conv_int Tryz.underlying12 Tryz.underlying103
@[go_sem] theorem T.cv12_119 {V : HL.HV} {k : IntKind} {n : Int} : HL.convV Tryz.prog V 12 119 (.int k n) = some (.int .i64 (IntKind.i64.wrap n)) := HL.conv_int Tryz.underlying12 Tryz.underlying119
@[go_sem] theorem T.cv12_126 {V : HL.HV} {k : IntKind} {n : Int} : HL.convV Tryz.prog V 12 126 (.int k n) = some (.int .u32 (IntKind.u32.wrap n)) := HL.conv_int Tryz.underlying12 Tryz.underlying126
@[go_sem] theorem T.cv12_128 {V : HL.HV} {k : IntKind} {n : Int} : HL.convV Tryz.prog V 12 128 (.int k n) = some (.int .u64 (IntKind.u64.wrap n)) := HL.conv_int Tryz.underlying12 Tryz.underlying128
@[go_sem] theorem T.cv12_133 {V : HL.HV} {k : IntKind} {n : Int} : HL.convV Tryz.prog V 12 133 (.int k n) = some (.int .u64 (IntKind.u64.wrap n)) := HL.conv_int Tryz.underlying12 Tryz.underlying133
@[go_sem] theorem T.cv12_151 {V : HL.HV} {k : IntKind} {n : Int} : HL.convV Tryz.prog V 12 151 (.int k n) = some (.int .u8 (IntKind.u8.wrap n)) := HL.conv_int Tryz.underlying12 Tryz.underlying151
@[go_sem] theorem T.cv12_152 {V : HL.HV} {k : IntKind} {n : Int} : HL.convV Tryz.prog V 12 152 (.int k n) = some (.int .u8 (IntKind.u8.wrap n)) := HL.conv_int Tryz.underlying12 Tryz.underlying152
@[go_sem] theorem T.cv12_155 {V : HL.HV} {k : IntKind} {n : Int} : HL.convV Tryz.prog V 12 155 (.int k n) = some (.int .i32 (IntKind.i32.wrap n)) := HL.conv_int Tryz.underlying12 Tryz.underlying155
@[go_sem] theorem T.cv12_156 {V : HL.HV} {k : IntKind} {n : Int} : HL.convV Tryz.prog V 12 156 (.int k n) = some (.int .i32 (IntKind.i32.wrap n)) := HL.conv_int Tryz.underlying12 Tryz.underlying156
@[go_sem] theorem T.cv21_2 {V : HL.HV} {k : IntKind} {n : Int} : HL.convV Tryz.prog V 21 2 (.int k n) = some (.int .i64 (IntKind.i64.wrap n)) := HL.conv_int Tryz.underlying21 Tryz.underlying2
@[go_sem] theorem T.cv21_3 {V : HL.HV} {k : IntKind} {n : Int} : HL.convV Tryz.prog V 21 3 (.int k n) = some (.int .i64 (IntKind.i64.wrap n)) := HL.conv_int Tryz.underlying21 Tryz.underlying3
@[go_sem] theorem T.cv21_5 {V : HL.HV} {k : IntKind} {n : Int} : HL.convV Tryz.prog V 21 5 (.int k n) = some (.int .u8 (IntKind.u8.wrap n)) := HL.conv_int Tryz.underlying21 Tryz.underlying5
@[go_sem] theorem T.cv21_6 {V : HL.HV} {k : IntKind} {n : Int} : HL.convV Tryz.prog V 21 6 (.int k n) = some (.int .u8 (IntKind.u8.wrap n)) := HL.conv_int Tryz.underlying21 Tryz.underlying6
@[go_sem] theorem T.cv21_12 {V : HL.HV} {k : IntKind} {n : Int} : HL.convV Tryz.prog V 21 12 (.int k n) = some (.int .u64 (IntKind.u64.wrap n)) := HL.conv_int Tryz.underlying21 Tryz.underlying12
@[go_sem] theorem T.cv21_21 {V : HL.HV} {k : IntKind} {n : Int} : HL.convV Tryz.prog V 21 21 (.int k n) = some (.int .i32 (IntKind.i32.wrap n)) := HL.conv_int Tryz.underlying21 Tryz.underlying21
@[go_sem] theorem T.cv21_35 {V : HL.HV} {k : IntKind} {n : Int} : HL.convV Tryz.prog V 21 35 (.int k n) = some (.int .i64 (IntKind.i64.wrap n)) := HL.conv_int Tryz.underlying21 Tryz.underlying35
@[go_sem] theorem T.cv21_102 {V : HL.HV} {k : IntKind} {n : Int} : HL.convV Tryz.prog V 21 102 (.int k n) = some (.int .u64 (IntKind.u64.wrap n)) := HL.conv_int Tryz.underlying21 Tryz.underlying102
@[go_sem] theorem T.cv21_103 {V : HL.HV} {k : IntKind} {n : Int} : HL.convV Tryz.prog V 21 103 (.int k n) = some (.int .i8 (IntKind.i8.wrap n)) := HL.conv_int Tryz.underlying21 Tryz.underlying103
@[go_sem] theorem T.cv21_119 {V : HL.HV} {k : IntKind} {n : Int} : HL.convV Tryz.prog V 21 119 (.int k n) = some (.int .i64 (IntKind.i64.wrap n)) := HL.conv_int Tryz.underlying21 Tryz.underlying119
@[go_sem] theorem T.cv21_126 {V : HL.HV} {k : IntKind} {n : Int} : HL.convV Tryz.prog V 21 126 (.int k n) = some (.int .u32 (IntKind.u32.wrap n)) := HL.conv_int Tryz.underlying21 Tryz.underlying126
@[go_sem] theorem T.cv21_128 {V : HL.HV} {k : IntKind} {n : Int} : HL.convV Tryz.prog V 21 128 (.int k n) = some (.int .u64 (IntKind.u64.wrap n)) := HL.conv_int Tryz.underlying21 Tryz.underlying128
@[go_sem] theorem T.cv21_133 {V : HL.HV} {k : IntKind} {n : Int} : HL.convV Tryz.prog V 21 133 (.int k n) = some (.int .u64 (IntKind.u64.wrap n)) := HL.conv_int Tryz.underlying21 Tryz.underlying133
@[go_sem] theorem T.cv21_151 {V : HL.HV} {k : IntKind} {n : Int} : HL.convV Tryz.prog V 21 151 (.int k n) = some (.int .u8 (IntKind.u8.wrap n)) := HL.conv_int Tryz.underlying21 Tryz.underlying151
@[go_sem] theorem T.cv21_152 {V : HL.HV} {k : IntKind} {n : Int} : HL.convV Tryz.prog V 21 152 (.int k n) = some (.int .u8 (IntKind.u8.wrap n)) := HL.conv_int Tryz.underlying21 Tryz.underlying152
@[go_sem] theorem T.cv21_155 {V : HL.HV} {k : IntKind} {n : Int} : HL.convV Tryz.prog V 21 155 (.int k n) = some (.int .i32 (IntKind.i32.wrap n)) := HL.conv_int Tryz.underlying21 Tryz.underlying155
@[go_sem] theorem T.cv21_156 {V : HL.HV} {k : IntKind} {n : Int} : HL.convV Tryz.prog V 21 156 (.int k n) = some (.int .i32 (IntKind.i32.wrap n)) := HL.conv_int Tryz.underlying21 Tryz.underlying156
@[go_sem] theorem T.cv35_2 {V : HL.HV} {k : IntKind} {n : Int} : HL.convV Tryz.prog V 35 2 (.int k n) = some (.int .i64 (IntKind.i64.wrap n)) := HL.conv_int Tryz.underlying35 Tryz.underlying2
@[go_sem] theorem T.cv35_3 {V : HL.HV} {k : IntKind} {n : Int} : HL.convV Tryz.prog V 35 3 (.int k n) = some (.int .i64 (IntKind.i64.wrap n)) := HL.conv_int Tryz.underlying35 Tryz.underlying3
@[go_sem] theorem T.cv35_5 {V : HL.HV} {k : IntKind} {n : Int} : HL.convV Tryz.prog V 35 5 (.int k n) = some (.int .u8 (IntKind.u8.wrap n)) := HL.conv_int Tryz.underlying35 Tryz.underlying5
@[go_sem] theorem T.cv35_6 {V : HL.HV} {k : IntKind} {n : Int} : HL.convV Tryz.prog V 35 6 (.int k n) = some (.int .u8 (IntKind.u8.wrap n)) := HL.conv_int Tryz.underlying35 Tryz.underlying6
@[go_sem] theorem T.cv35_12 {V : HL.HV} {k : IntKind} {n : Int} : HL.convV Tryz.prog V 35 12 (.int k n) = some (.int .u64 (IntKind.u64.wrap n)) := HL.conv_int Tryz.underlying35 Tryz.underlying12
@[go_sem] theorem T.cv35_21 {V : HL.HV} {k : IntKind} {n : Int} : HL.convV Tryz.prog V 35 21 (.int k n) = some (.int .i32 (IntKind.i32.wrap n)) := HL.conv_int Tryz.underlying35 Tryz.underlying21
@[go_sem] theorem T.cv35_35 {V : HL.HV} {k : IntKind} {n : Int} : HL.convV Tryz.prog V 35 35 (.int k n) = some (.int .i64 (IntKind.i64.wrap n)) := HL.conv_int Tryz.underlying35 Tryz.underlying35
@[go_sem] theorem T.cv35_102 {V : HL.HV} {k : IntKind} {n : Int} : HL.convV Tryz.prog V 35 102 (.int k n) = some (.int .u64 (IntKind.u64.wrap n)) := HL.conv_int Tryz.underlying35 Tryz.underlying102
@[go_sem] theorem T.cv35_103 {V : HL.HV} {k : IntKind} {n : Int} : HL.convV Tryz.prog V 35 103 (.int k n) = some (.int .i8 (IntKind.i8.wrap n)) := HL.conv_int Tryz.underlying35 Tryz.underlying103
@[go_sem] theorem T.cv35_119 {V : HL.HV} {k : IntKind} {n : Int} : HL.convV Tryz.prog V 35 119 (.int k n) = some (.int .i64 (IntKind.i64.wrap n)) := HL.conv_int Tryz.underlying35 Tryz.underlying119
@[go_sem] theorem T.cv35_126 {V : HL.HV} {k : IntKind} {n : Int} : HL.convV Tryz.prog V 35 126 (.int k n) = some (.int .u32 (IntKind.u32.wrap n)) := HL.conv_int Tryz.underlying35 Tryz.underlying126
@[go_sem] theorem T.cv35_128 {V : HL.HV} {k : IntKind} {n : Int} : HL.convV Tryz.prog V 35 128 (.int k n) = some (.int .u64 (IntKind.u64.wrap n)) := HL.conv_int Tryz.underlying35 Tryz.underlying128
@[go_sem] theorem T.cv35_133 {V : HL.HV} {k : IntKind} {n : Int} : HL.convV Tryz.prog V 35 133 (.int k n) = some (.int .u64 (IntKind.u64.wrap n)) := HL.conv_int Tryz.underlying35 Tryz.underlying133
@[go_sem] theorem T.cv35_151 {V : HL.HV} {k : IntKind} {n : Int} : HL.convV Tryz.prog V 35 151 (.int k n) = some (.int .u8 (IntKind.u8.wrap n)) := HL.conv_int Tryz.underlying35 Tryz.underlying151
@[go_sem] theorem T.cv35_152 {V : HL.HV} {k : IntKind} {n : Int} : HL.convV Tryz.prog V 35 152 (.int k n) = some (.int .u8 (IntKind.u8.wrap n)) := HL.conv_int Tryz.underlying35 Tryz.underlying152
@[go_sem] theorem T.cv35_155 {V : HL.HV} {k : IntKind} {n : Int} : HL.convV Tryz.prog V 35 155 (.int k n) = some (.int .i32 (IntKind.i32.wrap n)) := HL.conv_int Tryz.underlying35 Tryz.underlying155
@[go_sem] theorem T.cv35_156 {V : HL.HV} {k : IntKind} {n : Int} : HL.convV Tryz.prog V 35 156 (.int k n) = some (.int .i32 (IntKind.i32.wrap n)) := HL.conv_int Tryz.underlying35 Tryz.underlying156
@[go_sem] theorem T.cv102_2 {V : HL.HV} {k : IntKind} {n : Int} : HL.convV Tryz.prog V 102 2 (.int k n) = some (.int .i64 (IntKind.i64.wrap n)) := HL.conv_int Tryz.underlying102 Tryz.underlying2
@[go_sem] theorem T.cv102_3 {V : HL.HV} {k : IntKind} {n : Int} : HL.convV Tryz.prog V 102 3 (.int k n) = some (.int .i64 (IntKind.i64.wrap n)) := HL.conv_int Tryz.underlying102 Tryz.underlying3
@[go_sem] theorem T.cv102_5 {V : HL.HV} {k : IntKind} {n : Int} : HL.convV Tryz.prog V 102 5 (.int k n) = some (.int .u8 (IntKind.u8.wrap n)) := HL.conv_int Tryz.underlying102 Tryz.underlying5
@[go_sem] theorem T.cv102_6 {V : HL.HV} {k : IntKind} {n : Int} : HL.convV Tryz.prog V 102 6 (.int k n) = some (.int .u8 (IntKind.u8.wrap n)) := HL.conv_int Tryz.underlying102 Tryz.underlying6
@[go_sem] theorem T.cv102_12 {V : HL.HV} {k : IntKind} {n : Int} : HL.convV Tryz.prog V 102 12 (.int k n) = some (.int .u64 (IntKind.u64.wrap n)) := HL.conv_int Tryz.underlying102 Tryz.underlying12
@[go_sem] theorem T.cv102_21 {V : HL.HV} {k : IntKind} {n : Int} : HL.convV Tryz.prog V 102 21 (.int k n) = some (.int .i32 (IntKind.i32.wrap n)) := HL.conv_int Tryz.underlying102 Tryz.underlying21
@[go_sem] theorem T.cv102_35 {V : HL.HV} {k : IntKind} {n : Int} : HL.convV Tryz.prog V 102 35 (.int k n) = some (.int .i64 (IntKind.i64.wrap n)) := HL.conv_int Tryz.underlying102 Tryz.underlying35
@[go_sem] theorem T.cv102_102 {V : HL.HV} {k : IntKind} {n : Int} : HL.convV Tryz.prog V 102 102 (.int k n) = some (.int .u64 (IntKind.u64.wrap n)) := HL.conv_int Tryz.underlying102 Tryz.underlying102
@[go_sem] theorem T.cv102_103 {V : HL.HV} {k : IntKind} {n : Int} : HL.convV Tryz.prog V 102 103 (.int k n) = some (.int .i8 (IntKind.i8.wrap n)) := HL.conv_int Tryz.underlying102 Tryz.underlying103
@[go_sem] theorem T.cv102_119 {V : HL.HV} {k : IntKind} {n : Int} : HL.convV Tryz.prog V 102 119 (.int k n) = some (.int .i64 (IntKind.i64.wrap n)) := HL.conv_int Tryz.underlying102 Tryz.underlying119
@[go_sem] theorem T.cv102_126 {V : HL.HV} {k : IntKind} {n : Int} : HL.convV Tryz.prog V 102 126 (.int k n) = some (.int .u32 (IntKind.u32.wrap n)) := HL.conv_int Tryz.underlying102 Tryz.underlying126
@[go_sem] theorem T.cv102_128 {V : HL.HV} {k : IntKind} {n : Int} : HL.convV Tryz.prog V 102 128 (.int k n) = some (.int .u64 (IntKind.u64.wrap n)) := HL.conv_int Tryz.underlying102 Tryz.underlying128
@[go_sem] theorem T.cv102_133 {V : HL.HV} {k : IntKind} {n : Int} : HL.convV Tryz.prog V 102 133 (.int k n) = some (.int .u64 (IntKind.u64.wrap n)) := HL.conv_int Tryz.underlying102 Tryz.underlying133
@[go_sem] theorem T.cv102_151 {V : HL.HV} {k : IntKind} {n : Int} : HL.convV Tryz.prog V 102 151 (.int k n) = some (.int .u8 (IntKind.u8.wrap n)) := HL.conv_int Tryz.underlying102 Tryz.underlying151
@[go_sem] theorem T.cv102_152 {V : HL.HV} {k : IntKind} {n : Int} : HL.convV Tryz.prog V 102 152 (.int k n) = some (.int .u8 (IntKind.u8.wrap n)) := HL.conv_int Tryz.underlying102 Tryz.underlying152
@[go_sem] theorem T.cv102_155 {V : HL.HV} {k : IntKind} {n : Int} : HL.convV Tryz.prog V 102 155 (.int k n) = some (.int .i32 (IntKind.i32.wrap n)) := HL.conv_int Tryz.underlying102 Tryz.underlying155
@[go_sem] theorem T.cv102_156 {V : HL.HV} {k : IntKind} {n : Int} : HL.convV Tryz.prog V 102 156 (.int k n) = some (.int .i32 (IntKind.i32.wrap n)) := HL.conv_int Tryz.underlying102 Tryz.underlying156
@[go_sem] theorem T.cv103_2 {V : HL.HV} {k : IntKind} {n : Int} : HL.convV Tryz.prog V 103 2 (.int k n) = some (.int .i64 (IntKind.i64.wrap n)) := HL.conv_int Tryz.underlying103 Tryz.underlying2
@[go_sem] theorem T.cv103_3 {V : HL.HV} {k : IntKind} {n : Int} : HL.convV Tryz.prog V 103 3 (.int k n) = some (.int .i64 (IntKind.i64.wrap n)) := HL.conv_int Tryz.underlying103 Tryz.underlying3
@[go_sem] theorem T.cv103_5 {V : HL.HV} {k : IntKind} {n : Int} : HL.convV Tryz.prog V 103 5 (.int k n) = some (.int .u8 (IntKind.u8.wrap n)) := HL.conv_int Tryz.underlying103 Tryz.underlying5
@[go_sem] theorem T.cv103_6 {V : HL.HV} {k : IntKind} {n : Int} : HL.convV Tryz.prog V 103 6 (.int k n) = some (.int .u8 (IntKind.u8.wrap n)) := HL.conv_int Tryz.underlying103 Tryz.underlying6
@[go_sem] theorem T.cv103_12 {V : HL.HV} {k : IntKind} {n : Int} : HL.convV Tryz.prog V 103 12 (.int k n) = some (.int .u64 (IntKind.u64.wrap n)) := HL.conv_int Tryz.underlying103 Tryz.underlying12
@[go_sem] theorem T.cv103_21 {V : HL.HV} {k : IntKind} {n : Int} : HL.convV Tryz.prog V 103 21 (.int k n) = some (.int .i32 (IntKind.i32.wrap n)) := HL.conv_int Tryz.underlying103 Tryz.underlying21
@[go_sem] theorem T.cv103_35 {V : HL.HV} {k : IntKind} {n : Int} : HL.convV Tryz.prog V 103 35 (.int k n) = some (.int .i64 (IntKind.i64.wrap n)) := HL.conv_int Tryz.underlying103 Tryz.underlying35
@[go_sem] theorem T.cv103_102 {V : HL.HV} {k : IntKind} {n : Int} : HL.convV Tryz.prog V 103 102 (.int k n) = some (.int .u64 (IntKind.u64.wrap n)) := HL.conv_int Tryz.underlying103 Tryz.underlying102
@[go_sem] theorem T.cv103_103 {V : HL.HV} {k : IntKind} {n : Int} : HL.convV Tryz.prog V 103 103 (.int k n) = some (.int .i8 (IntKind.i8.wrap n)) := HL.conv_int Tryz.underlying103 Tryz.underlying103
@[go_sem] theorem T.cv103_119 {V : HL.HV} {k : IntKind} {n : Int} : HL.convV Tryz.prog V 103 119 (.int k n) = some (.int .i64 (IntKind.i64.wrap n)) := HL.conv_int Tryz.underlying103 Tryz.underlying119
@[go_sem] theorem T.cv103_126 {V : HL.HV} {k : IntKind} {n : Int} : HL.convV Tryz.prog V 103 126 (.int k n) = some (.int .u32 (IntKind.u32.wrap n)) := HL.conv_int Tryz.underlying103 Tryz.underlying126
@[go_sem] theorem T.cv103_128 {V : HL.HV} {k : IntKind} {n : Int} : HL.convV Tryz.prog V 103 128 (.int k n) = some (.int .u64 (IntKind.u64.wrap n)) := HL.conv_int Tryz.underlying103 Tryz.underlying128
@[go_sem] theorem T.cv103_133 {V : HL.HV} {k : IntKind} {n : Int} : HL.convV Tryz.prog V 103 133 (.int k n) = some (.int .u64 (IntKind.u64.wrap n)) := HL.conv_int Tryz.underlying103 Tryz.underlying133
@[go_sem] theorem T.cv103_151 {V : HL.HV} {k : IntKind} {n : Int} : HL.convV Tryz.prog V 103 151 (.int k n) = some (.int .u8 (IntKind.u8.wrap n)) := HL.conv_int Tryz.underlying103 Tryz.underlying151
@[go_sem] theorem T.cv103_152 {V : HL.HV} {k : IntKind} {n : Int} : HL.convV Tryz.prog V 103 152 (.int k n) = some (.int .u8 (IntKind.u8.wrap n)) := HL.conv_int Tryz.underlying103 Tryz.underlying152
@[go_sem] theorem T.cv103_155 {V : HL.HV} {k : IntKind} {n : Int} : HL.convV Tryz.prog V 103 155 (.int k n) = some (.int .i32 (IntKind.i32.wrap n)) := HL.conv_int Tryz.underlying103 Tryz.underlying155
@[go_sem] theorem T.cv103_156 {V : HL.HV} {k : IntKind} {n : Int} : HL.convV Tryz.prog V 103 156 (.int k n) = some (.int .i32 (IntKind.i32.wrap n)) := HL.conv_int Tryz.underlying103 Tryz.underlying156
@[go_sem] theorem T.cv119_2 {V : HL.HV} {k : IntKind} {n : Int} : HL.convV Tryz.prog V 119 2 (.int k n) = some (.int .i64 (IntKind.i64.wrap n)) := HL.conv_int Tryz.underlying119 Tryz.underlying2
@[go_sem] theorem T.cv119_3 {V : HL.HV} {k : IntKind} {n : Int} : HL.convV Tryz.prog V 119 3 (.int k n) = some (.int .i64 (IntKind.i64.wrap n)) := HL.conv_int Tryz.underlying119 Tryz.underlying3
@[go_sem] theorem T.cv119_5 {V : HL.HV} {k : IntKind} {n : Int} : HL.convV Tryz.prog V 119 5 (.int k n) = some (.int .u8 (IntKind.u8.wrap n)) := HL.conv_int Tryz.underlying119 Tryz.underlying5
@[go_sem] theorem T.cv119_6 {V : HL.HV} {k : IntKind} {n : Int} : HL.convV Tryz.prog V 119 6 (.int k n) = some (.int .u8 (IntKind.u8.wrap n)) := HL.conv_int Tryz.underlying119 Tryz.underlying6
@[go_sem] theorem T.cv119_12 {V : HL.HV} {k : IntKind} {n : Int} : HL.convV Tryz.prog V 119 12 (.int k n) = some (.int .u64 (IntKind.u64.wrap n)) := HL.conv_int Tryz.underlying119 Tryz.underlying12
@[go_sem] theorem T.cv119_21 {V : HL.HV} {k : IntKind} {n : Int} : HL.convV Tryz.prog V 119 21 (.int k n) = some (.int .i32 (IntKind.i32.wrap n)) := HL.conv_int Tryz.underlying119 Tryz.underlying21
@[go_sem] theorem T.cv119_35 {V : HL.HV} {k : IntKind} {n : Int} : HL.convV Tryz.prog V 119 35 (.int k n) = some (.int .i64 (IntKind.i64.wrap n)) := HL.conv_int Tryz.underlying119 Tryz.underlying35
@[go_sem] theorem T.cv119_102 {V : HL.HV} {k : IntKind} {n : Int} : HL.convV Tryz.prog V 119 102 (.int k n) = some (.int .u64 (IntKind.u64.wrap n)) := HL.conv_int Tryz.underlying119 Tryz.underlying102
@[go_sem] theorem T.cv119_103 {V : HL.HV} {k : IntKind} {n : Int} : HL.convV Tryz.prog V 119 103 (.int k n) = some (.int .i8 (IntKind.i8.wrap n)) := HL.conv_int Tryz.underlying119 Tryz.underlying103
@[go_sem] theorem T.cv119_119 {V : HL.HV} {k : IntKind} {n : Int} : HL.convV Tryz.prog V 119 119 (.int k n) = some (.int .i64 (IntKind.i64.wrap n)) := HL.conv_int Tryz.underlying119 Tryz.underlying119
@[go_sem] theorem T.cv119_126 {V : HL.HV} {k : IntKind} {n : Int} : HL.convV Tryz.prog V 119 126 (.int k n) = some (.int .u32 (IntKind.u32.wrap n)) := HL.conv_int Tryz.underlying119 Tryz.underlying126
@[go_sem] theorem T.cv119_128 {V : HL.HV} {k : IntKind} {n : Int} : HL.convV Tryz.prog V 119 128 (.int k n) = some (.int .u64 (IntKind.u64.wrap n)) := HL.conv_int Tryz.underlying119 Tryz.underlying128
@[go_sem] theorem T.cv119_133 {V : HL.HV} {k : IntKind} {n : Int} : HL.convV Tryz.prog V 119 133 (.int k n) = some (.int .u64 (IntKind.u64.wrap n)) := HL.conv_int Tryz.underlying119 Tryz.underlying133
@[go_sem] theorem T.cv119_151 {V : HL.HV} {k : IntKind} {n : Int} : HL.convV Tryz.prog V 119 151 (.int k n) = some (.int .u8 (IntKind.u8.wrap n)) := HL.conv_int Tryz.underlying119 Tryz.underlying151
@[go_sem] theorem T.cv119_152 {V : HL.HV} {k : IntKind} {n : Int} : HL.convV Tryz.prog V 119 152 (.int k n) = some (.int .u8 (IntKind.u8.wrap n)) := HL.conv_int Tryz.underlying119 Tryz.underlying152
@[go_sem] theorem T.cv119_155 {V : HL.HV} {k : IntKind} {n : Int} : HL.convV Tryz.prog V 119 155 (.int k n) = some (.int .i32 (IntKind.i32.wrap n)) := HL.conv_int Tryz.underlying119 Tryz.underlying155
@[go_sem] theorem T.cv119_156 {V : HL.HV} {k : IntKind} {n : Int} : HL.convV Tryz.prog V 119 156 (.int k n) = some (.int .i32 (IntKind.i32.wrap n)) := HL.conv_int Tryz.underlying119 Tryz.underlying156
@[go_sem] theorem T.cv126_2 {V : HL.HV} {k : IntKind} {n : Int} : HL.convV Tryz.prog V 126 2 (.int k n) = some (.int .i64 (IntKind.i64.wrap n)) := HL.conv_int Tryz.underlying126 Tryz.underlying2
@[go_sem] theorem T.cv126_3 {V : HL.HV} {k : IntKind} {n : Int} : HL.convV Tryz.prog V 126 3 (.int k n) = some (.int .i64 (IntKind.i64.wrap n)) := HL.conv_int Tryz.underlying126 Tryz.underlying3
@[go_sem] theorem T.cv126_5 {V : HL.HV} {k : IntKind} {n : Int} : HL.convV Tryz.prog V 126 5 (.int k n) = some (.int .u8 (IntKind.u8.wrap n)) := HL.conv_int Tryz.underlying126 Tryz.underlying5
@[go_sem] theorem T.cv126_6 {V : HL.HV} {k : IntKind} {n : Int} : HL.convV Tryz.prog V 126 6 (.int k n) = some (.int .u8 (IntKind.u8.wrap n)) := HL.conv_int Tryz.underlying126 Tryz.underlying6
@[go_sem] theorem T.cv126_12 {V : HL.HV} {k : IntKind} {n : Int} : HL.convV Tryz.prog V 126 12 (.int k n) = some (.int .u64 (IntKind.u64.wrap n)) := HL.conv_int Tryz.underlying126 Tryz.underlying12
@[go_sem] theorem T.cv126_21 {V : HL.HV} {k : IntKind} {n : Int} : HL.convV Tryz.prog V 126 21 (.int k n) = some (.int .i32 (IntKind.i32.wrap n)) := HL.conv_int Tryz.underlying126 Tryz.underlying21
@[go_sem] theorem T.cv126_35 {V : HL.HV} {k : IntKind} {n : Int} : HL.convV Tryz.prog V 126 35 (.int k n) = some (.int .i64 (IntKind.i64.wrap n)) := HL.conv_int Tryz.underlying126 Tryz.underlying35
@[go_sem] theorem T.cv126_102 {V : HL.HV} {k : IntKind} {n : Int} : HL.convV Tryz.prog V 126 102 (.int k n) = some (.int .u64 (IntKind.u64.wrap n)) := HL.conv_int Tryz.underlying126 Tryz.underlying102
@[go_sem] theorem T.cv126_103 {V : HL.HV} {k : IntKind} {n : Int} : HL.convV Tryz.prog V 126 103 (.int k n) = some (.int .i8 (IntKind.i8.wrap n)) := HL.conv_int Tryz.underlying126 Tryz.underlying103
@[go_sem] theorem T.cv126_119 {V : HL.HV} {k : IntKind} {n : Int} : HL.convV Tryz.prog V 126 119 (.int k n) = some (.int .i64 (IntKind.i64.wrap n)) := HL.conv_int Tryz.underlying126 Tryz.underlying119
@[go_sem] theorem T.cv126_126 {V : HL.HV} {k : IntKind} {n : Int} : HL.convV Tryz.prog V 126 126 (.int k n) = some (.int .u32 (IntKind.u32.wrap n)) := HL.conv_int Tryz.underlying126 Tryz.underlying126
@[go_sem] theorem T.cv126_128 {V : HL.HV} {k : IntKind} {n : Int} : HL.convV Tryz.prog V 126 128 (.int k n) = some (.int .u64 (IntKind.u64.wrap n)) := HL.conv_int Tryz.underlying126 Tryz.underlying128
@[go_sem] theorem T.cv126_133 {V : HL.HV} {k : IntKind} {n : Int} : HL.convV Tryz.prog V 126 133 (.int k n) = some (.int .u64 (IntKind.u64.wrap n)) := HL.conv_int Tryz.underlying126 Tryz.underlying133
@[go_sem] theorem T.cv126_151 {V : HL.HV} {k : IntKind} {n : Int} : HL.convV Tryz.prog V 126 151 (.int k n) = some (.int .u8 (IntKind.u8.wrap n)) := HL.conv_int Tryz.underlying126 Tryz.underlying151
@[go_sem] theorem T.cv126_152 {V : HL.HV} {k : IntKind} {n : Int} : HL.convV Tryz.prog V 126 152 (.int k n) = some (.int .u8 (IntKind.u8.wrap n)) := HL.conv_int Tryz.underlying126 Tryz.underlying152
@[go_sem] theorem T.cv126_155 {V : HL.HV} {k : IntKind} {n : Int} : HL.convV Tryz.prog V 126 155 (.int k n) = some (.int .i32 (IntKind.i32.wrap n)) := HL.conv_int Tryz.underlying126 Tryz.underlying155
@[go_sem] theorem T.cv126_156 {V : HL.HV} {k : IntKind} {n : Int} : HL.convV Tryz.prog V 126 156 (.int k n) = some (.int .i32 (IntKind.i32.wrap n)) := HL.conv_int Tryz.underlying126 Tryz.underlying156
@[go_sem] theorem T.cv128_2 {V : HL.HV} {k : IntKind} {n : Int} : HL.convV Tryz.prog V 128 2 (.int k n) = some (.int .i64 (IntKind.i64.wrap n)) := HL.conv_int Tryz.underlying128 Tryz.underlying2
@[go_sem] theorem T.cv128_3 {V : HL.HV} {k : IntKind} {n : Int} : HL.convV Tryz.prog V 128 3 (.int k n) = some (.int .i64 (IntKind.i64.wrap n)) := HL.conv_int Tryz.underlying128 Tryz.underlying3
@[go_sem] theorem T.cv128_5 {V : HL.HV} {k : IntKind} {n : Int} : HL.convV Tryz.prog V 128 5 (.int k n) = some (.int .u8 (IntKind.u8.wrap n)) := HL.conv_int Tryz.underlying128 Tryz.underlying5
@[go_sem] theorem T.cv128_6 {V : HL.HV} {k : IntKind} {n : Int} : HL.convV Tryz.prog V 128 6 (.int k n) = some (.int .u8 (IntKind.u8.wrap n)) := HL.conv_int Tryz.underlying128 Tryz.underlying6
@[go_sem] theorem T.cv128_12 {V : HL.HV} {k : IntKind} {n : Int} : HL.convV Tryz.prog V 128 12 (.int k n) = some (.int .u64 (IntKind.u64.wrap n)) := HL.conv_int Tryz.underlying128 Tryz.underlying12
@[go_sem] theorem T.cv128_21 {V : HL.HV} {k : IntKind} {n : Int} : HL.convV Tryz.prog V 128 21 (.int k n) = some (.int .i32 (IntKind.i32.wrap n)) := HL.conv_int Tryz.underlying128 Tryz.underlying21
@[go_sem] theorem T.cv128_35 {V : HL.HV} {k : IntKind} {n : Int} : HL.convV Tryz.prog V 128 35 (.int k n) = some (.int .i64 (IntKind.i64.wrap n)) := HL.conv_int Tryz.underlying128 Tryz.underlying35
@[go_sem] theorem T.cv128_102 {V : HL.HV} {k : IntKind} {n : Int} : HL.convV Tryz.prog V 128 102 (.int k n) = some (.int .u64 (IntKind.u64.wrap n)) := HL.conv_int Tryz.underlying128 Tryz.underlying102
@[go_sem] theorem T.cv128_103 {V : HL.HV} {k : IntKind} {n : Int} : HL.convV Tryz.prog V 128 103 (.int k n) = some (.int .i8 (IntKind.i8.wrap n)) := HL.conv_int Tryz.underlying128 Tryz.underlying103
@[go_sem] theorem T.cv128_119 {V : HL.HV} {k : IntKind} {n : Int} : HL.convV Tryz.prog V 128 119 (.int k n) = some (.int .i64 (IntKind.i64.wrap n)) := HL.conv_int Tryz.underlying128 Tryz.underlying119
@[go_sem] theorem T.cv128_126 {V : HL.HV} {k : IntKind} {n : Int} : HL.convV Tryz.prog V 128 126 (.int k n) = some (.int .u32 (IntKind.u32.wrap n)) := HL.conv_int Tryz.underlying128 Tryz.underlying126
@[go_sem] theorem T.cv128_128 {V : HL.HV} {k : IntKind} {n : Int} : HL.convV Tryz.prog V 128 128 (.int k n) = some (.int .u64 (IntKind.u64.wrap n)) := HL.conv_int Tryz.underlying128 Tryz.underlying128
@[go_sem] theorem T.cv128_133 {V : HL.HV} {k : IntKind} {n : Int} : HL.convV Tryz.prog V 128 133 (.int k n) = some (.int .u64 (IntKind.u64.wrap n)) := HL.conv_int Tryz.underlying128 Tryz.underlying133
@[go_sem] theorem T.cv128_151 {V : HL.HV} {k : IntKind} {n : Int} : HL.convV Tryz.prog V 128 151 (.int k n) = some (.int .u8 (IntKind.u8.wrap n)) := HL.conv_int Tryz.underlying128 Tryz.underlying151
@[go_sem] theorem T.cv128_152 {V : HL.HV} {k : IntKind} {n : Int} : HL.convV Tryz.prog V 128 152 (.int k n) = some (.int .u8 (IntKind.u8.wrap n)) := HL.conv_int Tryz.underlying128 Tryz.underlying152
@[go_sem] theorem T.cv128_155 {V : HL.HV} {k : IntKind} {n : Int} : HL.convV Tryz.prog V 128 155 (.int k n) = some (.int .i32 (IntKind.i32.wrap n)) := HL.conv_int Tryz.underlying128 Tryz.underlying155
@[go_sem] theorem T.cv128_156 {V : HL.HV} {k : IntKind} {n : Int} : HL.convV Tryz.prog V 128 156 (.int k n) = some (.int .i32 (IntKind.i32.wrap n)) := HL.conv_int Tryz.underlying128 Tryz.underlying156
@[go_sem] theorem T.cv133_2 {V : HL.HV} {k : IntKind} {n : Int} : HL.convV Tryz.prog V 133 2 (.int k n) = some (.int .i64 (IntKind.i64.wrap n)) := HL.conv_int Tryz.underlying133 Tryz.underlying2
@[go_sem] theorem T.cv133_3 {V : HL.HV} {k : IntKind} {n : Int} : HL.convV Tryz.prog V 133 3 (.int k n) = some (.int .i64 (IntKind.i64.wrap n)) := HL.conv_int Tryz.underlying133 Tryz.underlying3
@[go_sem] theorem T.cv133_5 {V : HL.HV} {k : IntKind} {n : Int} : HL.convV Tryz.prog V 133 5 (.int k n) = some (.int .u8 (IntKind.u8.wrap n)) := HL.conv_int Tryz.underlying133 Tryz.underlying5
@[go_sem] theorem T.cv133_6 {V : HL.HV} {k : IntKind} {n : Int} : HL.convV Tryz.prog V 133 6 (.int k n) = some (.int .u8 (IntKind.u8.wrap n)) := HL.conv_int Tryz.underlying133 Tryz.underlying6
@[go_sem] theorem T.cv133_12 {V : HL.HV} {k : IntKind} {n : Int} : HL.convV Tryz.prog V 133 12 (.int k n) = some (.int .u64 (IntKind.u64.wrap n)) := HL.conv_int Tryz.underlying133 Tryz.underlying12
@[go_sem] theorem T.cv133_21 {V : HL.HV} {k : IntKind} {n : Int} : HL.convV Tryz.prog V 133 21 (.int k n) = some (.int .i32 (IntKind.i32.wrap n)) := HL.conv_int Tryz.underlying133 Tryz.underlying21
@[go_sem] theorem T.cv133_35 {V : HL.HV} {k : IntKind} {n : Int} : HL.convV Tryz.prog V 133 35 (.int k n) = some (.int .i64 (IntKind.i64.wrap n)) := HL.conv_int Tryz.underlying133 Tryz.underlying35
@[go_sem] theorem T.cv133_102 {V : HL.HV} {k : IntKind} {n : Int} : HL.convV Tryz.prog V 133 102 (.int k n) = some (.int .u64 (IntKind.u64.wrap n)) := HL.conv_int Tryz.underlying133 Tryz.underlying102
@[go_sem] theorem T.cv133_103 {V : HL.HV} {k : IntKind} {n : Int} : HL.convV Tryz.prog V 133 103 (.int k n) = some (.int .i8 (IntKind.i8.wrap n)) := HL.conv_int Tryz.underlying133 Tryz.underlying103
@[go_sem] theorem T.cv133_119 {V : HL.HV} {k : IntKind} {n : Int} : HL.convV Tryz.prog V 133 119 (.int k n) = some (.int .i64 (IntKind.i64.wrap n)) := HL.conv_int Tryz.underlying133 Tryz.underlying119
@[go_sem] theorem T.cv133_126 {V : HL.HV} {k : IntKind} {n : Int} : HL.convV Tryz.prog V 133 126 (.int k n) = some (.int .u32 (IntKind.u32.wrap n)) := HL.conv_int Tryz.underlying133 Tryz.underlying126
@[go_sem] theorem T.cv133_128 {V : HL.HV} {k : IntKind} {n : Int} : HL.convV Tryz.prog V 133 128 (.int k n) = some (.int .u64 (IntKind.u64.wrap n)) := HL.conv_int Tryz.underlying133 Tryz.underlying128
@[go_sem] theorem T.cv133_133 {V : HL.HV} {k : IntKind} {n : Int} : HL.convV Tryz.prog V 133 133 (.int k n) = some (.int .u64 (IntKind.u64.wrap n)) := HL.conv_int Tryz.underlying133 Tryz.underlying133
@[go_sem] theorem T.cv133_151 {V : HL.HV} {k : IntKind} {n : Int} : HL.convV Tryz.prog V 133 151 (.int k n) = some (.int .u8 (IntKind.u8.wrap n)) := HL.conv_int Tryz.underlying133 Tryz.underlying151
@[go_sem] theorem T.cv133_152 {V : HL.HV} {k : IntKind} {n : Int} : HL.convV Tryz.prog V 133 152 (.int k n) = some (.int .u8 (IntKind.u8.wrap n)) := HL.conv_int Tryz.underlying133 Tryz.underlying152
@[go_sem] theorem T.cv133_155 {V : HL.HV} {k : IntKind} {n : Int} : HL.convV Tryz.prog V 133 155 (.int k n) = some (.int .i32 (IntKind.i32.wrap n)) := HL.conv_int Tryz.underlying133 Tryz.underlying155
@[go_sem] theorem T.cv133_156 {V : HL.HV} {k : IntKind} {n : Int} : HL.convV Tryz.prog V 133 156 (.int k n) = some (.int .i32 (IntKind.i32.wrap n)) := HL.conv_int Tryz.underlying133 Tryz.underlying156
@[go_sem] theorem T.cv151_2 {V : HL.HV} {k : IntKind} {n : Int} : HL.convV Tryz.prog V 151 2 (.int k n) = some (.int .i64 (IntKind.i64.wrap n)) := HL.conv_int Tryz.underlying151 Tryz.underlying2
@[go_sem] theorem T.cv151_3 {V : HL.HV} {k : IntKind} {n : Int} : HL.convV Tryz.prog V 151 3 (.int k n) = some (.int .i64 (IntKind.i64.wrap n)) := HL.conv_int Tryz.underlying151 Tryz.underlying3
@[go_sem] theorem T.cv151_5 {V : HL.HV} {k : IntKind} {n : Int} : HL.convV Tryz.prog V 151 5 (.int k n) = some (.int .u8 (IntKind.u8.wrap n)) := HL.conv_int Tryz.underlying151 Tryz.underlying5
@[go_sem] theorem T.cv151_6 {V : HL.HV} {k : IntKind} {n : Int} : HL.convV Tryz.prog V 151 6 (.int k n) = some (.int .u8 (IntKind.u8.wrap n)) := HL.conv_int Tryz.underlying151 Tryz.underlying6
@[go_sem] theorem T.cv151_12 {V : HL.HV} {k : IntKind} {n : Int} : HL.convV Tryz.prog V 151 12 (.int k n) = some (.int .u64 (IntKind.u64.wrap n)) := HL.conv_int Tryz.underlying151 Tryz.underlying12
@[go_sem] theorem T.cv151_21 {V : HL.HV} {k : IntKind} {n : Int} : HL.convV Tryz.prog V 151 21 (.int k n) = some (.int .i32 (IntKind.i32.wrap n)) := HL.conv_int Tryz.underlying151 Tryz.underlying21
@[go_sem] theorem T.cv151_35 {V : HL.HV} {k : IntKind} {n : Int} : HL.convV Tryz.prog V 151 35 (.int k n) = some (.int .i64 (IntKind.i64.wrap n)) := HL.conv_int Tryz.underlying151 Tryz.underlying35
@[go_sem] theorem T.cv151_102 {V : HL.HV} {k : IntKind} {n : Int} : HL.convV Tryz.prog V 151 102 (.int k n) = some (.int .u64 (IntKind.u64.wrap n)) := HL.conv_int Tryz.underlying151 Tryz.underlying102
@[go_sem] theorem T.cv151_103 {V : HL.HV} {k : IntKind} {n : Int} : HL.convV Tryz.prog V 151 103 (.int k n) = some (.int .i8 (IntKind.i8.wrap n)) := HL.conv_int Tryz.underlying151 Tryz.underlying103
@[go_sem] theorem T.cv151_119 {V : HL.HV} {k : IntKind} {n : Int} : HL.convV Tryz.prog V 151 119 (.int k n) = some (.int .i64 (IntKind.i64.wrap n)) := HL.conv_int Tryz.underlying151 Tryz.underlying119
@[go_sem] theorem T.cv151_126 {V : HL.HV} {k : IntKind} {n : Int} : HL.convV Tryz.prog V 151 126 (.int k n) = some (.int .u32 (IntKind.u32.wrap n)) := HL.conv_int Tryz.underlying151 Tryz.underlying126
@[go_sem] theorem T.cv151_128 {V : HL.HV} {k : IntKind} {n : Int} : HL.convV Tryz.prog V 151 128 (.int k n) = some (.int .u64 (IntKind.u64.wrap n)) := HL.conv_int Tryz.underlying151 Tryz.underlying128
@[go_sem] theorem T.cv151_133 {V : HL.HV} {k : IntKind} {n : Int} : HL.convV Tryz.prog V 151 133 (.int k n) = some (.int .u64 (IntKind.u64.wrap n)) := HL.conv_int Tryz.underlying151 Tryz.underlying133
@[go_sem] theorem T.cv151_151 {V : HL.HV} {k : IntKind} {n : Int} : HL.convV Tryz.prog V 151 151 (.int k n) = some (.int .u8 (IntKind.u8.wrap n)) := HL.conv_int Tryz.underlying151 Tryz.underlying151
@[go_sem] theorem T.cv151_152 {V : HL.HV} {k : IntKind} {n : Int} : HL.convV Tryz.prog V 151 152 (.int k n) = some (.int .u8 (IntKind.u8.wrap n)) := HL.conv_int Tryz.underlying151 Tryz.underlying152
@[go_sem] theorem T.cv151_155 {V : HL.HV} {k : IntKind} {n : Int} : HL.convV Tryz.prog V 151 155 (.int k n) = some (.int .i32 (IntKind.i32.wrap n)) := HL.conv_int Tryz.underlying151 Tryz.underlying155
@[go_sem] theorem T.cv151_156 {V : HL.HV} {k : IntKind} {n : Int} : HL.convV Tryz.prog V 151 156 (.int k n) = some (.int .i32 (IntKind.i32.wrap n)) := HL.conv_int Tryz.underlying151 Tryz.underlying156
@[go_sem] theorem T.cv152_2 {V : HL.HV} {k : IntKind} {n : Int} : HL.convV Tryz.prog V 152 2 (.int k n) = some (.int .i64 (IntKind.i64.wrap n)) := HL.conv_int Tryz.underlying152 Tryz.underlying2
@[go_sem] theorem T.cv152_3 {V : HL.HV} {k : IntKind} {n : Int} : HL.convV Tryz.prog V 152 3 (.int k n) = some (.int .i64 (IntKind.i64.wrap n)) := HL.conv_int Tryz.underlying152 Tryz.underlying3
@[go_sem] theorem T.cv152_5 {V : HL.HV} {k : IntKind} {n : Int} : HL.convV Tryz.prog V 152 5 (.int k n) = some (.int .u8 (IntKind.u8.wrap n)) := HL.conv_int Tryz.underlying152 Tryz.underlying5
@[go_sem] theorem T.cv152_6 {V : HL.HV} {k : IntKind} {n : Int} : HL.convV Tryz.prog V 152 6 (.int k n) = some (.int .u8 (IntKind.u8.wrap n)) := HL.conv_int Tryz.underlying152 Tryz.underlying6
@[go_sem] theorem T.cv152_12 {V : HL.HV} {k : IntKind} {n : Int} : HL.convV Tryz.prog V 152 12 (.int k n) = some (.int .u64 (IntKind.u64.wrap n)) := HL.conv_int Tryz.underlying152 Tryz.underlying12
@[go_sem] theorem T.cv152_21 {V : HL.HV} {k : IntKind} {n : Int} : HL.convV Tryz.prog V 152 21 (.int k n) = some (.int .i32 (IntKind.i32.wrap n)) := HL.conv_int Tryz.underlying152 Tryz.underlying21
@[go_sem] theorem T.cv152_35 {V : HL.HV} {k : IntKind} {n : Int} : HL.convV Tryz.prog V 152 35 (.int k n) = some (.int .i64 (IntKind.i64.wrap n)) := HL.conv_int Tryz.underlying152 Tryz.underlying35
@[go_sem] theorem T.cv152_102 {V : HL.HV} {k : IntKind} {n : Int} : HL.convV Tryz.prog V 152 102 (.int k n) = some (.int .u64 (IntKind.u64.wrap n)) := HL.conv_int Tryz.underlying152 Tryz.underlying102
@[go_sem] theorem T.cv152_103 {V : HL.HV} {k : IntKind} {n : Int} : HL.convV Tryz.prog V 152 103 (.int k n) = some (.int .i8 (IntKind.i8.wrap n)) := HL.conv_int Tryz.underlying152 Tryz.underlying103
@[go_sem] theorem T.cv152_119 {V : HL.HV} {k : IntKind} {n : Int} : HL.convV Tryz.prog V 152 119 (.int k n) = some (.int .i64 (IntKind.i64.wrap n)) := HL.conv_int Tryz.underlying152 Tryz.underlying119
@[go_sem] theorem T.cv152_126 {V : HL.HV} {k : IntKind} {n : Int} : HL.convV Tryz.prog V 152 126 (.int k n) = some (.int .u32 (IntKind.u32.wrap n)) := HL.conv_int Tryz.underlying152 Tryz.underlying126
@[go_sem] theorem T.cv152_128 {V : HL.HV} {k : IntKind} {n : Int} : HL.convV Tryz.prog V 152 128 (.int k n) = some (.int .u64 (IntKind.u64.wrap n)) := HL.conv_int Tryz.underlying152 Tryz.underlying128
@[go_sem] theorem T.cv152_133 {V : HL.HV} {k : IntKind} {n : Int} : HL.convV Tryz.prog V 152 133 (.int k n) = some (.int .u64 (IntKind.u64.wrap n)) := HL.conv_int Tryz.underlying152 Tryz.underlying133
@[go_sem] theorem T.cv152_151 {V : HL.HV} {k : IntKind} {n : Int} : HL.convV Tryz.prog V 152 151 (.int k n) = some (.int .u8 (IntKind.u8.wrap n)) := HL.conv_int Tryz.underlying152 Tryz.underlying151
@[go_sem] theorem T.cv152_152 {V : HL.HV} {k : IntKind} {n : Int} : HL.convV Tryz.prog V 152 152 (.int k n) = some (.int .u8 (IntKind.u8.wrap n)) := HL.conv_int Tryz.underlying152 Tryz.underlying152
@[go_sem] theorem T.cv152_155 {V : HL.HV} {k : IntKind} {n : Int} : HL.convV Tryz.prog V 152 155 (.int k n) = some (.int .i32 (IntKind.i32.wrap n)) := HL.conv_int Tryz.underlying152 Tryz.underlying155
@[go_sem] theorem T.cv152_156 {V : HL.HV} {k : IntKind} {n : Int} : HL.convV Tryz.prog V 152 156 (.int k n) = some (.int .i32 (IntKind.i32.wrap n)) := HL.conv_int Tryz.underlying152 Tryz.underlying156
@[go_sem] theorem T.cv155_2 {V : HL.HV} {k : IntKind} {n : Int} : HL.convV Tryz.prog V 155 2 (.int k n) = some (.int .i64 (IntKind.i64.wrap n)) := HL.conv_int Tryz.underlying155 Tryz.underlying2
@[go_sem] theorem T.cv155_3 {V : HL.HV} {k : IntKind} {n : Int} : HL.convV Tryz.prog V 155 3 (.int k n) = some (.int .i64 (IntKind.i64.wrap n)) := HL.conv_int Tryz.underlying155 Tryz.underlying3
@[go_sem] theorem T.cv155_5 {V : HL.HV} {k : IntKind} {n : Int} : HL.convV Tryz.prog V 155 5 (.int k n) = some (.int .u8 (IntKind.u8.wrap n)) := HL.conv_int Tryz.underlying155 Tryz.underlying5
@[go_sem] theorem T.cv155_6 {V : HL.HV} {k : IntKind} {n : Int} : HL.convV Tryz.prog V 155 6 (.int k n) = some (.int .u8 (IntKind.u8.wrap n)) := HL.conv_int Tryz.underlying155 Tryz.underlying6
@[go_sem] theorem T.cv155_12 {V : HL.HV} {k : IntKind} {n : Int} : HL.convV Tryz.prog V 155 12 (.int k n) = some (.int .u64 (IntKind.u64.wrap n)) := HL.conv_int Tryz.underlying155 Tryz.underlying12
@[go_sem] theorem T.cv155_21 {V : HL.HV} {k : IntKind} {n : Int} : HL.convV Tryz.prog V 155 21 (.int k n) = some (.int .i32 (IntKind.i32.wrap n)) := HL.conv_int Tryz.underlying155 Tryz.underlying21
@[go_sem] theorem T.cv155_35 {V : HL.HV} {k : IntKind} {n : Int} : HL.convV Tryz.prog V 155 35 (.int k n) = some (.int .i64 (IntKind.i64.wrap n)) := HL.conv_int Tryz.underlying155 Tryz.underlying35
@[go_sem] theorem T.cv155_102 {V : HL.HV} {k : IntKind} {n : Int} : HL.convV Tryz.prog V 155 102 (.int k n) = some (.int .u64 (IntKind.u64.wrap n)) := HL.conv_int Tryz.underlying155 Tryz.underlying102
@[go_sem] theorem T.cv155_103 {V : HL.HV} {k : IntKind} {n : Int} : HL.convV Tryz.prog V 155 103 (.int k n) = some (.int .i8 (IntKind.i8.wrap n)) := HL.conv_int Tryz.underlying155 Tryz.underlying103
@[go_sem] theorem T.cv155_119 {V : HL.HV} {k : IntKind} {n : Int} : HL.convV Tryz.prog V 155 119 (.int k n) = some (.int .i64 (IntKind.i64.wrap n)) := HL.conv_int Tryz.underlying155 Tryz.underlying119
@[go_sem] theorem T.cv155_126 {V : HL.HV} {k : IntKind} {n : Int} : HL.convV Tryz.prog V 155 126 (.int k n) = some (.int .u32 (IntKind.u32.wrap n)) := HL.conv_int Tryz.underlying155 Tryz.underlying126
@[go_sem] theorem T.cv155_128 {V : HL.HV} {k : IntKind} {n : Int} : HL.convV Tryz.prog V 155 128 (.int k n) = some (.int .u64 (IntKind.u64.wrap n)) := HL.conv_int Tryz.underlying155 Tryz.underlying128
@[go_sem] theorem T.cv155_133 {V : HL.HV} {k : IntKind} {n : Int} : HL.convV Tryz.prog V 155 133 (.int k n) = some (.int .u64 (IntKind.u64.wrap n)) := HL.conv_int Tryz.underlying155 Tryz.underlying133
@[go_sem] theorem T.cv155_151 {V : HL.HV} {k : IntKind} {n : Int} : HL.convV Tryz.prog V 155 151 (.int k n) = some (.int .u8 (IntKind.u8.wrap n)) := HL.conv_int Tryz.underlying155 Tryz.underlying151
@[go_sem] theorem T.cv155_152 {V : HL.HV} {k : IntKind} {n : Int} : HL.convV Tryz.prog V 155 152 (.int k n) = some (.int .u8 (IntKind.u8.wrap n)) := HL.conv_int Tryz.underlying155 Tryz.underlying152
@[go_sem] theorem T.cv155_155 {V : HL.HV} {k : IntKind} {n : Int} : HL.convV Tryz.prog V 155 155 (.int k n) = some (.int .i32 (IntKind.i32.wrap n)) := HL.conv_int Tryz.underlying155 Tryz.underlying155
@[go_sem] theorem T.cv155_156 {V : HL.HV} {k : IntKind} {n : Int} : HL.convV Tryz.prog V 155 156 (.int k n) = some (.int .i32 (IntKind.i32.wrap n)) := HL.conv_int Tryz.underlying155 Tryz.underlying156
@[go_sem] theorem T.cv156_2 {V : HL.HV} {k : IntKind} {n : Int} : HL.convV Tryz.prog V 156 2 (.int k n) = some (.int .i64 (IntKind.i64.wrap n)) := HL.conv_int Tryz.underlying156 Tryz.underlying2
@[go_sem] theorem T.cv156_3 {V : HL.HV} {k : IntKind} {n : Int} : HL.convV Tryz.prog V 156 3 (.int k n) = some (.int .i64 (IntKind.i64.wrap n)) := HL.conv_int Tryz.underlying156 Tryz.underlying3
@[go_sem] theorem T.cv156_5 {V : HL.HV} {k : IntKind} {n : Int} : HL.convV Tryz.prog V 156 5 (.int k n) = some (.int .u8 (IntKind.u8.wrap n)) := HL.conv_int Tryz.underlying156 Tryz.underlying5
@[go_sem] theorem T.cv156_6 {V : HL.HV} {k : IntKind} {n : Int} : HL.convV Tryz.prog V 156 6 (.int k n) = some (.int .u8 (IntKind.u8.wrap n)) := HL.conv_int Tryz.underlying156 Tryz.underlying6
@[go_sem] theorem T.cv156_12 {V : HL.HV} {k : IntKind} {n : Int} : HL.convV Tryz.prog V 156 12 (.int k n) = some (.int .u64 (IntKind.u64.wrap n)) := HL.conv_int Tryz.underlying156 Tryz.underlying12
@[go_sem] theorem T.cv156_21 {V : HL.HV} {k : IntKind} {n : Int} : HL.convV Tryz.prog V 156 21 (.int k n) = some (.int .i32 (IntKind.i32.wrap n)) := HL.conv_int Tryz.underlying156 Tryz.underlying21
@[go_sem] theorem T.cv156_35 {V : HL.HV} {k : IntKind} {n : Int} : HL.convV Tryz.prog V 156 35 (.int k n) = some (.int .i64 (IntKind.i64.wrap n)) := HL.conv_int Tryz.underlying156 Tryz.underlying35
@[go_sem] theorem T.cv156_102 {V : HL.HV} {k : IntKind} {n : Int} : HL.convV Tryz.prog V 156 102 (.int k n) = some (.int .u64 (IntKind.u64.wrap n)) := HL.conv_int Tryz.underlying156 Tryz.underlying102
@[go_sem] theorem T.cv156_103 {V : HL.HV} {k : IntKind} {n : Int} : HL.convV Tryz.prog V 156 103 (.int k n) = some (.int .i8 (IntKind.i8.wrap n)) := HL.conv_int Tryz.underlying156 Tryz.underlying103
@[go_sem] theorem T.cv156_119 {V : HL.HV} {k : IntKind} {n : Int} : HL.convV Tryz.prog V 156 119 (.int k n) = some (.int .i64 (IntKind.i64.wrap n)) := HL.conv_int Tryz.underlying156 Tryz.underlying119
@[go_sem] theorem T.cv156_126 {V : HL.HV} {k : IntKind} {n : Int} : HL.convV Tryz.prog V 156 126 (.int k n) = some (.int .u32 (IntKind.u32.wrap n)) := HL.conv_int Tryz.underlying156 Tryz.underlying126
@[go_sem] theorem T.cv156_128 {V : HL.HV} {k : IntKind} {n : Int} : HL.convV Tryz.prog V 156 128 (.int k n) = some (.int .u64 (IntKind.u64.wrap n)) := HL.conv_int Tryz.underlying156 Tryz.underlying128
@[go_sem] theorem T.cv156_133 {V : HL.HV} {k : IntKind} {n : Int} : HL.convV Tryz.prog V 156 133 (.int k n) = some (.int .u64 (IntKind.u64.wrap n)) := HL.conv_int Tryz.underlying156 Tryz.underlying133
@[go_sem] theorem T.cv156_151 {V : HL.HV} {k : IntKind} {n : Int} : HL.convV Tryz.prog V 156 151 (.int k n) = some (.int .u8 (IntKind.u8.wrap n)) := HL.conv_int Tryz.underlying156 Tryz.underlying151
@[go_sem] theorem T.cv156_152 {V : HL.HV} {k : IntKind} {n : Int} : HL.convV Tryz.prog V 156 152 (.int k n) = some (.int .u8 (IntKind.u8.wrap n)) := HL.conv_int Tryz.underlying156 Tryz.underlying152
@[go_sem] theorem T.cv156_155 {V : HL.HV} {k : IntKind} {n : Int} : HL.convV Tryz.prog V 156 155 (.int k n) = some (.int .i32 (IntKind.i32.wrap n)) := HL.conv_int Tryz.underlying156 Tryz.underlying155
@[go_sem] theorem T.cv156_156 {V : HL.HV} {k : IntKind} {n : Int} : HL.convV Tryz.prog V 156 156 (.int k n) = some (.int .i32 (IntKind.i32.wrap n)) := HL.conv_int Tryz.underlying156 Tryz.underlying156
@[go_sem] theorem T.bs49_1 {H : HL.Heap} {x0 : Int} {x1 : Int} : HL.buildSliceV Tryz.prog H 49 1 [(0, .agg #[.int .i64 x0, .int .i64 x1])] = some (.slice (some ⟨H.size, 0, none⟩) 1 1, H.push (.cells #[.int .i64 x0, .int .i64 x1] 82)) := HL.bsl_of (vs := [.agg #[.int .i64 x0, .int .i64 x1]]) T.elem49 T.size82 T.zero82 (Nat.le_of_ble_eq_true rfl) rfl rfl
@[go_sem] theorem T.bs49_2 {H : HL.Heap} {x0 : Int} {x1 : Int} {x2 : Int} {x3 : Int} : HL.buildSliceV Tryz.prog H 49 2 [(0, .agg #[.int .i64 x0, .int .i64 x1]), (1, .agg #[.int .i64 x2, .int .i64 x3])] = some (.slice (some ⟨H.size, 0, none⟩) 2 2, H.push (.cells #[.int .i64 x0, .int .i64 x1, .int .i64 x2, .int .i64 x3] 82)) := HL.bsl_of (vs := [.agg #[.int .i64 x0, .int .i64 x1], .agg #[.int .i64 x2, .int .i64 x3]]) T.elem49 T.size82 T.zero82 (Nat.le_of_ble_eq_true rfl) rfl rfl
@[go_sem] theorem T.bs49_3 {H : HL.Heap} {x0 : Int} {x1 : Int} {x2 : Int} {x3 : Int} {x4 : Int} {x5 : Int} : HL.buildSliceV Tryz.prog H 49 3 [(0, .agg #[.int .i64 x0, .int .i64 x1]), (1, .agg #[.int .i64 x2, .int .i64 x3]), (2, .agg #[.int .i64 x4, .int .i64 x5])] = some (.slice (some ⟨H.size, 0, none⟩) 3 3, H.push (.cells #[.int .i64 x0, .int .i64 x1, .int .i64 x2, .int .i64 x3, .int .i64 x4, .int .i64 x5] 82)) := HL.bsl_of (vs := [.agg #[.int .i64 x0, .int .i64 x1], .agg #[.int .i64 x2, .int .i64 x3], .agg #[.int .i64 x4, .int .i64 x5]]) T.elem49 T.size82 T.zero82 (Nat.le_of_ble_eq_true rfl) rfl rfl
@[go_sem] theorem T.bs49_4 {H : HL.Heap} {x0 : Int} {x1 : Int} {x2 : Int} {x3 : Int} {x4 : Int} {x5 : Int} {x6 : Int} {x7 : Int} : HL.buildSliceV Tryz.prog H 49 4 [(0, .agg #[.int .i64 x0, .int .i64 x1]), (1, .agg #[.int .i64 x2, .int .i64 x3]), (2, .agg #[.int .i64 x4, .int .i64 x5]), (3, .agg #[.int .i64 x6, .int .i64 x7])] = some (.slice (some ⟨H.size, 0, none⟩) 4 4, H.push (.cells #[.int .i64 x0, .int .i64 x1, .int .i64 x2, .int .i64 x3, .int .i64 x4, .int .i64 x5, .int .i64 x6, .int .i64 x7] 82)) := HL.bsl_of (vs := [.agg #[.int .i64 x0, .int .i64 x1], .agg #[.int .i64 x2, .int .i64 x3], .agg #[.int .i64 x4, .int .i64 x5], .agg #[.int .i64 x6, .int .i64 x7]]) T.elem49 T.size82 T.zero82 (Nat.le_of_ble_eq_true rfl) rfl rfl
@[go_sem] theorem T.bs63_1 {H : HL.Heap} {x0 : Bool} {a1 : Option Addr} {l1 c1 : Nat} : HL.buildSliceV Tryz.prog H 63 1 [(0, .agg #[.bool x0, .slice a1 l1 c1])] = some (.slice (some ⟨H.size, 0, none⟩) 1 1, H.push (.cells #[.bool x0, .slice a1 l1 c1] 115)) := HL.bsl_of (vs := [.agg #[.bool x0, .slice a1 l1 c1]]) T.elem63 T.size115 T.zero115 (Nat.le_of_ble_eq_true rfl) rfl rfl
@[go_sem] theorem T.bs63_2 {H : HL.Heap} {x0 : Bool} {a1 : Option Addr} {l1 c1 : Nat} {x2 : Bool} {a3 : Option Addr} {l3 c3 : Nat} : HL.buildSliceV Tryz.prog H 63 2 [(0, .agg #[.bool x0, .slice a1 l1 c1]), (1, .agg #[.bool x2, .slice a3 l3 c3])] = some (.slice (some ⟨H.size, 0, none⟩) 2 2, H.push (.cells #[.bool x0, .slice a1 l1 c1, .bool x2, .slice a3 l3 c3] 115)) := HL.bsl_of (vs := [.agg #[.bool x0, .slice a1 l1 c1], .agg #[.bool x2, .slice a3 l3 c3]]) T.elem63 T.size115 T.zero115 (Nat.le_of_ble_eq_true rfl) rfl rfl
@[go_sem] theorem T.bs63_3 {H : HL.Heap} {x0 : Bool} {a1 : Option Addr} {l1 c1 : Nat} {x2 : Bool} {a3 : Option Addr} {l3 c3 : Nat} {x4 : Bool} {a5 : Option Addr} {l5 c5 : Nat} : HL.buildSliceV Tryz.prog H 63 3 [(0, .agg #[.bool x0, .slice a1 l1 c1]), (1, .agg #[.bool x2, .slice a3 l3 c3]), (2, .agg #[.bool x4, .slice a5 l5 c5])] = some (.slice (some ⟨H.size, 0, none⟩) 3 3, H.push (.cells #[.bool x0, .slice a1 l1 c1, .bool x2, .slice a3 l3 c3, .bool x4, .slice a5 l5 c5] 115)) := HL.bsl_of (vs := [.agg #[.bool x0, .slice a1 l1 c1], .agg #[.bool x2, .slice a3 l3 c3], .agg #[.bool x4, .slice a5 l5 c5]]) T.elem63 T.size115 T.zero115 (Nat.le_of_ble_eq_true rfl) rfl rfl
@[go_sem] theorem T.bs63_4 {H : HL.Heap} {x0 : Bool} {a1 : Option Addr} {l1 c1 : Nat} {x2 : Bool} {a3 : Option Addr} {l3 c3 : Nat} {x4 : Bool} {a5 : Option Addr} {l5 c5 : Nat} {x6 : Bool} {a7 : Option Addr} {l7 c7 : Nat} : HL.buildSliceV Tryz.prog H 63 4 [(0, .agg #[.bool x0, .slice a1 l1 c1]), (1, .agg #[.bool x2, .slice a3 l3 c3]), (2, .agg #[.bool x4, .slice a5 l5 c5]), (3, .agg #[.bool x6, .slice a7 l7 c7])] = some (.slice (some ⟨H.size, 0, none⟩) 4 4, H.push (.cells #[.bool x0, .slice a1 l1 c1, .bool x2, .slice a3 l3 c3, .bool x4, .slice a5 l5 c5, .bool x6, .slice a7 l7 c7] 115)) := HL.bsl_of (vs := [.agg #[.bool x0, .slice a1 l1 c1], .agg #[.bool x2, .slice a3 l3 c3], .agg #[.bool x4, .slice a5 l5 c5], .agg #[.bool x6, .slice a7 l7 c7]]) T.elem63 T.size115 T.zero115 (Nat.le_of_ble_eq_true rfl) rfl rfl
@[go_sem] theorem T.stn52 {H : HL.Heap} {z0 z1 z2 : Value} {a0 : Option Addr} {l0 c0 : Nat} {a1 : Option Addr} {l1 c1 : Nat} {a2 : Option Nat} : HL.storeA Tryz.prog (H.push (.cells #[z0, z1, z2] 52)) 52 ⟨H.size, 0, none⟩ (.agg #[.slice a0 l0 c0, .slice a1 l1 c1, .map a2]) = some (H.push (.cells #[.slice a0 l0 c0, .slice a1 l1 c1, .map a2] 52)) := HL.store_new (z := [z0, z1, z2]) (vs := [.slice a0 l0 c0, .slice a1 l1 c1, .map a2]) T.size52 rfl (HL.one_all rfl)
@[go_sem] theorem T.ln52 {H : HL.Heap} {z0 z1 z2 : Value} : HL.cellsH (HL.cellH (H.push (.cells #[z0, z1, z2] 52))) ⟨H.size, 0, none⟩ 0 3 = some [z0, z1, z2] := HL.Blk.cells0 (new := [z0, z1, z2]) (HL.Blk.new rfl)
@[go_sem] theorem T.stn58 {H : HL.Heap} {z0 z1 z2 : Value} {a0 : Option Addr} {a1 : Option Nat} {a2 : Option Addr} {l2 c2 : Nat} : HL.storeA Tryz.prog (H.push (.cells #[z0, z1, z2] 58)) 58 ⟨H.size, 0, none⟩ (.agg #[.pointer a0, .map a1, .slice a2 l2 c2]) = some (H.push (.cells #[.pointer a0, .map a1, .slice a2 l2 c2] 58)) := HL.store_new (z := [z0, z1, z2]) (vs := [.pointer a0, .map a1, .slice a2 l2 c2]) T.size58 rfl (HL.one_all rfl)
@[go_sem] theorem T.ln58 {H : HL.Heap} {z0 z1 z2 : Value} : HL.cellsH (HL.cellH (H.push (.cells #[z0, z1, z2] 58))) ⟨H.size, 0, none⟩ 0 3 = some [z0, z1, z2] := HL.Blk.cells0 (new := [z0, z1, z2]) (HL.Blk.new rfl)
@[go_sem] theorem T.stn68 {H : HL.Heap} {z0 z1 z2 z3 z4 z5 z6 z7 z8 z9 z10 z11 z12 z13 z14 : Value} {a0 : Option Addr} {a1 : Option Addr} {l1 c1 : Nat} {a2 : Option Addr} {l2 c2 : Nat} {a3 : Option Addr} {l3 c3 : Nat} {a4 : Option Addr} {l4 c4 : Nat} {a5 : Option Addr} {l5 c5 : Nat} {a6 : Option Addr} {l6 c6 : Nat} {a7 : Option Addr} {l7 c7 : Nat} {a8 : Option Addr} {l8 c8 : Nat} {x9 : Int} {x10 : Int} {a11 : Option Addr} {l11 c11 : Nat} {x12 : Int} {x13 : Int} {x14 : Bool} : HL.storeA Tryz.prog (H.push (.cells #[z0, z1, z2, z3, z4, z5, z6, z7, z8, z9, z10, z11, z12, z13, z14] 68)) 68 ⟨H.size, 0, none⟩ (.agg #[.pointer a0, .slice a1 l1 c1, .slice a2 l2 c2, .slice a3 l3 c3, .slice a4 l4 c4, .slice a5 l5 c5, .slice a6 l6 c6, .slice a7 l7 c7, .slice a8 l8 c8, .int .i64 x9, .int .i64 x10, .slice a11 l11 c11, .int .i64 x12, .int .i64 x13, .bool x14]) = some (H.push (.cells #[.pointer a0, .slice a1 l1 c1, .slice a2 l2 c2, .slice a3 l3 c3, .slice a4 l4 c4, .slice a5 l5 c5, .slice a6 l6 c6, .slice a7 l7 c7, .slice a8 l8 c8, .int .i64 x9, .int .i64 x10, .slice a11 l11 c11, .int .i64 x12, .int .i64 x13, .bool x14] 68)) := HL.store_new (z := [z0, z1, z2, z3, z4, z5, z6, z7, z8, z9, z10, z11, z12, z13, z14]) (vs := [.pointer a0, .slice a1 l1 c1, .slice a2 l2 c2, .slice a3 l3 c3, .slice a4 l4 c4, .slice a5 l5 c5, .slice a6 l6 c6, .slice a7 l7 c7, .slice a8 l8 c8, .int .i64 x9, .int .i64 x10, .slice a11 l11 c11, .int .i64 x12, .int .i64 x13, .bool x14]) T.size68 rfl (HL.one_all rfl)
@[go_sem] theorem T.ln68 {H : HL.Heap} {z0 z1 z2 z3 z4 z5 z6 z7 z8 z9 z10 z11 z12 z13 z14 : Value} : HL.cellsH (HL.cellH (H.push (.cells #[z0, z1, z2, z3, z4, z5, z6, z7, z8, z9, z10, z11, z12, z13, z14] 68))) ⟨H.size, 0, none⟩ 0 15 = some [z0, z1, z2, z3, z4, z5, z6, z7, z8, z9, z10, z11, z12, z13, z14] := HL.Blk.cells0 (new := [z0, z1, z2, z3, z4, z5, z6, z7, z8, z9, z10, z11, z12, z13, z14]) (HL.Blk.new rfl)
@[go_sem] theorem T.stn82 {H : HL.Heap} {z0 z1 : Value} {x0 : Int} {x1 : Int} : HL.storeA Tryz.prog (H.push (.cells #[z0, z1] 82)) 82 ⟨H.size, 0, none⟩ (.agg #[.int .i64 x0, .int .i64 x1]) = some (H.push (.cells #[.int .i64 x0, .int .i64 x1] 82)) := HL.store_new (z := [z0, z1]) (vs := [.int .i64 x0, .int .i64 x1]) T.size82 rfl (HL.one_all rfl)
@[go_sem] theorem T.ln82 {H : HL.Heap} {z0 z1 : Value} : HL.cellsH (HL.cellH (H.push (.cells #[z0, z1] 82))) ⟨H.size, 0, none⟩ 0 2 = some [z0, z1] := HL.Blk.cells0 (new := [z0, z1]) (HL.Blk.new rfl)
@[go_sem] theorem T.stn91 {H : HL.Heap} {z0 z1 z2 : Value} {a0 : Option Addr} {l0 c0 : Nat} {a1 : Option Addr} {l1 c1 : Nat} {a2 : Option Addr} {l2 c2 : Nat} : HL.storeA Tryz.prog (H.push (.cells #[z0, z1, z2] 91)) 91 ⟨H.size, 0, none⟩ (.agg #[.slice a0 l0 c0, .slice a1 l1 c1, .slice a2 l2 c2]) = some (H.push (.cells #[.slice a0 l0 c0, .slice a1 l1 c1, .slice a2 l2 c2] 91)) := HL.store_new (z := [z0, z1, z2]) (vs := [.slice a0 l0 c0, .slice a1 l1 c1, .slice a2 l2 c2]) T.size91 rfl (HL.one_all rfl)
@[go_sem] theorem T.ln91 {H : HL.Heap} {z0 z1 z2 : Value} : HL.cellsH (HL.cellH (H.push (.cells #[z0, z1, z2] 91))) ⟨H.size, 0, none⟩ 0 3 = some [z0, z1, z2] := HL.Blk.cells0 (new := [z0, z1, z2]) (HL.Blk.new rfl)
@[go_sem] theorem T.stn106 {H : HL.Heap} {z0 z1 z2 : Value} {a0 : Option Addr} {l0 c0 : Nat} {x1 : Int} {x2 : Bool} : HL.storeA Tryz.prog (H.push (.cells #[z0, z1, z2] 106)) 106 ⟨H.size, 0, none⟩ (.agg #[.slice a0 l0 c0, .int .i64 x1, .bool x2]) = some (H.push (.cells #[.slice a0 l0 c0, .int .i64 x1, .bool x2] 106)) := HL.store_new (z := [z0, z1, z2]) (vs := [.slice a0 l0 c0, .int .i64 x1, .bool x2]) T.size106 rfl (HL.one_all rfl)
@[go_sem] theorem T.ln106 {H : HL.Heap} {z0 z1 z2 : Value} : HL.cellsH (HL.cellH (H.push (.cells #[z0, z1, z2] 106))) ⟨H.size, 0, none⟩ 0 3 = some [z0, z1, z2] := HL.Blk.cells0 (new := [z0, z1, z2]) (HL.Blk.new rfl)
@[go_sem] theorem T.stn115 {H : HL.Heap} {z0 z1 : Value} {x0 : Bool} {a1 : Option Addr} {l1 c1 : Nat} : HL.storeA Tryz.prog (H.push (.cells #[z0, z1] 115)) 115 ⟨H.size, 0, none⟩ (.agg #[.bool x0, .slice a1 l1 c1]) = some (H.push (.cells #[.bool x0, .slice a1 l1 c1] 115)) := HL.store_new (z := [z0, z1]) (vs := [.bool x0, .slice a1 l1 c1]) T.size115 rfl (HL.one_all rfl)
@[go_sem] theorem T.ln115 {H : HL.Heap} {z0 z1 : Value} : HL.cellsH (HL.cellH (H.push (.cells #[z0, z1] 115))) ⟨H.size, 0, none⟩ 0 2 = some [z0, z1] := HL.Blk.cells0 (new := [z0, z1]) (HL.Blk.new rfl)
@[go_sem] theorem T.sl9 {H : HL.Heap} {a : HL.Str} : HL.lenV Tryz.prog (HL.full H) 9 (.string (HL.bs a)) = some (.int .i64 a.length) := HL.str_len Tryz.underlying9
@[go_sem] theorem T.si9 {a : HL.Str} {k : IntKind} {n : Int} : HL.indexV Tryz.prog 9 (.string (HL.bs a)) (.int k n) = HL.chk (0 ≤ n ∧ n < a.length) (some (HL.u8v (HL.bt8 a n.toNat))) := HL.str_index Tryz.underlying9
@[go_sem] theorem T.ss9 {a : HL.Str} {k k2 : IntKind} {x y : Int} : HL.sliceV Tryz.prog 9 (.string (HL.bs a)) (some (.int k x)) (some (.int k2 y)) none = HL.chk (0 ≤ y ∧ y ≤ a.length) (HL.chk (0 ≤ x ∧ x ≤ y.toNat) (some (.string (HL.bs ((a.take y.toNat).drop x.toNat))))) := HL.str_sub Tryz.underlying9
@[go_sem] theorem T.so9 {a : HL.Str} {k : IntKind} {x : Int} : HL.sliceV Tryz.prog 9 (.string (HL.bs a)) (some (.int k x)) none none = HL.chk (0 ≤ x ∧ x ≤ a.length) (some (.string (HL.bs (a.drop x.toNat)))) := HL.str_lo Tryz.underlying9
@[go_sem] theorem T.sh9 {a : HL.Str} {k : IntKind} {y : Int} : HL.sliceV Tryz.prog 9 (.string (HL.bs a)) none (some (.int k y)) none = HL.chk (0 ≤ y ∧ y ≤ a.length) (some (.string (HL.bs (a.take y.toNat)))) := HL.str_hi Tryz.underlying9
@[go_sem] theorem T.sl10 {H : HL.Heap} {a : HL.Str} : HL.lenV Tryz.prog (HL.full H) 10 (.string (HL.bs a)) = some (.int .i64 a.length) := HL.str_len Tryz.underlying10
@[go_sem] theorem T.si10 {a : HL.Str} {k : IntKind} {n : Int} : HL.indexV Tryz.prog 10 (.string (HL.bs a)) (.int k n) = HL.chk (0 ≤ n ∧ n < a.length) (some (HL.u8v (HL.bt8 a n.toNat))) := HL.str_index Tryz.underlying10
@[go_sem] theorem T.ss10 {a : HL.Str} {k k2 : IntKind} {x y : Int} : HL.sliceV Tryz.prog 10 (.string (HL.bs a)) (some (.int k x)) (some (.int k2 y)) none = HL.chk (0 ≤ y ∧ y ≤ a.length) (HL.chk (0 ≤ x ∧ x ≤ y.toNat) (some (.string (HL.bs ((a.take y.toNat).drop x.toNat))))) := HL.str_sub Tryz.underlying10
@[go_sem] theorem T.so10 {a : HL.Str} {k : IntKind} {x : Int} : HL.sliceV Tryz.prog 10 (.string (HL.bs a)) (some (.int k x)) none none = HL.chk (0 ≤ x ∧ x ≤ a.length) (some (.string (HL.bs (a.drop x.toNat)))) := HL.str_lo Tryz.underlying10
@[go_sem] theorem T.sh10 {a : HL.Str} {k : IntKind} {y : Int} : HL.sliceV Tryz.prog 10 (.string (HL.bs a)) none (some (.int k y)) none = HL.chk (0 ≤ y ∧ y ≤ a.length) (some (.string (HL.bs (a.take y.toNat)))) := HL.str_hi Tryz.underlying10
@[go_sem] theorem T.sl11 {H : HL.Heap} {a : HL.Str} : HL.lenV Tryz.prog (HL.full H) 11 (.string (HL.bs a)) = some (.int .i64 a.length) := HL.str_len Tryz.underlying11
@[go_sem] theorem T.si11 {a : HL.Str} {k : IntKind} {n : Int} : HL.indexV Tryz.prog 11 (.string (HL.bs a)) (.int k n) = HL.chk (0 ≤ n ∧ n < a.length) (some (HL.u8v (HL.bt8 a n.toNat))) := HL.str_index Tryz.underlying11
@[go_sem] theorem T.ss11 {a : HL.Str} {k k2 : IntKind} {x y : Int} : HL.sliceV Tryz.prog 11 (.string (HL.bs a)) (some (.int k x)) (some (.int k2 y)) none = HL.chk (0 ≤ y ∧ y ≤ a.length) (HL.chk (0 ≤ x ∧ x ≤ y.toNat) (some (.string (HL.bs ((a.take y.toNat).drop x.toNat))))) := HL.str_sub Tryz.underlying11
@[go_sem] theorem T.so11 {a : HL.Str} {k : IntKind} {x : Int} : HL.sliceV Tryz.prog 11 (.string (HL.bs a)) (some (.int k x)) none none = HL.chk (0 ≤ x ∧ x ≤ a.length) (some (.string (HL.bs (a.drop x.toNat)))) := HL.str_lo Tryz.underlying11
@[go_sem] theorem T.sh11 {a : HL.Str} {k : IntKind} {y : Int} : HL.sliceV Tryz.prog 11 (.string (HL.bs a)) none (some (.int k y)) none = HL.chk (0 ≤ y ∧ y ≤ a.length) (some (.string (HL.bs (a.take y.toNat)))) := HL.str_hi Tryz.underlying11
end Go.Proofs
