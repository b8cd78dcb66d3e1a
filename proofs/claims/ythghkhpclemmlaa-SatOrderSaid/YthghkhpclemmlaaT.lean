/- Closed facts on the types of the program. -/
import Derived.Test.YthghkhpclemmlaaProg
import Derived.Test.YthghkhpclemmlaaL06
namespace Go.Proofs
theorem T.mixed : Try.prog.follows .mixedOrders = true := by kernel_rfl
@[go_sem] theorem T.agg1 : HL.aggN Try.prog 1 = some none := by kernel_rfl
@[go_sem] theorem T.size1 : HL.sizeT Try.prog 1 = some 1 := by kernel_rfl
@[go_sem] theorem T.bytes1 : HL.bytesT Try.prog 1 = some 8 := by kernel_rfl
@[go_sem] theorem T.zero1 : HL.zeroT Try.prog 1 = some (.nilFunc) := by kernel_rfl
@[go_sem] theorem T.agg2 : HL.aggN Try.prog 2 = some none := by kernel_rfl
@[go_sem] theorem T.size2 : HL.sizeT Try.prog 2 = some 1 := by kernel_rfl
@[go_sem] theorem T.bytes2 : HL.bytesT Try.prog 2 = some 8 := by kernel_rfl
@[go_sem] theorem T.zero2 : HL.zeroT Try.prog 2 = some (.int .i64 0) := by kernel_rfl
@[go_sem] theorem T.agg3 : HL.aggN Try.prog 3 = some none := by kernel_rfl
@[go_sem] theorem T.size3 : HL.sizeT Try.prog 3 = some 1 := by kernel_rfl
@[go_sem] theorem T.bytes3 : HL.bytesT Try.prog 3 = some 8 := by kernel_rfl
@[go_sem] theorem T.zero3 : HL.zeroT Try.prog 3 = some (.int .i64 0) := by kernel_rfl
@[go_sem] theorem T.agg4 : HL.aggN Try.prog 4 = some none := by kernel_rfl
@[go_sem] theorem T.size4 : HL.sizeT Try.prog 4 = some 1 := by kernel_rfl
@[go_sem] theorem T.bytes4 : HL.bytesT Try.prog 4 = some 1 := by kernel_rfl
@[go_sem] theorem T.zero4 : HL.zeroT Try.prog 4 = some (.bool false) := by kernel_rfl
@[go_sem] theorem T.agg5 : HL.aggN Try.prog 5 = some none := by kernel_rfl
@[go_sem] theorem T.size5 : HL.sizeT Try.prog 5 = some 1 := by kernel_rfl
@[go_sem] theorem T.bytes5 : HL.bytesT Try.prog 5 = some 1 := by kernel_rfl
@[go_sem] theorem T.zero5 : HL.zeroT Try.prog 5 = some (.int .u8 0) := by kernel_rfl
@[go_sem] theorem T.agg6 : HL.aggN Try.prog 6 = some none := by kernel_rfl
@[go_sem] theorem T.size6 : HL.sizeT Try.prog 6 = some 1 := by kernel_rfl
@[go_sem] theorem T.bytes6 : HL.bytesT Try.prog 6 = some 1 := by kernel_rfl
@[go_sem] theorem T.zero6 : HL.zeroT Try.prog 6 = some (.int .u8 0) := by kernel_rfl
@[go_sem] theorem T.agg7 : HL.aggN Try.prog 7 = some (some 4) := by kernel_rfl
@[go_sem] theorem T.size7 : HL.sizeT Try.prog 7 = some 4 := by kernel_rfl
@[go_sem] theorem T.bytes7 : HL.bytesT Try.prog 7 = some 24 := by kernel_rfl
@[go_sem] theorem T.zero7 : HL.zeroT Try.prog 7 = some (.agg #[.int .i64 0, .int .i64 0, .bool false, .int .u8 0]) := by kernel_rfl
@[go_sem] theorem T.places7 : HL.placesT Try.prog 7 = some [(0, 1), (1, 1), (2, 1), (3, 1)] := by kernel_rfl
@[go_sem] theorem T.field7_0 : HL.fieldT Try.prog 7 0 = some (0, 2) := by kernel_rfl
@[go_sem] theorem T.fieldO7_0 : HL.fieldO Try.prog 7 0 = some 0 := by kernel_rfl
@[go_sem] theorem T.field7_1 : HL.fieldT Try.prog 7 1 = some (1, 3) := by kernel_rfl
@[go_sem] theorem T.fieldO7_1 : HL.fieldO Try.prog 7 1 = some 1 := by kernel_rfl
@[go_sem] theorem T.field7_2 : HL.fieldT Try.prog 7 2 = some (2, 4) := by kernel_rfl
@[go_sem] theorem T.fieldO7_2 : HL.fieldO Try.prog 7 2 = some 2 := by kernel_rfl
@[go_sem] theorem T.field7_3 : HL.fieldT Try.prog 7 3 = some (3, 6) := by kernel_rfl
@[go_sem] theorem T.fieldO7_3 : HL.fieldO Try.prog 7 3 = some 3 := by kernel_rfl
@[go_sem] theorem T.agg8 : HL.aggN Try.prog 8 = some (some 4) := by kernel_rfl
@[go_sem] theorem T.size8 : HL.sizeT Try.prog 8 = some 4 := by kernel_rfl
@[go_sem] theorem T.bytes8 : HL.bytesT Try.prog 8 = some 24 := by kernel_rfl
@[go_sem] theorem T.zero8 : HL.zeroT Try.prog 8 = some (.agg #[.int .i64 0, .int .i64 0, .bool false, .int .u8 0]) := by kernel_rfl
@[go_sem] theorem T.places8 : HL.placesT Try.prog 8 = some [(0, 1), (1, 1), (2, 1), (3, 1)] := by kernel_rfl
@[go_sem] theorem T.field8_0 : HL.fieldT Try.prog 8 0 = some (0, 2) := by kernel_rfl
@[go_sem] theorem T.fieldO8_0 : HL.fieldO Try.prog 8 0 = some 0 := by kernel_rfl
@[go_sem] theorem T.field8_1 : HL.fieldT Try.prog 8 1 = some (1, 3) := by kernel_rfl
@[go_sem] theorem T.fieldO8_1 : HL.fieldO Try.prog 8 1 = some 1 := by kernel_rfl
@[go_sem] theorem T.field8_2 : HL.fieldT Try.prog 8 2 = some (2, 4) := by kernel_rfl
@[go_sem] theorem T.fieldO8_2 : HL.fieldO Try.prog 8 2 = some 2 := by kernel_rfl
@[go_sem] theorem T.field8_3 : HL.fieldT Try.prog 8 3 = some (3, 6) := by kernel_rfl
@[go_sem] theorem T.fieldO8_3 : HL.fieldO Try.prog 8 3 = some 3 := by kernel_rfl
@[go_sem] theorem T.agg9 : HL.aggN Try.prog 9 = some none := by kernel_rfl
@[go_sem] theorem T.size9 : HL.sizeT Try.prog 9 = some 1 := by kernel_rfl
@[go_sem] theorem T.bytes9 : HL.bytesT Try.prog 9 = some 16 := by kernel_rfl
@[go_sem] theorem T.zero9 : HL.zeroT Try.prog 9 = some (.string ⟨#[]⟩) := by kernel_rfl
@[go_sem] theorem T.agg10 : HL.aggN Try.prog 10 = some none := by kernel_rfl
@[go_sem] theorem T.size10 : HL.sizeT Try.prog 10 = some 1 := by kernel_rfl
@[go_sem] theorem T.bytes10 : HL.bytesT Try.prog 10 = some 16 := by kernel_rfl
@[go_sem] theorem T.zero10 : HL.zeroT Try.prog 10 = some (.string ⟨#[]⟩) := by kernel_rfl
@[go_sem] theorem T.agg11 : HL.aggN Try.prog 11 = some none := by kernel_rfl
@[go_sem] theorem T.size11 : HL.sizeT Try.prog 11 = some 1 := by kernel_rfl
@[go_sem] theorem T.bytes11 : HL.bytesT Try.prog 11 = some 16 := by kernel_rfl
@[go_sem] theorem T.zero11 : HL.zeroT Try.prog 11 = some (.string ⟨#[]⟩) := by kernel_rfl
@[go_sem] theorem T.agg12 : HL.aggN Try.prog 12 = some none := by kernel_rfl
@[go_sem] theorem T.size12 : HL.sizeT Try.prog 12 = some 1 := by kernel_rfl
@[go_sem] theorem T.bytes12 : HL.bytesT Try.prog 12 = some 8 := by kernel_rfl
@[go_sem] theorem T.zero12 : HL.zeroT Try.prog 12 = some (.int .u64 0) := by kernel_rfl
@[go_sem] theorem T.agg13 : HL.aggN Try.prog 13 = some (some 2) := by kernel_rfl
@[go_sem] theorem T.size13 : HL.sizeT Try.prog 13 = some 2 := by kernel_rfl
@[go_sem] theorem T.bytes13 : HL.bytesT Try.prog 13 = some 24 := by kernel_rfl
@[go_sem] theorem T.zero13 : HL.zeroT Try.prog 13 = some (.agg #[.string ⟨#[]⟩, .int .u64 0]) := by kernel_rfl
@[go_sem] theorem T.places13 : HL.placesT Try.prog 13 = some [(0, 1), (1, 1)] := by kernel_rfl
@[go_sem] theorem T.field13_0 : HL.fieldT Try.prog 13 0 = some (0, 9) := by kernel_rfl
@[go_sem] theorem T.fieldO13_0 : HL.fieldO Try.prog 13 0 = some 0 := by kernel_rfl
@[go_sem] theorem T.field13_1 : HL.fieldT Try.prog 13 1 = some (1, 12) := by kernel_rfl
@[go_sem] theorem T.fieldO13_1 : HL.fieldO Try.prog 13 1 = some 1 := by kernel_rfl
@[go_sem] theorem T.agg14 : HL.aggN Try.prog 14 = some (some 2) := by kernel_rfl
@[go_sem] theorem T.size14 : HL.sizeT Try.prog 14 = some 2 := by kernel_rfl
@[go_sem] theorem T.bytes14 : HL.bytesT Try.prog 14 = some 24 := by kernel_rfl
@[go_sem] theorem T.zero14 : HL.zeroT Try.prog 14 = some (.agg #[.string ⟨#[]⟩, .int .u64 0]) := by kernel_rfl
@[go_sem] theorem T.places14 : HL.placesT Try.prog 14 = some [(0, 1), (1, 1)] := by kernel_rfl
@[go_sem] theorem T.field14_0 : HL.fieldT Try.prog 14 0 = some (0, 9) := by kernel_rfl
@[go_sem] theorem T.fieldO14_0 : HL.fieldO Try.prog 14 0 = some 0 := by kernel_rfl
@[go_sem] theorem T.field14_1 : HL.fieldT Try.prog 14 1 = some (1, 12) := by kernel_rfl
@[go_sem] theorem T.fieldO14_1 : HL.fieldO Try.prog 14 1 = some 1 := by kernel_rfl
@[go_sem] theorem T.agg15 : HL.aggN Try.prog 15 = some none := by kernel_rfl
@[go_sem] theorem T.size15 : HL.sizeT Try.prog 15 = some 1 := by kernel_rfl
@[go_sem] theorem T.bytes15 : HL.bytesT Try.prog 15 = some 8 := by kernel_rfl
@[go_sem] theorem T.zero15 : HL.zeroT Try.prog 15 = some (.pointer none) := by kernel_rfl
@[go_sem] theorem T.agg16 : HL.aggN Try.prog 16 = some none := by kernel_rfl
@[go_sem] theorem T.size16 : HL.sizeT Try.prog 16 = some 1 := by kernel_rfl
@[go_sem] theorem T.bytes16 : HL.bytesT Try.prog 16 = some 8 := by kernel_rfl
@[go_sem] theorem T.zero16 : HL.zeroT Try.prog 16 = some (.pointer none) := by kernel_rfl
@[go_sem] theorem T.agg17 : HL.aggN Try.prog 17 = some none := by kernel_rfl
@[go_sem] theorem T.size17 : HL.sizeT Try.prog 17 = some 1 := by kernel_rfl
@[go_sem] theorem T.bytes17 : HL.bytesT Try.prog 17 = some 8 := by kernel_rfl
@[go_sem] theorem T.zero17 : HL.zeroT Try.prog 17 = some (.pointer none) := by kernel_rfl
@[go_sem] theorem T.agg18 : HL.aggN Try.prog 18 = some (some 1) := by kernel_rfl
@[go_sem] theorem T.size18 : HL.sizeT Try.prog 18 = some 1 := by kernel_rfl
@[go_sem] theorem T.bytes18 : HL.bytesT Try.prog 18 = some 8 := by kernel_rfl
@[go_sem] theorem T.zero18 : HL.zeroT Try.prog 18 = some (.agg #[.pointer none]) := by kernel_rfl
@[go_sem] theorem T.places18 : HL.placesT Try.prog 18 = some [(0, 1)] := by kernel_rfl
@[go_sem] theorem T.field18_0 : HL.fieldT Try.prog 18 0 = some (0, 17) := by kernel_rfl
@[go_sem] theorem T.fieldO18_0 : HL.fieldO Try.prog 18 0 = some 0 := by kernel_rfl
@[go_sem] theorem T.agg19 : HL.aggN Try.prog 19 = some (some 1) := by kernel_rfl
@[go_sem] theorem T.size19 : HL.sizeT Try.prog 19 = some 1 := by kernel_rfl
@[go_sem] theorem T.bytes19 : HL.bytesT Try.prog 19 = some 8 := by kernel_rfl
@[go_sem] theorem T.zero19 : HL.zeroT Try.prog 19 = some (.agg #[.pointer none]) := by kernel_rfl
@[go_sem] theorem T.places19 : HL.placesT Try.prog 19 = some [(0, 1)] := by kernel_rfl
@[go_sem] theorem T.field19_0 : HL.fieldT Try.prog 19 0 = some (0, 17) := by kernel_rfl
@[go_sem] theorem T.fieldO19_0 : HL.fieldO Try.prog 19 0 = some 0 := by kernel_rfl
@[go_sem] theorem T.agg20 : HL.aggN Try.prog 20 = some none := by kernel_rfl
@[go_sem] theorem T.size20 : HL.sizeT Try.prog 20 = some 1 := by kernel_rfl
@[go_sem] theorem T.bytes20 : HL.bytesT Try.prog 20 = some 16 := by kernel_rfl
@[go_sem] theorem T.zero20 : HL.zeroT Try.prog 20 = some (.nilIface) := by kernel_rfl
@[go_sem] theorem T.agg21 : HL.aggN Try.prog 21 = some none := by kernel_rfl
@[go_sem] theorem T.size21 : HL.sizeT Try.prog 21 = some 1 := by kernel_rfl
@[go_sem] theorem T.bytes21 : HL.bytesT Try.prog 21 = some 4 := by kernel_rfl
@[go_sem] theorem T.zero21 : HL.zeroT Try.prog 21 = some (.int .i32 0) := by kernel_rfl
@[go_sem] theorem T.agg22 : HL.aggN Try.prog 22 = some none := by kernel_rfl
@[go_sem] theorem T.size22 : HL.sizeT Try.prog 22 = some 1 := by kernel_rfl
@[go_sem] theorem T.bytes22 : HL.bytesT Try.prog 22 = some 24 := by kernel_rfl
@[go_sem] theorem T.zero22 : HL.zeroT Try.prog 22 = some (.slice none 0 0) := by kernel_rfl
@[go_sem] theorem T.elem22 : HL.elemT Try.prog 22 = some 26 := by kernel_rfl
@[go_sem] theorem T.elemS22 : HL.elemS Try.prog 22 = some 1 := by kernel_rfl
@[go_sem] theorem T.agg23 : HL.aggN Try.prog 23 = some none := by kernel_rfl
@[go_sem] theorem T.size23 : HL.sizeT Try.prog 23 = some 1 := by kernel_rfl
@[go_sem] theorem T.bytes23 : HL.bytesT Try.prog 23 = some 8 := by kernel_rfl
@[go_sem] theorem T.zero23 : HL.zeroT Try.prog 23 = some (.nilFunc) := by kernel_rfl
@[go_sem] theorem T.agg24 : HL.aggN Try.prog 24 = some none := by kernel_rfl
@[go_sem] theorem T.size24 : HL.sizeT Try.prog 24 = some 1 := by kernel_rfl
@[go_sem] theorem T.bytes24 : HL.bytesT Try.prog 24 = some 8 := by kernel_rfl
@[go_sem] theorem T.zero24 : HL.zeroT Try.prog 24 = some (.nilFunc) := by kernel_rfl
@[go_sem] theorem T.agg25 : HL.aggN Try.prog 25 = some none := by kernel_rfl
@[go_sem] theorem T.size25 : HL.sizeT Try.prog 25 = some 1 := by kernel_rfl
@[go_sem] theorem T.bytes25 : HL.bytesT Try.prog 25 = some 8 := by kernel_rfl
@[go_sem] theorem T.zero25 : HL.zeroT Try.prog 25 = some (.nilFunc) := by kernel_rfl
@[go_sem] theorem T.agg26 : HL.aggN Try.prog 26 = some none := by kernel_rfl
@[go_sem] theorem T.size26 : HL.sizeT Try.prog 26 = some 1 := by kernel_rfl
@[go_sem] theorem T.bytes26 : HL.bytesT Try.prog 26 = some 24 := by kernel_rfl
@[go_sem] theorem T.zero26 : HL.zeroT Try.prog 26 = some (.slice none 0 0) := by kernel_rfl
@[go_sem] theorem T.elem26 : HL.elemT Try.prog 26 = some 3 := by kernel_rfl
@[go_sem] theorem T.elemS26 : HL.elemS Try.prog 26 = some 1 := by kernel_rfl
@[go_sem] theorem T.agg27 : HL.aggN Try.prog 27 = some none := by kernel_rfl
@[go_sem] theorem T.size27 : HL.sizeT Try.prog 27 = some 1 := by kernel_rfl
@[go_sem] theorem T.bytes27 : HL.bytesT Try.prog 27 = some 8 := by kernel_rfl
@[go_sem] theorem T.zero27 : HL.zeroT Try.prog 27 = some (.pointer none) := by kernel_rfl
@[go_sem] theorem T.agg28 : HL.aggN Try.prog 28 = some none := by kernel_rfl
@[go_sem] theorem T.size28 : HL.sizeT Try.prog 28 = some 1 := by kernel_rfl
@[go_sem] theorem T.bytes28 : HL.bytesT Try.prog 28 = some 8 := by kernel_rfl
@[go_sem] theorem T.zero28 : HL.zeroT Try.prog 28 = some (.nilFunc) := by kernel_rfl
@[go_sem] theorem T.agg29 : HL.aggN Try.prog 29 = some none := by kernel_rfl
@[go_sem] theorem T.size29 : HL.sizeT Try.prog 29 = some 1 := by kernel_rfl
@[go_sem] theorem T.bytes29 : HL.bytesT Try.prog 29 = some 8 := by kernel_rfl
@[go_sem] theorem T.zero29 : HL.zeroT Try.prog 29 = some (.nilFunc) := by kernel_rfl
@[go_sem] theorem T.agg30 : HL.aggN Try.prog 30 = some none := by kernel_rfl
@[go_sem] theorem T.size30 : HL.sizeT Try.prog 30 = some 1 := by kernel_rfl
@[go_sem] theorem T.bytes30 : HL.bytesT Try.prog 30 = some 8 := by kernel_rfl
@[go_sem] theorem T.zero30 : HL.zeroT Try.prog 30 = some (.nilFunc) := by kernel_rfl
@[go_sem] theorem T.agg31 : HL.aggN Try.prog 31 = some none := by kernel_rfl
@[go_sem] theorem T.size31 : HL.sizeT Try.prog 31 = some 1 := by kernel_rfl
@[go_sem] theorem T.bytes31 : HL.bytesT Try.prog 31 = some 8 := by kernel_rfl
@[go_sem] theorem T.zero31 : HL.zeroT Try.prog 31 = some (.nilFunc) := by kernel_rfl
@[go_sem] theorem T.agg32 : HL.aggN Try.prog 32 = some none := by kernel_rfl
@[go_sem] theorem T.size32 : HL.sizeT Try.prog 32 = some 1 := by kernel_rfl
@[go_sem] theorem T.bytes32 : HL.bytesT Try.prog 32 = some 8 := by kernel_rfl
@[go_sem] theorem T.zero32 : HL.zeroT Try.prog 32 = some (.nilFunc) := by kernel_rfl
@[go_sem] theorem T.agg33 : HL.aggN Try.prog 33 = some none := by kernel_rfl
@[go_sem] theorem T.size33 : HL.sizeT Try.prog 33 = some 1 := by kernel_rfl
@[go_sem] theorem T.bytes33 : HL.bytesT Try.prog 33 = some 8 := by kernel_rfl
@[go_sem] theorem T.zero33 : HL.zeroT Try.prog 33 = some (.nilFunc) := by kernel_rfl
@[go_sem] theorem T.agg34 : HL.aggN Try.prog 34 = some none := by kernel_rfl
@[go_sem] theorem T.size34 : HL.sizeT Try.prog 34 = some 1 := by kernel_rfl
@[go_sem] theorem T.bytes34 : HL.bytesT Try.prog 34 = some 8 := by kernel_rfl
@[go_sem] theorem T.zero34 : HL.zeroT Try.prog 34 = some (.int .i64 0) := by kernel_rfl
@[go_sem] theorem T.agg35 : HL.aggN Try.prog 35 = some none := by kernel_rfl
@[go_sem] theorem T.size35 : HL.sizeT Try.prog 35 = some 1 := by kernel_rfl
@[go_sem] theorem T.bytes35 : HL.bytesT Try.prog 35 = some 8 := by kernel_rfl
@[go_sem] theorem T.zero35 : HL.zeroT Try.prog 35 = some (.nilFunc) := by kernel_rfl
@[go_sem] theorem T.agg36 : HL.aggN Try.prog 36 = some none := by kernel_rfl
@[go_sem] theorem T.size36 : HL.sizeT Try.prog 36 = some 1 := by kernel_rfl
@[go_sem] theorem T.bytes36 : HL.bytesT Try.prog 36 = some 8 := by kernel_rfl
@[go_sem] theorem T.zero36 : HL.zeroT Try.prog 36 = some (.nilFunc) := by kernel_rfl
@[go_sem] theorem T.agg37 : HL.aggN Try.prog 37 = some none := by kernel_rfl
@[go_sem] theorem T.size37 : HL.sizeT Try.prog 37 = some 1 := by kernel_rfl
@[go_sem] theorem T.bytes37 : HL.bytesT Try.prog 37 = some 8 := by kernel_rfl
@[go_sem] theorem T.zero37 : HL.zeroT Try.prog 37 = some (.nilFunc) := by kernel_rfl
@[go_sem] theorem T.agg39 : HL.aggN Try.prog 39 = some none := by kernel_rfl
@[go_sem] theorem T.size39 : HL.sizeT Try.prog 39 = some 1 := by kernel_rfl
@[go_sem] theorem T.bytes39 : HL.bytesT Try.prog 39 = some 8 := by kernel_rfl
@[go_sem] theorem T.zero39 : HL.zeroT Try.prog 39 = some (.nilFunc) := by kernel_rfl
@[go_sem] theorem T.agg40 : HL.aggN Try.prog 40 = some none := by kernel_rfl
@[go_sem] theorem T.size40 : HL.sizeT Try.prog 40 = some 1 := by kernel_rfl
@[go_sem] theorem T.bytes40 : HL.bytesT Try.prog 40 = some 24 := by kernel_rfl
@[go_sem] theorem T.zero40 : HL.zeroT Try.prog 40 = some (.slice none 0 0) := by kernel_rfl
@[go_sem] theorem T.elem40 : HL.elemT Try.prog 40 = some 4 := by kernel_rfl
@[go_sem] theorem T.elemS40 : HL.elemS Try.prog 40 = some 1 := by kernel_rfl
@[go_sem] theorem T.agg41 : HL.aggN Try.prog 41 = some none := by kernel_rfl
@[go_sem] theorem T.size41 : HL.sizeT Try.prog 41 = some 1 := by kernel_rfl
@[go_sem] theorem T.bytes41 : HL.bytesT Try.prog 41 = some 8 := by kernel_rfl
@[go_sem] theorem T.zero41 : HL.zeroT Try.prog 41 = some (.nilFunc) := by kernel_rfl
@[go_sem] theorem T.agg42 : HL.aggN Try.prog 42 = some none := by kernel_rfl
@[go_sem] theorem T.size42 : HL.sizeT Try.prog 42 = some 1 := by kernel_rfl
@[go_sem] theorem T.bytes42 : HL.bytesT Try.prog 42 = some 24 := by kernel_rfl
@[go_sem] theorem T.zero42 : HL.zeroT Try.prog 42 = some (.slice none 0 0) := by kernel_rfl
@[go_sem] theorem T.elem42 : HL.elemT Try.prog 42 = some 45 := by kernel_rfl
@[go_sem] theorem T.elemS42 : HL.elemS Try.prog 42 = some 2 := by kernel_rfl
@[go_sem] theorem T.agg43 : HL.aggN Try.prog 43 = some none := by kernel_rfl
@[go_sem] theorem T.size43 : HL.sizeT Try.prog 43 = some 1 := by kernel_rfl
@[go_sem] theorem T.bytes43 : HL.bytesT Try.prog 43 = some 8 := by kernel_rfl
@[go_sem] theorem T.zero43 : HL.zeroT Try.prog 43 = some (.nilFunc) := by kernel_rfl
@[go_sem] theorem T.agg44 : HL.aggN Try.prog 44 = some (some 2) := by kernel_rfl
@[go_sem] theorem T.size44 : HL.sizeT Try.prog 44 = some 2 := by kernel_rfl
@[go_sem] theorem T.bytes44 : HL.bytesT Try.prog 44 = some 32 := by kernel_rfl
@[go_sem] theorem T.zero44 : HL.zeroT Try.prog 44 = some (.agg #[.bool false, .slice none 0 0]) := by kernel_rfl
@[go_sem] theorem T.places44 : HL.placesT Try.prog 44 = some [(0, 1), (1, 1)] := by kernel_rfl
@[go_sem] theorem T.field44_0 : HL.fieldT Try.prog 44 0 = some (0, 4) := by kernel_rfl
@[go_sem] theorem T.fieldO44_0 : HL.fieldO Try.prog 44 0 = some 0 := by kernel_rfl
@[go_sem] theorem T.field44_1 : HL.fieldT Try.prog 44 1 = some (1, 26) := by kernel_rfl
@[go_sem] theorem T.fieldO44_1 : HL.fieldO Try.prog 44 1 = some 1 := by kernel_rfl
@[go_sem] theorem T.agg45 : HL.aggN Try.prog 45 = some (some 2) := by kernel_rfl
@[go_sem] theorem T.size45 : HL.sizeT Try.prog 45 = some 2 := by kernel_rfl
@[go_sem] theorem T.bytes45 : HL.bytesT Try.prog 45 = some 32 := by kernel_rfl
@[go_sem] theorem T.zero45 : HL.zeroT Try.prog 45 = some (.agg #[.bool false, .slice none 0 0]) := by kernel_rfl
@[go_sem] theorem T.places45 : HL.placesT Try.prog 45 = some [(0, 1), (1, 1)] := by kernel_rfl
@[go_sem] theorem T.field45_0 : HL.fieldT Try.prog 45 0 = some (0, 4) := by kernel_rfl
@[go_sem] theorem T.fieldO45_0 : HL.fieldO Try.prog 45 0 = some 0 := by kernel_rfl
@[go_sem] theorem T.field45_1 : HL.fieldT Try.prog 45 1 = some (1, 26) := by kernel_rfl
@[go_sem] theorem T.fieldO45_1 : HL.fieldO Try.prog 45 1 = some 1 := by kernel_rfl
@[go_sem] theorem T.agg46 : HL.aggN Try.prog 46 = some none := by kernel_rfl
@[go_sem] theorem T.size46 : HL.sizeT Try.prog 46 = some 1 := by kernel_rfl
@[go_sem] theorem T.bytes46 : HL.bytesT Try.prog 46 = some 8 := by kernel_rfl
@[go_sem] theorem T.zero46 : HL.zeroT Try.prog 46 = some (.nilFunc) := by kernel_rfl
@[go_sem] theorem T.agg47 : HL.aggN Try.prog 47 = some none := by kernel_rfl
@[go_sem] theorem T.size47 : HL.sizeT Try.prog 47 = some 1 := by kernel_rfl
@[go_sem] theorem T.bytes47 : HL.bytesT Try.prog 47 = some 8 := by kernel_rfl
@[go_sem] theorem T.zero47 : HL.zeroT Try.prog 47 = some (.nilFunc) := by kernel_rfl
@[go_sem] theorem T.agg48 : HL.aggN Try.prog 48 = some none := by kernel_rfl
@[go_sem] theorem T.size48 : HL.sizeT Try.prog 48 = some 1 := by kernel_rfl
@[go_sem] theorem T.bytes48 : HL.bytesT Try.prog 48 = some 8 := by kernel_rfl
@[go_sem] theorem T.zero48 : HL.zeroT Try.prog 48 = some (.pointer none) := by kernel_rfl
@[go_sem] theorem T.agg49 : HL.aggN Try.prog 49 = some none := by kernel_rfl
@[go_sem] theorem T.size49 : HL.sizeT Try.prog 49 = some 1 := by kernel_rfl
@[go_sem] theorem T.bytes49 : HL.bytesT Try.prog 49 = some 24 := by kernel_rfl
@[go_sem] theorem T.zero49 : HL.zeroT Try.prog 49 = some (.slice none 0 0) := by kernel_rfl
@[go_sem] theorem T.elem49 : HL.elemT Try.prog 49 = some 51 := by kernel_rfl
@[go_sem] theorem T.elemS49 : HL.elemS Try.prog 49 = some 1 := by kernel_rfl
@[go_sem] theorem T.agg50 : HL.aggN Try.prog 50 = some none := by kernel_rfl
@[go_sem] theorem T.size50 : HL.sizeT Try.prog 50 = some 1 := by kernel_rfl
@[go_sem] theorem T.bytes50 : HL.bytesT Try.prog 50 = some 24 := by kernel_rfl
@[go_sem] theorem T.zero50 : HL.zeroT Try.prog 50 = some (.slice none 0 0) := by kernel_rfl
@[go_sem] theorem T.elem50 : HL.elemT Try.prog 50 = some 78 := by kernel_rfl
@[go_sem] theorem T.elemS50 : HL.elemS Try.prog 50 = some 1 := by kernel_rfl
@[go_sem] theorem T.agg51 : HL.aggN Try.prog 51 = some none := by kernel_rfl
@[go_sem] theorem T.size51 : HL.sizeT Try.prog 51 = some 1 := by kernel_rfl
@[go_sem] theorem T.bytes51 : HL.bytesT Try.prog 51 = some 24 := by kernel_rfl
@[go_sem] theorem T.zero51 : HL.zeroT Try.prog 51 = some (.slice none 0 0) := by kernel_rfl
@[go_sem] theorem T.elem51 : HL.elemT Try.prog 51 = some 67 := by kernel_rfl
@[go_sem] theorem T.elemS51 : HL.elemS Try.prog 51 = some 1 := by kernel_rfl
@[go_sem] theorem T.agg52 : HL.aggN Try.prog 52 = some (some 15) := by kernel_rfl
@[go_sem] theorem T.size52 : HL.sizeT Try.prog 52 = some 15 := by kernel_rfl
@[go_sem] theorem T.bytes52 : HL.bytesT Try.prog 52 = some 264 := by kernel_rfl
@[go_sem] theorem T.zero52 : HL.zeroT Try.prog 52 = some (.agg #[.pointer none, .slice none 0 0, .slice none 0 0, .slice none 0 0, .slice none 0 0, .slice none 0 0, .slice none 0 0, .slice none 0 0, .slice none 0 0, .int .i64 0, .int .i64 0, .slice none 0 0, .int .i64 0, .int .i64 0, .bool false]) := by kernel_rfl
@[go_sem] theorem T.places52 : HL.placesT Try.prog 52 = some [(0, 1), (1, 1), (2, 1), (3, 1), (4, 1), (5, 1), (6, 1), (7, 1), (8, 1), (9, 1), (10, 1), (11, 1), (12, 1), (13, 1), (14, 1)] := by kernel_rfl
@[go_sem] theorem T.field52_0 : HL.fieldT Try.prog 52 0 = some (0, 48) := by kernel_rfl
@[go_sem] theorem T.fieldO52_0 : HL.fieldO Try.prog 52 0 = some 0 := by kernel_rfl
@[go_sem] theorem T.field52_1 : HL.fieldT Try.prog 52 1 = some (1, 49) := by kernel_rfl
@[go_sem] theorem T.fieldO52_1 : HL.fieldO Try.prog 52 1 = some 1 := by kernel_rfl
@[go_sem] theorem T.field52_2 : HL.fieldT Try.prog 52 2 = some (2, 50) := by kernel_rfl
@[go_sem] theorem T.fieldO52_2 : HL.fieldO Try.prog 52 2 = some 2 := by kernel_rfl
@[go_sem] theorem T.field52_3 : HL.fieldT Try.prog 52 3 = some (3, 26) := by kernel_rfl
@[go_sem] theorem T.fieldO52_3 : HL.fieldO Try.prog 52 3 = some 3 := by kernel_rfl
@[go_sem] theorem T.field52_4 : HL.fieldT Try.prog 52 4 = some (4, 51) := by kernel_rfl
@[go_sem] theorem T.fieldO52_4 : HL.fieldO Try.prog 52 4 = some 4 := by kernel_rfl
@[go_sem] theorem T.field52_5 : HL.fieldT Try.prog 52 5 = some (5, 40) := by kernel_rfl
@[go_sem] theorem T.fieldO52_5 : HL.fieldO Try.prog 52 5 = some 5 := by kernel_rfl
@[go_sem] theorem T.field52_6 : HL.fieldT Try.prog 52 6 = some (6, 40) := by kernel_rfl
@[go_sem] theorem T.fieldO52_6 : HL.fieldO Try.prog 52 6 = some 6 := by kernel_rfl
@[go_sem] theorem T.field52_7 : HL.fieldT Try.prog 52 7 = some (7, 26) := by kernel_rfl
@[go_sem] theorem T.fieldO52_7 : HL.fieldO Try.prog 52 7 = some 7 := by kernel_rfl
@[go_sem] theorem T.field52_8 : HL.fieldT Try.prog 52 8 = some (8, 26) := by kernel_rfl
@[go_sem] theorem T.fieldO52_8 : HL.fieldO Try.prog 52 8 = some 8 := by kernel_rfl
@[go_sem] theorem T.field52_9 : HL.fieldT Try.prog 52 9 = some (9, 3) := by kernel_rfl
@[go_sem] theorem T.fieldO52_9 : HL.fieldO Try.prog 52 9 = some 9 := by kernel_rfl
@[go_sem] theorem T.field52_10 : HL.fieldT Try.prog 52 10 = some (10, 2) := by kernel_rfl
@[go_sem] theorem T.fieldO52_10 : HL.fieldO Try.prog 52 10 = some 10 := by kernel_rfl
@[go_sem] theorem T.field52_11 : HL.fieldT Try.prog 52 11 = some (11, 51) := by kernel_rfl
@[go_sem] theorem T.fieldO52_11 : HL.fieldO Try.prog 52 11 = some 11 := by kernel_rfl
@[go_sem] theorem T.field52_12 : HL.fieldT Try.prog 52 12 = some (12, 3) := by kernel_rfl
@[go_sem] theorem T.fieldO52_12 : HL.fieldO Try.prog 52 12 = some 12 := by kernel_rfl
@[go_sem] theorem T.field52_13 : HL.fieldT Try.prog 52 13 = some (13, 3) := by kernel_rfl
@[go_sem] theorem T.fieldO52_13 : HL.fieldO Try.prog 52 13 = some 13 := by kernel_rfl
@[go_sem] theorem T.field52_14 : HL.fieldT Try.prog 52 14 = some (14, 4) := by kernel_rfl
@[go_sem] theorem T.fieldO52_14 : HL.fieldO Try.prog 52 14 = some 14 := by kernel_rfl
@[go_sem] theorem T.agg53 : HL.aggN Try.prog 53 = some (some 15) := by kernel_rfl
@[go_sem] theorem T.size53 : HL.sizeT Try.prog 53 = some 15 := by kernel_rfl
@[go_sem] theorem T.bytes53 : HL.bytesT Try.prog 53 = some 264 := by kernel_rfl
@[go_sem] theorem T.zero53 : HL.zeroT Try.prog 53 = some (.agg #[.pointer none, .slice none 0 0, .slice none 0 0, .slice none 0 0, .slice none 0 0, .slice none 0 0, .slice none 0 0, .slice none 0 0, .slice none 0 0, .int .i64 0, .int .i64 0, .slice none 0 0, .int .i64 0, .int .i64 0, .bool false]) := by kernel_rfl
@[go_sem] theorem T.places53 : HL.placesT Try.prog 53 = some [(0, 1), (1, 1), (2, 1), (3, 1), (4, 1), (5, 1), (6, 1), (7, 1), (8, 1), (9, 1), (10, 1), (11, 1), (12, 1), (13, 1), (14, 1)] := by kernel_rfl
@[go_sem] theorem T.field53_0 : HL.fieldT Try.prog 53 0 = some (0, 48) := by kernel_rfl
@[go_sem] theorem T.fieldO53_0 : HL.fieldO Try.prog 53 0 = some 0 := by kernel_rfl
@[go_sem] theorem T.field53_1 : HL.fieldT Try.prog 53 1 = some (1, 49) := by kernel_rfl
@[go_sem] theorem T.fieldO53_1 : HL.fieldO Try.prog 53 1 = some 1 := by kernel_rfl
@[go_sem] theorem T.field53_2 : HL.fieldT Try.prog 53 2 = some (2, 50) := by kernel_rfl
@[go_sem] theorem T.fieldO53_2 : HL.fieldO Try.prog 53 2 = some 2 := by kernel_rfl
@[go_sem] theorem T.field53_3 : HL.fieldT Try.prog 53 3 = some (3, 26) := by kernel_rfl
@[go_sem] theorem T.fieldO53_3 : HL.fieldO Try.prog 53 3 = some 3 := by kernel_rfl
@[go_sem] theorem T.field53_4 : HL.fieldT Try.prog 53 4 = some (4, 51) := by kernel_rfl
@[go_sem] theorem T.fieldO53_4 : HL.fieldO Try.prog 53 4 = some 4 := by kernel_rfl
@[go_sem] theorem T.field53_5 : HL.fieldT Try.prog 53 5 = some (5, 40) := by kernel_rfl
@[go_sem] theorem T.fieldO53_5 : HL.fieldO Try.prog 53 5 = some 5 := by kernel_rfl
@[go_sem] theorem T.field53_6 : HL.fieldT Try.prog 53 6 = some (6, 40) := by kernel_rfl
@[go_sem] theorem T.fieldO53_6 : HL.fieldO Try.prog 53 6 = some 6 := by kernel_rfl
@[go_sem] theorem T.field53_7 : HL.fieldT Try.prog 53 7 = some (7, 26) := by kernel_rfl
@[go_sem] theorem T.fieldO53_7 : HL.fieldO Try.prog 53 7 = some 7 := by kernel_rfl
@[go_sem] theorem T.field53_8 : HL.fieldT Try.prog 53 8 = some (8, 26) := by kernel_rfl
@[go_sem] theorem T.fieldO53_8 : HL.fieldO Try.prog 53 8 = some 8 := by kernel_rfl
@[go_sem] theorem T.field53_9 : HL.fieldT Try.prog 53 9 = some (9, 3) := by kernel_rfl
@[go_sem] theorem T.fieldO53_9 : HL.fieldO Try.prog 53 9 = some 9 := by kernel_rfl
@[go_sem] theorem T.field53_10 : HL.fieldT Try.prog 53 10 = some (10, 2) := by kernel_rfl
@[go_sem] theorem T.fieldO53_10 : HL.fieldO Try.prog 53 10 = some 10 := by kernel_rfl
@[go_sem] theorem T.field53_11 : HL.fieldT Try.prog 53 11 = some (11, 51) := by kernel_rfl
@[go_sem] theorem T.fieldO53_11 : HL.fieldO Try.prog 53 11 = some 11 := by kernel_rfl
@[go_sem] theorem T.field53_12 : HL.fieldT Try.prog 53 12 = some (12, 3) := by kernel_rfl
@[go_sem] theorem T.fieldO53_12 : HL.fieldO Try.prog 53 12 = some 12 := by kernel_rfl
@[go_sem] theorem T.field53_13 : HL.fieldT Try.prog 53 13 = some (13, 3) := by kernel_rfl
@[go_sem] theorem T.fieldO53_13 : HL.fieldO Try.prog 53 13 = some 13 := by kernel_rfl
@[go_sem] theorem T.field53_14 : HL.fieldT Try.prog 53 14 = some (14, 4) := by kernel_rfl
@[go_sem] theorem T.fieldO53_14 : HL.fieldO Try.prog 53 14 = some 14 := by kernel_rfl
@[go_sem] theorem T.agg54 : HL.aggN Try.prog 54 = some (some 22) := by kernel_rfl
@[go_sem] theorem T.size54 : HL.sizeT Try.prog 54 = some 22 := by kernel_rfl
@[go_sem] theorem T.bytes54 : HL.bytesT Try.prog 54 = some 384 := by kernel_rfl
@[go_sem] theorem T.zero54 : HL.zeroT Try.prog 54 = some (.agg #[.int .i64 0, .slice none 0 0, .int .i64 0, .slice none 0 0, .int .i64 0, .slice none 0 0, .slice none 0 0, .pointer none, .slice none 0 0, .slice none 0 0, .slice none 0 0, .slice none 0 0, .slice none 0 0, .slice none 0 0, .slice none 0 0, .slice none 0 0, .int .i64 0, .int .i64 0, .slice none 0 0, .int .i64 0, .int .i64 0, .bool false]) := by kernel_rfl
@[go_sem] theorem T.places54 : HL.placesT Try.prog 54 = some [(0, 1), (1, 1), (2, 1), (3, 1), (4, 1), (5, 1), (6, 1), (7, 15)] := by kernel_rfl
@[go_sem] theorem T.field54_0 : HL.fieldT Try.prog 54 0 = some (0, 3) := by kernel_rfl
@[go_sem] theorem T.fieldO54_0 : HL.fieldO Try.prog 54 0 = some 0 := by kernel_rfl
@[go_sem] theorem T.field54_1 : HL.fieldT Try.prog 54 1 = some (1, 22) := by kernel_rfl
@[go_sem] theorem T.fieldO54_1 : HL.fieldO Try.prog 54 1 = some 1 := by kernel_rfl
@[go_sem] theorem T.field54_2 : HL.fieldT Try.prog 54 2 = some (2, 3) := by kernel_rfl
@[go_sem] theorem T.fieldO54_2 : HL.fieldO Try.prog 54 2 = some 2 := by kernel_rfl
@[go_sem] theorem T.field54_3 : HL.fieldT Try.prog 54 3 = some (3, 42) := by kernel_rfl
@[go_sem] theorem T.fieldO54_3 : HL.fieldO Try.prog 54 3 = some 3 := by kernel_rfl
@[go_sem] theorem T.field54_4 : HL.fieldT Try.prog 54 4 = some (4, 3) := by kernel_rfl
@[go_sem] theorem T.fieldO54_4 : HL.fieldO Try.prog 54 4 = some 4 := by kernel_rfl
@[go_sem] theorem T.field54_5 : HL.fieldT Try.prog 54 5 = some (5, 40) := by kernel_rfl
@[go_sem] theorem T.fieldO54_5 : HL.fieldO Try.prog 54 5 = some 5 := by kernel_rfl
@[go_sem] theorem T.field54_6 : HL.fieldT Try.prog 54 6 = some (6, 26) := by kernel_rfl
@[go_sem] theorem T.fieldO54_6 : HL.fieldO Try.prog 54 6 = some 6 := by kernel_rfl
@[go_sem] theorem T.field54_7 : HL.fieldT Try.prog 54 7 = some (7, 53) := by kernel_rfl
@[go_sem] theorem T.fieldO54_7 : HL.fieldO Try.prog 54 7 = some 7 := by kernel_rfl
@[go_sem] theorem T.agg55 : HL.aggN Try.prog 55 = some (some 22) := by kernel_rfl
@[go_sem] theorem T.size55 : HL.sizeT Try.prog 55 = some 22 := by kernel_rfl
@[go_sem] theorem T.bytes55 : HL.bytesT Try.prog 55 = some 384 := by kernel_rfl
@[go_sem] theorem T.zero55 : HL.zeroT Try.prog 55 = some (.agg #[.int .i64 0, .slice none 0 0, .int .i64 0, .slice none 0 0, .int .i64 0, .slice none 0 0, .slice none 0 0, .pointer none, .slice none 0 0, .slice none 0 0, .slice none 0 0, .slice none 0 0, .slice none 0 0, .slice none 0 0, .slice none 0 0, .slice none 0 0, .int .i64 0, .int .i64 0, .slice none 0 0, .int .i64 0, .int .i64 0, .bool false]) := by kernel_rfl
@[go_sem] theorem T.places55 : HL.placesT Try.prog 55 = some [(0, 1), (1, 1), (2, 1), (3, 1), (4, 1), (5, 1), (6, 1), (7, 15)] := by kernel_rfl
@[go_sem] theorem T.field55_0 : HL.fieldT Try.prog 55 0 = some (0, 3) := by kernel_rfl
@[go_sem] theorem T.fieldO55_0 : HL.fieldO Try.prog 55 0 = some 0 := by kernel_rfl
@[go_sem] theorem T.field55_1 : HL.fieldT Try.prog 55 1 = some (1, 22) := by kernel_rfl
@[go_sem] theorem T.fieldO55_1 : HL.fieldO Try.prog 55 1 = some 1 := by kernel_rfl
@[go_sem] theorem T.field55_2 : HL.fieldT Try.prog 55 2 = some (2, 3) := by kernel_rfl
@[go_sem] theorem T.fieldO55_2 : HL.fieldO Try.prog 55 2 = some 2 := by kernel_rfl
@[go_sem] theorem T.field55_3 : HL.fieldT Try.prog 55 3 = some (3, 42) := by kernel_rfl
@[go_sem] theorem T.fieldO55_3 : HL.fieldO Try.prog 55 3 = some 3 := by kernel_rfl
@[go_sem] theorem T.field55_4 : HL.fieldT Try.prog 55 4 = some (4, 3) := by kernel_rfl
@[go_sem] theorem T.fieldO55_4 : HL.fieldO Try.prog 55 4 = some 4 := by kernel_rfl
@[go_sem] theorem T.field55_5 : HL.fieldT Try.prog 55 5 = some (5, 40) := by kernel_rfl
@[go_sem] theorem T.fieldO55_5 : HL.fieldO Try.prog 55 5 = some 5 := by kernel_rfl
@[go_sem] theorem T.field55_6 : HL.fieldT Try.prog 55 6 = some (6, 26) := by kernel_rfl
@[go_sem] theorem T.fieldO55_6 : HL.fieldO Try.prog 55 6 = some 6 := by kernel_rfl
@[go_sem] theorem T.field55_7 : HL.fieldT Try.prog 55 7 = some (7, 53) := by kernel_rfl
@[go_sem] theorem T.fieldO55_7 : HL.fieldO Try.prog 55 7 = some 7 := by kernel_rfl
@[go_sem] theorem T.agg57 : HL.aggN Try.prog 57 = some none := by kernel_rfl
@[go_sem] theorem T.size57 : HL.sizeT Try.prog 57 = some 1 := by kernel_rfl
@[go_sem] theorem T.bytes57 : HL.bytesT Try.prog 57 = some 8 := by kernel_rfl
@[go_sem] theorem T.zero57 : HL.zeroT Try.prog 57 = some (.nilFunc) := by kernel_rfl
@[go_sem] theorem T.agg59 : HL.aggN Try.prog 59 = some none := by kernel_rfl
@[go_sem] theorem T.size59 : HL.sizeT Try.prog 59 = some 1 := by kernel_rfl
@[go_sem] theorem T.bytes59 : HL.bytesT Try.prog 59 = some 8 := by kernel_rfl
@[go_sem] theorem T.zero59 : HL.zeroT Try.prog 59 = some (.nilFunc) := by kernel_rfl
@[go_sem] theorem T.agg60 : HL.aggN Try.prog 60 = some none := by kernel_rfl
@[go_sem] theorem T.size60 : HL.sizeT Try.prog 60 = some 1 := by kernel_rfl
@[go_sem] theorem T.bytes60 : HL.bytesT Try.prog 60 = some 8 := by kernel_rfl
@[go_sem] theorem T.zero60 : HL.zeroT Try.prog 60 = some (.nilFunc) := by kernel_rfl
@[go_sem] theorem T.agg61 : HL.aggN Try.prog 61 = some none := by kernel_rfl
@[go_sem] theorem T.size61 : HL.sizeT Try.prog 61 = some 1 := by kernel_rfl
@[go_sem] theorem T.bytes61 : HL.bytesT Try.prog 61 = some 8 := by kernel_rfl
@[go_sem] theorem T.zero61 : HL.zeroT Try.prog 61 = some (.nilFunc) := by kernel_rfl
@[go_sem] theorem T.agg62 : HL.aggN Try.prog 62 = some none := by kernel_rfl
@[go_sem] theorem T.size62 : HL.sizeT Try.prog 62 = some 1 := by kernel_rfl
@[go_sem] theorem T.bytes62 : HL.bytesT Try.prog 62 = some 8 := by kernel_rfl
@[go_sem] theorem T.zero62 : HL.zeroT Try.prog 62 = some (.nilFunc) := by kernel_rfl
@[go_sem] theorem T.agg64 : HL.aggN Try.prog 64 = some none := by kernel_rfl
@[go_sem] theorem T.size64 : HL.sizeT Try.prog 64 = some 1 := by kernel_rfl
@[go_sem] theorem T.bytes64 : HL.bytesT Try.prog 64 = some 8 := by kernel_rfl
@[go_sem] theorem T.zero64 : HL.zeroT Try.prog 64 = some (.nilFunc) := by kernel_rfl
@[go_sem] theorem T.agg65 : HL.aggN Try.prog 65 = some none := by kernel_rfl
@[go_sem] theorem T.size65 : HL.sizeT Try.prog 65 = some 1 := by kernel_rfl
@[go_sem] theorem T.bytes65 : HL.bytesT Try.prog 65 = some 8 := by kernel_rfl
@[go_sem] theorem T.zero65 : HL.zeroT Try.prog 65 = some (.nilFunc) := by kernel_rfl
@[go_sem] theorem T.agg66 : HL.aggN Try.prog 66 = some none := by kernel_rfl
@[go_sem] theorem T.size66 : HL.sizeT Try.prog 66 = some 1 := by kernel_rfl
@[go_sem] theorem T.bytes66 : HL.bytesT Try.prog 66 = some 8 := by kernel_rfl
@[go_sem] theorem T.zero66 : HL.zeroT Try.prog 66 = some (.map none) := by kernel_rfl
@[go_sem] theorem T.agg67 : HL.aggN Try.prog 67 = some none := by kernel_rfl
@[go_sem] theorem T.size67 : HL.sizeT Try.prog 67 = some 1 := by kernel_rfl
@[go_sem] theorem T.bytes67 : HL.bytesT Try.prog 67 = some 8 := by kernel_rfl
@[go_sem] theorem T.zero67 : HL.zeroT Try.prog 67 = some (.pointer none) := by kernel_rfl
@[go_sem] theorem T.agg68 : HL.aggN Try.prog 68 = some none := by kernel_rfl
@[go_sem] theorem T.size68 : HL.sizeT Try.prog 68 = some 1 := by kernel_rfl
@[go_sem] theorem T.bytes68 : HL.bytesT Try.prog 68 = some 8 := by kernel_rfl
@[go_sem] theorem T.zero68 : HL.zeroT Try.prog 68 = some (.nilFunc) := by kernel_rfl
@[go_sem] theorem T.agg69 : HL.aggN Try.prog 69 = some none := by kernel_rfl
@[go_sem] theorem T.size69 : HL.sizeT Try.prog 69 = some 1 := by kernel_rfl
@[go_sem] theorem T.bytes69 : HL.bytesT Try.prog 69 = some 8 := by kernel_rfl
@[go_sem] theorem T.zero69 : HL.zeroT Try.prog 69 = some (.nilFunc) := by kernel_rfl
@[go_sem] theorem T.agg70 : HL.aggN Try.prog 70 = some none := by kernel_rfl
@[go_sem] theorem T.size70 : HL.sizeT Try.prog 70 = some 1 := by kernel_rfl
@[go_sem] theorem T.bytes70 : HL.bytesT Try.prog 70 = some 8 := by kernel_rfl
@[go_sem] theorem T.zero70 : HL.zeroT Try.prog 70 = some (.nilFunc) := by kernel_rfl
@[go_sem] theorem T.agg71 : HL.aggN Try.prog 71 = some none := by kernel_rfl
@[go_sem] theorem T.size71 : HL.sizeT Try.prog 71 = some 1 := by kernel_rfl
@[go_sem] theorem T.bytes71 : HL.bytesT Try.prog 71 = some 8 := by kernel_rfl
@[go_sem] theorem T.zero71 : HL.zeroT Try.prog 71 = some (.nilFunc) := by kernel_rfl
@[go_sem] theorem T.agg72 : HL.aggN Try.prog 72 = some none := by kernel_rfl
@[go_sem] theorem T.size72 : HL.sizeT Try.prog 72 = some 1 := by kernel_rfl
@[go_sem] theorem T.bytes72 : HL.bytesT Try.prog 72 = some 8 := by kernel_rfl
@[go_sem] theorem T.zero72 : HL.zeroT Try.prog 72 = some (.nilFunc) := by kernel_rfl
@[go_sem] theorem T.agg73 : HL.aggN Try.prog 73 = some none := by kernel_rfl
@[go_sem] theorem T.size73 : HL.sizeT Try.prog 73 = some 1 := by kernel_rfl
@[go_sem] theorem T.bytes73 : HL.bytesT Try.prog 73 = some 8 := by kernel_rfl
@[go_sem] theorem T.zero73 : HL.zeroT Try.prog 73 = some (.nilFunc) := by kernel_rfl
@[go_sem] theorem T.agg74 : HL.aggN Try.prog 74 = some none := by kernel_rfl
@[go_sem] theorem T.size74 : HL.sizeT Try.prog 74 = some 1 := by kernel_rfl
@[go_sem] theorem T.bytes74 : HL.bytesT Try.prog 74 = some 8 := by kernel_rfl
@[go_sem] theorem T.zero74 : HL.zeroT Try.prog 74 = some (.nilFunc) := by kernel_rfl
@[go_sem] theorem T.agg75 : HL.aggN Try.prog 75 = some none := by kernel_rfl
@[go_sem] theorem T.size75 : HL.sizeT Try.prog 75 = some 1 := by kernel_rfl
@[go_sem] theorem T.bytes75 : HL.bytesT Try.prog 75 = some 24 := by kernel_rfl
@[go_sem] theorem T.zero75 : HL.zeroT Try.prog 75 = some (.slice none 0 0) := by kernel_rfl
@[go_sem] theorem T.elem75 : HL.elemT Try.prog 75 = some 2 := by kernel_rfl
@[go_sem] theorem T.elemS75 : HL.elemS Try.prog 75 = some 1 := by kernel_rfl
@[go_sem] theorem T.agg76 : HL.aggN Try.prog 76 = some (some 3) := by kernel_rfl
@[go_sem] theorem T.size76 : HL.sizeT Try.prog 76 = some 3 := by kernel_rfl
@[go_sem] theorem T.bytes76 : HL.bytesT Try.prog 76 = some 72 := by kernel_rfl
@[go_sem] theorem T.zero76 : HL.zeroT Try.prog 76 = some (.agg #[.slice none 0 0, .slice none 0 0, .slice none 0 0]) := by kernel_rfl
@[go_sem] theorem T.places76 : HL.placesT Try.prog 76 = some [(0, 1), (1, 1), (2, 1)] := by kernel_rfl
@[go_sem] theorem T.field76_0 : HL.fieldT Try.prog 76 0 = some (0, 26) := by kernel_rfl
@[go_sem] theorem T.fieldO76_0 : HL.fieldO Try.prog 76 0 = some 0 := by kernel_rfl
@[go_sem] theorem T.field76_1 : HL.fieldT Try.prog 76 1 = some (1, 26) := by kernel_rfl
@[go_sem] theorem T.fieldO76_1 : HL.fieldO Try.prog 76 1 = some 1 := by kernel_rfl
@[go_sem] theorem T.field76_2 : HL.fieldT Try.prog 76 2 = some (2, 75) := by kernel_rfl
@[go_sem] theorem T.fieldO76_2 : HL.fieldO Try.prog 76 2 = some 2 := by kernel_rfl
@[go_sem] theorem T.agg77 : HL.aggN Try.prog 77 = some (some 3) := by kernel_rfl
@[go_sem] theorem T.size77 : HL.sizeT Try.prog 77 = some 3 := by kernel_rfl
@[go_sem] theorem T.bytes77 : HL.bytesT Try.prog 77 = some 72 := by kernel_rfl
@[go_sem] theorem T.zero77 : HL.zeroT Try.prog 77 = some (.agg #[.slice none 0 0, .slice none 0 0, .slice none 0 0]) := by kernel_rfl
@[go_sem] theorem T.places77 : HL.placesT Try.prog 77 = some [(0, 1), (1, 1), (2, 1)] := by kernel_rfl
@[go_sem] theorem T.field77_0 : HL.fieldT Try.prog 77 0 = some (0, 26) := by kernel_rfl
@[go_sem] theorem T.fieldO77_0 : HL.fieldO Try.prog 77 0 = some 0 := by kernel_rfl
@[go_sem] theorem T.field77_1 : HL.fieldT Try.prog 77 1 = some (1, 26) := by kernel_rfl
@[go_sem] theorem T.fieldO77_1 : HL.fieldO Try.prog 77 1 = some 1 := by kernel_rfl
@[go_sem] theorem T.field77_2 : HL.fieldT Try.prog 77 2 = some (2, 75) := by kernel_rfl
@[go_sem] theorem T.fieldO77_2 : HL.fieldO Try.prog 77 2 = some 2 := by kernel_rfl
@[go_sem] theorem T.agg78 : HL.aggN Try.prog 78 = some none := by kernel_rfl
@[go_sem] theorem T.size78 : HL.sizeT Try.prog 78 = some 1 := by kernel_rfl
@[go_sem] theorem T.bytes78 : HL.bytesT Try.prog 78 = some 1 := by kernel_rfl
@[go_sem] theorem T.zero78 : HL.zeroT Try.prog 78 = some (.int .i8 0) := by kernel_rfl
@[go_sem] theorem T.agg79 : HL.aggN Try.prog 79 = some none := by kernel_rfl
@[go_sem] theorem T.size79 : HL.sizeT Try.prog 79 = some 1 := by kernel_rfl
@[go_sem] theorem T.bytes79 : HL.bytesT Try.prog 79 = some 8 := by kernel_rfl
@[go_sem] theorem T.zero79 : HL.zeroT Try.prog 79 = some (.nilFunc) := by kernel_rfl
@[go_sem] theorem T.agg80 : HL.aggN Try.prog 80 = some (some 3) := by kernel_rfl
@[go_sem] theorem T.size80 : HL.sizeT Try.prog 80 = some 3 := by kernel_rfl
@[go_sem] theorem T.bytes80 : HL.bytesT Try.prog 80 = some 40 := by kernel_rfl
@[go_sem] theorem T.zero80 : HL.zeroT Try.prog 80 = some (.agg #[.slice none 0 0, .int .i64 0, .bool false]) := by kernel_rfl
@[go_sem] theorem T.places80 : HL.placesT Try.prog 80 = some [(0, 1), (1, 1), (2, 1)] := by kernel_rfl
@[go_sem] theorem T.field80_0 : HL.fieldT Try.prog 80 0 = some (0, 26) := by kernel_rfl
@[go_sem] theorem T.fieldO80_0 : HL.fieldO Try.prog 80 0 = some 0 := by kernel_rfl
@[go_sem] theorem T.field80_1 : HL.fieldT Try.prog 80 1 = some (1, 3) := by kernel_rfl
@[go_sem] theorem T.fieldO80_1 : HL.fieldO Try.prog 80 1 = some 1 := by kernel_rfl
@[go_sem] theorem T.field80_2 : HL.fieldT Try.prog 80 2 = some (2, 4) := by kernel_rfl
@[go_sem] theorem T.fieldO80_2 : HL.fieldO Try.prog 80 2 = some 2 := by kernel_rfl
@[go_sem] theorem T.agg81 : HL.aggN Try.prog 81 = some (some 3) := by kernel_rfl
@[go_sem] theorem T.size81 : HL.sizeT Try.prog 81 = some 3 := by kernel_rfl
@[go_sem] theorem T.bytes81 : HL.bytesT Try.prog 81 = some 40 := by kernel_rfl
@[go_sem] theorem T.zero81 : HL.zeroT Try.prog 81 = some (.agg #[.slice none 0 0, .int .i64 0, .bool false]) := by kernel_rfl
@[go_sem] theorem T.places81 : HL.placesT Try.prog 81 = some [(0, 1), (1, 1), (2, 1)] := by kernel_rfl
@[go_sem] theorem T.field81_0 : HL.fieldT Try.prog 81 0 = some (0, 26) := by kernel_rfl
@[go_sem] theorem T.fieldO81_0 : HL.fieldO Try.prog 81 0 = some 0 := by kernel_rfl
@[go_sem] theorem T.field81_1 : HL.fieldT Try.prog 81 1 = some (1, 3) := by kernel_rfl
@[go_sem] theorem T.fieldO81_1 : HL.fieldO Try.prog 81 1 = some 1 := by kernel_rfl
@[go_sem] theorem T.field81_2 : HL.fieldT Try.prog 81 2 = some (2, 4) := by kernel_rfl
@[go_sem] theorem T.fieldO81_2 : HL.fieldO Try.prog 81 2 = some 2 := by kernel_rfl
@[go_sem] theorem T.agg82 : HL.aggN Try.prog 82 = some none := by kernel_rfl
@[go_sem] theorem T.size82 : HL.sizeT Try.prog 82 = some 1 := by kernel_rfl
@[go_sem] theorem T.bytes82 : HL.bytesT Try.prog 82 = some 8 := by kernel_rfl
@[go_sem] theorem T.zero82 : HL.zeroT Try.prog 82 = some (.pointer none) := by kernel_rfl
@[go_sem] theorem T.agg83 : HL.aggN Try.prog 83 = some none := by kernel_rfl
@[go_sem] theorem T.size83 : HL.sizeT Try.prog 83 = some 1 := by kernel_rfl
@[go_sem] theorem T.bytes83 : HL.bytesT Try.prog 83 = some 8 := by kernel_rfl
@[go_sem] theorem T.zero83 : HL.zeroT Try.prog 83 = some (.nilFunc) := by kernel_rfl
@[go_sem] theorem T.agg85 : HL.aggN Try.prog 85 = some none := by kernel_rfl
@[go_sem] theorem T.size85 : HL.sizeT Try.prog 85 = some 1 := by kernel_rfl
@[go_sem] theorem T.bytes85 : HL.bytesT Try.prog 85 = some 8 := by kernel_rfl
@[go_sem] theorem T.zero85 : HL.zeroT Try.prog 85 = some (.nilFunc) := by kernel_rfl
@[go_sem] theorem T.agg86 : HL.aggN Try.prog 86 = some none := by kernel_rfl
@[go_sem] theorem T.size86 : HL.sizeT Try.prog 86 = some 1 := by kernel_rfl
@[go_sem] theorem T.bytes86 : HL.bytesT Try.prog 86 = some 8 := by kernel_rfl
@[go_sem] theorem T.zero86 : HL.zeroT Try.prog 86 = some (.nilFunc) := by kernel_rfl
@[go_sem] theorem T.agg87 : HL.aggN Try.prog 87 = some none := by kernel_rfl
@[go_sem] theorem T.size87 : HL.sizeT Try.prog 87 = some 1 := by kernel_rfl
@[go_sem] theorem T.bytes87 : HL.bytesT Try.prog 87 = some 8 := by kernel_rfl
@[go_sem] theorem T.zero87 : HL.zeroT Try.prog 87 = some (.nilFunc) := by kernel_rfl
@[go_sem] theorem T.agg88 : HL.aggN Try.prog 88 = some none := by kernel_rfl
@[go_sem] theorem T.size88 : HL.sizeT Try.prog 88 = some 1 := by kernel_rfl
@[go_sem] theorem T.bytes88 : HL.bytesT Try.prog 88 = some 8 := by kernel_rfl
@[go_sem] theorem T.zero88 : HL.zeroT Try.prog 88 = some (.nilFunc) := by kernel_rfl
@[go_sem] theorem T.agg89 : HL.aggN Try.prog 89 = some none := by kernel_rfl
@[go_sem] theorem T.size89 : HL.sizeT Try.prog 89 = some 1 := by kernel_rfl
@[go_sem] theorem T.bytes89 : HL.bytesT Try.prog 89 = some 8 := by kernel_rfl
@[go_sem] theorem T.zero89 : HL.zeroT Try.prog 89 = some (.nilFunc) := by kernel_rfl
@[go_sem] theorem T.agg91 : HL.aggN Try.prog 91 = some none := by kernel_rfl
@[go_sem] theorem T.size91 : HL.sizeT Try.prog 91 = some 1 := by kernel_rfl
@[go_sem] theorem T.bytes91 : HL.bytesT Try.prog 91 = some 8 := by kernel_rfl
@[go_sem] theorem T.zero91 : HL.zeroT Try.prog 91 = some (.nilFunc) := by kernel_rfl
@[go_sem] theorem T.agg92 : HL.aggN Try.prog 92 = some none := by kernel_rfl
@[go_sem] theorem T.size92 : HL.sizeT Try.prog 92 = some 1 := by kernel_rfl
@[go_sem] theorem T.bytes92 : HL.bytesT Try.prog 92 = some 8 := by kernel_rfl
@[go_sem] theorem T.zero92 : HL.zeroT Try.prog 92 = some (.nilFunc) := by kernel_rfl
@[go_sem] theorem T.agg93 : HL.aggN Try.prog 93 = some none := by kernel_rfl
@[go_sem] theorem T.size93 : HL.sizeT Try.prog 93 = some 1 := by kernel_rfl
@[go_sem] theorem T.bytes93 : HL.bytesT Try.prog 93 = some 8 := by kernel_rfl
@[go_sem] theorem T.zero93 : HL.zeroT Try.prog 93 = some (.nilFunc) := by kernel_rfl
@[go_sem] theorem T.agg94 : HL.aggN Try.prog 94 = some none := by kernel_rfl
@[go_sem] theorem T.size94 : HL.sizeT Try.prog 94 = some 1 := by kernel_rfl
@[go_sem] theorem T.bytes94 : HL.bytesT Try.prog 94 = some 8 := by kernel_rfl
@[go_sem] theorem T.zero94 : HL.zeroT Try.prog 94 = some (.nilFunc) := by kernel_rfl
@[go_sem] theorem T.agg95 : HL.aggN Try.prog 95 = some none := by kernel_rfl
@[go_sem] theorem T.size95 : HL.sizeT Try.prog 95 = some 1 := by kernel_rfl
@[go_sem] theorem T.bytes95 : HL.bytesT Try.prog 95 = some 8 := by kernel_rfl
@[go_sem] theorem T.zero95 : HL.zeroT Try.prog 95 = some (.int .u64 0) := by kernel_rfl
@[go_sem] theorem T.agg96 : HL.aggN Try.prog 96 = some none := by kernel_rfl
@[go_sem] theorem T.size96 : HL.sizeT Try.prog 96 = some 1 := by kernel_rfl
@[go_sem] theorem T.bytes96 : HL.bytesT Try.prog 96 = some 8 := by kernel_rfl
@[go_sem] theorem T.zero96 : HL.zeroT Try.prog 96 = some (.nilFunc) := by kernel_rfl
@[go_sem] theorem T.agg97 : HL.aggN Try.prog 97 = some none := by kernel_rfl
@[go_sem] theorem T.size97 : HL.sizeT Try.prog 97 = some 1 := by kernel_rfl
@[go_sem] theorem T.bytes97 : HL.bytesT Try.prog 97 = some 8 := by kernel_rfl
@[go_sem] theorem T.zero97 : HL.zeroT Try.prog 97 = some (.nilFunc) := by kernel_rfl
@[go_sem] theorem T.agg98 : HL.aggN Try.prog 98 = some none := by kernel_rfl
@[go_sem] theorem T.size98 : HL.sizeT Try.prog 98 = some 1 := by kernel_rfl
@[go_sem] theorem T.bytes98 : HL.bytesT Try.prog 98 = some 8 := by kernel_rfl
@[go_sem] theorem T.zero98 : HL.zeroT Try.prog 98 = some (.nilFunc) := by kernel_rfl
@[go_sem] theorem T.agg99 : HL.aggN Try.prog 99 = some none := by kernel_rfl
@[go_sem] theorem T.size99 : HL.sizeT Try.prog 99 = some 1 := by kernel_rfl
@[go_sem] theorem T.bytes99 : HL.bytesT Try.prog 99 = some 8 := by kernel_rfl
@[go_sem] theorem T.zero99 : HL.zeroT Try.prog 99 = some (.nilFunc) := by kernel_rfl
@[go_sem] theorem T.agg100 : HL.aggN Try.prog 100 = some none := by kernel_rfl
@[go_sem] theorem T.size100 : HL.sizeT Try.prog 100 = some 1 := by kernel_rfl
@[go_sem] theorem T.bytes100 : HL.bytesT Try.prog 100 = some 8 := by kernel_rfl
@[go_sem] theorem T.zero100 : HL.zeroT Try.prog 100 = some (.nilFunc) := by kernel_rfl
@[go_sem] theorem T.agg101 : HL.aggN Try.prog 101 = some none := by kernel_rfl
@[go_sem] theorem T.size101 : HL.sizeT Try.prog 101 = some 1 := by kernel_rfl
@[go_sem] theorem T.bytes101 : HL.bytesT Try.prog 101 = some 8 := by kernel_rfl
@[go_sem] theorem T.zero101 : HL.zeroT Try.prog 101 = some (.int .i64 0) := by kernel_rfl
@[go_sem] theorem T.agg103 : HL.aggN Try.prog 103 = some none := by kernel_rfl
@[go_sem] theorem T.size103 : HL.sizeT Try.prog 103 = some 1 := by kernel_rfl
@[go_sem] theorem T.bytes103 : HL.bytesT Try.prog 103 = some 8 := by kernel_rfl
@[go_sem] theorem T.zero103 : HL.zeroT Try.prog 103 = some (.nilFunc) := by kernel_rfl
@[go_sem] theorem T.agg104 : HL.aggN Try.prog 104 = some none := by kernel_rfl
@[go_sem] theorem T.size104 : HL.sizeT Try.prog 104 = some 1 := by kernel_rfl
@[go_sem] theorem T.bytes104 : HL.bytesT Try.prog 104 = some 8 := by kernel_rfl
@[go_sem] theorem T.zero104 : HL.zeroT Try.prog 104 = some (.nilFunc) := by kernel_rfl
@[go_sem] theorem T.agg105 : HL.aggN Try.prog 105 = some none := by kernel_rfl
@[go_sem] theorem T.size105 : HL.sizeT Try.prog 105 = some 1 := by kernel_rfl
@[go_sem] theorem T.bytes105 : HL.bytesT Try.prog 105 = some 8 := by kernel_rfl
@[go_sem] theorem T.zero105 : HL.zeroT Try.prog 105 = some (.nilFunc) := by kernel_rfl
@[go_sem] theorem T.agg106 : HL.aggN Try.prog 106 = some none := by kernel_rfl
@[go_sem] theorem T.size106 : HL.sizeT Try.prog 106 = some 1 := by kernel_rfl
@[go_sem] theorem T.bytes106 : HL.bytesT Try.prog 106 = some 8 := by kernel_rfl
@[go_sem] theorem T.zero106 : HL.zeroT Try.prog 106 = some (.nilFunc) := by kernel_rfl
@[go_sem] theorem T.agg107 : HL.aggN Try.prog 107 = some none := by kernel_rfl
@[go_sem] theorem T.size107 : HL.sizeT Try.prog 107 = some 1 := by kernel_rfl
@[go_sem] theorem T.bytes107 : HL.bytesT Try.prog 107 = some 8 := by kernel_rfl
@[go_sem] theorem T.zero107 : HL.zeroT Try.prog 107 = some (.nilFunc) := by kernel_rfl
@[go_sem] theorem T.agg108 : HL.aggN Try.prog 108 = some none := by kernel_rfl
@[go_sem] theorem T.size108 : HL.sizeT Try.prog 108 = some 1 := by kernel_rfl
@[go_sem] theorem T.bytes108 : HL.bytesT Try.prog 108 = some 4 := by kernel_rfl
@[go_sem] theorem T.zero108 : HL.zeroT Try.prog 108 = some (.int .u32 0) := by kernel_rfl
@[go_sem] theorem T.agg109 : HL.aggN Try.prog 109 = some none := by kernel_rfl
@[go_sem] theorem T.size109 : HL.sizeT Try.prog 109 = some 1 := by kernel_rfl
@[go_sem] theorem T.bytes109 : HL.bytesT Try.prog 109 = some 8 := by kernel_rfl
@[go_sem] theorem T.zero109 : HL.zeroT Try.prog 109 = some (.nilFunc) := by kernel_rfl
@[go_sem] theorem T.agg110 : HL.aggN Try.prog 110 = some none := by kernel_rfl
@[go_sem] theorem T.size110 : HL.sizeT Try.prog 110 = some 1 := by kernel_rfl
@[go_sem] theorem T.bytes110 : HL.bytesT Try.prog 110 = some 8 := by kernel_rfl
@[go_sem] theorem T.zero110 : HL.zeroT Try.prog 110 = some (.int .u64 0) := by kernel_rfl
@[go_sem] theorem T.agg111 : HL.aggN Try.prog 111 = some none := by kernel_rfl
@[go_sem] theorem T.size111 : HL.sizeT Try.prog 111 = some 1 := by kernel_rfl
@[go_sem] theorem T.bytes111 : HL.bytesT Try.prog 111 = some 8 := by kernel_rfl
@[go_sem] theorem T.zero111 : HL.zeroT Try.prog 111 = some (.nilFunc) := by kernel_rfl
@[go_sem] theorem T.agg112 : HL.aggN Try.prog 112 = some none := by kernel_rfl
@[go_sem] theorem T.size112 : HL.sizeT Try.prog 112 = some 1 := by kernel_rfl
@[go_sem] theorem T.bytes112 : HL.bytesT Try.prog 112 = some 8 := by kernel_rfl
@[go_sem] theorem T.zero112 : HL.zeroT Try.prog 112 = some (.nilFunc) := by kernel_rfl
@[go_sem] theorem T.agg113 : HL.aggN Try.prog 113 = some none := by kernel_rfl
@[go_sem] theorem T.size113 : HL.sizeT Try.prog 113 = some 1 := by kernel_rfl
@[go_sem] theorem T.bytes113 : HL.bytesT Try.prog 113 = some 8 := by kernel_rfl
@[go_sem] theorem T.zero113 : HL.zeroT Try.prog 113 = some (.nilFunc) := by kernel_rfl
@[go_sem] theorem T.agg114 : HL.aggN Try.prog 114 = some none := by kernel_rfl
@[go_sem] theorem T.size114 : HL.sizeT Try.prog 114 = some 1 := by kernel_rfl
@[go_sem] theorem T.bytes114 : HL.bytesT Try.prog 114 = some 8 := by kernel_rfl
@[go_sem] theorem T.zero114 : HL.zeroT Try.prog 114 = some (.int .u64 0) := by kernel_rfl
@[go_sem] theorem T.agg115 : HL.aggN Try.prog 115 = some none := by kernel_rfl
@[go_sem] theorem T.size115 : HL.sizeT Try.prog 115 = some 1 := by kernel_rfl
@[go_sem] theorem T.bytes115 : HL.bytesT Try.prog 115 = some 8 := by kernel_rfl
@[go_sem] theorem T.zero115 : HL.zeroT Try.prog 115 = some (.nilFunc) := by kernel_rfl
@[go_sem] theorem T.agg116 : HL.aggN Try.prog 116 = some none := by kernel_rfl
@[go_sem] theorem T.size116 : HL.sizeT Try.prog 116 = some 1 := by kernel_rfl
@[go_sem] theorem T.bytes116 : HL.bytesT Try.prog 116 = some 8 := by kernel_rfl
@[go_sem] theorem T.zero116 : HL.zeroT Try.prog 116 = some (.nilFunc) := by kernel_rfl
@[go_sem] theorem T.agg117 : HL.aggN Try.prog 117 = some none := by kernel_rfl
@[go_sem] theorem T.size117 : HL.sizeT Try.prog 117 = some 1 := by kernel_rfl
@[go_sem] theorem T.bytes117 : HL.bytesT Try.prog 117 = some 8 := by kernel_rfl
@[go_sem] theorem T.zero117 : HL.zeroT Try.prog 117 = some (.nilFunc) := by kernel_rfl
@[go_sem] theorem T.agg118 : HL.aggN Try.prog 118 = some none := by kernel_rfl
@[go_sem] theorem T.size118 : HL.sizeT Try.prog 118 = some 1 := by kernel_rfl
@[go_sem] theorem T.bytes118 : HL.bytesT Try.prog 118 = some 8 := by kernel_rfl
@[go_sem] theorem T.zero118 : HL.zeroT Try.prog 118 = some (.pointer none) := by kernel_rfl
@[go_sem] theorem T.agg119 : HL.aggN Try.prog 119 = some none := by kernel_rfl
@[go_sem] theorem T.size119 : HL.sizeT Try.prog 119 = some 1 := by kernel_rfl
@[go_sem] theorem T.bytes119 : HL.bytesT Try.prog 119 = some 8 := by kernel_rfl
@[go_sem] theorem T.zero119 : HL.zeroT Try.prog 119 = some (.nilFunc) := by kernel_rfl
@[go_sem] theorem T.agg120 : HL.aggN Try.prog 120 = some none := by kernel_rfl
@[go_sem] theorem T.size120 : HL.sizeT Try.prog 120 = some 1 := by kernel_rfl
@[go_sem] theorem T.bytes120 : HL.bytesT Try.prog 120 = some 8 := by kernel_rfl
@[go_sem] theorem T.zero120 : HL.zeroT Try.prog 120 = some (.pointer none) := by kernel_rfl
@[go_sem] theorem T.agg122 : HL.aggN Try.prog 122 = some none := by kernel_rfl
@[go_sem] theorem T.size122 : HL.sizeT Try.prog 122 = some 1 := by kernel_rfl
@[go_sem] theorem T.bytes122 : HL.bytesT Try.prog 122 = some 8 := by kernel_rfl
@[go_sem] theorem T.zero122 : HL.zeroT Try.prog 122 = some (.nilFunc) := by kernel_rfl
@[go_sem] theorem T.agg123 : HL.aggN Try.prog 123 = some none := by kernel_rfl
@[go_sem] theorem T.size123 : HL.sizeT Try.prog 123 = some 1 := by kernel_rfl
@[go_sem] theorem T.bytes123 : HL.bytesT Try.prog 123 = some 8 := by kernel_rfl
@[go_sem] theorem T.zero123 : HL.zeroT Try.prog 123 = some (.nilFunc) := by kernel_rfl
@[go_sem] theorem T.agg124 : HL.aggN Try.prog 124 = some (some 4) := by kernel_rfl
@[go_sem] theorem T.size124 : HL.sizeT Try.prog 124 = some 4 := by kernel_rfl
@[go_sem] theorem T.bytes124 : HL.bytesT Try.prog 124 = some 40 := by kernel_rfl
@[go_sem] theorem T.zero124 : HL.zeroT Try.prog 124 = some (.agg #[.pointer none, .pointer none, .pointer none, .string ⟨#[]⟩]) := by kernel_rfl
@[go_sem] theorem T.places124 : HL.placesT Try.prog 124 = some [(0, 1), (1, 1), (2, 1), (3, 1)] := by kernel_rfl
@[go_sem] theorem T.field124_0 : HL.fieldT Try.prog 124 0 = some (0, 17) := by kernel_rfl
@[go_sem] theorem T.fieldO124_0 : HL.fieldO Try.prog 124 0 = some 0 := by kernel_rfl
@[go_sem] theorem T.field124_1 : HL.fieldT Try.prog 124 1 = some (1, 17) := by kernel_rfl
@[go_sem] theorem T.fieldO124_1 : HL.fieldO Try.prog 124 1 = some 1 := by kernel_rfl
@[go_sem] theorem T.field124_2 : HL.fieldT Try.prog 124 2 = some (2, 17) := by kernel_rfl
@[go_sem] theorem T.fieldO124_2 : HL.fieldO Try.prog 124 2 = some 2 := by kernel_rfl
@[go_sem] theorem T.field124_3 : HL.fieldT Try.prog 124 3 = some (3, 9) := by kernel_rfl
@[go_sem] theorem T.fieldO124_3 : HL.fieldO Try.prog 124 3 = some 3 := by kernel_rfl
@[go_sem] theorem T.agg125 : HL.aggN Try.prog 125 = some (some 4) := by kernel_rfl
@[go_sem] theorem T.size125 : HL.sizeT Try.prog 125 = some 4 := by kernel_rfl
@[go_sem] theorem T.bytes125 : HL.bytesT Try.prog 125 = some 40 := by kernel_rfl
@[go_sem] theorem T.zero125 : HL.zeroT Try.prog 125 = some (.agg #[.pointer none, .pointer none, .pointer none, .string ⟨#[]⟩]) := by kernel_rfl
@[go_sem] theorem T.places125 : HL.placesT Try.prog 125 = some [(0, 1), (1, 1), (2, 1), (3, 1)] := by kernel_rfl
@[go_sem] theorem T.field125_0 : HL.fieldT Try.prog 125 0 = some (0, 17) := by kernel_rfl
@[go_sem] theorem T.fieldO125_0 : HL.fieldO Try.prog 125 0 = some 0 := by kernel_rfl
@[go_sem] theorem T.field125_1 : HL.fieldT Try.prog 125 1 = some (1, 17) := by kernel_rfl
@[go_sem] theorem T.fieldO125_1 : HL.fieldO Try.prog 125 1 = some 1 := by kernel_rfl
@[go_sem] theorem T.field125_2 : HL.fieldT Try.prog 125 2 = some (2, 17) := by kernel_rfl
@[go_sem] theorem T.fieldO125_2 : HL.fieldO Try.prog 125 2 = some 2 := by kernel_rfl
@[go_sem] theorem T.field125_3 : HL.fieldT Try.prog 125 3 = some (3, 9) := by kernel_rfl
@[go_sem] theorem T.fieldO125_3 : HL.fieldO Try.prog 125 3 = some 3 := by kernel_rfl
@[go_sem] theorem T.agg126 : HL.aggN Try.prog 126 = some (some 0) := by kernel_rfl
@[go_sem] theorem T.size126 : HL.sizeT Try.prog 126 = some 0 := by kernel_rfl
@[go_sem] theorem T.bytes126 : HL.bytesT Try.prog 126 = some 0 := by kernel_rfl
@[go_sem] theorem T.zero126 : HL.zeroT Try.prog 126 = some (.agg #[]) := by kernel_rfl
@[go_sem] theorem T.places126 : HL.placesT Try.prog 126 = none := by kernel_rfl
@[go_sem] theorem T.arr126 : HL.arrT Try.prog 126 = some (0, 16) := by kernel_rfl
@[go_sem] theorem T.arrS126 : HL.arrS Try.prog 126 = some (0, 1) := by kernel_rfl
@[go_sem] theorem T.agg127 : HL.aggN Try.prog 127 = some (some 0) := by kernel_rfl
@[go_sem] theorem T.size127 : HL.sizeT Try.prog 127 = some 0 := by kernel_rfl
@[go_sem] theorem T.bytes127 : HL.bytesT Try.prog 127 = some 0 := by kernel_rfl
@[go_sem] theorem T.zero127 : HL.zeroT Try.prog 127 = some (.agg #[]) := by kernel_rfl
@[go_sem] theorem T.places127 : HL.placesT Try.prog 127 = some [(0, 0)] := by kernel_rfl
@[go_sem] theorem T.field127_0 : HL.fieldT Try.prog 127 0 = some (0, 126) := by kernel_rfl
@[go_sem] theorem T.agg128 : HL.aggN Try.prog 128 = some (some 0) := by kernel_rfl
@[go_sem] theorem T.size128 : HL.sizeT Try.prog 128 = some 0 := by kernel_rfl
@[go_sem] theorem T.bytes128 : HL.bytesT Try.prog 128 = some 0 := by kernel_rfl
@[go_sem] theorem T.zero128 : HL.zeroT Try.prog 128 = some (.agg #[]) := by kernel_rfl
@[go_sem] theorem T.places128 : HL.placesT Try.prog 128 = some [(0, 0)] := by kernel_rfl
@[go_sem] theorem T.field128_0 : HL.fieldT Try.prog 128 0 = some (0, 126) := by kernel_rfl
@[go_sem] theorem T.agg129 : HL.aggN Try.prog 129 = some none := by kernel_rfl
@[go_sem] theorem T.size129 : HL.sizeT Try.prog 129 = some 1 := by kernel_rfl
@[go_sem] theorem T.bytes129 : HL.bytesT Try.prog 129 = some 8 := by kernel_rfl
@[go_sem] theorem T.zero129 : HL.zeroT Try.prog 129 = some (.nilFunc) := by kernel_rfl
@[go_sem] theorem T.agg130 : HL.aggN Try.prog 130 = some none := by kernel_rfl
@[go_sem] theorem T.size130 : HL.sizeT Try.prog 130 = some 1 := by kernel_rfl
@[go_sem] theorem T.bytes130 : HL.bytesT Try.prog 130 = some 1 := by kernel_rfl
@[go_sem] theorem T.zero130 : HL.zeroT Try.prog 130 = some (.int .u8 0) := by kernel_rfl
@[go_sem] theorem T.agg131 : HL.aggN Try.prog 131 = some none := by kernel_rfl
@[go_sem] theorem T.size131 : HL.sizeT Try.prog 131 = some 1 := by kernel_rfl
@[go_sem] theorem T.bytes131 : HL.bytesT Try.prog 131 = some 1 := by kernel_rfl
@[go_sem] theorem T.zero131 : HL.zeroT Try.prog 131 = some (.int .u8 0) := by kernel_rfl
@[go_sem] theorem T.agg132 : HL.aggN Try.prog 132 = some none := by kernel_rfl
@[go_sem] theorem T.size132 : HL.sizeT Try.prog 132 = some 1 := by kernel_rfl
@[go_sem] theorem T.bytes132 : HL.bytesT Try.prog 132 = some 8 := by kernel_rfl
@[go_sem] theorem T.zero132 : HL.zeroT Try.prog 132 = some (.nilFunc) := by kernel_rfl
@[go_sem] theorem T.agg133 : HL.aggN Try.prog 133 = some none := by kernel_rfl
@[go_sem] theorem T.size133 : HL.sizeT Try.prog 133 = some 1 := by kernel_rfl
@[go_sem] theorem T.bytes133 : HL.bytesT Try.prog 133 = some 8 := by kernel_rfl
@[go_sem] theorem T.zero133 : HL.zeroT Try.prog 133 = some (.pointer none) := by kernel_rfl
@[go_sem] theorem T.agg134 : HL.aggN Try.prog 134 = some none := by kernel_rfl
@[go_sem] theorem T.size134 : HL.sizeT Try.prog 134 = some 1 := by kernel_rfl
@[go_sem] theorem T.bytes134 : HL.bytesT Try.prog 134 = some 4 := by kernel_rfl
@[go_sem] theorem T.zero134 : HL.zeroT Try.prog 134 = some (.int .i32 0) := by kernel_rfl
@[go_sem] theorem T.agg135 : HL.aggN Try.prog 135 = some none := by kernel_rfl
@[go_sem] theorem T.size135 : HL.sizeT Try.prog 135 = some 1 := by kernel_rfl
@[go_sem] theorem T.bytes135 : HL.bytesT Try.prog 135 = some 4 := by kernel_rfl
@[go_sem] theorem T.zero135 : HL.zeroT Try.prog 135 = some (.int .i32 0) := by kernel_rfl
@[go_sem] theorem T.agg136 : HL.aggN Try.prog 136 = some (some 11) := by kernel_rfl
@[go_sem] theorem T.size136 : HL.sizeT Try.prog 136 = some 11 := by kernel_rfl
@[go_sem] theorem T.bytes136 : HL.bytesT Try.prog 136 = some 48 := by kernel_rfl
@[go_sem] theorem T.zero136 : HL.zeroT Try.prog 136 = some (.agg #[.int .u64 0, .int .u64 0, .int .u32 0, .int .u8 0, .int .u8 0, .int .u8 0, .int .u8 0, .nilFunc, .pointer none, .int .i32 0, .int .i32 0]) := by kernel_rfl
@[go_sem] theorem T.places136 : HL.placesT Try.prog 136 = some [(0, 1), (1, 1), (2, 1), (3, 1), (4, 1), (5, 1), (6, 1), (7, 1), (8, 1), (9, 1), (10, 1)] := by kernel_rfl
@[go_sem] theorem T.field136_0 : HL.fieldT Try.prog 136 0 = some (0, 12) := by kernel_rfl
@[go_sem] theorem T.fieldO136_0 : HL.fieldO Try.prog 136 0 = some 0 := by kernel_rfl
@[go_sem] theorem T.field136_1 : HL.fieldT Try.prog 136 1 = some (1, 12) := by kernel_rfl
@[go_sem] theorem T.fieldO136_1 : HL.fieldO Try.prog 136 1 = some 1 := by kernel_rfl
@[go_sem] theorem T.field136_2 : HL.fieldT Try.prog 136 2 = some (2, 108) := by kernel_rfl
@[go_sem] theorem T.fieldO136_2 : HL.fieldO Try.prog 136 2 = some 2 := by kernel_rfl
@[go_sem] theorem T.field136_3 : HL.fieldT Try.prog 136 3 = some (3, 130) := by kernel_rfl
@[go_sem] theorem T.fieldO136_3 : HL.fieldO Try.prog 136 3 = some 3 := by kernel_rfl
@[go_sem] theorem T.field136_4 : HL.fieldT Try.prog 136 4 = some (4, 5) := by kernel_rfl
@[go_sem] theorem T.fieldO136_4 : HL.fieldO Try.prog 136 4 = some 4 := by kernel_rfl
@[go_sem] theorem T.field136_5 : HL.fieldT Try.prog 136 5 = some (5, 5) := by kernel_rfl
@[go_sem] theorem T.fieldO136_5 : HL.fieldO Try.prog 136 5 = some 5 := by kernel_rfl
@[go_sem] theorem T.field136_6 : HL.fieldT Try.prog 136 6 = some (6, 131) := by kernel_rfl
@[go_sem] theorem T.fieldO136_6 : HL.fieldO Try.prog 136 6 = some 6 := by kernel_rfl
@[go_sem] theorem T.field136_7 : HL.fieldT Try.prog 136 7 = some (7, 132) := by kernel_rfl
@[go_sem] theorem T.fieldO136_7 : HL.fieldO Try.prog 136 7 = some 7 := by kernel_rfl
@[go_sem] theorem T.field136_8 : HL.fieldT Try.prog 136 8 = some (8, 133) := by kernel_rfl
@[go_sem] theorem T.fieldO136_8 : HL.fieldO Try.prog 136 8 = some 8 := by kernel_rfl
@[go_sem] theorem T.field136_9 : HL.fieldT Try.prog 136 9 = some (9, 134) := by kernel_rfl
@[go_sem] theorem T.fieldO136_9 : HL.fieldO Try.prog 136 9 = some 9 := by kernel_rfl
@[go_sem] theorem T.field136_10 : HL.fieldT Try.prog 136 10 = some (10, 135) := by kernel_rfl
@[go_sem] theorem T.fieldO136_10 : HL.fieldO Try.prog 136 10 = some 10 := by kernel_rfl
@[go_sem] theorem T.agg137 : HL.aggN Try.prog 137 = some (some 11) := by kernel_rfl
@[go_sem] theorem T.size137 : HL.sizeT Try.prog 137 = some 11 := by kernel_rfl
@[go_sem] theorem T.bytes137 : HL.bytesT Try.prog 137 = some 48 := by kernel_rfl
@[go_sem] theorem T.zero137 : HL.zeroT Try.prog 137 = some (.agg #[.int .u64 0, .int .u64 0, .int .u32 0, .int .u8 0, .int .u8 0, .int .u8 0, .int .u8 0, .nilFunc, .pointer none, .int .i32 0, .int .i32 0]) := by kernel_rfl
@[go_sem] theorem T.places137 : HL.placesT Try.prog 137 = some [(0, 1), (1, 1), (2, 1), (3, 1), (4, 1), (5, 1), (6, 1), (7, 1), (8, 1), (9, 1), (10, 1)] := by kernel_rfl
@[go_sem] theorem T.field137_0 : HL.fieldT Try.prog 137 0 = some (0, 12) := by kernel_rfl
@[go_sem] theorem T.fieldO137_0 : HL.fieldO Try.prog 137 0 = some 0 := by kernel_rfl
@[go_sem] theorem T.field137_1 : HL.fieldT Try.prog 137 1 = some (1, 12) := by kernel_rfl
@[go_sem] theorem T.fieldO137_1 : HL.fieldO Try.prog 137 1 = some 1 := by kernel_rfl
@[go_sem] theorem T.field137_2 : HL.fieldT Try.prog 137 2 = some (2, 108) := by kernel_rfl
@[go_sem] theorem T.fieldO137_2 : HL.fieldO Try.prog 137 2 = some 2 := by kernel_rfl
@[go_sem] theorem T.field137_3 : HL.fieldT Try.prog 137 3 = some (3, 130) := by kernel_rfl
@[go_sem] theorem T.fieldO137_3 : HL.fieldO Try.prog 137 3 = some 3 := by kernel_rfl
@[go_sem] theorem T.field137_4 : HL.fieldT Try.prog 137 4 = some (4, 5) := by kernel_rfl
@[go_sem] theorem T.fieldO137_4 : HL.fieldO Try.prog 137 4 = some 4 := by kernel_rfl
@[go_sem] theorem T.field137_5 : HL.fieldT Try.prog 137 5 = some (5, 5) := by kernel_rfl
@[go_sem] theorem T.fieldO137_5 : HL.fieldO Try.prog 137 5 = some 5 := by kernel_rfl
@[go_sem] theorem T.field137_6 : HL.fieldT Try.prog 137 6 = some (6, 131) := by kernel_rfl
@[go_sem] theorem T.fieldO137_6 : HL.fieldO Try.prog 137 6 = some 6 := by kernel_rfl
@[go_sem] theorem T.field137_7 : HL.fieldT Try.prog 137 7 = some (7, 132) := by kernel_rfl
@[go_sem] theorem T.fieldO137_7 : HL.fieldO Try.prog 137 7 = some 7 := by kernel_rfl
@[go_sem] theorem T.field137_8 : HL.fieldT Try.prog 137 8 = some (8, 133) := by kernel_rfl
@[go_sem] theorem T.fieldO137_8 : HL.fieldO Try.prog 137 8 = some 8 := by kernel_rfl
@[go_sem] theorem T.field137_9 : HL.fieldT Try.prog 137 9 = some (9, 134) := by kernel_rfl
@[go_sem] theorem T.fieldO137_9 : HL.fieldO Try.prog 137 9 = some 9 := by kernel_rfl
@[go_sem] theorem T.field137_10 : HL.fieldT Try.prog 137 10 = some (10, 135) := by kernel_rfl
@[go_sem] theorem T.fieldO137_10 : HL.fieldO Try.prog 137 10 = some 10 := by kernel_rfl
@[go_sem] theorem T.agg138 : HL.aggN Try.prog 138 = some none := by kernel_rfl
@[go_sem] theorem T.size138 : HL.sizeT Try.prog 138 = some 1 := by kernel_rfl
@[go_sem] theorem T.bytes138 : HL.bytesT Try.prog 138 = some 8 := by kernel_rfl
@[go_sem] theorem T.zero138 : HL.zeroT Try.prog 138 = some (.pointer none) := by kernel_rfl
theorem T.el22 : HL.ElT Try.prog 22 26 1 24 (.slice none 0 0) := ⟨T.elem22, T.size26, T.bytes26, T.zero26⟩
@[go_sem] theorem T.bs22_1 {H : HL.Heap} {a0 : Option Addr} {l0 c0 : Nat} : HL.buildSliceV Try.prog H 22 1 [(0, .slice a0 l0 c0)] = some (.slice (some ⟨H.size, 0, none⟩) 1 1, H.push (.cells #[.slice a0 l0 c0] 26)) := HL.bs_one T.elem22 T.size26 T.zero26 rfl
@[go_sem] theorem T.bs22_2 {H : HL.Heap} {a0 : Option Addr} {l0 c0 : Nat} {a1 : Option Addr} {l1 c1 : Nat} : HL.buildSliceV Try.prog H 22 2 [(0, .slice a0 l0 c0), (1, .slice a1 l1 c1)] = some (.slice (some ⟨H.size, 0, none⟩) 2 2, H.push (.cells #[.slice a0 l0 c0, .slice a1 l1 c1] 26)) := HL.bs_two T.elem22 T.size26 T.zero26 rfl rfl
@[go_sem] theorem T.bs22_3 {H : HL.Heap} {a0 : Option Addr} {l0 c0 : Nat} {a1 : Option Addr} {l1 c1 : Nat} {a2 : Option Addr} {l2 c2 : Nat} : HL.buildSliceV Try.prog H 22 3 [(0, .slice a0 l0 c0), (1, .slice a1 l1 c1), (2, .slice a2 l2 c2)] = some (.slice (some ⟨H.size, 0, none⟩) 3 3, H.push (.cells #[.slice a0 l0 c0, .slice a1 l1 c1, .slice a2 l2 c2] 26)) := HL.bs_three T.elem22 T.size26 T.zero26 rfl rfl rfl
@[go_sem] theorem T.bs22_4 {H : HL.Heap} {a0 : Option Addr} {l0 c0 : Nat} {a1 : Option Addr} {l1 c1 : Nat} {a2 : Option Addr} {l2 c2 : Nat} {a3 : Option Addr} {l3 c3 : Nat} : HL.buildSliceV Try.prog H 22 4 [(0, .slice a0 l0 c0), (1, .slice a1 l1 c1), (2, .slice a2 l2 c2), (3, .slice a3 l3 c3)] = some (.slice (some ⟨H.size, 0, none⟩) 4 4, H.push (.cells #[.slice a0 l0 c0, .slice a1 l1 c1, .slice a2 l2 c2, .slice a3 l3 c3] 26)) := HL.bs_four T.elem22 T.size26 T.zero26 rfl rfl rfl rfl
@[go_sem] theorem T.bs22_0 {H : HL.Heap} : HL.buildSliceV Try.prog H 22 0 [] = some (.slice (some ⟨H.size, 0, none⟩) 0 0, H.push (.cells #[] 26)) := HL.bs_zero T.elem22 T.size26 T.zero26
theorem T.el26 : HL.ElT Try.prog 26 3 1 8 (.int .i64 0) := ⟨T.elem26, T.size3, T.bytes3, T.zero3⟩
@[go_sem] theorem T.bs26_1 {H : HL.Heap} {k0 : IntKind} {n0 : Int} : HL.buildSliceV Try.prog H 26 1 [(0, .int k0 n0)] = some (.slice (some ⟨H.size, 0, none⟩) 1 1, H.push (.cells #[.int k0 n0] 3)) := HL.bs_one T.elem26 T.size3 T.zero3 rfl
@[go_sem] theorem T.bs26_2 {H : HL.Heap} {k0 : IntKind} {n0 : Int} {k1 : IntKind} {n1 : Int} : HL.buildSliceV Try.prog H 26 2 [(0, .int k0 n0), (1, .int k1 n1)] = some (.slice (some ⟨H.size, 0, none⟩) 2 2, H.push (.cells #[.int k0 n0, .int k1 n1] 3)) := HL.bs_two T.elem26 T.size3 T.zero3 rfl rfl
@[go_sem] theorem T.bs26_3 {H : HL.Heap} {k0 : IntKind} {n0 : Int} {k1 : IntKind} {n1 : Int} {k2 : IntKind} {n2 : Int} : HL.buildSliceV Try.prog H 26 3 [(0, .int k0 n0), (1, .int k1 n1), (2, .int k2 n2)] = some (.slice (some ⟨H.size, 0, none⟩) 3 3, H.push (.cells #[.int k0 n0, .int k1 n1, .int k2 n2] 3)) := HL.bs_three T.elem26 T.size3 T.zero3 rfl rfl rfl
@[go_sem] theorem T.bs26_4 {H : HL.Heap} {k0 : IntKind} {n0 : Int} {k1 : IntKind} {n1 : Int} {k2 : IntKind} {n2 : Int} {k3 : IntKind} {n3 : Int} : HL.buildSliceV Try.prog H 26 4 [(0, .int k0 n0), (1, .int k1 n1), (2, .int k2 n2), (3, .int k3 n3)] = some (.slice (some ⟨H.size, 0, none⟩) 4 4, H.push (.cells #[.int k0 n0, .int k1 n1, .int k2 n2, .int k3 n3] 3)) := HL.bs_four T.elem26 T.size3 T.zero3 rfl rfl rfl rfl
@[go_sem] theorem T.bs26_0 {H : HL.Heap} : HL.buildSliceV Try.prog H 26 0 [] = some (.slice (some ⟨H.size, 0, none⟩) 0 0, H.push (.cells #[] 3)) := HL.bs_zero T.elem26 T.size3 T.zero3
theorem T.el40 : HL.ElT Try.prog 40 4 1 1 (.bool false) := ⟨T.elem40, T.size4, T.bytes4, T.zero4⟩
@[go_sem] theorem T.bs40_1 {H : HL.Heap} {n0 : Bool} : HL.buildSliceV Try.prog H 40 1 [(0, .bool n0)] = some (.slice (some ⟨H.size, 0, none⟩) 1 1, H.push (.cells #[.bool n0] 4)) := HL.bs_one T.elem40 T.size4 T.zero4 rfl
@[go_sem] theorem T.bs40_2 {H : HL.Heap} {n0 : Bool} {n1 : Bool} : HL.buildSliceV Try.prog H 40 2 [(0, .bool n0), (1, .bool n1)] = some (.slice (some ⟨H.size, 0, none⟩) 2 2, H.push (.cells #[.bool n0, .bool n1] 4)) := HL.bs_two T.elem40 T.size4 T.zero4 rfl rfl
@[go_sem] theorem T.bs40_3 {H : HL.Heap} {n0 : Bool} {n1 : Bool} {n2 : Bool} : HL.buildSliceV Try.prog H 40 3 [(0, .bool n0), (1, .bool n1), (2, .bool n2)] = some (.slice (some ⟨H.size, 0, none⟩) 3 3, H.push (.cells #[.bool n0, .bool n1, .bool n2] 4)) := HL.bs_three T.elem40 T.size4 T.zero4 rfl rfl rfl
@[go_sem] theorem T.bs40_4 {H : HL.Heap} {n0 : Bool} {n1 : Bool} {n2 : Bool} {n3 : Bool} : HL.buildSliceV Try.prog H 40 4 [(0, .bool n0), (1, .bool n1), (2, .bool n2), (3, .bool n3)] = some (.slice (some ⟨H.size, 0, none⟩) 4 4, H.push (.cells #[.bool n0, .bool n1, .bool n2, .bool n3] 4)) := HL.bs_four T.elem40 T.size4 T.zero4 rfl rfl rfl rfl
@[go_sem] theorem T.bs40_0 {H : HL.Heap} : HL.buildSliceV Try.prog H 40 0 [] = some (.slice (some ⟨H.size, 0, none⟩) 0 0, H.push (.cells #[] 4)) := HL.bs_zero T.elem40 T.size4 T.zero4
theorem T.el42 : HL.ElT Try.prog 42 45 2 32 (.agg #[.bool false, .slice none 0 0]) := ⟨T.elem42, T.size45, T.bytes45, T.zero45⟩
@[go_sem] theorem T.bs42_0 {H : HL.Heap} : HL.buildSliceV Try.prog H 42 0 [] = some (.slice (some ⟨H.size, 0, none⟩) 0 0, H.push (.cells #[] 45)) := HL.bs_zero T.elem42 T.size45 T.zero45
theorem T.el49 : HL.ElT Try.prog 49 51 1 24 (.slice none 0 0) := ⟨T.elem49, T.size51, T.bytes51, T.zero51⟩
@[go_sem] theorem T.bs49_1 {H : HL.Heap} {a0 : Option Addr} {l0 c0 : Nat} : HL.buildSliceV Try.prog H 49 1 [(0, .slice a0 l0 c0)] = some (.slice (some ⟨H.size, 0, none⟩) 1 1, H.push (.cells #[.slice a0 l0 c0] 51)) := HL.bs_one T.elem49 T.size51 T.zero51 rfl
@[go_sem] theorem T.bs49_2 {H : HL.Heap} {a0 : Option Addr} {l0 c0 : Nat} {a1 : Option Addr} {l1 c1 : Nat} : HL.buildSliceV Try.prog H 49 2 [(0, .slice a0 l0 c0), (1, .slice a1 l1 c1)] = some (.slice (some ⟨H.size, 0, none⟩) 2 2, H.push (.cells #[.slice a0 l0 c0, .slice a1 l1 c1] 51)) := HL.bs_two T.elem49 T.size51 T.zero51 rfl rfl
@[go_sem] theorem T.bs49_3 {H : HL.Heap} {a0 : Option Addr} {l0 c0 : Nat} {a1 : Option Addr} {l1 c1 : Nat} {a2 : Option Addr} {l2 c2 : Nat} : HL.buildSliceV Try.prog H 49 3 [(0, .slice a0 l0 c0), (1, .slice a1 l1 c1), (2, .slice a2 l2 c2)] = some (.slice (some ⟨H.size, 0, none⟩) 3 3, H.push (.cells #[.slice a0 l0 c0, .slice a1 l1 c1, .slice a2 l2 c2] 51)) := HL.bs_three T.elem49 T.size51 T.zero51 rfl rfl rfl
@[go_sem] theorem T.bs49_4 {H : HL.Heap} {a0 : Option Addr} {l0 c0 : Nat} {a1 : Option Addr} {l1 c1 : Nat} {a2 : Option Addr} {l2 c2 : Nat} {a3 : Option Addr} {l3 c3 : Nat} : HL.buildSliceV Try.prog H 49 4 [(0, .slice a0 l0 c0), (1, .slice a1 l1 c1), (2, .slice a2 l2 c2), (3, .slice a3 l3 c3)] = some (.slice (some ⟨H.size, 0, none⟩) 4 4, H.push (.cells #[.slice a0 l0 c0, .slice a1 l1 c1, .slice a2 l2 c2, .slice a3 l3 c3] 51)) := HL.bs_four T.elem49 T.size51 T.zero51 rfl rfl rfl rfl
@[go_sem] theorem T.bs49_0 {H : HL.Heap} : HL.buildSliceV Try.prog H 49 0 [] = some (.slice (some ⟨H.size, 0, none⟩) 0 0, H.push (.cells #[] 51)) := HL.bs_zero T.elem49 T.size51 T.zero51
theorem T.el50 : HL.ElT Try.prog 50 78 1 1 (.int .i8 0) := ⟨T.elem50, T.size78, T.bytes78, T.zero78⟩
@[go_sem] theorem T.bs50_1 {H : HL.Heap} {k0 : IntKind} {n0 : Int} : HL.buildSliceV Try.prog H 50 1 [(0, .int k0 n0)] = some (.slice (some ⟨H.size, 0, none⟩) 1 1, H.push (.cells #[.int k0 n0] 78)) := HL.bs_one T.elem50 T.size78 T.zero78 rfl
@[go_sem] theorem T.bs50_2 {H : HL.Heap} {k0 : IntKind} {n0 : Int} {k1 : IntKind} {n1 : Int} : HL.buildSliceV Try.prog H 50 2 [(0, .int k0 n0), (1, .int k1 n1)] = some (.slice (some ⟨H.size, 0, none⟩) 2 2, H.push (.cells #[.int k0 n0, .int k1 n1] 78)) := HL.bs_two T.elem50 T.size78 T.zero78 rfl rfl
@[go_sem] theorem T.bs50_3 {H : HL.Heap} {k0 : IntKind} {n0 : Int} {k1 : IntKind} {n1 : Int} {k2 : IntKind} {n2 : Int} : HL.buildSliceV Try.prog H 50 3 [(0, .int k0 n0), (1, .int k1 n1), (2, .int k2 n2)] = some (.slice (some ⟨H.size, 0, none⟩) 3 3, H.push (.cells #[.int k0 n0, .int k1 n1, .int k2 n2] 78)) := HL.bs_three T.elem50 T.size78 T.zero78 rfl rfl rfl
@[go_sem] theorem T.bs50_4 {H : HL.Heap} {k0 : IntKind} {n0 : Int} {k1 : IntKind} {n1 : Int} {k2 : IntKind} {n2 : Int} {k3 : IntKind} {n3 : Int} : HL.buildSliceV Try.prog H 50 4 [(0, .int k0 n0), (1, .int k1 n1), (2, .int k2 n2), (3, .int k3 n3)] = some (.slice (some ⟨H.size, 0, none⟩) 4 4, H.push (.cells #[.int k0 n0, .int k1 n1, .int k2 n2, .int k3 n3] 78)) := HL.bs_four T.elem50 T.size78 T.zero78 rfl rfl rfl rfl
@[go_sem] theorem T.bs50_0 {H : HL.Heap} : HL.buildSliceV Try.prog H 50 0 [] = some (.slice (some ⟨H.size, 0, none⟩) 0 0, H.push (.cells #[] 78)) := HL.bs_zero T.elem50 T.size78 T.zero78
theorem T.el51 : HL.ElT Try.prog 51 67 1 8 (.pointer none) := ⟨T.elem51, T.size67, T.bytes67, T.zero67⟩
@[go_sem] theorem T.bs51_1 {H : HL.Heap} {a0 : Option Addr} : HL.buildSliceV Try.prog H 51 1 [(0, .pointer a0)] = some (.slice (some ⟨H.size, 0, none⟩) 1 1, H.push (.cells #[.pointer a0] 67)) := HL.bs_one T.elem51 T.size67 T.zero67 rfl
@[go_sem] theorem T.bs51_2 {H : HL.Heap} {a0 : Option Addr} {a1 : Option Addr} : HL.buildSliceV Try.prog H 51 2 [(0, .pointer a0), (1, .pointer a1)] = some (.slice (some ⟨H.size, 0, none⟩) 2 2, H.push (.cells #[.pointer a0, .pointer a1] 67)) := HL.bs_two T.elem51 T.size67 T.zero67 rfl rfl
@[go_sem] theorem T.bs51_3 {H : HL.Heap} {a0 : Option Addr} {a1 : Option Addr} {a2 : Option Addr} : HL.buildSliceV Try.prog H 51 3 [(0, .pointer a0), (1, .pointer a1), (2, .pointer a2)] = some (.slice (some ⟨H.size, 0, none⟩) 3 3, H.push (.cells #[.pointer a0, .pointer a1, .pointer a2] 67)) := HL.bs_three T.elem51 T.size67 T.zero67 rfl rfl rfl
@[go_sem] theorem T.bs51_4 {H : HL.Heap} {a0 : Option Addr} {a1 : Option Addr} {a2 : Option Addr} {a3 : Option Addr} : HL.buildSliceV Try.prog H 51 4 [(0, .pointer a0), (1, .pointer a1), (2, .pointer a2), (3, .pointer a3)] = some (.slice (some ⟨H.size, 0, none⟩) 4 4, H.push (.cells #[.pointer a0, .pointer a1, .pointer a2, .pointer a3] 67)) := HL.bs_four T.elem51 T.size67 T.zero67 rfl rfl rfl rfl
@[go_sem] theorem T.bs51_0 {H : HL.Heap} : HL.buildSliceV Try.prog H 51 0 [] = some (.slice (some ⟨H.size, 0, none⟩) 0 0, H.push (.cells #[] 67)) := HL.bs_zero T.elem51 T.size67 T.zero67
theorem T.el75 : HL.ElT Try.prog 75 2 1 8 (.int .i64 0) := ⟨T.elem75, T.size2, T.bytes2, T.zero2⟩
@[go_sem] theorem T.bs75_1 {H : HL.Heap} {k0 : IntKind} {n0 : Int} : HL.buildSliceV Try.prog H 75 1 [(0, .int k0 n0)] = some (.slice (some ⟨H.size, 0, none⟩) 1 1, H.push (.cells #[.int k0 n0] 2)) := HL.bs_one T.elem75 T.size2 T.zero2 rfl
@[go_sem] theorem T.bs75_2 {H : HL.Heap} {k0 : IntKind} {n0 : Int} {k1 : IntKind} {n1 : Int} : HL.buildSliceV Try.prog H 75 2 [(0, .int k0 n0), (1, .int k1 n1)] = some (.slice (some ⟨H.size, 0, none⟩) 2 2, H.push (.cells #[.int k0 n0, .int k1 n1] 2)) := HL.bs_two T.elem75 T.size2 T.zero2 rfl rfl
@[go_sem] theorem T.bs75_3 {H : HL.Heap} {k0 : IntKind} {n0 : Int} {k1 : IntKind} {n1 : Int} {k2 : IntKind} {n2 : Int} : HL.buildSliceV Try.prog H 75 3 [(0, .int k0 n0), (1, .int k1 n1), (2, .int k2 n2)] = some (.slice (some ⟨H.size, 0, none⟩) 3 3, H.push (.cells #[.int k0 n0, .int k1 n1, .int k2 n2] 2)) := HL.bs_three T.elem75 T.size2 T.zero2 rfl rfl rfl
@[go_sem] theorem T.bs75_4 {H : HL.Heap} {k0 : IntKind} {n0 : Int} {k1 : IntKind} {n1 : Int} {k2 : IntKind} {n2 : Int} {k3 : IntKind} {n3 : Int} : HL.buildSliceV Try.prog H 75 4 [(0, .int k0 n0), (1, .int k1 n1), (2, .int k2 n2), (3, .int k3 n3)] = some (.slice (some ⟨H.size, 0, none⟩) 4 4, H.push (.cells #[.int k0 n0, .int k1 n1, .int k2 n2, .int k3 n3] 2)) := HL.bs_four T.elem75 T.size2 T.zero2 rfl rfl rfl rfl
@[go_sem] theorem T.bs75_0 {H : HL.Heap} : HL.buildSliceV Try.prog H 75 0 [] = some (.slice (some ⟨H.size, 0, none⟩) 0 0, H.push (.cells #[] 2)) := HL.bs_zero T.elem75 T.size2 T.zero2
@[go_sem] theorem T.pe15 {H : HL.Heap} {xo yo : Operand} {a : Addr} : HL.binV Try.prog (HL.full H) .eql 15 xo yo (.pointer (some a)) (.pointer none) = some (.bool false) := HL.bin_ptr_eql Try.underlying15
@[go_sem] theorem T.pn15 {H : HL.Heap} {xo yo : Operand} {a : Addr} : HL.binV Try.prog (HL.full H) .neq 15 xo yo (.pointer (some a)) (.pointer none) = some (.bool true) := HL.bin_ptr_neq Try.underlying15
@[go_sem] theorem T.ne15 {H : HL.Heap} {xo yo : Operand} : HL.binV Try.prog (HL.full H) .eql 15 xo yo (.pointer none) (.pointer none) = some (.bool true) := HL.bin_nil_eql Try.underlying15
@[go_sem] theorem T.nn15 {H : HL.Heap} {xo yo : Operand} : HL.binV Try.prog (HL.full H) .neq 15 xo yo (.pointer none) (.pointer none) = some (.bool false) := HL.bin_nil_neq Try.underlying15
@[go_sem] theorem T.pe16 {H : HL.Heap} {xo yo : Operand} {a : Addr} : HL.binV Try.prog (HL.full H) .eql 16 xo yo (.pointer (some a)) (.pointer none) = some (.bool false) := HL.bin_ptr_eql Try.underlying16
@[go_sem] theorem T.pn16 {H : HL.Heap} {xo yo : Operand} {a : Addr} : HL.binV Try.prog (HL.full H) .neq 16 xo yo (.pointer (some a)) (.pointer none) = some (.bool true) := HL.bin_ptr_neq Try.underlying16
@[go_sem] theorem T.ne16 {H : HL.Heap} {xo yo : Operand} : HL.binV Try.prog (HL.full H) .eql 16 xo yo (.pointer none) (.pointer none) = some (.bool true) := HL.bin_nil_eql Try.underlying16
@[go_sem] theorem T.nn16 {H : HL.Heap} {xo yo : Operand} : HL.binV Try.prog (HL.full H) .neq 16 xo yo (.pointer none) (.pointer none) = some (.bool false) := HL.bin_nil_neq Try.underlying16
@[go_sem] theorem T.pe17 {H : HL.Heap} {xo yo : Operand} {a : Addr} : HL.binV Try.prog (HL.full H) .eql 17 xo yo (.pointer (some a)) (.pointer none) = some (.bool false) := HL.bin_ptr_eql Try.underlying17
@[go_sem] theorem T.pn17 {H : HL.Heap} {xo yo : Operand} {a : Addr} : HL.binV Try.prog (HL.full H) .neq 17 xo yo (.pointer (some a)) (.pointer none) = some (.bool true) := HL.bin_ptr_neq Try.underlying17
@[go_sem] theorem T.ne17 {H : HL.Heap} {xo yo : Operand} : HL.binV Try.prog (HL.full H) .eql 17 xo yo (.pointer none) (.pointer none) = some (.bool true) := HL.bin_nil_eql Try.underlying17
@[go_sem] theorem T.nn17 {H : HL.Heap} {xo yo : Operand} : HL.binV Try.prog (HL.full H) .neq 17 xo yo (.pointer none) (.pointer none) = some (.bool false) := HL.bin_nil_neq Try.underlying17
@[go_sem] theorem T.pe27 {H : HL.Heap} {xo yo : Operand} {a : Addr} : HL.binV Try.prog (HL.full H) .eql 27 xo yo (.pointer (some a)) (.pointer none) = some (.bool false) := HL.bin_ptr_eql Try.underlying27
@[go_sem] theorem T.pn27 {H : HL.Heap} {xo yo : Operand} {a : Addr} : HL.binV Try.prog (HL.full H) .neq 27 xo yo (.pointer (some a)) (.pointer none) = some (.bool true) := HL.bin_ptr_neq Try.underlying27
@[go_sem] theorem T.ne27 {H : HL.Heap} {xo yo : Operand} : HL.binV Try.prog (HL.full H) .eql 27 xo yo (.pointer none) (.pointer none) = some (.bool true) := HL.bin_nil_eql Try.underlying27
@[go_sem] theorem T.nn27 {H : HL.Heap} {xo yo : Operand} : HL.binV Try.prog (HL.full H) .neq 27 xo yo (.pointer none) (.pointer none) = some (.bool false) := HL.bin_nil_neq Try.underlying27
@[go_sem] theorem T.pe48 {H : HL.Heap} {xo yo : Operand} {a : Addr} : HL.binV Try.prog (HL.full H) .eql 48 xo yo (.pointer (some a)) (.pointer none) = some (.bool false) := HL.bin_ptr_eql Try.underlying48
@[go_sem] theorem T.pn48 {H : HL.Heap} {xo yo : Operand} {a : Addr} : HL.binV Try.prog (HL.full H) .neq 48 xo yo (.pointer (some a)) (.pointer none) = some (.bool true) := HL.bin_ptr_neq Try.underlying48
@[go_sem] theorem T.ne48 {H : HL.Heap} {xo yo : Operand} : HL.binV Try.prog (HL.full H) .eql 48 xo yo (.pointer none) (.pointer none) = some (.bool true) := HL.bin_nil_eql Try.underlying48
@[go_sem] theorem T.nn48 {H : HL.Heap} {xo yo : Operand} : HL.binV Try.prog (HL.full H) .neq 48 xo yo (.pointer none) (.pointer none) = some (.bool false) := HL.bin_nil_neq Try.underlying48
@[go_sem] theorem T.pe67 {H : HL.Heap} {xo yo : Operand} {a : Addr} : HL.binV Try.prog (HL.full H) .eql 67 xo yo (.pointer (some a)) (.pointer none) = some (.bool false) := HL.bin_ptr_eql Try.underlying67
@[go_sem] theorem T.pn67 {H : HL.Heap} {xo yo : Operand} {a : Addr} : HL.binV Try.prog (HL.full H) .neq 67 xo yo (.pointer (some a)) (.pointer none) = some (.bool true) := HL.bin_ptr_neq Try.underlying67
@[go_sem] theorem T.ne67 {H : HL.Heap} {xo yo : Operand} : HL.binV Try.prog (HL.full H) .eql 67 xo yo (.pointer none) (.pointer none) = some (.bool true) := HL.bin_nil_eql Try.underlying67
@[go_sem] theorem T.nn67 {H : HL.Heap} {xo yo : Operand} : HL.binV Try.prog (HL.full H) .neq 67 xo yo (.pointer none) (.pointer none) = some (.bool false) := HL.bin_nil_neq Try.underlying67
@[go_sem] theorem T.pe82 {H : HL.Heap} {xo yo : Operand} {a : Addr} : HL.binV Try.prog (HL.full H) .eql 82 xo yo (.pointer (some a)) (.pointer none) = some (.bool false) := HL.bin_ptr_eql Try.underlying82
@[go_sem] theorem T.pn82 {H : HL.Heap} {xo yo : Operand} {a : Addr} : HL.binV Try.prog (HL.full H) .neq 82 xo yo (.pointer (some a)) (.pointer none) = some (.bool true) := HL.bin_ptr_neq Try.underlying82
@[go_sem] theorem T.ne82 {H : HL.Heap} {xo yo : Operand} : HL.binV Try.prog (HL.full H) .eql 82 xo yo (.pointer none) (.pointer none) = some (.bool true) := HL.bin_nil_eql Try.underlying82
@[go_sem] theorem T.nn82 {H : HL.Heap} {xo yo : Operand} : HL.binV Try.prog (HL.full H) .neq 82 xo yo (.pointer none) (.pointer none) = some (.bool false) := HL.bin_nil_neq Try.underlying82
@[go_sem] theorem T.pe118 {H : HL.Heap} {xo yo : Operand} {a : Addr} : HL.binV Try.prog (HL.full H) .eql 118 xo yo (.pointer (some a)) (.pointer none) = some (.bool false) := HL.bin_ptr_eql Try.underlying118
@[go_sem] theorem T.pn118 {H : HL.Heap} {xo yo : Operand} {a : Addr} : HL.binV Try.prog (HL.full H) .neq 118 xo yo (.pointer (some a)) (.pointer none) = some (.bool true) := HL.bin_ptr_neq Try.underlying118
@[go_sem] theorem T.ne118 {H : HL.Heap} {xo yo : Operand} : HL.binV Try.prog (HL.full H) .eql 118 xo yo (.pointer none) (.pointer none) = some (.bool true) := HL.bin_nil_eql Try.underlying118
@[go_sem] theorem T.nn118 {H : HL.Heap} {xo yo : Operand} : HL.binV Try.prog (HL.full H) .neq 118 xo yo (.pointer none) (.pointer none) = some (.bool false) := HL.bin_nil_neq Try.underlying118
@[go_sem] theorem T.pe120 {H : HL.Heap} {xo yo : Operand} {a : Addr} : HL.binV Try.prog (HL.full H) .eql 120 xo yo (.pointer (some a)) (.pointer none) = some (.bool false) := HL.bin_ptr_eql Try.underlying120
@[go_sem] theorem T.pn120 {H : HL.Heap} {xo yo : Operand} {a : Addr} : HL.binV Try.prog (HL.full H) .neq 120 xo yo (.pointer (some a)) (.pointer none) = some (.bool true) := HL.bin_ptr_neq Try.underlying120
@[go_sem] theorem T.ne120 {H : HL.Heap} {xo yo : Operand} : HL.binV Try.prog (HL.full H) .eql 120 xo yo (.pointer none) (.pointer none) = some (.bool true) := HL.bin_nil_eql Try.underlying120
@[go_sem] theorem T.nn120 {H : HL.Heap} {xo yo : Operand} : HL.binV Try.prog (HL.full H) .neq 120 xo yo (.pointer none) (.pointer none) = some (.bool false) := HL.bin_nil_neq Try.underlying120
@[go_sem] theorem T.pe133 {H : HL.Heap} {xo yo : Operand} {a : Addr} : HL.binV Try.prog (HL.full H) .eql 133 xo yo (.pointer (some a)) (.pointer none) = some (.bool false) := HL.bin_ptr_eql Try.underlying133
@[go_sem] theorem T.pn133 {H : HL.Heap} {xo yo : Operand} {a : Addr} : HL.binV Try.prog (HL.full H) .neq 133 xo yo (.pointer (some a)) (.pointer none) = some (.bool true) := HL.bin_ptr_neq Try.underlying133
@[go_sem] theorem T.ne133 {H : HL.Heap} {xo yo : Operand} : HL.binV Try.prog (HL.full H) .eql 133 xo yo (.pointer none) (.pointer none) = some (.bool true) := HL.bin_nil_eql Try.underlying133
@[go_sem] theorem T.nn133 {H : HL.Heap} {xo yo : Operand} : HL.binV Try.prog (HL.full H) .neq 133 xo yo (.pointer none) (.pointer none) = some (.bool false) := HL.bin_nil_neq Try.underlying133
@[go_sem] theorem T.be4 {H : HL.Heap} {xo yo : Operand} {x y : Bool} : HL.binV Try.prog (HL.full H) .eql 4 xo yo (.bool x) (.bool y) = some (.bool (x == y)) := HL.bin_bool_eql Try.underlying4
@[go_sem] theorem T.bn4 {H : HL.Heap} {xo yo : Operand} {x y : Bool} : HL.binV Try.prog (HL.full H) .neq 4 xo yo (.bool x) (.bool y) = some (.bool (!(x == y))) := HL.bin_bool_neq Try.underlying4
@[go_sem] theorem T.cv2_2 {V : HL.HV} {k : IntKind} {n : Int} : HL.convV Try.prog V 2 2 (.int k n) = some (.int .i64 (IntKind.i64.wrap n)) := HL.conv_int Try.underlying2 Try.underlying2
@[go_sem] theorem T.cv2_3 {V : HL.HV} {k : IntKind} {n : Int} : HL.convV Try.prog V 2 3 (.int k n) = some (.int .i64 (IntKind.i64.wrap n)) := HL.conv_int Try.underlying2 Try.underlying3
@[go_sem] theorem T.cv2_5 {V : HL.HV} {k : IntKind} {n : Int} : HL.convV Try.prog V 2 5 (.int k n) = some (.int .u8 (IntKind.u8.wrap n)) := HL.conv_int Try.underlying2 Try.underlying5
@[go_sem] theorem T.cv2_6 {V : HL.HV} {k : IntKind} {n : Int} : HL.convV Try.prog V 2 6 (.int k n) = some (.int .u8 (IntKind.u8.wrap n)) := HL.conv_int Try.underlying2 Try.underlying6
@[go_sem] theorem T.cv2_12 {V : HL.HV} {k : IntKind} {n : Int} : HL.convV Try.prog V 2 12 (.int k n) = some (.int .u64 (IntKind.u64.wrap n)) := HL.conv_int Try.underlying2 Try.underlying12
@[go_sem] theorem T.cv2_21 {V : HL.HV} {k : IntKind} {n : Int} : HL.convV Try.prog V 2 21 (.int k n) = some (.int .i32 (IntKind.i32.wrap n)) := HL.conv_int Try.underlying2 Try.underlying21
@[go_sem] theorem T.cv2_34 {V : HL.HV} {k : IntKind} {n : Int} : HL.convV Try.prog V 2 34 (.int k n) = some (.int .i64 (IntKind.i64.wrap n)) := HL.conv_int Try.underlying2 Try.underlying34
@[go_sem] theorem T.cv2_78 {V : HL.HV} {k : IntKind} {n : Int} : HL.convV Try.prog V 2 78 (.int k n) = some (.int .i8 (IntKind.i8.wrap n)) := HL.conv_int Try.underlying2 Try.underlying78
@[go_sem] theorem T.cv2_95 {V : HL.HV} {k : IntKind} {n : Int} : HL.convV Try.prog V 2 95 (.int k n) = some (.int .u64 (IntKind.u64.wrap n)) := HL.conv_int Try.underlying2 Try.underlying95
@[go_sem] theorem T.cv2_101 {V : HL.HV} {k : IntKind} {n : Int} : HL.convV Try.prog V 2 101 (.int k n) = some (.int .i64 (IntKind.i64.wrap n)) := HL.conv_int Try.underlying2 Try.underlying101
@[go_sem] theorem T.cv2_108 {V : HL.HV} {k : IntKind} {n : Int} : HL.convV Try.prog V 2 108 (.int k n) = some (.int .u32 (IntKind.u32.wrap n)) := HL.conv_int Try.underlying2 Try.underlying108
@[go_sem] theorem T.cv2_110 {V : HL.HV} {k : IntKind} {n : Int} : HL.convV Try.prog V 2 110 (.int k n) = some (.int .u64 (IntKind.u64.wrap n)) := HL.conv_int Try.underlying2 Try.underlying110
@[go_sem] theorem T.cv2_114 {V : HL.HV} {k : IntKind} {n : Int} : HL.convV Try.prog V 2 114 (.int k n) = some (.int .u64 (IntKind.u64.wrap n)) := HL.conv_int Try.underlying2 Try.underlying114
@[go_sem] theorem T.cv2_130 {V : HL.HV} {k : IntKind} {n : Int} : HL.convV Try.prog V 2 130 (.int k n) = some (.int .u8 (IntKind.u8.wrap n)) := HL.conv_int Try.underlying2 Try.underlying130
@[go_sem] theorem T.cv2_131 {V : HL.HV} {k : IntKind} {n : Int} : HL.convV Try.prog V 2 131 (.int k n) = some (.int .u8 (IntKind.u8.wrap n)) := HL.conv_int Try.underlying2 Try.underlying131
@[go_sem] theorem T.cv2_134 {V : HL.HV} {k : IntKind} {n : Int} : HL.convV Try.prog V 2 134 (.int k n) = some (.int .i32 (IntKind.i32.wrap n)) := HL.conv_int Try.underlying2 Try.underlying134
@[go_sem] theorem T.cv2_135 {V : HL.HV} {k : IntKind} {n : Int} : HL.convV Try.prog V 2 135 (.int k n) = some (.int .i32 (IntKind.i32.wrap n)) := HL.conv_int Try.underlying2 Try.underlying135
@[go_sem] theorem T.cv3_2 {V : HL.HV} {k : IntKind} {n : Int} : HL.convV Try.prog V 3 2 (.int k n) = some (.int .i64 (IntKind.i64.wrap n)) := HL.conv_int Try.underlying3 Try.underlying2
@[go_sem] theorem T.cv3_3 {V : HL.HV} {k : IntKind} {n : Int} : HL.convV Try.prog V 3 3 (.int k n) = some (.int .i64 (IntKind.i64.wrap n)) := HL.conv_int Try.underlying3 Try.underlying3
@[go_sem] theorem T.cv3_5 {V : HL.HV} {k : IntKind} {n : Int} : HL.convV Try.prog V 3 5 (.int k n) = some (.int .u8 (IntKind.u8.wrap n)) := HL.conv_int Try.underlying3 Try.underlying5
@[go_sem] theorem T.cv3_6 {V : HL.HV} {k : IntKind} {n : Int} : HL.convV Try.prog V 3 6 (.int k n) = some (.int .u8 (IntKind.u8.wrap n)) := HL.conv_int Try.underlying3 Try.underlying6
@[go_sem] theorem T.cv3_12 {V : HL.HV} {k : IntKind} {n : Int} : HL.convV Try.prog V 3 12 (.int k n) = some (.int .u64 (IntKind.u64.wrap n)) := HL.conv_int Try.underlying3 Try.underlying12
@[go_sem] theorem T.cv3_21 {V : HL.HV} {k : IntKind} {n : Int} : HL.convV Try.prog V 3 21 (.int k n) = some (.int .i32 (IntKind.i32.wrap n)) := HL.conv_int Try.underlying3 Try.underlying21
@[go_sem] theorem T.cv3_34 {V : HL.HV} {k : IntKind} {n : Int} : HL.convV Try.prog V 3 34 (.int k n) = some (.int .i64 (IntKind.i64.wrap n)) := HL.conv_int Try.underlying3 Try.underlying34
@[go_sem] theorem T.cv3_78 {V : HL.HV} {k : IntKind} {n : Int} : HL.convV Try.prog V 3 78 (.int k n) = some (.int .i8 (IntKind.i8.wrap n)) := HL.conv_int Try.underlying3 Try.underlying78
@[go_sem] theorem T.cv3_95 {V : HL.HV} {k : IntKind} {n : Int} : HL.convV Try.prog V 3 95 (.int k n) = some (.int .u64 (IntKind.u64.wrap n)) := HL.conv_int Try.underlying3 Try.underlying95
@[go_sem] theorem T.cv3_101 {V : HL.HV} {k : IntKind} {n : Int} : HL.convV Try.prog V 3 101 (.int k n) = some (.int .i64 (IntKind.i64.wrap n)) := HL.conv_int Try.underlying3 Try.underlying101
@[go_sem] theorem T.cv3_108 {V : HL.HV} {k : IntKind} {n : Int} : HL.convV Try.prog V 3 108 (.int k n) = some (.int .u32 (IntKind.u32.wrap n)) := HL.conv_int Try.underlying3 Try.underlying108
@[go_sem] theorem T.cv3_110 {V : HL.HV} {k : IntKind} {n : Int} : HL.convV Try.prog V 3 110 (.int k n) = some (.int .u64 (IntKind.u64.wrap n)) := HL.conv_int Try.underlying3 Try.underlying110
@[go_sem] theorem T.cv3_114 {V : HL.HV} {k : IntKind} {n : Int} : HL.convV Try.prog V 3 114 (.int k n) = some (.int .u64 (IntKind.u64.wrap n)) := HL.conv_int Try.underlying3 Try.underlying114
@[go_sem] theorem T.cv3_130 {V : HL.HV} {k : IntKind} {n : Int} : HL.convV Try.prog V 3 130 (.int k n) = some (.int .u8 (IntKind.u8.wrap n)) := HL.conv_int Try.underlying3 Try.underlying130
@[go_sem] theorem T.cv3_131 {V : HL.HV} {k : IntKind} {n : Int} : HL.convV Try.prog V 3 131 (.int k n) = some (.int .u8 (IntKind.u8.wrap n)) := HL.conv_int Try.underlying3 Try.underlying131
@[go_sem] theorem T.cv3_134 {V : HL.HV} {k : IntKind} {n : Int} : HL.convV Try.prog V 3 134 (.int k n) = some (.int .i32 (IntKind.i32.wrap n)) := HL.conv_int Try.underlying3 Try.underlying134
@[go_sem] theorem T.cv3_135 {V : HL.HV} {k : IntKind} {n : Int} : HL.convV Try.prog V 3 135 (.int k n) = some (.int .i32 (IntKind.i32.wrap n)) := HL.conv_int Try.underlying3 Try.underlying135
@[go_sem] theorem T.cv5_2 {V : HL.HV} {k : IntKind} {n : Int} : HL.convV Try.prog V 5 2 (.int k n) = some (.int .i64 (IntKind.i64.wrap n)) := HL.conv_int Try.underlying5 Try.underlying2
@[go_sem] theorem T.cv5_3 {V : HL.HV} {k : IntKind} {n : Int} : HL.convV Try.prog V 5 3 (.int k n) = some (.int .i64 (IntKind.i64.wrap n)) := HL.conv_int Try.underlying5 Try.underlying3
@[go_sem] theorem T.cv5_5 {V : HL.HV} {k : IntKind} {n : Int} : HL.convV Try.prog V 5 5 (.int k n) = some (.int .u8 (IntKind.u8.wrap n)) := HL.conv_int Try.underlying5 Try.underlying5
@[go_sem] theorem T.cv5_6 {V : HL.HV} {k : IntKind} {n : Int} : HL.convV Try.prog V 5 6 (.int k n) = some (.int .u8 (IntKind.u8.wrap n)) := HL.conv_int Try.underlying5 Try.underlying6
@[go_sem] theorem T.cv5_12 {V : HL.HV} {k : IntKind} {n : Int} : HL.convV Try.prog V 5 12 (.int k n) = some (.int .u64 (IntKind.u64.wrap n)) := HL.conv_int Try.underlying5 Try.underlying12
@[go_sem] theorem T.cv5_21 {V : HL.HV} {k : IntKind} {n : Int} : HL.convV Try.prog V 5 21 (.int k n) = some (.int .i32 (IntKind.i32.wrap n)) := HL.conv_int Try.underlying5 Try.underlying21
@[go_sem] theorem T.cv5_34 {V : HL.HV} {k : IntKind} {n : Int} : HL.convV Try.prog V 5 34 (.int k n) = some (.int .i64 (IntKind.i64.wrap n)) := HL.conv_int Try.underlying5 Try.underlying34
@[go_sem] theorem T.cv5_78 {V : HL.HV} {k : IntKind} {n : Int} : HL.convV Try.prog V 5 78 (.int k n) = some (.int .i8 (IntKind.i8.wrap n)) := HL.conv_int Try.underlying5 Try.underlying78
@[go_sem] theorem T.cv5_95 {V : HL.HV} {k : IntKind} {n : Int} : HL.convV Try.prog V 5 95 (.int k n) = some (.int .u64 (IntKind.u64.wrap n)) := HL.conv_int Try.underlying5 Try.underlying95
@[go_sem] theorem T.cv5_101 {V : HL.HV} {k : IntKind} {n : Int} : HL.convV Try.prog V 5 101 (.int k n) = some (.int .i64 (IntKind.i64.wrap n)) := HL.conv_int Try.underlying5 Try.underlying101
@[go_sem] theorem T.cv5_108 {V : HL.HV} {k : IntKind} {n : Int} : HL.convV Try.prog V 5 108 (.int k n) = some (.int .u32 (IntKind.u32.wrap n)) := HL.conv_int Try.underlying5 Try.underlying108
@[go_sem] theorem T.cv5_110 {V : HL.HV} {k : IntKind} {n : Int} : HL.convV Try.prog V 5 110 (.int k n) = some (.int .u64 (IntKind.u64.wrap n)) := HL.conv_int Try.underlying5 Try.underlying110
@[go_sem] theorem T.cv5_114 {V : HL.HV} {k : IntKind} {n : Int} : HL.convV Try.prog V 5 114 (.int k n) = some (.int .u64 (IntKind.u64.wrap n)) := HL.conv_int Try.underlying5 Try.underlying114
@[go_sem] theorem T.cv5_130 {V : HL.HV} {k : IntKind} {n : Int} : HL.convV Try.prog V 5 130 (.int k n) = some (.int .u8 (IntKind.u8.wrap n)) := HL.conv_int Try.underlying5 Try.underlying130
@[go_sem] theorem T.cv5_131 {V : HL.HV} {k : IntKind} {n : Int} : HL.convV Try.prog V 5 131 (.int k n) = some (.int .u8 (IntKind.u8.wrap n)) := HL.conv_int Try.underlying5 Try.underlying131
@[go_sem] theorem T.cv5_134 {V : HL.HV} {k : IntKind} {n : Int} : HL.convV Try.prog V 5 134 (.int k n) = some (.int .i32 (IntKind.i32.wrap n)) := HL.conv_int Try.underlying5 Try.underlying134
@[go_sem] theorem T.cv5_135 {V : HL.HV} {k : IntKind} {n : Int} : HL.convV Try.prog V 5 135 (.int k n) = some (.int .i32 (IntKind.i32.wrap n)) := HL.conv_int Try.underlying5 Try.underlying135
@[go_sem] theorem T.cv6_2 {V : HL.HV} {k : IntKind} {n : Int} : HL.convV Try.prog V 6 2 (.int k n) = some (.int .i64 (IntKind.i64.wrap n)) := HL.conv_int Try.underlying6 Try.underlying2
@[go_sem] theorem T.cv6_3 {V : HL.HV} {k : IntKind} {n : Int} : HL.convV Try.prog V 6 3 (.int k n) = some (.int .i64 (IntKind.i64.wrap n)) := HL.conv_int Try.underlying6 Try.underlying3
@[go_sem] theorem T.cv6_5 {V : HL.HV} {k : IntKind} {n : Int} : HL.convV Try.prog V 6 5 (.int k n) = some (.int .u8 (IntKind.u8.wrap n)) := HL.conv_int Try.underlying6 Try.underlying5
@[go_sem] theorem T.cv6_6 {V : HL.HV} {k : IntKind} {n : Int} : HL.convV Try.prog V 6 6 (.int k n) = some (.int .u8 (IntKind.u8.wrap n)) := HL.conv_int Try.underlying6 Try.underlying6
@[go_sem] theorem T.cv6_12 {V : HL.HV} {k : IntKind} {n : Int} : HL.convV Try.prog V 6 12 (.int k n) = some (.int .u64 (IntKind.u64.wrap n)) := HL.conv_int Try.underlying6 Try.underlying12
@[go_sem] theorem T.cv6_21 {V : HL.HV} {k : IntKind} {n : Int} : HL.convV Try.prog V 6 21 (.int k n) = some (.int .i32 (IntKind.i32.wrap n)) := HL.conv_int Try.underlying6 Try.underlying21
@[go_sem] theorem T.cv6_34 {V : HL.HV} {k : IntKind} {n : Int} : HL.convV Try.prog V 6 34 (.int k n) = some (.int .i64 (IntKind.i64.wrap n)) := HL.conv_int Try.underlying6 Try.underlying34
@[go_sem] theorem T.cv6_78 {V : HL.HV} {k : IntKind} {n : Int} : HL.convV Try.prog V 6 78 (.int k n) = some (.int .i8 (IntKind.i8.wrap n)) := HL.conv_int Try.underlying6 Try.underlying78
@[go_sem] theorem T.cv6_95 {V : HL.HV} {k : IntKind} {n : Int} : HL.convV Try.prog V 6 95 (.int k n) = some (.int .u64 (IntKind.u64.wrap n)) := HL.conv_int Try.underlying6 Try.underlying95
@[go_sem] theorem T.cv6_101 {V : HL.HV} {k : IntKind} {n : Int} : HL.convV Try.prog V 6 101 (.int k n) = some (.int .i64 (IntKind.i64.wrap n)) := HL.conv_int Try.underlying6 Try.underlying101
@[go_sem] theorem T.cv6_108 {V : HL.HV} {k : IntKind} {n : Int} : HL.convV Try.prog V 6 108 (.int k n) = some (.int .u32 (IntKind.u32.wrap n)) := HL.conv_int Try.underlying6 Try.underlying108
@[go_sem] theorem T.cv6_110 {V : HL.HV} {k : IntKind} {n : Int} : HL.convV Try.prog V 6 110 (.int k n) = some (.int .u64 (IntKind.u64.wrap n)) := HL.conv_int Try.underlying6 Try.underlying110
@[go_sem] theorem T.cv6_114 {V : HL.HV} {k : IntKind} {n : Int} : HL.convV Try.prog V 6 114 (.int k n) = some (.int .u64 (IntKind.u64.wrap n)) := HL.conv_int Try.underlying6 Try.underlying114
@[go_sem] theorem T.cv6_130 {V : HL.HV} {k : IntKind} {n : Int} : HL.convV Try.prog V 6 130 (.int k n) = some (.int .u8 (IntKind.u8.wrap n)) := HL.conv_int Try.underlying6 Try.underlying130
@[go_sem] theorem T.cv6_131 {V : HL.HV} {k : IntKind} {n : Int} : HL.convV Try.prog V 6 131 (.int k n) = some (.int .u8 (IntKind.u8.wrap n)) := HL.conv_int Try.underlying6 Try.underlying131
@[go_sem] theorem T.cv6_134 {V : HL.HV} {k : IntKind} {n : Int} : HL.convV Try.prog V 6 134 (.int k n) = some (.int .i32 (IntKind.i32.wrap n)) := HL.conv_int Try.underlying6 Try.underlying134
@[go_sem] theorem T.cv6_135 {V : HL.HV} {k : IntKind} {n : Int} : HL.convV Try.prog V 6 135 (.int k n) = some (.int .i32 (IntKind.i32.wrap n)) := HL.conv_int Try.underlying6 Try.underlying135
@[go_sem] theorem T.cv12_2 {V : HL.HV} {k : IntKind} {n : Int} : HL.convV Try.prog V 12 2 (.int k n) = some (.int .i64 (IntKind.i64.wrap n)) := HL.conv_int Try.underlying12 Try.underlying2
@[go_sem] theorem T.cv12_3 {V : HL.HV} {k : IntKind} {n : Int} : HL.convV Try.prog V 12 3 (.int k n) = some (.int .i64 (IntKind.i64.wrap n)) := HL.conv_int Try.underlying12 Try.underlying3
@[go_sem] theorem T.cv12_5 {V : HL.HV} {k : IntKind} {n : Int} : HL.convV Try.prog V 12 5 (.int k n) = some (.int .u8 (IntKind.u8.wrap n)) := HL.conv_int Try.underlying12 Try.underlying5
@[go_sem] theorem T.cv12_6 {V : HL.HV} {k : IntKind} {n : Int} : HL.convV Try.prog V 12 6 (.int k n) = some (.int .u8 (IntKind.u8.wrap n)) := HL.conv_int Try.underlying12 Try.underlying6
@[go_sem] theorem T.cv12_12 {V : HL.HV} {k : IntKind} {n : Int} : HL.convV Try.prog V 12 12 (.int k n) = some (.int .u64 (IntKind.u64.wrap n)) := HL.conv_int Try.underlying12 Try.underlying12
@[go_sem] theorem T.cv12_21 {V : HL.HV} {k : IntKind} {n : Int} : HL.convV Try.prog V 12 21 (.int k n) = some (.int .i32 (IntKind.i32.wrap n)) := HL.conv_int Try.underlying12 Try.underlying21
@[go_sem] theorem T.cv12_34 {V : HL.HV} {k : IntKind} {n : Int} : HL.convV Try.prog V 12 34 (.int k n) = some (.int .i64 (IntKind.i64.wrap n)) := HL.conv_int Try.underlying12 Try.underlying34
@[go_sem] theorem T.cv12_78 {V : HL.HV} {k : IntKind} {n : Int} : HL.convV Try.prog V 12 78 (.int k n) = some (.int .i8 (IntKind.i8.wrap n)) := HL.conv_int Try.underlying12 Try.underlying78
@[go_sem] theorem T.cv12_95 {V : HL.HV} {k : IntKind} {n : Int} : HL.convV Try.prog V 12 95 (.int k n) = some (.int .u64 (IntKind.u64.wrap n)) := HL.conv_int Try.underlying12 Try.underlying95
@[go_sem] theorem T.cv12_101 {V : HL.HV} {k : IntKind} {n : Int} : HL.convV Try.prog V 12 101 (.int k n) = some (.int .i64 (IntKind.i64.wrap n)) := HL.conv_int Try.underlying12 Try.underlying101
@[go_sem] theorem T.cv12_108 {V : HL.HV} {k : IntKind} {n : Int} : HL.convV Try.prog V 12 108 (.int k n) = some (.int .u32 (IntKind.u32.wrap n)) := HL.conv_int Try.underlying12 Try.underlying108
@[go_sem] theorem T.cv12_110 {V : HL.HV} {k : IntKind} {n : Int} : HL.convV Try.prog V 12 110 (.int k n) = some (.int .u64 (IntKind.u64.wrap n)) := HL.conv_int Try.underlying12 Try.underlying110
@[go_sem] theorem T.cv12_114 {V : HL.HV} {k : IntKind} {n : Int} : HL.convV Try.prog V 12 114 (.int k n) = some (.int .u64 (IntKind.u64.wrap n)) := HL.conv_int Try.underlying12 Try.underlying114
@[go_sem] theorem T.cv12_130 {V : HL.HV} {k : IntKind} {n : Int} : HL.convV Try.prog V 12 130 (.int k n) = some (.int .u8 (IntKind.u8.wrap n)) := HL.conv_int Try.underlying12 Try.underlying130
@[go_sem] theorem T.cv12_131 {V : HL.HV} {k : IntKind} {n : Int} : HL.convV Try.prog V 12 131 (.int k n) = some (.int .u8 (IntKind.u8.wrap n)) := HL.conv_int Try.underlying12 Try.underlying131
@[go_sem] theorem T.cv12_134 {V : HL.HV} {k : IntKind} {n : Int} : HL.convV Try.prog V 12 134 (.int k n) = some (.int .i32 (IntKind.i32.wrap n)) := HL.conv_int Try.underlying12 Try.underlying134
@[go_sem] theorem T.cv12_135 {V : HL.HV} {k : IntKind} {n : Int} : HL.convV Try.prog V 12 135 (.int k n) = some (.int .i32 (IntKind.i32.wrap n)) := HL.conv_int Try.underlying12 Try.underlying135
@[go_sem] theorem T.cv21_2 {V : HL.HV} {k : IntKind} {n : Int} : HL.convV Try.prog V 21 2 (.int k n) = some (.int .i64 (IntKind.i64.wrap n)) := HL.conv_int Try.underlying21 Try.underlying2
@[go_sem] theorem T.cv21_3 {V : HL.HV} {k : IntKind} {n : Int} : HL.convV Try.prog V 21 3 (.int k n) = some (.int .i64 (IntKind.i64.wrap n)) := HL.conv_int Try.underlying21 Try.underlying3
@[go_sem] theorem T.cv21_5 {V : HL.HV} {k : IntKind} {n : Int} : HL.convV Try.prog V 21 5 (.int k n) = some (.int .u8 (IntKind.u8.wrap n)) := HL.conv_int Try.underlying21 Try.underlying5
@[go_sem] theorem T.cv21_6 {V : HL.HV} {k : IntKind} {n : Int} : HL.convV Try.prog V 21 6 (.int k n) = some (.int .u8 (IntKind.u8.wrap n)) := HL.conv_int Try.underlying21 Try.underlying6
@[go_sem] theorem T.cv21_12 {V : HL.HV} {k : IntKind} {n : Int} : HL.convV Try.prog V 21 12 (.int k n) = some (.int .u64 (IntKind.u64.wrap n)) := HL.conv_int Try.underlying21 Try.underlying12
@[go_sem] theorem T.cv21_21 {V : HL.HV} {k : IntKind} {n : Int} : HL.convV Try.prog V 21 21 (.int k n) = some (.int .i32 (IntKind.i32.wrap n)) := HL.conv_int Try.underlying21 Try.underlying21
@[go_sem] theorem T.cv21_34 {V : HL.HV} {k : IntKind} {n : Int} : HL.convV Try.prog V 21 34 (.int k n) = some (.int .i64 (IntKind.i64.wrap n)) := HL.conv_int Try.underlying21 Try.underlying34
@[go_sem] theorem T.cv21_78 {V : HL.HV} {k : IntKind} {n : Int} : HL.convV Try.prog V 21 78 (.int k n) = some (.int .i8 (IntKind.i8.wrap n)) := HL.conv_int Try.underlying21 Try.underlying78
@[go_sem] theorem T.cv21_95 {V : HL.HV} {k : IntKind} {n : Int} : HL.convV Try.prog V 21 95 (.int k n) = some (.int .u64 (IntKind.u64.wrap n)) := HL.conv_int Try.underlying21 Try.underlying95
@[go_sem] theorem T.cv21_101 {V : HL.HV} {k : IntKind} {n : Int} : HL.convV Try.prog V 21 101 (.int k n) = some (.int .i64 (IntKind.i64.wrap n)) := HL.conv_int Try.underlying21 Try.underlying101
@[go_sem] theorem T.cv21_108 {V : HL.HV} {k : IntKind} {n : Int} : HL.convV Try.prog V 21 108 (.int k n) = some (.int .u32 (IntKind.u32.wrap n)) := HL.conv_int Try.underlying21 Try.underlying108
@[go_sem] theorem T.cv21_110 {V : HL.HV} {k : IntKind} {n : Int} : HL.convV Try.prog V 21 110 (.int k n) = some (.int .u64 (IntKind.u64.wrap n)) := HL.conv_int Try.underlying21 Try.underlying110
@[go_sem] theorem T.cv21_114 {V : HL.HV} {k : IntKind} {n : Int} : HL.convV Try.prog V 21 114 (.int k n) = some (.int .u64 (IntKind.u64.wrap n)) := HL.conv_int Try.underlying21 Try.underlying114
@[go_sem] theorem T.cv21_130 {V : HL.HV} {k : IntKind} {n : Int} : HL.convV Try.prog V 21 130 (.int k n) = some (.int .u8 (IntKind.u8.wrap n)) := HL.conv_int Try.underlying21 Try.underlying130
@[go_sem] theorem T.cv21_131 {V : HL.HV} {k : IntKind} {n : Int} : HL.convV Try.prog V 21 131 (.int k n) = some (.int .u8 (IntKind.u8.wrap n)) := HL.conv_int Try.underlying21 Try.underlying131
@[go_sem] theorem T.cv21_134 {V : HL.HV} {k : IntKind} {n : Int} : HL.convV Try.prog V 21 134 (.int k n) = some (.int .i32 (IntKind.i32.wrap n)) := HL.conv_int Try.underlying21 Try.underlying134
@[go_sem] theorem T.cv21_135 {V : HL.HV} {k : IntKind} {n : Int} : HL.convV Try.prog V 21 135 (.int k n) = some (.int .i32 (IntKind.i32.wrap n)) := HL.conv_int Try.underlying21 Try.underlying135
@[go_sem] theorem T.cv34_2 {V : HL.HV} {k : IntKind} {n : Int} : HL.convV Try.prog V 34 2 (.int k n) = some (.int .i64 (IntKind.i64.wrap n)) := HL.conv_int Try.underlying34 Try.underlying2
@[go_sem] theorem T.cv34_3 {V : HL.HV} {k : IntKind} {n : Int} : HL.convV Try.prog V 34 3 (.int k n) = some (.int .i64 (IntKind.i64.wrap n)) := HL.conv_int Try.underlying34 Try.underlying3
@[go_sem] theorem T.cv34_5 {V : HL.HV} {k : IntKind} {n : Int} : HL.convV Try.prog V 34 5 (.int k n) = some (.int .u8 (IntKind.u8.wrap n)) := HL.conv_int Try.underlying34 Try.underlying5
@[go_sem] theorem T.cv34_6 {V : HL.HV} {k : IntKind} {n : Int} : HL.convV Try.prog V 34 6 (.int k n) = some (.int .u8 (IntKind.u8.wrap n)) := HL.conv_int Try.underlying34 Try.underlying6
@[go_sem] theorem T.cv34_12 {V : HL.HV} {k : IntKind} {n : Int} : HL.convV Try.prog V 34 12 (.int k n) = some (.int .u64 (IntKind.u64.wrap n)) := HL.conv_int Try.underlying34 Try.underlying12
@[go_sem] theorem T.cv34_21 {V : HL.HV} {k : IntKind} {n : Int} : HL.convV Try.prog V 34 21 (.int k n) = some (.int .i32 (IntKind.i32.wrap n)) := HL.conv_int Try.underlying34 Try.underlying21
@[go_sem] theorem T.cv34_34 {V : HL.HV} {k : IntKind} {n : Int} : HL.convV Try.prog V 34 34 (.int k n) = some (.int .i64 (IntKind.i64.wrap n)) := HL.conv_int Try.underlying34 Try.underlying34
@[go_sem] theorem T.cv34_78 {V : HL.HV} {k : IntKind} {n : Int} : HL.convV Try.prog V 34 78 (.int k n) = some (.int .i8 (IntKind.i8.wrap n)) := HL.conv_int Try.underlying34 Try.underlying78
@[go_sem] theorem T.cv34_95 {V : HL.HV} {k : IntKind} {n : Int} : HL.convV Try.prog V 34 95 (.int k n) = some (.int .u64 (IntKind.u64.wrap n)) := HL.conv_int Try.underlying34 Try.underlying95
@[go_sem] theorem T.cv34_101 {V : HL.HV} {k : IntKind} {n : Int} : HL.convV Try.prog V 34 101 (.int k n) = some (.int .i64 (IntKind.i64.wrap n)) := HL.conv_int Try.underlying34 Try.underlying101
@[go_sem] theorem T.cv34_108 {V : HL.HV} {k : IntKind} {n : Int} : HL.convV Try.prog V 34 108 (.int k n) = some (.int .u32 (IntKind.u32.wrap n)) := HL.conv_int Try.underlying34 Try.underlying108
@[go_sem] theorem T.cv34_110 {V : HL.HV} {k : IntKind} {n : Int} : HL.convV Try.prog V 34 110 (.int k n) = some (.int .u64 (IntKind.u64.wrap n)) := HL.conv_int Try.underlying34 Try.underlying110
@[go_sem] theorem T.cv34_114 {V : HL.HV} {k : IntKind} {n : Int} : HL.convV Try.prog V 34 114 (.int k n) = some (.int .u64 (IntKind.u64.wrap n)) := HL.conv_int Try.underlying34 Try.underlying114
@[go_sem] theorem T.cv34_130 {V : HL.HV} {k : IntKind} {n : Int} : HL.convV Try.prog V 34 130 (.int k n) = some (.int .u8 (IntKind.u8.wrap n)) := HL.conv_int Try.underlying34 Try.underlying130
@[go_sem] theorem T.cv34_131 {V : HL.HV} {k : IntKind} {n : Int} : HL.convV Try.prog V 34 131 (.int k n) = some (.int .u8 (IntKind.u8.wrap n)) := HL.conv_int Try.underlying34 Try.underlying131
@[go_sem] theorem T.cv34_134 {V : HL.HV} {k : IntKind} {n : Int} : HL.convV Try.prog V 34 134 (.int k n) = some (.int .i32 (IntKind.i32.wrap n)) := HL.conv_int Try.underlying34 Try.underlying134
@[go_sem] theorem T.cv34_135 {V : HL.HV} {k : IntKind} {n : Int} : HL.convV Try.prog V 34 135 (.int k n) = some (.int .i32 (IntKind.i32.wrap n)) := HL.conv_int Try.underlying34 Try.underlying135
@[go_sem] theorem T.cv78_2 {V : HL.HV} {k : IntKind} {n : Int} : HL.convV Try.prog V 78 2 (.int k n) = some (.int .i64 (IntKind.i64.wrap n)) := HL.conv_int Try.underlying78 Try.underlying2
@[go_sem] theorem T.cv78_3 {V : HL.HV} {k : IntKind} {n : Int} : HL.convV Try.prog V 78 3 (.int k n) = some (.int .i64 (IntKind.i64.wrap n)) := HL.conv_int Try.underlying78 Try.underlying3
@[go_sem] theorem T.cv78_5 {V : HL.HV} {k : IntKind} {n : Int} : HL.convV Try.prog V 78 5 (.int k n) = some (.int .u8 (IntKind.u8.wrap n)) := HL.conv_int Try.underlying78 Try.underlying5
@[go_sem] theorem T.cv78_6 {V : HL.HV} {k : IntKind} {n : Int} : HL.convV Try.prog V 78 6 (.int k n) = some (.int .u8 (IntKind.u8.wrap n)) := HL.conv_int Try.underlying78 Try.underlying6
@[go_sem] theorem T.cv78_12 {V : HL.HV} {k : IntKind} {n : Int} : HL.convV Try.prog V 78 12 (.int k n) = some (.int .u64 (IntKind.u64.wrap n)) := HL.conv_int Try.underlying78 Try.underlying12
@[go_sem] theorem T.cv78_21 {V : HL.HV} {k : IntKind} {n : Int} : HL.convV Try.prog V 78 21 (.int k n) = some (.int .i32 (IntKind.i32.wrap n)) := HL.conv_int Try.underlying78 Try.underlying21
@[go_sem] theorem T.cv78_34 {V : HL.HV} {k : IntKind} {n : Int} : HL.convV Try.prog V 78 34 (.int k n) = some (.int .i64 (IntKind.i64.wrap n)) := HL.conv_int Try.underlying78 Try.underlying34
@[go_sem] theorem T.cv78_78 {V : HL.HV} {k : IntKind} {n : Int} : HL.convV Try.prog V 78 78 (.int k n) = some (.int .i8 (IntKind.i8.wrap n)) := HL.conv_int Try.underlying78 Try.underlying78
@[go_sem] theorem T.cv78_95 {V : HL.HV} {k : IntKind} {n : Int} : HL.convV Try.prog V 78 95 (.int k n) = some (.int .u64 (IntKind.u64.wrap n)) := HL.conv_int Try.underlying78 Try.underlying95
@[go_sem] theorem T.cv78_101 {V : HL.HV} {k : IntKind} {n : Int} : HL.convV Try.prog V 78 101 (.int k n) = some (.int .i64 (IntKind.i64.wrap n)) := HL.conv_int Try.underlying78 Try.underlying101
@[go_sem] theorem T.cv78_108 {V : HL.HV} {k : IntKind} {n : Int} : HL.convV Try.prog V 78 108 (.int k n) = some (.int .u32 (IntKind.u32.wrap n)) := HL.conv_int Try.underlying78 Try.underlying108
@[go_sem] theorem T.cv78_110 {V : HL.HV} {k : IntKind} {n : Int} : HL.convV Try.prog V 78 110 (.int k n) = some (.int .u64 (IntKind.u64.wrap n)) := HL.conv_int Try.underlying78 Try.underlying110
@[go_sem] theorem T.cv78_114 {V : HL.HV} {k : IntKind} {n : Int} : HL.convV Try.prog V 78 114 (.int k n) = some (.int .u64 (IntKind.u64.wrap n)) := HL.conv_int Try.underlying78 Try.underlying114
@[go_sem] theorem T.cv78_130 {V : HL.HV} {k : IntKind} {n : Int} : HL.convV Try.prog V 78 130 (.int k n) = some (.int .u8 (IntKind.u8.wrap n)) := HL.conv_int Try.underlying78 Try.underlying130
@[go_sem] theorem T.cv78_131 {V : HL.HV} {k : IntKind} {n : Int} : HL.convV Try.prog V 78 131 (.int k n) = some (.int .u8 (IntKind.u8.wrap n)) := HL.conv_int Try.underlying78 Try.underlying131
@[go_sem] theorem T.cv78_134 {V : HL.HV} {k : IntKind} {n : Int} : HL.convV Try.prog V 78 134 (.int k n) = some (.int .i32 (IntKind.i32.wrap n)) := HL.conv_int Try.underlying78 Try.underlying134
@[go_sem] theorem T.cv78_135 {V : HL.HV} {k : IntKind} {n : Int} : HL.convV Try.prog V 78 135 (.int k n) = some (.int .i32 (IntKind.i32.wrap n)) := HL.conv_int Try.underlying78 Try.underlying135
@[go_sem] theorem T.cv95_2 {V : HL.HV} {k : IntKind} {n : Int} : HL.convV Try.prog V 95 2 (.int k n) = some (.int .i64 (IntKind.i64.wrap n)) := HL.conv_int Try.underlying95 Try.underlying2
@[go_sem] theorem T.cv95_3 {V : HL.HV} {k : IntKind} {n : Int} : HL.convV Try.prog V 95 3 (.int k n) = some (.int .i64 (IntKind.i64.wrap n)) := HL.conv_int Try.underlying95 Try.underlying3
@[go_sem] theorem T.cv95_5 {V : HL.HV} {k : IntKind} {n : Int} : HL.convV Try.prog V 95 5 (.int k n) = some (.int .u8 (IntKind.u8.wrap n)) := HL.conv_int Try.underlying95 Try.underlying5
@[go_sem] theorem T.cv95_6 {V : HL.HV} {k : IntKind} {n : Int} : HL.convV Try.prog V 95 6 (.int k n) = some (.int .u8 (IntKind.u8.wrap n)) := HL.conv_int Try.underlying95 Try.underlying6
@[go_sem] theorem T.cv95_12 {V : HL.HV} {k : IntKind} {n : Int} : HL.convV Try.prog V 95 12 (.int k n) = some (.int .u64 (IntKind.u64.wrap n)) := HL.conv_int Try.underlying95 Try.underlying12
@[go_sem] theorem T.cv95_21 {V : HL.HV} {k : IntKind} {n : Int} : HL.convV Try.prog V 95 21 (.int k n) = some (.int .i32 (IntKind.i32.wrap n)) := HL.conv_int Try.underlying95 Try.underlying21
@[go_sem] theorem T.cv95_34 {V : HL.HV} {k : IntKind} {n : Int} : HL.convV Try.prog V 95 34 (.int k n) = some (.int .i64 (IntKind.i64.wrap n)) := HL.conv_int Try.underlying95 Try.underlying34
@[go_sem] theorem T.cv95_78 {V : HL.HV} {k : IntKind} {n : Int} : HL.convV Try.prog V 95 78 (.int k n) = some (.int .i8 (IntKind.i8.wrap n)) := HL.conv_int Try.underlying95 Try.underlying78
@[go_sem] theorem T.cv95_95 {V : HL.HV} {k : IntKind} {n : Int} : HL.convV Try.prog V 95 95 (.int k n) = some (.int .u64 (IntKind.u64.wrap n)) := HL.conv_int Try.underlying95 Try.underlying95
@[go_sem] theorem T.cv95_101 {V : HL.HV} {k : IntKind} {n : Int} : HL.convV Try.prog V 95 101 (.int k n) = some (.int .i64 (IntKind.i64.wrap n)) := HL.conv_int Try.underlying95 Try.underlying101
@[go_sem] theorem T.cv95_108 {V : HL.HV} {k : IntKind} {n : Int} : HL.convV Try.prog V 95 108 (.int k n) = some (.int .u32 (IntKind.u32.wrap n)) := HL.conv_int Try.underlying95 Try.underlying108
@[go_sem] theorem T.cv95_110 {V : HL.HV} {k : IntKind} {n : Int} : HL.convV Try.prog V 95 110 (.int k n) = some (.int .u64 (IntKind.u64.wrap n)) := HL.conv_int Try.underlying95 Try.underlying110
@[go_sem] theorem T.cv95_114 {V : HL.HV} {k : IntKind} {n : Int} : HL.convV Try.prog V 95 114 (.int k n) = some (.int .u64 (IntKind.u64.wrap n)) := HL.conv_int Try.underlying95 Try.underlying114
@[go_sem] theorem T.cv95_130 {V : HL.HV} {k : IntKind} {n : Int} : HL.convV Try.prog V 95 130 (.int k n) = some (.int .u8 (IntKind.u8.wrap n)) := HL.conv_int Try.underlying95 Try.underlying130
@[go_sem] theorem T.cv95_131 {V : HL.HV} {k : IntKind} {n : Int} : HL.convV Try.prog V 95 131 (.int k n) = some (.int .u8 (IntKind.u8.wrap n)) := HL.conv_int Try.underlying95 Try.underlying131
@[go_sem] theorem T.cv95_134 {V : HL.HV} {k : IntKind} {n : Int} : HL.convV Try.prog V 95 134 (.int k n) = some (.int .i32 (IntKind.i32.wrap n)) := HL.conv_int Try.underlying95 Try.underlying134
@[go_sem] theorem T.cv95_135 {V : HL.HV} {k : IntKind} {n : Int} : HL.convV Try.prog V 95 135 (.int k n) = some (.int .i32 (IntKind.i32.wrap n)) := HL.conv_int Try.underlying95 Try.underlying135
@[go_sem] theorem T.cv101_2 {V : HL.HV} {k : IntKind} {n : Int} : HL.convV Try.prog V 101 2 (.int k n) = some (.int .i64 (IntKind.i64.wrap n)) := HL.conv_int Try.underlying101 Try.underlying2
@[go_sem] theorem T.cv101_3 {V : HL.HV} {k : IntKind} {n : Int} : HL.convV Try.prog V 101 3 (.int k n) = some (.int .i64 (IntKind.i64.wrap n)) := HL.conv_int Try.underlying101 Try.underlying3
@[go_sem] theorem T.cv101_5 {V : HL.HV} {k : IntKind} {n : Int} : HL.convV Try.prog V 101 5 (.int k n) = some (.int .u8 (IntKind.u8.wrap n)) := HL.conv_int Try.underlying101 Try.underlying5
@[go_sem] theorem T.cv101_6 {V : HL.HV} {k : IntKind} {n : Int} : HL.convV Try.prog V 101 6 (.int k n) = some (.int .u8 (IntKind.u8.wrap n)) := HL.conv_int Try.underlying101 Try.underlying6
@[go_sem] theorem T.cv101_12 {V : HL.HV} {k : IntKind} {n : Int} : HL.convV Try.prog V 101 12 (.int k n) = some (.int .u64 (IntKind.u64.wrap n)) := HL.conv_int Try.underlying101 Try.underlying12
@[go_sem] theorem T.cv101_21 {V : HL.HV} {k : IntKind} {n : Int} : HL.convV Try.prog V 101 21 (.int k n) = some (.int .i32 (IntKind.i32.wrap n)) := HL.conv_int Try.underlying101 Try.underlying21
@[go_sem] theorem T.cv101_34 {V : HL.HV} {k : IntKind} {n : Int} : HL.convV Try.prog V 101 34 (.int k n) = some (.int .i64 (IntKind.i64.wrap n)) := HL.conv_int Try.underlying101 Try.underlying34
@[go_sem] theorem T.cv101_78 {V : HL.HV} {k : IntKind} {n : Int} : HL.convV Try.prog V 101 78 (.int k n) = some (.int .i8 (IntKind.i8.wrap n)) := HL.conv_int Try.underlying101 Try.underlying78
@[go_sem] theorem T.cv101_95 {V : HL.HV} {k : IntKind} {n : Int} : HL.convV Try.prog V 101 95 (.int k n) = some (.int .u64 (IntKind.u64.wrap n)) := HL.conv_int Try.underlying101 Try.underlying95
@[go_sem] theorem T.cv101_101 {V : HL.HV} {k : IntKind} {n : Int} : HL.convV Try.prog V 101 101 (.int k n) = some (.int .i64 (IntKind.i64.wrap n)) := HL.conv_int Try.underlying101 Try.underlying101
@[go_sem] theorem T.cv101_108 {V : HL.HV} {k : IntKind} {n : Int} : HL.convV Try.prog V 101 108 (.int k n) = some (.int .u32 (IntKind.u32.wrap n)) := HL.conv_int Try.underlying101 Try.underlying108
@[go_sem] theorem T.cv101_110 {V : HL.HV} {k : IntKind} {n : Int} : HL.convV Try.prog V 101 110 (.int k n) = some (.int .u64 (IntKind.u64.wrap n)) := HL.conv_int Try.underlying101 Try.underlying110
@[go_sem] theorem T.cv101_114 {V : HL.HV} {k : IntKind} {n : Int} : HL.convV Try.prog V 101 114 (.int k n) = some (.int .u64 (IntKind.u64.wrap n)) := HL.conv_int Try.underlying101 Try.underlying114
@[go_sem] theorem T.cv101_130 {V : HL.HV} {k : IntKind} {n : Int} : HL.convV Try.prog V 101 130 (.int k n) = some (.int .u8 (IntKind.u8.wrap n)) := HL.conv_int Try.underlying101 Try.underlying130
@[go_sem] theorem T.cv101_131 {V : HL.HV} {k : IntKind} {n : Int} : HL.convV Try.prog V 101 131 (.int k n) = some (.int .u8 (IntKind.u8.wrap n)) := HL.conv_int Try.underlying101 Try.underlying131
@[go_sem] theorem T.cv101_134 {V : HL.HV} {k : IntKind} {n : Int} : HL.convV Try.prog V 101 134 (.int k n) = some (.int .i32 (IntKind.i32.wrap n)) := HL.conv_int Try.underlying101 Try.underlying134
@[go_sem] theorem T.cv101_135 {V : HL.HV} {k : IntKind} {n : Int} : HL.convV Try.prog V 101 135 (.int k n) = some (.int .i32 (IntKind.i32.wrap n)) := HL.conv_int Try.underlying101 Try.underlying135
@[go_sem] theorem T.cv108_2 {V : HL.HV} {k : IntKind} {n : Int} : HL.convV Try.prog V 108 2 (.int k n) = some (.int .i64 (IntKind.i64.wrap n)) := HL.conv_int Try.underlying108 Try.underlying2
@[go_sem] theorem T.cv108_3 {V : HL.HV} {k : IntKind} {n : Int} : HL.convV Try.prog V 108 3 (.int k n) = some (.int .i64 (IntKind.i64.wrap n)) := HL.conv_int Try.underlying108 Try.underlying3
@[go_sem] theorem T.cv108_5 {V : HL.HV} {k : IntKind} {n : Int} : HL.convV Try.prog V 108 5 (.int k n) = some (.int .u8 (IntKind.u8.wrap n)) := HL.conv_int Try.underlying108 Try.underlying5
@[go_sem] theorem T.cv108_6 {V : HL.HV} {k : IntKind} {n : Int} : HL.convV Try.prog V 108 6 (.int k n) = some (.int .u8 (IntKind.u8.wrap n)) := HL.conv_int Try.underlying108 Try.underlying6
@[go_sem] theorem T.cv108_12 {V : HL.HV} {k : IntKind} {n : Int} : HL.convV Try.prog V 108 12 (.int k n) = some (.int .u64 (IntKind.u64.wrap n)) := HL.conv_int Try.underlying108 Try.underlying12
@[go_sem] theorem T.cv108_21 {V : HL.HV} {k : IntKind} {n : Int} : HL.convV Try.prog V 108 21 (.int k n) = some (.int .i32 (IntKind.i32.wrap n)) := HL.conv_int Try.underlying108 Try.underlying21
@[go_sem] theorem T.cv108_34 {V : HL.HV} {k : IntKind} {n : Int} : HL.convV Try.prog V 108 34 (.int k n) = some (.int .i64 (IntKind.i64.wrap n)) := HL.conv_int Try.underlying108 Try.underlying34
@[go_sem] theorem T.cv108_78 {V : HL.HV} {k : IntKind} {n : Int} : HL.convV Try.prog V 108 78 (.int k n) = some (.int .i8 (IntKind.i8.wrap n)) := HL.conv_int Try.underlying108 Try.underlying78
@[go_sem] theorem T.cv108_95 {V : HL.HV} {k : IntKind} {n : Int} : HL.convV Try.prog V 108 95 (.int k n) = some (.int .u64 (IntKind.u64.wrap n)) := HL.conv_int Try.underlying108 Try.underlying95
@[go_sem] theorem T.cv108_101 {V : HL.HV} {k : IntKind} {n : Int} : HL.convV Try.prog V 108 101 (.int k n) = some (.int .i64 (IntKind.i64.wrap n)) := HL.conv_int Try.underlying108 Try.underlying101
@[go_sem] theorem T.cv108_108 {V : HL.HV} {k : IntKind} {n : Int} : HL.convV Try.prog V 108 108 (.int k n) = some (.int .u32 (IntKind.u32.wrap n)) := HL.conv_int Try.underlying108 Try.underlying108
@[go_sem] theorem T.cv108_110 {V : HL.HV} {k : IntKind} {n : Int} : HL.convV Try.prog V 108 110 (.int k n) = some (.int .u64 (IntKind.u64.wrap n)) := HL.conv_int Try.underlying108 Try.underlying110
@[go_sem] theorem T.cv108_114 {V : HL.HV} {k : IntKind} {n : Int} : HL.convV Try.prog V 108 114 (.int k n) = some (.int .u64 (IntKind.u64.wrap n)) := HL.conv_int Try.underlying108 Try.underlying114
@[go_sem] theorem T.cv108_130 {V : HL.HV} {k : IntKind} {n : Int} : HL.convV Try.prog V 108 130 (.int k n) = some (.int .u8 (IntKind.u8.wrap n)) := HL.conv_int Try.underlying108 Try.underlying130
@[go_sem] theorem T.cv108_131 {V : HL.HV} {k : IntKind} {n : Int} : HL.convV Try.prog V 108 131 (.int k n) = some (.int .u8 (IntKind.u8.wrap n)) := HL.conv_int Try.underlying108 Try.underlying131
@[go_sem] theorem T.cv108_134 {V : HL.HV} {k : IntKind} {n : Int} : HL.convV Try.prog V 108 134 (.int k n) = some (.int .i32 (IntKind.i32.wrap n)) := HL.conv_int Try.underlying108 Try.underlying134
@[go_sem] theorem T.cv108_135 {V : HL.HV} {k : IntKind} {n : Int} : HL.convV Try.prog V 108 135 (.int k n) = some (.int .i32 (IntKind.i32.wrap n)) := HL.conv_int Try.underlying108 Try.underlying135
@[go_sem] theorem T.cv110_2 {V : HL.HV} {k : IntKind} {n : Int} : HL.convV Try.prog V 110 2 (.int k n) = some (.int .i64 (IntKind.i64.wrap n)) := HL.conv_int Try.underlying110 Try.underlying2
@[go_sem] theorem T.cv110_3 {V : HL.HV} {k : IntKind} {n : Int} : HL.convV Try.prog V 110 3 (.int k n) = some (.int .i64 (IntKind.i64.wrap n)) := HL.conv_int Try.underlying110 Try.underlying3
@[go_sem] theorem T.cv110_5 {V : HL.HV} {k : IntKind} {n : Int} : HL.convV Try.prog V 110 5 (.int k n) = some (.int .u8 (IntKind.u8.wrap n)) := HL.conv_int Try.underlying110 Try.underlying5
@[go_sem] theorem T.cv110_6 {V : HL.HV} {k : IntKind} {n : Int} : HL.convV Try.prog V 110 6 (.int k n) = some (.int .u8 (IntKind.u8.wrap n)) := HL.conv_int Try.underlying110 Try.underlying6
@[go_sem] theorem T.cv110_12 {V : HL.HV} {k : IntKind} {n : Int} : HL.convV Try.prog V 110 12 (.int k n) = some (.int .u64 (IntKind.u64.wrap n)) := HL.conv_int Try.underlying110 Try.underlying12
@[go_sem] theorem T.cv110_21 {V : HL.HV} {k : IntKind} {n : Int} : HL.convV Try.prog V 110 21 (.int k n) = some (.int .i32 (IntKind.i32.wrap n)) := HL.conv_int Try.underlying110 Try.underlying21
@[go_sem] theorem T.cv110_34 {V : HL.HV} {k : IntKind} {n : Int} : HL.convV Try.prog V 110 34 (.int k n) = some (.int .i64 (IntKind.i64.wrap n)) := HL.conv_int Try.underlying110 Try.underlying34
@[go_sem] theorem T.cv110_78 {V : HL.HV} {k : IntKind} {n : Int} : HL.convV Try.prog V 110 78 (.int k n) = some (.int .i8 (IntKind.i8.wrap n)) := HL.conv_int Try.underlying110 Try.underlying78
@[go_sem] theorem T.cv110_95 {V : HL.HV} {k : IntKind} {n : Int} : HL.convV Try.prog V 110 95 (.int k n) = some (.int .u64 (IntKind.u64.wrap n)) := HL.conv_int Try.underlying110 Try.underlying95
@[go_sem] theorem T.cv110_101 {V : HL.HV} {k : IntKind} {n : Int} : HL.convV Try.prog V 110 101 (.int k n) = some (.int .i64 (IntKind.i64.wrap n)) := HL.conv_int Try.underlying110 Try.underlying101
@[go_sem] theorem T.cv110_108 {V : HL.HV} {k : IntKind} {n : Int} : HL.convV Try.prog V 110 108 (.int k n) = some (.int .u32 (IntKind.u32.wrap n)) := HL.conv_int Try.underlying110 Try.underlying108
@[go_sem] theorem T.cv110_110 {V : HL.HV} {k : IntKind} {n : Int} : HL.convV Try.prog V 110 110 (.int k n) = some (.int .u64 (IntKind.u64.wrap n)) := HL.conv_int Try.underlying110 Try.underlying110
@[go_sem] theorem T.cv110_114 {V : HL.HV} {k : IntKind} {n : Int} : HL.convV Try.prog V 110 114 (.int k n) = some (.int .u64 (IntKind.u64.wrap n)) := HL.conv_int Try.underlying110 Try.underlying114
@[go_sem] theorem T.cv110_130 {V : HL.HV} {k : IntKind} {n : Int} : HL.convV Try.prog V 110 130 (.int k n) = some (.int .u8 (IntKind.u8.wrap n)) := HL.conv_int Try.underlying110 Try.underlying130
@[go_sem] theorem T.cv110_131 {V : HL.HV} {k : IntKind} {n : Int} : HL.convV Try.prog V 110 131 (.int k n) = some (.int .u8 (IntKind.u8.wrap n)) := HL.conv_int Try.underlying110 Try.underlying131
@[go_sem] theorem T.cv110_134 {V : HL.HV} {k : IntKind} {n : Int} : HL.convV Try.prog V 110 134 (.int k n) = some (.int .i32 (IntKind.i32.wrap n)) := HL.conv_int Try.underlying110 Try.underlying134
@[go_sem] theorem T.cv110_135 {V : HL.HV} {k : IntKind} {n : Int} : HL.convV Try.prog V 110 135 (.int k n) = some (.int .i32 (IntKind.i32.wrap n)) := HL.conv_int Try.underlying110 Try.underlying135
@[go_sem] theorem T.cv114_2 {V : HL.HV} {k : IntKind} {n : Int} : HL.convV Try.prog V 114 2 (.int k n) = some (.int .i64 (IntKind.i64.wrap n)) := HL.conv_int Try.underlying114 Try.underlying2
@[go_sem] theorem T.cv114_3 {V : HL.HV} {k : IntKind} {n : Int} : HL.convV Try.prog V 114 3 (.int k n) = some (.int .i64 (IntKind.i64.wrap n)) := HL.conv_int Try.underlying114 Try.underlying3
@[go_sem] theorem T.cv114_5 {V : HL.HV} {k : IntKind} {n : Int} : HL.convV Try.prog V 114 5 (.int k n) = some (.int .u8 (IntKind.u8.wrap n)) := HL.conv_int Try.underlying114 Try.underlying5
@[go_sem] theorem T.cv114_6 {V : HL.HV} {k : IntKind} {n : Int} : HL.convV Try.prog V 114 6 (.int k n) = some (.int .u8 (IntKind.u8.wrap n)) := HL.conv_int Try.underlying114 Try.underlying6
@[go_sem] theorem T.cv114_12 {V : HL.HV} {k : IntKind} {n : Int} : HL.convV Try.prog V 114 12 (.int k n) = some (.int .u64 (IntKind.u64.wrap n)) := HL.conv_int Try.underlying114 Try.underlying12
@[go_sem] theorem T.cv114_21 {V : HL.HV} {k : IntKind} {n : Int} : HL.convV Try.prog V 114 21 (.int k n) = some (.int .i32 (IntKind.i32.wrap n)) := HL.conv_int Try.underlying114 Try.underlying21
@[go_sem] theorem T.cv114_34 {V : HL.HV} {k : IntKind} {n : Int} : HL.convV Try.prog V 114 34 (.int k n) = some (.int .i64 (IntKind.i64.wrap n)) := HL.conv_int Try.underlying114 Try.underlying34
@[go_sem] theorem T.cv114_78 {V : HL.HV} {k : IntKind} {n : Int} : HL.convV Try.prog V 114 78 (.int k n) = some (.int .i8 (IntKind.i8.wrap n)) := HL.conv_int Try.underlying114 Try.underlying78
@[go_sem] theorem T.cv114_95 {V : HL.HV} {k : IntKind} {n : Int} : HL.convV Try.prog V 114 95 (.int k n) = some (.int .u64 (IntKind.u64.wrap n)) := HL.conv_int Try.underlying114 Try.underlying95
@[go_sem] theorem T.cv114_101 {V : HL.HV} {k : IntKind} {n : Int} : HL.convV Try.prog V 114 101 (.int k n) = some (.int .i64 (IntKind.i64.wrap n)) := HL.conv_int Try.underlying114 Try.underlying101
@[go_sem] theorem T.cv114_108 {V : HL.HV} {k : IntKind} {n : Int} : HL.convV Try.prog V 114 108 (.int k n) = some (.int .u32 (IntKind.u32.wrap n)) := HL.conv_int Try.underlying114 Try.underlying108
@[go_sem] theorem T.cv114_110 {V : HL.HV} {k : IntKind} {n : Int} : HL.convV Try.prog V 114 110 (.int k n) = some (.int .u64 (IntKind.u64.wrap n)) := HL.conv_int Try.underlying114 Try.underlying110
@[go_sem] theorem T.cv114_114 {V : HL.HV} {k : IntKind} {n : Int} : HL.convV Try.prog V 114 114 (.int k n) = some (.int .u64 (IntKind.u64.wrap n)) := HL.conv_int Try.underlying114 Try.underlying114
@[go_sem] theorem T.cv114_130 {V : HL.HV} {k : IntKind} {n : Int} : HL.convV Try.prog V 114 130 (.int k n) = some (.int .u8 (IntKind.u8.wrap n)) := HL.conv_int Try.underlying114 Try.underlying130
@[go_sem] theorem T.cv114_131 {V : HL.HV} {k : IntKind} {n : Int} : HL.convV Try.prog V 114 131 (.int k n) = some (.int .u8 (IntKind.u8.wrap n)) := HL.conv_int Try.underlying114 Try.underlying131
@[go_sem] theorem T.cv114_134 {V : HL.HV} {k : IntKind} {n : Int} : HL.convV Try.prog V 114 134 (.int k n) = some (.int .i32 (IntKind.i32.wrap n)) := HL.conv_int Try.underlying114 Try.underlying134
@[go_sem] theorem T.cv114_135 {V : HL.HV} {k : IntKind} {n : Int} : HL.convV Try.prog V 114 135 (.int k n) = some (.int .i32 (IntKind.i32.wrap n)) := HL.conv_int Try.underlying114 Try.underlying135
@[go_sem] theorem T.cv130_2 {V : HL.HV} {k : IntKind} {n : Int} : HL.convV Try.prog V 130 2 (.int k n) = some (.int .i64 (IntKind.i64.wrap n)) := HL.conv_int Try.underlying130 Try.underlying2
@[go_sem] theorem T.cv130_3 {V : HL.HV} {k : IntKind} {n : Int} : HL.convV Try.prog V 130 3 (.int k n) = some (.int .i64 (IntKind.i64.wrap n)) := HL.conv_int Try.underlying130 Try.underlying3
@[go_sem] theorem T.cv130_5 {V : HL.HV} {k : IntKind} {n : Int} : HL.convV Try.prog V 130 5 (.int k n) = some (.int .u8 (IntKind.u8.wrap n)) := HL.conv_int Try.underlying130 Try.underlying5
@[go_sem] theorem T.cv130_6 {V : HL.HV} {k : IntKind} {n : Int} : HL.convV Try.prog V 130 6 (.int k n) = some (.int .u8 (IntKind.u8.wrap n)) := HL.conv_int Try.underlying130 Try.underlying6
@[go_sem] theorem T.cv130_12 {V : HL.HV} {k : IntKind} {n : Int} : HL.convV Try.prog V 130 12 (.int k n) = some (.int .u64 (IntKind.u64.wrap n)) := HL.conv_int Try.underlying130 Try.underlying12
@[go_sem] theorem T.cv130_21 {V : HL.HV} {k : IntKind} {n : Int} : HL.convV Try.prog V 130 21 (.int k n) = some (.int .i32 (IntKind.i32.wrap n)) := HL.conv_int Try.underlying130 Try.underlying21
@[go_sem] theorem T.cv130_34 {V : HL.HV} {k : IntKind} {n : Int} : HL.convV Try.prog V 130 34 (.int k n) = some (.int .i64 (IntKind.i64.wrap n)) := HL.conv_int Try.underlying130 Try.underlying34
@[go_sem] theorem T.cv130_78 {V : HL.HV} {k : IntKind} {n : Int} : HL.convV Try.prog V 130 78 (.int k n) = some (.int .i8 (IntKind.i8.wrap n)) := HL.conv_int Try.underlying130 Try.underlying78
@[go_sem] theorem T.cv130_95 {V : HL.HV} {k : IntKind} {n : Int} : HL.convV Try.prog V 130 95 (.int k n) = some (.int .u64 (IntKind.u64.wrap n)) := HL.conv_int Try.underlying130 Try.underlying95
@[go_sem] theorem T.cv130_101 {V : HL.HV} {k : IntKind} {n : Int} : HL.convV Try.prog V 130 101 (.int k n) = some (.int .i64 (IntKind.i64.wrap n)) := HL.conv_int Try.underlying130 Try.underlying101
@[go_sem] theorem T.cv130_108 {V : HL.HV} {k : IntKind} {n : Int} : HL.convV Try.prog V 130 108 (.int k n) = some (.int .u32 (IntKind.u32.wrap n)) := HL.conv_int Try.underlying130 Try.underlying108
@[go_sem] theorem T.cv130_110 {V : HL.HV} {k : IntKind} {n : Int} : HL.convV Try.prog V 130 110 (.int k n) = some (.int .u64 (IntKind.u64.wrap n)) := HL.conv_int Try.underlying130 Try.underlying110
@[go_sem] theorem T.cv130_114 {V : HL.HV} {k : IntKind} {n : Int} : HL.convV Try.prog V 130 114 (.int k n) = some (.int .u64 (IntKind.u64.wrap n)) := HL.conv_int Try.underlying130 Try.underlying114
@[go_sem] theorem T.cv130_130 {V : HL.HV} {k : IntKind} {n : Int} : HL.convV Try.prog V 130 130 (.int k n) = some (.int .u8 (IntKind.u8.wrap n)) := HL.conv_int Try.underlying130 Try.underlying130
@[go_sem] theorem T.cv130_131 {V : HL.HV} {k : IntKind} {n : Int} : HL.convV Try.prog V 130 131 (.int k n) = some (.int .u8 (IntKind.u8.wrap n)) := HL.conv_int Try.underlying130 Try.underlying131
@[go_sem] theorem T.cv130_134 {V : HL.HV} {k : IntKind} {n : Int} : HL.convV Try.prog V 130 134 (.int k n) = some (.int .i32 (IntKind.i32.wrap n)) := HL.conv_int Try.underlying130 Try.underlying134
@[go_sem] theorem T.cv130_135 {V : HL.HV} {k : IntKind} {n : Int} : HL.convV Try.prog V 130 135 (.int k n) = some (.int .i32 (IntKind.i32.wrap n)) := HL.conv_int Try.underlying130 Try.underlying135
@[go_sem] theorem T.cv131_2 {V : HL.HV} {k : IntKind} {n : Int} : HL.convV Try.prog V 131 2 (.int k n) = some (.int .i64 (IntKind.i64.wrap n)) := HL.conv_int Try.underlying131 Try.underlying2
@[go_sem] theorem T.cv131_3 {V : HL.HV} {k : IntKind} {n : Int} : HL.convV Try.prog V 131 3 (.int k n) = some (.int .i64 (IntKind.i64.wrap n)) := HL.conv_int Try.underlying131 Try.underlying3
@[go_sem] theorem T.cv131_5 {V : HL.HV} {k : IntKind} {n : Int} : HL.convV Try.prog V 131 5 (.int k n) = some (.int .u8 (IntKind.u8.wrap n)) := HL.conv_int Try.underlying131 Try.underlying5
@[go_sem] theorem T.cv131_6 {V : HL.HV} {k : IntKind} {n : Int} : HL.convV Try.prog V 131 6 (.int k n) = some (.int .u8 (IntKind.u8.wrap n)) := HL.conv_int Try.underlying131 Try.underlying6
@[go_sem] theorem T.cv131_12 {V : HL.HV} {k : IntKind} {n : Int} : HL.convV Try.prog V 131 12 (.int k n) = some (.int .u64 (IntKind.u64.wrap n)) := HL.conv_int Try.underlying131 Try.underlying12
@[go_sem] theorem T.cv131_21 {V : HL.HV} {k : IntKind} {n : Int} : HL.convV Try.prog V 131 21 (.int k n) = some (.int .i32 (IntKind.i32.wrap n)) := HL.conv_int Try.underlying131 Try.underlying21
@[go_sem] theorem T.cv131_34 {V : HL.HV} {k : IntKind} {n : Int} : HL.convV Try.prog V 131 34 (.int k n) = some (.int .i64 (IntKind.i64.wrap n)) := HL.conv_int Try.underlying131 Try.underlying34
@[go_sem] theorem T.cv131_78 {V : HL.HV} {k : IntKind} {n : Int} : HL.convV Try.prog V 131 78 (.int k n) = some (.int .i8 (IntKind.i8.wrap n)) := HL.conv_int Try.underlying131 Try.underlying78
@[go_sem] theorem T.cv131_95 {V : HL.HV} {k : IntKind} {n : Int} : HL.convV Try.prog V 131 95 (.int k n) = some (.int .u64 (IntKind.u64.wrap n)) := HL.conv_int Try.underlying131 Try.underlying95
@[go_sem] theorem T.cv131_101 {V : HL.HV} {k : IntKind} {n : Int} : HL.convV Try.prog V 131 101 (.int k n) = some (.int .i64 (IntKind.i64.wrap n)) := HL.conv_int Try.underlying131 Try.underlying101
@[go_sem] theorem T.cv131_108 {V : HL.HV} {k : IntKind} {n : Int} : HL.convV Try.prog V 131 108 (.int k n) = some (.int .u32 (IntKind.u32.wrap n)) := HL.conv_int Try.underlying131 Try.underlying108
@[go_sem] theorem T.cv131_110 {V : HL.HV} {k : IntKind} {n : Int} : HL.convV Try.prog V 131 110 (.int k n) = some (.int .u64 (IntKind.u64.wrap n)) := HL.conv_int Try.underlying131 Try.underlying110
@[go_sem] theorem T.cv131_114 {V : HL.HV} {k : IntKind} {n : Int} : HL.convV Try.prog V 131 114 (.int k n) = some (.int .u64 (IntKind.u64.wrap n)) := HL.conv_int Try.underlying131 Try.underlying114
@[go_sem] theorem T.cv131_130 {V : HL.HV} {k : IntKind} {n : Int} : HL.convV Try.prog V 131 130 (.int k n) = some (.int .u8 (IntKind.u8.wrap n)) := HL.conv_int Try.underlying131 Try.underlying130
@[go_sem] theorem T.cv131_131 {V : HL.HV} {k : IntKind} {n : Int} : HL.convV Try.prog V 131 131 (.int k n) = some (.int .u8 (IntKind.u8.wrap n)) := HL.conv_int Try.underlying131 Try.underlying131
@[go_sem] theorem T.cv131_134 {V : HL.HV} {k : IntKind} {n : Int} : HL.convV Try.prog V 131 134 (.int k n) = some (.int .i32 (IntKind.i32.wrap n)) := HL.conv_int Try.underlying131 Try.underlying134
@[go_sem] theorem T.cv131_135 {V : HL.HV} {k : IntKind} {n : Int} : HL.convV Try.prog V 131 135 (.int k n) = some (.int .i32 (IntKind.i32.wrap n)) := HL.conv_int Try.underlying131 Try.underlying135
@[go_sem] theorem T.cv134_2 {V : HL.HV} {k : IntKind} {n : Int} : HL.convV Try.prog V 134 2 (.int k n) = some (.int .i64 (IntKind.i64.wrap n)) := HL.conv_int Try.underlying134 Try.underlying2
@[go_sem] theorem T.cv134_3 {V : HL.HV} {k : IntKind} {n : Int} : HL.convV Try.prog V 134 3 (.int k n) = some (.int .i64 (IntKind.i64.wrap n)) := HL.conv_int Try.underlying134 Try.underlying3
@[go_sem] theorem T.cv134_5 {V : HL.HV} {k : IntKind} {n : Int} : HL.convV Try.prog V 134 5 (.int k n) = some (.int .u8 (IntKind.u8.wrap n)) := HL.conv_int Try.underlying134 Try.underlying5
@[go_sem] theorem T.cv134_6 {V : HL.HV} {k : IntKind} {n : Int} : HL.convV Try.prog V 134 6 (.int k n) = some (.int .u8 (IntKind.u8.wrap n)) := HL.conv_int Try.underlying134 Try.underlying6
@[go_sem] theorem T.cv134_12 {V : HL.HV} {k : IntKind} {n : Int} : HL.convV Try.prog V 134 12 (.int k n) = some (.int .u64 (IntKind.u64.wrap n)) := HL.conv_int Try.underlying134 Try.underlying12
@[go_sem] theorem T.cv134_21 {V : HL.HV} {k : IntKind} {n : Int} : HL.convV Try.prog V 134 21 (.int k n) = some (.int .i32 (IntKind.i32.wrap n)) := HL.conv_int Try.underlying134 Try.underlying21
@[go_sem] theorem T.cv134_34 {V : HL.HV} {k : IntKind} {n : Int} : HL.convV Try.prog V 134 34 (.int k n) = some (.int .i64 (IntKind.i64.wrap n)) := HL.conv_int Try.underlying134 Try.underlying34
@[go_sem] theorem T.cv134_78 {V : HL.HV} {k : IntKind} {n : Int} : HL.convV Try.prog V 134 78 (.int k n) = some (.int .i8 (IntKind.i8.wrap n)) := HL.conv_int Try.underlying134 Try.underlying78
@[go_sem] theorem T.cv134_95 {V : HL.HV} {k : IntKind} {n : Int} : HL.convV Try.prog V 134 95 (.int k n) = some (.int .u64 (IntKind.u64.wrap n)) := HL.conv_int Try.underlying134 Try.underlying95
@[go_sem] theorem T.cv134_101 {V : HL.HV} {k : IntKind} {n : Int} : HL.convV Try.prog V 134 101 (.int k n) = some (.int .i64 (IntKind.i64.wrap n)) := HL.conv_int Try.underlying134 Try.underlying101
@[go_sem] theorem T.cv134_108 {V : HL.HV} {k : IntKind} {n : Int} : HL.convV Try.prog V 134 108 (.int k n) = some (.int .u32 (IntKind.u32.wrap n)) := HL.conv_int Try.underlying134 Try.underlying108
@[go_sem] theorem T.cv134_110 {V : HL.HV} {k : IntKind} {n : Int} : HL.convV Try.prog V 134 110 (.int k n) = some (.int .u64 (IntKind.u64.wrap n)) := HL.conv_int Try.underlying134 Try.underlying110
@[go_sem] theorem T.cv134_114 {V : HL.HV} {k : IntKind} {n : Int} : HL.convV Try.prog V 134 114 (.int k n) = some (.int .u64 (IntKind.u64.wrap n)) := HL.conv_int Try.underlying134 Try.underlying114
@[go_sem] theorem T.cv134_130 {V : HL.HV} {k : IntKind} {n : Int} : HL.convV Try.prog V 134 130 (.int k n) = some (.int .u8 (IntKind.u8.wrap n)) := HL.conv_int Try.underlying134 Try.underlying130
@[go_sem] theorem T.cv134_131 {V : HL.HV} {k : IntKind} {n : Int} : HL.convV Try.prog V 134 131 (.int k n) = some (.int .u8 (IntKind.u8.wrap n)) := HL.conv_int Try.underlying134 Try.underlying131
@[go_sem] theorem T.cv134_134 {V : HL.HV} {k : IntKind} {n : Int} : HL.convV Try.prog V 134 134 (.int k n) = some (.int .i32 (IntKind.i32.wrap n)) := HL.conv_int Try.underlying134 Try.underlying134
@[go_sem] theorem T.cv134_135 {V : HL.HV} {k : IntKind} {n : Int} : HL.convV Try.prog V 134 135 (.int k n) = some (.int .i32 (IntKind.i32.wrap n)) := HL.conv_int Try.underlying134 Try.underlying135
@[go_sem] theorem T.cv135_2 {V : HL.HV} {k : IntKind} {n : Int} : HL.convV Try.prog V 135 2 (.int k n) = some (.int .i64 (IntKind.i64.wrap n)) := HL.conv_int Try.underlying135 Try.underlying2
@[go_sem] theorem T.cv135_3 {V : HL.HV} {k : IntKind} {n : Int} : HL.convV Try.prog V 135 3 (.int k n) = some (.int .i64 (IntKind.i64.wrap n)) := HL.conv_int Try.underlying135 Try.underlying3
@[go_sem] theorem T.cv135_5 {V : HL.HV} {k : IntKind} {n : Int} : HL.convV Try.prog V 135 5 (.int k n) = some (.int .u8 (IntKind.u8.wrap n)) := HL.conv_int Try.underlying135 Try.underlying5
@[go_sem] theorem T.cv135_6 {V : HL.HV} {k : IntKind} {n : Int} : HL.convV Try.prog V 135 6 (.int k n) = some (.int .u8 (IntKind.u8.wrap n)) := HL.conv_int Try.underlying135 Try.underlying6
@[go_sem] theorem T.cv135_12 {V : HL.HV} {k : IntKind} {n : Int} : HL.convV Try.prog V 135 12 (.int k n) = some (.int .u64 (IntKind.u64.wrap n)) := HL.conv_int Try.underlying135 Try.underlying12
@[go_sem] theorem T.cv135_21 {V : HL.HV} {k : IntKind} {n : Int} : HL.convV Try.prog V 135 21 (.int k n) = some (.int .i32 (IntKind.i32.wrap n)) := HL.conv_int Try.underlying135 Try.underlying21
@[go_sem] theorem T.cv135_34 {V : HL.HV} {k : IntKind} {n : Int} : HL.convV Try.prog V 135 34 (.int k n) = some (.int .i64 (IntKind.i64.wrap n)) := HL.conv_int Try.underlying135 Try.underlying34
@[go_sem] theorem T.cv135_78 {V : HL.HV} {k : IntKind} {n : Int} : HL.convV Try.prog V 135 78 (.int k n) = some (.int .i8 (IntKind.i8.wrap n)) := HL.conv_int Try.underlying135 Try.underlying78
@[go_sem] theorem T.cv135_95 {V : HL.HV} {k : IntKind} {n : Int} : HL.convV Try.prog V 135 95 (.int k n) = some (.int .u64 (IntKind.u64.wrap n)) := HL.conv_int Try.underlying135 Try.underlying95
@[go_sem] theorem T.cv135_101 {V : HL.HV} {k : IntKind} {n : Int} : HL.convV Try.prog V 135 101 (.int k n) = some (.int .i64 (IntKind.i64.wrap n)) := HL.conv_int Try.underlying135 Try.underlying101
@[go_sem] theorem T.cv135_108 {V : HL.HV} {k : IntKind} {n : Int} : HL.convV Try.prog V 135 108 (.int k n) = some (.int .u32 (IntKind.u32.wrap n)) := HL.conv_int Try.underlying135 Try.underlying108
@[go_sem] theorem T.cv135_110 {V : HL.HV} {k : IntKind} {n : Int} : HL.convV Try.prog V 135 110 (.int k n) = some (.int .u64 (IntKind.u64.wrap n)) := HL.conv_int Try.underlying135 Try.underlying110
@[go_sem] theorem T.cv135_114 {V : HL.HV} {k : IntKind} {n : Int} : HL.convV Try.prog V 135 114 (.int k n) = some (.int .u64 (IntKind.u64.wrap n)) := HL.conv_int Try.underlying135 Try.underlying114
@[go_sem] theorem T.cv135_130 {V : HL.HV} {k : IntKind} {n : Int} : HL.convV Try.prog V 135 130 (.int k n) = some (.int .u8 (IntKind.u8.wrap n)) := HL.conv_int Try.underlying135 Try.underlying130
@[go_sem] theorem T.cv135_131 {V : HL.HV} {k : IntKind} {n : Int} : HL.convV Try.prog V 135 131 (.int k n) = some (.int .u8 (IntKind.u8.wrap n)) := HL.conv_int Try.underlying135 Try.underlying131
@[go_sem] theorem T.cv135_134 {V : HL.HV} {k : IntKind} {n : Int} : HL.convV Try.prog V 135 134 (.int k n) = some (.int .i32 (IntKind.i32.wrap n)) := HL.conv_int Try.underlying135 Try.underlying134
@[go_sem] theorem T.cv135_135 {V : HL.HV} {k : IntKind} {n : Int} : HL.convV Try.prog V 135 135 (.int k n) = some (.int .i32 (IntKind.i32.wrap n)) := HL.conv_int Try.underlying135 Try.underlying135
@[go_sem] theorem T.bs42_1 {H : HL.Heap} {x0 : Bool} {a1 : Option Addr} {l1 c1 : Nat} : HL.buildSliceV Try.prog H 42 1 [(0, .agg #[.bool x0, .slice a1 l1 c1])] = some (.slice (some ⟨H.size, 0, none⟩) 1 1, H.push (.cells #[.bool x0, .slice a1 l1 c1] 45)) := HL.bsl_of (vs := [.agg #[.bool x0, .slice a1 l1 c1]]) T.elem42 T.size45 T.zero45 (Nat.le_of_ble_eq_true rfl) rfl rfl
@[go_sem] theorem T.bs42_2 {H : HL.Heap} {x0 : Bool} {a1 : Option Addr} {l1 c1 : Nat} {x2 : Bool} {a3 : Option Addr} {l3 c3 : Nat} : HL.buildSliceV Try.prog H 42 2 [(0, .agg #[.bool x0, .slice a1 l1 c1]), (1, .agg #[.bool x2, .slice a3 l3 c3])] = some (.slice (some ⟨H.size, 0, none⟩) 2 2, H.push (.cells #[.bool x0, .slice a1 l1 c1, .bool x2, .slice a3 l3 c3] 45)) := HL.bsl_of (vs := [.agg #[.bool x0, .slice a1 l1 c1], .agg #[.bool x2, .slice a3 l3 c3]]) T.elem42 T.size45 T.zero45 (Nat.le_of_ble_eq_true rfl) rfl rfl
@[go_sem] theorem T.bs42_3 {H : HL.Heap} {x0 : Bool} {a1 : Option Addr} {l1 c1 : Nat} {x2 : Bool} {a3 : Option Addr} {l3 c3 : Nat} {x4 : Bool} {a5 : Option Addr} {l5 c5 : Nat} : HL.buildSliceV Try.prog H 42 3 [(0, .agg #[.bool x0, .slice a1 l1 c1]), (1, .agg #[.bool x2, .slice a3 l3 c3]), (2, .agg #[.bool x4, .slice a5 l5 c5])] = some (.slice (some ⟨H.size, 0, none⟩) 3 3, H.push (.cells #[.bool x0, .slice a1 l1 c1, .bool x2, .slice a3 l3 c3, .bool x4, .slice a5 l5 c5] 45)) := HL.bsl_of (vs := [.agg #[.bool x0, .slice a1 l1 c1], .agg #[.bool x2, .slice a3 l3 c3], .agg #[.bool x4, .slice a5 l5 c5]]) T.elem42 T.size45 T.zero45 (Nat.le_of_ble_eq_true rfl) rfl rfl
@[go_sem] theorem T.bs42_4 {H : HL.Heap} {x0 : Bool} {a1 : Option Addr} {l1 c1 : Nat} {x2 : Bool} {a3 : Option Addr} {l3 c3 : Nat} {x4 : Bool} {a5 : Option Addr} {l5 c5 : Nat} {x6 : Bool} {a7 : Option Addr} {l7 c7 : Nat} : HL.buildSliceV Try.prog H 42 4 [(0, .agg #[.bool x0, .slice a1 l1 c1]), (1, .agg #[.bool x2, .slice a3 l3 c3]), (2, .agg #[.bool x4, .slice a5 l5 c5]), (3, .agg #[.bool x6, .slice a7 l7 c7])] = some (.slice (some ⟨H.size, 0, none⟩) 4 4, H.push (.cells #[.bool x0, .slice a1 l1 c1, .bool x2, .slice a3 l3 c3, .bool x4, .slice a5 l5 c5, .bool x6, .slice a7 l7 c7] 45)) := HL.bsl_of (vs := [.agg #[.bool x0, .slice a1 l1 c1], .agg #[.bool x2, .slice a3 l3 c3], .agg #[.bool x4, .slice a5 l5 c5], .agg #[.bool x6, .slice a7 l7 c7]]) T.elem42 T.size45 T.zero45 (Nat.le_of_ble_eq_true rfl) rfl rfl
@[go_sem] theorem T.stn45 {H : HL.Heap} {z0 z1 : Value} {x0 : Bool} {a1 : Option Addr} {l1 c1 : Nat} : HL.storeA Try.prog (H.push (.cells #[z0, z1] 45)) 45 ⟨H.size, 0, none⟩ (.agg #[.bool x0, .slice a1 l1 c1]) = some (H.push (.cells #[.bool x0, .slice a1 l1 c1] 45)) := HL.store_new (z := [z0, z1]) (vs := [.bool x0, .slice a1 l1 c1]) T.size45 rfl (HL.one_all rfl)
@[go_sem] theorem T.ln45 {H : HL.Heap} {z0 z1 : Value} : HL.cellsH (HL.cellH (H.push (.cells #[z0, z1] 45))) ⟨H.size, 0, none⟩ 0 2 = some [z0, z1] := HL.Blk.cells0 (new := [z0, z1]) (HL.Blk.new rfl)
@[go_sem] theorem T.stn53 {H : HL.Heap} {z0 z1 z2 z3 z4 z5 z6 z7 z8 z9 z10 z11 z12 z13 z14 : Value} {a0 : Option Addr} {a1 : Option Addr} {l1 c1 : Nat} {a2 : Option Addr} {l2 c2 : Nat} {a3 : Option Addr} {l3 c3 : Nat} {a4 : Option Addr} {l4 c4 : Nat} {a5 : Option Addr} {l5 c5 : Nat} {a6 : Option Addr} {l6 c6 : Nat} {a7 : Option Addr} {l7 c7 : Nat} {a8 : Option Addr} {l8 c8 : Nat} {x9 : Int} {x10 : Int} {a11 : Option Addr} {l11 c11 : Nat} {x12 : Int} {x13 : Int} {x14 : Bool} : HL.storeA Try.prog (H.push (.cells #[z0, z1, z2, z3, z4, z5, z6, z7, z8, z9, z10, z11, z12, z13, z14] 53)) 53 ⟨H.size, 0, none⟩ (.agg #[.pointer a0, .slice a1 l1 c1, .slice a2 l2 c2, .slice a3 l3 c3, .slice a4 l4 c4, .slice a5 l5 c5, .slice a6 l6 c6, .slice a7 l7 c7, .slice a8 l8 c8, .int .i64 x9, .int .i64 x10, .slice a11 l11 c11, .int .i64 x12, .int .i64 x13, .bool x14]) = some (H.push (.cells #[.pointer a0, .slice a1 l1 c1, .slice a2 l2 c2, .slice a3 l3 c3, .slice a4 l4 c4, .slice a5 l5 c5, .slice a6 l6 c6, .slice a7 l7 c7, .slice a8 l8 c8, .int .i64 x9, .int .i64 x10, .slice a11 l11 c11, .int .i64 x12, .int .i64 x13, .bool x14] 53)) := HL.store_new (z := [z0, z1, z2, z3, z4, z5, z6, z7, z8, z9, z10, z11, z12, z13, z14]) (vs := [.pointer a0, .slice a1 l1 c1, .slice a2 l2 c2, .slice a3 l3 c3, .slice a4 l4 c4, .slice a5 l5 c5, .slice a6 l6 c6, .slice a7 l7 c7, .slice a8 l8 c8, .int .i64 x9, .int .i64 x10, .slice a11 l11 c11, .int .i64 x12, .int .i64 x13, .bool x14]) T.size53 rfl (HL.one_all rfl)
@[go_sem] theorem T.ln53 {H : HL.Heap} {z0 z1 z2 z3 z4 z5 z6 z7 z8 z9 z10 z11 z12 z13 z14 : Value} : HL.cellsH (HL.cellH (H.push (.cells #[z0, z1, z2, z3, z4, z5, z6, z7, z8, z9, z10, z11, z12, z13, z14] 53))) ⟨H.size, 0, none⟩ 0 15 = some [z0, z1, z2, z3, z4, z5, z6, z7, z8, z9, z10, z11, z12, z13, z14] := HL.Blk.cells0 (new := [z0, z1, z2, z3, z4, z5, z6, z7, z8, z9, z10, z11, z12, z13, z14]) (HL.Blk.new rfl)
@[go_sem] theorem T.stn77 {H : HL.Heap} {z0 z1 z2 : Value} {a0 : Option Addr} {l0 c0 : Nat} {a1 : Option Addr} {l1 c1 : Nat} {a2 : Option Addr} {l2 c2 : Nat} : HL.storeA Try.prog (H.push (.cells #[z0, z1, z2] 77)) 77 ⟨H.size, 0, none⟩ (.agg #[.slice a0 l0 c0, .slice a1 l1 c1, .slice a2 l2 c2]) = some (H.push (.cells #[.slice a0 l0 c0, .slice a1 l1 c1, .slice a2 l2 c2] 77)) := HL.store_new (z := [z0, z1, z2]) (vs := [.slice a0 l0 c0, .slice a1 l1 c1, .slice a2 l2 c2]) T.size77 rfl (HL.one_all rfl)
@[go_sem] theorem T.ln77 {H : HL.Heap} {z0 z1 z2 : Value} : HL.cellsH (HL.cellH (H.push (.cells #[z0, z1, z2] 77))) ⟨H.size, 0, none⟩ 0 3 = some [z0, z1, z2] := HL.Blk.cells0 (new := [z0, z1, z2]) (HL.Blk.new rfl)
@[go_sem] theorem T.stn81 {H : HL.Heap} {z0 z1 z2 : Value} {a0 : Option Addr} {l0 c0 : Nat} {x1 : Int} {x2 : Bool} : HL.storeA Try.prog (H.push (.cells #[z0, z1, z2] 81)) 81 ⟨H.size, 0, none⟩ (.agg #[.slice a0 l0 c0, .int .i64 x1, .bool x2]) = some (H.push (.cells #[.slice a0 l0 c0, .int .i64 x1, .bool x2] 81)) := HL.store_new (z := [z0, z1, z2]) (vs := [.slice a0 l0 c0, .int .i64 x1, .bool x2]) T.size81 rfl (HL.one_all rfl)
@[go_sem] theorem T.ln81 {H : HL.Heap} {z0 z1 z2 : Value} : HL.cellsH (HL.cellH (H.push (.cells #[z0, z1, z2] 81))) ⟨H.size, 0, none⟩ 0 3 = some [z0, z1, z2] := HL.Blk.cells0 (new := [z0, z1, z2]) (HL.Blk.new rfl)
@[go_sem] theorem T.sl9 {H : HL.Heap} {a : HL.Str} : HL.lenV Try.prog (HL.full H) 9 (.string (HL.bs a)) = some (.int .i64 a.length) := HL.str_len Try.underlying9
@[go_sem] theorem T.si9 {a : HL.Str} {k : IntKind} {n : Int} : HL.indexV Try.prog 9 (.string (HL.bs a)) (.int k n) = HL.chk (0 ≤ n ∧ n < a.length) (some (HL.u8v (HL.bt8 a n.toNat))) := HL.str_index Try.underlying9
@[go_sem] theorem T.ss9 {a : HL.Str} {k k2 : IntKind} {x y : Int} : HL.sliceV Try.prog 9 (.string (HL.bs a)) (some (.int k x)) (some (.int k2 y)) none = HL.chk (0 ≤ y ∧ y ≤ a.length) (HL.chk (0 ≤ x ∧ x ≤ y.toNat) (some (.string (HL.bs ((a.take y.toNat).drop x.toNat))))) := HL.str_sub Try.underlying9
@[go_sem] theorem T.so9 {a : HL.Str} {k : IntKind} {x : Int} : HL.sliceV Try.prog 9 (.string (HL.bs a)) (some (.int k x)) none none = HL.chk (0 ≤ x ∧ x ≤ a.length) (some (.string (HL.bs (a.drop x.toNat)))) := HL.str_lo Try.underlying9
@[go_sem] theorem T.sh9 {a : HL.Str} {k : IntKind} {y : Int} : HL.sliceV Try.prog 9 (.string (HL.bs a)) none (some (.int k y)) none = HL.chk (0 ≤ y ∧ y ≤ a.length) (some (.string (HL.bs (a.take y.toNat)))) := HL.str_hi Try.underlying9
@[go_sem] theorem T.sl10 {H : HL.Heap} {a : HL.Str} : HL.lenV Try.prog (HL.full H) 10 (.string (HL.bs a)) = some (.int .i64 a.length) := HL.str_len Try.underlying10
@[go_sem] theorem T.si10 {a : HL.Str} {k : IntKind} {n : Int} : HL.indexV Try.prog 10 (.string (HL.bs a)) (.int k n) = HL.chk (0 ≤ n ∧ n < a.length) (some (HL.u8v (HL.bt8 a n.toNat))) := HL.str_index Try.underlying10
@[go_sem] theorem T.ss10 {a : HL.Str} {k k2 : IntKind} {x y : Int} : HL.sliceV Try.prog 10 (.string (HL.bs a)) (some (.int k x)) (some (.int k2 y)) none = HL.chk (0 ≤ y ∧ y ≤ a.length) (HL.chk (0 ≤ x ∧ x ≤ y.toNat) (some (.string (HL.bs ((a.take y.toNat).drop x.toNat))))) := HL.str_sub Try.underlying10
@[go_sem] theorem T.so10 {a : HL.Str} {k : IntKind} {x : Int} : HL.sliceV Try.prog 10 (.string (HL.bs a)) (some (.int k x)) none none = HL.chk (0 ≤ x ∧ x ≤ a.length) (some (.string (HL.bs (a.drop x.toNat)))) := HL.str_lo Try.underlying10
@[go_sem] theorem T.sh10 {a : HL.Str} {k : IntKind} {y : Int} : HL.sliceV Try.prog 10 (.string (HL.bs a)) none (some (.int k y)) none = HL.chk (0 ≤ y ∧ y ≤ a.length) (some (.string (HL.bs (a.take y.toNat)))) := HL.str_hi Try.underlying10
@[go_sem] theorem T.sl11 {H : HL.Heap} {a : HL.Str} : HL.lenV Try.prog (HL.full H) 11 (.string (HL.bs a)) = some (.int .i64 a.length) := HL.str_len Try.underlying11
@[go_sem] theorem T.si11 {a : HL.Str} {k : IntKind} {n : Int} : HL.indexV Try.prog 11 (.string (HL.bs a)) (.int k n) = HL.chk (0 ≤ n ∧ n < a.length) (some (HL.u8v (HL.bt8 a n.toNat))) := HL.str_index Try.underlying11
@[go_sem] theorem T.ss11 {a : HL.Str} {k k2 : IntKind} {x y : Int} : HL.sliceV Try.prog 11 (.string (HL.bs a)) (some (.int k x)) (some (.int k2 y)) none = HL.chk (0 ≤ y ∧ y ≤ a.length) (HL.chk (0 ≤ x ∧ x ≤ y.toNat) (some (.string (HL.bs ((a.take y.toNat).drop x.toNat))))) := HL.str_sub Try.underlying11
@[go_sem] theorem T.so11 {a : HL.Str} {k : IntKind} {x : Int} : HL.sliceV Try.prog 11 (.string (HL.bs a)) (some (.int k x)) none none = HL.chk (0 ≤ x ∧ x ≤ a.length) (some (.string (HL.bs (a.drop x.toNat)))) := HL.str_lo Try.underlying11
@[go_sem] theorem T.sh11 {a : HL.Str} {k : IntKind} {y : Int} : HL.sliceV Try.prog 11 (.string (HL.bs a)) none (some (.int k y)) none = HL.chk (0 ≤ y ∧ y ≤ a.length) (some (.string (HL.bs (a.take y.toNat)))) := HL.str_hi Try.underlying11
end Go.Proofs
