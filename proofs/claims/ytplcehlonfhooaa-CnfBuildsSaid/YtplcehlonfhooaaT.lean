/- Closed facts on the types of the program. -/
import Derived.Test.YtplcehlonfhooaaProg
import Derived.Test.YtplcehlonfhooaaHLMap
namespace Go.Proofs
theorem T.mixed : Try.prog.follows .mixedOrders = true := by kernel_rfl
@[go_sem] theorem T.agg1 : HL.aggN Try.prog 1 = some none := by kernel_rfl
@[go_sem] theorem T.size1 : HL.sizeT Try.prog 1 = some 1 := by kernel_rfl
@[go_sem] theorem T.bytes1 : HL.bytesT Try.prog 1 = some 8 := by kernel_rfl
@[go_sem] theorem T.zero1 : HL.zeroT Try.prog 1 = some (.nilFunc) := by kernel_rfl
@[go_sem] theorem T.agg2 : HL.aggN Try.prog 2 = some none := by kernel_rfl
@[go_sem] theorem T.size2 : HL.sizeT Try.prog 2 = some 1 := by kernel_rfl
@[go_sem] theorem T.bytes2 : HL.bytesT Try.prog 2 = some 8 := by kernel_rfl
@[go_sem] theorem T.zero2 : HL.zeroT Try.prog 2 = some (.int .i64 0) := by kernel_rfl
@[go_sem] theorem T.agg3 : HL.aggN Try.prog 3 = some none := by kernel_rfl
@[go_sem] theorem T.size3 : HL.sizeT Try.prog 3 = some 1 := by kernel_rfl
@[go_sem] theorem T.bytes3 : HL.bytesT Try.prog 3 = some 8 := by kernel_rfl
@[go_sem] theorem T.zero3 : HL.zeroT Try.prog 3 = some (.int .i64 0) := by kernel_rfl
@[go_sem] theorem T.agg4 : HL.aggN Try.prog 4 = some none := by kernel_rfl
@[go_sem] theorem T.size4 : HL.sizeT Try.prog 4 = some 1 := by kernel_rfl
@[go_sem] theorem T.bytes4 : HL.bytesT Try.prog 4 = some 1 := by kernel_rfl
@[go_sem] theorem T.zero4 : HL.zeroT Try.prog 4 = some (.bool false) := by kernel_rfl
@[go_sem] theorem T.agg5 : HL.aggN Try.prog 5 = some none := by kernel_rfl
@[go_sem] theorem T.size5 : HL.sizeT Try.prog 5 = some 1 := by kernel_rfl
@[go_sem] theorem T.bytes5 : HL.bytesT Try.prog 5 = some 1 := by kernel_rfl
@[go_sem] theorem T.zero5 : HL.zeroT Try.prog 5 = some (.int .u8 0) := by kernel_rfl
@[go_sem] theorem T.agg6 : HL.aggN Try.prog 6 = some none := by kernel_rfl
@[go_sem] theorem T.size6 : HL.sizeT Try.prog 6 = some 1 := by kernel_rfl
@[go_sem] theorem T.bytes6 : HL.bytesT Try.prog 6 = some 1 := by kernel_rfl
@[go_sem] theorem T.zero6 : HL.zeroT Try.prog 6 = some (.int .u8 0) := by kernel_rfl
@[go_sem] theorem T.agg7 : HL.aggN Try.prog 7 = some (some 4) := by kernel_rfl
@[go_sem] theorem T.size7 : HL.sizeT Try.prog 7 = some 4 := by kernel_rfl
@[go_sem] theorem T.bytes7 : HL.bytesT Try.prog 7 = some 24 := by kernel_rfl
@[go_sem] theorem T.zero7 : HL.zeroT Try.prog 7 = some (.agg #[.int .i64 0, .int .i64 0, .bool false, .int .u8 0]) := by kernel_rfl
@[go_sem] theorem T.places7 : HL.placesT Try.prog 7 = some [(0, 1), (1, 1), (2, 1), (3, 1)] := by kernel_rfl
@[go_sem] theorem T.field7_0 : HL.fieldT Try.prog 7 0 = some (0, 2) := by kernel_rfl
@[go_sem] theorem T.fieldO7_0 : HL.fieldO Try.prog 7 0 = some 0 := by kernel_rfl
@[go_sem] theorem T.field7_1 : HL.fieldT Try.prog 7 1 = some (1, 3) := by kernel_rfl
@[go_sem] theorem T.fieldO7_1 : HL.fieldO Try.prog 7 1 = some 1 := by kernel_rfl
@[go_sem] theorem T.field7_2 : HL.fieldT Try.prog 7 2 = some (2, 4) := by kernel_rfl
@[go_sem] theorem T.fieldO7_2 : HL.fieldO Try.prog 7 2 = some 2 := by kernel_rfl
@[go_sem] theorem T.field7_3 : HL.fieldT Try.prog 7 3 = some (3, 6) := by kernel_rfl
@[go_sem] theorem T.fieldO7_3 : HL.fieldO Try.prog 7 3 = some 3 := by kernel_rfl
@[go_sem] theorem T.agg8 : HL.aggN Try.prog 8 = some (some 4) := by kernel_rfl
@[go_sem] theorem T.size8 : HL.sizeT Try.prog 8 = some 4 := by kernel_rfl
@[go_sem] theorem T.bytes8 : HL.bytesT Try.prog 8 = some 24 := by kernel_rfl
@[go_sem] theorem T.zero8 : HL.zeroT Try.prog 8 = some (.agg #[.int .i64 0, .int .i64 0, .bool false, .int .u8 0]) := by kernel_rfl
@[go_sem] theorem T.places8 : HL.placesT Try.prog 8 = some [(0, 1), (1, 1), (2, 1), (3, 1)] := by kernel_rfl
@[go_sem] theorem T.field8_0 : HL.fieldT Try.prog 8 0 = some (0, 2) := by kernel_rfl
@[go_sem] theorem T.fieldO8_0 : HL.fieldO Try.prog 8 0 = some 0 := by kernel_rfl
@[go_sem] theorem T.field8_1 : HL.fieldT Try.prog 8 1 = some (1, 3) := by kernel_rfl
@[go_sem] theorem T.fieldO8_1 : HL.fieldO Try.prog 8 1 = some 1 := by kernel_rfl
@[go_sem] theorem T.field8_2 : HL.fieldT Try.prog 8 2 = some (2, 4) := by kernel_rfl
@[go_sem] theorem T.fieldO8_2 : HL.fieldO Try.prog 8 2 = some 2 := by kernel_rfl
@[go_sem] theorem T.field8_3 : HL.fieldT Try.prog 8 3 = some (3, 6) := by kernel_rfl
@[go_sem] theorem T.fieldO8_3 : HL.fieldO Try.prog 8 3 = some 3 := by kernel_rfl
@[go_sem] theorem T.agg9 : HL.aggN Try.prog 9 = some none := by kernel_rfl
@[go_sem] theorem T.size9 : HL.sizeT Try.prog 9 = some 1 := by kernel_rfl
@[go_sem] theorem T.bytes9 : HL.bytesT Try.prog 9 = some 16 := by kernel_rfl
@[go_sem] theorem T.zero9 : HL.zeroT Try.prog 9 = some (.string ⟨#[]⟩) := by kernel_rfl
@[go_sem] theorem T.agg10 : HL.aggN Try.prog 10 = some none := by kernel_rfl
@[go_sem] theorem T.size10 : HL.sizeT Try.prog 10 = some 1 := by kernel_rfl
@[go_sem] theorem T.bytes10 : HL.bytesT Try.prog 10 = some 16 := by kernel_rfl
@[go_sem] theorem T.zero10 : HL.zeroT Try.prog 10 = some (.string ⟨#[]⟩) := by kernel_rfl
@[go_sem] theorem T.agg11 : HL.aggN Try.prog 11 = some none := by kernel_rfl
@[go_sem] theorem T.size11 : HL.sizeT Try.prog 11 = some 1 := by kernel_rfl
@[go_sem] theorem T.bytes11 : HL.bytesT Try.prog 11 = some 16 := by kernel_rfl
@[go_sem] theorem T.zero11 : HL.zeroT Try.prog 11 = some (.string ⟨#[]⟩) := by kernel_rfl
@[go_sem] theorem T.agg12 : HL.aggN Try.prog 12 = some none := by kernel_rfl
@[go_sem] theorem T.size12 : HL.sizeT Try.prog 12 = some 1 := by kernel_rfl
@[go_sem] theorem T.bytes12 : HL.bytesT Try.prog 12 = some 8 := by kernel_rfl
@[go_sem] theorem T.zero12 : HL.zeroT Try.prog 12 = some (.int .u64 0) := by kernel_rfl
@[go_sem] theorem T.agg13 : HL.aggN Try.prog 13 = some (some 2) := by kernel_rfl
@[go_sem] theorem T.size13 : HL.sizeT Try.prog 13 = some 2 := by kernel_rfl
@[go_sem] theorem T.bytes13 : HL.bytesT Try.prog 13 = some 24 := by kernel_rfl
@[go_sem] theorem T.zero13 : HL.zeroT Try.prog 13 = some (.agg #[.string ⟨#[]⟩, .int .u64 0]) := by kernel_rfl
@[go_sem] theorem T.places13 : HL.placesT Try.prog 13 = some [(0, 1), (1, 1)] := by kernel_rfl
@[go_sem] theorem T.field13_0 : HL.fieldT Try.prog 13 0 = some (0, 9) := by kernel_rfl
@[go_sem] theorem T.fieldO13_0 : HL.fieldO Try.prog 13 0 = some 0 := by kernel_rfl
@[go_sem] theorem T.field13_1 : HL.fieldT Try.prog 13 1 = some (1, 12) := by kernel_rfl
@[go_sem] theorem T.fieldO13_1 : HL.fieldO Try.prog 13 1 = some 1 := by kernel_rfl
@[go_sem] theorem T.agg14 : HL.aggN Try.prog 14 = some (some 2) := by kernel_rfl
@[go_sem] theorem T.size14 : HL.sizeT Try.prog 14 = some 2 := by kernel_rfl
@[go_sem] theorem T.bytes14 : HL.bytesT Try.prog 14 = some 24 := by kernel_rfl
@[go_sem] theorem T.zero14 : HL.zeroT Try.prog 14 = some (.agg #[.string ⟨#[]⟩, .int .u64 0]) := by kernel_rfl
@[go_sem] theorem T.places14 : HL.placesT Try.prog 14 = some [(0, 1), (1, 1)] := by kernel_rfl
@[go_sem] theorem T.field14_0 : HL.fieldT Try.prog 14 0 = some (0, 9) := by kernel_rfl
@[go_sem] theorem T.fieldO14_0 : HL.fieldO Try.prog 14 0 = some 0 := by kernel_rfl
@[go_sem] theorem T.field14_1 : HL.fieldT Try.prog 14 1 = some (1, 12) := by kernel_rfl
@[go_sem] theorem T.fieldO14_1 : HL.fieldO Try.prog 14 1 = some 1 := by kernel_rfl
@[go_sem] theorem T.agg15 : HL.aggN Try.prog 15 = some none := by kernel_rfl
@[go_sem] theorem T.size15 : HL.sizeT Try.prog 15 = some 1 := by kernel_rfl
@[go_sem] theorem T.bytes15 : HL.bytesT Try.prog 15 = some 8 := by kernel_rfl
@[go_sem] theorem T.zero15 : HL.zeroT Try.prog 15 = some (.pointer none) := by kernel_rfl
@[go_sem] theorem T.agg16 : HL.aggN Try.prog 16 = some none := by kernel_rfl
@[go_sem] theorem T.size16 : HL.sizeT Try.prog 16 = some 1 := by kernel_rfl
@[go_sem] theorem T.bytes16 : HL.bytesT Try.prog 16 = some 8 := by kernel_rfl
@[go_sem] theorem T.zero16 : HL.zeroT Try.prog 16 = some (.pointer none) := by kernel_rfl
@[go_sem] theorem T.agg17 : HL.aggN Try.prog 17 = some none := by kernel_rfl
@[go_sem] theorem T.size17 : HL.sizeT Try.prog 17 = some 1 := by kernel_rfl
@[go_sem] theorem T.bytes17 : HL.bytesT Try.prog 17 = some 8 := by kernel_rfl
@[go_sem] theorem T.zero17 : HL.zeroT Try.prog 17 = some (.pointer none) := by kernel_rfl
@[go_sem] theorem T.agg18 : HL.aggN Try.prog 18 = some (some 1) := by kernel_rfl
@[go_sem] theorem T.size18 : HL.sizeT Try.prog 18 = some 1 := by kernel_rfl
@[go_sem] theorem T.bytes18 : HL.bytesT Try.prog 18 = some 8 := by kernel_rfl
@[go_sem] theorem T.zero18 : HL.zeroT Try.prog 18 = some (.agg #[.pointer none]) := by kernel_rfl
@[go_sem] theorem T.places18 : HL.placesT Try.prog 18 = some [(0, 1)] := by kernel_rfl
@[go_sem] theorem T.field18_0 : HL.fieldT Try.prog 18 0 = some (0, 17) := by kernel_rfl
@[go_sem] theorem T.fieldO18_0 : HL.fieldO Try.prog 18 0 = some 0 := by kernel_rfl
@[go_sem] theorem T.agg19 : HL.aggN Try.prog 19 = some (some 1) := by kernel_rfl
@[go_sem] theorem T.size19 : HL.sizeT Try.prog 19 = some 1 := by kernel_rfl
@[go_sem] theorem T.bytes19 : HL.bytesT Try.prog 19 = some 8 := by kernel_rfl
@[go_sem] theorem T.zero19 : HL.zeroT Try.prog 19 = some (.agg #[.pointer none]) := by kernel_rfl
@[go_sem] theorem T.places19 : HL.placesT Try.prog 19 = some [(0, 1)] := by kernel_rfl
@[go_sem] theorem T.field19_0 : HL.fieldT Try.prog 19 0 = some (0, 17) := by kernel_rfl
@[go_sem] theorem T.fieldO19_0 : HL.fieldO Try.prog 19 0 = some 0 := by kernel_rfl
@[go_sem] theorem T.agg20 : HL.aggN Try.prog 20 = some none := by kernel_rfl
@[go_sem] theorem T.size20 : HL.sizeT Try.prog 20 = some 1 := by kernel_rfl
@[go_sem] theorem T.bytes20 : HL.bytesT Try.prog 20 = some 16 := by kernel_rfl
@[go_sem] theorem T.zero20 : HL.zeroT Try.prog 20 = some (.nilIface) := by kernel_rfl
@[go_sem] theorem T.agg21 : HL.aggN Try.prog 21 = some none := by kernel_rfl
@[go_sem] theorem T.size21 : HL.sizeT Try.prog 21 = some 1 := by kernel_rfl
@[go_sem] theorem T.bytes21 : HL.bytesT Try.prog 21 = some 4 := by kernel_rfl
@[go_sem] theorem T.zero21 : HL.zeroT Try.prog 21 = some (.int .i32 0) := by kernel_rfl
@[go_sem] theorem T.agg22 : HL.aggN Try.prog 22 = some none := by kernel_rfl
@[go_sem] theorem T.size22 : HL.sizeT Try.prog 22 = some 1 := by kernel_rfl
@[go_sem] theorem T.bytes22 : HL.bytesT Try.prog 22 = some 24 := by kernel_rfl
@[go_sem] theorem T.zero22 : HL.zeroT Try.prog 22 = some (.slice none 0 0) := by kernel_rfl
@[go_sem] theorem T.elem22 : HL.elemT Try.prog 22 = some 39 := by kernel_rfl
@[go_sem] theorem T.elemS22 : HL.elemS Try.prog 22 = some 4 := by kernel_rfl
@[go_sem] theorem T.agg23 : HL.aggN Try.prog 23 = some none := by kernel_rfl
@[go_sem] theorem T.size23 : HL.sizeT Try.prog 23 = some 1 := by kernel_rfl
@[go_sem] theorem T.bytes23 : HL.bytesT Try.prog 23 = some 24 := by kernel_rfl
@[go_sem] theorem T.zero23 : HL.zeroT Try.prog 23 = some (.slice none 0 0) := by kernel_rfl
@[go_sem] theorem T.elem23 : HL.elemT Try.prog 23 = some 5 := by kernel_rfl
@[go_sem] theorem T.elemS23 : HL.elemS Try.prog 23 = some 1 := by kernel_rfl
@[go_sem] theorem T.agg24 : HL.aggN Try.prog 24 = some none := by kernel_rfl
@[go_sem] theorem T.size24 : HL.sizeT Try.prog 24 = some 1 := by kernel_rfl
@[go_sem] theorem T.bytes24 : HL.bytesT Try.prog 24 = some 8 := by kernel_rfl
@[go_sem] theorem T.zero24 : HL.zeroT Try.prog 24 = some (.nilFunc) := by kernel_rfl
@[go_sem] theorem T.agg25 : HL.aggN Try.prog 25 = some none := by kernel_rfl
@[go_sem] theorem T.size25 : HL.sizeT Try.prog 25 = some 1 := by kernel_rfl
@[go_sem] theorem T.bytes25 : HL.bytesT Try.prog 25 = some 8 := by kernel_rfl
@[go_sem] theorem T.zero25 : HL.zeroT Try.prog 25 = some (.pointer none) := by kernel_rfl
@[go_sem] theorem T.agg26 : HL.aggN Try.prog 26 = some none := by kernel_rfl
@[go_sem] theorem T.size26 : HL.sizeT Try.prog 26 = some 1 := by kernel_rfl
@[go_sem] theorem T.bytes26 : HL.bytesT Try.prog 26 = some 24 := by kernel_rfl
@[go_sem] theorem T.zero26 : HL.zeroT Try.prog 26 = some (.slice none 0 0) := by kernel_rfl
@[go_sem] theorem T.elem26 : HL.elemT Try.prog 26 = some 3 := by kernel_rfl
@[go_sem] theorem T.elemS26 : HL.elemS Try.prog 26 = some 1 := by kernel_rfl
@[go_sem] theorem T.agg28 : HL.aggN Try.prog 28 = some none := by kernel_rfl
@[go_sem] theorem T.size28 : HL.sizeT Try.prog 28 = some 1 := by kernel_rfl
@[go_sem] theorem T.bytes28 : HL.bytesT Try.prog 28 = some 8 := by kernel_rfl
@[go_sem] theorem T.zero28 : HL.zeroT Try.prog 28 = some (.nilFunc) := by kernel_rfl
@[go_sem] theorem T.agg29 : HL.aggN Try.prog 29 = some none := by kernel_rfl
@[go_sem] theorem T.size29 : HL.sizeT Try.prog 29 = some 1 := by kernel_rfl
@[go_sem] theorem T.bytes29 : HL.bytesT Try.prog 29 = some 8 := by kernel_rfl
@[go_sem] theorem T.zero29 : HL.zeroT Try.prog 29 = some (.pointer none) := by kernel_rfl
@[go_sem] theorem T.agg30 : HL.aggN Try.prog 30 = some none := by kernel_rfl
@[go_sem] theorem T.size30 : HL.sizeT Try.prog 30 = some 1 := by kernel_rfl
@[go_sem] theorem T.bytes30 : HL.bytesT Try.prog 30 = some 8 := by kernel_rfl
@[go_sem] theorem T.zero30 : HL.zeroT Try.prog 30 = some (.nilFunc) := by kernel_rfl
@[go_sem] theorem T.agg31 : HL.aggN Try.prog 31 = some none := by kernel_rfl
@[go_sem] theorem T.size31 : HL.sizeT Try.prog 31 = some 1 := by kernel_rfl
@[go_sem] theorem T.bytes31 : HL.bytesT Try.prog 31 = some 8 := by kernel_rfl
@[go_sem] theorem T.zero31 : HL.zeroT Try.prog 31 = some (.nilFunc) := by kernel_rfl
@[go_sem] theorem T.agg32 : HL.aggN Try.prog 32 = some none := by kernel_rfl
@[go_sem] theorem T.size32 : HL.sizeT Try.prog 32 = some 1 := by kernel_rfl
@[go_sem] theorem T.bytes32 : HL.bytesT Try.prog 32 = some 24 := by kernel_rfl
@[go_sem] theorem T.zero32 : HL.zeroT Try.prog 32 = some (.slice none 0 0) := by kernel_rfl
@[go_sem] theorem T.elem32 : HL.elemT Try.prog 32 = some 26 := by kernel_rfl
@[go_sem] theorem T.elemS32 : HL.elemS Try.prog 32 = some 1 := by kernel_rfl
@[go_sem] theorem T.agg33 : HL.aggN Try.prog 33 = some none := by kernel_rfl
@[go_sem] theorem T.size33 : HL.sizeT Try.prog 33 = some 1 := by kernel_rfl
@[go_sem] theorem T.bytes33 : HL.bytesT Try.prog 33 = some 8 := by kernel_rfl
@[go_sem] theorem T.zero33 : HL.zeroT Try.prog 33 = some (.nilFunc) := by kernel_rfl
@[go_sem] theorem T.agg34 : HL.aggN Try.prog 34 = some none := by kernel_rfl
@[go_sem] theorem T.size34 : HL.sizeT Try.prog 34 = some 1 := by kernel_rfl
@[go_sem] theorem T.bytes34 : HL.bytesT Try.prog 34 = some 8 := by kernel_rfl
@[go_sem] theorem T.zero34 : HL.zeroT Try.prog 34 = some (.nilFunc) := by kernel_rfl
@[go_sem] theorem T.agg35 : HL.aggN Try.prog 35 = some none := by kernel_rfl
@[go_sem] theorem T.size35 : HL.sizeT Try.prog 35 = some 1 := by kernel_rfl
@[go_sem] theorem T.bytes35 : HL.bytesT Try.prog 35 = some 8 := by kernel_rfl
@[go_sem] theorem T.zero35 : HL.zeroT Try.prog 35 = some (.nilFunc) := by kernel_rfl
@[go_sem] theorem T.agg36 : HL.aggN Try.prog 36 = some none := by kernel_rfl
@[go_sem] theorem T.size36 : HL.sizeT Try.prog 36 = some 1 := by kernel_rfl
@[go_sem] theorem T.bytes36 : HL.bytesT Try.prog 36 = some 8 := by kernel_rfl
@[go_sem] theorem T.zero36 : HL.zeroT Try.prog 36 = some (.nilFunc) := by kernel_rfl
@[go_sem] theorem T.agg37 : HL.aggN Try.prog 37 = some none := by kernel_rfl
@[go_sem] theorem T.size37 : HL.sizeT Try.prog 37 = some 1 := by kernel_rfl
@[go_sem] theorem T.bytes37 : HL.bytesT Try.prog 37 = some 8 := by kernel_rfl
@[go_sem] theorem T.zero37 : HL.zeroT Try.prog 37 = some (.nilFunc) := by kernel_rfl
@[go_sem] theorem T.agg38 : HL.aggN Try.prog 38 = some (some 4) := by kernel_rfl
@[go_sem] theorem T.size38 : HL.sizeT Try.prog 38 = some 4 := by kernel_rfl
@[go_sem] theorem T.bytes38 : HL.bytesT Try.prog 38 = some 32 := by kernel_rfl
@[go_sem] theorem T.zero38 : HL.zeroT Try.prog 38 = some (.agg #[.int .i64 0, .int .i64 0, .int .i64 0, .int .i64 0]) := by kernel_rfl
@[go_sem] theorem T.places38 : HL.placesT Try.prog 38 = some [(0, 1), (1, 1), (2, 1), (3, 1)] := by kernel_rfl
@[go_sem] theorem T.field38_0 : HL.fieldT Try.prog 38 0 = some (0, 3) := by kernel_rfl
@[go_sem] theorem T.fieldO38_0 : HL.fieldO Try.prog 38 0 = some 0 := by kernel_rfl
@[go_sem] theorem T.field38_1 : HL.fieldT Try.prog 38 1 = some (1, 3) := by kernel_rfl
@[go_sem] theorem T.fieldO38_1 : HL.fieldO Try.prog 38 1 = some 1 := by kernel_rfl
@[go_sem] theorem T.field38_2 : HL.fieldT Try.prog 38 2 = some (2, 3) := by kernel_rfl
@[go_sem] theorem T.fieldO38_2 : HL.fieldO Try.prog 38 2 = some 2 := by kernel_rfl
@[go_sem] theorem T.field38_3 : HL.fieldT Try.prog 38 3 = some (3, 3) := by kernel_rfl
@[go_sem] theorem T.fieldO38_3 : HL.fieldO Try.prog 38 3 = some 3 := by kernel_rfl
@[go_sem] theorem T.agg39 : HL.aggN Try.prog 39 = some (some 4) := by kernel_rfl
@[go_sem] theorem T.size39 : HL.sizeT Try.prog 39 = some 4 := by kernel_rfl
@[go_sem] theorem T.bytes39 : HL.bytesT Try.prog 39 = some 32 := by kernel_rfl
@[go_sem] theorem T.zero39 : HL.zeroT Try.prog 39 = some (.agg #[.int .i64 0, .int .i64 0, .int .i64 0, .int .i64 0]) := by kernel_rfl
@[go_sem] theorem T.places39 : HL.placesT Try.prog 39 = some [(0, 1), (1, 1), (2, 1), (3, 1)] := by kernel_rfl
@[go_sem] theorem T.field39_0 : HL.fieldT Try.prog 39 0 = some (0, 3) := by kernel_rfl
@[go_sem] theorem T.fieldO39_0 : HL.fieldO Try.prog 39 0 = some 0 := by kernel_rfl
@[go_sem] theorem T.field39_1 : HL.fieldT Try.prog 39 1 = some (1, 3) := by kernel_rfl
@[go_sem] theorem T.fieldO39_1 : HL.fieldO Try.prog 39 1 = some 1 := by kernel_rfl
@[go_sem] theorem T.field39_2 : HL.fieldT Try.prog 39 2 = some (2, 3) := by kernel_rfl
@[go_sem] theorem T.fieldO39_2 : HL.fieldO Try.prog 39 2 = some 2 := by kernel_rfl
@[go_sem] theorem T.field39_3 : HL.fieldT Try.prog 39 3 = some (3, 3) := by kernel_rfl
@[go_sem] theorem T.fieldO39_3 : HL.fieldO Try.prog 39 3 = some 3 := by kernel_rfl
@[go_sem] theorem T.agg40 : HL.aggN Try.prog 40 = some none := by kernel_rfl
@[go_sem] theorem T.size40 : HL.sizeT Try.prog 40 = some 1 := by kernel_rfl
@[go_sem] theorem T.bytes40 : HL.bytesT Try.prog 40 = some 8 := by kernel_rfl
@[go_sem] theorem T.zero40 : HL.zeroT Try.prog 40 = some (.nilFunc) := by kernel_rfl
@[go_sem] theorem T.agg41 : HL.aggN Try.prog 41 = some none := by kernel_rfl
@[go_sem] theorem T.size41 : HL.sizeT Try.prog 41 = some 1 := by kernel_rfl
@[go_sem] theorem T.bytes41 : HL.bytesT Try.prog 41 = some 24 := by kernel_rfl
@[go_sem] theorem T.zero41 : HL.zeroT Try.prog 41 = some (.slice none 0 0) := by kernel_rfl
@[go_sem] theorem T.elem41 : HL.elemT Try.prog 41 = some 4 := by kernel_rfl
@[go_sem] theorem T.elemS41 : HL.elemS Try.prog 41 = some 1 := by kernel_rfl
@[go_sem] theorem T.agg42 : HL.aggN Try.prog 42 = some none := by kernel_rfl
@[go_sem] theorem T.size42 : HL.sizeT Try.prog 42 = some 1 := by kernel_rfl
@[go_sem] theorem T.bytes42 : HL.bytesT Try.prog 42 = some 8 := by kernel_rfl
@[go_sem] theorem T.zero42 : HL.zeroT Try.prog 42 = some (.pointer none) := by kernel_rfl
@[go_sem] theorem T.agg43 : HL.aggN Try.prog 43 = some none := by kernel_rfl
@[go_sem] theorem T.size43 : HL.sizeT Try.prog 43 = some 1 := by kernel_rfl
@[go_sem] theorem T.bytes43 : HL.bytesT Try.prog 43 = some 8 := by kernel_rfl
@[go_sem] theorem T.zero43 : HL.zeroT Try.prog 43 = some (.nilFunc) := by kernel_rfl
@[go_sem] theorem T.agg44 : HL.aggN Try.prog 44 = some none := by kernel_rfl
@[go_sem] theorem T.size44 : HL.sizeT Try.prog 44 = some 1 := by kernel_rfl
@[go_sem] theorem T.bytes44 : HL.bytesT Try.prog 44 = some 8 := by kernel_rfl
@[go_sem] theorem T.zero44 : HL.zeroT Try.prog 44 = some (.pointer none) := by kernel_rfl
@[go_sem] theorem T.agg45 : HL.aggN Try.prog 45 = some none := by kernel_rfl
@[go_sem] theorem T.size45 : HL.sizeT Try.prog 45 = some 1 := by kernel_rfl
@[go_sem] theorem T.bytes45 : HL.bytesT Try.prog 45 = some 8 := by kernel_rfl
@[go_sem] theorem T.zero45 : HL.zeroT Try.prog 45 = some (.nilFunc) := by kernel_rfl
@[go_sem] theorem T.agg46 : HL.aggN Try.prog 46 = some (some 3) := by kernel_rfl
@[go_sem] theorem T.size46 : HL.sizeT Try.prog 46 = some 3 := by kernel_rfl
@[go_sem] theorem T.bytes46 : HL.bytesT Try.prog 46 = some 56 := by kernel_rfl
@[go_sem] theorem T.zero46 : HL.zeroT Try.prog 46 = some (.agg #[.pointer none, .slice none 0 0, .slice none 0 0]) := by kernel_rfl
@[go_sem] theorem T.places46 : HL.placesT Try.prog 46 = some [(0, 1), (1, 1), (2, 1)] := by kernel_rfl
@[go_sem] theorem T.field46_0 : HL.fieldT Try.prog 46 0 = some (0, 42) := by kernel_rfl
@[go_sem] theorem T.fieldO46_0 : HL.fieldO Try.prog 46 0 = some 0 := by kernel_rfl
@[go_sem] theorem T.field46_1 : HL.fieldT Try.prog 46 1 = some (1, 26) := by kernel_rfl
@[go_sem] theorem T.fieldO46_1 : HL.fieldO Try.prog 46 1 = some 1 := by kernel_rfl
@[go_sem] theorem T.field46_2 : HL.fieldT Try.prog 46 2 = some (2, 32) := by kernel_rfl
@[go_sem] theorem T.fieldO46_2 : HL.fieldO Try.prog 46 2 = some 2 := by kernel_rfl
@[go_sem] theorem T.agg47 : HL.aggN Try.prog 47 = some (some 3) := by kernel_rfl
@[go_sem] theorem T.size47 : HL.sizeT Try.prog 47 = some 3 := by kernel_rfl
@[go_sem] theorem T.bytes47 : HL.bytesT Try.prog 47 = some 56 := by kernel_rfl
@[go_sem] theorem T.zero47 : HL.zeroT Try.prog 47 = some (.agg #[.pointer none, .slice none 0 0, .slice none 0 0]) := by kernel_rfl
@[go_sem] theorem T.places47 : HL.placesT Try.prog 47 = some [(0, 1), (1, 1), (2, 1)] := by kernel_rfl
@[go_sem] theorem T.field47_0 : HL.fieldT Try.prog 47 0 = some (0, 42) := by kernel_rfl
@[go_sem] theorem T.fieldO47_0 : HL.fieldO Try.prog 47 0 = some 0 := by kernel_rfl
@[go_sem] theorem T.field47_1 : HL.fieldT Try.prog 47 1 = some (1, 26) := by kernel_rfl
@[go_sem] theorem T.fieldO47_1 : HL.fieldO Try.prog 47 1 = some 1 := by kernel_rfl
@[go_sem] theorem T.field47_2 : HL.fieldT Try.prog 47 2 = some (2, 32) := by kernel_rfl
@[go_sem] theorem T.fieldO47_2 : HL.fieldO Try.prog 47 2 = some 2 := by kernel_rfl
@[go_sem] theorem T.agg48 : HL.aggN Try.prog 48 = some none := by kernel_rfl
@[go_sem] theorem T.size48 : HL.sizeT Try.prog 48 = some 1 := by kernel_rfl
@[go_sem] theorem T.bytes48 : HL.bytesT Try.prog 48 = some 8 := by kernel_rfl
@[go_sem] theorem T.zero48 : HL.zeroT Try.prog 48 = some (.nilFunc) := by kernel_rfl
@[go_sem] theorem T.agg49 : HL.aggN Try.prog 49 = some none := by kernel_rfl
@[go_sem] theorem T.size49 : HL.sizeT Try.prog 49 = some 1 := by kernel_rfl
@[go_sem] theorem T.bytes49 : HL.bytesT Try.prog 49 = some 8 := by kernel_rfl
@[go_sem] theorem T.zero49 : HL.zeroT Try.prog 49 = some (.nilFunc) := by kernel_rfl
@[go_sem] theorem T.agg50 : HL.aggN Try.prog 50 = some none := by kernel_rfl
@[go_sem] theorem T.size50 : HL.sizeT Try.prog 50 = some 1 := by kernel_rfl
@[go_sem] theorem T.bytes50 : HL.bytesT Try.prog 50 = some 8 := by kernel_rfl
@[go_sem] theorem T.zero50 : HL.zeroT Try.prog 50 = some (.nilFunc) := by kernel_rfl
@[go_sem] theorem T.agg51 : HL.aggN Try.prog 51 = some none := by kernel_rfl
@[go_sem] theorem T.size51 : HL.sizeT Try.prog 51 = some 1 := by kernel_rfl
@[go_sem] theorem T.bytes51 : HL.bytesT Try.prog 51 = some 8 := by kernel_rfl
@[go_sem] theorem T.zero51 : HL.zeroT Try.prog 51 = some (.nilFunc) := by kernel_rfl
@[go_sem] theorem T.agg52 : HL.aggN Try.prog 52 = some none := by kernel_rfl
@[go_sem] theorem T.size52 : HL.sizeT Try.prog 52 = some 1 := by kernel_rfl
@[go_sem] theorem T.bytes52 : HL.bytesT Try.prog 52 = some 8 := by kernel_rfl
@[go_sem] theorem T.zero52 : HL.zeroT Try.prog 52 = some (.nilFunc) := by kernel_rfl
@[go_sem] theorem T.agg54 : HL.aggN Try.prog 54 = some none := by kernel_rfl
@[go_sem] theorem T.size54 : HL.sizeT Try.prog 54 = some 1 := by kernel_rfl
@[go_sem] theorem T.bytes54 : HL.bytesT Try.prog 54 = some 8 := by kernel_rfl
@[go_sem] theorem T.zero54 : HL.zeroT Try.prog 54 = some (.nilFunc) := by kernel_rfl
@[go_sem] theorem T.agg55 : HL.aggN Try.prog 55 = some none := by kernel_rfl
@[go_sem] theorem T.size55 : HL.sizeT Try.prog 55 = some 1 := by kernel_rfl
@[go_sem] theorem T.bytes55 : HL.bytesT Try.prog 55 = some 8 := by kernel_rfl
@[go_sem] theorem T.zero55 : HL.zeroT Try.prog 55 = some (.nilFunc) := by kernel_rfl
@[go_sem] theorem T.agg56 : HL.aggN Try.prog 56 = some none := by kernel_rfl
@[go_sem] theorem T.size56 : HL.sizeT Try.prog 56 = some 1 := by kernel_rfl
@[go_sem] theorem T.bytes56 : HL.bytesT Try.prog 56 = some 8 := by kernel_rfl
@[go_sem] theorem T.zero56 : HL.zeroT Try.prog 56 = some (.nilFunc) := by kernel_rfl
@[go_sem] theorem T.agg57 : HL.aggN Try.prog 57 = some none := by kernel_rfl
@[go_sem] theorem T.size57 : HL.sizeT Try.prog 57 = some 1 := by kernel_rfl
@[go_sem] theorem T.bytes57 : HL.bytesT Try.prog 57 = some 8 := by kernel_rfl
@[go_sem] theorem T.zero57 : HL.zeroT Try.prog 57 = some (.nilFunc) := by kernel_rfl
@[go_sem] theorem T.agg58 : HL.aggN Try.prog 58 = some none := by kernel_rfl
@[go_sem] theorem T.size58 : HL.sizeT Try.prog 58 = some 1 := by kernel_rfl
@[go_sem] theorem T.bytes58 : HL.bytesT Try.prog 58 = some 8 := by kernel_rfl
@[go_sem] theorem T.zero58 : HL.zeroT Try.prog 58 = some (.map none) := by kernel_rfl
@[go_sem] theorem T.agg59 : HL.aggN Try.prog 59 = some (some 3) := by kernel_rfl
@[go_sem] theorem T.size59 : HL.sizeT Try.prog 59 = some 3 := by kernel_rfl
@[go_sem] theorem T.bytes59 : HL.bytesT Try.prog 59 = some 40 := by kernel_rfl
@[go_sem] theorem T.zero59 : HL.zeroT Try.prog 59 = some (.agg #[.pointer none, .map none, .slice none 0 0]) := by kernel_rfl
@[go_sem] theorem T.places59 : HL.placesT Try.prog 59 = some [(0, 1), (1, 1), (2, 1)] := by kernel_rfl
@[go_sem] theorem T.field59_0 : HL.fieldT Try.prog 59 0 = some (0, 25) := by kernel_rfl
@[go_sem] theorem T.fieldO59_0 : HL.fieldO Try.prog 59 0 = some 0 := by kernel_rfl
@[go_sem] theorem T.field59_1 : HL.fieldT Try.prog 59 1 = some (1, 58) := by kernel_rfl
@[go_sem] theorem T.fieldO59_1 : HL.fieldO Try.prog 59 1 = some 1 := by kernel_rfl
@[go_sem] theorem T.field59_2 : HL.fieldT Try.prog 59 2 = some (2, 32) := by kernel_rfl
@[go_sem] theorem T.fieldO59_2 : HL.fieldO Try.prog 59 2 = some 2 := by kernel_rfl
@[go_sem] theorem T.agg60 : HL.aggN Try.prog 60 = some (some 3) := by kernel_rfl
@[go_sem] theorem T.size60 : HL.sizeT Try.prog 60 = some 3 := by kernel_rfl
@[go_sem] theorem T.bytes60 : HL.bytesT Try.prog 60 = some 40 := by kernel_rfl
@[go_sem] theorem T.zero60 : HL.zeroT Try.prog 60 = some (.agg #[.pointer none, .map none, .slice none 0 0]) := by kernel_rfl
@[go_sem] theorem T.places60 : HL.placesT Try.prog 60 = some [(0, 1), (1, 1), (2, 1)] := by kernel_rfl
@[go_sem] theorem T.field60_0 : HL.fieldT Try.prog 60 0 = some (0, 25) := by kernel_rfl
@[go_sem] theorem T.fieldO60_0 : HL.fieldO Try.prog 60 0 = some 0 := by kernel_rfl
@[go_sem] theorem T.field60_1 : HL.fieldT Try.prog 60 1 = some (1, 58) := by kernel_rfl
@[go_sem] theorem T.fieldO60_1 : HL.fieldO Try.prog 60 1 = some 1 := by kernel_rfl
@[go_sem] theorem T.field60_2 : HL.fieldT Try.prog 60 2 = some (2, 32) := by kernel_rfl
@[go_sem] theorem T.fieldO60_2 : HL.fieldO Try.prog 60 2 = some 2 := by kernel_rfl
@[go_sem] theorem T.agg61 : HL.aggN Try.prog 61 = some none := by kernel_rfl
@[go_sem] theorem T.size61 : HL.sizeT Try.prog 61 = some 1 := by kernel_rfl
@[go_sem] theorem T.bytes61 : HL.bytesT Try.prog 61 = some 8 := by kernel_rfl
@[go_sem] theorem T.zero61 : HL.zeroT Try.prog 61 = some (.nilFunc) := by kernel_rfl
@[go_sem] theorem T.agg62 : HL.aggN Try.prog 62 = some (some 2) := by kernel_rfl
@[go_sem] theorem T.size62 : HL.sizeT Try.prog 62 = some 2 := by kernel_rfl
@[go_sem] theorem T.bytes62 : HL.bytesT Try.prog 62 = some 16 := by kernel_rfl
@[go_sem] theorem T.zero62 : HL.zeroT Try.prog 62 = some (.agg #[.int .i64 0, .int .i64 0]) := by kernel_rfl
@[go_sem] theorem T.places62 : HL.placesT Try.prog 62 = some [(0, 1), (1, 1)] := by kernel_rfl
@[go_sem] theorem T.field62_0 : HL.fieldT Try.prog 62 0 = some (0, 3) := by kernel_rfl
@[go_sem] theorem T.fieldO62_0 : HL.fieldO Try.prog 62 0 = some 0 := by kernel_rfl
@[go_sem] theorem T.field62_1 : HL.fieldT Try.prog 62 1 = some (1, 3) := by kernel_rfl
@[go_sem] theorem T.fieldO62_1 : HL.fieldO Try.prog 62 1 = some 1 := by kernel_rfl
@[go_sem] theorem T.agg63 : HL.aggN Try.prog 63 = some (some 2) := by kernel_rfl
@[go_sem] theorem T.size63 : HL.sizeT Try.prog 63 = some 2 := by kernel_rfl
@[go_sem] theorem T.bytes63 : HL.bytesT Try.prog 63 = some 16 := by kernel_rfl
@[go_sem] theorem T.zero63 : HL.zeroT Try.prog 63 = some (.agg #[.int .i64 0, .int .i64 0]) := by kernel_rfl
@[go_sem] theorem T.places63 : HL.placesT Try.prog 63 = some [(0, 1), (1, 1)] := by kernel_rfl
@[go_sem] theorem T.field63_0 : HL.fieldT Try.prog 63 0 = some (0, 3) := by kernel_rfl
@[go_sem] theorem T.fieldO63_0 : HL.fieldO Try.prog 63 0 = some 0 := by kernel_rfl
@[go_sem] theorem T.field63_1 : HL.fieldT Try.prog 63 1 = some (1, 3) := by kernel_rfl
@[go_sem] theorem T.fieldO63_1 : HL.fieldO Try.prog 63 1 = some 1 := by kernel_rfl
@[go_sem] theorem T.agg65 : HL.aggN Try.prog 65 = some none := by kernel_rfl
@[go_sem] theorem T.size65 : HL.sizeT Try.prog 65 = some 1 := by kernel_rfl
@[go_sem] theorem T.bytes65 : HL.bytesT Try.prog 65 = some 24 := by kernel_rfl
@[go_sem] theorem T.zero65 : HL.zeroT Try.prog 65 = some (.slice none 0 0) := by kernel_rfl
@[go_sem] theorem T.elem65 : HL.elemT Try.prog 65 = some 63 := by kernel_rfl
@[go_sem] theorem T.elemS65 : HL.elemS Try.prog 65 = some 2 := by kernel_rfl
@[go_sem] theorem T.agg66 : HL.aggN Try.prog 66 = some none := by kernel_rfl
@[go_sem] theorem T.size66 : HL.sizeT Try.prog 66 = some 1 := by kernel_rfl
@[go_sem] theorem T.bytes66 : HL.bytesT Try.prog 66 = some 8 := by kernel_rfl
@[go_sem] theorem T.zero66 : HL.zeroT Try.prog 66 = some (.map none) := by kernel_rfl
@[go_sem] theorem T.agg67 : HL.aggN Try.prog 67 = some (some 3) := by kernel_rfl
@[go_sem] theorem T.size67 : HL.sizeT Try.prog 67 = some 3 := by kernel_rfl
@[go_sem] theorem T.bytes67 : HL.bytesT Try.prog 67 = some 56 := by kernel_rfl
@[go_sem] theorem T.zero67 : HL.zeroT Try.prog 67 = some (.agg #[.slice none 0 0, .slice none 0 0, .map none]) := by kernel_rfl
@[go_sem] theorem T.places67 : HL.placesT Try.prog 67 = some [(0, 1), (1, 1), (2, 1)] := by kernel_rfl
@[go_sem] theorem T.field67_0 : HL.fieldT Try.prog 67 0 = some (0, 65) := by kernel_rfl
@[go_sem] theorem T.fieldO67_0 : HL.fieldO Try.prog 67 0 = some 0 := by kernel_rfl
@[go_sem] theorem T.field67_1 : HL.fieldT Try.prog 67 1 = some (1, 26) := by kernel_rfl
@[go_sem] theorem T.fieldO67_1 : HL.fieldO Try.prog 67 1 = some 1 := by kernel_rfl
@[go_sem] theorem T.field67_2 : HL.fieldT Try.prog 67 2 = some (2, 66) := by kernel_rfl
@[go_sem] theorem T.fieldO67_2 : HL.fieldO Try.prog 67 2 = some 2 := by kernel_rfl
@[go_sem] theorem T.agg68 : HL.aggN Try.prog 68 = some (some 3) := by kernel_rfl
@[go_sem] theorem T.size68 : HL.sizeT Try.prog 68 = some 3 := by kernel_rfl
@[go_sem] theorem T.bytes68 : HL.bytesT Try.prog 68 = some 56 := by kernel_rfl
@[go_sem] theorem T.zero68 : HL.zeroT Try.prog 68 = some (.agg #[.slice none 0 0, .slice none 0 0, .map none]) := by kernel_rfl
@[go_sem] theorem T.places68 : HL.placesT Try.prog 68 = some [(0, 1), (1, 1), (2, 1)] := by kernel_rfl
@[go_sem] theorem T.field68_0 : HL.fieldT Try.prog 68 0 = some (0, 65) := by kernel_rfl
@[go_sem] theorem T.fieldO68_0 : HL.fieldO Try.prog 68 0 = some 0 := by kernel_rfl
@[go_sem] theorem T.field68_1 : HL.fieldT Try.prog 68 1 = some (1, 26) := by kernel_rfl
@[go_sem] theorem T.fieldO68_1 : HL.fieldO Try.prog 68 1 = some 1 := by kernel_rfl
@[go_sem] theorem T.field68_2 : HL.fieldT Try.prog 68 2 = some (2, 66) := by kernel_rfl
@[go_sem] theorem T.fieldO68_2 : HL.fieldO Try.prog 68 2 = some 2 := by kernel_rfl
@[go_sem] theorem T.agg69 : HL.aggN Try.prog 69 = some none := by kernel_rfl
@[go_sem] theorem T.size69 : HL.sizeT Try.prog 69 = some 1 := by kernel_rfl
@[go_sem] theorem T.bytes69 : HL.bytesT Try.prog 69 = some 8 := by kernel_rfl
@[go_sem] theorem T.zero69 : HL.zeroT Try.prog 69 = some (.nilFunc) := by kernel_rfl
@[go_sem] theorem T.agg70 : HL.aggN Try.prog 70 = some none := by kernel_rfl
@[go_sem] theorem T.size70 : HL.sizeT Try.prog 70 = some 1 := by kernel_rfl
@[go_sem] theorem T.bytes70 : HL.bytesT Try.prog 70 = some 24 := by kernel_rfl
@[go_sem] theorem T.zero70 : HL.zeroT Try.prog 70 = some (.slice none 0 0) := by kernel_rfl
@[go_sem] theorem T.elem70 : HL.elemT Try.prog 70 = some 74 := by kernel_rfl
@[go_sem] theorem T.elemS70 : HL.elemS Try.prog 70 = some 3 := by kernel_rfl
@[go_sem] theorem T.agg71 : HL.aggN Try.prog 71 = some (some 1) := by kernel_rfl
@[go_sem] theorem T.size71 : HL.sizeT Try.prog 71 = some 1 := by kernel_rfl
@[go_sem] theorem T.bytes71 : HL.bytesT Try.prog 71 = some 24 := by kernel_rfl
@[go_sem] theorem T.zero71 : HL.zeroT Try.prog 71 = some (.agg #[.slice none 0 0]) := by kernel_rfl
@[go_sem] theorem T.places71 : HL.placesT Try.prog 71 = some [(0, 1)] := by kernel_rfl
@[go_sem] theorem T.field71_0 : HL.fieldT Try.prog 71 0 = some (0, 70) := by kernel_rfl
@[go_sem] theorem T.fieldO71_0 : HL.fieldO Try.prog 71 0 = some 0 := by kernel_rfl
@[go_sem] theorem T.agg72 : HL.aggN Try.prog 72 = some (some 1) := by kernel_rfl
@[go_sem] theorem T.size72 : HL.sizeT Try.prog 72 = some 1 := by kernel_rfl
@[go_sem] theorem T.bytes72 : HL.bytesT Try.prog 72 = some 24 := by kernel_rfl
@[go_sem] theorem T.zero72 : HL.zeroT Try.prog 72 = some (.agg #[.slice none 0 0]) := by kernel_rfl
@[go_sem] theorem T.places72 : HL.placesT Try.prog 72 = some [(0, 1)] := by kernel_rfl
@[go_sem] theorem T.field72_0 : HL.fieldT Try.prog 72 0 = some (0, 70) := by kernel_rfl
@[go_sem] theorem T.fieldO72_0 : HL.fieldO Try.prog 72 0 = some 0 := by kernel_rfl
@[go_sem] theorem T.agg73 : HL.aggN Try.prog 73 = some (some 3) := by kernel_rfl
@[go_sem] theorem T.size73 : HL.sizeT Try.prog 73 = some 3 := by kernel_rfl
@[go_sem] theorem T.bytes73 : HL.bytesT Try.prog 73 = some 24 := by kernel_rfl
@[go_sem] theorem T.zero73 : HL.zeroT Try.prog 73 = some (.agg #[.bool false, .int .i64 0, .int .i64 0]) := by kernel_rfl
@[go_sem] theorem T.places73 : HL.placesT Try.prog 73 = some [(0, 1), (1, 1), (2, 1)] := by kernel_rfl
@[go_sem] theorem T.field73_0 : HL.fieldT Try.prog 73 0 = some (0, 4) := by kernel_rfl
@[go_sem] theorem T.fieldO73_0 : HL.fieldO Try.prog 73 0 = some 0 := by kernel_rfl
@[go_sem] theorem T.field73_1 : HL.fieldT Try.prog 73 1 = some (1, 3) := by kernel_rfl
@[go_sem] theorem T.fieldO73_1 : HL.fieldO Try.prog 73 1 = some 1 := by kernel_rfl
@[go_sem] theorem T.field73_2 : HL.fieldT Try.prog 73 2 = some (2, 3) := by kernel_rfl
@[go_sem] theorem T.fieldO73_2 : HL.fieldO Try.prog 73 2 = some 2 := by kernel_rfl
@[go_sem] theorem T.agg74 : HL.aggN Try.prog 74 = some (some 3) := by kernel_rfl
@[go_sem] theorem T.size74 : HL.sizeT Try.prog 74 = some 3 := by kernel_rfl
@[go_sem] theorem T.bytes74 : HL.bytesT Try.prog 74 = some 24 := by kernel_rfl
@[go_sem] theorem T.zero74 : HL.zeroT Try.prog 74 = some (.agg #[.bool false, .int .i64 0, .int .i64 0]) := by kernel_rfl
@[go_sem] theorem T.places74 : HL.placesT Try.prog 74 = some [(0, 1), (1, 1), (2, 1)] := by kernel_rfl
@[go_sem] theorem T.field74_0 : HL.fieldT Try.prog 74 0 = some (0, 4) := by kernel_rfl
@[go_sem] theorem T.fieldO74_0 : HL.fieldO Try.prog 74 0 = some 0 := by kernel_rfl
@[go_sem] theorem T.field74_1 : HL.fieldT Try.prog 74 1 = some (1, 3) := by kernel_rfl
@[go_sem] theorem T.fieldO74_1 : HL.fieldO Try.prog 74 1 = some 1 := by kernel_rfl
@[go_sem] theorem T.field74_2 : HL.fieldT Try.prog 74 2 = some (2, 3) := by kernel_rfl
@[go_sem] theorem T.fieldO74_2 : HL.fieldO Try.prog 74 2 = some 2 := by kernel_rfl
@[go_sem] theorem T.agg75 : HL.aggN Try.prog 75 = some none := by kernel_rfl
@[go_sem] theorem T.size75 : HL.sizeT Try.prog 75 = some 1 := by kernel_rfl
@[go_sem] theorem T.bytes75 : HL.bytesT Try.prog 75 = some 8 := by kernel_rfl
@[go_sem] theorem T.zero75 : HL.zeroT Try.prog 75 = some (.nilFunc) := by kernel_rfl
@[go_sem] theorem T.agg76 : HL.aggN Try.prog 76 = some none := by kernel_rfl
@[go_sem] theorem T.size76 : HL.sizeT Try.prog 76 = some 1 := by kernel_rfl
@[go_sem] theorem T.bytes76 : HL.bytesT Try.prog 76 = some 8 := by kernel_rfl
@[go_sem] theorem T.zero76 : HL.zeroT Try.prog 76 = some (.nilFunc) := by kernel_rfl
@[go_sem] theorem T.agg77 : HL.aggN Try.prog 77 = some none := by kernel_rfl
@[go_sem] theorem T.size77 : HL.sizeT Try.prog 77 = some 1 := by kernel_rfl
@[go_sem] theorem T.bytes77 : HL.bytesT Try.prog 77 = some 8 := by kernel_rfl
@[go_sem] theorem T.zero77 : HL.zeroT Try.prog 77 = some (.nilFunc) := by kernel_rfl
@[go_sem] theorem T.agg78 : HL.aggN Try.prog 78 = some (some 4) := by kernel_rfl
@[go_sem] theorem T.size78 : HL.sizeT Try.prog 78 = some 4 := by kernel_rfl
@[go_sem] theorem T.bytes78 : HL.bytesT Try.prog 78 = some 40 := by kernel_rfl
@[go_sem] theorem T.zero78 : HL.zeroT Try.prog 78 = some (.agg #[.pointer none, .pointer none, .pointer none, .string ⟨#[]⟩]) := by kernel_rfl
@[go_sem] theorem T.places78 : HL.placesT Try.prog 78 = some [(0, 1), (1, 1), (2, 1), (3, 1)] := by kernel_rfl
@[go_sem] theorem T.field78_0 : HL.fieldT Try.prog 78 0 = some (0, 17) := by kernel_rfl
@[go_sem] theorem T.fieldO78_0 : HL.fieldO Try.prog 78 0 = some 0 := by kernel_rfl
@[go_sem] theorem T.field78_1 : HL.fieldT Try.prog 78 1 = some (1, 17) := by kernel_rfl
@[go_sem] theorem T.fieldO78_1 : HL.fieldO Try.prog 78 1 = some 1 := by kernel_rfl
@[go_sem] theorem T.field78_2 : HL.fieldT Try.prog 78 2 = some (2, 17) := by kernel_rfl
@[go_sem] theorem T.fieldO78_2 : HL.fieldO Try.prog 78 2 = some 2 := by kernel_rfl
@[go_sem] theorem T.field78_3 : HL.fieldT Try.prog 78 3 = some (3, 9) := by kernel_rfl
@[go_sem] theorem T.fieldO78_3 : HL.fieldO Try.prog 78 3 = some 3 := by kernel_rfl
@[go_sem] theorem T.agg79 : HL.aggN Try.prog 79 = some (some 4) := by kernel_rfl
@[go_sem] theorem T.size79 : HL.sizeT Try.prog 79 = some 4 := by kernel_rfl
@[go_sem] theorem T.bytes79 : HL.bytesT Try.prog 79 = some 40 := by kernel_rfl
@[go_sem] theorem T.zero79 : HL.zeroT Try.prog 79 = some (.agg #[.pointer none, .pointer none, .pointer none, .string ⟨#[]⟩]) := by kernel_rfl
@[go_sem] theorem T.places79 : HL.placesT Try.prog 79 = some [(0, 1), (1, 1), (2, 1), (3, 1)] := by kernel_rfl
@[go_sem] theorem T.field79_0 : HL.fieldT Try.prog 79 0 = some (0, 17) := by kernel_rfl
@[go_sem] theorem T.fieldO79_0 : HL.fieldO Try.prog 79 0 = some 0 := by kernel_rfl
@[go_sem] theorem T.field79_1 : HL.fieldT Try.prog 79 1 = some (1, 17) := by kernel_rfl
@[go_sem] theorem T.fieldO79_1 : HL.fieldO Try.prog 79 1 = some 1 := by kernel_rfl
@[go_sem] theorem T.field79_2 : HL.fieldT Try.prog 79 2 = some (2, 17) := by kernel_rfl
@[go_sem] theorem T.fieldO79_2 : HL.fieldO Try.prog 79 2 = some 2 := by kernel_rfl
@[go_sem] theorem T.field79_3 : HL.fieldT Try.prog 79 3 = some (3, 9) := by kernel_rfl
@[go_sem] theorem T.fieldO79_3 : HL.fieldO Try.prog 79 3 = some 3 := by kernel_rfl
@[go_sem] theorem T.agg80 : HL.aggN Try.prog 80 = some (some 0) := by kernel_rfl
@[go_sem] theorem T.size80 : HL.sizeT Try.prog 80 = some 0 := by kernel_rfl
@[go_sem] theorem T.bytes80 : HL.bytesT Try.prog 80 = some 0 := by kernel_rfl
@[go_sem] theorem T.zero80 : HL.zeroT Try.prog 80 = some (.agg #[]) := by kernel_rfl
@[go_sem] theorem T.places80 : HL.placesT Try.prog 80 = none := by kernel_rfl
@[go_sem] theorem T.arr80 : HL.arrT Try.prog 80 = some (0, 16) := by kernel_rfl
@[go_sem] theorem T.arrS80 : HL.arrS Try.prog 80 = some (0, 1) := by kernel_rfl
@[go_sem] theorem T.agg81 : HL.aggN Try.prog 81 = some (some 0) := by kernel_rfl
@[go_sem] theorem T.size81 : HL.sizeT Try.prog 81 = some 0 := by kernel_rfl
@[go_sem] theorem T.bytes81 : HL.bytesT Try.prog 81 = some 0 := by kernel_rfl
@[go_sem] theorem T.zero81 : HL.zeroT Try.prog 81 = some (.agg #[]) := by kernel_rfl
@[go_sem] theorem T.places81 : HL.placesT Try.prog 81 = some [(0, 0)] := by kernel_rfl
@[go_sem] theorem T.field81_0 : HL.fieldT Try.prog 81 0 = some (0, 80) := by kernel_rfl
@[go_sem] theorem T.agg82 : HL.aggN Try.prog 82 = some (some 0) := by kernel_rfl
@[go_sem] theorem T.size82 : HL.sizeT Try.prog 82 = some 0 := by kernel_rfl
@[go_sem] theorem T.bytes82 : HL.bytesT Try.prog 82 = some 0 := by kernel_rfl
@[go_sem] theorem T.zero82 : HL.zeroT Try.prog 82 = some (.agg #[]) := by kernel_rfl
@[go_sem] theorem T.places82 : HL.placesT Try.prog 82 = some [(0, 0)] := by kernel_rfl
@[go_sem] theorem T.field82_0 : HL.fieldT Try.prog 82 0 = some (0, 80) := by kernel_rfl
@[go_sem] theorem T.agg83 : HL.aggN Try.prog 83 = some none := by kernel_rfl
@[go_sem] theorem T.size83 : HL.sizeT Try.prog 83 = some 1 := by kernel_rfl
@[go_sem] theorem T.bytes83 : HL.bytesT Try.prog 83 = some 4 := by kernel_rfl
@[go_sem] theorem T.zero83 : HL.zeroT Try.prog 83 = some (.int .u32 0) := by kernel_rfl
@[go_sem] theorem T.agg84 : HL.aggN Try.prog 84 = some none := by kernel_rfl
@[go_sem] theorem T.size84 : HL.sizeT Try.prog 84 = some 1 := by kernel_rfl
@[go_sem] theorem T.bytes84 : HL.bytesT Try.prog 84 = some 1 := by kernel_rfl
@[go_sem] theorem T.zero84 : HL.zeroT Try.prog 84 = some (.int .u8 0) := by kernel_rfl
@[go_sem] theorem T.agg85 : HL.aggN Try.prog 85 = some none := by kernel_rfl
@[go_sem] theorem T.size85 : HL.sizeT Try.prog 85 = some 1 := by kernel_rfl
@[go_sem] theorem T.bytes85 : HL.bytesT Try.prog 85 = some 1 := by kernel_rfl
@[go_sem] theorem T.zero85 : HL.zeroT Try.prog 85 = some (.int .u8 0) := by kernel_rfl
@[go_sem] theorem T.agg86 : HL.aggN Try.prog 86 = some none := by kernel_rfl
@[go_sem] theorem T.size86 : HL.sizeT Try.prog 86 = some 1 := by kernel_rfl
@[go_sem] theorem T.bytes86 : HL.bytesT Try.prog 86 = some 8 := by kernel_rfl
@[go_sem] theorem T.zero86 : HL.zeroT Try.prog 86 = some (.nilFunc) := by kernel_rfl
@[go_sem] theorem T.agg87 : HL.aggN Try.prog 87 = some none := by kernel_rfl
@[go_sem] theorem T.size87 : HL.sizeT Try.prog 87 = some 1 := by kernel_rfl
@[go_sem] theorem T.bytes87 : HL.bytesT Try.prog 87 = some 8 := by kernel_rfl
@[go_sem] theorem T.zero87 : HL.zeroT Try.prog 87 = some (.pointer none) := by kernel_rfl
@[go_sem] theorem T.agg88 : HL.aggN Try.prog 88 = some none := by kernel_rfl
@[go_sem] theorem T.size88 : HL.sizeT Try.prog 88 = some 1 := by kernel_rfl
@[go_sem] theorem T.bytes88 : HL.bytesT Try.prog 88 = some 4 := by kernel_rfl
@[go_sem] theorem T.zero88 : HL.zeroT Try.prog 88 = some (.int .i32 0) := by kernel_rfl
@[go_sem] theorem T.agg89 : HL.aggN Try.prog 89 = some none := by kernel_rfl
@[go_sem] theorem T.size89 : HL.sizeT Try.prog 89 = some 1 := by kernel_rfl
@[go_sem] theorem T.bytes89 : HL.bytesT Try.prog 89 = some 4 := by kernel_rfl
@[go_sem] theorem T.zero89 : HL.zeroT Try.prog 89 = some (.int .i32 0) := by kernel_rfl
@[go_sem] theorem T.agg90 : HL.aggN Try.prog 90 = some (some 11) := by kernel_rfl
@[go_sem] theorem T.size90 : HL.sizeT Try.prog 90 = some 11 := by kernel_rfl
@[go_sem] theorem T.bytes90 : HL.bytesT Try.prog 90 = some 48 := by kernel_rfl
@[go_sem] theorem T.zero90 : HL.zeroT Try.prog 90 = some (.agg #[.int .u64 0, .int .u64 0, .int .u32 0, .int .u8 0, .int .u8 0, .int .u8 0, .int .u8 0, .nilFunc, .pointer none, .int .i32 0, .int .i32 0]) := by kernel_rfl
@[go_sem] theorem T.places90 : HL.placesT Try.prog 90 = some [(0, 1), (1, 1), (2, 1), (3, 1), (4, 1), (5, 1), (6, 1), (7, 1), (8, 1), (9, 1), (10, 1)] := by kernel_rfl
@[go_sem] theorem T.field90_0 : HL.fieldT Try.prog 90 0 = some (0, 12) := by kernel_rfl
@[go_sem] theorem T.fieldO90_0 : HL.fieldO Try.prog 90 0 = some 0 := by kernel_rfl
@[go_sem] theorem T.field90_1 : HL.fieldT Try.prog 90 1 = some (1, 12) := by kernel_rfl
@[go_sem] theorem T.fieldO90_1 : HL.fieldO Try.prog 90 1 = some 1 := by kernel_rfl
@[go_sem] theorem T.field90_2 : HL.fieldT Try.prog 90 2 = some (2, 83) := by kernel_rfl
@[go_sem] theorem T.fieldO90_2 : HL.fieldO Try.prog 90 2 = some 2 := by kernel_rfl
@[go_sem] theorem T.field90_3 : HL.fieldT Try.prog 90 3 = some (3, 84) := by kernel_rfl
@[go_sem] theorem T.fieldO90_3 : HL.fieldO Try.prog 90 3 = some 3 := by kernel_rfl
@[go_sem] theorem T.field90_4 : HL.fieldT Try.prog 90 4 = some (4, 5) := by kernel_rfl
@[go_sem] theorem T.fieldO90_4 : HL.fieldO Try.prog 90 4 = some 4 := by kernel_rfl
@[go_sem] theorem T.field90_5 : HL.fieldT Try.prog 90 5 = some (5, 5) := by kernel_rfl
@[go_sem] theorem T.fieldO90_5 : HL.fieldO Try.prog 90 5 = some 5 := by kernel_rfl
@[go_sem] theorem T.field90_6 : HL.fieldT Try.prog 90 6 = some (6, 85) := by kernel_rfl
@[go_sem] theorem T.fieldO90_6 : HL.fieldO Try.prog 90 6 = some 6 := by kernel_rfl
@[go_sem] theorem T.field90_7 : HL.fieldT Try.prog 90 7 = some (7, 86) := by kernel_rfl
@[go_sem] theorem T.fieldO90_7 : HL.fieldO Try.prog 90 7 = some 7 := by kernel_rfl
@[go_sem] theorem T.field90_8 : HL.fieldT Try.prog 90 8 = some (8, 87) := by kernel_rfl
@[go_sem] theorem T.fieldO90_8 : HL.fieldO Try.prog 90 8 = some 8 := by kernel_rfl
@[go_sem] theorem T.field90_9 : HL.fieldT Try.prog 90 9 = some (9, 88) := by kernel_rfl
@[go_sem] theorem T.fieldO90_9 : HL.fieldO Try.prog 90 9 = some 9 := by kernel_rfl
@[go_sem] theorem T.field90_10 : HL.fieldT Try.prog 90 10 = some (10, 89) := by kernel_rfl
@[go_sem] theorem T.fieldO90_10 : HL.fieldO Try.prog 90 10 = some 10 := by kernel_rfl
@[go_sem] theorem T.agg91 : HL.aggN Try.prog 91 = some (some 11) := by kernel_rfl
@[go_sem] theorem T.size91 : HL.sizeT Try.prog 91 = some 11 := by kernel_rfl
@[go_sem] theorem T.bytes91 : HL.bytesT Try.prog 91 = some 48 := by kernel_rfl
@[go_sem] theorem T.zero91 : HL.zeroT Try.prog 91 = some (.agg #[.int .u64 0, .int .u64 0, .int .u32 0, .int .u8 0, .int .u8 0, .int .u8 0, .int .u8 0, .nilFunc, .pointer none, .int .i32 0, .int .i32 0]) := by kernel_rfl
@[go_sem] theorem T.places91 : HL.placesT Try.prog 91 = some [(0, 1), (1, 1), (2, 1), (3, 1), (4, 1), (5, 1), (6, 1), (7, 1), (8, 1), (9, 1), (10, 1)] := by kernel_rfl
@[go_sem] theorem T.field91_0 : HL.fieldT Try.prog 91 0 = some (0, 12) := by kernel_rfl
@[go_sem] theorem T.fieldO91_0 : HL.fieldO Try.prog 91 0 = some 0 := by kernel_rfl
@[go_sem] theorem T.field91_1 : HL.fieldT Try.prog 91 1 = some (1, 12) := by kernel_rfl
@[go_sem] theorem T.fieldO91_1 : HL.fieldO Try.prog 91 1 = some 1 := by kernel_rfl
@[go_sem] theorem T.field91_2 : HL.fieldT Try.prog 91 2 = some (2, 83) := by kernel_rfl
@[go_sem] theorem T.fieldO91_2 : HL.fieldO Try.prog 91 2 = some 2 := by kernel_rfl
@[go_sem] theorem T.field91_3 : HL.fieldT Try.prog 91 3 = some (3, 84) := by kernel_rfl
@[go_sem] theorem T.fieldO91_3 : HL.fieldO Try.prog 91 3 = some 3 := by kernel_rfl
@[go_sem] theorem T.field91_4 : HL.fieldT Try.prog 91 4 = some (4, 5) := by kernel_rfl
@[go_sem] theorem T.fieldO91_4 : HL.fieldO Try.prog 91 4 = some 4 := by kernel_rfl
@[go_sem] theorem T.field91_5 : HL.fieldT Try.prog 91 5 = some (5, 5) := by kernel_rfl
@[go_sem] theorem T.fieldO91_5 : HL.fieldO Try.prog 91 5 = some 5 := by kernel_rfl
@[go_sem] theorem T.field91_6 : HL.fieldT Try.prog 91 6 = some (6, 85) := by kernel_rfl
@[go_sem] theorem T.fieldO91_6 : HL.fieldO Try.prog 91 6 = some 6 := by kernel_rfl
@[go_sem] theorem T.field91_7 : HL.fieldT Try.prog 91 7 = some (7, 86) := by kernel_rfl
@[go_sem] theorem T.fieldO91_7 : HL.fieldO Try.prog 91 7 = some 7 := by kernel_rfl
@[go_sem] theorem T.field91_8 : HL.fieldT Try.prog 91 8 = some (8, 87) := by kernel_rfl
@[go_sem] theorem T.fieldO91_8 : HL.fieldO Try.prog 91 8 = some 8 := by kernel_rfl
@[go_sem] theorem T.field91_9 : HL.fieldT Try.prog 91 9 = some (9, 88) := by kernel_rfl
@[go_sem] theorem T.fieldO91_9 : HL.fieldO Try.prog 91 9 = some 9 := by kernel_rfl
@[go_sem] theorem T.field91_10 : HL.fieldT Try.prog 91 10 = some (10, 89) := by kernel_rfl
@[go_sem] theorem T.fieldO91_10 : HL.fieldO Try.prog 91 10 = some 10 := by kernel_rfl
@[go_sem] theorem T.agg92 : HL.aggN Try.prog 92 = some none := by kernel_rfl
@[go_sem] theorem T.size92 : HL.sizeT Try.prog 92 = some 1 := by kernel_rfl
@[go_sem] theorem T.bytes92 : HL.bytesT Try.prog 92 = some 8 := by kernel_rfl
@[go_sem] theorem T.zero92 : HL.zeroT Try.prog 92 = some (.pointer none) := by kernel_rfl
theorem T.el22 : HL.ElT Try.prog 22 39 4 32 (.agg #[.int .i64 0, .int .i64 0, .int .i64 0, .int .i64 0]) := ⟨T.elem22, T.size39, T.bytes39, T.zero39⟩
@[go_sem] theorem T.bs22_0 {H : HL.Heap} : HL.buildSliceV Try.prog H 22 0 [] = some (.slice (some ⟨H.size, 0, none⟩) 0 0, H.push (.cells #[] 39)) := HL.bs_zero T.elem22 T.size39 T.zero39
theorem T.el23 : HL.ElT Try.prog 23 5 1 1 (.int .u8 0) := ⟨T.elem23, T.size5, T.bytes5, T.zero5⟩
@[go_sem] theorem T.bs23_1 {H : HL.Heap} {k0 : IntKind} {n0 : Int} : HL.buildSliceV Try.prog H 23 1 [(0, .int k0 n0)] = some (.slice (some ⟨H.size, 0, none⟩) 1 1, H.push (.cells #[.int k0 n0] 5)) := HL.bs_one T.elem23 T.size5 T.zero5 rfl
@[go_sem] theorem T.bs23_2 {H : HL.Heap} {k0 : IntKind} {n0 : Int} {k1 : IntKind} {n1 : Int} : HL.buildSliceV Try.prog H 23 2 [(0, .int k0 n0), (1, .int k1 n1)] = some (.slice (some ⟨H.size, 0, none⟩) 2 2, H.push (.cells #[.int k0 n0, .int k1 n1] 5)) := HL.bs_two T.elem23 T.size5 T.zero5 rfl rfl
@[go_sem] theorem T.bs23_3 {H : HL.Heap} {k0 : IntKind} {n0 : Int} {k1 : IntKind} {n1 : Int} {k2 : IntKind} {n2 : Int} : HL.buildSliceV Try.prog H 23 3 [(0, .int k0 n0), (1, .int k1 n1), (2, .int k2 n2)] = some (.slice (some ⟨H.size, 0, none⟩) 3 3, H.push (.cells #[.int k0 n0, .int k1 n1, .int k2 n2] 5)) := HL.bs_three T.elem23 T.size5 T.zero5 rfl rfl rfl
@[go_sem] theorem T.bs23_4 {H : HL.Heap} {k0 : IntKind} {n0 : Int} {k1 : IntKind} {n1 : Int} {k2 : IntKind} {n2 : Int} {k3 : IntKind} {n3 : Int} : HL.buildSliceV Try.prog H 23 4 [(0, .int k0 n0), (1, .int k1 n1), (2, .int k2 n2), (3, .int k3 n3)] = some (.slice (some ⟨H.size, 0, none⟩) 4 4, H.push (.cells #[.int k0 n0, .int k1 n1, .int k2 n2, .int k3 n3] 5)) := HL.bs_four T.elem23 T.size5 T.zero5 rfl rfl rfl rfl
@[go_sem] theorem T.bs23_0 {H : HL.Heap} : HL.buildSliceV Try.prog H 23 0 [] = some (.slice (some ⟨H.size, 0, none⟩) 0 0, H.push (.cells #[] 5)) := HL.bs_zero T.elem23 T.size5 T.zero5
theorem T.el26 : HL.ElT Try.prog 26 3 1 8 (.int .i64 0) := ⟨T.elem26, T.size3, T.bytes3, T.zero3⟩
@[go_sem] theorem T.bs26_1 {H : HL.Heap} {k0 : IntKind} {n0 : Int} : HL.buildSliceV Try.prog H 26 1 [(0, .int k0 n0)] = some (.slice (some ⟨H.size, 0, none⟩) 1 1, H.push (.cells #[.int k0 n0] 3)) := HL.bs_one T.elem26 T.size3 T.zero3 rfl
@[go_sem] theorem T.bs26_2 {H : HL.Heap} {k0 : IntKind} {n0 : Int} {k1 : IntKind} {n1 : Int} : HL.buildSliceV Try.prog H 26 2 [(0, .int k0 n0), (1, .int k1 n1)] = some (.slice (some ⟨H.size, 0, none⟩) 2 2, H.push (.cells #[.int k0 n0, .int k1 n1] 3)) := HL.bs_two T.elem26 T.size3 T.zero3 rfl rfl
@[go_sem] theorem T.bs26_3 {H : HL.Heap} {k0 : IntKind} {n0 : Int} {k1 : IntKind} {n1 : Int} {k2 : IntKind} {n2 : Int} : HL.buildSliceV Try.prog H 26 3 [(0, .int k0 n0), (1, .int k1 n1), (2, .int k2 n2)] = some (.slice (some ⟨H.size, 0, none⟩) 3 3, H.push (.cells #[.int k0 n0, .int k1 n1, .int k2 n2] 3)) := HL.bs_three T.elem26 T.size3 T.zero3 rfl rfl rfl
@[go_sem] theorem T.bs26_4 {H : HL.Heap} {k0 : IntKind} {n0 : Int} {k1 : IntKind} {n1 : Int} {k2 : IntKind} {n2 : Int} {k3 : IntKind} {n3 : Int} : HL.buildSliceV Try.prog H 26 4 [(0, .int k0 n0), (1, .int k1 n1), (2, .int k2 n2), (3, .int k3 n3)] = some (.slice (some ⟨H.size, 0, none⟩) 4 4, H.push (.cells #[.int k0 n0, .int k1 n1, .int k2 n2, .int k3 n3] 3)) := HL.bs_four T.elem26 T.size3 T.zero3 rfl rfl rfl rfl
@[go_sem] theorem T.bs26_0 {H : HL.Heap} : HL.buildSliceV Try.prog H 26 0 [] = some (.slice (some ⟨H.size, 0, none⟩) 0 0, H.push (.cells #[] 3)) := HL.bs_zero T.elem26 T.size3 T.zero3
theorem T.el32 : HL.ElT Try.prog 32 26 1 24 (.slice none 0 0) := ⟨T.elem32, T.size26, T.bytes26, T.zero26⟩
@[go_sem] theorem T.bs32_1 {H : HL.Heap} {a0 : Option Addr} {l0 c0 : Nat} : HL.buildSliceV Try.prog H 32 1 [(0, .slice a0 l0 c0)] = some (.slice (some ⟨H.size, 0, none⟩) 1 1, H.push (.cells #[.slice a0 l0 c0] 26)) := HL.bs_one T.elem32 T.size26 T.zero26 rfl
@[go_sem] theorem T.bs32_2 {H : HL.Heap} {a0 : Option Addr} {l0 c0 : Nat} {a1 : Option Addr} {l1 c1 : Nat} : HL.buildSliceV Try.prog H 32 2 [(0, .slice a0 l0 c0), (1, .slice a1 l1 c1)] = some (.slice (some ⟨H.size, 0, none⟩) 2 2, H.push (.cells #[.slice a0 l0 c0, .slice a1 l1 c1] 26)) := HL.bs_two T.elem32 T.size26 T.zero26 rfl rfl
@[go_sem] theorem T.bs32_3 {H : HL.Heap} {a0 : Option Addr} {l0 c0 : Nat} {a1 : Option Addr} {l1 c1 : Nat} {a2 : Option Addr} {l2 c2 : Nat} : HL.buildSliceV Try.prog H 32 3 [(0, .slice a0 l0 c0), (1, .slice a1 l1 c1), (2, .slice a2 l2 c2)] = some (.slice (some ⟨H.size, 0, none⟩) 3 3, H.push (.cells #[.slice a0 l0 c0, .slice a1 l1 c1, .slice a2 l2 c2] 26)) := HL.bs_three T.elem32 T.size26 T.zero26 rfl rfl rfl
@[go_sem] theorem T.bs32_4 {H : HL.Heap} {a0 : Option Addr} {l0 c0 : Nat} {a1 : Option Addr} {l1 c1 : Nat} {a2 : Option Addr} {l2 c2 : Nat} {a3 : Option Addr} {l3 c3 : Nat} : HL.buildSliceV Try.prog H 32 4 [(0, .slice a0 l0 c0), (1, .slice a1 l1 c1), (2, .slice a2 l2 c2), (3, .slice a3 l3 c3)] = some (.slice (some ⟨H.size, 0, none⟩) 4 4, H.push (.cells #[.slice a0 l0 c0, .slice a1 l1 c1, .slice a2 l2 c2, .slice a3 l3 c3] 26)) := HL.bs_four T.elem32 T.size26 T.zero26 rfl rfl rfl rfl
@[go_sem] theorem T.bs32_0 {H : HL.Heap} : HL.buildSliceV Try.prog H 32 0 [] = some (.slice (some ⟨H.size, 0, none⟩) 0 0, H.push (.cells #[] 26)) := HL.bs_zero T.elem32 T.size26 T.zero26
theorem T.el41 : HL.ElT Try.prog 41 4 1 1 (.bool false) := ⟨T.elem41, T.size4, T.bytes4, T.zero4⟩
@[go_sem] theorem T.bs41_1 {H : HL.Heap} {n0 : Bool} : HL.buildSliceV Try.prog H 41 1 [(0, .bool n0)] = some (.slice (some ⟨H.size, 0, none⟩) 1 1, H.push (.cells #[.bool n0] 4)) := HL.bs_one T.elem41 T.size4 T.zero4 rfl
@[go_sem] theorem T.bs41_2 {H : HL.Heap} {n0 : Bool} {n1 : Bool} : HL.buildSliceV Try.prog H 41 2 [(0, .bool n0), (1, .bool n1)] = some (.slice (some ⟨H.size, 0, none⟩) 2 2, H.push (.cells #[.bool n0, .bool n1] 4)) := HL.bs_two T.elem41 T.size4 T.zero4 rfl rfl
@[go_sem] theorem T.bs41_3 {H : HL.Heap} {n0 : Bool} {n1 : Bool} {n2 : Bool} : HL.buildSliceV Try.prog H 41 3 [(0, .bool n0), (1, .bool n1), (2, .bool n2)] = some (.slice (some ⟨H.size, 0, none⟩) 3 3, H.push (.cells #[.bool n0, .bool n1, .bool n2] 4)) := HL.bs_three T.elem41 T.size4 T.zero4 rfl rfl rfl
@[go_sem] theorem T.bs41_4 {H : HL.Heap} {n0 : Bool} {n1 : Bool} {n2 : Bool} {n3 : Bool} : HL.buildSliceV Try.prog H 41 4 [(0, .bool n0), (1, .bool n1), (2, .bool n2), (3, .bool n3)] = some (.slice (some ⟨H.size, 0, none⟩) 4 4, H.push (.cells #[.bool n0, .bool n1, .bool n2, .bool n3] 4)) := HL.bs_four T.elem41 T.size4 T.zero4 rfl rfl rfl rfl
@[go_sem] theorem T.bs41_0 {H : HL.Heap} : HL.buildSliceV Try.prog H 41 0 [] = some (.slice (some ⟨H.size, 0, none⟩) 0 0, H.push (.cells #[] 4)) := HL.bs_zero T.elem41 T.size4 T.zero4
theorem T.el65 : HL.ElT Try.prog 65 63 2 16 (.agg #[.int .i64 0, .int .i64 0]) := ⟨T.elem65, T.size63, T.bytes63, T.zero63⟩
@[go_sem] theorem T.bs65_0 {H : HL.Heap} : HL.buildSliceV Try.prog H 65 0 [] = some (.slice (some ⟨H.size, 0, none⟩) 0 0, H.push (.cells #[] 63)) := HL.bs_zero T.elem65 T.size63 T.zero63
theorem T.el70 : HL.ElT Try.prog 70 74 3 24 (.agg #[.bool false, .int .i64 0, .int .i64 0]) := ⟨T.elem70, T.size74, T.bytes74, T.zero74⟩
@[go_sem] theorem T.bs70_0 {H : HL.Heap} : HL.buildSliceV Try.prog H 70 0 [] = some (.slice (some ⟨H.size, 0, none⟩) 0 0, H.push (.cells #[] 74)) := HL.bs_zero T.elem70 T.size74 T.zero74
@[go_sem] theorem T.pe15 {H : HL.Heap} {xo yo : Operand} {a : Addr} : HL.binV Try.prog (HL.full H) .eql 15 xo yo (.pointer (some a)) (.pointer none) = some (.bool false) := HL.bin_ptr_eql Try.underlying15
@[go_sem] theorem T.pn15 {H : HL.Heap} {xo yo : Operand} {a : Addr} : HL.binV Try.prog (HL.full H) .neq 15 xo yo (.pointer (some a)) (.pointer none) = some (.bool true) := HL.bin_ptr_neq Try.underlying15
@[go_sem] theorem T.ne15 {H : HL.Heap} {xo yo : Operand} : HL.binV Try.prog (HL.full H) .eql 15 xo yo (.pointer none) (.pointer none) = some (.bool true) := HL.bin_nil_eql Try.underlying15
@[go_sem] theorem T.nn15 {H : HL.Heap} {xo yo : Operand} : HL.binV Try.prog (HL.full H) .neq 15 xo yo (.pointer none) (.pointer none) = some (.bool false) := HL.bin_nil_neq Try.underlying15
@[go_sem] theorem T.pe16 {H : HL.Heap} {xo yo : Operand} {a : Addr} : HL.binV Try.prog (HL.full H) .eql 16 xo yo (.pointer (some a)) (.pointer none) = some (.bool false) := HL.bin_ptr_eql Try.underlying16
@[go_sem] theorem T.pn16 {H : HL.Heap} {xo yo : Operand} {a : Addr} : HL.binV Try.prog (HL.full H) .neq 16 xo yo (.pointer (some a)) (.pointer none) = some (.bool true) := HL.bin_ptr_neq Try.underlying16
@[go_sem] theorem T.ne16 {H : HL.Heap} {xo yo : Operand} : HL.binV Try.prog (HL.full H) .eql 16 xo yo (.pointer none) (.pointer none) = some (.bool true) := HL.bin_nil_eql Try.underlying16
@[go_sem] theorem T.nn16 {H : HL.Heap} {xo yo : Operand} : HL.binV Try.prog (HL.full H) .neq 16 xo yo (.pointer none) (.pointer none) = some (.bool false) := HL.bin_nil_neq Try.underlying16
@[go_sem] theorem T.pe17 {H : HL.Heap} {xo yo : Operand} {a : Addr} : HL.binV Try.prog (HL.full H) .eql 17 xo yo (.pointer (some a)) (.pointer none) = some (.bool false) := HL.bin_ptr_eql Try.underlying17
@[go_sem] theorem T.pn17 {H : HL.Heap} {xo yo : Operand} {a : Addr} : HL.binV Try.prog (HL.full H) .neq 17 xo yo (.pointer (some a)) (.pointer none) = some (.bool true) := HL.bin_ptr_neq Try.underlying17
@[go_sem] theorem T.ne17 {H : HL.Heap} {xo yo : Operand} : HL.binV Try.prog (HL.full H) .eql 17 xo yo (.pointer none) (.pointer none) = some (.bool true) := HL.bin_nil_eql Try.underlying17
@[go_sem] theorem T.nn17 {H : HL.Heap} {xo yo : Operand} : HL.binV Try.prog (HL.full H) .neq 17 xo yo (.pointer none) (.pointer none) = some (.bool false) := HL.bin_nil_neq Try.underlying17
@[go_sem] theorem T.pe25 {H : HL.Heap} {xo yo : Operand} {a : Addr} : HL.binV Try.prog (HL.full H) .eql 25 xo yo (.pointer (some a)) (.pointer none) = some (.bool false) := HL.bin_ptr_eql Try.underlying25
@[go_sem] theorem T.pn25 {H : HL.Heap} {xo yo : Operand} {a : Addr} : HL.binV Try.prog (HL.full H) .neq 25 xo yo (.pointer (some a)) (.pointer none) = some (.bool true) := HL.bin_ptr_neq Try.underlying25
@[go_sem] theorem T.ne25 {H : HL.Heap} {xo yo : Operand} : HL.binV Try.prog (HL.full H) .eql 25 xo yo (.pointer none) (.pointer none) = some (.bool true) := HL.bin_nil_eql Try.underlying25
@[go_sem] theorem T.nn25 {H : HL.Heap} {xo yo : Operand} : HL.binV Try.prog (HL.full H) .neq 25 xo yo (.pointer none) (.pointer none) = some (.bool false) := HL.bin_nil_neq Try.underlying25
@[go_sem] theorem T.pe29 {H : HL.Heap} {xo yo : Operand} {a : Addr} : HL.binV Try.prog (HL.full H) .eql 29 xo yo (.pointer (some a)) (.pointer none) = some (.bool false) := HL.bin_ptr_eql Try.underlying29
@[go_sem] theorem T.pn29 {H : HL.Heap} {xo yo : Operand} {a : Addr} : HL.binV Try.prog (HL.full H) .neq 29 xo yo (.pointer (some a)) (.pointer none) = some (.bool true) := HL.bin_ptr_neq Try.underlying29
@[go_sem] theorem T.ne29 {H : HL.Heap} {xo yo : Operand} : HL.binV Try.prog (HL.full H) .eql 29 xo yo (.pointer none) (.pointer none) = some (.bool true) := HL.bin_nil_eql Try.underlying29
@[go_sem] theorem T.nn29 {H : HL.Heap} {xo yo : Operand} : HL.binV Try.prog (HL.full H) .neq 29 xo yo (.pointer none) (.pointer none) = some (.bool false) := HL.bin_nil_neq Try.underlying29
@[go_sem] theorem T.pe42 {H : HL.Heap} {xo yo : Operand} {a : Addr} : HL.binV Try.prog (HL.full H) .eql 42 xo yo (.pointer (some a)) (.pointer none) = some (.bool false) := HL.bin_ptr_eql Try.underlying42
@[go_sem] theorem T.pn42 {H : HL.Heap} {xo yo : Operand} {a : Addr} : HL.binV Try.prog (HL.full H) .neq 42 xo yo (.pointer (some a)) (.pointer none) = some (.bool true) := HL.bin_ptr_neq Try.underlying42
@[go_sem] theorem T.ne42 {H : HL.Heap} {xo yo : Operand} : HL.binV Try.prog (HL.full H) .eql 42 xo yo (.pointer none) (.pointer none) = some (.bool true) := HL.bin_nil_eql Try.underlying42
@[go_sem] theorem T.nn42 {H : HL.Heap} {xo yo : Operand} : HL.binV Try.prog (HL.full H) .neq 42 xo yo (.pointer none) (.pointer none) = some (.bool false) := HL.bin_nil_neq Try.underlying42
@[go_sem] theorem T.pe44 {H : HL.Heap} {xo yo : Operand} {a : Addr} : HL.binV Try.prog (HL.full H) .eql 44 xo yo (.pointer (some a)) (.pointer none) = some (.bool false) := HL.bin_ptr_eql Try.underlying44
@[go_sem] theorem T.pn44 {H : HL.Heap} {xo yo : Operand} {a : Addr} : HL.binV Try.prog (HL.full H) .neq 44 xo yo (.pointer (some a)) (.pointer none) = some (.bool true) := HL.bin_ptr_neq Try.underlying44
@[go_sem] theorem T.ne44 {H : HL.Heap} {xo yo : Operand} : HL.binV Try.prog (HL.full H) .eql 44 xo yo (.pointer none) (.pointer none) = some (.bool true) := HL.bin_nil_eql Try.underlying44
@[go_sem] theorem T.nn44 {H : HL.Heap} {xo yo : Operand} : HL.binV Try.prog (HL.full H) .neq 44 xo yo (.pointer none) (.pointer none) = some (.bool false) := HL.bin_nil_neq Try.underlying44
@[go_sem] theorem T.pe87 {H : HL.Heap} {xo yo : Operand} {a : Addr} : HL.binV Try.prog (HL.full H) .eql 87 xo yo (.pointer (some a)) (.pointer none) = some (.bool false) := HL.bin_ptr_eql Try.underlying87
@[go_sem] theorem T.pn87 {H : HL.Heap} {xo yo : Operand} {a : Addr} : HL.binV Try.prog (HL.full H) .neq 87 xo yo (.pointer (some a)) (.pointer none) = some (.bool true) := HL.bin_ptr_neq Try.underlying87
@[go_sem] theorem T.ne87 {H : HL.Heap} {xo yo : Operand} : HL.binV Try.prog (HL.full H) .eql 87 xo yo (.pointer none) (.pointer none) = some (.bool true) := HL.bin_nil_eql Try.underlying87
@[go_sem] theorem T.nn87 {H : HL.Heap} {xo yo : Operand} : HL.binV Try.prog (HL.full H) .neq 87 xo yo (.pointer none) (.pointer none) = some (.bool false) := HL.bin_nil_neq Try.underlying87
@[go_sem] theorem T.be4 {H : HL.Heap} {xo yo : Operand} {x y : Bool} : HL.binV Try.prog (HL.full H) .eql 4 xo yo (.bool x) (.bool y) = some (.bool (x == y)) := HL.bin_bool_eql Try.underlying4
@[go_sem] theorem T.bn4 {H : HL.Heap} {xo yo : Operand} {x y : Bool} : HL.binV Try.prog (HL.full H) .neq 4 xo yo (.bool x) (.bool y) = some (.bool (!(x == y))) := HL.bin_bool_neq Try.underlying4
@[go_sem] theorem T.se39 {H : HL.Heap} {xo yo : Operand} {a0 b0 : Int} {a1 b1 : Int} {a2 b2 : Int} {a3 b3 : Int} : HL.binV Try.prog (HL.full H) .eql 39 xo yo (.agg #[.int .i64 a0, .int .i64 a1, .int .i64 a2, .int .i64 a3]) (.agg #[.int .i64 b0, .int .i64 b1, .int .i64 b2, .int .i64 b3]) = some (.bool ((decide (a0 = b0 ∧ a1 = b1 ∧ a2 = b2 ∧ a3 = b3 ∧ True)))) := (HL.bin_struct (xs := [.int .i64 a0, .int .i64 a1, .int .i64 a2, .int .i64 a3]) (ys := [.int .i64 b0, .int .i64 b1, .int .i64 b2, .int .i64 b3]) Try.underlying39 (by kernel_rfl) (by kernel_rfl) (HL.eqF_int (by decide) Try.underlying3 rfl rfl (HL.eqF_int (by decide) Try.underlying3 rfl rfl (HL.eqF_int (by decide) Try.underlying3 rfl rfl (HL.eqF_int (by decide) Try.underlying3 rfl rfl HL.eqF_nil))))).1
@[go_sem] theorem T.sn39 {H : HL.Heap} {xo yo : Operand} {a0 b0 : Int} {a1 b1 : Int} {a2 b2 : Int} {a3 b3 : Int} : HL.binV Try.prog (HL.full H) .neq 39 xo yo (.agg #[.int .i64 a0, .int .i64 a1, .int .i64 a2, .int .i64 a3]) (.agg #[.int .i64 b0, .int .i64 b1, .int .i64 b2, .int .i64 b3]) = some (.bool (!(decide (a0 = b0 ∧ a1 = b1 ∧ a2 = b2 ∧ a3 = b3 ∧ True)))) := (HL.bin_struct (xs := [.int .i64 a0, .int .i64 a1, .int .i64 a2, .int .i64 a3]) (ys := [.int .i64 b0, .int .i64 b1, .int .i64 b2, .int .i64 b3]) Try.underlying39 (by kernel_rfl) (by kernel_rfl) (HL.eqF_int (by decide) Try.underlying3 rfl rfl (HL.eqF_int (by decide) Try.underlying3 rfl rfl (HL.eqF_int (by decide) Try.underlying3 rfl rfl (HL.eqF_int (by decide) Try.underlying3 rfl rfl HL.eqF_nil))))).2
@[go_sem] theorem T.se63 {H : HL.Heap} {xo yo : Operand} {a0 b0 : Int} {a1 b1 : Int} : HL.binV Try.prog (HL.full H) .eql 63 xo yo (.agg #[.int .i64 a0, .int .i64 a1]) (.agg #[.int .i64 b0, .int .i64 b1]) = some (.bool ((decide (a0 = b0 ∧ a1 = b1 ∧ True)))) := (HL.bin_struct (xs := [.int .i64 a0, .int .i64 a1]) (ys := [.int .i64 b0, .int .i64 b1]) Try.underlying63 (by kernel_rfl) (by kernel_rfl) (HL.eqF_int (by decide) Try.underlying3 rfl rfl (HL.eqF_int (by decide) Try.underlying3 rfl rfl HL.eqF_nil))).1
@[go_sem] theorem T.sn63 {H : HL.Heap} {xo yo : Operand} {a0 b0 : Int} {a1 b1 : Int} : HL.binV Try.prog (HL.full H) .neq 63 xo yo (.agg #[.int .i64 a0, .int .i64 a1]) (.agg #[.int .i64 b0, .int .i64 b1]) = some (.bool (!(decide (a0 = b0 ∧ a1 = b1 ∧ True)))) := (HL.bin_struct (xs := [.int .i64 a0, .int .i64 a1]) (ys := [.int .i64 b0, .int .i64 b1]) Try.underlying63 (by kernel_rfl) (by kernel_rfl) (HL.eqF_int (by decide) Try.underlying3 rfl rfl (HL.eqF_int (by decide) Try.underlying3 rfl rfl HL.eqF_nil))).2
@[go_sem] theorem T.se74 {H : HL.Heap} {xo yo : Operand} {a0 b0 : Bool} {a1 b1 : Int} {a2 b2 : Int} : HL.binV Try.prog (HL.full H) .eql 74 xo yo (.agg #[.bool a0, .int .i64 a1, .int .i64 a2]) (.agg #[.bool b0, .int .i64 b1, .int .i64 b2]) = some (.bool ((decide (a0 = b0 ∧ a1 = b1 ∧ a2 = b2 ∧ True)))) := (HL.bin_struct (xs := [.bool a0, .int .i64 a1, .int .i64 a2]) (ys := [.bool b0, .int .i64 b1, .int .i64 b2]) Try.underlying74 (by kernel_rfl) (by kernel_rfl) (HL.eqF_bool (by decide) Try.underlying4 rfl rfl (HL.eqF_int (by decide) Try.underlying3 rfl rfl (HL.eqF_int (by decide) Try.underlying3 rfl rfl HL.eqF_nil)))).1
@[go_sem] theorem T.sn74 {H : HL.Heap} {xo yo : Operand} {a0 b0 : Bool} {a1 b1 : Int} {a2 b2 : Int} : HL.binV Try.prog (HL.full H) .neq 74 xo yo (.agg #[.bool a0, .int .i64 a1, .int .i64 a2]) (.agg #[.bool b0, .int .i64 b1, .int .i64 b2]) = some (.bool (!(decide (a0 = b0 ∧ a1 = b1 ∧ a2 = b2 ∧ True)))) := (HL.bin_struct (xs := [.bool a0, .int .i64 a1, .int .i64 a2]) (ys := [.bool b0, .int .i64 b1, .int .i64 b2]) Try.underlying74 (by kernel_rfl) (by kernel_rfl) (HL.eqF_bool (by decide) Try.underlying4 rfl rfl (HL.eqF_int (by decide) Try.underlying3 rfl rfl (HL.eqF_int (by decide) Try.underlying3 rfl rfl HL.eqF_nil)))).2
@[go_sem] theorem T.cv2_2 {V : HL.HV} {k : IntKind} {n : Int} : HL.convV Try.prog V 2 2 (.int k n) = some (.int .i64 (IntKind.i64.wrap n)) := HL.conv_int Try.underlying2 Try.underlying2
@[go_sem] theorem T.cv2_3 {V : HL.HV} {k : IntKind} {n : Int} : HL.convV Try.prog V 2 3 (.int k n) = some (.int .i64 (IntKind.i64.wrap n)) := HL.conv_int Try.underlying2 Try.underlying3
@[go_sem] theorem T.cv2_5 {V : HL.HV} {k : IntKind} {n : Int} : HL.convV Try.prog V 2 5 (.int k n) = some (.int .u8 (IntKind.u8.wrap n)) := HL.conv_int Try.underlying2 Try.underlying5
@[go_sem] theorem T.cv2_6 {V : HL.HV} {k : IntKind} {n : Int} : HL.convV Try.prog V 2 6 (.int k n) = some (.int .u8 (IntKind.u8.wrap n)) := HL.conv_int Try.underlying2 Try.underlying6
@[go_sem] theorem T.cv2_12 {V : HL.HV} {k : IntKind} {n : Int} : HL.convV Try.prog V 2 12 (.int k n) = some (.int .u64 (IntKind.u64.wrap n)) := HL.conv_int Try.underlying2 Try.underlying12
@[go_sem] theorem T.cv2_21 {V : HL.HV} {k : IntKind} {n : Int} : HL.convV Try.prog V 2 21 (.int k n) = some (.int .i32 (IntKind.i32.wrap n)) := HL.conv_int Try.underlying2 Try.underlying21
@[go_sem] theorem T.cv2_83 {V : HL.HV} {k : IntKind} {n : Int} : HL.convV Try.prog V 2 83 (.int k n) = some (.int .u32 (IntKind.u32.wrap n)) := HL.conv_int Try.underlying2 Try.underlying83
@[go_sem] theorem T.cv2_84 {V : HL.HV} {k : IntKind} {n : Int} : HL.convV Try.prog V 2 84 (.int k n) = some (.int .u8 (IntKind.u8.wrap n)) := HL.conv_int Try.underlying2 Try.underlying84
@[go_sem] theorem T.cv2_85 {V : HL.HV} {k : IntKind} {n : Int} : HL.convV Try.prog V 2 85 (.int k n) = some (.int .u8 (IntKind.u8.wrap n)) := HL.conv_int Try.underlying2 Try.underlying85
@[go_sem] theorem T.cv2_88 {V : HL.HV} {k : IntKind} {n : Int} : HL.convV Try.prog V 2 88 (.int k n) = some (.int .i32 (IntKind.i32.wrap n)) := HL.conv_int Try.underlying2 Try.underlying88
@[go_sem] theorem T.cv2_89 {V : HL.HV} {k : IntKind} {n : Int} : HL.convV Try.prog V 2 89 (.int k n) = some (.int .i32 (IntKind.i32.wrap n)) := HL.conv_int Try.underlying2 Try.underlying89
@[go_sem] theorem T.cv3_2 {V : HL.HV} {k : IntKind} {n : Int} : HL.convV Try.prog V 3 2 (.int k n) = some (.int .i64 (IntKind.i64.wrap n)) := HL.conv_int Try.underlying3 Try.underlying2
@[go_sem] theorem T.cv3_3 {V : HL.HV} {k : IntKind} {n : Int} : HL.convV Try.prog V 3 3 (.int k n) = some (.int .i64 (IntKind.i64.wrap n)) := HL.conv_int Try.underlying3 Try.underlying3
@[go_sem] theorem T.cv3_5 {V : HL.HV} {k : IntKind} {n : Int} : HL.convV Try.prog V 3 5 (.int k n) = some (.int .u8 (IntKind.u8.wrap n)) := HL.conv_int Try.underlying3 Try.underlying5
@[go_sem] theorem T.cv3_6 {V : HL.HV} {k : IntKind} {n : Int} : HL.convV Try.prog V 3 6 (.int k n) = some (.int .u8 (IntKind.u8.wrap n)) := HL.conv_int Try.underlying3 Try.underlying6
@[go_sem] theorem T.cv3_12 {V : HL.HV} {k : IntKind} {n : Int} : HL.convV Try.prog V 3 12 (.int k n) = some (.int .u64 (IntKind.u64.wrap n)) := HL.conv_int Try.underlying3 Try.underlying12
@[go_sem] theorem T.cv3_21 {V : HL.HV} {k : IntKind} {n : Int} : HL.convV Try.prog V 3 21 (.int k n) = some (.int .i32 (IntKind.i32.wrap n)) := HL.conv_int Try.underlying3 Try.underlying21
@[go_sem] theorem T.cv3_83 {V : HL.HV} {k : IntKind} {n : Int} : HL.convV Try.prog V 3 83 (.int k n) = some (.int .u32 (IntKind.u32.wrap n)) := HL.conv_int Try.underlying3 Try.underlying83
@[go_sem] theorem T.cv3_84 {V : HL.HV} {k : IntKind} {n : Int} : HL.convV Try.prog V 3 84 (.int k n) = some (.int .u8 (IntKind.u8.wrap n)) := HL.conv_int Try.underlying3 Try.underlying84
@[go_sem] theorem T.cv3_85 {V : HL.HV} {k : IntKind} {n : Int} : HL.convV Try.prog V 3 85 (.int k n) = some (.int .u8 (IntKind.u8.wrap n)) := HL.conv_int Try.underlying3 Try.underlying85
@[go_sem] theorem T.cv3_88 {V : HL.HV} {k : IntKind} {n : Int} : HL.convV Try.prog V 3 88 (.int k n) = some (.int .i32 (IntKind.i32.wrap n)) := HL.conv_int Try.underlying3 Try.underlying88
@[go_sem] theorem T.cv3_89 {V : HL.HV} {k : IntKind} {n : Int} : HL.convV Try.prog V 3 89 (.int k n) = some (.int .i32 (IntKind.i32.wrap n)) := HL.conv_int Try.underlying3 Try.underlying89
@[go_sem] theorem T.cv5_2 {V : HL.HV} {k : IntKind} {n : Int} : HL.convV Try.prog V 5 2 (.int k n) = some (.int .i64 (IntKind.i64.wrap n)) := HL.conv_int Try.underlying5 Try.underlying2
@[go_sem] theorem T.cv5_3 {V : HL.HV} {k : IntKind} {n : Int} : HL.convV Try.prog V 5 3 (.int k n) = some (.int .i64 (IntKind.i64.wrap n)) := HL.conv_int Try.underlying5 Try.underlying3
@[go_sem] theorem T.cv5_5 {V : HL.HV} {k : IntKind} {n : Int} : HL.convV Try.prog V 5 5 (.int k n) = some (.int .u8 (IntKind.u8.wrap n)) := HL.conv_int Try.underlying5 Try.underlying5
@[go_sem] theorem T.cv5_6 {V : HL.HV} {k : IntKind} {n : Int} : HL.convV Try.prog V 5 6 (.int k n) = some (.int .u8 (IntKind.u8.wrap n)) := HL.conv_int Try.underlying5 Try.underlying6
@[go_sem] theorem T.cv5_12 {V : HL.HV} {k : IntKind} {n : Int} : HL.convV Try.prog V 5 12 (.int k n) = some (.int .u64 (IntKind.u64.wrap n)) := HL.conv_int Try.underlying5 Try.underlying12
@[go_sem] theorem T.cv5_21 {V : HL.HV} {k : IntKind} {n : Int} : HL.convV Try.prog V 5 21 (.int k n) = some (.int .i32 (IntKind.i32.wrap n)) := HL.conv_int Try.underlying5 Try.underlying21
@[go_sem] theorem T.cv5_83 {V : HL.HV} {k : IntKind} {n : Int} : HL.convV Try.prog V 5 83 (.int k n) = some (.int .u32 (IntKind.u32.wrap n)) := HL.conv_int Try.underlying5 Try.underlying83
@[go_sem] theorem T.cv5_84 {V : HL.HV} {k : IntKind} {n : Int} : HL.convV Try.prog V 5 84 (.int k n) = some (.int .u8 (IntKind.u8.wrap n)) := HL.conv_int Try.underlying5 Try.underlying84
@[go_sem] theorem T.cv5_85 {V : HL.HV} {k : IntKind} {n : Int} : HL.convV Try.prog V 5 85 (.int k n) = some (.int .u8 (IntKind.u8.wrap n)) := HL.conv_int Try.underlying5 Try.underlying85
@[go_sem] theorem T.cv5_88 {V : HL.HV} {k : IntKind} {n : Int} : HL.convV Try.prog V 5 88 (.int k n) = some (.int .i32 (IntKind.i32.wrap n)) := HL.conv_int Try.underlying5 Try.underlying88
@[go_sem] theorem T.cv5_89 {V : HL.HV} {k : IntKind} {n : Int} : HL.convV Try.prog V 5 89 (.int k n) = some (.int .i32 (IntKind.i32.wrap n)) := HL.conv_int Try.underlying5 Try.underlying89
@[go_sem] theorem T.cv6_2 {V : HL.HV} {k : IntKind} {n : Int} : HL.convV Try.prog V 6 2 (.int k n) = some (.int .i64 (IntKind.i64.wrap n)) := HL.conv_int Try.underlying6 Try.underlying2
@[go_sem] theorem T.cv6_3 {V : HL.HV} {k : IntKind} {n : Int} : HL.convV Try.prog V 6 3 (.int k n) = some (.int .i64 (IntKind.i64.wrap n)) := HL.conv_int Try.underlying6 Try.underlying3
@[go_sem] theorem T.cv6_5 {V : HL.HV} {k : IntKind} {n : Int} : HL.convV Try.prog V 6 5 (.int k n) = some (.int .u8 (IntKind.u8.wrap n)) := HL.conv_int Try.underlying6 Try.underlying5
@[go_sem] theorem T.cv6_6 {V : HL.HV} {k : IntKind} {n : Int} : HL.convV Try.prog V 6 6 (.int k n) = some (.int .u8 (IntKind.u8.wrap n)) := HL.conv_int Try.underlying6 Try.underlying6
@[go_sem] theorem T.cv6_12 {V : HL.HV} {k : IntKind} {n : Int} : HL.convV Try.prog V 6 12 (.int k n) = some (.int .u64 (IntKind.u64.wrap n)) := HL.conv_int Try.underlying6 Try.underlying12
@[go_sem] theorem T.cv6_21 {V : HL.HV} {k : IntKind} {n : Int} : HL.convV Try.prog V 6 21 (.int k n) = some (.int .i32 (IntKind.i32.wrap n)) := HL.conv_int Try.underlying6 Try.underlying21
@[go_sem] theorem T.cv6_83 {V : HL.HV} {k : IntKind} {n : Int} : HL.convV Try.prog V 6 83 (.int k n) = some (.int .u32 (IntKind.u32.wrap n)) := HL.conv_int Try.underlying6 Try.underlying83
@[go_sem] theorem T.cv6_84 {V : HL.HV} {k : IntKind} {n : Int} : HL.convV Try.prog V 6 84 (.int k n) = some (.int .u8 (IntKind.u8.wrap n)) := HL.conv_int Try.underlying6 Try.underlying84
@[go_sem] theorem T.cv6_85 {V : HL.HV} {k : IntKind} {n : Int} : HL.convV Try.prog V 6 85 (.int k n) = some (.int .u8 (IntKind.u8.wrap n)) := HL.conv_int Try.underlying6 Try.underlying85
@[go_sem] theorem T.cv6_88 {V : HL.HV} {k : IntKind} {n : Int} : HL.convV Try.prog V 6 88 (.int k n) = some (.int .i32 (IntKind.i32.wrap n)) := HL.conv_int Try.underlying6 Try.underlying88
@[go_sem] theorem T.cv6_89 {V : HL.HV} {k : IntKind} {n : Int} : HL.convV Try.prog V 6 89 (.int k n) = some (.int .i32 (IntKind.i32.wrap n)) := HL.conv_int Try.underlying6 Try.underlying89
@[go_sem] theorem T.cv12_2 {V : HL.HV} {k : IntKind} {n : Int} : HL.convV Try.prog V 12 2 (.int k n) = some (.int .i64 (IntKind.i64.wrap n)) := HL.conv_int Try.underlying12 Try.underlying2
@[go_sem] theorem T.cv12_3 {V : HL.HV} {k : IntKind} {n : Int} : HL.convV Try.prog V 12 3 (.int k n) = some (.int .i64 (IntKind.i64.wrap n)) := HL.conv_int Try.underlying12 Try.underlying3
@[go_sem] theorem T.cv12_5 {V : HL.HV} {k : IntKind} {n : Int} : HL.convV Try.prog V 12 5 (.int k n) = some (.int .u8 (IntKind.u8.wrap n)) := HL.conv_int Try.underlying12 Try.underlying5
@[go_sem] theorem T.cv12_6 {V : HL.HV} {k : IntKind} {n : Int} : HL.convV Try.prog V 12 6 (.int k n) = some (.int .u8 (IntKind.u8.wrap n)) := HL.conv_int Try.underlying12 Try.underlying6
@[go_sem] theorem T.cv12_12 {V : HL.HV} {k : IntKind} {n : Int} : HL.convV Try.prog V 12 12 (.int k n) = some (.int .u64 (IntKind.u64.wrap n)) := HL.conv_int Try.underlying12 Try.underlying12
@[go_sem] theorem T.cv12_21 {V : HL.HV} {k : IntKind} {n : Int} : HL.convV Try.prog V 12 21 (.int k n) = some (.int .i32 (IntKind.i32.wrap n)) := HL.conv_int Try.underlying12 Try.underlying21
@[go_sem] theorem T.cv12_83 {V : HL.HV} {k : IntKind} {n : Int} : HL.convV Try.prog V 12 83 (.int k n) = some (.int .u32 (IntKind.u32.wrap n)) := HL.conv_int Try.underlying12 Try.underlying83
@[go_sem] theorem T.cv12_84 {V : HL.HV} {k : IntKind} {n : Int} : HL.convV Try.prog V 12 84 (.int k n) = some (.int .u8 (IntKind.u8.wrap n)) := HL.conv_int Try.underlying12 Try.underlying84
@[go_sem] theorem T.cv12_85 {V : HL.HV} {k : IntKind} {n : Int} : HL.convV Try.prog V 12 85 (.int k n) = some (.int .u8 (IntKind.u8.wrap n)) := HL.conv_int Try.underlying12 Try.underlying85
@[go_sem] theorem T.cv12_88 {V : HL.HV} {k : IntKind} {n : Int} : HL.convV Try.prog V 12 88 (.int k n) = some (.int .i32 (IntKind.i32.wrap n)) := HL.conv_int Try.underlying12 Try.underlying88
@[go_sem] theorem T.cv12_89 {V : HL.HV} {k : IntKind} {n : Int} : HL.convV Try.prog V 12 89 (.int k n) = some (.int .i32 (IntKind.i32.wrap n)) := HL.conv_int Try.underlying12 Try.underlying89
@[go_sem] theorem T.cv21_2 {V : HL.HV} {k : IntKind} {n : Int} : HL.convV Try.prog V 21 2 (.int k n) = some (.int .i64 (IntKind.i64.wrap n)) := HL.conv_int Try.underlying21 Try.underlying2
@[go_sem] theorem T.cv21_3 {V : HL.HV} {k : IntKind} {n : Int} : HL.convV Try.prog V 21 3 (.int k n) = some (.int .i64 (IntKind.i64.wrap n)) := HL.conv_int Try.underlying21 Try.underlying3
@[go_sem] theorem T.cv21_5 {V : HL.HV} {k : IntKind} {n : Int} : HL.convV Try.prog V 21 5 (.int k n) = some (.int .u8 (IntKind.u8.wrap n)) := HL.conv_int Try.underlying21 Try.underlying5
@[go_sem] theorem T.cv21_6 {V : HL.HV} {k : IntKind} {n : Int} : HL.convV Try.prog V 21 6 (.int k n) = some (.int .u8 (IntKind.u8.wrap n)) := HL.conv_int Try.underlying21 Try.underlying6
@[go_sem] theorem T.cv21_12 {V : HL.HV} {k : IntKind} {n : Int} : HL.convV Try.prog V 21 12 (.int k n) = some (.int .u64 (IntKind.u64.wrap n)) := HL.conv_int Try.underlying21 Try.underlying12
@[go_sem] theorem T.cv21_21 {V : HL.HV} {k : IntKind} {n : Int} : HL.convV Try.prog V 21 21 (.int k n) = some (.int .i32 (IntKind.i32.wrap n)) := HL.conv_int Try.underlying21 Try.underlying21
@[go_sem] theorem T.cv21_83 {V : HL.HV} {k : IntKind} {n : Int} : HL.convV Try.prog V 21 83 (.int k n) = some (.int .u32 (IntKind.u32.wrap n)) := HL.conv_int Try.underlying21 Try.underlying83
@[go_sem] theorem T.cv21_84 {V : HL.HV} {k : IntKind} {n : Int} : HL.convV Try.prog V 21 84 (.int k n) = some (.int .u8 (IntKind.u8.wrap n)) := HL.conv_int Try.underlying21 Try.underlying84
@[go_sem] theorem T.cv21_85 {V : HL.HV} {k : IntKind} {n : Int} : HL.convV Try.prog V 21 85 (.int k n) = some (.int .u8 (IntKind.u8.wrap n)) := HL.conv_int Try.underlying21 Try.underlying85
@[go_sem] theorem T.cv21_88 {V : HL.HV} {k : IntKind} {n : Int} : HL.convV Try.prog V 21 88 (.int k n) = some (.int .i32 (IntKind.i32.wrap n)) := HL.conv_int Try.underlying21 Try.underlying88
@[go_sem] theorem T.cv21_89 {V : HL.HV} {k : IntKind} {n : Int} : HL.convV Try.prog V 21 89 (.int k n) = some (.int .i32 (IntKind.i32.wrap n)) := HL.conv_int Try.underlying21 Try.underlying89
@[go_sem] theorem T.cv83_2 {V : HL.HV} {k : IntKind} {n : Int} : HL.convV Try.prog V 83 2 (.int k n) = some (.int .i64 (IntKind.i64.wrap n)) := HL.conv_int Try.underlying83 Try.underlying2
@[go_sem] theorem T.cv83_3 {V : HL.HV} {k : IntKind} {n : Int} : HL.convV Try.prog V 83 3 (.int k n) = some (.int .i64 (IntKind.i64.wrap n)) := HL.conv_int Try.underlying83 Try.underlying3
@[go_sem] theorem T.cv83_5 {V : HL.HV} {k : IntKind} {n : Int} : HL.convV Try.prog V 83 5 (.int k n) = some (.int .u8 (IntKind.u8.wrap n)) := HL.conv_int Try.underlying83 Try.underlying5
@[go_sem] theorem T.cv83_6 {V : HL.HV} {k : IntKind} {n : Int} : HL.convV Try.prog V 83 6 (.int k n) = some (.int .u8 (IntKind.u8.wrap n)) := HL.conv_int Try.underlying83 Try.underlying6
@[go_sem] theorem T.cv83_12 {V : HL.HV} {k : IntKind} {n : Int} : HL.convV Try.prog V 83 12 (.int k n) = some (.int .u64 (IntKind.u64.wrap n)) := HL.conv_int Try.underlying83 Try.underlying12
@[go_sem] theorem T.cv83_21 {V : HL.HV} {k : IntKind} {n : Int} : HL.convV Try.prog V 83 21 (.int k n) = some (.int .i32 (IntKind.i32.wrap n)) := HL.conv_int Try.underlying83 Try.underlying21
@[go_sem] theorem T.cv83_83 {V : HL.HV} {k : IntKind} {n : Int} : HL.convV Try.prog V 83 83 (.int k n) = some (.int .u32 (IntKind.u32.wrap n)) := HL.conv_int Try.underlying83 Try.underlying83
@[go_sem] theorem T.cv83_84 {V : HL.HV} {k : IntKind} {n : Int} : HL.convV Try.prog V 83 84 (.int k n) = some (.int .u8 (IntKind.u8.wrap n)) := HL.conv_int Try.underlying83 Try.underlying84
@[go_sem] theorem T.cv83_85 {V : HL.HV} {k : IntKind} {n : Int} : HL.convV Try.prog V 83 85 (.int k n) = some (.int .u8 (IntKind.u8.wrap n)) := HL.conv_int Try.underlying83 Try.underlying85
@[go_sem] theorem T.cv83_88 {V : HL.HV} {k : IntKind} {n : Int} : HL.convV Try.prog V 83 88 (.int k n) = some (.int .i32 (IntKind.i32.wrap n)) := HL.conv_int Try.underlying83 Try.underlying88
@[go_sem] theorem T.cv83_89 {V : HL.HV} {k : IntKind} {n : Int} : HL.convV Try.prog V 83 89 (.int k n) = some (.int .i32 (IntKind.i32.wrap n)) := HL.conv_int Try.underlying83 Try.underlying89
@[go_sem] theorem T.cv84_2 {V : HL.HV} {k : IntKind} {n : Int} : HL.convV Try.prog V 84 2 (.int k n) = some (.int .i64 (IntKind.i64.wrap n)) := HL.conv_int Try.underlying84 Try.underlying2
@[go_sem] theorem T.cv84_3 {V : HL.HV} {k : IntKind} {n : Int} : HL.convV Try.prog V 84 3 (.int k n) = some (.int .i64 (IntKind.i64.wrap n)) := HL.conv_int Try.underlying84 Try.underlying3
@[go_sem] theorem T.cv84_5 {V : HL.HV} {k : IntKind} {n : Int} : HL.convV Try.prog V 84 5 (.int k n) = some (.int .u8 (IntKind.u8.wrap n)) := HL.conv_int Try.underlying84 Try.underlying5
@[go_sem] theorem T.cv84_6 {V : HL.HV} {k : IntKind} {n : Int} : HL.convV Try.prog V 84 6 (.int k n) = some (.int .u8 (IntKind.u8.wrap n)) := HL.conv_int Try.underlying84 Try.underlying6
@[go_sem] theorem T.cv84_12 {V : HL.HV} {k : IntKind} {n : Int} : HL.convV Try.prog V 84 12 (.int k n) = some (.int .u64 (IntKind.u64.wrap n)) := HL.conv_int Try.underlying84 Try.underlying12
@[go_sem] theorem T.cv84_21 {V : HL.HV} {k : IntKind} {n : Int} : HL.convV Try.prog V 84 21 (.int k n) = some (.int .i32 (IntKind.i32.wrap n)) := HL.conv_int Try.underlying84 Try.underlying21
@[go_sem] theorem T.cv84_83 {V : HL.HV} {k : IntKind} {n : Int} : HL.convV Try.prog V 84 83 (.int k n) = some (.int .u32 (IntKind.u32.wrap n)) := HL.conv_int Try.underlying84 Try.underlying83
@[go_sem] theorem T.cv84_84 {V : HL.HV} {k : IntKind} {n : Int} : HL.convV Try.prog V 84 84 (.int k n) = some (.int .u8 (IntKind.u8.wrap n)) := HL.conv_int Try.underlying84 Try.underlying84
@[go_sem] theorem T.cv84_85 {V : HL.HV} {k : IntKind} {n : Int} : HL.convV Try.prog V 84 85 (.int k n) = some (.int .u8 (IntKind.u8.wrap n)) := HL.conv_int Try.underlying84 Try.underlying85
@[go_sem] theorem T.cv84_88 {V : HL.HV} {k : IntKind} {n : Int} : HL.convV Try.prog V 84 88 (.int k n) = some (.int .i32 (IntKind.i32.wrap n)) := HL.conv_int Try.underlying84 Try.underlying88
@[go_sem] theorem T.cv84_89 {V : HL.HV} {k : IntKind} {n : Int} : HL.convV Try.prog V 84 89 (.int k n) = some (.int .i32 (IntKind.i32.wrap n)) := HL.conv_int Try.underlying84 Try.underlying89
@[go_sem] theorem T.cv85_2 {V : HL.HV} {k : IntKind} {n : Int} : HL.convV Try.prog V 85 2 (.int k n) = some (.int .i64 (IntKind.i64.wrap n)) := HL.conv_int Try.underlying85 Try.underlying2
@[go_sem] theorem T.cv85_3 {V : HL.HV} {k : IntKind} {n : Int} : HL.convV Try.prog V 85 3 (.int k n) = some (.int .i64 (IntKind.i64.wrap n)) := HL.conv_int Try.underlying85 Try.underlying3
@[go_sem] theorem T.cv85_5 {V : HL.HV} {k : IntKind} {n : Int} : HL.convV Try.prog V 85 5 (.int k n) = some (.int .u8 (IntKind.u8.wrap n)) := HL.conv_int Try.underlying85 Try.underlying5
@[go_sem] theorem T.cv85_6 {V : HL.HV} {k : IntKind} {n : Int} : HL.convV Try.prog V 85 6 (.int k n) = some (.int .u8 (IntKind.u8.wrap n)) := HL.conv_int Try.underlying85 Try.underlying6
@[go_sem] theorem T.cv85_12 {V : HL.HV} {k : IntKind} {n : Int} : HL.convV Try.prog V 85 12 (.int k n) = some (.int .u64 (IntKind.u64.wrap n)) := HL.conv_int Try.underlying85 Try.underlying12
@[go_sem] theorem T.cv85_21 {V : HL.HV} {k : IntKind} {n : Int} : HL.convV Try.prog V 85 21 (.int k n) = some (.int .i32 (IntKind.i32.wrap n)) := HL.conv_int Try.underlying85 Try.underlying21
@[go_sem] theorem T.cv85_83 {V : HL.HV} {k : IntKind} {n : Int} : HL.convV Try.prog V 85 83 (.int k n) = some (.int .u32 (IntKind.u32.wrap n)) := HL.conv_int Try.underlying85 Try.underlying83
@[go_sem] theorem T.cv85_84 {V : HL.HV} {k : IntKind} {n : Int} : HL.convV Try.prog V 85 84 (.int k n) = some (.int .u8 (IntKind.u8.wrap n)) := HL.conv_int Try.underlying85 Try.underlying84
@[go_sem] theorem T.cv85_85 {V : HL.HV} {k : IntKind} {n : Int} : HL.convV Try.prog V 85 85 (.int k n) = some (.int .u8 (IntKind.u8.wrap n)) := HL.conv_int Try.underlying85 Try.underlying85
@[go_sem] theorem T.cv85_88 {V : HL.HV} {k : IntKind} {n : Int} : HL.convV Try.prog V 85 88 (.int k n) = some (.int .i32 (IntKind.i32.wrap n)) := HL.conv_int Try.underlying85 Try.underlying88
@[go_sem] theorem T.cv85_89 {V : HL.HV} {k : IntKind} {n : Int} : HL.convV Try.prog V 85 89 (.int k n) = some (.int .i32 (IntKind.i32.wrap n)) := HL.conv_int Try.underlying85 Try.underlying89
@[go_sem] theorem T.cv88_2 {V : HL.HV} {k : IntKind} {n : Int} : HL.convV Try.prog V 88 2 (.int k n) = some (.int .i64 (IntKind.i64.wrap n)) := HL.conv_int Try.underlying88 Try.underlying2
@[go_sem] theorem T.cv88_3 {V : HL.HV} {k : IntKind} {n : Int} : HL.convV Try.prog V 88 3 (.int k n) = some (.int .i64 (IntKind.i64.wrap n)) := HL.conv_int Try.underlying88 Try.underlying3
@[go_sem] theorem T.cv88_5 {V : HL.HV} {k : IntKind} {n : Int} : HL.convV Try.prog V 88 5 (.int k n) = some (.int .u8 (IntKind.u8.wrap n)) := HL.conv_int Try.underlying88 Try.underlying5
@[go_sem] theorem T.cv88_6 {V : HL.HV} {k : IntKind} {n : Int} : HL.convV Try.prog V 88 6 (.int k n) = some (.int .u8 (IntKind.u8.wrap n)) := HL.conv_int Try.underlying88 Try.underlying6
@[go_sem] theorem T.cv88_12 {V : HL.HV} {k : IntKind} {n : Int} : HL.convV Try.prog V 88 12 (.int k n) = some (.int .u64 (IntKind.u64.wrap n)) := HL.conv_int Try.underlying88 Try.underlying12
@[go_sem] theorem T.cv88_21 {V : HL.HV} {k : IntKind} {n : Int} : HL.convV Try.prog V 88 21 (.int k n) = some (.int .i32 (IntKind.i32.wrap n)) := HL.conv_int Try.underlying88 Try.underlying21
@[go_sem] theorem T.cv88_83 {V : HL.HV} {k : IntKind} {n : Int} : HL.convV Try.prog V 88 83 (.int k n) = some (.int .u32 (IntKind.u32.wrap n)) := HL.conv_int Try.underlying88 Try.underlying83
@[go_sem] theorem T.cv88_84 {V : HL.HV} {k : IntKind} {n : Int} : HL.convV Try.prog V 88 84 (.int k n) = some (.int .u8 (IntKind.u8.wrap n)) := HL.conv_int Try.underlying88 Try.underlying84
@[go_sem] theorem T.cv88_85 {V : HL.HV} {k : IntKind} {n : Int} : HL.convV Try.prog V 88 85 (.int k n) = some (.int .u8 (IntKind.u8.wrap n)) := HL.conv_int Try.underlying88 Try.underlying85
@[go_sem] theorem T.cv88_88 {V : HL.HV} {k : IntKind} {n : Int} : HL.convV Try.prog V 88 88 (.int k n) = some (.int .i32 (IntKind.i32.wrap n)) := HL.conv_int Try.underlying88 Try.underlying88
@[go_sem] theorem T.cv88_89 {V : HL.HV} {k : IntKind} {n : Int} : HL.convV Try.prog V 88 89 (.int k n) = some (.int .i32 (IntKind.i32.wrap n)) := HL.conv_int Try.underlying88 Try.underlying89
@[go_sem] theorem T.cv89_2 {V : HL.HV} {k : IntKind} {n : Int} : HL.convV Try.prog V 89 2 (.int k n) = some (.int .i64 (IntKind.i64.wrap n)) := HL.conv_int Try.underlying89 Try.underlying2
@[go_sem] theorem T.cv89_3 {V : HL.HV} {k : IntKind} {n : Int} : HL.convV Try.prog V 89 3 (.int k n) = some (.int .i64 (IntKind.i64.wrap n)) := HL.conv_int Try.underlying89 Try.underlying3
@[go_sem] theorem T.cv89_5 {V : HL.HV} {k : IntKind} {n : Int} : HL.convV Try.prog V 89 5 (.int k n) = some (.int .u8 (IntKind.u8.wrap n)) := HL.conv_int Try.underlying89 Try.underlying5
@[go_sem] theorem T.cv89_6 {V : HL.HV} {k : IntKind} {n : Int} : HL.convV Try.prog V 89 6 (.int k n) = some (.int .u8 (IntKind.u8.wrap n)) := HL.conv_int Try.underlying89 Try.underlying6
@[go_sem] theorem T.cv89_12 {V : HL.HV} {k : IntKind} {n : Int} : HL.convV Try.prog V 89 12 (.int k n) = some (.int .u64 (IntKind.u64.wrap n)) := HL.conv_int Try.underlying89 Try.underlying12
@[go_sem] theorem T.cv89_21 {V : HL.HV} {k : IntKind} {n : Int} : HL.convV Try.prog V 89 21 (.int k n) = some (.int .i32 (IntKind.i32.wrap n)) := HL.conv_int Try.underlying89 Try.underlying21
@[go_sem] theorem T.cv89_83 {V : HL.HV} {k : IntKind} {n : Int} : HL.convV Try.prog V 89 83 (.int k n) = some (.int .u32 (IntKind.u32.wrap n)) := HL.conv_int Try.underlying89 Try.underlying83
@[go_sem] theorem T.cv89_84 {V : HL.HV} {k : IntKind} {n : Int} : HL.convV Try.prog V 89 84 (.int k n) = some (.int .u8 (IntKind.u8.wrap n)) := HL.conv_int Try.underlying89 Try.underlying84
@[go_sem] theorem T.cv89_85 {V : HL.HV} {k : IntKind} {n : Int} : HL.convV Try.prog V 89 85 (.int k n) = some (.int .u8 (IntKind.u8.wrap n)) := HL.conv_int Try.underlying89 Try.underlying85
@[go_sem] theorem T.cv89_88 {V : HL.HV} {k : IntKind} {n : Int} : HL.convV Try.prog V 89 88 (.int k n) = some (.int .i32 (IntKind.i32.wrap n)) := HL.conv_int Try.underlying89 Try.underlying88
@[go_sem] theorem T.cv89_89 {V : HL.HV} {k : IntKind} {n : Int} : HL.convV Try.prog V 89 89 (.int k n) = some (.int .i32 (IntKind.i32.wrap n)) := HL.conv_int Try.underlying89 Try.underlying89
end Go.Proofs
