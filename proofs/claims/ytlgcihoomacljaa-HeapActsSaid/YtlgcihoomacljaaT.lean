/- Closed facts on the types of the program. -/
import Derived.Test.YtlgcihoomacljaaProg
import Derived.Test.YtlgcihoomacljaaHLCut
namespace Go.Proofs
theorem T.mixed : Try.prog.follows .mixedOrders = true := by kernel_rfl
@[go_sem] theorem T.agg1 : HL.aggN Try.prog 1 = some none := by kernel_rfl
@[go_sem] theorem T.size1 : HL.sizeT Try.prog 1 = some 1 := by kernel_rfl
@[go_sem] theorem T.bytes1 : HL.bytesT Try.prog 1 = some 8 := by kernel_rfl
@[go_sem] theorem T.zero1 : HL.zeroT Try.prog 1 = some (.nilFunc) := by kernel_rfl
@[go_sem] theorem T.agg2 : HL.aggN Try.prog 2 = some none := by kernel_rfl
@[go_sem] theorem T.size2 : HL.sizeT Try.prog 2 = some 1 := by kernel_rfl
@[go_sem] theorem T.bytes2 : HL.bytesT Try.prog 2 = some 8 := by kernel_rfl
@[go_sem] theorem T.zero2 : HL.zeroT Try.prog 2 = some (.int .i64 0) := by kernel_rfl
@[go_sem] theorem T.agg3 : HL.aggN Try.prog 3 = some none := by kernel_rfl
@[go_sem] theorem T.size3 : HL.sizeT Try.prog 3 = some 1 := by kernel_rfl
@[go_sem] theorem T.bytes3 : HL.bytesT Try.prog 3 = some 8 := by kernel_rfl
@[go_sem] theorem T.zero3 : HL.zeroT Try.prog 3 = some (.int .i64 0) := by kernel_rfl
@[go_sem] theorem T.agg4 : HL.aggN Try.prog 4 = some none := by kernel_rfl
@[go_sem] theorem T.size4 : HL.sizeT Try.prog 4 = some 1 := by kernel_rfl
@[go_sem] theorem T.bytes4 : HL.bytesT Try.prog 4 = some 1 := by kernel_rfl
@[go_sem] theorem T.zero4 : HL.zeroT Try.prog 4 = some (.bool false) := by kernel_rfl
@[go_sem] theorem T.agg5 : HL.aggN Try.prog 5 = some none := by kernel_rfl
@[go_sem] theorem T.size5 : HL.sizeT Try.prog 5 = some 1 := by kernel_rfl
@[go_sem] theorem T.bytes5 : HL.bytesT Try.prog 5 = some 1 := by kernel_rfl
@[go_sem] theorem T.zero5 : HL.zeroT Try.prog 5 = some (.int .u8 0) := by kernel_rfl
@[go_sem] theorem T.agg6 : HL.aggN Try.prog 6 = some none := by kernel_rfl
@[go_sem] theorem T.size6 : HL.sizeT Try.prog 6 = some 1 := by kernel_rfl
@[go_sem] theorem T.bytes6 : HL.bytesT Try.prog 6 = some 1 := by kernel_rfl
@[go_sem] theorem T.zero6 : HL.zeroT Try.prog 6 = some (.int .u8 0) := by kernel_rfl
@[go_sem] theorem T.agg7 : HL.aggN Try.prog 7 = some (some 4) := by kernel_rfl
@[go_sem] theorem T.size7 : HL.sizeT Try.prog 7 = some 4 := by kernel_rfl
@[go_sem] theorem T.bytes7 : HL.bytesT Try.prog 7 = some 24 := by kernel_rfl
@[go_sem] theorem T.zero7 : HL.zeroT Try.prog 7 = some (.agg #[.int .i64 0, .int .i64 0, .bool false, .int .u8 0]) := by kernel_rfl
@[go_sem] theorem T.places7 : HL.placesT Try.prog 7 = some [(0, 1), (1, 1), (2, 1), (3, 1)] := by kernel_rfl
@[go_sem] theorem T.field7_0 : HL.fieldT Try.prog 7 0 = some (0, 2) := by kernel_rfl
@[go_sem] theorem T.fieldO7_0 : HL.fieldO Try.prog 7 0 = some 0 := by kernel_rfl
@[go_sem] theorem T.field7_1 : HL.fieldT Try.prog 7 1 = some (1, 3) := by kernel_rfl
@[go_sem] theorem T.fieldO7_1 : HL.fieldO Try.prog 7 1 = some 1 := by kernel_rfl
@[go_sem] theorem T.field7_2 : HL.fieldT Try.prog 7 2 = some (2, 4) := by kernel_rfl
@[go_sem] theorem T.fieldO7_2 : HL.fieldO Try.prog 7 2 = some 2 := by kernel_rfl
@[go_sem] theorem T.field7_3 : HL.fieldT Try.prog 7 3 = some (3, 6) := by kernel_rfl
@[go_sem] theorem T.fieldO7_3 : HL.fieldO Try.prog 7 3 = some 3 := by kernel_rfl
@[go_sem] theorem T.agg8 : HL.aggN Try.prog 8 = some (some 4) := by kernel_rfl
@[go_sem] theorem T.size8 : HL.sizeT Try.prog 8 = some 4 := by kernel_rfl
@[go_sem] theorem T.bytes8 : HL.bytesT Try.prog 8 = some 24 := by kernel_rfl
@[go_sem] theorem T.zero8 : HL.zeroT Try.prog 8 = some (.agg #[.int .i64 0, .int .i64 0, .bool false, .int .u8 0]) := by kernel_rfl
@[go_sem] theorem T.places8 : HL.placesT Try.prog 8 = some [(0, 1), (1, 1), (2, 1), (3, 1)] := by kernel_rfl
@[go_sem] theorem T.field8_0 : HL.fieldT Try.prog 8 0 = some (0, 2) := by kernel_rfl
@[go_sem] theorem T.fieldO8_0 : HL.fieldO Try.prog 8 0 = some 0 := by kernel_rfl
@[go_sem] theorem T.field8_1 : HL.fieldT Try.prog 8 1 = some (1, 3) := by kernel_rfl
@[go_sem] theorem T.fieldO8_1 : HL.fieldO Try.prog 8 1 = some 1 := by kernel_rfl
@[go_sem] theorem T.field8_2 : HL.fieldT Try.prog 8 2 = some (2, 4) := by kernel_rfl
@[go_sem] theorem T.fieldO8_2 : HL.fieldO Try.prog 8 2 = some 2 := by kernel_rfl
@[go_sem] theorem T.field8_3 : HL.fieldT Try.prog 8 3 = some (3, 6) := by kernel_rfl
@[go_sem] theorem T.fieldO8_3 : HL.fieldO Try.prog 8 3 = some 3 := by kernel_rfl
@[go_sem] theorem T.agg9 : HL.aggN Try.prog 9 = some none := by kernel_rfl
@[go_sem] theorem T.size9 : HL.sizeT Try.prog 9 = some 1 := by kernel_rfl
@[go_sem] theorem T.bytes9 : HL.bytesT Try.prog 9 = some 16 := by kernel_rfl
@[go_sem] theorem T.zero9 : HL.zeroT Try.prog 9 = some (.string ⟨#[]⟩) := by kernel_rfl
@[go_sem] theorem T.agg10 : HL.aggN Try.prog 10 = some none := by kernel_rfl
@[go_sem] theorem T.size10 : HL.sizeT Try.prog 10 = some 1 := by kernel_rfl
@[go_sem] theorem T.bytes10 : HL.bytesT Try.prog 10 = some 16 := by kernel_rfl
@[go_sem] theorem T.zero10 : HL.zeroT Try.prog 10 = some (.string ⟨#[]⟩) := by kernel_rfl
@[go_sem] theorem T.agg11 : HL.aggN Try.prog 11 = some none := by kernel_rfl
@[go_sem] theorem T.size11 : HL.sizeT Try.prog 11 = some 1 := by kernel_rfl
@[go_sem] theorem T.bytes11 : HL.bytesT Try.prog 11 = some 16 := by kernel_rfl
@[go_sem] theorem T.zero11 : HL.zeroT Try.prog 11 = some (.string ⟨#[]⟩) := by kernel_rfl
@[go_sem] theorem T.agg12 : HL.aggN Try.prog 12 = some none := by kernel_rfl
@[go_sem] theorem T.size12 : HL.sizeT Try.prog 12 = some 1 := by kernel_rfl
@[go_sem] theorem T.bytes12 : HL.bytesT Try.prog 12 = some 8 := by kernel_rfl
@[go_sem] theorem T.zero12 : HL.zeroT Try.prog 12 = some (.int .u64 0) := by kernel_rfl
@[go_sem] theorem T.agg13 : HL.aggN Try.prog 13 = some (some 2) := by kernel_rfl
@[go_sem] theorem T.size13 : HL.sizeT Try.prog 13 = some 2 := by kernel_rfl
@[go_sem] theorem T.bytes13 : HL.bytesT Try.prog 13 = some 24 := by kernel_rfl
@[go_sem] theorem T.zero13 : HL.zeroT Try.prog 13 = some (.agg #[.string ⟨#[]⟩, .int .u64 0]) := by kernel_rfl
@[go_sem] theorem T.places13 : HL.placesT Try.prog 13 = some [(0, 1), (1, 1)] := by kernel_rfl
@[go_sem] theorem T.field13_0 : HL.fieldT Try.prog 13 0 = some (0, 9) := by kernel_rfl
@[go_sem] theorem T.fieldO13_0 : HL.fieldO Try.prog 13 0 = some 0 := by kernel_rfl
@[go_sem] theorem T.field13_1 : HL.fieldT Try.prog 13 1 = some (1, 12) := by kernel_rfl
@[go_sem] theorem T.fieldO13_1 : HL.fieldO Try.prog 13 1 = some 1 := by kernel_rfl
@[go_sem] theorem T.agg14 : HL.aggN Try.prog 14 = some (some 2) := by kernel_rfl
@[go_sem] theorem T.size14 : HL.sizeT Try.prog 14 = some 2 := by kernel_rfl
@[go_sem] theorem T.bytes14 : HL.bytesT Try.prog 14 = some 24 := by kernel_rfl
@[go_sem] theorem T.zero14 : HL.zeroT Try.prog 14 = some (.agg #[.string ⟨#[]⟩, .int .u64 0]) := by kernel_rfl
@[go_sem] theorem T.places14 : HL.placesT Try.prog 14 = some [(0, 1), (1, 1)] := by kernel_rfl
@[go_sem] theorem T.field14_0 : HL.fieldT Try.prog 14 0 = some (0, 9) := by kernel_rfl
@[go_sem] theorem T.fieldO14_0 : HL.fieldO Try.prog 14 0 = some 0 := by kernel_rfl
@[go_sem] theorem T.field14_1 : HL.fieldT Try.prog 14 1 = some (1, 12) := by kernel_rfl
@[go_sem] theorem T.fieldO14_1 : HL.fieldO Try.prog 14 1 = some 1 := by kernel_rfl
@[go_sem] theorem T.agg15 : HL.aggN Try.prog 15 = some none := by kernel_rfl
@[go_sem] theorem T.size15 : HL.sizeT Try.prog 15 = some 1 := by kernel_rfl
@[go_sem] theorem T.bytes15 : HL.bytesT Try.prog 15 = some 8 := by kernel_rfl
@[go_sem] theorem T.zero15 : HL.zeroT Try.prog 15 = some (.pointer none) := by kernel_rfl
@[go_sem] theorem T.agg16 : HL.aggN Try.prog 16 = some none := by kernel_rfl
@[go_sem] theorem T.size16 : HL.sizeT Try.prog 16 = some 1 := by kernel_rfl
@[go_sem] theorem T.bytes16 : HL.bytesT Try.prog 16 = some 8 := by kernel_rfl
@[go_sem] theorem T.zero16 : HL.zeroT Try.prog 16 = some (.pointer none) := by kernel_rfl
@[go_sem] theorem T.agg17 : HL.aggN Try.prog 17 = some none := by kernel_rfl
@[go_sem] theorem T.size17 : HL.sizeT Try.prog 17 = some 1 := by kernel_rfl
@[go_sem] theorem T.bytes17 : HL.bytesT Try.prog 17 = some 8 := by kernel_rfl
@[go_sem] theorem T.zero17 : HL.zeroT Try.prog 17 = some (.pointer none) := by kernel_rfl
@[go_sem] theorem T.agg18 : HL.aggN Try.prog 18 = some (some 1) := by kernel_rfl
@[go_sem] theorem T.size18 : HL.sizeT Try.prog 18 = some 1 := by kernel_rfl
@[go_sem] theorem T.bytes18 : HL.bytesT Try.prog 18 = some 8 := by kernel_rfl
@[go_sem] theorem T.zero18 : HL.zeroT Try.prog 18 = some (.agg #[.pointer none]) := by kernel_rfl
@[go_sem] theorem T.places18 : HL.placesT Try.prog 18 = some [(0, 1)] := by kernel_rfl
@[go_sem] theorem T.field18_0 : HL.fieldT Try.prog 18 0 = some (0, 17) := by kernel_rfl
@[go_sem] theorem T.fieldO18_0 : HL.fieldO Try.prog 18 0 = some 0 := by kernel_rfl
@[go_sem] theorem T.agg19 : HL.aggN Try.prog 19 = some (some 1) := by kernel_rfl
@[go_sem] theorem T.size19 : HL.sizeT Try.prog 19 = some 1 := by kernel_rfl
@[go_sem] theorem T.bytes19 : HL.bytesT Try.prog 19 = some 8 := by kernel_rfl
@[go_sem] theorem T.zero19 : HL.zeroT Try.prog 19 = some (.agg #[.pointer none]) := by kernel_rfl
@[go_sem] theorem T.places19 : HL.placesT Try.prog 19 = some [(0, 1)] := by kernel_rfl
@[go_sem] theorem T.field19_0 : HL.fieldT Try.prog 19 0 = some (0, 17) := by kernel_rfl
@[go_sem] theorem T.fieldO19_0 : HL.fieldO Try.prog 19 0 = some 0 := by kernel_rfl
@[go_sem] theorem T.agg20 : HL.aggN Try.prog 20 = some none := by kernel_rfl
@[go_sem] theorem T.size20 : HL.sizeT Try.prog 20 = some 1 := by kernel_rfl
@[go_sem] theorem T.bytes20 : HL.bytesT Try.prog 20 = some 16 := by kernel_rfl
@[go_sem] theorem T.zero20 : HL.zeroT Try.prog 20 = some (.nilIface) := by kernel_rfl
@[go_sem] theorem T.agg21 : HL.aggN Try.prog 21 = some none := by kernel_rfl
@[go_sem] theorem T.size21 : HL.sizeT Try.prog 21 = some 1 := by kernel_rfl
@[go_sem] theorem T.bytes21 : HL.bytesT Try.prog 21 = some 4 := by kernel_rfl
@[go_sem] theorem T.zero21 : HL.zeroT Try.prog 21 = some (.int .i32 0) := by kernel_rfl
@[go_sem] theorem T.agg22 : HL.aggN Try.prog 22 = some none := by kernel_rfl
@[go_sem] theorem T.size22 : HL.sizeT Try.prog 22 = some 1 := by kernel_rfl
@[go_sem] theorem T.bytes22 : HL.bytesT Try.prog 22 = some 24 := by kernel_rfl
@[go_sem] theorem T.zero22 : HL.zeroT Try.prog 22 = some (.slice none 0 0) := by kernel_rfl
@[go_sem] theorem T.elem22 : HL.elemT Try.prog 22 = some 2 := by kernel_rfl
@[go_sem] theorem T.elemS22 : HL.elemS Try.prog 22 = some 1 := by kernel_rfl
@[go_sem] theorem T.agg23 : HL.aggN Try.prog 23 = some none := by kernel_rfl
@[go_sem] theorem T.size23 : HL.sizeT Try.prog 23 = some 1 := by kernel_rfl
@[go_sem] theorem T.bytes23 : HL.bytesT Try.prog 23 = some 8 := by kernel_rfl
@[go_sem] theorem T.zero23 : HL.zeroT Try.prog 23 = some (.nilFunc) := by kernel_rfl
@[go_sem] theorem T.agg24 : HL.aggN Try.prog 24 = some none := by kernel_rfl
@[go_sem] theorem T.size24 : HL.sizeT Try.prog 24 = some 1 := by kernel_rfl
@[go_sem] theorem T.bytes24 : HL.bytesT Try.prog 24 = some 8 := by kernel_rfl
@[go_sem] theorem T.zero24 : HL.zeroT Try.prog 24 = some (.pointer none) := by kernel_rfl
@[go_sem] theorem T.agg25 : HL.aggN Try.prog 25 = some none := by kernel_rfl
@[go_sem] theorem T.size25 : HL.sizeT Try.prog 25 = some 1 := by kernel_rfl
@[go_sem] theorem T.bytes25 : HL.bytesT Try.prog 25 = some 8 := by kernel_rfl
@[go_sem] theorem T.zero25 : HL.zeroT Try.prog 25 = some (.int .i64 0) := by kernel_rfl
@[go_sem] theorem T.agg27 : HL.aggN Try.prog 27 = some none := by kernel_rfl
@[go_sem] theorem T.size27 : HL.sizeT Try.prog 27 = some 1 := by kernel_rfl
@[go_sem] theorem T.bytes27 : HL.bytesT Try.prog 27 = some 8 := by kernel_rfl
@[go_sem] theorem T.zero27 : HL.zeroT Try.prog 27 = some (.nilFunc) := by kernel_rfl
@[go_sem] theorem T.agg28 : HL.aggN Try.prog 28 = some none := by kernel_rfl
@[go_sem] theorem T.size28 : HL.sizeT Try.prog 28 = some 1 := by kernel_rfl
@[go_sem] theorem T.bytes28 : HL.bytesT Try.prog 28 = some 8 := by kernel_rfl
@[go_sem] theorem T.zero28 : HL.zeroT Try.prog 28 = some (.nilFunc) := by kernel_rfl
@[go_sem] theorem T.agg30 : HL.aggN Try.prog 30 = some none := by kernel_rfl
@[go_sem] theorem T.size30 : HL.sizeT Try.prog 30 = some 1 := by kernel_rfl
@[go_sem] theorem T.bytes30 : HL.bytesT Try.prog 30 = some 8 := by kernel_rfl
@[go_sem] theorem T.zero30 : HL.zeroT Try.prog 30 = some (.nilFunc) := by kernel_rfl
@[go_sem] theorem T.agg31 : HL.aggN Try.prog 31 = some none := by kernel_rfl
@[go_sem] theorem T.size31 : HL.sizeT Try.prog 31 = some 1 := by kernel_rfl
@[go_sem] theorem T.bytes31 : HL.bytesT Try.prog 31 = some 8 := by kernel_rfl
@[go_sem] theorem T.zero31 : HL.zeroT Try.prog 31 = some (.nilFunc) := by kernel_rfl
@[go_sem] theorem T.agg32 : HL.aggN Try.prog 32 = some none := by kernel_rfl
@[go_sem] theorem T.size32 : HL.sizeT Try.prog 32 = some 1 := by kernel_rfl
@[go_sem] theorem T.bytes32 : HL.bytesT Try.prog 32 = some 8 := by kernel_rfl
@[go_sem] theorem T.zero32 : HL.zeroT Try.prog 32 = some (.nilFunc) := by kernel_rfl
@[go_sem] theorem T.agg33 : HL.aggN Try.prog 33 = some none := by kernel_rfl
@[go_sem] theorem T.size33 : HL.sizeT Try.prog 33 = some 1 := by kernel_rfl
@[go_sem] theorem T.bytes33 : HL.bytesT Try.prog 33 = some 8 := by kernel_rfl
@[go_sem] theorem T.zero33 : HL.zeroT Try.prog 33 = some (.nilFunc) := by kernel_rfl
@[go_sem] theorem T.agg34 : HL.aggN Try.prog 34 = some none := by kernel_rfl
@[go_sem] theorem T.size34 : HL.sizeT Try.prog 34 = some 1 := by kernel_rfl
@[go_sem] theorem T.bytes34 : HL.bytesT Try.prog 34 = some 8 := by kernel_rfl
@[go_sem] theorem T.zero34 : HL.zeroT Try.prog 34 = some (.nilFunc) := by kernel_rfl
@[go_sem] theorem T.agg35 : HL.aggN Try.prog 35 = some none := by kernel_rfl
@[go_sem] theorem T.size35 : HL.sizeT Try.prog 35 = some 1 := by kernel_rfl
@[go_sem] theorem T.bytes35 : HL.bytesT Try.prog 35 = some 8 := by kernel_rfl
@[go_sem] theorem T.zero35 : HL.zeroT Try.prog 35 = some (.nilFunc) := by kernel_rfl
@[go_sem] theorem T.agg36 : HL.aggN Try.prog 36 = some none := by kernel_rfl
@[go_sem] theorem T.size36 : HL.sizeT Try.prog 36 = some 1 := by kernel_rfl
@[go_sem] theorem T.bytes36 : HL.bytesT Try.prog 36 = some 24 := by kernel_rfl
@[go_sem] theorem T.zero36 : HL.zeroT Try.prog 36 = some (.slice none 0 0) := by kernel_rfl
@[go_sem] theorem T.elem36 : HL.elemT Try.prog 36 = some 3 := by kernel_rfl
@[go_sem] theorem T.elemS36 : HL.elemS Try.prog 36 = some 1 := by kernel_rfl
@[go_sem] theorem T.agg37 : HL.aggN Try.prog 37 = some none := by kernel_rfl
@[go_sem] theorem T.size37 : HL.sizeT Try.prog 37 = some 1 := by kernel_rfl
@[go_sem] theorem T.bytes37 : HL.bytesT Try.prog 37 = some 24 := by kernel_rfl
@[go_sem] theorem T.zero37 : HL.zeroT Try.prog 37 = some (.slice none 0 0) := by kernel_rfl
@[go_sem] theorem T.elem37 : HL.elemT Try.prog 37 = some 41 := by kernel_rfl
@[go_sem] theorem T.elemS37 : HL.elemS Try.prog 37 = some 3 := by kernel_rfl
@[go_sem] theorem T.agg38 : HL.aggN Try.prog 38 = some none := by kernel_rfl
@[go_sem] theorem T.size38 : HL.sizeT Try.prog 38 = some 1 := by kernel_rfl
@[go_sem] theorem T.bytes38 : HL.bytesT Try.prog 38 = some 8 := by kernel_rfl
@[go_sem] theorem T.zero38 : HL.zeroT Try.prog 38 = some (.pointer none) := by kernel_rfl
@[go_sem] theorem T.agg39 : HL.aggN Try.prog 39 = some none := by kernel_rfl
@[go_sem] theorem T.size39 : HL.sizeT Try.prog 39 = some 1 := by kernel_rfl
@[go_sem] theorem T.bytes39 : HL.bytesT Try.prog 39 = some 8 := by kernel_rfl
@[go_sem] theorem T.zero39 : HL.zeroT Try.prog 39 = some (.nilFunc) := by kernel_rfl
@[go_sem] theorem T.agg40 : HL.aggN Try.prog 40 = some (some 3) := by kernel_rfl
@[go_sem] theorem T.size40 : HL.sizeT Try.prog 40 = some 3 := by kernel_rfl
@[go_sem] theorem T.bytes40 : HL.bytesT Try.prog 40 = some 24 := by kernel_rfl
@[go_sem] theorem T.zero40 : HL.zeroT Try.prog 40 = some (.agg #[.int .i64 0, .int .i64 0, .int .i64 0]) := by kernel_rfl
@[go_sem] theorem T.places40 : HL.placesT Try.prog 40 = some [(0, 1), (1, 1), (2, 1)] := by kernel_rfl
@[go_sem] theorem T.field40_0 : HL.fieldT Try.prog 40 0 = some (0, 3) := by kernel_rfl
@[go_sem] theorem T.fieldO40_0 : HL.fieldO Try.prog 40 0 = some 0 := by kernel_rfl
@[go_sem] theorem T.field40_1 : HL.fieldT Try.prog 40 1 = some (1, 3) := by kernel_rfl
@[go_sem] theorem T.fieldO40_1 : HL.fieldO Try.prog 40 1 = some 1 := by kernel_rfl
@[go_sem] theorem T.field40_2 : HL.fieldT Try.prog 40 2 = some (2, 2) := by kernel_rfl
@[go_sem] theorem T.fieldO40_2 : HL.fieldO Try.prog 40 2 = some 2 := by kernel_rfl
@[go_sem] theorem T.agg41 : HL.aggN Try.prog 41 = some (some 3) := by kernel_rfl
@[go_sem] theorem T.size41 : HL.sizeT Try.prog 41 = some 3 := by kernel_rfl
@[go_sem] theorem T.bytes41 : HL.bytesT Try.prog 41 = some 24 := by kernel_rfl
@[go_sem] theorem T.zero41 : HL.zeroT Try.prog 41 = some (.agg #[.int .i64 0, .int .i64 0, .int .i64 0]) := by kernel_rfl
@[go_sem] theorem T.places41 : HL.placesT Try.prog 41 = some [(0, 1), (1, 1), (2, 1)] := by kernel_rfl
@[go_sem] theorem T.field41_0 : HL.fieldT Try.prog 41 0 = some (0, 3) := by kernel_rfl
@[go_sem] theorem T.fieldO41_0 : HL.fieldO Try.prog 41 0 = some 0 := by kernel_rfl
@[go_sem] theorem T.field41_1 : HL.fieldT Try.prog 41 1 = some (1, 3) := by kernel_rfl
@[go_sem] theorem T.fieldO41_1 : HL.fieldO Try.prog 41 1 = some 1 := by kernel_rfl
@[go_sem] theorem T.field41_2 : HL.fieldT Try.prog 41 2 = some (2, 2) := by kernel_rfl
@[go_sem] theorem T.fieldO41_2 : HL.fieldO Try.prog 41 2 = some 2 := by kernel_rfl
@[go_sem] theorem T.agg42 : HL.aggN Try.prog 42 = some none := by kernel_rfl
@[go_sem] theorem T.size42 : HL.sizeT Try.prog 42 = some 1 := by kernel_rfl
@[go_sem] theorem T.bytes42 : HL.bytesT Try.prog 42 = some 24 := by kernel_rfl
@[go_sem] theorem T.zero42 : HL.zeroT Try.prog 42 = some (.slice none 0 0) := by kernel_rfl
@[go_sem] theorem T.elem42 : HL.elemT Try.prog 42 = some 4 := by kernel_rfl
@[go_sem] theorem T.elemS42 : HL.elemS Try.prog 42 = some 1 := by kernel_rfl
@[go_sem] theorem T.agg43 : HL.aggN Try.prog 43 = some (some 2) := by kernel_rfl
@[go_sem] theorem T.size43 : HL.sizeT Try.prog 43 = some 2 := by kernel_rfl
@[go_sem] theorem T.bytes43 : HL.bytesT Try.prog 43 = some 48 := by kernel_rfl
@[go_sem] theorem T.zero43 : HL.zeroT Try.prog 43 = some (.agg #[.slice none 0 0, .slice none 0 0]) := by kernel_rfl
@[go_sem] theorem T.places43 : HL.placesT Try.prog 43 = some [(0, 1), (1, 1)] := by kernel_rfl
@[go_sem] theorem T.field43_0 : HL.fieldT Try.prog 43 0 = some (0, 42) := by kernel_rfl
@[go_sem] theorem T.fieldO43_0 : HL.fieldO Try.prog 43 0 = some 0 := by kernel_rfl
@[go_sem] theorem T.field43_1 : HL.fieldT Try.prog 43 1 = some (1, 22) := by kernel_rfl
@[go_sem] theorem T.fieldO43_1 : HL.fieldO Try.prog 43 1 = some 1 := by kernel_rfl
@[go_sem] theorem T.agg44 : HL.aggN Try.prog 44 = some (some 2) := by kernel_rfl
@[go_sem] theorem T.size44 : HL.sizeT Try.prog 44 = some 2 := by kernel_rfl
@[go_sem] theorem T.bytes44 : HL.bytesT Try.prog 44 = some 48 := by kernel_rfl
@[go_sem] theorem T.zero44 : HL.zeroT Try.prog 44 = some (.agg #[.slice none 0 0, .slice none 0 0]) := by kernel_rfl
@[go_sem] theorem T.places44 : HL.placesT Try.prog 44 = some [(0, 1), (1, 1)] := by kernel_rfl
@[go_sem] theorem T.field44_0 : HL.fieldT Try.prog 44 0 = some (0, 42) := by kernel_rfl
@[go_sem] theorem T.fieldO44_0 : HL.fieldO Try.prog 44 0 = some 0 := by kernel_rfl
@[go_sem] theorem T.field44_1 : HL.fieldT Try.prog 44 1 = some (1, 22) := by kernel_rfl
@[go_sem] theorem T.fieldO44_1 : HL.fieldO Try.prog 44 1 = some 1 := by kernel_rfl
@[go_sem] theorem T.agg45 : HL.aggN Try.prog 45 = some none := by kernel_rfl
@[go_sem] theorem T.size45 : HL.sizeT Try.prog 45 = some 1 := by kernel_rfl
@[go_sem] theorem T.bytes45 : HL.bytesT Try.prog 45 = some 8 := by kernel_rfl
@[go_sem] theorem T.zero45 : HL.zeroT Try.prog 45 = some (.nilFunc) := by kernel_rfl
@[go_sem] theorem T.agg46 : HL.aggN Try.prog 46 = some none := by kernel_rfl
@[go_sem] theorem T.size46 : HL.sizeT Try.prog 46 = some 1 := by kernel_rfl
@[go_sem] theorem T.bytes46 : HL.bytesT Try.prog 46 = some 8 := by kernel_rfl
@[go_sem] theorem T.zero46 : HL.zeroT Try.prog 46 = some (.nilFunc) := by kernel_rfl
@[go_sem] theorem T.agg47 : HL.aggN Try.prog 47 = some (some 3) := by kernel_rfl
@[go_sem] theorem T.size47 : HL.sizeT Try.prog 47 = some 3 := by kernel_rfl
@[go_sem] theorem T.bytes47 : HL.bytesT Try.prog 47 = some 72 := by kernel_rfl
@[go_sem] theorem T.zero47 : HL.zeroT Try.prog 47 = some (.agg #[.slice none 0 0, .slice none 0 0, .slice none 0 0]) := by kernel_rfl
@[go_sem] theorem T.places47 : HL.placesT Try.prog 47 = some [(0, 1), (1, 1), (2, 1)] := by kernel_rfl
@[go_sem] theorem T.field47_0 : HL.fieldT Try.prog 47 0 = some (0, 36) := by kernel_rfl
@[go_sem] theorem T.fieldO47_0 : HL.fieldO Try.prog 47 0 = some 0 := by kernel_rfl
@[go_sem] theorem T.field47_1 : HL.fieldT Try.prog 47 1 = some (1, 36) := by kernel_rfl
@[go_sem] theorem T.fieldO47_1 : HL.fieldO Try.prog 47 1 = some 1 := by kernel_rfl
@[go_sem] theorem T.field47_2 : HL.fieldT Try.prog 47 2 = some (2, 22) := by kernel_rfl
@[go_sem] theorem T.fieldO47_2 : HL.fieldO Try.prog 47 2 = some 2 := by kernel_rfl
@[go_sem] theorem T.agg48 : HL.aggN Try.prog 48 = some (some 3) := by kernel_rfl
@[go_sem] theorem T.size48 : HL.sizeT Try.prog 48 = some 3 := by kernel_rfl
@[go_sem] theorem T.bytes48 : HL.bytesT Try.prog 48 = some 72 := by kernel_rfl
@[go_sem] theorem T.zero48 : HL.zeroT Try.prog 48 = some (.agg #[.slice none 0 0, .slice none 0 0, .slice none 0 0]) := by kernel_rfl
@[go_sem] theorem T.places48 : HL.placesT Try.prog 48 = some [(0, 1), (1, 1), (2, 1)] := by kernel_rfl
@[go_sem] theorem T.field48_0 : HL.fieldT Try.prog 48 0 = some (0, 36) := by kernel_rfl
@[go_sem] theorem T.fieldO48_0 : HL.fieldO Try.prog 48 0 = some 0 := by kernel_rfl
@[go_sem] theorem T.field48_1 : HL.fieldT Try.prog 48 1 = some (1, 36) := by kernel_rfl
@[go_sem] theorem T.fieldO48_1 : HL.fieldO Try.prog 48 1 = some 1 := by kernel_rfl
@[go_sem] theorem T.field48_2 : HL.fieldT Try.prog 48 2 = some (2, 22) := by kernel_rfl
@[go_sem] theorem T.fieldO48_2 : HL.fieldO Try.prog 48 2 = some 2 := by kernel_rfl
@[go_sem] theorem T.agg49 : HL.aggN Try.prog 49 = some none := by kernel_rfl
@[go_sem] theorem T.size49 : HL.sizeT Try.prog 49 = some 1 := by kernel_rfl
@[go_sem] theorem T.bytes49 : HL.bytesT Try.prog 49 = some 8 := by kernel_rfl
@[go_sem] theorem T.zero49 : HL.zeroT Try.prog 49 = some (.nilFunc) := by kernel_rfl
@[go_sem] theorem T.agg50 : HL.aggN Try.prog 50 = some none := by kernel_rfl
@[go_sem] theorem T.size50 : HL.sizeT Try.prog 50 = some 1 := by kernel_rfl
@[go_sem] theorem T.bytes50 : HL.bytesT Try.prog 50 = some 8 := by kernel_rfl
@[go_sem] theorem T.zero50 : HL.zeroT Try.prog 50 = some (.nilFunc) := by kernel_rfl
@[go_sem] theorem T.agg51 : HL.aggN Try.prog 51 = some none := by kernel_rfl
@[go_sem] theorem T.size51 : HL.sizeT Try.prog 51 = some 1 := by kernel_rfl
@[go_sem] theorem T.bytes51 : HL.bytesT Try.prog 51 = some 8 := by kernel_rfl
@[go_sem] theorem T.zero51 : HL.zeroT Try.prog 51 = some (.nilFunc) := by kernel_rfl
@[go_sem] theorem T.agg52 : HL.aggN Try.prog 52 = some none := by kernel_rfl
@[go_sem] theorem T.size52 : HL.sizeT Try.prog 52 = some 1 := by kernel_rfl
@[go_sem] theorem T.bytes52 : HL.bytesT Try.prog 52 = some 8 := by kernel_rfl
@[go_sem] theorem T.zero52 : HL.zeroT Try.prog 52 = some (.nilFunc) := by kernel_rfl
@[go_sem] theorem T.agg53 : HL.aggN Try.prog 53 = some (some 4) := by kernel_rfl
@[go_sem] theorem T.size53 : HL.sizeT Try.prog 53 = some 4 := by kernel_rfl
@[go_sem] theorem T.bytes53 : HL.bytesT Try.prog 53 = some 40 := by kernel_rfl
@[go_sem] theorem T.zero53 : HL.zeroT Try.prog 53 = some (.agg #[.pointer none, .pointer none, .pointer none, .string ⟨#[]⟩]) := by kernel_rfl
@[go_sem] theorem T.places53 : HL.placesT Try.prog 53 = some [(0, 1), (1, 1), (2, 1), (3, 1)] := by kernel_rfl
@[go_sem] theorem T.field53_0 : HL.fieldT Try.prog 53 0 = some (0, 17) := by kernel_rfl
@[go_sem] theorem T.fieldO53_0 : HL.fieldO Try.prog 53 0 = some 0 := by kernel_rfl
@[go_sem] theorem T.field53_1 : HL.fieldT Try.prog 53 1 = some (1, 17) := by kernel_rfl
@[go_sem] theorem T.fieldO53_1 : HL.fieldO Try.prog 53 1 = some 1 := by kernel_rfl
@[go_sem] theorem T.field53_2 : HL.fieldT Try.prog 53 2 = some (2, 17) := by kernel_rfl
@[go_sem] theorem T.fieldO53_2 : HL.fieldO Try.prog 53 2 = some 2 := by kernel_rfl
@[go_sem] theorem T.field53_3 : HL.fieldT Try.prog 53 3 = some (3, 9) := by kernel_rfl
@[go_sem] theorem T.fieldO53_3 : HL.fieldO Try.prog 53 3 = some 3 := by kernel_rfl
@[go_sem] theorem T.agg54 : HL.aggN Try.prog 54 = some (some 4) := by kernel_rfl
@[go_sem] theorem T.size54 : HL.sizeT Try.prog 54 = some 4 := by kernel_rfl
@[go_sem] theorem T.bytes54 : HL.bytesT Try.prog 54 = some 40 := by kernel_rfl
@[go_sem] theorem T.zero54 : HL.zeroT Try.prog 54 = some (.agg #[.pointer none, .pointer none, .pointer none, .string ⟨#[]⟩]) := by kernel_rfl
@[go_sem] theorem T.places54 : HL.placesT Try.prog 54 = some [(0, 1), (1, 1), (2, 1), (3, 1)] := by kernel_rfl
@[go_sem] theorem T.field54_0 : HL.fieldT Try.prog 54 0 = some (0, 17) := by kernel_rfl
@[go_sem] theorem T.fieldO54_0 : HL.fieldO Try.prog 54 0 = some 0 := by kernel_rfl
@[go_sem] theorem T.field54_1 : HL.fieldT Try.prog 54 1 = some (1, 17) := by kernel_rfl
@[go_sem] theorem T.fieldO54_1 : HL.fieldO Try.prog 54 1 = some 1 := by kernel_rfl
@[go_sem] theorem T.field54_2 : HL.fieldT Try.prog 54 2 = some (2, 17) := by kernel_rfl
@[go_sem] theorem T.fieldO54_2 : HL.fieldO Try.prog 54 2 = some 2 := by kernel_rfl
@[go_sem] theorem T.field54_3 : HL.fieldT Try.prog 54 3 = some (3, 9) := by kernel_rfl
@[go_sem] theorem T.fieldO54_3 : HL.fieldO Try.prog 54 3 = some 3 := by kernel_rfl
@[go_sem] theorem T.agg55 : HL.aggN Try.prog 55 = some (some 0) := by kernel_rfl
@[go_sem] theorem T.size55 : HL.sizeT Try.prog 55 = some 0 := by kernel_rfl
@[go_sem] theorem T.bytes55 : HL.bytesT Try.prog 55 = some 0 := by kernel_rfl
@[go_sem] theorem T.zero55 : HL.zeroT Try.prog 55 = some (.agg #[]) := by kernel_rfl
@[go_sem] theorem T.places55 : HL.placesT Try.prog 55 = none := by kernel_rfl
@[go_sem] theorem T.arr55 : HL.arrT Try.prog 55 = some (0, 16) := by kernel_rfl
@[go_sem] theorem T.arrS55 : HL.arrS Try.prog 55 = some (0, 1) := by kernel_rfl
@[go_sem] theorem T.agg56 : HL.aggN Try.prog 56 = some (some 0) := by kernel_rfl
@[go_sem] theorem T.size56 : HL.sizeT Try.prog 56 = some 0 := by kernel_rfl
@[go_sem] theorem T.bytes56 : HL.bytesT Try.prog 56 = some 0 := by kernel_rfl
@[go_sem] theorem T.zero56 : HL.zeroT Try.prog 56 = some (.agg #[]) := by kernel_rfl
@[go_sem] theorem T.places56 : HL.placesT Try.prog 56 = some [(0, 0)] := by kernel_rfl
@[go_sem] theorem T.field56_0 : HL.fieldT Try.prog 56 0 = some (0, 55) := by kernel_rfl
@[go_sem] theorem T.agg57 : HL.aggN Try.prog 57 = some (some 0) := by kernel_rfl
@[go_sem] theorem T.size57 : HL.sizeT Try.prog 57 = some 0 := by kernel_rfl
@[go_sem] theorem T.bytes57 : HL.bytesT Try.prog 57 = some 0 := by kernel_rfl
@[go_sem] theorem T.zero57 : HL.zeroT Try.prog 57 = some (.agg #[]) := by kernel_rfl
@[go_sem] theorem T.places57 : HL.placesT Try.prog 57 = some [(0, 0)] := by kernel_rfl
@[go_sem] theorem T.field57_0 : HL.fieldT Try.prog 57 0 = some (0, 55) := by kernel_rfl
@[go_sem] theorem T.agg58 : HL.aggN Try.prog 58 = some none := by kernel_rfl
@[go_sem] theorem T.size58 : HL.sizeT Try.prog 58 = some 1 := by kernel_rfl
@[go_sem] theorem T.bytes58 : HL.bytesT Try.prog 58 = some 4 := by kernel_rfl
@[go_sem] theorem T.zero58 : HL.zeroT Try.prog 58 = some (.int .u32 0) := by kernel_rfl
@[go_sem] theorem T.agg59 : HL.aggN Try.prog 59 = some none := by kernel_rfl
@[go_sem] theorem T.size59 : HL.sizeT Try.prog 59 = some 1 := by kernel_rfl
@[go_sem] theorem T.bytes59 : HL.bytesT Try.prog 59 = some 1 := by kernel_rfl
@[go_sem] theorem T.zero59 : HL.zeroT Try.prog 59 = some (.int .u8 0) := by kernel_rfl
@[go_sem] theorem T.agg60 : HL.aggN Try.prog 60 = some none := by kernel_rfl
@[go_sem] theorem T.size60 : HL.sizeT Try.prog 60 = some 1 := by kernel_rfl
@[go_sem] theorem T.bytes60 : HL.bytesT Try.prog 60 = some 1 := by kernel_rfl
@[go_sem] theorem T.zero60 : HL.zeroT Try.prog 60 = some (.int .u8 0) := by kernel_rfl
@[go_sem] theorem T.agg61 : HL.aggN Try.prog 61 = some none := by kernel_rfl
@[go_sem] theorem T.size61 : HL.sizeT Try.prog 61 = some 1 := by kernel_rfl
@[go_sem] theorem T.bytes61 : HL.bytesT Try.prog 61 = some 8 := by kernel_rfl
@[go_sem] theorem T.zero61 : HL.zeroT Try.prog 61 = some (.nilFunc) := by kernel_rfl
@[go_sem] theorem T.agg62 : HL.aggN Try.prog 62 = some none := by kernel_rfl
@[go_sem] theorem T.size62 : HL.sizeT Try.prog 62 = some 1 := by kernel_rfl
@[go_sem] theorem T.bytes62 : HL.bytesT Try.prog 62 = some 8 := by kernel_rfl
@[go_sem] theorem T.zero62 : HL.zeroT Try.prog 62 = some (.pointer none) := by kernel_rfl
@[go_sem] theorem T.agg63 : HL.aggN Try.prog 63 = some none := by kernel_rfl
@[go_sem] theorem T.size63 : HL.sizeT Try.prog 63 = some 1 := by kernel_rfl
@[go_sem] theorem T.bytes63 : HL.bytesT Try.prog 63 = some 4 := by kernel_rfl
@[go_sem] theorem T.zero63 : HL.zeroT Try.prog 63 = some (.int .i32 0) := by kernel_rfl
@[go_sem] theorem T.agg64 : HL.aggN Try.prog 64 = some none := by kernel_rfl
@[go_sem] theorem T.size64 : HL.sizeT Try.prog 64 = some 1 := by kernel_rfl
@[go_sem] theorem T.bytes64 : HL.bytesT Try.prog 64 = some 4 := by kernel_rfl
@[go_sem] theorem T.zero64 : HL.zeroT Try.prog 64 = some (.int .i32 0) := by kernel_rfl
@[go_sem] theorem T.agg65 : HL.aggN Try.prog 65 = some (some 11) := by kernel_rfl
@[go_sem] theorem T.size65 : HL.sizeT Try.prog 65 = some 11 := by kernel_rfl
@[go_sem] theorem T.bytes65 : HL.bytesT Try.prog 65 = some 48 := by kernel_rfl
@[go_sem] theorem T.zero65 : HL.zeroT Try.prog 65 = some (.agg #[.int .u64 0, .int .u64 0, .int .u32 0, .int .u8 0, .int .u8 0, .int .u8 0, .int .u8 0, .nilFunc, .pointer none, .int .i32 0, .int .i32 0]) := by kernel_rfl
@[go_sem] theorem T.places65 : HL.placesT Try.prog 65 = some [(0, 1), (1, 1), (2, 1), (3, 1), (4, 1), (5, 1), (6, 1), (7, 1), (8, 1), (9, 1), (10, 1)] := by kernel_rfl
@[go_sem] theorem T.field65_0 : HL.fieldT Try.prog 65 0 = some (0, 12) := by kernel_rfl
@[go_sem] theorem T.fieldO65_0 : HL.fieldO Try.prog 65 0 = some 0 := by kernel_rfl
@[go_sem] theorem T.field65_1 : HL.fieldT Try.prog 65 1 = some (1, 12) := by kernel_rfl
@[go_sem] theorem T.fieldO65_1 : HL.fieldO Try.prog 65 1 = some 1 := by kernel_rfl
@[go_sem] theorem T.field65_2 : HL.fieldT Try.prog 65 2 = some (2, 58) := by kernel_rfl
@[go_sem] theorem T.fieldO65_2 : HL.fieldO Try.prog 65 2 = some 2 := by kernel_rfl
@[go_sem] theorem T.field65_3 : HL.fieldT Try.prog 65 3 = some (3, 59) := by kernel_rfl
@[go_sem] theorem T.fieldO65_3 : HL.fieldO Try.prog 65 3 = some 3 := by kernel_rfl
@[go_sem] theorem T.field65_4 : HL.fieldT Try.prog 65 4 = some (4, 5) := by kernel_rfl
@[go_sem] theorem T.fieldO65_4 : HL.fieldO Try.prog 65 4 = some 4 := by kernel_rfl
@[go_sem] theorem T.field65_5 : HL.fieldT Try.prog 65 5 = some (5, 5) := by kernel_rfl
@[go_sem] theorem T.fieldO65_5 : HL.fieldO Try.prog 65 5 = some 5 := by kernel_rfl
@[go_sem] theorem T.field65_6 : HL.fieldT Try.prog 65 6 = some (6, 60) := by kernel_rfl
@[go_sem] theorem T.fieldO65_6 : HL.fieldO Try.prog 65 6 = some 6 := by kernel_rfl
@[go_sem] theorem T.field65_7 : HL.fieldT Try.prog 65 7 = some (7, 61) := by kernel_rfl
@[go_sem] theorem T.fieldO65_7 : HL.fieldO Try.prog 65 7 = some 7 := by kernel_rfl
@[go_sem] theorem T.field65_8 : HL.fieldT Try.prog 65 8 = some (8, 62) := by kernel_rfl
@[go_sem] theorem T.fieldO65_8 : HL.fieldO Try.prog 65 8 = some 8 := by kernel_rfl
@[go_sem] theorem T.field65_9 : HL.fieldT Try.prog 65 9 = some (9, 63) := by kernel_rfl
@[go_sem] theorem T.fieldO65_9 : HL.fieldO Try.prog 65 9 = some 9 := by kernel_rfl
@[go_sem] theorem T.field65_10 : HL.fieldT Try.prog 65 10 = some (10, 64) := by kernel_rfl
@[go_sem] theorem T.fieldO65_10 : HL.fieldO Try.prog 65 10 = some 10 := by kernel_rfl
@[go_sem] theorem T.agg66 : HL.aggN Try.prog 66 = some (some 11) := by kernel_rfl
@[go_sem] theorem T.size66 : HL.sizeT Try.prog 66 = some 11 := by kernel_rfl
@[go_sem] theorem T.bytes66 : HL.bytesT Try.prog 66 = some 48 := by kernel_rfl
@[go_sem] theorem T.zero66 : HL.zeroT Try.prog 66 = some (.agg #[.int .u64 0, .int .u64 0, .int .u32 0, .int .u8 0, .int .u8 0, .int .u8 0, .int .u8 0, .nilFunc, .pointer none, .int .i32 0, .int .i32 0]) := by kernel_rfl
@[go_sem] theorem T.places66 : HL.placesT Try.prog 66 = some [(0, 1), (1, 1), (2, 1), (3, 1), (4, 1), (5, 1), (6, 1), (7, 1), (8, 1), (9, 1), (10, 1)] := by kernel_rfl
@[go_sem] theorem T.field66_0 : HL.fieldT Try.prog 66 0 = some (0, 12) := by kernel_rfl
@[go_sem] theorem T.fieldO66_0 : HL.fieldO Try.prog 66 0 = some 0 := by kernel_rfl
@[go_sem] theorem T.field66_1 : HL.fieldT Try.prog 66 1 = some (1, 12) := by kernel_rfl
@[go_sem] theorem T.fieldO66_1 : HL.fieldO Try.prog 66 1 = some 1 := by kernel_rfl
@[go_sem] theorem T.field66_2 : HL.fieldT Try.prog 66 2 = some (2, 58) := by kernel_rfl
@[go_sem] theorem T.fieldO66_2 : HL.fieldO Try.prog 66 2 = some 2 := by kernel_rfl
@[go_sem] theorem T.field66_3 : HL.fieldT Try.prog 66 3 = some (3, 59) := by kernel_rfl
@[go_sem] theorem T.fieldO66_3 : HL.fieldO Try.prog 66 3 = some 3 := by kernel_rfl
@[go_sem] theorem T.field66_4 : HL.fieldT Try.prog 66 4 = some (4, 5) := by kernel_rfl
@[go_sem] theorem T.fieldO66_4 : HL.fieldO Try.prog 66 4 = some 4 := by kernel_rfl
@[go_sem] theorem T.field66_5 : HL.fieldT Try.prog 66 5 = some (5, 5) := by kernel_rfl
@[go_sem] theorem T.fieldO66_5 : HL.fieldO Try.prog 66 5 = some 5 := by kernel_rfl
@[go_sem] theorem T.field66_6 : HL.fieldT Try.prog 66 6 = some (6, 60) := by kernel_rfl
@[go_sem] theorem T.fieldO66_6 : HL.fieldO Try.prog 66 6 = some 6 := by kernel_rfl
@[go_sem] theorem T.field66_7 : HL.fieldT Try.prog 66 7 = some (7, 61) := by kernel_rfl
@[go_sem] theorem T.fieldO66_7 : HL.fieldO Try.prog 66 7 = some 7 := by kernel_rfl
@[go_sem] theorem T.field66_8 : HL.fieldT Try.prog 66 8 = some (8, 62) := by kernel_rfl
@[go_sem] theorem T.fieldO66_8 : HL.fieldO Try.prog 66 8 = some 8 := by kernel_rfl
@[go_sem] theorem T.field66_9 : HL.fieldT Try.prog 66 9 = some (9, 63) := by kernel_rfl
@[go_sem] theorem T.fieldO66_9 : HL.fieldO Try.prog 66 9 = some 9 := by kernel_rfl
@[go_sem] theorem T.field66_10 : HL.fieldT Try.prog 66 10 = some (10, 64) := by kernel_rfl
@[go_sem] theorem T.fieldO66_10 : HL.fieldO Try.prog 66 10 = some 10 := by kernel_rfl
@[go_sem] theorem T.agg67 : HL.aggN Try.prog 67 = some none := by kernel_rfl
@[go_sem] theorem T.size67 : HL.sizeT Try.prog 67 = some 1 := by kernel_rfl
@[go_sem] theorem T.bytes67 : HL.bytesT Try.prog 67 = some 8 := by kernel_rfl
@[go_sem] theorem T.zero67 : HL.zeroT Try.prog 67 = some (.pointer none) := by kernel_rfl
theorem T.el22 : HL.ElT Try.prog 22 2 1 8 (.int .i64 0) := ⟨T.elem22, T.size2, T.bytes2, T.zero2⟩
@[go_sem] theorem T.bs22_1 {H : HL.Heap} {k0 : IntKind} {n0 : Int} : HL.buildSliceV Try.prog H 22 1 [(0, .int k0 n0)] = some (.slice (some ⟨H.size, 0, none⟩) 1 1, H.push (.cells #[.int k0 n0] 2)) := HL.bs_one T.elem22 T.size2 T.zero2 rfl
@[go_sem] theorem T.bs22_2 {H : HL.Heap} {k0 : IntKind} {n0 : Int} {k1 : IntKind} {n1 : Int} : HL.buildSliceV Try.prog H 22 2 [(0, .int k0 n0), (1, .int k1 n1)] = some (.slice (some ⟨H.size, 0, none⟩) 2 2, H.push (.cells #[.int k0 n0, .int k1 n1] 2)) := HL.bs_two T.elem22 T.size2 T.zero2 rfl rfl
@[go_sem] theorem T.bs22_3 {H : HL.Heap} {k0 : IntKind} {n0 : Int} {k1 : IntKind} {n1 : Int} {k2 : IntKind} {n2 : Int} : HL.buildSliceV Try.prog H 22 3 [(0, .int k0 n0), (1, .int k1 n1), (2, .int k2 n2)] = some (.slice (some ⟨H.size, 0, none⟩) 3 3, H.push (.cells #[.int k0 n0, .int k1 n1, .int k2 n2] 2)) := HL.bs_three T.elem22 T.size2 T.zero2 rfl rfl rfl
@[go_sem] theorem T.bs22_4 {H : HL.Heap} {k0 : IntKind} {n0 : Int} {k1 : IntKind} {n1 : Int} {k2 : IntKind} {n2 : Int} {k3 : IntKind} {n3 : Int} : HL.buildSliceV Try.prog H 22 4 [(0, .int k0 n0), (1, .int k1 n1), (2, .int k2 n2), (3, .int k3 n3)] = some (.slice (some ⟨H.size, 0, none⟩) 4 4, H.push (.cells #[.int k0 n0, .int k1 n1, .int k2 n2, .int k3 n3] 2)) := HL.bs_four T.elem22 T.size2 T.zero2 rfl rfl rfl rfl
@[go_sem] theorem T.bs22_0 {H : HL.Heap} : HL.buildSliceV Try.prog H 22 0 [] = some (.slice (some ⟨H.size, 0, none⟩) 0 0, H.push (.cells #[] 2)) := HL.bs_zero T.elem22 T.size2 T.zero2
theorem T.el36 : HL.ElT Try.prog 36 3 1 8 (.int .i64 0) := ⟨T.elem36, T.size3, T.bytes3, T.zero3⟩
@[go_sem] theorem T.bs36_1 {H : HL.Heap} {k0 : IntKind} {n0 : Int} : HL.buildSliceV Try.prog H 36 1 [(0, .int k0 n0)] = some (.slice (some ⟨H.size, 0, none⟩) 1 1, H.push (.cells #[.int k0 n0] 3)) := HL.bs_one T.elem36 T.size3 T.zero3 rfl
@[go_sem] theorem T.bs36_2 {H : HL.Heap} {k0 : IntKind} {n0 : Int} {k1 : IntKind} {n1 : Int} : HL.buildSliceV Try.prog H 36 2 [(0, .int k0 n0), (1, .int k1 n1)] = some (.slice (some ⟨H.size, 0, none⟩) 2 2, H.push (.cells #[.int k0 n0, .int k1 n1] 3)) := HL.bs_two T.elem36 T.size3 T.zero3 rfl rfl
@[go_sem] theorem T.bs36_3 {H : HL.Heap} {k0 : IntKind} {n0 : Int} {k1 : IntKind} {n1 : Int} {k2 : IntKind} {n2 : Int} : HL.buildSliceV Try.prog H 36 3 [(0, .int k0 n0), (1, .int k1 n1), (2, .int k2 n2)] = some (.slice (some ⟨H.size, 0, none⟩) 3 3, H.push (.cells #[.int k0 n0, .int k1 n1, .int k2 n2] 3)) := HL.bs_three T.elem36 T.size3 T.zero3 rfl rfl rfl
@[go_sem] theorem T.bs36_4 {H : HL.Heap} {k0 : IntKind} {n0 : Int} {k1 : IntKind} {n1 : Int} {k2 : IntKind} {n2 : Int} {k3 : IntKind} {n3 : Int} : HL.buildSliceV Try.prog H 36 4 [(0, .int k0 n0), (1, .int k1 n1), (2, .int k2 n2), (3, .int k3 n3)] = some (.slice (some ⟨H.size, 0, none⟩) 4 4, H.push (.cells #[.int k0 n0, .int k1 n1, .int k2 n2, .int k3 n3] 3)) := HL.bs_four T.elem36 T.size3 T.zero3 rfl rfl rfl rfl
@[go_sem] theorem T.bs36_0 {H : HL.Heap} : HL.buildSliceV Try.prog H 36 0 [] = some (.slice (some ⟨H.size, 0, none⟩) 0 0, H.push (.cells #[] 3)) := HL.bs_zero T.elem36 T.size3 T.zero3
theorem T.el37 : HL.ElT Try.prog 37 41 3 24 (.agg #[.int .i64 0, .int .i64 0, .int .i64 0]) := ⟨T.elem37, T.size41, T.bytes41, T.zero41⟩
@[go_sem] theorem T.bs37_0 {H : HL.Heap} : HL.buildSliceV Try.prog H 37 0 [] = some (.slice (some ⟨H.size, 0, none⟩) 0 0, H.push (.cells #[] 41)) := HL.bs_zero T.elem37 T.size41 T.zero41
theorem T.el42 : HL.ElT Try.prog 42 4 1 1 (.bool false) := ⟨T.elem42, T.size4, T.bytes4, T.zero4⟩
@[go_sem] theorem T.bs42_1 {H : HL.Heap} {n0 : Bool} : HL.buildSliceV Try.prog H 42 1 [(0, .bool n0)] = some (.slice (some ⟨H.size, 0, none⟩) 1 1, H.push (.cells #[.bool n0] 4)) := HL.bs_one T.elem42 T.size4 T.zero4 rfl
@[go_sem] theorem T.bs42_2 {H : HL.Heap} {n0 : Bool} {n1 : Bool} : HL.buildSliceV Try.prog H 42 2 [(0, .bool n0), (1, .bool n1)] = some (.slice (some ⟨H.size, 0, none⟩) 2 2, H.push (.cells #[.bool n0, .bool n1] 4)) := HL.bs_two T.elem42 T.size4 T.zero4 rfl rfl
@[go_sem] theorem T.bs42_3 {H : HL.Heap} {n0 : Bool} {n1 : Bool} {n2 : Bool} : HL.buildSliceV Try.prog H 42 3 [(0, .bool n0), (1, .bool n1), (2, .bool n2)] = some (.slice (some ⟨H.size, 0, none⟩) 3 3, H.push (.cells #[.bool n0, .bool n1, .bool n2] 4)) := HL.bs_three T.elem42 T.size4 T.zero4 rfl rfl rfl
@[go_sem] theorem T.bs42_4 {H : HL.Heap} {n0 : Bool} {n1 : Bool} {n2 : Bool} {n3 : Bool} : HL.buildSliceV Try.prog H 42 4 [(0, .bool n0), (1, .bool n1), (2, .bool n2), (3, .bool n3)] = some (.slice (some ⟨H.size, 0, none⟩) 4 4, H.push (.cells #[.bool n0, .bool n1, .bool n2, .bool n3] 4)) := HL.bs_four T.elem42 T.size4 T.zero4 rfl rfl rfl rfl
@[go_sem] theorem T.bs42_0 {H : HL.Heap} : HL.buildSliceV Try.prog H 42 0 [] = some (.slice (some ⟨H.size, 0, none⟩) 0 0, H.push (.cells #[] 4)) := HL.bs_zero T.elem42 T.size4 T.zero4
@[go_sem] theorem T.pe15 {H : HL.Heap} {xo yo : Operand} {a : Addr} : HL.binV Try.prog (HL.full H) .eql 15 xo yo (.pointer (some a)) (.pointer none) = some (.bool false) := HL.bin_ptr_eql Try.underlying15
@[go_sem] theorem T.pn15 {H : HL.Heap} {xo yo : Operand} {a : Addr} : HL.binV Try.prog (HL.full H) .neq 15 xo yo (.pointer (some a)) (.pointer none) = some (.bool true) := HL.bin_ptr_neq Try.underlying15
@[go_sem] theorem T.ne15 {H : HL.Heap} {xo yo : Operand} : HL.binV Try.prog (HL.full H) .eql 15 xo yo (.pointer none) (.pointer none) = some (.bool true) := HL.bin_nil_eql Try.underlying15
@[go_sem] theorem T.nn15 {H : HL.Heap} {xo yo : Operand} : HL.binV Try.prog (HL.full H) .neq 15 xo yo (.pointer none) (.pointer none) = some (.bool false) := HL.bin_nil_neq Try.underlying15
@[go_sem] theorem T.pe16 {H : HL.Heap} {xo yo : Operand} {a : Addr} : HL.binV Try.prog (HL.full H) .eql 16 xo yo (.pointer (some a)) (.pointer none) = some (.bool false) := HL.bin_ptr_eql Try.underlying16
@[go_sem] theorem T.pn16 {H : HL.Heap} {xo yo : Operand} {a : Addr} : HL.binV Try.prog (HL.full H) .neq 16 xo yo (.pointer (some a)) (.pointer none) = some (.bool true) := HL.bin_ptr_neq Try.underlying16
@[go_sem] theorem T.ne16 {H : HL.Heap} {xo yo : Operand} : HL.binV Try.prog (HL.full H) .eql 16 xo yo (.pointer none) (.pointer none) = some (.bool true) := HL.bin_nil_eql Try.underlying16
@[go_sem] theorem T.nn16 {H : HL.Heap} {xo yo : Operand} : HL.binV Try.prog (HL.full H) .neq 16 xo yo (.pointer none) (.pointer none) = some (.bool false) := HL.bin_nil_neq Try.underlying16
@[go_sem] theorem T.pe17 {H : HL.Heap} {xo yo : Operand} {a : Addr} : HL.binV Try.prog (HL.full H) .eql 17 xo yo (.pointer (some a)) (.pointer none) = some (.bool false) := HL.bin_ptr_eql Try.underlying17
@[go_sem] theorem T.pn17 {H : HL.Heap} {xo yo : Operand} {a : Addr} : HL.binV Try.prog (HL.full H) .neq 17 xo yo (.pointer (some a)) (.pointer none) = some (.bool true) := HL.bin_ptr_neq Try.underlying17
@[go_sem] theorem T.ne17 {H : HL.Heap} {xo yo : Operand} : HL.binV Try.prog (HL.full H) .eql 17 xo yo (.pointer none) (.pointer none) = some (.bool true) := HL.bin_nil_eql Try.underlying17
@[go_sem] theorem T.nn17 {H : HL.Heap} {xo yo : Operand} : HL.binV Try.prog (HL.full H) .neq 17 xo yo (.pointer none) (.pointer none) = some (.bool false) := HL.bin_nil_neq Try.underlying17
@[go_sem] theorem T.pe24 {H : HL.Heap} {xo yo : Operand} {a : Addr} : HL.binV Try.prog (HL.full H) .eql 24 xo yo (.pointer (some a)) (.pointer none) = some (.bool false) := HL.bin_ptr_eql Try.underlying24
@[go_sem] theorem T.pn24 {H : HL.Heap} {xo yo : Operand} {a : Addr} : HL.binV Try.prog (HL.full H) .neq 24 xo yo (.pointer (some a)) (.pointer none) = some (.bool true) := HL.bin_ptr_neq Try.underlying24
@[go_sem] theorem T.ne24 {H : HL.Heap} {xo yo : Operand} : HL.binV Try.prog (HL.full H) .eql 24 xo yo (.pointer none) (.pointer none) = some (.bool true) := HL.bin_nil_eql Try.underlying24
@[go_sem] theorem T.nn24 {H : HL.Heap} {xo yo : Operand} : HL.binV Try.prog (HL.full H) .neq 24 xo yo (.pointer none) (.pointer none) = some (.bool false) := HL.bin_nil_neq Try.underlying24
@[go_sem] theorem T.pe38 {H : HL.Heap} {xo yo : Operand} {a : Addr} : HL.binV Try.prog (HL.full H) .eql 38 xo yo (.pointer (some a)) (.pointer none) = some (.bool false) := HL.bin_ptr_eql Try.underlying38
@[go_sem] theorem T.pn38 {H : HL.Heap} {xo yo : Operand} {a : Addr} : HL.binV Try.prog (HL.full H) .neq 38 xo yo (.pointer (some a)) (.pointer none) = some (.bool true) := HL.bin_ptr_neq Try.underlying38
@[go_sem] theorem T.ne38 {H : HL.Heap} {xo yo : Operand} : HL.binV Try.prog (HL.full H) .eql 38 xo yo (.pointer none) (.pointer none) = some (.bool true) := HL.bin_nil_eql Try.underlying38
@[go_sem] theorem T.nn38 {H : HL.Heap} {xo yo : Operand} : HL.binV Try.prog (HL.full H) .neq 38 xo yo (.pointer none) (.pointer none) = some (.bool false) := HL.bin_nil_neq Try.underlying38
@[go_sem] theorem T.pe62 {H : HL.Heap} {xo yo : Operand} {a : Addr} : HL.binV Try.prog (HL.full H) .eql 62 xo yo (.pointer (some a)) (.pointer none) = some (.bool false) := HL.bin_ptr_eql Try.underlying62
@[go_sem] theorem T.pn62 {H : HL.Heap} {xo yo : Operand} {a : Addr} : HL.binV Try.prog (HL.full H) .neq 62 xo yo (.pointer (some a)) (.pointer none) = some (.bool true) := HL.bin_ptr_neq Try.underlying62
@[go_sem] theorem T.ne62 {H : HL.Heap} {xo yo : Operand} : HL.binV Try.prog (HL.full H) .eql 62 xo yo (.pointer none) (.pointer none) = some (.bool true) := HL.bin_nil_eql Try.underlying62
@[go_sem] theorem T.nn62 {H : HL.Heap} {xo yo : Operand} : HL.binV Try.prog (HL.full H) .neq 62 xo yo (.pointer none) (.pointer none) = some (.bool false) := HL.bin_nil_neq Try.underlying62
@[go_sem] theorem T.be4 {H : HL.Heap} {xo yo : Operand} {x y : Bool} : HL.binV Try.prog (HL.full H) .eql 4 xo yo (.bool x) (.bool y) = some (.bool (x == y)) := HL.bin_bool_eql Try.underlying4
@[go_sem] theorem T.bn4 {H : HL.Heap} {xo yo : Operand} {x y : Bool} : HL.binV Try.prog (HL.full H) .neq 4 xo yo (.bool x) (.bool y) = some (.bool (!(x == y))) := HL.bin_bool_neq Try.underlying4
@[go_sem] theorem T.cv2_2 {V : HL.HV} {k : IntKind} {n : Int} : HL.convV Try.prog V 2 2 (.int k n) = some (.int .i64 (IntKind.i64.wrap n)) := HL.conv_int Try.underlying2 Try.underlying2
@[go_sem] theorem T.cv2_3 {V : HL.HV} {k : IntKind} {n : Int} : HL.convV Try.prog V 2 3 (.int k n) = some (.int .i64 (IntKind.i64.wrap n)) := HL.conv_int Try.underlying2 Try.underlying3
@[go_sem] theorem T.cv2_5 {V : HL.HV} {k : IntKind} {n : Int} : HL.convV Try.prog V 2 5 (.int k n) = some (.int .u8 (IntKind.u8.wrap n)) := HL.conv_int Try.underlying2 Try.underlying5
@[go_sem] theorem T.cv2_6 {V : HL.HV} {k : IntKind} {n : Int} : HL.convV Try.prog V 2 6 (.int k n) = some (.int .u8 (IntKind.u8.wrap n)) := HL.conv_int Try.underlying2 Try.underlying6
@[go_sem] theorem T.cv2_12 {V : HL.HV} {k : IntKind} {n : Int} : HL.convV Try.prog V 2 12 (.int k n) = some (.int .u64 (IntKind.u64.wrap n)) := HL.conv_int Try.underlying2 Try.underlying12
@[go_sem] theorem T.cv2_21 {V : HL.HV} {k : IntKind} {n : Int} : HL.convV Try.prog V 2 21 (.int k n) = some (.int .i32 (IntKind.i32.wrap n)) := HL.conv_int Try.underlying2 Try.underlying21
@[go_sem] theorem T.cv2_25 {V : HL.HV} {k : IntKind} {n : Int} : HL.convV Try.prog V 2 25 (.int k n) = some (.int .i64 (IntKind.i64.wrap n)) := HL.conv_int Try.underlying2 Try.underlying25
@[go_sem] theorem T.cv2_58 {V : HL.HV} {k : IntKind} {n : Int} : HL.convV Try.prog V 2 58 (.int k n) = some (.int .u32 (IntKind.u32.wrap n)) := HL.conv_int Try.underlying2 Try.underlying58
@[go_sem] theorem T.cv2_59 {V : HL.HV} {k : IntKind} {n : Int} : HL.convV Try.prog V 2 59 (.int k n) = some (.int .u8 (IntKind.u8.wrap n)) := HL.conv_int Try.underlying2 Try.underlying59
@[go_sem] theorem T.cv2_60 {V : HL.HV} {k : IntKind} {n : Int} : HL.convV Try.prog V 2 60 (.int k n) = some (.int .u8 (IntKind.u8.wrap n)) := HL.conv_int Try.underlying2 Try.underlying60
@[go_sem] theorem T.cv2_63 {V : HL.HV} {k : IntKind} {n : Int} : HL.convV Try.prog V 2 63 (.int k n) = some (.int .i32 (IntKind.i32.wrap n)) := HL.conv_int Try.underlying2 Try.underlying63
@[go_sem] theorem T.cv2_64 {V : HL.HV} {k : IntKind} {n : Int} : HL.convV Try.prog V 2 64 (.int k n) = some (.int .i32 (IntKind.i32.wrap n)) := HL.conv_int Try.underlying2 Try.underlying64
@[go_sem] theorem T.cv3_2 {V : HL.HV} {k : IntKind} {n : Int} : HL.convV Try.prog V 3 2 (.int k n) = some (.int .i64 (IntKind.i64.wrap n)) := HL.conv_int Try.underlying3 Try.underlying2
@[go_sem] theorem T.cv3_3 {V : HL.HV} {k : IntKind} {n : Int} : HL.convV Try.prog V 3 3 (.int k n) = some (.int .i64 (IntKind.i64.wrap n)) := HL.conv_int Try.underlying3 Try.underlying3
@[go_sem] theorem T.cv3_5 {V : HL.HV} {k : IntKind} {n : Int} : HL.convV Try.prog V 3 5 (.int k n) = some (.int .u8 (IntKind.u8.wrap n)) := HL.conv_int Try.underlying3 Try.underlying5
@[go_sem] theorem T.cv3_6 {V : HL.HV} {k : IntKind} {n : Int} : HL.convV Try.prog V 3 6 (.int k n) = some (.int .u8 (IntKind.u8.wrap n)) := HL.conv_int Try.underlying3 Try.underlying6
@[go_sem] theorem T.cv3_12 {V : HL.HV} {k : IntKind} {n : Int} : HL.convV Try.prog V 3 12 (.int k n) = some (.int .u64 (IntKind.u64.wrap n)) := HL.conv_int Try.underlying3 Try.underlying12
@[go_sem] theorem T.cv3_21 {V : HL.HV} {k : IntKind} {n : Int} : HL.convV Try.prog V 3 21 (.int k n) = some (.int .i32 (IntKind.i32.wrap n)) := HL.conv_int Try.underlying3 Try.underlying21
@[go_sem] theorem T.cv3_25 {V : HL.HV} {k : IntKind} {n : Int} : HL.convV Try.prog V 3 25 (.int k n) = some (.int .i64 (IntKind.i64.wrap n)) := HL.conv_int Try.underlying3 Try.underlying25
@[go_sem] theorem T.cv3_58 {V : HL.HV} {k : IntKind} {n : Int} : HL.convV Try.prog V 3 58 (.int k n) = some (.int .u32 (IntKind.u32.wrap n)) := HL.conv_int Try.underlying3 Try.underlying58
@[go_sem] theorem T.cv3_59 {V : HL.HV} {k : IntKind} {n : Int} : HL.convV Try.prog V 3 59 (.int k n) = some (.int .u8 (IntKind.u8.wrap n)) := HL.conv_int Try.underlying3 Try.underlying59
@[go_sem] theorem T.cv3_60 {V : HL.HV} {k : IntKind} {n : Int} : HL.convV Try.prog V 3 60 (.int k n) = some (.int .u8 (IntKind.u8.wrap n)) := HL.conv_int Try.underlying3 Try.underlying60
@[go_sem] theorem T.cv3_63 {V : HL.HV} {k : IntKind} {n : Int} : HL.convV Try.prog V 3 63 (.int k n) = some (.int .i32 (IntKind.i32.wrap n)) := HL.conv_int Try.underlying3 Try.underlying63
@[go_sem] theorem T.cv3_64 {V : HL.HV} {k : IntKind} {n : Int} : HL.convV Try.prog V 3 64 (.int k n) = some (.int .i32 (IntKind.i32.wrap n)) := HL.conv_int Try.underlying3 Try.underlying64
@[go_sem] theorem T.cv5_2 {V : HL.HV} {k : IntKind} {n : Int} : HL.convV Try.prog V 5 2 (.int k n) = some (.int .i64 (IntKind.i64.wrap n)) := HL.conv_int Try.underlying5 Try.underlying2
@[go_sem] theorem T.cv5_3 {V : HL.HV} {k : IntKind} {n : Int} : HL.convV Try.prog V 5 3 (.int k n) = some (.int .i64 (IntKind.i64.wrap n)) := HL.conv_int Try.underlying5 Try.underlying3
@[go_sem] theorem T.cv5_5 {V : HL.HV} {k : IntKind} {n : Int} : HL.convV Try.prog V 5 5 (.int k n) = some (.int .u8 (IntKind.u8.wrap n)) := HL.conv_int Try.underlying5 Try.underlying5
@[go_sem] theorem T.cv5_6 {V : HL.HV} {k : IntKind} {n : Int} : HL.convV Try.prog V 5 6 (.int k n) = some (.int .u8 (IntKind.u8.wrap n)) := HL.conv_int Try.underlying5 Try.underlying6
@[go_sem] theorem T.cv5_12 {V : HL.HV} {k : IntKind} {n : Int} : HL.convV Try.prog V 5 12 (.int k n) = some (.int .u64 (IntKind.u64.wrap n)) := HL.conv_int Try.underlying5 Try.underlying12
@[go_sem] theorem T.cv5_21 {V : HL.HV} {k : IntKind} {n : Int} : HL.convV Try.prog V 5 21 (.int k n) = some (.int .i32 (IntKind.i32.wrap n)) := HL.conv_int Try.underlying5 Try.underlying21
@[go_sem] theorem T.cv5_25 {V : HL.HV} {k : IntKind} {n : Int} : HL.convV Try.prog V 5 25 (.int k n) = some (.int .i64 (IntKind.i64.wrap n)) := HL.conv_int Try.underlying5 Try.underlying25
@[go_sem] theorem T.cv5_58 {V : HL.HV} {k : IntKind} {n : Int} : HL.convV Try.prog V 5 58 (.int k n) = some (.int .u32 (IntKind.u32.wrap n)) := HL.conv_int Try.underlying5 Try.underlying58
@[go_sem] theorem T.cv5_59 {V : HL.HV} {k : IntKind} {n : Int} : HL.convV Try.prog V 5 59 (.int k n) = some (.int .u8 (IntKind.u8.wrap n)) := HL.conv_int Try.underlying5 Try.underlying59
@[go_sem] theorem T.cv5_60 {V : HL.HV} {k : IntKind} {n : Int} : HL.convV Try.prog V 5 60 (.int k n) = some (.int .u8 (IntKind.u8.wrap n)) := HL.conv_int Try.underlying5 Try.underlying60
@[go_sem] theorem T.cv5_63 {V : HL.HV} {k : IntKind} {n : Int} : HL.convV Try.prog V 5 63 (.int k n) = some (.int .i32 (IntKind.i32.wrap n)) := HL.conv_int Try.underlying5 Try.underlying63
@[go_sem] theorem T.cv5_64 {V : HL.HV} {k : IntKind} {n : Int} : HL.convV Try.prog V 5 64 (.int k n) = some (.int .i32 (IntKind.i32.wrap n)) := HL.conv_int Try.underlying5 Try.underlying64
@[go_sem] theorem T.cv6_2 {V : HL.HV} {k : IntKind} {n : Int} : HL.convV Try.prog V 6 2 (.int k n) = some (.int .i64 (IntKind.i64.wrap n)) := HL.conv_int Try.underlying6 Try.underlying2
@[go_sem] theorem T.cv6_3 {V : HL.HV} {k : IntKind} {n : Int} : HL.convV Try.prog V 6 3 (.int k n) = some (.int .i64 (IntKind.i64.wrap n)) := HL.conv_int Try.underlying6 Try.underlying3
@[go_sem] theorem T.cv6_5 {V : HL.HV} {k : IntKind} {n : Int} : HL.convV Try.prog V 6 5 (.int k n) = some (.int .u8 (IntKind.u8.wrap n)) := HL.conv_int Try.underlying6 Try.underlying5
@[go_sem] theorem T.cv6_6 {V : HL.HV} {k : IntKind} {n : Int} : HL.convV Try.prog V 6 6 (.int k n) = some (.int .u8 (IntKind.u8.wrap n)) := HL.conv_int Try.underlying6 Try.underlying6
@[go_sem] theorem T.cv6_12 {V : HL.HV} {k : IntKind} {n : Int} : HL.convV Try.prog V 6 12 (.int k n) = some (.int .u64 (IntKind.u64.wrap n)) := HL.conv_int Try.underlying6 Try.underlying12
@[go_sem] theorem T.cv6_21 {V : HL.HV} {k : IntKind} {n : Int} : HL.convV Try.prog V 6 21 (.int k n) = some (.int .i32 (IntKind.i32.wrap n)) := HL.conv_int Try.underlying6 Try.underlying21
@[go_sem] theorem T.cv6_25 {V : HL.HV} {k : IntKind} {n : Int} : HL.convV Try.prog V 6 25 (.int k n) = some (.int .i64 (IntKind.i64.wrap n)) := HL.conv_int Try.underlying6 Try.underlying25
@[go_sem] theorem T.cv6_58 {V : HL.HV} {k : IntKind} {n : Int} : HL.convV Try.prog V 6 58 (.int k n) = some (.int .u32 (IntKind.u32.wrap n)) := HL.conv_int Try.underlying6 Try.underlying58
@[go_sem] theorem T.cv6_59 {V : HL.HV} {k : IntKind} {n : Int} : HL.convV Try.prog V 6 59 (.int k n) = some (.int .u8 (IntKind.u8.wrap n)) := HL.conv_int Try.underlying6 Try.underlying59
@[go_sem] theorem T.cv6_60 {V : HL.HV} {k : IntKind} {n : Int} : HL.convV Try.prog V 6 60 (.int k n) = some (.int .u8 (IntKind.u8.wrap n)) := HL.conv_int Try.underlying6 Try.underlying60
@[go_sem] theorem T.cv6_63 {V : HL.HV} {k : IntKind} {n : Int} : HL.convV Try.prog V 6 63 (.int k n) = some (.int .i32 (IntKind.i32.wrap n)) := HL.conv_int Try.underlying6 Try.underlying63
@[go_sem] theorem T.cv6_64 {V : HL.HV} {k : IntKind} {n : Int} : HL.convV Try.prog V 6 64 (.int k n) = some (.int .i32 (IntKind.i32.wrap n)) := HL.conv_int Try.underlying6 Try.underlying64
@[go_sem] theorem T.cv12_2 {V : HL.HV} {k : IntKind} {n : Int} : HL.convV Try.prog V 12 2 (.int k n) = some (.int .i64 (IntKind.i64.wrap n)) := HL.conv_int Try.underlying12 Try.underlying2
@[go_sem] theorem T.cv12_3 {V : HL.HV} {k : IntKind} {n : Int} : HL.convV Try.prog V 12 3 (.int k n) = some (.int .i64 (IntKind.i64.wrap n)) := HL.conv_int Try.underlying12 Try.underlying3
@[go_sem] theorem T.cv12_5 {V : HL.HV} {k : IntKind} {n : Int} : HL.convV Try.prog V 12 5 (.int k n) = some (.int .u8 (IntKind.u8.wrap n)) := HL.conv_int Try.underlying12 Try.underlying5
@[go_sem] theorem T.cv12_6 {V : HL.HV} {k : IntKind} {n : Int} : HL.convV Try.prog V 12 6 (.int k n) = some (.int .u8 (IntKind.u8.wrap n)) := HL.conv_int Try.underlying12 Try.underlying6
@[go_sem] theorem T.cv12_12 {V : HL.HV} {k : IntKind} {n : Int} : HL.convV Try.prog V 12 12 (.int k n) = some (.int .u64 (IntKind.u64.wrap n)) := HL.conv_int Try.underlying12 Try.underlying12
@[go_sem] theorem T.cv12_21 {V : HL.HV} {k : IntKind} {n : Int} : HL.convV Try.prog V 12 21 (.int k n) = some (.int .i32 (IntKind.i32.wrap n)) := HL.conv_int Try.underlying12 Try.underlying21
@[go_sem] theorem T.cv12_25 {V : HL.HV} {k : IntKind} {n : Int} : HL.convV Try.prog V 12 25 (.int k n) = some (.int .i64 (IntKind.i64.wrap n)) := HL.conv_int Try.underlying12 Try.underlying25
@[go_sem] theorem T.cv12_58 {V : HL.HV} {k : IntKind} {n : Int} : HL.convV Try.prog V 12 58 (.int k n) = some (.int .u32 (IntKind.u32.wrap n)) := HL.conv_int Try.underlying12 Try.underlying58
@[go_sem] theorem T.cv12_59 {V : HL.HV} {k : IntKind} {n : Int} : HL.convV Try.prog V 12 59 (.int k n) = some (.int .u8 (IntKind.u8.wrap n)) := HL.conv_int Try.underlying12 Try.underlying59
@[go_sem] theorem T.cv12_60 {V : HL.HV} {k : IntKind} {n : Int} : HL.convV Try.prog V 12 60 (.int k n) = some (.int .u8 (IntKind.u8.wrap n)) := HL.conv_int Try.underlying12 Try.underlying60
@[go_sem] theorem T.cv12_63 {V : HL.HV} {k : IntKind} {n : Int} : HL.convV Try.prog V 12 63 (.int k n) = some (.int .i32 (IntKind.i32.wrap n)) := HL.conv_int Try.underlying12 Try.underlying63
@[go_sem] theorem T.cv12_64 {V : HL.HV} {k : IntKind} {n : Int} : HL.convV Try.prog V 12 64 (.int k n) = some (.int .i32 (IntKind.i32.wrap n)) := HL.conv_int Try.underlying12 Try.underlying64
@[go_sem] theorem T.cv21_2 {V : HL.HV} {k : IntKind} {n : Int} : HL.convV Try.prog V 21 2 (.int k n) = some (.int .i64 (IntKind.i64.wrap n)) := HL.conv_int Try.underlying21 Try.underlying2
@[go_sem] theorem T.cv21_3 {V : HL.HV} {k : IntKind} {n : Int} : HL.convV Try.prog V 21 3 (.int k n) = some (.int .i64 (IntKind.i64.wrap n)) := HL.conv_int Try.underlying21 Try.underlying3
@[go_sem] theorem T.cv21_5 {V : HL.HV} {k : IntKind} {n : Int} : HL.convV Try.prog V 21 5 (.int k n) = some (.int .u8 (IntKind.u8.wrap n)) := HL.conv_int Try.underlying21 Try.underlying5
@[go_sem] theorem T.cv21_6 {V : HL.HV} {k : IntKind} {n : Int} : HL.convV Try.prog V 21 6 (.int k n) = some (.int .u8 (IntKind.u8.wrap n)) := HL.conv_int Try.underlying21 Try.underlying6
@[go_sem] theorem T.cv21_12 {V : HL.HV} {k : IntKind} {n : Int} : HL.convV Try.prog V 21 12 (.int k n) = some (.int .u64 (IntKind.u64.wrap n)) := HL.conv_int Try.underlying21 Try.underlying12
@[go_sem] theorem T.cv21_21 {V : HL.HV} {k : IntKind} {n : Int} : HL.convV Try.prog V 21 21 (.int k n) = some (.int .i32 (IntKind.i32.wrap n)) := HL.conv_int Try.underlying21 Try.underlying21
@[go_sem] theorem T.cv21_25 {V : HL.HV} {k : IntKind} {n : Int} : HL.convV Try.prog V 21 25 (.int k n) = some (.int .i64 (IntKind.i64.wrap n)) := HL.conv_int Try.underlying21 Try.underlying25
@[go_sem] theorem T.cv21_58 {V : HL.HV} {k : IntKind} {n : Int} : HL.convV Try.prog V 21 58 (.int k n) = some (.int .u32 (IntKind.u32.wrap n)) := HL.conv_int Try.underlying21 Try.underlying58
@[go_sem] theorem T.cv21_59 {V : HL.HV} {k : IntKind} {n : Int} : HL.convV Try.prog V 21 59 (.int k n) = some (.int .u8 (IntKind.u8.wrap n)) := HL.conv_int Try.underlying21 Try.underlying59
@[go_sem] theorem T.cv21_60 {V : HL.HV} {k : IntKind} {n : Int} : HL.convV Try.prog V 21 60 (.int k n) = some (.int .u8 (IntKind.u8.wrap n)) := HL.conv_int Try.underlying21 Try.underlying60
@[go_sem] theorem T.cv21_63 {V : HL.HV} {k : IntKind} {n : Int} : HL.convV Try.prog V 21 63 (.int k n) = some (.int .i32 (IntKind.i32.wrap n)) := HL.conv_int Try.underlying21 Try.underlying63
@[go_sem] theorem T.cv21_64 {V : HL.HV} {k : IntKind} {n : Int} : HL.convV Try.prog V 21 64 (.int k n) = some (.int .i32 (IntKind.i32.wrap n)) := HL.conv_int Try.underlying21 Try.underlying64
@[go_sem] theorem T.cv25_2 {V : HL.HV} {k : IntKind} {n : Int} : HL.convV Try.prog V 25 2 (.int k n) = some (.int .i64 (IntKind.i64.wrap n)) := HL.conv_int Try.underlying25 Try.underlying2
@[go_sem] theorem T.cv25_3 {V : HL.HV} {k : IntKind} {n : Int} : HL.convV Try.prog V 25 3 (.int k n) = some (.int .i64 (IntKind.i64.wrap n)) := HL.conv_int Try.underlying25 Try.underlying3
@[go_sem] theorem T.cv25_5 {V : HL.HV} {k : IntKind} {n : Int} : HL.convV Try.prog V 25 5 (.int k n) = some (.int .u8 (IntKind.u8.wrap n)) := HL.conv_int Try.underlying25 Try.underlying5
@[go_sem] theorem T.cv25_6 {V : HL.HV} {k : IntKind} {n : Int} : HL.convV Try.prog V 25 6 (.int k n) = some (.int .u8 (IntKind.u8.wrap n)) := HL.conv_int Try.underlying25 Try.underlying6
@[go_sem] theorem T.cv25_12 {V : HL.HV} {k : IntKind} {n : Int} : HL.convV Try.prog V 25 12 (.int k n) = some (.int .u64 (IntKind.u64.wrap n)) := HL.conv_int Try.underlying25 Try.underlying12
@[go_sem] theorem T.cv25_21 {V : HL.HV} {k : IntKind} {n : Int} : HL.convV Try.prog V 25 21 (.int k n) = some (.int .i32 (IntKind.i32.wrap n)) := HL.conv_int Try.underlying25 Try.underlying21
@[go_sem] theorem T.cv25_25 {V : HL.HV} {k : IntKind} {n : Int} : HL.convV Try.prog V 25 25 (.int k n) = some (.int .i64 (IntKind.i64.wrap n)) := HL.conv_int Try.underlying25 Try.underlying25
@[go_sem] theorem T.cv25_58 {V : HL.HV} {k : IntKind} {n : Int} : HL.convV Try.prog V 25 58 (.int k n) = some (.int .u32 (IntKind.u32.wrap n)) := HL.conv_int Try.underlying25 Try.underlying58
@[go_sem] theorem T.cv25_59 {V : HL.HV} {k : IntKind} {n : Int} : HL.convV Try.prog V 25 59 (.int k n) = some (.int .u8 (IntKind.u8.wrap n)) := HL.conv_int Try.underlying25 Try.underlying59
@[go_sem] theorem T.cv25_60 {V : HL.HV} {k : IntKind} {n : Int} : HL.convV Try.prog V 25 60 (.int k n) = some (.int .u8 (IntKind.u8.wrap n)) := HL.conv_int Try.underlying25 Try.underlying60
@[go_sem] theorem T.cv25_63 {V : HL.HV} {k : IntKind} {n : Int} : HL.convV Try.prog V 25 63 (.int k n) = some (.int .i32 (IntKind.i32.wrap n)) := HL.conv_int Try.underlying25 Try.underlying63
@[go_sem] theorem T.cv25_64 {V : HL.HV} {k : IntKind} {n : Int} : HL.convV Try.prog V 25 64 (.int k n) = some (.int .i32 (IntKind.i32.wrap n)) := HL.conv_int Try.underlying25 Try.underlying64
@[go_sem] theorem T.cv58_2 {V : HL.HV} {k : IntKind} {n : Int} : HL.convV Try.prog V 58 2 (.int k n) = some (.int .i64 (IntKind.i64.wrap n)) := HL.conv_int Try.underlying58 Try.underlying2
@[go_sem] theorem T.cv58_3 {V : HL.HV} {k : IntKind} {n : Int} : HL.convV Try.prog V 58 3 (.int k n) = some (.int .i64 (IntKind.i64.wrap n)) := HL.conv_int Try.underlying58 Try.underlying3
@[go_sem] theorem T.cv58_5 {V : HL.HV} {k : IntKind} {n : Int} : HL.convV Try.prog V 58 5 (.int k n) = some (.int .u8 (IntKind.u8.wrap n)) := HL.conv_int Try.underlying58 Try.underlying5
@[go_sem] theorem T.cv58_6 {V : HL.HV} {k : IntKind} {n : Int} : HL.convV Try.prog V 58 6 (.int k n) = some (.int .u8 (IntKind.u8.wrap n)) := HL.conv_int Try.underlying58 Try.underlying6
@[go_sem] theorem T.cv58_12 {V : HL.HV} {k : IntKind} {n : Int} : HL.convV Try.prog V 58 12 (.int k n) = some (.int .u64 (IntKind.u64.wrap n)) := HL.conv_int Try.underlying58 Try.underlying12
@[go_sem] theorem T.cv58_21 {V : HL.HV} {k : IntKind} {n : Int} : HL.convV Try.prog V 58 21 (.int k n) = some (.int .i32 (IntKind.i32.wrap n)) := HL.conv_int Try.underlying58 Try.underlying21
@[go_sem] theorem T.cv58_25 {V : HL.HV} {k : IntKind} {n : Int} : HL.convV Try.prog V 58 25 (.int k n) = some (.int .i64 (IntKind.i64.wrap n)) := HL.conv_int Try.underlying58 Try.underlying25
@[go_sem] theorem T.cv58_58 {V : HL.HV} {k : IntKind} {n : Int} : HL.convV Try.prog V 58 58 (.int k n) = some (.int .u32 (IntKind.u32.wrap n)) := HL.conv_int Try.underlying58 Try.underlying58
@[go_sem] theorem T.cv58_59 {V : HL.HV} {k : IntKind} {n : Int} : HL.convV Try.prog V 58 59 (.int k n) = some (.int .u8 (IntKind.u8.wrap n)) := HL.conv_int Try.underlying58 Try.underlying59
@[go_sem] theorem T.cv58_60 {V : HL.HV} {k : IntKind} {n : Int} : HL.convV Try.prog V 58 60 (.int k n) = some (.int .u8 (IntKind.u8.wrap n)) := HL.conv_int Try.underlying58 Try.underlying60
@[go_sem] theorem T.cv58_63 {V : HL.HV} {k : IntKind} {n : Int} : HL.convV Try.prog V 58 63 (.int k n) = some (.int .i32 (IntKind.i32.wrap n)) := HL.conv_int Try.underlying58 Try.underlying63
@[go_sem] theorem T.cv58_64 {V : HL.HV} {k : IntKind} {n : Int} : HL.convV Try.prog V 58 64 (.int k n) = some (.int .i32 (IntKind.i32.wrap n)) := HL.conv_int Try.underlying58 Try.underlying64
@[go_sem] theorem T.cv59_2 {V : HL.HV} {k : IntKind} {n : Int} : HL.convV Try.prog V 59 2 (.int k n) = some (.int .i64 (IntKind.i64.wrap n)) := HL.conv_int Try.underlying59 Try.underlying2
@[go_sem] theorem T.cv59_3 {V : HL.HV} {k : IntKind} {n : Int} : HL.convV Try.prog V 59 3 (.int k n) = some (.int .i64 (IntKind.i64.wrap n)) := HL.conv_int Try.underlying59 Try.underlying3
@[go_sem] theorem T.cv59_5 {V : HL.HV} {k : IntKind} {n : Int} : HL.convV Try.prog V 59 5 (.int k n) = some (.int .u8 (IntKind.u8.wrap n)) := HL.conv_int Try.underlying59 Try.underlying5
@[go_sem] theorem T.cv59_6 {V : HL.HV} {k : IntKind} {n : Int} : HL.convV Try.prog V 59 6 (.int k n) = some (.int .u8 (IntKind.u8.wrap n)) := HL.conv_int Try.underlying59 Try.underlying6
@[go_sem] theorem T.cv59_12 {V : HL.HV} {k : IntKind} {n : Int} : HL.convV Try.prog V 59 12 (.int k n) = some (.int .u64 (IntKind.u64.wrap n)) := HL.conv_int Try.underlying59 Try.underlying12
@[go_sem] theorem T.cv59_21 {V : HL.HV} {k : IntKind} {n : Int} : HL.convV Try.prog V 59 21 (.int k n) = some (.int .i32 (IntKind.i32.wrap n)) := HL.conv_int Try.underlying59 Try.underlying21
@[go_sem] theorem T.cv59_25 {V : HL.HV} {k : IntKind} {n : Int} : HL.convV Try.prog V 59 25 (.int k n) = some (.int .i64 (IntKind.i64.wrap n)) := HL.conv_int Try.underlying59 Try.underlying25
@[go_sem] theorem T.cv59_58 {V : HL.HV} {k : IntKind} {n : Int} : HL.convV Try.prog V 59 58 (.int k n) = some (.int .u32 (IntKind.u32.wrap n)) := HL.conv_int Try.underlying59 Try.underlying58
@[go_sem] theorem T.cv59_59 {V : HL.HV} {k : IntKind} {n : Int} : HL.convV Try.prog V 59 59 (.int k n) = some (.int .u8 (IntKind.u8.wrap n)) := HL.conv_int Try.underlying59 Try.underlying59
@[go_sem] theorem T.cv59_60 {V : HL.HV} {k : IntKind} {n : Int} : HL.convV Try.prog V 59 60 (.int k n) = some (.int .u8 (IntKind.u8.wrap n)) := HL.conv_int Try.underlying59 Try.underlying60
@[go_sem] theorem T.cv59_63 {V : HL.HV} {k : IntKind} {n : Int} : HL.convV Try.prog V 59 63 (.int k n) = some (.int .i32 (IntKind.i32.wrap n)) := HL.conv_int Try.underlying59 Try.underlying63
@[go_sem] theorem T.cv59_64 {V : HL.HV} {k : IntKind} {n : Int} : HL.convV Try.prog V 59 64 (.int k n) = some (.int .i32 (IntKind.i32.wrap n)) := HL.conv_int Try.underlying59 Try.underlying64
@[go_sem] theorem T.cv60_2 {V : HL.HV} {k : IntKind} {n : Int} : HL.convV Try.prog V 60 2 (.int k n) = some (.int .i64 (IntKind.i64.wrap n)) := HL.conv_int Try.underlying60 Try.underlying2
@[go_sem] theorem T.cv60_3 {V : HL.HV} {k : IntKind} {n : Int} : HL.convV Try.prog V 60 3 (.int k n) = some (.int .i64 (IntKind.i64.wrap n)) := HL.conv_int Try.underlying60 Try.underlying3
@[go_sem] theorem T.cv60_5 {V : HL.HV} {k : IntKind} {n : Int} : HL.convV Try.prog V 60 5 (.int k n) = some (.int .u8 (IntKind.u8.wrap n)) := HL.conv_int Try.underlying60 Try.underlying5
@[go_sem] theorem T.cv60_6 {V : HL.HV} {k : IntKind} {n : Int} : HL.convV Try.prog V 60 6 (.int k n) = some (.int .u8 (IntKind.u8.wrap n)) := HL.conv_int Try.underlying60 Try.underlying6
@[go_sem] theorem T.cv60_12 {V : HL.HV} {k : IntKind} {n : Int} : HL.convV Try.prog V 60 12 (.int k n) = some (.int .u64 (IntKind.u64.wrap n)) := HL.conv_int Try.underlying60 Try.underlying12
@[go_sem] theorem T.cv60_21 {V : HL.HV} {k : IntKind} {n : Int} : HL.convV Try.prog V 60 21 (.int k n) = some (.int .i32 (IntKind.i32.wrap n)) := HL.conv_int Try.underlying60 Try.underlying21
@[go_sem] theorem T.cv60_25 {V : HL.HV} {k : IntKind} {n : Int} : HL.convV Try.prog V 60 25 (.int k n) = some (.int .i64 (IntKind.i64.wrap n)) := HL.conv_int Try.underlying60 Try.underlying25
@[go_sem] theorem T.cv60_58 {V : HL.HV} {k : IntKind} {n : Int} : HL.convV Try.prog V 60 58 (.int k n) = some (.int .u32 (IntKind.u32.wrap n)) := HL.conv_int Try.underlying60 Try.underlying58
@[go_sem] theorem T.cv60_59 {V : HL.HV} {k : IntKind} {n : Int} : HL.convV Try.prog V 60 59 (.int k n) = some (.int .u8 (IntKind.u8.wrap n)) := HL.conv_int Try.underlying60 Try.underlying59
@[go_sem] theorem T.cv60_60 {V : HL.HV} {k : IntKind} {n : Int} : HL.convV Try.prog V 60 60 (.int k n) = some (.int .u8 (IntKind.u8.wrap n)) := HL.conv_int Try.underlying60 Try.underlying60
@[go_sem] theorem T.cv60_63 {V : HL.HV} {k : IntKind} {n : Int} : HL.convV Try.prog V 60 63 (.int k n) = some (.int .i32 (IntKind.i32.wrap n)) := HL.conv_int Try.underlying60 Try.underlying63
@[go_sem] theorem T.cv60_64 {V : HL.HV} {k : IntKind} {n : Int} : HL.convV Try.prog V 60 64 (.int k n) = some (.int .i32 (IntKind.i32.wrap n)) := HL.conv_int Try.underlying60 Try.underlying64
@[go_sem] theorem T.cv63_2 {V : HL.HV} {k : IntKind} {n : Int} : HL.convV Try.prog V 63 2 (.int k n) = some (.int .i64 (IntKind.i64.wrap n)) := HL.conv_int Try.underlying63 Try.underlying2
@[go_sem] theorem T.cv63_3 {V : HL.HV} {k : IntKind} {n : Int} : HL.convV Try.prog V 63 3 (.int k n) = some (.int .i64 (IntKind.i64.wrap n)) := HL.conv_int Try.underlying63 Try.underlying3
@[go_sem] theorem T.cv63_5 {V : HL.HV} {k : IntKind} {n : Int} : HL.convV Try.prog V 63 5 (.int k n) = some (.int .u8 (IntKind.u8.wrap n)) := HL.conv_int Try.underlying63 Try.underlying5
@[go_sem] theorem T.cv63_6 {V : HL.HV} {k : IntKind} {n : Int} : HL.convV Try.prog V 63 6 (.int k n) = some (.int .u8 (IntKind.u8.wrap n)) := HL.conv_int Try.underlying63 Try.underlying6
@[go_sem] theorem T.cv63_12 {V : HL.HV} {k : IntKind} {n : Int} : HL.convV Try.prog V 63 12 (.int k n) = some (.int .u64 (IntKind.u64.wrap n)) := HL.conv_int Try.underlying63 Try.underlying12
@[go_sem] theorem T.cv63_21 {V : HL.HV} {k : IntKind} {n : Int} : HL.convV Try.prog V 63 21 (.int k n) = some (.int .i32 (IntKind.i32.wrap n)) := HL.conv_int Try.underlying63 Try.underlying21
@[go_sem] theorem T.cv63_25 {V : HL.HV} {k : IntKind} {n : Int} : HL.convV Try.prog V 63 25 (.int k n) = some (.int .i64 (IntKind.i64.wrap n)) := HL.conv_int Try.underlying63 Try.underlying25
@[go_sem] theorem T.cv63_58 {V : HL.HV} {k : IntKind} {n : Int} : HL.convV Try.prog V 63 58 (.int k n) = some (.int .u32 (IntKind.u32.wrap n)) := HL.conv_int Try.underlying63 Try.underlying58
@[go_sem] theorem T.cv63_59 {V : HL.HV} {k : IntKind} {n : Int} : HL.convV Try.prog V 63 59 (.int k n) = some (.int .u8 (IntKind.u8.wrap n)) := HL.conv_int Try.underlying63 Try.underlying59
@[go_sem] theorem T.cv63_60 {V : HL.HV} {k : IntKind} {n : Int} : HL.convV Try.prog V 63 60 (.int k n) = some (.int .u8 (IntKind.u8.wrap n)) := HL.conv_int Try.underlying63 Try.underlying60
@[go_sem] theorem T.cv63_63 {V : HL.HV} {k : IntKind} {n : Int} : HL.convV Try.prog V 63 63 (.int k n) = some (.int .i32 (IntKind.i32.wrap n)) := HL.conv_int Try.underlying63 Try.underlying63
@[go_sem] theorem T.cv63_64 {V : HL.HV} {k : IntKind} {n : Int} : HL.convV Try.prog V 63 64 (.int k n) = some (.int .i32 (IntKind.i32.wrap n)) := HL.conv_int Try.underlying63 Try.underlying64
@[go_sem] theorem T.cv64_2 {V : HL.HV} {k : IntKind} {n : Int} : HL.convV Try.prog V 64 2 (.int k n) = some (.int .i64 (IntKind.i64.wrap n)) := HL.conv_int Try.underlying64 Try.underlying2
@[go_sem] theorem T.cv64_3 {V : HL.HV} {k : IntKind} {n : Int} : HL.convV Try.prog V 64 3 (.int k n) = some (.int .i64 (IntKind.i64.wrap n)) := HL.conv_int Try.underlying64 Try.underlying3
@[go_sem] theorem T.cv64_5 {V : HL.HV} {k : IntKind} {n : Int} : HL.convV Try.prog V 64 5 (.int k n) = some (.int .u8 (IntKind.u8.wrap n)) := HL.conv_int Try.underlying64 Try.underlying5
@[go_sem] theorem T.cv64_6 {V : HL.HV} {k : IntKind} {n : Int} : HL.convV Try.prog V 64 6 (.int k n) = some (.int .u8 (IntKind.u8.wrap n)) := HL.conv_int Try.underlying64 Try.underlying6
@[go_sem] theorem T.cv64_12 {V : HL.HV} {k : IntKind} {n : Int} : HL.convV Try.prog V 64 12 (.int k n) = some (.int .u64 (IntKind.u64.wrap n)) := HL.conv_int Try.underlying64 Try.underlying12
@[go_sem] theorem T.cv64_21 {V : HL.HV} {k : IntKind} {n : Int} : HL.convV Try.prog V 64 21 (.int k n) = some (.int .i32 (IntKind.i32.wrap n)) := HL.conv_int Try.underlying64 Try.underlying21
@[go_sem] theorem T.cv64_25 {V : HL.HV} {k : IntKind} {n : Int} : HL.convV Try.prog V 64 25 (.int k n) = some (.int .i64 (IntKind.i64.wrap n)) := HL.conv_int Try.underlying64 Try.underlying25
@[go_sem] theorem T.cv64_58 {V : HL.HV} {k : IntKind} {n : Int} : HL.convV Try.prog V 64 58 (.int k n) = some (.int .u32 (IntKind.u32.wrap n)) := HL.conv_int Try.underlying64 Try.underlying58
@[go_sem] theorem T.cv64_59 {V : HL.HV} {k : IntKind} {n : Int} : HL.convV Try.prog V 64 59 (.int k n) = some (.int .u8 (IntKind.u8.wrap n)) := HL.conv_int Try.underlying64 Try.underlying59
@[go_sem] theorem T.cv64_60 {V : HL.HV} {k : IntKind} {n : Int} : HL.convV Try.prog V 64 60 (.int k n) = some (.int .u8 (IntKind.u8.wrap n)) := HL.conv_int Try.underlying64 Try.underlying60
@[go_sem] theorem T.cv64_63 {V : HL.HV} {k : IntKind} {n : Int} : HL.convV Try.prog V 64 63 (.int k n) = some (.int .i32 (IntKind.i32.wrap n)) := HL.conv_int Try.underlying64 Try.underlying63
@[go_sem] theorem T.cv64_64 {V : HL.HV} {k : IntKind} {n : Int} : HL.convV Try.prog V 64 64 (.int k n) = some (.int .i32 (IntKind.i32.wrap n)) := HL.conv_int Try.underlying64 Try.underlying64
end Go.Proofs
