/- Texts of this proof, put together: T. The conditions of each theorem stand in it. -/
import Derived.Test.YthbbeliibdhjmaaProg
import Derived.Test.YthbbeliibdhjmaaMX2
/- Closed facts on the types of the program. -/
namespace Go.Proofs
theorem T.mixed : Try.prog.follows .mixedOrders = true := by kernel_rfl
@[go_sem] theorem T.agg1 : HL.aggN Try.prog 1 = some none := by kernel_rfl
@[go_sem] theorem T.size1 : HL.sizeT Try.prog 1 = some 1 := by kernel_rfl
@[go_sem] theorem T.bytes1 : HL.bytesT Try.prog 1 = some 8 := by kernel_rfl
@[go_sem] theorem T.zero1 : HL.zeroT Try.prog 1 = some (.nilFunc) := by kernel_rfl
@[go_sem] theorem T.agg2 : HL.aggN Try.prog 2 = some none := by kernel_rfl
@[go_sem] theorem T.size2 : HL.sizeT Try.prog 2 = some 1 := by kernel_rfl
@[go_sem] theorem T.bytes2 : HL.bytesT Try.prog 2 = some 8 := by kernel_rfl
@[go_sem] theorem T.zero2 : HL.zeroT Try.prog 2 = some (.int .i64 0) := by kernel_rfl
@[go_sem] theorem T.agg3 : HL.aggN Try.prog 3 = some none := by kernel_rfl
@[go_sem] theorem T.size3 : HL.sizeT Try.prog 3 = some 1 := by kernel_rfl
@[go_sem] theorem T.bytes3 : HL.bytesT Try.prog 3 = some 8 := by kernel_rfl
@[go_sem] theorem T.zero3 : HL.zeroT Try.prog 3 = some (.int .i64 0) := by kernel_rfl
@[go_sem] theorem T.agg4 : HL.aggN Try.prog 4 = some none := by kernel_rfl
@[go_sem] theorem T.size4 : HL.sizeT Try.prog 4 = some 1 := by kernel_rfl
@[go_sem] theorem T.bytes4 : HL.bytesT Try.prog 4 = some 1 := by kernel_rfl
@[go_sem] theorem T.zero4 : HL.zeroT Try.prog 4 = some (.bool false) := by kernel_rfl
@[go_sem] theorem T.agg5 : HL.aggN Try.prog 5 = some none := by kernel_rfl
@[go_sem] theorem T.size5 : HL.sizeT Try.prog 5 = some 1 := by kernel_rfl
@[go_sem] theorem T.bytes5 : HL.bytesT Try.prog 5 = some 1 := by kernel_rfl
@[go_sem] theorem T.zero5 : HL.zeroT Try.prog 5 = some (.int .u8 0) := by kernel_rfl
@[go_sem] theorem T.agg6 : HL.aggN Try.prog 6 = some none := by kernel_rfl
@[go_sem] theorem T.size6 : HL.sizeT Try.prog 6 = some 1 := by kernel_rfl
@[go_sem] theorem T.bytes6 : HL.bytesT Try.prog 6 = some 1 := by kernel_rfl
@[go_sem] theorem T.zero6 : HL.zeroT Try.prog 6 = some (.int .u8 0) := by kernel_rfl
@[go_sem] theorem T.agg7 : HL.aggN Try.prog 7 = some (some 4) := by kernel_rfl
@[go_sem] theorem T.size7 : HL.sizeT Try.prog 7 = some 4 := by kernel_rfl
@[go_sem] theorem T.bytes7 : HL.bytesT Try.prog 7 = some 24 := by kernel_rfl
@[go_sem] theorem T.zero7 : HL.zeroT Try.prog 7 = some (.agg #[.int .i64 0, .int .i64 0, .bool false, .int .u8 0]) := by kernel_rfl
@[go_sem] theorem T.places7 : HL.placesT Try.prog 7 = some [(0, 1), (1, 1), (2, 1), (3, 1)] := by kernel_rfl
@[go_sem] theorem T.field7_0 : HL.fieldT Try.prog 7 0 = some (0, 2) := by kernel_rfl
@[go_sem] theorem T.fieldO7_0 : HL.fieldO Try.prog 7 0 = some 0 := by kernel_rfl
@[go_sem] theorem T.field7_1 : HL.fieldT Try.prog 7 1 = some (1, 3) := by kernel_rfl
@[go_sem] theorem T.fieldO7_1 : HL.fieldO Try.prog 7 1 = some 1 := by kernel_rfl
@[go_sem] theorem T.field7_2 : HL.fieldT Try.prog 7 2 = some (2, 4) := by kernel_rfl
@[go_sem] theorem T.fieldO7_2 : HL.fieldO Try.prog 7 2 = some 2 := by kernel_rfl
@[go_sem] theorem T.field7_3 : HL.fieldT Try.prog 7 3 = some (3, 6) := by kernel_rfl
@[go_sem] theorem T.fieldO7_3 : HL.fieldO Try.prog 7 3 = some 3 := by kernel_rfl
@[go_sem] theorem T.agg8 : HL.aggN Try.prog 8 = some (some 4) := by kernel_rfl
@[go_sem] theorem T.size8 : HL.sizeT Try.prog 8 = some 4 := by kernel_rfl
@[go_sem] theorem T.bytes8 : HL.bytesT Try.prog 8 = some 24 := by kernel_rfl
@[go_sem] theorem T.zero8 : HL.zeroT Try.prog 8 = some (.agg #[.int .i64 0, .int .i64 0, .bool false, .int .u8 0]) := by kernel_rfl
@[go_sem] theorem T.places8 : HL.placesT Try.prog 8 = some [(0, 1), (1, 1), (2, 1), (3, 1)] := by kernel_rfl
@[go_sem] theorem T.field8_0 : HL.fieldT Try.prog 8 0 = some (0, 2) := by kernel_rfl
@[go_sem] theorem T.fieldO8_0 : HL.fieldO Try.prog 8 0 = some 0 := by kernel_rfl
@[go_sem] theorem T.field8_1 : HL.fieldT Try.prog 8 1 = some (1, 3) := by kernel_rfl
@[go_sem] theorem T.fieldO8_1 : HL.fieldO Try.prog 8 1 = some 1 := by kernel_rfl
@[go_sem] theorem T.field8_2 : HL.fieldT Try.prog 8 2 = some (2, 4) := by kernel_rfl
@[go_sem] theorem T.fieldO8_2 : HL.fieldO Try.prog 8 2 = some 2 := by kernel_rfl
@[go_sem] theorem T.field8_3 : HL.fieldT Try.prog 8 3 = some (3, 6) := by kernel_rfl
@[go_sem] theorem T.fieldO8_3 : HL.fieldO Try.prog 8 3 = some 3 := by kernel_rfl
@[go_sem] theorem T.agg9 : HL.aggN Try.prog 9 = some none := by kernel_rfl
@[go_sem] theorem T.size9 : HL.sizeT Try.prog 9 = some 1 := by kernel_rfl
@[go_sem] theorem T.bytes9 : HL.bytesT Try.prog 9 = some 16 := by kernel_rfl
@[go_sem] theorem T.zero9 : HL.zeroT Try.prog 9 = some (.string ⟨#[]⟩) := by kernel_rfl
@[go_sem] theorem T.agg10 : HL.aggN Try.prog 10 = some none := by kernel_rfl
@[go_sem] theorem T.size10 : HL.sizeT Try.prog 10 = some 1 := by kernel_rfl
@[go_sem] theorem T.bytes10 : HL.bytesT Try.prog 10 = some 16 := by kernel_rfl
@[go_sem] theorem T.zero10 : HL.zeroT Try.prog 10 = some (.string ⟨#[]⟩) := by kernel_rfl
@[go_sem] theorem T.agg11 : HL.aggN Try.prog 11 = some none := by kernel_rfl
@[go_sem] theorem T.size11 : HL.sizeT Try.prog 11 = some 1 := by kernel_rfl
@[go_sem] theorem T.bytes11 : HL.bytesT Try.prog 11 = some 16 := by kernel_rfl
@[go_sem] theorem T.zero11 : HL.zeroT Try.prog 11 = some (.string ⟨#[]⟩) := by kernel_rfl
@[go_sem] theorem T.agg12 : HL.aggN Try.prog 12 = some none := by kernel_rfl
@[go_sem] theorem T.size12 : HL.sizeT Try.prog 12 = some 1 := by kernel_rfl
@[go_sem] theorem T.bytes12 : HL.bytesT Try.prog 12 = some 8 := by kernel_rfl
@[go_sem] theorem T.zero12 : HL.zeroT Try.prog 12 = some (.int .u64 0) := by kernel_rfl
@[go_sem] theorem T.agg13 : HL.aggN Try.prog 13 = some (some 2) := by kernel_rfl
@[go_sem] theorem T.size13 : HL.sizeT Try.prog 13 = some 2 := by kernel_rfl
@[go_sem] theorem T.bytes13 : HL.bytesT Try.prog 13 = some 24 := by kernel_rfl
@[go_sem] theorem T.zero13 : HL.zeroT Try.prog 13 = some (.agg #[.string ⟨#[]⟩, .int .u64 0]) := by kernel_rfl
@[go_sem] theorem T.places13 : HL.placesT Try.prog 13 = some [(0, 1), (1, 1)] := by kernel_rfl
@[go_sem] theorem T.field13_0 : HL.fieldT Try.prog 13 0 = some (0, 9) := by kernel_rfl
@[go_sem] theorem T.fieldO13_0 : HL.fieldO Try.prog 13 0 = some 0 := by kernel_rfl
@[go_sem] theorem T.field13_1 : HL.fieldT Try.prog 13 1 = some (1, 12) := by kernel_rfl
@[go_sem] theorem T.fieldO13_1 : HL.fieldO Try.prog 13 1 = some 1 := by kernel_rfl
@[go_sem] theorem T.agg14 : HL.aggN Try.prog 14 = some (some 2) := by kernel_rfl
@[go_sem] theorem T.size14 : HL.sizeT Try.prog 14 = some 2 := by kernel_rfl
@[go_sem] theorem T.bytes14 : HL.bytesT Try.prog 14 = some 24 := by kernel_rfl
@[go_sem] theorem T.zero14 : HL.zeroT Try.prog 14 = some (.agg #[.string ⟨#[]⟩, .int .u64 0]) := by kernel_rfl
@[go_sem] theorem T.places14 : HL.placesT Try.prog 14 = some [(0, 1), (1, 1)] := by kernel_rfl
@[go_sem] theorem T.field14_0 : HL.fieldT Try.prog 14 0 = some (0, 9) := by kernel_rfl
@[go_sem] theorem T.fieldO14_0 : HL.fieldO Try.prog 14 0 = some 0 := by kernel_rfl
@[go_sem] theorem T.field14_1 : HL.fieldT Try.prog 14 1 = some (1, 12) := by kernel_rfl
@[go_sem] theorem T.fieldO14_1 : HL.fieldO Try.prog 14 1 = some 1 := by kernel_rfl
@[go_sem] theorem T.agg15 : HL.aggN Try.prog 15 = some none := by kernel_rfl
@[go_sem] theorem T.size15 : HL.sizeT Try.prog 15 = some 1 := by kernel_rfl
@[go_sem] theorem T.bytes15 : HL.bytesT Try.prog 15 = some 8 := by kernel_rfl
@[go_sem] theorem T.zero15 : HL.zeroT Try.prog 15 = some (.pointer none) := by kernel_rfl
@[go_sem] theorem T.agg16 : HL.aggN Try.prog 16 = some none := by kernel_rfl
@[go_sem] theorem T.size16 : HL.sizeT Try.prog 16 = some 1 := by kernel_rfl
@[go_sem] theorem T.bytes16 : HL.bytesT Try.prog 16 = some 8 := by kernel_rfl
@[go_sem] theorem T.zero16 : HL.zeroT Try.prog 16 = some (.pointer none) := by kernel_rfl
@[go_sem] theorem T.agg17 : HL.aggN Try.prog 17 = some none := by kernel_rfl
@[go_sem] theorem T.size17 : HL.sizeT Try.prog 17 = some 1 := by kernel_rfl
@[go_sem] theorem T.bytes17 : HL.bytesT Try.prog 17 = some 8 := by kernel_rfl
@[go_sem] theorem T.zero17 : HL.zeroT Try.prog 17 = some (.pointer none) := by kernel_rfl
@[go_sem] theorem T.agg18 : HL.aggN Try.prog 18 = some (some 1) := by kernel_rfl
@[go_sem] theorem T.size18 : HL.sizeT Try.prog 18 = some 1 := by kernel_rfl
@[go_sem] theorem T.bytes18 : HL.bytesT Try.prog 18 = some 8 := by kernel_rfl
@[go_sem] theorem T.zero18 : HL.zeroT Try.prog 18 = some (.agg #[.pointer none]) := by kernel_rfl
@[go_sem] theorem T.places18 : HL.placesT Try.prog 18 = some [(0, 1)] := by kernel_rfl
@[go_sem] theorem T.field18_0 : HL.fieldT Try.prog 18 0 = some (0, 17) := by kernel_rfl
@[go_sem] theorem T.fieldO18_0 : HL.fieldO Try.prog 18 0 = some 0 := by kernel_rfl
@[go_sem] theorem T.agg19 : HL.aggN Try.prog 19 = some (some 1) := by kernel_rfl
@[go_sem] theorem T.size19 : HL.sizeT Try.prog 19 = some 1 := by kernel_rfl
@[go_sem] theorem T.bytes19 : HL.bytesT Try.prog 19 = some 8 := by kernel_rfl
@[go_sem] theorem T.zero19 : HL.zeroT Try.prog 19 = some (.agg #[.pointer none]) := by kernel_rfl
@[go_sem] theorem T.places19 : HL.placesT Try.prog 19 = some [(0, 1)] := by kernel_rfl
@[go_sem] theorem T.field19_0 : HL.fieldT Try.prog 19 0 = some (0, 17) := by kernel_rfl
@[go_sem] theorem T.fieldO19_0 : HL.fieldO Try.prog 19 0 = some 0 := by kernel_rfl
@[go_sem] theorem T.agg20 : HL.aggN Try.prog 20 = some none := by kernel_rfl
@[go_sem] theorem T.size20 : HL.sizeT Try.prog 20 = some 1 := by kernel_rfl
@[go_sem] theorem T.bytes20 : HL.bytesT Try.prog 20 = some 16 := by kernel_rfl
@[go_sem] theorem T.zero20 : HL.zeroT Try.prog 20 = some (.nilIface) := by kernel_rfl
@[go_sem] theorem T.agg21 : HL.aggN Try.prog 21 = some none := by kernel_rfl
@[go_sem] theorem T.size21 : HL.sizeT Try.prog 21 = some 1 := by kernel_rfl
@[go_sem] theorem T.bytes21 : HL.bytesT Try.prog 21 = some 4 := by kernel_rfl
@[go_sem] theorem T.zero21 : HL.zeroT Try.prog 21 = some (.int .i32 0) := by kernel_rfl
@[go_sem] theorem T.agg22 : HL.aggN Try.prog 22 = some none := by kernel_rfl
@[go_sem] theorem T.size22 : HL.sizeT Try.prog 22 = some 1 := by kernel_rfl
@[go_sem] theorem T.bytes22 : HL.bytesT Try.prog 22 = some 24 := by kernel_rfl
@[go_sem] theorem T.zero22 : HL.zeroT Try.prog 22 = some (.slice none 0 0) := by kernel_rfl
@[go_sem] theorem T.elem22 : HL.elemT Try.prog 22 = some 61 := by kernel_rfl
@[go_sem] theorem T.elemS22 : HL.elemS Try.prog 22 = some 5 := by kernel_rfl
@[go_sem] theorem T.agg23 : HL.aggN Try.prog 23 = some none := by kernel_rfl
@[go_sem] theorem T.size23 : HL.sizeT Try.prog 23 = some 1 := by kernel_rfl
@[go_sem] theorem T.bytes23 : HL.bytesT Try.prog 23 = some 8 := by kernel_rfl
@[go_sem] theorem T.zero23 : HL.zeroT Try.prog 23 = some (.nilFunc) := by kernel_rfl
@[go_sem] theorem T.agg24 : HL.aggN Try.prog 24 = some none := by kernel_rfl
@[go_sem] theorem T.size24 : HL.sizeT Try.prog 24 = some 1 := by kernel_rfl
@[go_sem] theorem T.bytes24 : HL.bytesT Try.prog 24 = some 8 := by kernel_rfl
@[go_sem] theorem T.zero24 : HL.zeroT Try.prog 24 = some (.nilFunc) := by kernel_rfl
@[go_sem] theorem T.agg25 : HL.aggN Try.prog 25 = some none := by kernel_rfl
@[go_sem] theorem T.size25 : HL.sizeT Try.prog 25 = some 1 := by kernel_rfl
@[go_sem] theorem T.bytes25 : HL.bytesT Try.prog 25 = some 8 := by kernel_rfl
@[go_sem] theorem T.zero25 : HL.zeroT Try.prog 25 = some (.int .i64 0) := by kernel_rfl
@[go_sem] theorem T.agg26 : HL.aggN Try.prog 26 = some (some 2) := by kernel_rfl
@[go_sem] theorem T.size26 : HL.sizeT Try.prog 26 = some 2 := by kernel_rfl
@[go_sem] theorem T.bytes26 : HL.bytesT Try.prog 26 = some 16 := by kernel_rfl
@[go_sem] theorem T.zero26 : HL.zeroT Try.prog 26 = some (.agg #[.int .i64 0, .int .i64 0]) := by kernel_rfl
@[go_sem] theorem T.places26 : HL.placesT Try.prog 26 = some [(0, 1), (1, 1)] := by kernel_rfl
@[go_sem] theorem T.field26_0 : HL.fieldT Try.prog 26 0 = some (0, 25) := by kernel_rfl
@[go_sem] theorem T.fieldO26_0 : HL.fieldO Try.prog 26 0 = some 0 := by kernel_rfl
@[go_sem] theorem T.field26_1 : HL.fieldT Try.prog 26 1 = some (1, 3) := by kernel_rfl
@[go_sem] theorem T.fieldO26_1 : HL.fieldO Try.prog 26 1 = some 1 := by kernel_rfl
@[go_sem] theorem T.agg27 : HL.aggN Try.prog 27 = some (some 2) := by kernel_rfl
@[go_sem] theorem T.size27 : HL.sizeT Try.prog 27 = some 2 := by kernel_rfl
@[go_sem] theorem T.bytes27 : HL.bytesT Try.prog 27 = some 16 := by kernel_rfl
@[go_sem] theorem T.zero27 : HL.zeroT Try.prog 27 = some (.agg #[.int .i64 0, .int .i64 0]) := by kernel_rfl
@[go_sem] theorem T.places27 : HL.placesT Try.prog 27 = some [(0, 1), (1, 1)] := by kernel_rfl
@[go_sem] theorem T.field27_0 : HL.fieldT Try.prog 27 0 = some (0, 25) := by kernel_rfl
@[go_sem] theorem T.fieldO27_0 : HL.fieldO Try.prog 27 0 = some 0 := by kernel_rfl
@[go_sem] theorem T.field27_1 : HL.fieldT Try.prog 27 1 = some (1, 3) := by kernel_rfl
@[go_sem] theorem T.fieldO27_1 : HL.fieldO Try.prog 27 1 = some 1 := by kernel_rfl
@[go_sem] theorem T.agg28 : HL.aggN Try.prog 28 = some none := by kernel_rfl
@[go_sem] theorem T.size28 : HL.sizeT Try.prog 28 = some 1 := by kernel_rfl
@[go_sem] theorem T.bytes28 : HL.bytesT Try.prog 28 = some 8 := by kernel_rfl
@[go_sem] theorem T.zero28 : HL.zeroT Try.prog 28 = some (.nilFunc) := by kernel_rfl
@[go_sem] theorem T.agg29 : HL.aggN Try.prog 29 = some none := by kernel_rfl
@[go_sem] theorem T.size29 : HL.sizeT Try.prog 29 = some 1 := by kernel_rfl
@[go_sem] theorem T.bytes29 : HL.bytesT Try.prog 29 = some 24 := by kernel_rfl
@[go_sem] theorem T.zero29 : HL.zeroT Try.prog 29 = some (.slice none 0 0) := by kernel_rfl
@[go_sem] theorem T.elem29 : HL.elemT Try.prog 29 = some 9 := by kernel_rfl
@[go_sem] theorem T.elemS29 : HL.elemS Try.prog 29 = some 1 := by kernel_rfl
@[go_sem] theorem T.agg31 : HL.aggN Try.prog 31 = some none := by kernel_rfl
@[go_sem] theorem T.size31 : HL.sizeT Try.prog 31 = some 1 := by kernel_rfl
@[go_sem] theorem T.bytes31 : HL.bytesT Try.prog 31 = some 8 := by kernel_rfl
@[go_sem] theorem T.zero31 : HL.zeroT Try.prog 31 = some (.nilFunc) := by kernel_rfl
@[go_sem] theorem T.agg32 : HL.aggN Try.prog 32 = some none := by kernel_rfl
@[go_sem] theorem T.size32 : HL.sizeT Try.prog 32 = some 1 := by kernel_rfl
@[go_sem] theorem T.bytes32 : HL.bytesT Try.prog 32 = some 8 := by kernel_rfl
@[go_sem] theorem T.zero32 : HL.zeroT Try.prog 32 = some (.nilFunc) := by kernel_rfl
@[go_sem] theorem T.agg33 : HL.aggN Try.prog 33 = some none := by kernel_rfl
@[go_sem] theorem T.size33 : HL.sizeT Try.prog 33 = some 1 := by kernel_rfl
@[go_sem] theorem T.bytes33 : HL.bytesT Try.prog 33 = some 8 := by kernel_rfl
@[go_sem] theorem T.zero33 : HL.zeroT Try.prog 33 = some (.nilFunc) := by kernel_rfl
@[go_sem] theorem T.agg34 : HL.aggN Try.prog 34 = some none := by kernel_rfl
@[go_sem] theorem T.size34 : HL.sizeT Try.prog 34 = some 1 := by kernel_rfl
@[go_sem] theorem T.bytes34 : HL.bytesT Try.prog 34 = some 8 := by kernel_rfl
@[go_sem] theorem T.zero34 : HL.zeroT Try.prog 34 = some (.nilFunc) := by kernel_rfl
@[go_sem] theorem T.agg35 : HL.aggN Try.prog 35 = some (some 4) := by kernel_rfl
@[go_sem] theorem T.size35 : HL.sizeT Try.prog 35 = some 4 := by kernel_rfl
@[go_sem] theorem T.bytes35 : HL.bytesT Try.prog 35 = some 32 := by kernel_rfl
@[go_sem] theorem T.zero35 : HL.zeroT Try.prog 35 = some (.agg #[.int .i64 0, .int .i64 0, .int .i64 0, .int .i64 0]) := by kernel_rfl
@[go_sem] theorem T.places35 : HL.placesT Try.prog 35 = none := by kernel_rfl
@[go_sem] theorem T.arr35 : HL.arrT Try.prog 35 = some (4, 3) := by kernel_rfl
@[go_sem] theorem T.arrS35 : HL.arrS Try.prog 35 = some (4, 1) := by kernel_rfl
@[go_sem] theorem T.agg36 : HL.aggN Try.prog 36 = some none := by kernel_rfl
@[go_sem] theorem T.size36 : HL.sizeT Try.prog 36 = some 1 := by kernel_rfl
@[go_sem] theorem T.bytes36 : HL.bytesT Try.prog 36 = some 8 := by kernel_rfl
@[go_sem] theorem T.zero36 : HL.zeroT Try.prog 36 = some (.nilFunc) := by kernel_rfl
@[go_sem] theorem T.agg37 : HL.aggN Try.prog 37 = some none := by kernel_rfl
@[go_sem] theorem T.size37 : HL.sizeT Try.prog 37 = some 1 := by kernel_rfl
@[go_sem] theorem T.bytes37 : HL.bytesT Try.prog 37 = some 8 := by kernel_rfl
@[go_sem] theorem T.zero37 : HL.zeroT Try.prog 37 = some (.nilFunc) := by kernel_rfl
@[go_sem] theorem T.agg39 : HL.aggN Try.prog 39 = some none := by kernel_rfl
@[go_sem] theorem T.size39 : HL.sizeT Try.prog 39 = some 1 := by kernel_rfl
@[go_sem] theorem T.bytes39 : HL.bytesT Try.prog 39 = some 8 := by kernel_rfl
@[go_sem] theorem T.zero39 : HL.zeroT Try.prog 39 = some (.nilFunc) := by kernel_rfl
@[go_sem] theorem T.agg40 : HL.aggN Try.prog 40 = some none := by kernel_rfl
@[go_sem] theorem T.size40 : HL.sizeT Try.prog 40 = some 1 := by kernel_rfl
@[go_sem] theorem T.bytes40 : HL.bytesT Try.prog 40 = some 8 := by kernel_rfl
@[go_sem] theorem T.zero40 : HL.zeroT Try.prog 40 = some (.nilFunc) := by kernel_rfl
@[go_sem] theorem T.agg41 : HL.aggN Try.prog 41 = some none := by kernel_rfl
@[go_sem] theorem T.size41 : HL.sizeT Try.prog 41 = some 1 := by kernel_rfl
@[go_sem] theorem T.bytes41 : HL.bytesT Try.prog 41 = some 24 := by kernel_rfl
@[go_sem] theorem T.zero41 : HL.zeroT Try.prog 41 = some (.slice none 0 0) := by kernel_rfl
@[go_sem] theorem T.elem41 : HL.elemT Try.prog 41 = some 5 := by kernel_rfl
@[go_sem] theorem T.elemS41 : HL.elemS Try.prog 41 = some 1 := by kernel_rfl
@[go_sem] theorem T.agg42 : HL.aggN Try.prog 42 = some none := by kernel_rfl
@[go_sem] theorem T.size42 : HL.sizeT Try.prog 42 = some 1 := by kernel_rfl
@[go_sem] theorem T.bytes42 : HL.bytesT Try.prog 42 = some 8 := by kernel_rfl
@[go_sem] theorem T.zero42 : HL.zeroT Try.prog 42 = some (.nilFunc) := by kernel_rfl
@[go_sem] theorem T.agg43 : HL.aggN Try.prog 43 = some none := by kernel_rfl
@[go_sem] theorem T.size43 : HL.sizeT Try.prog 43 = some 1 := by kernel_rfl
@[go_sem] theorem T.bytes43 : HL.bytesT Try.prog 43 = some 8 := by kernel_rfl
@[go_sem] theorem T.zero43 : HL.zeroT Try.prog 43 = some (.nilFunc) := by kernel_rfl
@[go_sem] theorem T.agg44 : HL.aggN Try.prog 44 = some none := by kernel_rfl
@[go_sem] theorem T.size44 : HL.sizeT Try.prog 44 = some 1 := by kernel_rfl
@[go_sem] theorem T.bytes44 : HL.bytesT Try.prog 44 = some 24 := by kernel_rfl
@[go_sem] theorem T.zero44 : HL.zeroT Try.prog 44 = some (.slice none 0 0) := by kernel_rfl
@[go_sem] theorem T.elem44 : HL.elemT Try.prog 44 = some 121 := by kernel_rfl
@[go_sem] theorem T.elemS44 : HL.elemS Try.prog 44 = some 5 := by kernel_rfl
@[go_sem] theorem T.agg45 : HL.aggN Try.prog 45 = some none := by kernel_rfl
@[go_sem] theorem T.size45 : HL.sizeT Try.prog 45 = some 1 := by kernel_rfl
@[go_sem] theorem T.bytes45 : HL.bytesT Try.prog 45 = some 24 := by kernel_rfl
@[go_sem] theorem T.zero45 : HL.zeroT Try.prog 45 = some (.slice none 0 0) := by kernel_rfl
@[go_sem] theorem T.elem45 : HL.elemT Try.prog 45 = some 59 := by kernel_rfl
@[go_sem] theorem T.elemS45 : HL.elemS Try.prog 45 = some 3 := by kernel_rfl
@[go_sem] theorem T.agg46 : HL.aggN Try.prog 46 = some none := by kernel_rfl
@[go_sem] theorem T.size46 : HL.sizeT Try.prog 46 = some 1 := by kernel_rfl
@[go_sem] theorem T.bytes46 : HL.bytesT Try.prog 46 = some 24 := by kernel_rfl
@[go_sem] theorem T.zero46 : HL.zeroT Try.prog 46 = some (.slice none 0 0) := by kernel_rfl
@[go_sem] theorem T.elem46 : HL.elemT Try.prog 46 = some 55 := by kernel_rfl
@[go_sem] theorem T.elemS46 : HL.elemS Try.prog 46 = some 8 := by kernel_rfl
@[go_sem] theorem T.agg47 : HL.aggN Try.prog 47 = some none := by kernel_rfl
@[go_sem] theorem T.size47 : HL.sizeT Try.prog 47 = some 1 := by kernel_rfl
@[go_sem] theorem T.bytes47 : HL.bytesT Try.prog 47 = some 24 := by kernel_rfl
@[go_sem] theorem T.zero47 : HL.zeroT Try.prog 47 = some (.slice none 0 0) := by kernel_rfl
@[go_sem] theorem T.elem47 : HL.elemT Try.prog 47 = some 3 := by kernel_rfl
@[go_sem] theorem T.elemS47 : HL.elemS Try.prog 47 = some 1 := by kernel_rfl
@[go_sem] theorem T.agg48 : HL.aggN Try.prog 48 = some (some 7) := by kernel_rfl
@[go_sem] theorem T.size48 : HL.sizeT Try.prog 48 = some 7 := by kernel_rfl
@[go_sem] theorem T.bytes48 : HL.bytesT Try.prog 48 = some 136 := by kernel_rfl
@[go_sem] theorem T.zero48 : HL.zeroT Try.prog 48 = some (.agg #[.slice none 0 0, .int .i64 0, .slice none 0 0, .slice none 0 0, .slice none 0 0, .slice none 0 0, .bool false]) := by kernel_rfl
@[go_sem] theorem T.places48 : HL.placesT Try.prog 48 = some [(0, 1), (1, 1), (2, 1), (3, 1), (4, 1), (5, 1), (6, 1)] := by kernel_rfl
@[go_sem] theorem T.field48_0 : HL.fieldT Try.prog 48 0 = some (0, 22) := by kernel_rfl
@[go_sem] theorem T.fieldO48_0 : HL.fieldO Try.prog 48 0 = some 0 := by kernel_rfl
@[go_sem] theorem T.field48_1 : HL.fieldT Try.prog 48 1 = some (1, 3) := by kernel_rfl
@[go_sem] theorem T.fieldO48_1 : HL.fieldO Try.prog 48 1 = some 1 := by kernel_rfl
@[go_sem] theorem T.field48_2 : HL.fieldT Try.prog 48 2 = some (2, 44) := by kernel_rfl
@[go_sem] theorem T.fieldO48_2 : HL.fieldO Try.prog 48 2 = some 2 := by kernel_rfl
@[go_sem] theorem T.field48_3 : HL.fieldT Try.prog 48 3 = some (3, 45) := by kernel_rfl
@[go_sem] theorem T.fieldO48_3 : HL.fieldO Try.prog 48 3 = some 3 := by kernel_rfl
@[go_sem] theorem T.field48_4 : HL.fieldT Try.prog 48 4 = some (4, 46) := by kernel_rfl
@[go_sem] theorem T.fieldO48_4 : HL.fieldO Try.prog 48 4 = some 4 := by kernel_rfl
@[go_sem] theorem T.field48_5 : HL.fieldT Try.prog 48 5 = some (5, 47) := by kernel_rfl
@[go_sem] theorem T.fieldO48_5 : HL.fieldO Try.prog 48 5 = some 5 := by kernel_rfl
@[go_sem] theorem T.field48_6 : HL.fieldT Try.prog 48 6 = some (6, 4) := by kernel_rfl
@[go_sem] theorem T.fieldO48_6 : HL.fieldO Try.prog 48 6 = some 6 := by kernel_rfl
@[go_sem] theorem T.agg49 : HL.aggN Try.prog 49 = some (some 7) := by kernel_rfl
@[go_sem] theorem T.size49 : HL.sizeT Try.prog 49 = some 7 := by kernel_rfl
@[go_sem] theorem T.bytes49 : HL.bytesT Try.prog 49 = some 136 := by kernel_rfl
@[go_sem] theorem T.zero49 : HL.zeroT Try.prog 49 = some (.agg #[.slice none 0 0, .int .i64 0, .slice none 0 0, .slice none 0 0, .slice none 0 0, .slice none 0 0, .bool false]) := by kernel_rfl
@[go_sem] theorem T.places49 : HL.placesT Try.prog 49 = some [(0, 1), (1, 1), (2, 1), (3, 1), (4, 1), (5, 1), (6, 1)] := by kernel_rfl
@[go_sem] theorem T.field49_0 : HL.fieldT Try.prog 49 0 = some (0, 22) := by kernel_rfl
@[go_sem] theorem T.fieldO49_0 : HL.fieldO Try.prog 49 0 = some 0 := by kernel_rfl
@[go_sem] theorem T.field49_1 : HL.fieldT Try.prog 49 1 = some (1, 3) := by kernel_rfl
@[go_sem] theorem T.fieldO49_1 : HL.fieldO Try.prog 49 1 = some 1 := by kernel_rfl
@[go_sem] theorem T.field49_2 : HL.fieldT Try.prog 49 2 = some (2, 44) := by kernel_rfl
@[go_sem] theorem T.fieldO49_2 : HL.fieldO Try.prog 49 2 = some 2 := by kernel_rfl
@[go_sem] theorem T.field49_3 : HL.fieldT Try.prog 49 3 = some (3, 45) := by kernel_rfl
@[go_sem] theorem T.fieldO49_3 : HL.fieldO Try.prog 49 3 = some 3 := by kernel_rfl
@[go_sem] theorem T.field49_4 : HL.fieldT Try.prog 49 4 = some (4, 46) := by kernel_rfl
@[go_sem] theorem T.fieldO49_4 : HL.fieldO Try.prog 49 4 = some 4 := by kernel_rfl
@[go_sem] theorem T.field49_5 : HL.fieldT Try.prog 49 5 = some (5, 47) := by kernel_rfl
@[go_sem] theorem T.fieldO49_5 : HL.fieldO Try.prog 49 5 = some 5 := by kernel_rfl
@[go_sem] theorem T.field49_6 : HL.fieldT Try.prog 49 6 = some (6, 4) := by kernel_rfl
@[go_sem] theorem T.fieldO49_6 : HL.fieldO Try.prog 49 6 = some 6 := by kernel_rfl
@[go_sem] theorem T.agg51 : HL.aggN Try.prog 51 = some none := by kernel_rfl
@[go_sem] theorem T.size51 : HL.sizeT Try.prog 51 = some 1 := by kernel_rfl
@[go_sem] theorem T.bytes51 : HL.bytesT Try.prog 51 = some 8 := by kernel_rfl
@[go_sem] theorem T.zero51 : HL.zeroT Try.prog 51 = some (.nilFunc) := by kernel_rfl
@[go_sem] theorem T.agg52 : HL.aggN Try.prog 52 = some none := by kernel_rfl
@[go_sem] theorem T.size52 : HL.sizeT Try.prog 52 = some 1 := by kernel_rfl
@[go_sem] theorem T.bytes52 : HL.bytesT Try.prog 52 = some 24 := by kernel_rfl
@[go_sem] theorem T.zero52 : HL.zeroT Try.prog 52 = some (.slice none 0 0) := by kernel_rfl
@[go_sem] theorem T.elem52 : HL.elemT Try.prog 52 = some 4 := by kernel_rfl
@[go_sem] theorem T.elemS52 : HL.elemS Try.prog 52 = some 1 := by kernel_rfl
@[go_sem] theorem T.agg53 : HL.aggN Try.prog 53 = some none := by kernel_rfl
@[go_sem] theorem T.size53 : HL.sizeT Try.prog 53 = some 1 := by kernel_rfl
@[go_sem] theorem T.bytes53 : HL.bytesT Try.prog 53 = some 24 := by kernel_rfl
@[go_sem] theorem T.zero53 : HL.zeroT Try.prog 53 = some (.slice none 0 0) := by kernel_rfl
@[go_sem] theorem T.elem53 : HL.elemT Try.prog 53 = some 57 := by kernel_rfl
@[go_sem] theorem T.elemS53 : HL.elemS Try.prog 53 = some 8 := by kernel_rfl
@[go_sem] theorem T.agg54 : HL.aggN Try.prog 54 = some (some 8) := by kernel_rfl
@[go_sem] theorem T.size54 : HL.sizeT Try.prog 54 = some 8 := by kernel_rfl
@[go_sem] theorem T.bytes54 : HL.bytesT Try.prog 54 = some 152 := by kernel_rfl
@[go_sem] theorem T.zero54 : HL.zeroT Try.prog 54 = some (.agg #[.string ⟨#[]⟩, .int .i64 0, .slice none 0 0, .int .i64 0, .slice none 0 0, .slice none 0 0, .slice none 0 0, .slice none 0 0]) := by kernel_rfl
@[go_sem] theorem T.places54 : HL.placesT Try.prog 54 = some [(0, 1), (1, 1), (2, 1), (3, 1), (4, 1), (5, 1), (6, 1), (7, 1)] := by kernel_rfl
@[go_sem] theorem T.field54_0 : HL.fieldT Try.prog 54 0 = some (0, 9) := by kernel_rfl
@[go_sem] theorem T.fieldO54_0 : HL.fieldO Try.prog 54 0 = some 0 := by kernel_rfl
@[go_sem] theorem T.field54_1 : HL.fieldT Try.prog 54 1 = some (1, 3) := by kernel_rfl
@[go_sem] theorem T.fieldO54_1 : HL.fieldO Try.prog 54 1 = some 1 := by kernel_rfl
@[go_sem] theorem T.field54_2 : HL.fieldT Try.prog 54 2 = some (2, 47) := by kernel_rfl
@[go_sem] theorem T.fieldO54_2 : HL.fieldO Try.prog 54 2 = some 2 := by kernel_rfl
@[go_sem] theorem T.field54_3 : HL.fieldT Try.prog 54 3 = some (3, 3) := by kernel_rfl
@[go_sem] theorem T.fieldO54_3 : HL.fieldO Try.prog 54 3 = some 3 := by kernel_rfl
@[go_sem] theorem T.field54_4 : HL.fieldT Try.prog 54 4 = some (4, 52) := by kernel_rfl
@[go_sem] theorem T.fieldO54_4 : HL.fieldO Try.prog 54 4 = some 4 := by kernel_rfl
@[go_sem] theorem T.field54_5 : HL.fieldT Try.prog 54 5 = some (5, 53) := by kernel_rfl
@[go_sem] theorem T.fieldO54_5 : HL.fieldO Try.prog 54 5 = some 5 := by kernel_rfl
@[go_sem] theorem T.field54_6 : HL.fieldT Try.prog 54 6 = some (6, 29) := by kernel_rfl
@[go_sem] theorem T.fieldO54_6 : HL.fieldO Try.prog 54 6 = some 6 := by kernel_rfl
@[go_sem] theorem T.field54_7 : HL.fieldT Try.prog 54 7 = some (7, 47) := by kernel_rfl
@[go_sem] theorem T.fieldO54_7 : HL.fieldO Try.prog 54 7 = some 7 := by kernel_rfl
@[go_sem] theorem T.agg55 : HL.aggN Try.prog 55 = some (some 8) := by kernel_rfl
@[go_sem] theorem T.size55 : HL.sizeT Try.prog 55 = some 8 := by kernel_rfl
@[go_sem] theorem T.bytes55 : HL.bytesT Try.prog 55 = some 152 := by kernel_rfl
@[go_sem] theorem T.zero55 : HL.zeroT Try.prog 55 = some (.agg #[.string ⟨#[]⟩, .int .i64 0, .slice none 0 0, .int .i64 0, .slice none 0 0, .slice none 0 0, .slice none 0 0, .slice none 0 0]) := by kernel_rfl
@[go_sem] theorem T.places55 : HL.placesT Try.prog 55 = some [(0, 1), (1, 1), (2, 1), (3, 1), (4, 1), (5, 1), (6, 1), (7, 1)] := by kernel_rfl
@[go_sem] theorem T.field55_0 : HL.fieldT Try.prog 55 0 = some (0, 9) := by kernel_rfl
@[go_sem] theorem T.fieldO55_0 : HL.fieldO Try.prog 55 0 = some 0 := by kernel_rfl
@[go_sem] theorem T.field55_1 : HL.fieldT Try.prog 55 1 = some (1, 3) := by kernel_rfl
@[go_sem] theorem T.fieldO55_1 : HL.fieldO Try.prog 55 1 = some 1 := by kernel_rfl
@[go_sem] theorem T.field55_2 : HL.fieldT Try.prog 55 2 = some (2, 47) := by kernel_rfl
@[go_sem] theorem T.fieldO55_2 : HL.fieldO Try.prog 55 2 = some 2 := by kernel_rfl
@[go_sem] theorem T.field55_3 : HL.fieldT Try.prog 55 3 = some (3, 3) := by kernel_rfl
@[go_sem] theorem T.fieldO55_3 : HL.fieldO Try.prog 55 3 = some 3 := by kernel_rfl
@[go_sem] theorem T.field55_4 : HL.fieldT Try.prog 55 4 = some (4, 52) := by kernel_rfl
@[go_sem] theorem T.fieldO55_4 : HL.fieldO Try.prog 55 4 = some 4 := by kernel_rfl
@[go_sem] theorem T.field55_5 : HL.fieldT Try.prog 55 5 = some (5, 53) := by kernel_rfl
@[go_sem] theorem T.fieldO55_5 : HL.fieldO Try.prog 55 5 = some 5 := by kernel_rfl
@[go_sem] theorem T.field55_6 : HL.fieldT Try.prog 55 6 = some (6, 29) := by kernel_rfl
@[go_sem] theorem T.fieldO55_6 : HL.fieldO Try.prog 55 6 = some 6 := by kernel_rfl
@[go_sem] theorem T.field55_7 : HL.fieldT Try.prog 55 7 = some (7, 47) := by kernel_rfl
@[go_sem] theorem T.fieldO55_7 : HL.fieldO Try.prog 55 7 = some 7 := by kernel_rfl
@[go_sem] theorem T.agg56 : HL.aggN Try.prog 56 = some (some 8) := by kernel_rfl
@[go_sem] theorem T.size56 : HL.sizeT Try.prog 56 = some 8 := by kernel_rfl
@[go_sem] theorem T.bytes56 : HL.bytesT Try.prog 56 = some 64 := by kernel_rfl
@[go_sem] theorem T.zero56 : HL.zeroT Try.prog 56 = some (.agg #[.int .i64 0, .int .i64 0, .int .i64 0, .int .i64 0, .int .i64 0, .int .i64 0, .bool false, .int .i64 0]) := by kernel_rfl
@[go_sem] theorem T.places56 : HL.placesT Try.prog 56 = some [(0, 1), (1, 1), (2, 1), (3, 1), (4, 1), (5, 1), (6, 1), (7, 1)] := by kernel_rfl
@[go_sem] theorem T.field56_0 : HL.fieldT Try.prog 56 0 = some (0, 3) := by kernel_rfl
@[go_sem] theorem T.fieldO56_0 : HL.fieldO Try.prog 56 0 = some 0 := by kernel_rfl
@[go_sem] theorem T.field56_1 : HL.fieldT Try.prog 56 1 = some (1, 3) := by kernel_rfl
@[go_sem] theorem T.fieldO56_1 : HL.fieldO Try.prog 56 1 = some 1 := by kernel_rfl
@[go_sem] theorem T.field56_2 : HL.fieldT Try.prog 56 2 = some (2, 3) := by kernel_rfl
@[go_sem] theorem T.fieldO56_2 : HL.fieldO Try.prog 56 2 = some 2 := by kernel_rfl
@[go_sem] theorem T.field56_3 : HL.fieldT Try.prog 56 3 = some (3, 3) := by kernel_rfl
@[go_sem] theorem T.fieldO56_3 : HL.fieldO Try.prog 56 3 = some 3 := by kernel_rfl
@[go_sem] theorem T.field56_4 : HL.fieldT Try.prog 56 4 = some (4, 3) := by kernel_rfl
@[go_sem] theorem T.fieldO56_4 : HL.fieldO Try.prog 56 4 = some 4 := by kernel_rfl
@[go_sem] theorem T.field56_5 : HL.fieldT Try.prog 56 5 = some (5, 3) := by kernel_rfl
@[go_sem] theorem T.fieldO56_5 : HL.fieldO Try.prog 56 5 = some 5 := by kernel_rfl
@[go_sem] theorem T.field56_6 : HL.fieldT Try.prog 56 6 = some (6, 4) := by kernel_rfl
@[go_sem] theorem T.fieldO56_6 : HL.fieldO Try.prog 56 6 = some 6 := by kernel_rfl
@[go_sem] theorem T.field56_7 : HL.fieldT Try.prog 56 7 = some (7, 3) := by kernel_rfl
@[go_sem] theorem T.fieldO56_7 : HL.fieldO Try.prog 56 7 = some 7 := by kernel_rfl
@[go_sem] theorem T.agg57 : HL.aggN Try.prog 57 = some (some 8) := by kernel_rfl
@[go_sem] theorem T.size57 : HL.sizeT Try.prog 57 = some 8 := by kernel_rfl
@[go_sem] theorem T.bytes57 : HL.bytesT Try.prog 57 = some 64 := by kernel_rfl
@[go_sem] theorem T.zero57 : HL.zeroT Try.prog 57 = some (.agg #[.int .i64 0, .int .i64 0, .int .i64 0, .int .i64 0, .int .i64 0, .int .i64 0, .bool false, .int .i64 0]) := by kernel_rfl
@[go_sem] theorem T.places57 : HL.placesT Try.prog 57 = some [(0, 1), (1, 1), (2, 1), (3, 1), (4, 1), (5, 1), (6, 1), (7, 1)] := by kernel_rfl
@[go_sem] theorem T.field57_0 : HL.fieldT Try.prog 57 0 = some (0, 3) := by kernel_rfl
@[go_sem] theorem T.fieldO57_0 : HL.fieldO Try.prog 57 0 = some 0 := by kernel_rfl
@[go_sem] theorem T.field57_1 : HL.fieldT Try.prog 57 1 = some (1, 3) := by kernel_rfl
@[go_sem] theorem T.fieldO57_1 : HL.fieldO Try.prog 57 1 = some 1 := by kernel_rfl
@[go_sem] theorem T.field57_2 : HL.fieldT Try.prog 57 2 = some (2, 3) := by kernel_rfl
@[go_sem] theorem T.fieldO57_2 : HL.fieldO Try.prog 57 2 = some 2 := by kernel_rfl
@[go_sem] theorem T.field57_3 : HL.fieldT Try.prog 57 3 = some (3, 3) := by kernel_rfl
@[go_sem] theorem T.fieldO57_3 : HL.fieldO Try.prog 57 3 = some 3 := by kernel_rfl
@[go_sem] theorem T.field57_4 : HL.fieldT Try.prog 57 4 = some (4, 3) := by kernel_rfl
@[go_sem] theorem T.fieldO57_4 : HL.fieldO Try.prog 57 4 = some 4 := by kernel_rfl
@[go_sem] theorem T.field57_5 : HL.fieldT Try.prog 57 5 = some (5, 3) := by kernel_rfl
@[go_sem] theorem T.fieldO57_5 : HL.fieldO Try.prog 57 5 = some 5 := by kernel_rfl
@[go_sem] theorem T.field57_6 : HL.fieldT Try.prog 57 6 = some (6, 4) := by kernel_rfl
@[go_sem] theorem T.fieldO57_6 : HL.fieldO Try.prog 57 6 = some 6 := by kernel_rfl
@[go_sem] theorem T.field57_7 : HL.fieldT Try.prog 57 7 = some (7, 3) := by kernel_rfl
@[go_sem] theorem T.fieldO57_7 : HL.fieldO Try.prog 57 7 = some 7 := by kernel_rfl
@[go_sem] theorem T.agg58 : HL.aggN Try.prog 58 = some (some 3) := by kernel_rfl
@[go_sem] theorem T.size58 : HL.sizeT Try.prog 58 = some 3 := by kernel_rfl
@[go_sem] theorem T.bytes58 : HL.bytesT Try.prog 58 = some 32 := by kernel_rfl
@[go_sem] theorem T.zero58 : HL.zeroT Try.prog 58 = some (.agg #[.string ⟨#[]⟩, .int .i64 0, .int .i64 0]) := by kernel_rfl
@[go_sem] theorem T.places58 : HL.placesT Try.prog 58 = some [(0, 1), (1, 1), (2, 1)] := by kernel_rfl
@[go_sem] theorem T.field58_0 : HL.fieldT Try.prog 58 0 = some (0, 9) := by kernel_rfl
@[go_sem] theorem T.fieldO58_0 : HL.fieldO Try.prog 58 0 = some 0 := by kernel_rfl
@[go_sem] theorem T.field58_1 : HL.fieldT Try.prog 58 1 = some (1, 3) := by kernel_rfl
@[go_sem] theorem T.fieldO58_1 : HL.fieldO Try.prog 58 1 = some 1 := by kernel_rfl
@[go_sem] theorem T.field58_2 : HL.fieldT Try.prog 58 2 = some (2, 3) := by kernel_rfl
@[go_sem] theorem T.fieldO58_2 : HL.fieldO Try.prog 58 2 = some 2 := by kernel_rfl
@[go_sem] theorem T.agg59 : HL.aggN Try.prog 59 = some (some 3) := by kernel_rfl
@[go_sem] theorem T.size59 : HL.sizeT Try.prog 59 = some 3 := by kernel_rfl
@[go_sem] theorem T.bytes59 : HL.bytesT Try.prog 59 = some 32 := by kernel_rfl
@[go_sem] theorem T.zero59 : HL.zeroT Try.prog 59 = some (.agg #[.string ⟨#[]⟩, .int .i64 0, .int .i64 0]) := by kernel_rfl
@[go_sem] theorem T.places59 : HL.placesT Try.prog 59 = some [(0, 1), (1, 1), (2, 1)] := by kernel_rfl
@[go_sem] theorem T.field59_0 : HL.fieldT Try.prog 59 0 = some (0, 9) := by kernel_rfl
@[go_sem] theorem T.fieldO59_0 : HL.fieldO Try.prog 59 0 = some 0 := by kernel_rfl
@[go_sem] theorem T.field59_1 : HL.fieldT Try.prog 59 1 = some (1, 3) := by kernel_rfl
@[go_sem] theorem T.fieldO59_1 : HL.fieldO Try.prog 59 1 = some 1 := by kernel_rfl
@[go_sem] theorem T.field59_2 : HL.fieldT Try.prog 59 2 = some (2, 3) := by kernel_rfl
@[go_sem] theorem T.fieldO59_2 : HL.fieldO Try.prog 59 2 = some 2 := by kernel_rfl
@[go_sem] theorem T.agg60 : HL.aggN Try.prog 60 = some (some 5) := by kernel_rfl
@[go_sem] theorem T.size60 : HL.sizeT Try.prog 60 = some 5 := by kernel_rfl
@[go_sem] theorem T.bytes60 : HL.bytesT Try.prog 60 = some 88 := by kernel_rfl
@[go_sem] theorem T.zero60 : HL.zeroT Try.prog 60 = some (.agg #[.int .i64 0, .slice none 0 0, .slice none 0 0, .slice none 0 0, .int .i64 0]) := by kernel_rfl
@[go_sem] theorem T.places60 : HL.placesT Try.prog 60 = some [(0, 1), (1, 1), (2, 1), (3, 1), (4, 1)] := by kernel_rfl
@[go_sem] theorem T.field60_0 : HL.fieldT Try.prog 60 0 = some (0, 3) := by kernel_rfl
@[go_sem] theorem T.fieldO60_0 : HL.fieldO Try.prog 60 0 = some 0 := by kernel_rfl
@[go_sem] theorem T.field60_1 : HL.fieldT Try.prog 60 1 = some (1, 29) := by kernel_rfl
@[go_sem] theorem T.fieldO60_1 : HL.fieldO Try.prog 60 1 = some 1 := by kernel_rfl
@[go_sem] theorem T.field60_2 : HL.fieldT Try.prog 60 2 = some (2, 47) := by kernel_rfl
@[go_sem] theorem T.fieldO60_2 : HL.fieldO Try.prog 60 2 = some 2 := by kernel_rfl
@[go_sem] theorem T.field60_3 : HL.fieldT Try.prog 60 3 = some (3, 47) := by kernel_rfl
@[go_sem] theorem T.fieldO60_3 : HL.fieldO Try.prog 60 3 = some 3 := by kernel_rfl
@[go_sem] theorem T.field60_4 : HL.fieldT Try.prog 60 4 = some (4, 3) := by kernel_rfl
@[go_sem] theorem T.fieldO60_4 : HL.fieldO Try.prog 60 4 = some 4 := by kernel_rfl
@[go_sem] theorem T.agg61 : HL.aggN Try.prog 61 = some (some 5) := by kernel_rfl
@[go_sem] theorem T.size61 : HL.sizeT Try.prog 61 = some 5 := by kernel_rfl
@[go_sem] theorem T.bytes61 : HL.bytesT Try.prog 61 = some 88 := by kernel_rfl
@[go_sem] theorem T.zero61 : HL.zeroT Try.prog 61 = some (.agg #[.int .i64 0, .slice none 0 0, .slice none 0 0, .slice none 0 0, .int .i64 0]) := by kernel_rfl
@[go_sem] theorem T.places61 : HL.placesT Try.prog 61 = some [(0, 1), (1, 1), (2, 1), (3, 1), (4, 1)] := by kernel_rfl
@[go_sem] theorem T.field61_0 : HL.fieldT Try.prog 61 0 = some (0, 3) := by kernel_rfl
@[go_sem] theorem T.fieldO61_0 : HL.fieldO Try.prog 61 0 = some 0 := by kernel_rfl
@[go_sem] theorem T.field61_1 : HL.fieldT Try.prog 61 1 = some (1, 29) := by kernel_rfl
@[go_sem] theorem T.fieldO61_1 : HL.fieldO Try.prog 61 1 = some 1 := by kernel_rfl
@[go_sem] theorem T.field61_2 : HL.fieldT Try.prog 61 2 = some (2, 47) := by kernel_rfl
@[go_sem] theorem T.fieldO61_2 : HL.fieldO Try.prog 61 2 = some 2 := by kernel_rfl
@[go_sem] theorem T.field61_3 : HL.fieldT Try.prog 61 3 = some (3, 47) := by kernel_rfl
@[go_sem] theorem T.fieldO61_3 : HL.fieldO Try.prog 61 3 = some 3 := by kernel_rfl
@[go_sem] theorem T.field61_4 : HL.fieldT Try.prog 61 4 = some (4, 3) := by kernel_rfl
@[go_sem] theorem T.fieldO61_4 : HL.fieldO Try.prog 61 4 = some 4 := by kernel_rfl
@[go_sem] theorem T.agg62 : HL.aggN Try.prog 62 = some none := by kernel_rfl
@[go_sem] theorem T.size62 : HL.sizeT Try.prog 62 = some 1 := by kernel_rfl
@[go_sem] theorem T.bytes62 : HL.bytesT Try.prog 62 = some 8 := by kernel_rfl
@[go_sem] theorem T.zero62 : HL.zeroT Try.prog 62 = some (.pointer none) := by kernel_rfl
@[go_sem] theorem T.agg63 : HL.aggN Try.prog 63 = some none := by kernel_rfl
@[go_sem] theorem T.size63 : HL.sizeT Try.prog 63 = some 1 := by kernel_rfl
@[go_sem] theorem T.bytes63 : HL.bytesT Try.prog 63 = some 8 := by kernel_rfl
@[go_sem] theorem T.zero63 : HL.zeroT Try.prog 63 = some (.nilFunc) := by kernel_rfl
@[go_sem] theorem T.agg64 : HL.aggN Try.prog 64 = some none := by kernel_rfl
@[go_sem] theorem T.size64 : HL.sizeT Try.prog 64 = some 1 := by kernel_rfl
@[go_sem] theorem T.bytes64 : HL.bytesT Try.prog 64 = some 8 := by kernel_rfl
@[go_sem] theorem T.zero64 : HL.zeroT Try.prog 64 = some (.nilFunc) := by kernel_rfl
@[go_sem] theorem T.agg65 : HL.aggN Try.prog 65 = some (some 2) := by kernel_rfl
@[go_sem] theorem T.size65 : HL.sizeT Try.prog 65 = some 2 := by kernel_rfl
@[go_sem] theorem T.bytes65 : HL.bytesT Try.prog 65 = some 32 := by kernel_rfl
@[go_sem] theorem T.zero65 : HL.zeroT Try.prog 65 = some (.agg #[.slice none 0 0, .nilFunc]) := by kernel_rfl
@[go_sem] theorem T.places65 : HL.placesT Try.prog 65 = some [(0, 1), (1, 1)] := by kernel_rfl
@[go_sem] theorem T.field65_0 : HL.fieldT Try.prog 65 0 = some (0, 22) := by kernel_rfl
@[go_sem] theorem T.fieldO65_0 : HL.fieldO Try.prog 65 0 = some 0 := by kernel_rfl
@[go_sem] theorem T.field65_1 : HL.fieldT Try.prog 65 1 = some (1, 64) := by kernel_rfl
@[go_sem] theorem T.fieldO65_1 : HL.fieldO Try.prog 65 1 = some 1 := by kernel_rfl
@[go_sem] theorem T.agg66 : HL.aggN Try.prog 66 = some (some 2) := by kernel_rfl
@[go_sem] theorem T.size66 : HL.sizeT Try.prog 66 = some 2 := by kernel_rfl
@[go_sem] theorem T.bytes66 : HL.bytesT Try.prog 66 = some 32 := by kernel_rfl
@[go_sem] theorem T.zero66 : HL.zeroT Try.prog 66 = some (.agg #[.slice none 0 0, .nilFunc]) := by kernel_rfl
@[go_sem] theorem T.places66 : HL.placesT Try.prog 66 = some [(0, 1), (1, 1)] := by kernel_rfl
@[go_sem] theorem T.field66_0 : HL.fieldT Try.prog 66 0 = some (0, 22) := by kernel_rfl
@[go_sem] theorem T.fieldO66_0 : HL.fieldO Try.prog 66 0 = some 0 := by kernel_rfl
@[go_sem] theorem T.field66_1 : HL.fieldT Try.prog 66 1 = some (1, 64) := by kernel_rfl
@[go_sem] theorem T.fieldO66_1 : HL.fieldO Try.prog 66 1 = some 1 := by kernel_rfl
@[go_sem] theorem T.agg68 : HL.aggN Try.prog 68 = some none := by kernel_rfl
@[go_sem] theorem T.size68 : HL.sizeT Try.prog 68 = some 1 := by kernel_rfl
@[go_sem] theorem T.bytes68 : HL.bytesT Try.prog 68 = some 8 := by kernel_rfl
@[go_sem] theorem T.zero68 : HL.zeroT Try.prog 68 = some (.nilFunc) := by kernel_rfl
@[go_sem] theorem T.agg69 : HL.aggN Try.prog 69 = some none := by kernel_rfl
@[go_sem] theorem T.size69 : HL.sizeT Try.prog 69 = some 1 := by kernel_rfl
@[go_sem] theorem T.bytes69 : HL.bytesT Try.prog 69 = some 8 := by kernel_rfl
@[go_sem] theorem T.zero69 : HL.zeroT Try.prog 69 = some (.nilFunc) := by kernel_rfl
@[go_sem] theorem T.agg70 : HL.aggN Try.prog 70 = some none := by kernel_rfl
@[go_sem] theorem T.size70 : HL.sizeT Try.prog 70 = some 1 := by kernel_rfl
@[go_sem] theorem T.bytes70 : HL.bytesT Try.prog 70 = some 8 := by kernel_rfl
@[go_sem] theorem T.zero70 : HL.zeroT Try.prog 70 = some (.nilFunc) := by kernel_rfl
@[go_sem] theorem T.agg71 : HL.aggN Try.prog 71 = some (some 5) := by kernel_rfl
@[go_sem] theorem T.size71 : HL.sizeT Try.prog 71 = some 5 := by kernel_rfl
@[go_sem] theorem T.bytes71 : HL.bytesT Try.prog 71 = some 104 := by kernel_rfl
@[go_sem] theorem T.zero71 : HL.zeroT Try.prog 71 = some (.agg #[.slice none 0 0, .slice none 0 0, .slice none 0 0, .slice none 0 0, .bool false]) := by kernel_rfl
@[go_sem] theorem T.places71 : HL.placesT Try.prog 71 = some [(0, 1), (1, 1), (2, 1), (3, 1), (4, 1)] := by kernel_rfl
@[go_sem] theorem T.field71_0 : HL.fieldT Try.prog 71 0 = some (0, 29) := by kernel_rfl
@[go_sem] theorem T.fieldO71_0 : HL.fieldO Try.prog 71 0 = some 0 := by kernel_rfl
@[go_sem] theorem T.field71_1 : HL.fieldT Try.prog 71 1 = some (1, 29) := by kernel_rfl
@[go_sem] theorem T.fieldO71_1 : HL.fieldO Try.prog 71 1 = some 1 := by kernel_rfl
@[go_sem] theorem T.field71_2 : HL.fieldT Try.prog 71 2 = some (2, 29) := by kernel_rfl
@[go_sem] theorem T.fieldO71_2 : HL.fieldO Try.prog 71 2 = some 2 := by kernel_rfl
@[go_sem] theorem T.field71_3 : HL.fieldT Try.prog 71 3 = some (3, 29) := by kernel_rfl
@[go_sem] theorem T.fieldO71_3 : HL.fieldO Try.prog 71 3 = some 3 := by kernel_rfl
@[go_sem] theorem T.field71_4 : HL.fieldT Try.prog 71 4 = some (4, 4) := by kernel_rfl
@[go_sem] theorem T.fieldO71_4 : HL.fieldO Try.prog 71 4 = some 4 := by kernel_rfl
@[go_sem] theorem T.agg72 : HL.aggN Try.prog 72 = some (some 5) := by kernel_rfl
@[go_sem] theorem T.size72 : HL.sizeT Try.prog 72 = some 5 := by kernel_rfl
@[go_sem] theorem T.bytes72 : HL.bytesT Try.prog 72 = some 104 := by kernel_rfl
@[go_sem] theorem T.zero72 : HL.zeroT Try.prog 72 = some (.agg #[.slice none 0 0, .slice none 0 0, .slice none 0 0, .slice none 0 0, .bool false]) := by kernel_rfl
@[go_sem] theorem T.places72 : HL.placesT Try.prog 72 = some [(0, 1), (1, 1), (2, 1), (3, 1), (4, 1)] := by kernel_rfl
@[go_sem] theorem T.field72_0 : HL.fieldT Try.prog 72 0 = some (0, 29) := by kernel_rfl
@[go_sem] theorem T.fieldO72_0 : HL.fieldO Try.prog 72 0 = some 0 := by kernel_rfl
@[go_sem] theorem T.field72_1 : HL.fieldT Try.prog 72 1 = some (1, 29) := by kernel_rfl
@[go_sem] theorem T.fieldO72_1 : HL.fieldO Try.prog 72 1 = some 1 := by kernel_rfl
@[go_sem] theorem T.field72_2 : HL.fieldT Try.prog 72 2 = some (2, 29) := by kernel_rfl
@[go_sem] theorem T.fieldO72_2 : HL.fieldO Try.prog 72 2 = some 2 := by kernel_rfl
@[go_sem] theorem T.field72_3 : HL.fieldT Try.prog 72 3 = some (3, 29) := by kernel_rfl
@[go_sem] theorem T.fieldO72_3 : HL.fieldO Try.prog 72 3 = some 3 := by kernel_rfl
@[go_sem] theorem T.field72_4 : HL.fieldT Try.prog 72 4 = some (4, 4) := by kernel_rfl
@[go_sem] theorem T.fieldO72_4 : HL.fieldO Try.prog 72 4 = some 4 := by kernel_rfl
@[go_sem] theorem T.agg73 : HL.aggN Try.prog 73 = some none := by kernel_rfl
@[go_sem] theorem T.size73 : HL.sizeT Try.prog 73 = some 1 := by kernel_rfl
@[go_sem] theorem T.bytes73 : HL.bytesT Try.prog 73 = some 8 := by kernel_rfl
@[go_sem] theorem T.zero73 : HL.zeroT Try.prog 73 = some (.nilFunc) := by kernel_rfl
@[go_sem] theorem T.agg74 : HL.aggN Try.prog 74 = some none := by kernel_rfl
@[go_sem] theorem T.size74 : HL.sizeT Try.prog 74 = some 1 := by kernel_rfl
@[go_sem] theorem T.bytes74 : HL.bytesT Try.prog 74 = some 8 := by kernel_rfl
@[go_sem] theorem T.zero74 : HL.zeroT Try.prog 74 = some (.nilFunc) := by kernel_rfl
@[go_sem] theorem T.agg75 : HL.aggN Try.prog 75 = some none := by kernel_rfl
@[go_sem] theorem T.size75 : HL.sizeT Try.prog 75 = some 1 := by kernel_rfl
@[go_sem] theorem T.bytes75 : HL.bytesT Try.prog 75 = some 16 := by kernel_rfl
@[go_sem] theorem T.zero75 : HL.zeroT Try.prog 75 = some (.nilIface) := by kernel_rfl
@[go_sem] theorem T.agg76 : HL.aggN Try.prog 76 = some none := by kernel_rfl
@[go_sem] theorem T.size76 : HL.sizeT Try.prog 76 = some 1 := by kernel_rfl
@[go_sem] theorem T.bytes76 : HL.bytesT Try.prog 76 = some 16 := by kernel_rfl
@[go_sem] theorem T.zero76 : HL.zeroT Try.prog 76 = some (.nilIface) := by kernel_rfl
@[go_sem] theorem T.agg77 : HL.aggN Try.prog 77 = some none := by kernel_rfl
@[go_sem] theorem T.size77 : HL.sizeT Try.prog 77 = some 1 := by kernel_rfl
@[go_sem] theorem T.bytes77 : HL.bytesT Try.prog 77 = some 8 := by kernel_rfl
@[go_sem] theorem T.zero77 : HL.zeroT Try.prog 77 = some (.nilFunc) := by kernel_rfl
@[go_sem] theorem T.agg78 : HL.aggN Try.prog 78 = some none := by kernel_rfl
@[go_sem] theorem T.size78 : HL.sizeT Try.prog 78 = some 1 := by kernel_rfl
@[go_sem] theorem T.bytes78 : HL.bytesT Try.prog 78 = some 24 := by kernel_rfl
@[go_sem] theorem T.zero78 : HL.zeroT Try.prog 78 = some (.slice none 0 0) := by kernel_rfl
@[go_sem] theorem T.elem78 : HL.elemT Try.prog 78 = some 114 := by kernel_rfl
@[go_sem] theorem T.elemS78 : HL.elemS Try.prog 78 = some 3 := by kernel_rfl
@[go_sem] theorem T.agg80 : HL.aggN Try.prog 80 = some none := by kernel_rfl
@[go_sem] theorem T.size80 : HL.sizeT Try.prog 80 = some 1 := by kernel_rfl
@[go_sem] theorem T.bytes80 : HL.bytesT Try.prog 80 = some 8 := by kernel_rfl
@[go_sem] theorem T.zero80 : HL.zeroT Try.prog 80 = some (.nilFunc) := by kernel_rfl
@[go_sem] theorem T.agg81 : HL.aggN Try.prog 81 = some none := by kernel_rfl
@[go_sem] theorem T.size81 : HL.sizeT Try.prog 81 = some 1 := by kernel_rfl
@[go_sem] theorem T.bytes81 : HL.bytesT Try.prog 81 = some 8 := by kernel_rfl
@[go_sem] theorem T.zero81 : HL.zeroT Try.prog 81 = some (.pointer none) := by kernel_rfl
@[go_sem] theorem T.agg82 : HL.aggN Try.prog 82 = some (some 5) := by kernel_rfl
@[go_sem] theorem T.size82 : HL.sizeT Try.prog 82 = some 5 := by kernel_rfl
@[go_sem] theorem T.bytes82 : HL.bytesT Try.prog 82 = some 56 := by kernel_rfl
@[go_sem] theorem T.zero82 : HL.zeroT Try.prog 82 = some (.agg #[.slice none 0 0, .int .i64 0, .int .i64 0, .int .i64 0, .int .i64 0]) := by kernel_rfl
@[go_sem] theorem T.places82 : HL.placesT Try.prog 82 = some [(0, 1), (1, 1), (2, 1), (3, 2)] := by kernel_rfl
@[go_sem] theorem T.field82_0 : HL.fieldT Try.prog 82 0 = some (0, 78) := by kernel_rfl
@[go_sem] theorem T.fieldO82_0 : HL.fieldO Try.prog 82 0 = some 0 := by kernel_rfl
@[go_sem] theorem T.field82_1 : HL.fieldT Try.prog 82 1 = some (1, 3) := by kernel_rfl
@[go_sem] theorem T.fieldO82_1 : HL.fieldO Try.prog 82 1 = some 1 := by kernel_rfl
@[go_sem] theorem T.field82_2 : HL.fieldT Try.prog 82 2 = some (2, 3) := by kernel_rfl
@[go_sem] theorem T.fieldO82_2 : HL.fieldO Try.prog 82 2 = some 2 := by kernel_rfl
@[go_sem] theorem T.field82_3 : HL.fieldT Try.prog 82 3 = some (3, 27) := by kernel_rfl
@[go_sem] theorem T.fieldO82_3 : HL.fieldO Try.prog 82 3 = some 3 := by kernel_rfl
@[go_sem] theorem T.agg83 : HL.aggN Try.prog 83 = some (some 5) := by kernel_rfl
@[go_sem] theorem T.size83 : HL.sizeT Try.prog 83 = some 5 := by kernel_rfl
@[go_sem] theorem T.bytes83 : HL.bytesT Try.prog 83 = some 56 := by kernel_rfl
@[go_sem] theorem T.zero83 : HL.zeroT Try.prog 83 = some (.agg #[.slice none 0 0, .int .i64 0, .int .i64 0, .int .i64 0, .int .i64 0]) := by kernel_rfl
@[go_sem] theorem T.places83 : HL.placesT Try.prog 83 = some [(0, 1), (1, 1), (2, 1), (3, 2)] := by kernel_rfl
@[go_sem] theorem T.field83_0 : HL.fieldT Try.prog 83 0 = some (0, 78) := by kernel_rfl
@[go_sem] theorem T.fieldO83_0 : HL.fieldO Try.prog 83 0 = some 0 := by kernel_rfl
@[go_sem] theorem T.field83_1 : HL.fieldT Try.prog 83 1 = some (1, 3) := by kernel_rfl
@[go_sem] theorem T.fieldO83_1 : HL.fieldO Try.prog 83 1 = some 1 := by kernel_rfl
@[go_sem] theorem T.field83_2 : HL.fieldT Try.prog 83 2 = some (2, 3) := by kernel_rfl
@[go_sem] theorem T.fieldO83_2 : HL.fieldO Try.prog 83 2 = some 2 := by kernel_rfl
@[go_sem] theorem T.field83_3 : HL.fieldT Try.prog 83 3 = some (3, 27) := by kernel_rfl
@[go_sem] theorem T.fieldO83_3 : HL.fieldO Try.prog 83 3 = some 3 := by kernel_rfl
@[go_sem] theorem T.agg84 : HL.aggN Try.prog 84 = some none := by kernel_rfl
@[go_sem] theorem T.size84 : HL.sizeT Try.prog 84 = some 1 := by kernel_rfl
@[go_sem] theorem T.bytes84 : HL.bytesT Try.prog 84 = some 24 := by kernel_rfl
@[go_sem] theorem T.zero84 : HL.zeroT Try.prog 84 = some (.slice none 0 0) := by kernel_rfl
@[go_sem] theorem T.elem84 : HL.elemT Try.prog 84 = some 86 := by kernel_rfl
@[go_sem] theorem T.elemS84 : HL.elemS Try.prog 84 = some 6 := by kernel_rfl
@[go_sem] theorem T.agg85 : HL.aggN Try.prog 85 = some (some 6) := by kernel_rfl
@[go_sem] theorem T.size85 : HL.sizeT Try.prog 85 = some 6 := by kernel_rfl
@[go_sem] theorem T.bytes85 : HL.bytesT Try.prog 85 = some 112 := by kernel_rfl
@[go_sem] theorem T.zero85 : HL.zeroT Try.prog 85 = some (.agg #[.int .i64 0, .slice none 0 0, .slice none 0 0, .slice none 0 0, .int .i64 0, .slice none 0 0]) := by kernel_rfl
@[go_sem] theorem T.places85 : HL.placesT Try.prog 85 = some [(0, 5), (5, 1)] := by kernel_rfl
@[go_sem] theorem T.field85_0 : HL.fieldT Try.prog 85 0 = some (0, 61) := by kernel_rfl
@[go_sem] theorem T.fieldO85_0 : HL.fieldO Try.prog 85 0 = some 0 := by kernel_rfl
@[go_sem] theorem T.field85_1 : HL.fieldT Try.prog 85 1 = some (5, 84) := by kernel_rfl
@[go_sem] theorem T.fieldO85_1 : HL.fieldO Try.prog 85 1 = some 5 := by kernel_rfl
@[go_sem] theorem T.agg86 : HL.aggN Try.prog 86 = some (some 6) := by kernel_rfl
@[go_sem] theorem T.size86 : HL.sizeT Try.prog 86 = some 6 := by kernel_rfl
@[go_sem] theorem T.bytes86 : HL.bytesT Try.prog 86 = some 112 := by kernel_rfl
@[go_sem] theorem T.zero86 : HL.zeroT Try.prog 86 = some (.agg #[.int .i64 0, .slice none 0 0, .slice none 0 0, .slice none 0 0, .int .i64 0, .slice none 0 0]) := by kernel_rfl
@[go_sem] theorem T.places86 : HL.placesT Try.prog 86 = some [(0, 5), (5, 1)] := by kernel_rfl
@[go_sem] theorem T.field86_0 : HL.fieldT Try.prog 86 0 = some (0, 61) := by kernel_rfl
@[go_sem] theorem T.fieldO86_0 : HL.fieldO Try.prog 86 0 = some 0 := by kernel_rfl
@[go_sem] theorem T.field86_1 : HL.fieldT Try.prog 86 1 = some (5, 84) := by kernel_rfl
@[go_sem] theorem T.fieldO86_1 : HL.fieldO Try.prog 86 1 = some 5 := by kernel_rfl
@[go_sem] theorem T.agg87 : HL.aggN Try.prog 87 = some none := by kernel_rfl
@[go_sem] theorem T.size87 : HL.sizeT Try.prog 87 = some 1 := by kernel_rfl
@[go_sem] theorem T.bytes87 : HL.bytesT Try.prog 87 = some 8 := by kernel_rfl
@[go_sem] theorem T.zero87 : HL.zeroT Try.prog 87 = some (.nilFunc) := by kernel_rfl
@[go_sem] theorem T.agg88 : HL.aggN Try.prog 88 = some none := by kernel_rfl
@[go_sem] theorem T.size88 : HL.sizeT Try.prog 88 = some 1 := by kernel_rfl
@[go_sem] theorem T.bytes88 : HL.bytesT Try.prog 88 = some 8 := by kernel_rfl
@[go_sem] theorem T.zero88 : HL.zeroT Try.prog 88 = some (.nilFunc) := by kernel_rfl
@[go_sem] theorem T.agg89 : HL.aggN Try.prog 89 = some none := by kernel_rfl
@[go_sem] theorem T.size89 : HL.sizeT Try.prog 89 = some 1 := by kernel_rfl
@[go_sem] theorem T.bytes89 : HL.bytesT Try.prog 89 = some 8 := by kernel_rfl
@[go_sem] theorem T.zero89 : HL.zeroT Try.prog 89 = some (.nilFunc) := by kernel_rfl
@[go_sem] theorem T.agg90 : HL.aggN Try.prog 90 = some (some 4) := by kernel_rfl
@[go_sem] theorem T.size90 : HL.sizeT Try.prog 90 = some 4 := by kernel_rfl
@[go_sem] theorem T.bytes90 : HL.bytesT Try.prog 90 = some 48 := by kernel_rfl
@[go_sem] theorem T.zero90 : HL.zeroT Try.prog 90 = some (.agg #[.slice none 0 0, .int .i64 0, .int .i64 0, .int .i64 0]) := by kernel_rfl
@[go_sem] theorem T.places90 : HL.placesT Try.prog 90 = some [(0, 1), (1, 1), (2, 1), (3, 1)] := by kernel_rfl
@[go_sem] theorem T.field90_0 : HL.fieldT Try.prog 90 0 = some (0, 22) := by kernel_rfl
@[go_sem] theorem T.fieldO90_0 : HL.fieldO Try.prog 90 0 = some 0 := by kernel_rfl
@[go_sem] theorem T.field90_1 : HL.fieldT Try.prog 90 1 = some (1, 3) := by kernel_rfl
@[go_sem] theorem T.fieldO90_1 : HL.fieldO Try.prog 90 1 = some 1 := by kernel_rfl
@[go_sem] theorem T.field90_2 : HL.fieldT Try.prog 90 2 = some (2, 3) := by kernel_rfl
@[go_sem] theorem T.fieldO90_2 : HL.fieldO Try.prog 90 2 = some 2 := by kernel_rfl
@[go_sem] theorem T.field90_3 : HL.fieldT Try.prog 90 3 = some (3, 3) := by kernel_rfl
@[go_sem] theorem T.fieldO90_3 : HL.fieldO Try.prog 90 3 = some 3 := by kernel_rfl
@[go_sem] theorem T.agg91 : HL.aggN Try.prog 91 = some (some 4) := by kernel_rfl
@[go_sem] theorem T.size91 : HL.sizeT Try.prog 91 = some 4 := by kernel_rfl
@[go_sem] theorem T.bytes91 : HL.bytesT Try.prog 91 = some 48 := by kernel_rfl
@[go_sem] theorem T.zero91 : HL.zeroT Try.prog 91 = some (.agg #[.slice none 0 0, .int .i64 0, .int .i64 0, .int .i64 0]) := by kernel_rfl
@[go_sem] theorem T.places91 : HL.placesT Try.prog 91 = some [(0, 1), (1, 1), (2, 1), (3, 1)] := by kernel_rfl
@[go_sem] theorem T.field91_0 : HL.fieldT Try.prog 91 0 = some (0, 22) := by kernel_rfl
@[go_sem] theorem T.fieldO91_0 : HL.fieldO Try.prog 91 0 = some 0 := by kernel_rfl
@[go_sem] theorem T.field91_1 : HL.fieldT Try.prog 91 1 = some (1, 3) := by kernel_rfl
@[go_sem] theorem T.fieldO91_1 : HL.fieldO Try.prog 91 1 = some 1 := by kernel_rfl
@[go_sem] theorem T.field91_2 : HL.fieldT Try.prog 91 2 = some (2, 3) := by kernel_rfl
@[go_sem] theorem T.fieldO91_2 : HL.fieldO Try.prog 91 2 = some 2 := by kernel_rfl
@[go_sem] theorem T.field91_3 : HL.fieldT Try.prog 91 3 = some (3, 3) := by kernel_rfl
@[go_sem] theorem T.fieldO91_3 : HL.fieldO Try.prog 91 3 = some 3 := by kernel_rfl
@[go_sem] theorem T.agg92 : HL.aggN Try.prog 92 = some none := by kernel_rfl
@[go_sem] theorem T.size92 : HL.sizeT Try.prog 92 = some 1 := by kernel_rfl
@[go_sem] theorem T.bytes92 : HL.bytesT Try.prog 92 = some 8 := by kernel_rfl
@[go_sem] theorem T.zero92 : HL.zeroT Try.prog 92 = some (.nilFunc) := by kernel_rfl
@[go_sem] theorem T.agg93 : HL.aggN Try.prog 93 = some none := by kernel_rfl
@[go_sem] theorem T.size93 : HL.sizeT Try.prog 93 = some 1 := by kernel_rfl
@[go_sem] theorem T.bytes93 : HL.bytesT Try.prog 93 = some 8 := by kernel_rfl
@[go_sem] theorem T.zero93 : HL.zeroT Try.prog 93 = some (.nilFunc) := by kernel_rfl
@[go_sem] theorem T.agg94 : HL.aggN Try.prog 94 = some (some 7) := by kernel_rfl
@[go_sem] theorem T.size94 : HL.sizeT Try.prog 94 = some 7 := by kernel_rfl
@[go_sem] theorem T.bytes94 : HL.bytesT Try.prog 94 = some 136 := by kernel_rfl
@[go_sem] theorem T.zero94 : HL.zeroT Try.prog 94 = some (.agg #[.slice none 0 0, .int .i64 0, .slice none 0 0, .slice none 0 0, .slice none 0 0, .slice none 0 0, .bool false]) := by kernel_rfl
@[go_sem] theorem T.places94 : HL.placesT Try.prog 94 = some [(0, 7)] := by kernel_rfl
@[go_sem] theorem T.field94_0 : HL.fieldT Try.prog 94 0 = some (0, 49) := by kernel_rfl
@[go_sem] theorem T.fieldO94_0 : HL.fieldO Try.prog 94 0 = some 0 := by kernel_rfl
@[go_sem] theorem T.agg95 : HL.aggN Try.prog 95 = some (some 7) := by kernel_rfl
@[go_sem] theorem T.size95 : HL.sizeT Try.prog 95 = some 7 := by kernel_rfl
@[go_sem] theorem T.bytes95 : HL.bytesT Try.prog 95 = some 136 := by kernel_rfl
@[go_sem] theorem T.zero95 : HL.zeroT Try.prog 95 = some (.agg #[.slice none 0 0, .int .i64 0, .slice none 0 0, .slice none 0 0, .slice none 0 0, .slice none 0 0, .bool false]) := by kernel_rfl
@[go_sem] theorem T.places95 : HL.placesT Try.prog 95 = some [(0, 7)] := by kernel_rfl
@[go_sem] theorem T.field95_0 : HL.fieldT Try.prog 95 0 = some (0, 49) := by kernel_rfl
@[go_sem] theorem T.fieldO95_0 : HL.fieldO Try.prog 95 0 = some 0 := by kernel_rfl
@[go_sem] theorem T.agg96 : HL.aggN Try.prog 96 = some none := by kernel_rfl
@[go_sem] theorem T.size96 : HL.sizeT Try.prog 96 = some 1 := by kernel_rfl
@[go_sem] theorem T.bytes96 : HL.bytesT Try.prog 96 = some 8 := by kernel_rfl
@[go_sem] theorem T.zero96 : HL.zeroT Try.prog 96 = some (.nilFunc) := by kernel_rfl
@[go_sem] theorem T.agg97 : HL.aggN Try.prog 97 = some none := by kernel_rfl
@[go_sem] theorem T.size97 : HL.sizeT Try.prog 97 = some 1 := by kernel_rfl
@[go_sem] theorem T.bytes97 : HL.bytesT Try.prog 97 = some 8 := by kernel_rfl
@[go_sem] theorem T.zero97 : HL.zeroT Try.prog 97 = some (.nilFunc) := by kernel_rfl
@[go_sem] theorem T.agg98 : HL.aggN Try.prog 98 = some none := by kernel_rfl
@[go_sem] theorem T.size98 : HL.sizeT Try.prog 98 = some 1 := by kernel_rfl
@[go_sem] theorem T.bytes98 : HL.bytesT Try.prog 98 = some 8 := by kernel_rfl
@[go_sem] theorem T.zero98 : HL.zeroT Try.prog 98 = some (.nilFunc) := by kernel_rfl
@[go_sem] theorem T.agg99 : HL.aggN Try.prog 99 = some none := by kernel_rfl
@[go_sem] theorem T.size99 : HL.sizeT Try.prog 99 = some 1 := by kernel_rfl
@[go_sem] theorem T.bytes99 : HL.bytesT Try.prog 99 = some 8 := by kernel_rfl
@[go_sem] theorem T.zero99 : HL.zeroT Try.prog 99 = some (.nilFunc) := by kernel_rfl
@[go_sem] theorem T.agg100 : HL.aggN Try.prog 100 = some none := by kernel_rfl
@[go_sem] theorem T.size100 : HL.sizeT Try.prog 100 = some 1 := by kernel_rfl
@[go_sem] theorem T.bytes100 : HL.bytesT Try.prog 100 = some 8 := by kernel_rfl
@[go_sem] theorem T.zero100 : HL.zeroT Try.prog 100 = some (.nilFunc) := by kernel_rfl
@[go_sem] theorem T.agg101 : HL.aggN Try.prog 101 = some none := by kernel_rfl
@[go_sem] theorem T.size101 : HL.sizeT Try.prog 101 = some 1 := by kernel_rfl
@[go_sem] theorem T.bytes101 : HL.bytesT Try.prog 101 = some 8 := by kernel_rfl
@[go_sem] theorem T.zero101 : HL.zeroT Try.prog 101 = some (.nilFunc) := by kernel_rfl
@[go_sem] theorem T.agg102 : HL.aggN Try.prog 102 = some none := by kernel_rfl
@[go_sem] theorem T.size102 : HL.sizeT Try.prog 102 = some 1 := by kernel_rfl
@[go_sem] theorem T.bytes102 : HL.bytesT Try.prog 102 = some 8 := by kernel_rfl
@[go_sem] theorem T.zero102 : HL.zeroT Try.prog 102 = some (.nilFunc) := by kernel_rfl
@[go_sem] theorem T.agg103 : HL.aggN Try.prog 103 = some none := by kernel_rfl
@[go_sem] theorem T.size103 : HL.sizeT Try.prog 103 = some 1 := by kernel_rfl
@[go_sem] theorem T.bytes103 : HL.bytesT Try.prog 103 = some 8 := by kernel_rfl
@[go_sem] theorem T.zero103 : HL.zeroT Try.prog 103 = some (.nilFunc) := by kernel_rfl
@[go_sem] theorem T.agg104 : HL.aggN Try.prog 104 = some none := by kernel_rfl
@[go_sem] theorem T.size104 : HL.sizeT Try.prog 104 = some 1 := by kernel_rfl
@[go_sem] theorem T.bytes104 : HL.bytesT Try.prog 104 = some 24 := by kernel_rfl
@[go_sem] theorem T.zero104 : HL.zeroT Try.prog 104 = some (.slice none 0 0) := by kernel_rfl
@[go_sem] theorem T.elem104 : HL.elemT Try.prog 104 = some 29 := by kernel_rfl
@[go_sem] theorem T.elemS104 : HL.elemS Try.prog 104 = some 1 := by kernel_rfl
@[go_sem] theorem T.agg106 : HL.aggN Try.prog 106 = some none := by kernel_rfl
@[go_sem] theorem T.size106 : HL.sizeT Try.prog 106 = some 1 := by kernel_rfl
@[go_sem] theorem T.bytes106 : HL.bytesT Try.prog 106 = some 8 := by kernel_rfl
@[go_sem] theorem T.zero106 : HL.zeroT Try.prog 106 = some (.nilFunc) := by kernel_rfl
@[go_sem] theorem T.agg107 : HL.aggN Try.prog 107 = some none := by kernel_rfl
@[go_sem] theorem T.size107 : HL.sizeT Try.prog 107 = some 1 := by kernel_rfl
@[go_sem] theorem T.bytes107 : HL.bytesT Try.prog 107 = some 8 := by kernel_rfl
@[go_sem] theorem T.zero107 : HL.zeroT Try.prog 107 = some (.pointer none) := by kernel_rfl
@[go_sem] theorem T.agg108 : HL.aggN Try.prog 108 = some (some 3) := by kernel_rfl
@[go_sem] theorem T.size108 : HL.sizeT Try.prog 108 = some 3 := by kernel_rfl
@[go_sem] theorem T.bytes108 : HL.bytesT Try.prog 108 = some 32 := by kernel_rfl
@[go_sem] theorem T.zero108 : HL.zeroT Try.prog 108 = some (.agg #[.int .i64 0, .int .i64 0, .nilIface]) := by kernel_rfl
@[go_sem] theorem T.places108 : HL.placesT Try.prog 108 = some [(0, 1), (1, 1), (2, 1)] := by kernel_rfl
@[go_sem] theorem T.field108_0 : HL.fieldT Try.prog 108 0 = some (0, 3) := by kernel_rfl
@[go_sem] theorem T.fieldO108_0 : HL.fieldO Try.prog 108 0 = some 0 := by kernel_rfl
@[go_sem] theorem T.field108_1 : HL.fieldT Try.prog 108 1 = some (1, 3) := by kernel_rfl
@[go_sem] theorem T.fieldO108_1 : HL.fieldO Try.prog 108 1 = some 1 := by kernel_rfl
@[go_sem] theorem T.field108_2 : HL.fieldT Try.prog 108 2 = some (2, 76) := by kernel_rfl
@[go_sem] theorem T.fieldO108_2 : HL.fieldO Try.prog 108 2 = some 2 := by kernel_rfl
@[go_sem] theorem T.agg109 : HL.aggN Try.prog 109 = some (some 3) := by kernel_rfl
@[go_sem] theorem T.size109 : HL.sizeT Try.prog 109 = some 3 := by kernel_rfl
@[go_sem] theorem T.bytes109 : HL.bytesT Try.prog 109 = some 32 := by kernel_rfl
@[go_sem] theorem T.zero109 : HL.zeroT Try.prog 109 = some (.agg #[.int .i64 0, .int .i64 0, .nilIface]) := by kernel_rfl
@[go_sem] theorem T.places109 : HL.placesT Try.prog 109 = some [(0, 1), (1, 1), (2, 1)] := by kernel_rfl
@[go_sem] theorem T.field109_0 : HL.fieldT Try.prog 109 0 = some (0, 3) := by kernel_rfl
@[go_sem] theorem T.fieldO109_0 : HL.fieldO Try.prog 109 0 = some 0 := by kernel_rfl
@[go_sem] theorem T.field109_1 : HL.fieldT Try.prog 109 1 = some (1, 3) := by kernel_rfl
@[go_sem] theorem T.fieldO109_1 : HL.fieldO Try.prog 109 1 = some 1 := by kernel_rfl
@[go_sem] theorem T.field109_2 : HL.fieldT Try.prog 109 2 = some (2, 76) := by kernel_rfl
@[go_sem] theorem T.fieldO109_2 : HL.fieldO Try.prog 109 2 = some 2 := by kernel_rfl
@[go_sem] theorem T.agg110 : HL.aggN Try.prog 110 = some none := by kernel_rfl
@[go_sem] theorem T.size110 : HL.sizeT Try.prog 110 = some 1 := by kernel_rfl
@[go_sem] theorem T.bytes110 : HL.bytesT Try.prog 110 = some 8 := by kernel_rfl
@[go_sem] theorem T.zero110 : HL.zeroT Try.prog 110 = some (.nilFunc) := by kernel_rfl
@[go_sem] theorem T.agg111 : HL.aggN Try.prog 111 = some none := by kernel_rfl
@[go_sem] theorem T.size111 : HL.sizeT Try.prog 111 = some 1 := by kernel_rfl
@[go_sem] theorem T.bytes111 : HL.bytesT Try.prog 111 = some 8 := by kernel_rfl
@[go_sem] theorem T.zero111 : HL.zeroT Try.prog 111 = some (.nilFunc) := by kernel_rfl
@[go_sem] theorem T.agg112 : HL.aggN Try.prog 112 = some none := by kernel_rfl
@[go_sem] theorem T.size112 : HL.sizeT Try.prog 112 = some 1 := by kernel_rfl
@[go_sem] theorem T.bytes112 : HL.bytesT Try.prog 112 = some 8 := by kernel_rfl
@[go_sem] theorem T.zero112 : HL.zeroT Try.prog 112 = some (.nilFunc) := by kernel_rfl
@[go_sem] theorem T.agg113 : HL.aggN Try.prog 113 = some (some 3) := by kernel_rfl
@[go_sem] theorem T.size113 : HL.sizeT Try.prog 113 = some 3 := by kernel_rfl
@[go_sem] theorem T.bytes113 : HL.bytesT Try.prog 113 = some 32 := by kernel_rfl
@[go_sem] theorem T.zero113 : HL.zeroT Try.prog 113 = some (.agg #[.int .i64 0, .string ⟨#[]⟩, .int .i64 0]) := by kernel_rfl
@[go_sem] theorem T.places113 : HL.placesT Try.prog 113 = some [(0, 1), (1, 1), (2, 1)] := by kernel_rfl
@[go_sem] theorem T.field113_0 : HL.fieldT Try.prog 113 0 = some (0, 3) := by kernel_rfl
@[go_sem] theorem T.fieldO113_0 : HL.fieldO Try.prog 113 0 = some 0 := by kernel_rfl
@[go_sem] theorem T.field113_1 : HL.fieldT Try.prog 113 1 = some (1, 9) := by kernel_rfl
@[go_sem] theorem T.fieldO113_1 : HL.fieldO Try.prog 113 1 = some 1 := by kernel_rfl
@[go_sem] theorem T.field113_2 : HL.fieldT Try.prog 113 2 = some (2, 3) := by kernel_rfl
@[go_sem] theorem T.fieldO113_2 : HL.fieldO Try.prog 113 2 = some 2 := by kernel_rfl
@[go_sem] theorem T.agg114 : HL.aggN Try.prog 114 = some (some 3) := by kernel_rfl
@[go_sem] theorem T.size114 : HL.sizeT Try.prog 114 = some 3 := by kernel_rfl
@[go_sem] theorem T.bytes114 : HL.bytesT Try.prog 114 = some 32 := by kernel_rfl
@[go_sem] theorem T.zero114 : HL.zeroT Try.prog 114 = some (.agg #[.int .i64 0, .string ⟨#[]⟩, .int .i64 0]) := by kernel_rfl
@[go_sem] theorem T.places114 : HL.placesT Try.prog 114 = some [(0, 1), (1, 1), (2, 1)] := by kernel_rfl
@[go_sem] theorem T.field114_0 : HL.fieldT Try.prog 114 0 = some (0, 3) := by kernel_rfl
@[go_sem] theorem T.fieldO114_0 : HL.fieldO Try.prog 114 0 = some 0 := by kernel_rfl
@[go_sem] theorem T.field114_1 : HL.fieldT Try.prog 114 1 = some (1, 9) := by kernel_rfl
@[go_sem] theorem T.fieldO114_1 : HL.fieldO Try.prog 114 1 = some 1 := by kernel_rfl
@[go_sem] theorem T.field114_2 : HL.fieldT Try.prog 114 2 = some (2, 3) := by kernel_rfl
@[go_sem] theorem T.fieldO114_2 : HL.fieldO Try.prog 114 2 = some 2 := by kernel_rfl
@[go_sem] theorem T.agg115 : HL.aggN Try.prog 115 = some none := by kernel_rfl
@[go_sem] theorem T.size115 : HL.sizeT Try.prog 115 = some 1 := by kernel_rfl
@[go_sem] theorem T.bytes115 : HL.bytesT Try.prog 115 = some 8 := by kernel_rfl
@[go_sem] theorem T.zero115 : HL.zeroT Try.prog 115 = some (.nilFunc) := by kernel_rfl
@[go_sem] theorem T.agg116 : HL.aggN Try.prog 116 = some none := by kernel_rfl
@[go_sem] theorem T.size116 : HL.sizeT Try.prog 116 = some 1 := by kernel_rfl
@[go_sem] theorem T.bytes116 : HL.bytesT Try.prog 116 = some 8 := by kernel_rfl
@[go_sem] theorem T.zero116 : HL.zeroT Try.prog 116 = some (.nilFunc) := by kernel_rfl
@[go_sem] theorem T.agg117 : HL.aggN Try.prog 117 = some none := by kernel_rfl
@[go_sem] theorem T.size117 : HL.sizeT Try.prog 117 = some 1 := by kernel_rfl
@[go_sem] theorem T.bytes117 : HL.bytesT Try.prog 117 = some 8 := by kernel_rfl
@[go_sem] theorem T.zero117 : HL.zeroT Try.prog 117 = some (.pointer none) := by kernel_rfl
@[go_sem] theorem T.agg118 : HL.aggN Try.prog 118 = some none := by kernel_rfl
@[go_sem] theorem T.size118 : HL.sizeT Try.prog 118 = some 1 := by kernel_rfl
@[go_sem] theorem T.bytes118 : HL.bytesT Try.prog 118 = some 8 := by kernel_rfl
@[go_sem] theorem T.zero118 : HL.zeroT Try.prog 118 = some (.nilFunc) := by kernel_rfl
@[go_sem] theorem T.agg119 : HL.aggN Try.prog 119 = some none := by kernel_rfl
@[go_sem] theorem T.size119 : HL.sizeT Try.prog 119 = some 1 := by kernel_rfl
@[go_sem] theorem T.bytes119 : HL.bytesT Try.prog 119 = some 8 := by kernel_rfl
@[go_sem] theorem T.zero119 : HL.zeroT Try.prog 119 = some (.pointer none) := by kernel_rfl
@[go_sem] theorem T.agg120 : HL.aggN Try.prog 120 = some (some 5) := by kernel_rfl
@[go_sem] theorem T.size120 : HL.sizeT Try.prog 120 = some 5 := by kernel_rfl
@[go_sem] theorem T.bytes120 : HL.bytesT Try.prog 120 = some 40 := by kernel_rfl
@[go_sem] theorem T.zero120 : HL.zeroT Try.prog 120 = some (.agg #[.string ⟨#[]⟩, .int .i64 0, .int .i64 0, .bool false, .bool false]) := by kernel_rfl
@[go_sem] theorem T.places120 : HL.placesT Try.prog 120 = some [(0, 1), (1, 1), (2, 1), (3, 1), (4, 1)] := by kernel_rfl
@[go_sem] theorem T.field120_0 : HL.fieldT Try.prog 120 0 = some (0, 9) := by kernel_rfl
@[go_sem] theorem T.fieldO120_0 : HL.fieldO Try.prog 120 0 = some 0 := by kernel_rfl
@[go_sem] theorem T.field120_1 : HL.fieldT Try.prog 120 1 = some (1, 3) := by kernel_rfl
@[go_sem] theorem T.fieldO120_1 : HL.fieldO Try.prog 120 1 = some 1 := by kernel_rfl
@[go_sem] theorem T.field120_2 : HL.fieldT Try.prog 120 2 = some (2, 3) := by kernel_rfl
@[go_sem] theorem T.fieldO120_2 : HL.fieldO Try.prog 120 2 = some 2 := by kernel_rfl
@[go_sem] theorem T.field120_3 : HL.fieldT Try.prog 120 3 = some (3, 4) := by kernel_rfl
@[go_sem] theorem T.fieldO120_3 : HL.fieldO Try.prog 120 3 = some 3 := by kernel_rfl
@[go_sem] theorem T.field120_4 : HL.fieldT Try.prog 120 4 = some (4, 4) := by kernel_rfl
@[go_sem] theorem T.fieldO120_4 : HL.fieldO Try.prog 120 4 = some 4 := by kernel_rfl
@[go_sem] theorem T.agg121 : HL.aggN Try.prog 121 = some (some 5) := by kernel_rfl
@[go_sem] theorem T.size121 : HL.sizeT Try.prog 121 = some 5 := by kernel_rfl
@[go_sem] theorem T.bytes121 : HL.bytesT Try.prog 121 = some 40 := by kernel_rfl
@[go_sem] theorem T.zero121 : HL.zeroT Try.prog 121 = some (.agg #[.string ⟨#[]⟩, .int .i64 0, .int .i64 0, .bool false, .bool false]) := by kernel_rfl
@[go_sem] theorem T.places121 : HL.placesT Try.prog 121 = some [(0, 1), (1, 1), (2, 1), (3, 1), (4, 1)] := by kernel_rfl
@[go_sem] theorem T.field121_0 : HL.fieldT Try.prog 121 0 = some (0, 9) := by kernel_rfl
@[go_sem] theorem T.fieldO121_0 : HL.fieldO Try.prog 121 0 = some 0 := by kernel_rfl
@[go_sem] theorem T.field121_1 : HL.fieldT Try.prog 121 1 = some (1, 3) := by kernel_rfl
@[go_sem] theorem T.fieldO121_1 : HL.fieldO Try.prog 121 1 = some 1 := by kernel_rfl
@[go_sem] theorem T.field121_2 : HL.fieldT Try.prog 121 2 = some (2, 3) := by kernel_rfl
@[go_sem] theorem T.fieldO121_2 : HL.fieldO Try.prog 121 2 = some 2 := by kernel_rfl
@[go_sem] theorem T.field121_3 : HL.fieldT Try.prog 121 3 = some (3, 4) := by kernel_rfl
@[go_sem] theorem T.fieldO121_3 : HL.fieldO Try.prog 121 3 = some 3 := by kernel_rfl
@[go_sem] theorem T.field121_4 : HL.fieldT Try.prog 121 4 = some (4, 4) := by kernel_rfl
@[go_sem] theorem T.fieldO121_4 : HL.fieldO Try.prog 121 4 = some 4 := by kernel_rfl
@[go_sem] theorem T.agg122 : HL.aggN Try.prog 122 = some none := by kernel_rfl
@[go_sem] theorem T.size122 : HL.sizeT Try.prog 122 = some 1 := by kernel_rfl
@[go_sem] theorem T.bytes122 : HL.bytesT Try.prog 122 = some 8 := by kernel_rfl
@[go_sem] theorem T.zero122 : HL.zeroT Try.prog 122 = some (.nilFunc) := by kernel_rfl
@[go_sem] theorem T.agg123 : HL.aggN Try.prog 123 = some (some 10) := by kernel_rfl
@[go_sem] theorem T.size123 : HL.sizeT Try.prog 123 = some 10 := by kernel_rfl
@[go_sem] theorem T.bytes123 : HL.bytesT Try.prog 123 = some 200 := by kernel_rfl
@[go_sem] theorem T.zero123 : HL.zeroT Try.prog 123 = some (.agg #[.string ⟨#[]⟩, .int .i64 0, .slice none 0 0, .int .i64 0, .slice none 0 0, .slice none 0 0, .slice none 0 0, .slice none 0 0, .slice none 0 0, .slice none 0 0]) := by kernel_rfl
@[go_sem] theorem T.places123 : HL.placesT Try.prog 123 = some [(0, 8), (8, 1), (9, 1)] := by kernel_rfl
@[go_sem] theorem T.field123_0 : HL.fieldT Try.prog 123 0 = some (0, 55) := by kernel_rfl
@[go_sem] theorem T.fieldO123_0 : HL.fieldO Try.prog 123 0 = some 0 := by kernel_rfl
@[go_sem] theorem T.field123_1 : HL.fieldT Try.prog 123 1 = some (8, 22) := by kernel_rfl
@[go_sem] theorem T.fieldO123_1 : HL.fieldO Try.prog 123 1 = some 8 := by kernel_rfl
@[go_sem] theorem T.field123_2 : HL.fieldT Try.prog 123 2 = some (9, 44) := by kernel_rfl
@[go_sem] theorem T.fieldO123_2 : HL.fieldO Try.prog 123 2 = some 9 := by kernel_rfl
@[go_sem] theorem T.agg124 : HL.aggN Try.prog 124 = some (some 10) := by kernel_rfl
@[go_sem] theorem T.size124 : HL.sizeT Try.prog 124 = some 10 := by kernel_rfl
@[go_sem] theorem T.bytes124 : HL.bytesT Try.prog 124 = some 200 := by kernel_rfl
@[go_sem] theorem T.zero124 : HL.zeroT Try.prog 124 = some (.agg #[.string ⟨#[]⟩, .int .i64 0, .slice none 0 0, .int .i64 0, .slice none 0 0, .slice none 0 0, .slice none 0 0, .slice none 0 0, .slice none 0 0, .slice none 0 0]) := by kernel_rfl
@[go_sem] theorem T.places124 : HL.placesT Try.prog 124 = some [(0, 8), (8, 1), (9, 1)] := by kernel_rfl
@[go_sem] theorem T.field124_0 : HL.fieldT Try.prog 124 0 = some (0, 55) := by kernel_rfl
@[go_sem] theorem T.fieldO124_0 : HL.fieldO Try.prog 124 0 = some 0 := by kernel_rfl
@[go_sem] theorem T.field124_1 : HL.fieldT Try.prog 124 1 = some (8, 22) := by kernel_rfl
@[go_sem] theorem T.fieldO124_1 : HL.fieldO Try.prog 124 1 = some 8 := by kernel_rfl
@[go_sem] theorem T.field124_2 : HL.fieldT Try.prog 124 2 = some (9, 44) := by kernel_rfl
@[go_sem] theorem T.fieldO124_2 : HL.fieldO Try.prog 124 2 = some 9 := by kernel_rfl
@[go_sem] theorem T.agg125 : HL.aggN Try.prog 125 = some none := by kernel_rfl
@[go_sem] theorem T.size125 : HL.sizeT Try.prog 125 = some 1 := by kernel_rfl
@[go_sem] theorem T.bytes125 : HL.bytesT Try.prog 125 = some 8 := by kernel_rfl
@[go_sem] theorem T.zero125 : HL.zeroT Try.prog 125 = some (.nilFunc) := by kernel_rfl
@[go_sem] theorem T.agg126 : HL.aggN Try.prog 126 = some none := by kernel_rfl
@[go_sem] theorem T.size126 : HL.sizeT Try.prog 126 = some 1 := by kernel_rfl
@[go_sem] theorem T.bytes126 : HL.bytesT Try.prog 126 = some 8 := by kernel_rfl
@[go_sem] theorem T.zero126 : HL.zeroT Try.prog 126 = some (.nilFunc) := by kernel_rfl
@[go_sem] theorem T.agg127 : HL.aggN Try.prog 127 = some none := by kernel_rfl
@[go_sem] theorem T.size127 : HL.sizeT Try.prog 127 = some 1 := by kernel_rfl
@[go_sem] theorem T.bytes127 : HL.bytesT Try.prog 127 = some 8 := by kernel_rfl
@[go_sem] theorem T.zero127 : HL.zeroT Try.prog 127 = some (.nilFunc) := by kernel_rfl
@[go_sem] theorem T.agg128 : HL.aggN Try.prog 128 = some none := by kernel_rfl
@[go_sem] theorem T.size128 : HL.sizeT Try.prog 128 = some 1 := by kernel_rfl
@[go_sem] theorem T.bytes128 : HL.bytesT Try.prog 128 = some 8 := by kernel_rfl
@[go_sem] theorem T.zero128 : HL.zeroT Try.prog 128 = some (.nilFunc) := by kernel_rfl
@[go_sem] theorem T.agg129 : HL.aggN Try.prog 129 = some none := by kernel_rfl
@[go_sem] theorem T.size129 : HL.sizeT Try.prog 129 = some 1 := by kernel_rfl
@[go_sem] theorem T.bytes129 : HL.bytesT Try.prog 129 = some 8 := by kernel_rfl
@[go_sem] theorem T.zero129 : HL.zeroT Try.prog 129 = some (.nilFunc) := by kernel_rfl
@[go_sem] theorem T.agg130 : HL.aggN Try.prog 130 = some none := by kernel_rfl
@[go_sem] theorem T.size130 : HL.sizeT Try.prog 130 = some 1 := by kernel_rfl
@[go_sem] theorem T.bytes130 : HL.bytesT Try.prog 130 = some 8 := by kernel_rfl
@[go_sem] theorem T.zero130 : HL.zeroT Try.prog 130 = some (.nilFunc) := by kernel_rfl
@[go_sem] theorem T.agg131 : HL.aggN Try.prog 131 = some none := by kernel_rfl
@[go_sem] theorem T.size131 : HL.sizeT Try.prog 131 = some 1 := by kernel_rfl
@[go_sem] theorem T.bytes131 : HL.bytesT Try.prog 131 = some 8 := by kernel_rfl
@[go_sem] theorem T.zero131 : HL.zeroT Try.prog 131 = some (.nilFunc) := by kernel_rfl
@[go_sem] theorem T.agg132 : HL.aggN Try.prog 132 = some none := by kernel_rfl
@[go_sem] theorem T.size132 : HL.sizeT Try.prog 132 = some 1 := by kernel_rfl
@[go_sem] theorem T.bytes132 : HL.bytesT Try.prog 132 = some 8 := by kernel_rfl
@[go_sem] theorem T.zero132 : HL.zeroT Try.prog 132 = some (.nilFunc) := by kernel_rfl
@[go_sem] theorem T.agg133 : HL.aggN Try.prog 133 = some none := by kernel_rfl
@[go_sem] theorem T.size133 : HL.sizeT Try.prog 133 = some 1 := by kernel_rfl
@[go_sem] theorem T.bytes133 : HL.bytesT Try.prog 133 = some 8 := by kernel_rfl
@[go_sem] theorem T.zero133 : HL.zeroT Try.prog 133 = some (.nilFunc) := by kernel_rfl
@[go_sem] theorem T.agg134 : HL.aggN Try.prog 134 = some none := by kernel_rfl
@[go_sem] theorem T.size134 : HL.sizeT Try.prog 134 = some 1 := by kernel_rfl
@[go_sem] theorem T.bytes134 : HL.bytesT Try.prog 134 = some 8 := by kernel_rfl
@[go_sem] theorem T.zero134 : HL.zeroT Try.prog 134 = some (.nilFunc) := by kernel_rfl
@[go_sem] theorem T.agg135 : HL.aggN Try.prog 135 = some none := by kernel_rfl
@[go_sem] theorem T.size135 : HL.sizeT Try.prog 135 = some 1 := by kernel_rfl
@[go_sem] theorem T.bytes135 : HL.bytesT Try.prog 135 = some 8 := by kernel_rfl
@[go_sem] theorem T.zero135 : HL.zeroT Try.prog 135 = some (.pointer none) := by kernel_rfl
@[go_sem] theorem T.agg136 : HL.aggN Try.prog 136 = some none := by kernel_rfl
@[go_sem] theorem T.size136 : HL.sizeT Try.prog 136 = some 1 := by kernel_rfl
@[go_sem] theorem T.bytes136 : HL.bytesT Try.prog 136 = some 8 := by kernel_rfl
@[go_sem] theorem T.zero136 : HL.zeroT Try.prog 136 = some (.pointer none) := by kernel_rfl
@[go_sem] theorem T.agg137 : HL.aggN Try.prog 137 = some none := by kernel_rfl
@[go_sem] theorem T.size137 : HL.sizeT Try.prog 137 = some 1 := by kernel_rfl
@[go_sem] theorem T.bytes137 : HL.bytesT Try.prog 137 = some 8 := by kernel_rfl
@[go_sem] theorem T.zero137 : HL.zeroT Try.prog 137 = some (.nilFunc) := by kernel_rfl
@[go_sem] theorem T.agg138 : HL.aggN Try.prog 138 = some (some 2) := by kernel_rfl
@[go_sem] theorem T.size138 : HL.sizeT Try.prog 138 = some 2 := by kernel_rfl
@[go_sem] theorem T.bytes138 : HL.bytesT Try.prog 138 = some 16 := by kernel_rfl
@[go_sem] theorem T.zero138 : HL.zeroT Try.prog 138 = some (.agg #[.int .i64 0, .int .i64 0]) := by kernel_rfl
@[go_sem] theorem T.places138 : HL.placesT Try.prog 138 = none := by kernel_rfl
@[go_sem] theorem T.arr138 : HL.arrT Try.prog 138 = some (2, 3) := by kernel_rfl
@[go_sem] theorem T.arrS138 : HL.arrS Try.prog 138 = some (2, 1) := by kernel_rfl
@[go_sem] theorem T.agg139 : HL.aggN Try.prog 139 = some none := by kernel_rfl
@[go_sem] theorem T.size139 : HL.sizeT Try.prog 139 = some 1 := by kernel_rfl
@[go_sem] theorem T.bytes139 : HL.bytesT Try.prog 139 = some 8 := by kernel_rfl
@[go_sem] theorem T.zero139 : HL.zeroT Try.prog 139 = some (.nilFunc) := by kernel_rfl
@[go_sem] theorem T.agg140 : HL.aggN Try.prog 140 = some none := by kernel_rfl
@[go_sem] theorem T.size140 : HL.sizeT Try.prog 140 = some 1 := by kernel_rfl
@[go_sem] theorem T.bytes140 : HL.bytesT Try.prog 140 = some 8 := by kernel_rfl
@[go_sem] theorem T.zero140 : HL.zeroT Try.prog 140 = some (.nilFunc) := by kernel_rfl
@[go_sem] theorem T.agg141 : HL.aggN Try.prog 141 = some none := by kernel_rfl
@[go_sem] theorem T.size141 : HL.sizeT Try.prog 141 = some 1 := by kernel_rfl
@[go_sem] theorem T.bytes141 : HL.bytesT Try.prog 141 = some 8 := by kernel_rfl
@[go_sem] theorem T.zero141 : HL.zeroT Try.prog 141 = some (.nilFunc) := by kernel_rfl
@[go_sem] theorem T.agg142 : HL.aggN Try.prog 142 = some none := by kernel_rfl
@[go_sem] theorem T.size142 : HL.sizeT Try.prog 142 = some 1 := by kernel_rfl
@[go_sem] theorem T.bytes142 : HL.bytesT Try.prog 142 = some 8 := by kernel_rfl
@[go_sem] theorem T.zero142 : HL.zeroT Try.prog 142 = some (.nilFunc) := by kernel_rfl
@[go_sem] theorem T.agg143 : HL.aggN Try.prog 143 = some none := by kernel_rfl
@[go_sem] theorem T.size143 : HL.sizeT Try.prog 143 = some 1 := by kernel_rfl
@[go_sem] theorem T.bytes143 : HL.bytesT Try.prog 143 = some 8 := by kernel_rfl
@[go_sem] theorem T.zero143 : HL.zeroT Try.prog 143 = some (.pointer none) := by kernel_rfl
@[go_sem] theorem T.agg144 : HL.aggN Try.prog 144 = some none := by kernel_rfl
@[go_sem] theorem T.size144 : HL.sizeT Try.prog 144 = some 1 := by kernel_rfl
@[go_sem] theorem T.bytes144 : HL.bytesT Try.prog 144 = some 8 := by kernel_rfl
@[go_sem] theorem T.zero144 : HL.zeroT Try.prog 144 = some (.nilFunc) := by kernel_rfl
@[go_sem] theorem T.agg145 : HL.aggN Try.prog 145 = some none := by kernel_rfl
@[go_sem] theorem T.size145 : HL.sizeT Try.prog 145 = some 1 := by kernel_rfl
@[go_sem] theorem T.bytes145 : HL.bytesT Try.prog 145 = some 8 := by kernel_rfl
@[go_sem] theorem T.zero145 : HL.zeroT Try.prog 145 = some (.nilFunc) := by kernel_rfl
@[go_sem] theorem T.agg146 : HL.aggN Try.prog 146 = some none := by kernel_rfl
@[go_sem] theorem T.size146 : HL.sizeT Try.prog 146 = some 1 := by kernel_rfl
@[go_sem] theorem T.bytes146 : HL.bytesT Try.prog 146 = some 8 := by kernel_rfl
@[go_sem] theorem T.zero146 : HL.zeroT Try.prog 146 = some (.nilFunc) := by kernel_rfl
@[go_sem] theorem T.agg147 : HL.aggN Try.prog 147 = some none := by kernel_rfl
@[go_sem] theorem T.size147 : HL.sizeT Try.prog 147 = some 1 := by kernel_rfl
@[go_sem] theorem T.bytes147 : HL.bytesT Try.prog 147 = some 8 := by kernel_rfl
@[go_sem] theorem T.zero147 : HL.zeroT Try.prog 147 = some (.nilFunc) := by kernel_rfl
@[go_sem] theorem T.agg148 : HL.aggN Try.prog 148 = some none := by kernel_rfl
@[go_sem] theorem T.size148 : HL.sizeT Try.prog 148 = some 1 := by kernel_rfl
@[go_sem] theorem T.bytes148 : HL.bytesT Try.prog 148 = some 8 := by kernel_rfl
@[go_sem] theorem T.zero148 : HL.zeroT Try.prog 148 = some (.nilFunc) := by kernel_rfl
@[go_sem] theorem T.agg149 : HL.aggN Try.prog 149 = some none := by kernel_rfl
@[go_sem] theorem T.size149 : HL.sizeT Try.prog 149 = some 1 := by kernel_rfl
@[go_sem] theorem T.bytes149 : HL.bytesT Try.prog 149 = some 8 := by kernel_rfl
@[go_sem] theorem T.zero149 : HL.zeroT Try.prog 149 = some (.nilFunc) := by kernel_rfl
@[go_sem] theorem T.agg150 : HL.aggN Try.prog 150 = some none := by kernel_rfl
@[go_sem] theorem T.size150 : HL.sizeT Try.prog 150 = some 1 := by kernel_rfl
@[go_sem] theorem T.bytes150 : HL.bytesT Try.prog 150 = some 8 := by kernel_rfl
@[go_sem] theorem T.zero150 : HL.zeroT Try.prog 150 = some (.nilFunc) := by kernel_rfl
@[go_sem] theorem T.agg151 : HL.aggN Try.prog 151 = some none := by kernel_rfl
@[go_sem] theorem T.size151 : HL.sizeT Try.prog 151 = some 1 := by kernel_rfl
@[go_sem] theorem T.bytes151 : HL.bytesT Try.prog 151 = some 8 := by kernel_rfl
@[go_sem] theorem T.zero151 : HL.zeroT Try.prog 151 = some (.nilFunc) := by kernel_rfl
@[go_sem] theorem T.agg152 : HL.aggN Try.prog 152 = some none := by kernel_rfl
@[go_sem] theorem T.size152 : HL.sizeT Try.prog 152 = some 1 := by kernel_rfl
@[go_sem] theorem T.bytes152 : HL.bytesT Try.prog 152 = some 24 := by kernel_rfl
@[go_sem] theorem T.zero152 : HL.zeroT Try.prog 152 = some (.slice none 0 0) := by kernel_rfl
@[go_sem] theorem T.elem152 : HL.elemT Try.prog 152 = some 138 := by kernel_rfl
@[go_sem] theorem T.elemS152 : HL.elemS Try.prog 152 = some 2 := by kernel_rfl
@[go_sem] theorem T.agg153 : HL.aggN Try.prog 153 = some none := by kernel_rfl
@[go_sem] theorem T.size153 : HL.sizeT Try.prog 153 = some 1 := by kernel_rfl
@[go_sem] theorem T.bytes153 : HL.bytesT Try.prog 153 = some 8 := by kernel_rfl
@[go_sem] theorem T.zero153 : HL.zeroT Try.prog 153 = some (.nilFunc) := by kernel_rfl
@[go_sem] theorem T.agg154 : HL.aggN Try.prog 154 = some none := by kernel_rfl
@[go_sem] theorem T.size154 : HL.sizeT Try.prog 154 = some 1 := by kernel_rfl
@[go_sem] theorem T.bytes154 : HL.bytesT Try.prog 154 = some 8 := by kernel_rfl
@[go_sem] theorem T.zero154 : HL.zeroT Try.prog 154 = some (.nilFunc) := by kernel_rfl
@[go_sem] theorem T.agg155 : HL.aggN Try.prog 155 = some none := by kernel_rfl
@[go_sem] theorem T.size155 : HL.sizeT Try.prog 155 = some 1 := by kernel_rfl
@[go_sem] theorem T.bytes155 : HL.bytesT Try.prog 155 = some 8 := by kernel_rfl
@[go_sem] theorem T.zero155 : HL.zeroT Try.prog 155 = some (.int .u64 0) := by kernel_rfl
@[go_sem] theorem T.agg156 : HL.aggN Try.prog 156 = some none := by kernel_rfl
@[go_sem] theorem T.size156 : HL.sizeT Try.prog 156 = some 1 := by kernel_rfl
@[go_sem] theorem T.bytes156 : HL.bytesT Try.prog 156 = some 4 := by kernel_rfl
@[go_sem] theorem T.zero156 : HL.zeroT Try.prog 156 = some (.int .u32 0) := by kernel_rfl
@[go_sem] theorem T.agg158 : HL.aggN Try.prog 158 = some none := by kernel_rfl
@[go_sem] theorem T.size158 : HL.sizeT Try.prog 158 = some 1 := by kernel_rfl
@[go_sem] theorem T.bytes158 : HL.bytesT Try.prog 158 = some 8 := by kernel_rfl
@[go_sem] theorem T.zero158 : HL.zeroT Try.prog 158 = some (.nilFunc) := by kernel_rfl
@[go_sem] theorem T.agg159 : HL.aggN Try.prog 159 = some (some 4) := by kernel_rfl
@[go_sem] theorem T.size159 : HL.sizeT Try.prog 159 = some 4 := by kernel_rfl
@[go_sem] theorem T.bytes159 : HL.bytesT Try.prog 159 = some 40 := by kernel_rfl
@[go_sem] theorem T.zero159 : HL.zeroT Try.prog 159 = some (.agg #[.pointer none, .pointer none, .pointer none, .string ⟨#[]⟩]) := by kernel_rfl
@[go_sem] theorem T.places159 : HL.placesT Try.prog 159 = some [(0, 1), (1, 1), (2, 1), (3, 1)] := by kernel_rfl
@[go_sem] theorem T.field159_0 : HL.fieldT Try.prog 159 0 = some (0, 17) := by kernel_rfl
@[go_sem] theorem T.fieldO159_0 : HL.fieldO Try.prog 159 0 = some 0 := by kernel_rfl
@[go_sem] theorem T.field159_1 : HL.fieldT Try.prog 159 1 = some (1, 17) := by kernel_rfl
@[go_sem] theorem T.fieldO159_1 : HL.fieldO Try.prog 159 1 = some 1 := by kernel_rfl
@[go_sem] theorem T.field159_2 : HL.fieldT Try.prog 159 2 = some (2, 17) := by kernel_rfl
@[go_sem] theorem T.fieldO159_2 : HL.fieldO Try.prog 159 2 = some 2 := by kernel_rfl
@[go_sem] theorem T.field159_3 : HL.fieldT Try.prog 159 3 = some (3, 9) := by kernel_rfl
@[go_sem] theorem T.fieldO159_3 : HL.fieldO Try.prog 159 3 = some 3 := by kernel_rfl
@[go_sem] theorem T.agg160 : HL.aggN Try.prog 160 = some (some 4) := by kernel_rfl
@[go_sem] theorem T.size160 : HL.sizeT Try.prog 160 = some 4 := by kernel_rfl
@[go_sem] theorem T.bytes160 : HL.bytesT Try.prog 160 = some 40 := by kernel_rfl
@[go_sem] theorem T.zero160 : HL.zeroT Try.prog 160 = some (.agg #[.pointer none, .pointer none, .pointer none, .string ⟨#[]⟩]) := by kernel_rfl
@[go_sem] theorem T.places160 : HL.placesT Try.prog 160 = some [(0, 1), (1, 1), (2, 1), (3, 1)] := by kernel_rfl
@[go_sem] theorem T.field160_0 : HL.fieldT Try.prog 160 0 = some (0, 17) := by kernel_rfl
@[go_sem] theorem T.fieldO160_0 : HL.fieldO Try.prog 160 0 = some 0 := by kernel_rfl
@[go_sem] theorem T.field160_1 : HL.fieldT Try.prog 160 1 = some (1, 17) := by kernel_rfl
@[go_sem] theorem T.fieldO160_1 : HL.fieldO Try.prog 160 1 = some 1 := by kernel_rfl
@[go_sem] theorem T.field160_2 : HL.fieldT Try.prog 160 2 = some (2, 17) := by kernel_rfl
@[go_sem] theorem T.fieldO160_2 : HL.fieldO Try.prog 160 2 = some 2 := by kernel_rfl
@[go_sem] theorem T.field160_3 : HL.fieldT Try.prog 160 3 = some (3, 9) := by kernel_rfl
@[go_sem] theorem T.fieldO160_3 : HL.fieldO Try.prog 160 3 = some 3 := by kernel_rfl
@[go_sem] theorem T.agg161 : HL.aggN Try.prog 161 = some (some 0) := by kernel_rfl
@[go_sem] theorem T.size161 : HL.sizeT Try.prog 161 = some 0 := by kernel_rfl
@[go_sem] theorem T.bytes161 : HL.bytesT Try.prog 161 = some 0 := by kernel_rfl
@[go_sem] theorem T.zero161 : HL.zeroT Try.prog 161 = some (.agg #[]) := by kernel_rfl
@[go_sem] theorem T.places161 : HL.placesT Try.prog 161 = none := by kernel_rfl
@[go_sem] theorem T.arr161 : HL.arrT Try.prog 161 = some (0, 16) := by kernel_rfl
@[go_sem] theorem T.arrS161 : HL.arrS Try.prog 161 = some (0, 1) := by kernel_rfl
@[go_sem] theorem T.agg162 : HL.aggN Try.prog 162 = some (some 0) := by kernel_rfl
@[go_sem] theorem T.size162 : HL.sizeT Try.prog 162 = some 0 := by kernel_rfl
@[go_sem] theorem T.bytes162 : HL.bytesT Try.prog 162 = some 0 := by kernel_rfl
@[go_sem] theorem T.zero162 : HL.zeroT Try.prog 162 = some (.agg #[]) := by kernel_rfl
@[go_sem] theorem T.places162 : HL.placesT Try.prog 162 = some [(0, 0)] := by kernel_rfl
@[go_sem] theorem T.field162_0 : HL.fieldT Try.prog 162 0 = some (0, 161) := by kernel_rfl
@[go_sem] theorem T.agg163 : HL.aggN Try.prog 163 = some (some 0) := by kernel_rfl
@[go_sem] theorem T.size163 : HL.sizeT Try.prog 163 = some 0 := by kernel_rfl
@[go_sem] theorem T.bytes163 : HL.bytesT Try.prog 163 = some 0 := by kernel_rfl
@[go_sem] theorem T.zero163 : HL.zeroT Try.prog 163 = some (.agg #[]) := by kernel_rfl
@[go_sem] theorem T.places163 : HL.placesT Try.prog 163 = some [(0, 0)] := by kernel_rfl
@[go_sem] theorem T.field163_0 : HL.fieldT Try.prog 163 0 = some (0, 161) := by kernel_rfl
@[go_sem] theorem T.agg164 : HL.aggN Try.prog 164 = some none := by kernel_rfl
@[go_sem] theorem T.size164 : HL.sizeT Try.prog 164 = some 1 := by kernel_rfl
@[go_sem] theorem T.bytes164 : HL.bytesT Try.prog 164 = some 1 := by kernel_rfl
@[go_sem] theorem T.zero164 : HL.zeroT Try.prog 164 = some (.int .u8 0) := by kernel_rfl
@[go_sem] theorem T.agg165 : HL.aggN Try.prog 165 = some none := by kernel_rfl
@[go_sem] theorem T.size165 : HL.sizeT Try.prog 165 = some 1 := by kernel_rfl
@[go_sem] theorem T.bytes165 : HL.bytesT Try.prog 165 = some 1 := by kernel_rfl
@[go_sem] theorem T.zero165 : HL.zeroT Try.prog 165 = some (.int .u8 0) := by kernel_rfl
@[go_sem] theorem T.agg166 : HL.aggN Try.prog 166 = some none := by kernel_rfl
@[go_sem] theorem T.size166 : HL.sizeT Try.prog 166 = some 1 := by kernel_rfl
@[go_sem] theorem T.bytes166 : HL.bytesT Try.prog 166 = some 8 := by kernel_rfl
@[go_sem] theorem T.zero166 : HL.zeroT Try.prog 166 = some (.nilFunc) := by kernel_rfl
@[go_sem] theorem T.agg167 : HL.aggN Try.prog 167 = some none := by kernel_rfl
@[go_sem] theorem T.size167 : HL.sizeT Try.prog 167 = some 1 := by kernel_rfl
@[go_sem] theorem T.bytes167 : HL.bytesT Try.prog 167 = some 8 := by kernel_rfl
@[go_sem] theorem T.zero167 : HL.zeroT Try.prog 167 = some (.pointer none) := by kernel_rfl
@[go_sem] theorem T.agg168 : HL.aggN Try.prog 168 = some none := by kernel_rfl
@[go_sem] theorem T.size168 : HL.sizeT Try.prog 168 = some 1 := by kernel_rfl
@[go_sem] theorem T.bytes168 : HL.bytesT Try.prog 168 = some 4 := by kernel_rfl
@[go_sem] theorem T.zero168 : HL.zeroT Try.prog 168 = some (.int .i32 0) := by kernel_rfl
@[go_sem] theorem T.agg169 : HL.aggN Try.prog 169 = some none := by kernel_rfl
@[go_sem] theorem T.size169 : HL.sizeT Try.prog 169 = some 1 := by kernel_rfl
@[go_sem] theorem T.bytes169 : HL.bytesT Try.prog 169 = some 4 := by kernel_rfl
@[go_sem] theorem T.zero169 : HL.zeroT Try.prog 169 = some (.int .i32 0) := by kernel_rfl
@[go_sem] theorem T.agg170 : HL.aggN Try.prog 170 = some (some 11) := by kernel_rfl
@[go_sem] theorem T.size170 : HL.sizeT Try.prog 170 = some 11 := by kernel_rfl
@[go_sem] theorem T.bytes170 : HL.bytesT Try.prog 170 = some 48 := by kernel_rfl
@[go_sem] theorem T.zero170 : HL.zeroT Try.prog 170 = some (.agg #[.int .u64 0, .int .u64 0, .int .u32 0, .int .u8 0, .int .u8 0, .int .u8 0, .int .u8 0, .nilFunc, .pointer none, .int .i32 0, .int .i32 0]) := by kernel_rfl
@[go_sem] theorem T.places170 : HL.placesT Try.prog 170 = some [(0, 1), (1, 1), (2, 1), (3, 1), (4, 1), (5, 1), (6, 1), (7, 1), (8, 1), (9, 1), (10, 1)] := by kernel_rfl
@[go_sem] theorem T.field170_0 : HL.fieldT Try.prog 170 0 = some (0, 12) := by kernel_rfl
@[go_sem] theorem T.fieldO170_0 : HL.fieldO Try.prog 170 0 = some 0 := by kernel_rfl
@[go_sem] theorem T.field170_1 : HL.fieldT Try.prog 170 1 = some (1, 12) := by kernel_rfl
@[go_sem] theorem T.fieldO170_1 : HL.fieldO Try.prog 170 1 = some 1 := by kernel_rfl
@[go_sem] theorem T.field170_2 : HL.fieldT Try.prog 170 2 = some (2, 156) := by kernel_rfl
@[go_sem] theorem T.fieldO170_2 : HL.fieldO Try.prog 170 2 = some 2 := by kernel_rfl
@[go_sem] theorem T.field170_3 : HL.fieldT Try.prog 170 3 = some (3, 164) := by kernel_rfl
@[go_sem] theorem T.fieldO170_3 : HL.fieldO Try.prog 170 3 = some 3 := by kernel_rfl
@[go_sem] theorem T.field170_4 : HL.fieldT Try.prog 170 4 = some (4, 5) := by kernel_rfl
@[go_sem] theorem T.fieldO170_4 : HL.fieldO Try.prog 170 4 = some 4 := by kernel_rfl
@[go_sem] theorem T.field170_5 : HL.fieldT Try.prog 170 5 = some (5, 5) := by kernel_rfl
@[go_sem] theorem T.fieldO170_5 : HL.fieldO Try.prog 170 5 = some 5 := by kernel_rfl
@[go_sem] theorem T.field170_6 : HL.fieldT Try.prog 170 6 = some (6, 165) := by kernel_rfl
@[go_sem] theorem T.fieldO170_6 : HL.fieldO Try.prog 170 6 = some 6 := by kernel_rfl
@[go_sem] theorem T.field170_7 : HL.fieldT Try.prog 170 7 = some (7, 166) := by kernel_rfl
@[go_sem] theorem T.fieldO170_7 : HL.fieldO Try.prog 170 7 = some 7 := by kernel_rfl
@[go_sem] theorem T.field170_8 : HL.fieldT Try.prog 170 8 = some (8, 167) := by kernel_rfl
@[go_sem] theorem T.fieldO170_8 : HL.fieldO Try.prog 170 8 = some 8 := by kernel_rfl
@[go_sem] theorem T.field170_9 : HL.fieldT Try.prog 170 9 = some (9, 168) := by kernel_rfl
@[go_sem] theorem T.fieldO170_9 : HL.fieldO Try.prog 170 9 = some 9 := by kernel_rfl
@[go_sem] theorem T.field170_10 : HL.fieldT Try.prog 170 10 = some (10, 169) := by kernel_rfl
@[go_sem] theorem T.fieldO170_10 : HL.fieldO Try.prog 170 10 = some 10 := by kernel_rfl
@[go_sem] theorem T.agg171 : HL.aggN Try.prog 171 = some (some 11) := by kernel_rfl
@[go_sem] theorem T.size171 : HL.sizeT Try.prog 171 = some 11 := by kernel_rfl
@[go_sem] theorem T.bytes171 : HL.bytesT Try.prog 171 = some 48 := by kernel_rfl
@[go_sem] theorem T.zero171 : HL.zeroT Try.prog 171 = some (.agg #[.int .u64 0, .int .u64 0, .int .u32 0, .int .u8 0, .int .u8 0, .int .u8 0, .int .u8 0, .nilFunc, .pointer none, .int .i32 0, .int .i32 0]) := by kernel_rfl
@[go_sem] theorem T.places171 : HL.placesT Try.prog 171 = some [(0, 1), (1, 1), (2, 1), (3, 1), (4, 1), (5, 1), (6, 1), (7, 1), (8, 1), (9, 1), (10, 1)] := by kernel_rfl
@[go_sem] theorem T.field171_0 : HL.fieldT Try.prog 171 0 = some (0, 12) := by kernel_rfl
@[go_sem] theorem T.fieldO171_0 : HL.fieldO Try.prog 171 0 = some 0 := by kernel_rfl
@[go_sem] theorem T.field171_1 : HL.fieldT Try.prog 171 1 = some (1, 12) := by kernel_rfl
@[go_sem] theorem T.fieldO171_1 : HL.fieldO Try.prog 171 1 = some 1 := by kernel_rfl
@[go_sem] theorem T.field171_2 : HL.fieldT Try.prog 171 2 = some (2, 156) := by kernel_rfl
@[go_sem] theorem T.fieldO171_2 : HL.fieldO Try.prog 171 2 = some 2 := by kernel_rfl
@[go_sem] theorem T.field171_3 : HL.fieldT Try.prog 171 3 = some (3, 164) := by kernel_rfl
@[go_sem] theorem T.fieldO171_3 : HL.fieldO Try.prog 171 3 = some 3 := by kernel_rfl
@[go_sem] theorem T.field171_4 : HL.fieldT Try.prog 171 4 = some (4, 5) := by kernel_rfl
@[go_sem] theorem T.fieldO171_4 : HL.fieldO Try.prog 171 4 = some 4 := by kernel_rfl
@[go_sem] theorem T.field171_5 : HL.fieldT Try.prog 171 5 = some (5, 5) := by kernel_rfl
@[go_sem] theorem T.fieldO171_5 : HL.fieldO Try.prog 171 5 = some 5 := by kernel_rfl
@[go_sem] theorem T.field171_6 : HL.fieldT Try.prog 171 6 = some (6, 165) := by kernel_rfl
@[go_sem] theorem T.fieldO171_6 : HL.fieldO Try.prog 171 6 = some 6 := by kernel_rfl
@[go_sem] theorem T.field171_7 : HL.fieldT Try.prog 171 7 = some (7, 166) := by kernel_rfl
@[go_sem] theorem T.fieldO171_7 : HL.fieldO Try.prog 171 7 = some 7 := by kernel_rfl
@[go_sem] theorem T.field171_8 : HL.fieldT Try.prog 171 8 = some (8, 167) := by kernel_rfl
@[go_sem] theorem T.fieldO171_8 : HL.fieldO Try.prog 171 8 = some 8 := by kernel_rfl
@[go_sem] theorem T.field171_9 : HL.fieldT Try.prog 171 9 = some (9, 168) := by kernel_rfl
@[go_sem] theorem T.fieldO171_9 : HL.fieldO Try.prog 171 9 = some 9 := by kernel_rfl
@[go_sem] theorem T.field171_10 : HL.fieldT Try.prog 171 10 = some (10, 169) := by kernel_rfl
@[go_sem] theorem T.fieldO171_10 : HL.fieldO Try.prog 171 10 = some 10 := by kernel_rfl
@[go_sem] theorem T.agg172 : HL.aggN Try.prog 172 = some none := by kernel_rfl
@[go_sem] theorem T.size172 : HL.sizeT Try.prog 172 = some 1 := by kernel_rfl
@[go_sem] theorem T.bytes172 : HL.bytesT Try.prog 172 = some 8 := by kernel_rfl
@[go_sem] theorem T.zero172 : HL.zeroT Try.prog 172 = some (.pointer none) := by kernel_rfl
theorem T.el22 : HL.ElT Try.prog 22 61 5 88 (.agg #[.int .i64 0, .slice none 0 0, .slice none 0 0, .slice none 0 0, .int .i64 0]) := ⟨T.elem22, T.size61, T.bytes61, T.zero61⟩
@[go_sem] theorem T.bs22_0 {H : HL.Heap} : HL.buildSliceV Try.prog H 22 0 [] = some (.slice (some ⟨H.size, 0, none⟩) 0 0, H.push (.cells #[] 61)) := HL.bs_zero T.elem22 T.size61 T.zero61
theorem T.el29 : HL.ElT Try.prog 29 9 1 16 (.string ⟨#[]⟩) := ⟨T.elem29, T.size9, T.bytes9, T.zero9⟩
@[go_sem] theorem T.bs29_1 {H : HL.Heap} {n0 : ByteArray} : HL.buildSliceV Try.prog H 29 1 [(0, .string n0)] = some (.slice (some ⟨H.size, 0, none⟩) 1 1, H.push (.cells #[.string n0] 9)) := HL.bs_one T.elem29 T.size9 T.zero9 rfl
@[go_sem] theorem T.bs29_2 {H : HL.Heap} {n0 : ByteArray} {n1 : ByteArray} : HL.buildSliceV Try.prog H 29 2 [(0, .string n0), (1, .string n1)] = some (.slice (some ⟨H.size, 0, none⟩) 2 2, H.push (.cells #[.string n0, .string n1] 9)) := HL.bs_two T.elem29 T.size9 T.zero9 rfl rfl
@[go_sem] theorem T.bs29_3 {H : HL.Heap} {n0 : ByteArray} {n1 : ByteArray} {n2 : ByteArray} : HL.buildSliceV Try.prog H 29 3 [(0, .string n0), (1, .string n1), (2, .string n2)] = some (.slice (some ⟨H.size, 0, none⟩) 3 3, H.push (.cells #[.string n0, .string n1, .string n2] 9)) := HL.bs_three T.elem29 T.size9 T.zero9 rfl rfl rfl
@[go_sem] theorem T.bs29_4 {H : HL.Heap} {n0 : ByteArray} {n1 : ByteArray} {n2 : ByteArray} {n3 : ByteArray} : HL.buildSliceV Try.prog H 29 4 [(0, .string n0), (1, .string n1), (2, .string n2), (3, .string n3)] = some (.slice (some ⟨H.size, 0, none⟩) 4 4, H.push (.cells #[.string n0, .string n1, .string n2, .string n3] 9)) := HL.bs_four T.elem29 T.size9 T.zero9 rfl rfl rfl rfl
@[go_sem] theorem T.bs29_0 {H : HL.Heap} : HL.buildSliceV Try.prog H 29 0 [] = some (.slice (some ⟨H.size, 0, none⟩) 0 0, H.push (.cells #[] 9)) := HL.bs_zero T.elem29 T.size9 T.zero9
theorem T.el41 : HL.ElT Try.prog 41 5 1 1 (.int .u8 0) := ⟨T.elem41, T.size5, T.bytes5, T.zero5⟩
@[go_sem] theorem T.bs41_1 {H : HL.Heap} {k0 : IntKind} {n0 : Int} : HL.buildSliceV Try.prog H 41 1 [(0, .int k0 n0)] = some (.slice (some ⟨H.size, 0, none⟩) 1 1, H.push (.cells #[.int k0 n0] 5)) := HL.bs_one T.elem41 T.size5 T.zero5 rfl
@[go_sem] theorem T.bs41_2 {H : HL.Heap} {k0 : IntKind} {n0 : Int} {k1 : IntKind} {n1 : Int} : HL.buildSliceV Try.prog H 41 2 [(0, .int k0 n0), (1, .int k1 n1)] = some (.slice (some ⟨H.size, 0, none⟩) 2 2, H.push (.cells #[.int k0 n0, .int k1 n1] 5)) := HL.bs_two T.elem41 T.size5 T.zero5 rfl rfl
@[go_sem] theorem T.bs41_3 {H : HL.Heap} {k0 : IntKind} {n0 : Int} {k1 : IntKind} {n1 : Int} {k2 : IntKind} {n2 : Int} : HL.buildSliceV Try.prog H 41 3 [(0, .int k0 n0), (1, .int k1 n1), (2, .int k2 n2)] = some (.slice (some ⟨H.size, 0, none⟩) 3 3, H.push (.cells #[.int k0 n0, .int k1 n1, .int k2 n2] 5)) := HL.bs_three T.elem41 T.size5 T.zero5 rfl rfl rfl
@[go_sem] theorem T.bs41_4 {H : HL.Heap} {k0 : IntKind} {n0 : Int} {k1 : IntKind} {n1 : Int} {k2 : IntKind} {n2 : Int} {k3 : IntKind} {n3 : Int} : HL.buildSliceV Try.prog H 41 4 [(0, .int k0 n0), (1, .int k1 n1), (2, .int k2 n2), (3, .int k3 n3)] = some (.slice (some ⟨H.size, 0, none⟩) 4 4, H.push (.cells #[.int k0 n0, .int k1 n1, .int k2 n2, .int k3 n3] 5)) := HL.bs_four T.elem41 T.size5 T.zero5 rfl rfl rfl rfl
@[go_sem] theorem T.bs41_0 {H : HL.Heap} : HL.buildSliceV Try.prog H 41 0 [] = some (.slice (some ⟨H.size, 0, none⟩) 0 0, H.push (.cells #[] 5)) := HL.bs_zero T.elem41 T.size5 T.zero5
theorem T.el44 : HL.ElT Try.prog 44 121 5 40 (.agg #[.string ⟨#[]⟩, .int .i64 0, .int .i64 0, .bool false, .bool false]) := ⟨T.elem44, T.size121, T.bytes121, T.zero121⟩
@[go_sem] theorem T.bs44_0 {H : HL.Heap} : HL.buildSliceV Try.prog H 44 0 [] = some (.slice (some ⟨H.size, 0, none⟩) 0 0, H.push (.cells #[] 121)) := HL.bs_zero T.elem44 T.size121 T.zero121
theorem T.el45 : HL.ElT Try.prog 45 59 3 32 (.agg #[.string ⟨#[]⟩, .int .i64 0, .int .i64 0]) := ⟨T.elem45, T.size59, T.bytes59, T.zero59⟩
@[go_sem] theorem T.bs45_0 {H : HL.Heap} : HL.buildSliceV Try.prog H 45 0 [] = some (.slice (some ⟨H.size, 0, none⟩) 0 0, H.push (.cells #[] 59)) := HL.bs_zero T.elem45 T.size59 T.zero59
theorem T.el46 : HL.ElT Try.prog 46 55 8 152 (.agg #[.string ⟨#[]⟩, .int .i64 0, .slice none 0 0, .int .i64 0, .slice none 0 0, .slice none 0 0, .slice none 0 0, .slice none 0 0]) := ⟨T.elem46, T.size55, T.bytes55, T.zero55⟩
@[go_sem] theorem T.bs46_0 {H : HL.Heap} : HL.buildSliceV Try.prog H 46 0 [] = some (.slice (some ⟨H.size, 0, none⟩) 0 0, H.push (.cells #[] 55)) := HL.bs_zero T.elem46 T.size55 T.zero55
theorem T.el47 : HL.ElT Try.prog 47 3 1 8 (.int .i64 0) := ⟨T.elem47, T.size3, T.bytes3, T.zero3⟩
@[go_sem] theorem T.bs47_1 {H : HL.Heap} {k0 : IntKind} {n0 : Int} : HL.buildSliceV Try.prog H 47 1 [(0, .int k0 n0)] = some (.slice (some ⟨H.size, 0, none⟩) 1 1, H.push (.cells #[.int k0 n0] 3)) := HL.bs_one T.elem47 T.size3 T.zero3 rfl
@[go_sem] theorem T.bs47_2 {H : HL.Heap} {k0 : IntKind} {n0 : Int} {k1 : IntKind} {n1 : Int} : HL.buildSliceV Try.prog H 47 2 [(0, .int k0 n0), (1, .int k1 n1)] = some (.slice (some ⟨H.size, 0, none⟩) 2 2, H.push (.cells #[.int k0 n0, .int k1 n1] 3)) := HL.bs_two T.elem47 T.size3 T.zero3 rfl rfl
@[go_sem] theorem T.bs47_3 {H : HL.Heap} {k0 : IntKind} {n0 : Int} {k1 : IntKind} {n1 : Int} {k2 : IntKind} {n2 : Int} : HL.buildSliceV Try.prog H 47 3 [(0, .int k0 n0), (1, .int k1 n1), (2, .int k2 n2)] = some (.slice (some ⟨H.size, 0, none⟩) 3 3, H.push (.cells #[.int k0 n0, .int k1 n1, .int k2 n2] 3)) := HL.bs_three T.elem47 T.size3 T.zero3 rfl rfl rfl
@[go_sem] theorem T.bs47_4 {H : HL.Heap} {k0 : IntKind} {n0 : Int} {k1 : IntKind} {n1 : Int} {k2 : IntKind} {n2 : Int} {k3 : IntKind} {n3 : Int} : HL.buildSliceV Try.prog H 47 4 [(0, .int k0 n0), (1, .int k1 n1), (2, .int k2 n2), (3, .int k3 n3)] = some (.slice (some ⟨H.size, 0, none⟩) 4 4, H.push (.cells #[.int k0 n0, .int k1 n1, .int k2 n2, .int k3 n3] 3)) := HL.bs_four T.elem47 T.size3 T.zero3 rfl rfl rfl rfl
@[go_sem] theorem T.bs47_0 {H : HL.Heap} : HL.buildSliceV Try.prog H 47 0 [] = some (.slice (some ⟨H.size, 0, none⟩) 0 0, H.push (.cells #[] 3)) := HL.bs_zero T.elem47 T.size3 T.zero3
theorem T.el52 : HL.ElT Try.prog 52 4 1 1 (.bool false) := ⟨T.elem52, T.size4, T.bytes4, T.zero4⟩
@[go_sem] theorem T.bs52_1 {H : HL.Heap} {n0 : Bool} : HL.buildSliceV Try.prog H 52 1 [(0, .bool n0)] = some (.slice (some ⟨H.size, 0, none⟩) 1 1, H.push (.cells #[.bool n0] 4)) := HL.bs_one T.elem52 T.size4 T.zero4 rfl
@[go_sem] theorem T.bs52_2 {H : HL.Heap} {n0 : Bool} {n1 : Bool} : HL.buildSliceV Try.prog H 52 2 [(0, .bool n0), (1, .bool n1)] = some (.slice (some ⟨H.size, 0, none⟩) 2 2, H.push (.cells #[.bool n0, .bool n1] 4)) := HL.bs_two T.elem52 T.size4 T.zero4 rfl rfl
@[go_sem] theorem T.bs52_3 {H : HL.Heap} {n0 : Bool} {n1 : Bool} {n2 : Bool} : HL.buildSliceV Try.prog H 52 3 [(0, .bool n0), (1, .bool n1), (2, .bool n2)] = some (.slice (some ⟨H.size, 0, none⟩) 3 3, H.push (.cells #[.bool n0, .bool n1, .bool n2] 4)) := HL.bs_three T.elem52 T.size4 T.zero4 rfl rfl rfl
@[go_sem] theorem T.bs52_4 {H : HL.Heap} {n0 : Bool} {n1 : Bool} {n2 : Bool} {n3 : Bool} : HL.buildSliceV Try.prog H 52 4 [(0, .bool n0), (1, .bool n1), (2, .bool n2), (3, .bool n3)] = some (.slice (some ⟨H.size, 0, none⟩) 4 4, H.push (.cells #[.bool n0, .bool n1, .bool n2, .bool n3] 4)) := HL.bs_four T.elem52 T.size4 T.zero4 rfl rfl rfl rfl
@[go_sem] theorem T.bs52_0 {H : HL.Heap} : HL.buildSliceV Try.prog H 52 0 [] = some (.slice (some ⟨H.size, 0, none⟩) 0 0, H.push (.cells #[] 4)) := HL.bs_zero T.elem52 T.size4 T.zero4
theorem T.el53 : HL.ElT Try.prog 53 57 8 64 (.agg #[.int .i64 0, .int .i64 0, .int .i64 0, .int .i64 0, .int .i64 0, .int .i64 0, .bool false, .int .i64 0]) := ⟨T.elem53, T.size57, T.bytes57, T.zero57⟩
@[go_sem] theorem T.bs53_0 {H : HL.Heap} : HL.buildSliceV Try.prog H 53 0 [] = some (.slice (some ⟨H.size, 0, none⟩) 0 0, H.push (.cells #[] 57)) := HL.bs_zero T.elem53 T.size57 T.zero57
theorem T.el78 : HL.ElT Try.prog 78 114 3 32 (.agg #[.int .i64 0, .string ⟨#[]⟩, .int .i64 0]) := ⟨T.elem78, T.size114, T.bytes114, T.zero114⟩
@[go_sem] theorem T.bs78_0 {H : HL.Heap} : HL.buildSliceV Try.prog H 78 0 [] = some (.slice (some ⟨H.size, 0, none⟩) 0 0, H.push (.cells #[] 114)) := HL.bs_zero T.elem78 T.size114 T.zero114
theorem T.el84 : HL.ElT Try.prog 84 86 6 112 (.agg #[.int .i64 0, .slice none 0 0, .slice none 0 0, .slice none 0 0, .int .i64 0, .slice none 0 0]) := ⟨T.elem84, T.size86, T.bytes86, T.zero86⟩
@[go_sem] theorem T.bs84_0 {H : HL.Heap} : HL.buildSliceV Try.prog H 84 0 [] = some (.slice (some ⟨H.size, 0, none⟩) 0 0, H.push (.cells #[] 86)) := HL.bs_zero T.elem84 T.size86 T.zero86
theorem T.el104 : HL.ElT Try.prog 104 29 1 24 (.slice none 0 0) := ⟨T.elem104, T.size29, T.bytes29, T.zero29⟩
@[go_sem] theorem T.bs104_1 {H : HL.Heap} {a0 : Option Addr} {l0 c0 : Nat} : HL.buildSliceV Try.prog H 104 1 [(0, .slice a0 l0 c0)] = some (.slice (some ⟨H.size, 0, none⟩) 1 1, H.push (.cells #[.slice a0 l0 c0] 29)) := HL.bs_one T.elem104 T.size29 T.zero29 rfl
@[go_sem] theorem T.bs104_2 {H : HL.Heap} {a0 : Option Addr} {l0 c0 : Nat} {a1 : Option Addr} {l1 c1 : Nat} : HL.buildSliceV Try.prog H 104 2 [(0, .slice a0 l0 c0), (1, .slice a1 l1 c1)] = some (.slice (some ⟨H.size, 0, none⟩) 2 2, H.push (.cells #[.slice a0 l0 c0, .slice a1 l1 c1] 29)) := HL.bs_two T.elem104 T.size29 T.zero29 rfl rfl
@[go_sem] theorem T.bs104_3 {H : HL.Heap} {a0 : Option Addr} {l0 c0 : Nat} {a1 : Option Addr} {l1 c1 : Nat} {a2 : Option Addr} {l2 c2 : Nat} : HL.buildSliceV Try.prog H 104 3 [(0, .slice a0 l0 c0), (1, .slice a1 l1 c1), (2, .slice a2 l2 c2)] = some (.slice (some ⟨H.size, 0, none⟩) 3 3, H.push (.cells #[.slice a0 l0 c0, .slice a1 l1 c1, .slice a2 l2 c2] 29)) := HL.bs_three T.elem104 T.size29 T.zero29 rfl rfl rfl
@[go_sem] theorem T.bs104_4 {H : HL.Heap} {a0 : Option Addr} {l0 c0 : Nat} {a1 : Option Addr} {l1 c1 : Nat} {a2 : Option Addr} {l2 c2 : Nat} {a3 : Option Addr} {l3 c3 : Nat} : HL.buildSliceV Try.prog H 104 4 [(0, .slice a0 l0 c0), (1, .slice a1 l1 c1), (2, .slice a2 l2 c2), (3, .slice a3 l3 c3)] = some (.slice (some ⟨H.size, 0, none⟩) 4 4, H.push (.cells #[.slice a0 l0 c0, .slice a1 l1 c1, .slice a2 l2 c2, .slice a3 l3 c3] 29)) := HL.bs_four T.elem104 T.size29 T.zero29 rfl rfl rfl rfl
@[go_sem] theorem T.bs104_0 {H : HL.Heap} : HL.buildSliceV Try.prog H 104 0 [] = some (.slice (some ⟨H.size, 0, none⟩) 0 0, H.push (.cells #[] 29)) := HL.bs_zero T.elem104 T.size29 T.zero29
theorem T.el152 : HL.ElT Try.prog 152 138 2 16 (.agg #[.int .i64 0, .int .i64 0]) := ⟨T.elem152, T.size138, T.bytes138, T.zero138⟩
@[go_sem] theorem T.bs152_0 {H : HL.Heap} : HL.buildSliceV Try.prog H 152 0 [] = some (.slice (some ⟨H.size, 0, none⟩) 0 0, H.push (.cells #[] 138)) := HL.bs_zero T.elem152 T.size138 T.zero138
@[go_sem] theorem T.pe15 {H : HL.Heap} {xo yo : Operand} {a : Addr} : HL.binV Try.prog (HL.full H) .eql 15 xo yo (.pointer (some a)) (.pointer none) = some (.bool false) := HL.bin_ptr_eql Try.underlying15
@[go_sem] theorem T.pn15 {H : HL.Heap} {xo yo : Operand} {a : Addr} : HL.binV Try.prog (HL.full H) .neq 15 xo yo (.pointer (some a)) (.pointer none) = some (.bool true) := HL.bin_ptr_neq Try.underlying15
@[go_sem] theorem T.ne15 {H : HL.Heap} {xo yo : Operand} : HL.binV Try.prog (HL.full H) .eql 15 xo yo (.pointer none) (.pointer none) = some (.bool true) := HL.bin_nil_eql Try.underlying15
@[go_sem] theorem T.nn15 {H : HL.Heap} {xo yo : Operand} : HL.binV Try.prog (HL.full H) .neq 15 xo yo (.pointer none) (.pointer none) = some (.bool false) := HL.bin_nil_neq Try.underlying15
@[go_sem] theorem T.pe16 {H : HL.Heap} {xo yo : Operand} {a : Addr} : HL.binV Try.prog (HL.full H) .eql 16 xo yo (.pointer (some a)) (.pointer none) = some (.bool false) := HL.bin_ptr_eql Try.underlying16
@[go_sem] theorem T.pn16 {H : HL.Heap} {xo yo : Operand} {a : Addr} : HL.binV Try.prog (HL.full H) .neq 16 xo yo (.pointer (some a)) (.pointer none) = some (.bool true) := HL.bin_ptr_neq Try.underlying16
@[go_sem] theorem T.ne16 {H : HL.Heap} {xo yo : Operand} : HL.binV Try.prog (HL.full H) .eql 16 xo yo (.pointer none) (.pointer none) = some (.bool true) := HL.bin_nil_eql Try.underlying16
@[go_sem] theorem T.nn16 {H : HL.Heap} {xo yo : Operand} : HL.binV Try.prog (HL.full H) .neq 16 xo yo (.pointer none) (.pointer none) = some (.bool false) := HL.bin_nil_neq Try.underlying16
@[go_sem] theorem T.pe17 {H : HL.Heap} {xo yo : Operand} {a : Addr} : HL.binV Try.prog (HL.full H) .eql 17 xo yo (.pointer (some a)) (.pointer none) = some (.bool false) := HL.bin_ptr_eql Try.underlying17
@[go_sem] theorem T.pn17 {H : HL.Heap} {xo yo : Operand} {a : Addr} : HL.binV Try.prog (HL.full H) .neq 17 xo yo (.pointer (some a)) (.pointer none) = some (.bool true) := HL.bin_ptr_neq Try.underlying17
@[go_sem] theorem T.ne17 {H : HL.Heap} {xo yo : Operand} : HL.binV Try.prog (HL.full H) .eql 17 xo yo (.pointer none) (.pointer none) = some (.bool true) := HL.bin_nil_eql Try.underlying17
@[go_sem] theorem T.nn17 {H : HL.Heap} {xo yo : Operand} : HL.binV Try.prog (HL.full H) .neq 17 xo yo (.pointer none) (.pointer none) = some (.bool false) := HL.bin_nil_neq Try.underlying17
@[go_sem] theorem T.pe62 {H : HL.Heap} {xo yo : Operand} {a : Addr} : HL.binV Try.prog (HL.full H) .eql 62 xo yo (.pointer (some a)) (.pointer none) = some (.bool false) := HL.bin_ptr_eql Try.underlying62
@[go_sem] theorem T.pn62 {H : HL.Heap} {xo yo : Operand} {a : Addr} : HL.binV Try.prog (HL.full H) .neq 62 xo yo (.pointer (some a)) (.pointer none) = some (.bool true) := HL.bin_ptr_neq Try.underlying62
@[go_sem] theorem T.ne62 {H : HL.Heap} {xo yo : Operand} : HL.binV Try.prog (HL.full H) .eql 62 xo yo (.pointer none) (.pointer none) = some (.bool true) := HL.bin_nil_eql Try.underlying62
@[go_sem] theorem T.nn62 {H : HL.Heap} {xo yo : Operand} : HL.binV Try.prog (HL.full H) .neq 62 xo yo (.pointer none) (.pointer none) = some (.bool false) := HL.bin_nil_neq Try.underlying62
@[go_sem] theorem T.pe81 {H : HL.Heap} {xo yo : Operand} {a : Addr} : HL.binV Try.prog (HL.full H) .eql 81 xo yo (.pointer (some a)) (.pointer none) = some (.bool false) := HL.bin_ptr_eql Try.underlying81
@[go_sem] theorem T.pn81 {H : HL.Heap} {xo yo : Operand} {a : Addr} : HL.binV Try.prog (HL.full H) .neq 81 xo yo (.pointer (some a)) (.pointer none) = some (.bool true) := HL.bin_ptr_neq Try.underlying81
@[go_sem] theorem T.ne81 {H : HL.Heap} {xo yo : Operand} : HL.binV Try.prog (HL.full H) .eql 81 xo yo (.pointer none) (.pointer none) = some (.bool true) := HL.bin_nil_eql Try.underlying81
@[go_sem] theorem T.nn81 {H : HL.Heap} {xo yo : Operand} : HL.binV Try.prog (HL.full H) .neq 81 xo yo (.pointer none) (.pointer none) = some (.bool false) := HL.bin_nil_neq Try.underlying81
@[go_sem] theorem T.pe107 {H : HL.Heap} {xo yo : Operand} {a : Addr} : HL.binV Try.prog (HL.full H) .eql 107 xo yo (.pointer (some a)) (.pointer none) = some (.bool false) := HL.bin_ptr_eql Try.underlying107
@[go_sem] theorem T.pn107 {H : HL.Heap} {xo yo : Operand} {a : Addr} : HL.binV Try.prog (HL.full H) .neq 107 xo yo (.pointer (some a)) (.pointer none) = some (.bool true) := HL.bin_ptr_neq Try.underlying107
@[go_sem] theorem T.ne107 {H : HL.Heap} {xo yo : Operand} : HL.binV Try.prog (HL.full H) .eql 107 xo yo (.pointer none) (.pointer none) = some (.bool true) := HL.bin_nil_eql Try.underlying107
@[go_sem] theorem T.nn107 {H : HL.Heap} {xo yo : Operand} : HL.binV Try.prog (HL.full H) .neq 107 xo yo (.pointer none) (.pointer none) = some (.bool false) := HL.bin_nil_neq Try.underlying107
@[go_sem] theorem T.pe117 {H : HL.Heap} {xo yo : Operand} {a : Addr} : HL.binV Try.prog (HL.full H) .eql 117 xo yo (.pointer (some a)) (.pointer none) = some (.bool false) := HL.bin_ptr_eql Try.underlying117
@[go_sem] theorem T.pn117 {H : HL.Heap} {xo yo : Operand} {a : Addr} : HL.binV Try.prog (HL.full H) .neq 117 xo yo (.pointer (some a)) (.pointer none) = some (.bool true) := HL.bin_ptr_neq Try.underlying117
@[go_sem] theorem T.ne117 {H : HL.Heap} {xo yo : Operand} : HL.binV Try.prog (HL.full H) .eql 117 xo yo (.pointer none) (.pointer none) = some (.bool true) := HL.bin_nil_eql Try.underlying117
@[go_sem] theorem T.nn117 {H : HL.Heap} {xo yo : Operand} : HL.binV Try.prog (HL.full H) .neq 117 xo yo (.pointer none) (.pointer none) = some (.bool false) := HL.bin_nil_neq Try.underlying117
@[go_sem] theorem T.pe119 {H : HL.Heap} {xo yo : Operand} {a : Addr} : HL.binV Try.prog (HL.full H) .eql 119 xo yo (.pointer (some a)) (.pointer none) = some (.bool false) := HL.bin_ptr_eql Try.underlying119
@[go_sem] theorem T.pn119 {H : HL.Heap} {xo yo : Operand} {a : Addr} : HL.binV Try.prog (HL.full H) .neq 119 xo yo (.pointer (some a)) (.pointer none) = some (.bool true) := HL.bin_ptr_neq Try.underlying119
@[go_sem] theorem T.ne119 {H : HL.Heap} {xo yo : Operand} : HL.binV Try.prog (HL.full H) .eql 119 xo yo (.pointer none) (.pointer none) = some (.bool true) := HL.bin_nil_eql Try.underlying119
@[go_sem] theorem T.nn119 {H : HL.Heap} {xo yo : Operand} : HL.binV Try.prog (HL.full H) .neq 119 xo yo (.pointer none) (.pointer none) = some (.bool false) := HL.bin_nil_neq Try.underlying119
@[go_sem] theorem T.pe135 {H : HL.Heap} {xo yo : Operand} {a : Addr} : HL.binV Try.prog (HL.full H) .eql 135 xo yo (.pointer (some a)) (.pointer none) = some (.bool false) := HL.bin_ptr_eql Try.underlying135
@[go_sem] theorem T.pn135 {H : HL.Heap} {xo yo : Operand} {a : Addr} : HL.binV Try.prog (HL.full H) .neq 135 xo yo (.pointer (some a)) (.pointer none) = some (.bool true) := HL.bin_ptr_neq Try.underlying135
@[go_sem] theorem T.ne135 {H : HL.Heap} {xo yo : Operand} : HL.binV Try.prog (HL.full H) .eql 135 xo yo (.pointer none) (.pointer none) = some (.bool true) := HL.bin_nil_eql Try.underlying135
@[go_sem] theorem T.nn135 {H : HL.Heap} {xo yo : Operand} : HL.binV Try.prog (HL.full H) .neq 135 xo yo (.pointer none) (.pointer none) = some (.bool false) := HL.bin_nil_neq Try.underlying135
@[go_sem] theorem T.pe136 {H : HL.Heap} {xo yo : Operand} {a : Addr} : HL.binV Try.prog (HL.full H) .eql 136 xo yo (.pointer (some a)) (.pointer none) = some (.bool false) := HL.bin_ptr_eql Try.underlying136
@[go_sem] theorem T.pn136 {H : HL.Heap} {xo yo : Operand} {a : Addr} : HL.binV Try.prog (HL.full H) .neq 136 xo yo (.pointer (some a)) (.pointer none) = some (.bool true) := HL.bin_ptr_neq Try.underlying136
@[go_sem] theorem T.ne136 {H : HL.Heap} {xo yo : Operand} : HL.binV Try.prog (HL.full H) .eql 136 xo yo (.pointer none) (.pointer none) = some (.bool true) := HL.bin_nil_eql Try.underlying136
@[go_sem] theorem T.nn136 {H : HL.Heap} {xo yo : Operand} : HL.binV Try.prog (HL.full H) .neq 136 xo yo (.pointer none) (.pointer none) = some (.bool false) := HL.bin_nil_neq Try.underlying136
@[go_sem] theorem T.pe143 {H : HL.Heap} {xo yo : Operand} {a : Addr} : HL.binV Try.prog (HL.full H) .eql 143 xo yo (.pointer (some a)) (.pointer none) = some (.bool false) := HL.bin_ptr_eql Try.underlying143
@[go_sem] theorem T.pn143 {H : HL.Heap} {xo yo : Operand} {a : Addr} : HL.binV Try.prog (HL.full H) .neq 143 xo yo (.pointer (some a)) (.pointer none) = some (.bool true) := HL.bin_ptr_neq Try.underlying143
@[go_sem] theorem T.ne143 {H : HL.Heap} {xo yo : Operand} : HL.binV Try.prog (HL.full H) .eql 143 xo yo (.pointer none) (.pointer none) = some (.bool true) := HL.bin_nil_eql Try.underlying143
@[go_sem] theorem T.nn143 {H : HL.Heap} {xo yo : Operand} : HL.binV Try.prog (HL.full H) .neq 143 xo yo (.pointer none) (.pointer none) = some (.bool false) := HL.bin_nil_neq Try.underlying143
@[go_sem] theorem T.pe167 {H : HL.Heap} {xo yo : Operand} {a : Addr} : HL.binV Try.prog (HL.full H) .eql 167 xo yo (.pointer (some a)) (.pointer none) = some (.bool false) := HL.bin_ptr_eql Try.underlying167
@[go_sem] theorem T.pn167 {H : HL.Heap} {xo yo : Operand} {a : Addr} : HL.binV Try.prog (HL.full H) .neq 167 xo yo (.pointer (some a)) (.pointer none) = some (.bool true) := HL.bin_ptr_neq Try.underlying167
@[go_sem] theorem T.ne167 {H : HL.Heap} {xo yo : Operand} : HL.binV Try.prog (HL.full H) .eql 167 xo yo (.pointer none) (.pointer none) = some (.bool true) := HL.bin_nil_eql Try.underlying167
@[go_sem] theorem T.nn167 {H : HL.Heap} {xo yo : Operand} : HL.binV Try.prog (HL.full H) .neq 167 xo yo (.pointer none) (.pointer none) = some (.bool false) := HL.bin_nil_neq Try.underlying167
@[go_sem] theorem T.be4 {H : HL.Heap} {xo yo : Operand} {x y : Bool} : HL.binV Try.prog (HL.full H) .eql 4 xo yo (.bool x) (.bool y) = some (.bool (x == y)) := HL.bin_bool_eql Try.underlying4
@[go_sem] theorem T.bn4 {H : HL.Heap} {xo yo : Operand} {x y : Bool} : HL.binV Try.prog (HL.full H) .neq 4 xo yo (.bool x) (.bool y) = some (.bool (!(x == y))) := HL.bin_bool_neq Try.underlying4
@[go_sem] theorem T.se27 {H : HL.Heap} {xo yo : Operand} {a0 b0 : Int} {a1 b1 : Int} : HL.binV Try.prog (HL.full H) .eql 27 xo yo (.agg #[.int .i64 a0, .int .i64 a1]) (.agg #[.int .i64 b0, .int .i64 b1]) = some (.bool ((decide (a0 = b0 ∧ a1 = b1 ∧ True)))) := (HL.bin_struct (xs := [.int .i64 a0, .int .i64 a1]) (ys := [.int .i64 b0, .int .i64 b1]) Try.underlying27 (by kernel_rfl) (by kernel_rfl) (HL.eqF_int (by decide) Try.underlying25 rfl rfl (HL.eqF_int (by decide) Try.underlying3 rfl rfl HL.eqF_nil))).1
@[go_sem] theorem T.sn27 {H : HL.Heap} {xo yo : Operand} {a0 b0 : Int} {a1 b1 : Int} : HL.binV Try.prog (HL.full H) .neq 27 xo yo (.agg #[.int .i64 a0, .int .i64 a1]) (.agg #[.int .i64 b0, .int .i64 b1]) = some (.bool (!(decide (a0 = b0 ∧ a1 = b1 ∧ True)))) := (HL.bin_struct (xs := [.int .i64 a0, .int .i64 a1]) (ys := [.int .i64 b0, .int .i64 b1]) Try.underlying27 (by kernel_rfl) (by kernel_rfl) (HL.eqF_int (by decide) Try.underlying25 rfl rfl (HL.eqF_int (by decide) Try.underlying3 rfl rfl HL.eqF_nil))).2
@[go_sem] theorem T.se57 {H : HL.Heap} {xo yo : Operand} {a0 b0 : Int} {a1 b1 : Int} {a2 b2 : Int} {a3 b3 : Int} {a4 b4 : Int} {a5 b5 : Int} {a6 b6 : Bool} {a7 b7 : Int} : HL.binV Try.prog (HL.full H) .eql 57 xo yo (.agg #[.int .i64 a0, .int .i64 a1, .int .i64 a2, .int .i64 a3, .int .i64 a4, .int .i64 a5, .bool a6, .int .i64 a7]) (.agg #[.int .i64 b0, .int .i64 b1, .int .i64 b2, .int .i64 b3, .int .i64 b4, .int .i64 b5, .bool b6, .int .i64 b7]) = some (.bool ((decide (a0 = b0 ∧ a1 = b1 ∧ a2 = b2 ∧ a3 = b3 ∧ a4 = b4 ∧ a5 = b5 ∧ a6 = b6 ∧ a7 = b7 ∧ True)))) := (HL.bin_struct (xs := [.int .i64 a0, .int .i64 a1, .int .i64 a2, .int .i64 a3, .int .i64 a4, .int .i64 a5, .bool a6, .int .i64 a7]) (ys := [.int .i64 b0, .int .i64 b1, .int .i64 b2, .int .i64 b3, .int .i64 b4, .int .i64 b5, .bool b6, .int .i64 b7]) Try.underlying57 (by kernel_rfl) (by kernel_rfl) (HL.eqF_int (by decide) Try.underlying3 rfl rfl (HL.eqF_int (by decide) Try.underlying3 rfl rfl (HL.eqF_int (by decide) Try.underlying3 rfl rfl (HL.eqF_int (by decide) Try.underlying3 rfl rfl (HL.eqF_int (by decide) Try.underlying3 rfl rfl (HL.eqF_int (by decide) Try.underlying3 rfl rfl (HL.eqF_bool (by decide) Try.underlying4 rfl rfl (HL.eqF_int (by decide) Try.underlying3 rfl rfl HL.eqF_nil))))))))).1
@[go_sem] theorem T.sn57 {H : HL.Heap} {xo yo : Operand} {a0 b0 : Int} {a1 b1 : Int} {a2 b2 : Int} {a3 b3 : Int} {a4 b4 : Int} {a5 b5 : Int} {a6 b6 : Bool} {a7 b7 : Int} : HL.binV Try.prog (HL.full H) .neq 57 xo yo (.agg #[.int .i64 a0, .int .i64 a1, .int .i64 a2, .int .i64 a3, .int .i64 a4, .int .i64 a5, .bool a6, .int .i64 a7]) (.agg #[.int .i64 b0, .int .i64 b1, .int .i64 b2, .int .i64 b3, .int .i64 b4, .int .i64 b5, .bool b6, .int .i64 b7]) = some (.bool (!(decide (a0 = b0 ∧ a1 = b1 ∧ a2 = b2 ∧ a3 = b3 ∧ a4 = b4 ∧ a5 = b5 ∧ a6 = b6 ∧ a7 = b7 ∧ True)))) := (HL.bin_struct (xs := [.int .i64 a0, .int .i64 a1, .int .i64 a2, .int .i64 a3, .int .i64 a4, .int .i64 a5, .bool a6, .int .i64 a7]) (ys := [.int .i64 b0, .int .i64 b1, .int .i64 b2, .int .i64 b3, .int .i64 b4, .int .i64 b5, .bool b6, .int .i64 b7]) Try.underlying57 (by kernel_rfl) (by kernel_rfl) (HL.eqF_int (by decide) Try.underlying3 rfl rfl (HL.eqF_int (by decide) Try.underlying3 rfl rfl (HL.eqF_int (by decide) Try.underlying3 rfl rfl (HL.eqF_int (by decide) Try.underlying3 rfl rfl (HL.eqF_int (by decide) Try.underlying3 rfl rfl (HL.eqF_int (by decide) Try.underlying3 rfl rfl (HL.eqF_bool (by decide) Try.underlying4 rfl rfl (HL.eqF_int (by decide) Try.underlying3 rfl rfl HL.eqF_nil))))))))).2
@[go_sem] theorem T.se59 {H : HL.Heap} {xo yo : Operand} {a0 b0 : ByteArray} {a1 b1 : Int} {a2 b2 : Int} : HL.binV Try.prog (HL.full H) .eql 59 xo yo (.agg #[.string a0, .int .i64 a1, .int .i64 a2]) (.agg #[.string b0, .int .i64 b1, .int .i64 b2]) = some (.bool ((decide (a0 = b0 ∧ a1 = b1 ∧ a2 = b2 ∧ True)))) := (HL.bin_struct (xs := [.string a0, .int .i64 a1, .int .i64 a2]) (ys := [.string b0, .int .i64 b1, .int .i64 b2]) Try.underlying59 (by kernel_rfl) (by kernel_rfl) (HL.eqF_str (by decide) Try.underlying9 rfl rfl (HL.eqF_int (by decide) Try.underlying3 rfl rfl (HL.eqF_int (by decide) Try.underlying3 rfl rfl HL.eqF_nil)))).1
@[go_sem] theorem T.sn59 {H : HL.Heap} {xo yo : Operand} {a0 b0 : ByteArray} {a1 b1 : Int} {a2 b2 : Int} : HL.binV Try.prog (HL.full H) .neq 59 xo yo (.agg #[.string a0, .int .i64 a1, .int .i64 a2]) (.agg #[.string b0, .int .i64 b1, .int .i64 b2]) = some (.bool (!(decide (a0 = b0 ∧ a1 = b1 ∧ a2 = b2 ∧ True)))) := (HL.bin_struct (xs := [.string a0, .int .i64 a1, .int .i64 a2]) (ys := [.string b0, .int .i64 b1, .int .i64 b2]) Try.underlying59 (by kernel_rfl) (by kernel_rfl) (HL.eqF_str (by decide) Try.underlying9 rfl rfl (HL.eqF_int (by decide) Try.underlying3 rfl rfl (HL.eqF_int (by decide) Try.underlying3 rfl rfl HL.eqF_nil)))).2
@[go_sem] theorem T.se114 {H : HL.Heap} {xo yo : Operand} {a0 b0 : Int} {a1 b1 : ByteArray} {a2 b2 : Int} : HL.binV Try.prog (HL.full H) .eql 114 xo yo (.agg #[.int .i64 a0, .string a1, .int .i64 a2]) (.agg #[.int .i64 b0, .string b1, .int .i64 b2]) = some (.bool ((decide (a0 = b0 ∧ a1 = b1 ∧ a2 = b2 ∧ True)))) := (HL.bin_struct (xs := [.int .i64 a0, .string a1, .int .i64 a2]) (ys := [.int .i64 b0, .string b1, .int .i64 b2]) Try.underlying114 (by kernel_rfl) (by kernel_rfl) (HL.eqF_int (by decide) Try.underlying3 rfl rfl (HL.eqF_str (by decide) Try.underlying9 rfl rfl (HL.eqF_int (by decide) Try.underlying3 rfl rfl HL.eqF_nil)))).1
@[go_sem] theorem T.sn114 {H : HL.Heap} {xo yo : Operand} {a0 b0 : Int} {a1 b1 : ByteArray} {a2 b2 : Int} : HL.binV Try.prog (HL.full H) .neq 114 xo yo (.agg #[.int .i64 a0, .string a1, .int .i64 a2]) (.agg #[.int .i64 b0, .string b1, .int .i64 b2]) = some (.bool (!(decide (a0 = b0 ∧ a1 = b1 ∧ a2 = b2 ∧ True)))) := (HL.bin_struct (xs := [.int .i64 a0, .string a1, .int .i64 a2]) (ys := [.int .i64 b0, .string b1, .int .i64 b2]) Try.underlying114 (by kernel_rfl) (by kernel_rfl) (HL.eqF_int (by decide) Try.underlying3 rfl rfl (HL.eqF_str (by decide) Try.underlying9 rfl rfl (HL.eqF_int (by decide) Try.underlying3 rfl rfl HL.eqF_nil)))).2
@[go_sem] theorem T.se121 {H : HL.Heap} {xo yo : Operand} {a0 b0 : ByteArray} {a1 b1 : Int} {a2 b2 : Int} {a3 b3 : Bool} {a4 b4 : Bool} : HL.binV Try.prog (HL.full H) .eql 121 xo yo (.agg #[.string a0, .int .i64 a1, .int .i64 a2, .bool a3, .bool a4]) (.agg #[.string b0, .int .i64 b1, .int .i64 b2, .bool b3, .bool b4]) = some (.bool ((decide (a0 = b0 ∧ a1 = b1 ∧ a2 = b2 ∧ a3 = b3 ∧ a4 = b4 ∧ True)))) := (HL.bin_struct (xs := [.string a0, .int .i64 a1, .int .i64 a2, .bool a3, .bool a4]) (ys := [.string b0, .int .i64 b1, .int .i64 b2, .bool b3, .bool b4]) Try.underlying121 (by kernel_rfl) (by kernel_rfl) (HL.eqF_str (by decide) Try.underlying9 rfl rfl (HL.eqF_int (by decide) Try.underlying3 rfl rfl (HL.eqF_int (by decide) Try.underlying3 rfl rfl (HL.eqF_bool (by decide) Try.underlying4 rfl rfl (HL.eqF_bool (by decide) Try.underlying4 rfl rfl HL.eqF_nil)))))).1
@[go_sem] theorem T.sn121 {H : HL.Heap} {xo yo : Operand} {a0 b0 : ByteArray} {a1 b1 : Int} {a2 b2 : Int} {a3 b3 : Bool} {a4 b4 : Bool} : HL.binV Try.prog (HL.full H) .neq 121 xo yo (.agg #[.string a0, .int .i64 a1, .int .i64 a2, .bool a3, .bool a4]) (.agg #[.string b0, .int .i64 b1, .int .i64 b2, .bool b3, .bool b4]) = some (.bool (!(decide (a0 = b0 ∧ a1 = b1 ∧ a2 = b2 ∧ a3 = b3 ∧ a4 = b4 ∧ True)))) := (HL.bin_struct (xs := [.string a0, .int .i64 a1, .int .i64 a2, .bool a3, .bool a4]) (ys := [.string b0, .int .i64 b1, .int .i64 b2, .bool b3, .bool b4]) Try.underlying121 (by kernel_rfl) (by kernel_rfl) (HL.eqF_str (by decide) Try.underlying9 rfl rfl (HL.eqF_int (by decide) Try.underlying3 rfl rfl (HL.eqF_int (by decide) Try.underlying3 rfl rfl (HL.eqF_bool (by decide) Try.underlying4 rfl rfl (HL.eqF_bool (by decide) Try.underlying4 rfl rfl HL.eqF_nil)))))).2
@[go_sem] theorem T.cv2_2 {V : HL.HV} {k : IntKind} {n : Int} : HL.convV Try.prog V 2 2 (.int k n) = some (.int .i64 (IntKind.i64.wrap n)) := HL.conv_int Try.underlying2 Try.underlying2
@[go_sem] theorem T.cv2_3 {V : HL.HV} {k : IntKind} {n : Int} : HL.convV Try.prog V 2 3 (.int k n) = some (.int .i64 (IntKind.i64.wrap n)) := HL.conv_int Try.underlying2 Try.underlying3
@[go_sem] theorem T.cv2_5 {V : HL.HV} {k : IntKind} {n : Int} : HL.convV Try.prog V 2 5 (.int k n) = some (.int .u8 (IntKind.u8.wrap n)) := HL.conv_int Try.underlying2 Try.underlying5
@[go_sem] theorem T.cv2_6 {V : HL.HV} {k : IntKind} {n : Int} : HL.convV Try.prog V 2 6 (.int k n) = some (.int .u8 (IntKind.u8.wrap n)) := HL.conv_int Try.underlying2 Try.underlying6
@[go_sem] theorem T.cv2_12 {V : HL.HV} {k : IntKind} {n : Int} : HL.convV Try.prog V 2 12 (.int k n) = some (.int .u64 (IntKind.u64.wrap n)) := HL.conv_int Try.underlying2 Try.underlying12
@[go_sem] theorem T.cv2_21 {V : HL.HV} {k : IntKind} {n : Int} : HL.convV Try.prog V 2 21 (.int k n) = some (.int .i32 (IntKind.i32.wrap n)) := HL.conv_int Try.underlying2 Try.underlying21
@[go_sem] theorem T.cv2_25 {V : HL.HV} {k : IntKind} {n : Int} : HL.convV Try.prog V 2 25 (.int k n) = some (.int .i64 (IntKind.i64.wrap n)) := HL.conv_int Try.underlying2 Try.underlying25
@[go_sem] theorem T.cv2_155 {V : HL.HV} {k : IntKind} {n : Int} : HL.convV Try.prog V 2 155 (.int k n) = some (.int .u64 (IntKind.u64.wrap n)) := HL.conv_int Try.underlying2 Try.underlying155
@[go_sem] theorem T.cv2_156 {V : HL.HV} {k : IntKind} {n : Int} : HL.convV Try.prog V 2 156 (.int k n) = some (.int .u32 (IntKind.u32.wrap n)) := HL.conv_int Try.underlying2 Try.underlying156
@[go_sem] theorem T.cv2_164 {V : HL.HV} {k : IntKind} {n : Int} : HL.convV Try.prog V 2 164 (.int k n) = some (.int .u8 (IntKind.u8.wrap n)) := HL.conv_int Try.underlying2 Try.underlying164
@[go_sem] theorem T.cv2_165 {V : HL.HV} {k : IntKind} {n : Int} : HL.convV Try.prog V 2 165 (.int k n) = some (.int .u8 (IntKind.u8.wrap n)) := HL.conv_int Try.underlying2 Try.underlying165
@[go_sem] theorem T.cv2_168 {V : HL.HV} {k : IntKind} {n : Int} : HL.convV Try.prog V 2 168 (.int k n) = some (.int .i32 (IntKind.i32.wrap n)) := HL.conv_int Try.underlying2 Try.underlying168
@[go_sem] theorem T.cv2_169 {V : HL.HV} {k : IntKind} {n : Int} : HL.convV Try.prog V 2 169 (.int k n) = some (.int .i32 (IntKind.i32.wrap n)) := HL.conv_int Try.underlying2 Try.underlying169
@[go_sem] theorem T.cv3_2 {V : HL.HV} {k : IntKind} {n : Int} : HL.convV Try.prog V 3 2 (.int k n) = some (.int .i64 (IntKind.i64.wrap n)) := HL.conv_int Try.underlying3 Try.underlying2
@[go_sem] theorem T.cv3_3 {V : HL.HV} {k : IntKind} {n : Int} : HL.convV Try.prog V 3 3 (.int k n) = some (.int .i64 (IntKind.i64.wrap n)) := HL.conv_int Try.underlying3 Try.underlying3
@[go_sem] theorem T.cv3_5 {V : HL.HV} {k : IntKind} {n : Int} : HL.convV Try.prog V 3 5 (.int k n) = some (.int .u8 (IntKind.u8.wrap n)) := HL.conv_int Try.underlying3 Try.underlying5
@[go_sem] theorem T.cv3_6 {V : HL.HV} {k : IntKind} {n : Int} : HL.convV Try.prog V 3 6 (.int k n) = some (.int .u8 (IntKind.u8.wrap n)) := HL.conv_int Try.underlying3 Try.underlying6
@[go_sem] theorem T.cv3_12 {V : HL.HV} {k : IntKind} {n : Int} : HL.convV Try.prog V 3 12 (.int k n) = some (.int .u64 (IntKind.u64.wrap n)) := HL.conv_int Try.underlying3 Try.underlying12
@[go_sem] theorem T.cv3_21 {V : HL.HV} {k : IntKind} {n : Int} : HL.convV Try.prog V 3 21 (.int k n) = some (.int .i32 (IntKind.i32.wrap n)) := HL.conv_int Try.underlying3 Try.underlying21
@[go_sem] theorem T.cv3_25 {V : HL.HV} {k : IntKind} {n : Int} : HL.convV Try.prog V 3 25 (.int k n) = some (.int .i64 (IntKind.i64.wrap n)) := HL.conv_int Try.underlying3 Try.underlying25
@[go_sem] theorem T.cv3_155 {V : HL.HV} {k : IntKind} {n : Int} : HL.convV Try.prog V 3 155 (.int k n) = some (.int .u64 (IntKind.u64.wrap n)) := HL.conv_int Try.underlying3 Try.underlying155
@[go_sem] theorem T.cv3_156 {V : HL.HV} {k : IntKind} {n : Int} : HL.convV Try.prog V 3 156 (.int k n) = some (.int .u32 (IntKind.u32.wrap n)) := HL.conv_int Try.underlying3 Try.underlying156
@[go_sem] theorem T.cv3_164 {V : HL.HV} {k : IntKind} {n : Int} : HL.convV Try.prog V 3 164 (.int k n) = some (.int .u8 (IntKind.u8.wrap n)) := HL.conv_int Try.underlying3 Try.underlying164
@[go_sem] theorem T.cv3_165 {V : HL.HV} {k : IntKind} {n : Int} : HL.convV Try.prog V 3 165 (.int k n) = some (.int .u8 (IntKind.u8.wrap n)) := HL.conv_int Try.underlying3 Try.underlying165
@[go_sem] theorem T.cv3_168 {V : HL.HV} {k : IntKind} {n : Int} : HL.convV Try.prog V 3 168 (.int k n) = some (.int .i32 (IntKind.i32.wrap n)) := HL.conv_int Try.underlying3 Try.underlying168
@[go_sem] theorem T.cv3_169 {V : HL.HV} {k : IntKind} {n : Int} : HL.convV Try.prog V 3 169 (.int k n) = some (.int .i32 (IntKind.i32.wrap n)) := HL.conv_int Try.underlying3 Try.underlying169
@[go_sem] theorem T.cv5_2 {V : HL.HV} {k : IntKind} {n : Int} : HL.convV Try.prog V 5 2 (.int k n) = some (.int .i64 (IntKind.i64.wrap n)) := HL.conv_int Try.underlying5 Try.underlying2
@[go_sem] theorem T.cv5_3 {V : HL.HV} {k : IntKind} {n : Int} : HL.convV Try.prog V 5 3 (.int k n) = some (.int .i64 (IntKind.i64.wrap n)) := HL.conv_int Try.underlying5 Try.underlying3
@[go_sem] theorem T.cv5_5 {V : HL.HV} {k : IntKind} {n : Int} : HL.convV Try.prog V 5 5 (.int k n) = some (.int .u8 (IntKind.u8.wrap n)) := HL.conv_int Try.underlying5 Try.underlying5
@[go_sem] theorem T.cv5_6 {V : HL.HV} {k : IntKind} {n : Int} : HL.convV Try.prog V 5 6 (.int k n) = some (.int .u8 (IntKind.u8.wrap n)) := HL.conv_int Try.underlying5 Try.underlying6
@[go_sem] theorem T.cv5_12 {V : HL.HV} {k : IntKind} {n : Int} : HL.convV Try.prog V 5 12 (.int k n) = some (.int .u64 (IntKind.u64.wrap n)) := HL.conv_int Try.underlying5 Try.underlying12
@[go_sem] theorem T.cv5_21 {V : HL.HV} {k : IntKind} {n : Int} : HL.convV Try.prog V 5 21 (.int k n) = some (.int .i32 (IntKind.i32.wrap n)) := HL.conv_int Try.underlying5 Try.underlying21
@[go_sem] theorem T.cv5_25 {V : HL.HV} {k : IntKind} {n : Int} : HL.convV Try.prog V 5 25 (.int k n) = some (.int .i64 (IntKind.i64.wrap n)) := HL.conv_int Try.underlying5 Try.underlying25
@[go_sem] theorem T.cv5_155 {V : HL.HV} {k : IntKind} {n : Int} : HL.convV Try.prog V 5 155 (.int k n) = some (.int .u64 (IntKind.u64.wrap n)) := HL.conv_int Try.underlying5 Try.underlying155
@[go_sem] theorem T.cv5_156 {V : HL.HV} {k : IntKind} {n : Int} : HL.convV Try.prog V 5 156 (.int k n) = some (.int .u32 (IntKind.u32.wrap n)) := HL.conv_int Try.underlying5 Try.underlying156
@[go_sem] theorem T.cv5_164 {V : HL.HV} {k : IntKind} {n : Int} : HL.convV Try.prog V 5 164 (.int k n) = some (.int .u8 (IntKind.u8.wrap n)) := HL.conv_int Try.underlying5 Try.underlying164
@[go_sem] theorem T.cv5_165 {V : HL.HV} {k : IntKind} {n : Int} : HL.convV Try.prog V 5 165 (.int k n) = some (.int .u8 (IntKind.u8.wrap n)) := HL.conv_int Try.underlying5 Try.underlying165
@[go_sem] theorem T.cv5_168 {V : HL.HV} {k : IntKind} {n : Int} : HL.convV Try.prog V 5 168 (.int k n) = some (.int .i32 (IntKind.i32.wrap n)) := HL.conv_int Try.underlying5 Try.underlying168
@[go_sem] theorem T.cv5_169 {V : HL.HV} {k : IntKind} {n : Int} : HL.convV Try.prog V 5 169 (.int k n) = some (.int .i32 (IntKind.i32.wrap n)) := HL.conv_int Try.underlying5 Try.underlying169
@[go_sem] theorem T.cv6_2 {V : HL.HV} {k : IntKind} {n : Int} : HL.convV Try.prog V 6 2 (.int k n) = some (.int .i64 (IntKind.i64.wrap n)) := HL.conv_int Try.underlying6 Try.underlying2
@[go_sem] theorem T.cv6_3 {V : HL.HV} {k : IntKind} {n : Int} : HL.convV Try.prog V 6 3 (.int k n) = some (.int .i64 (IntKind.i64.wrap n)) := HL.conv_int Try.underlying6 Try.underlying3
@[go_sem] theorem T.cv6_5 {V : HL.HV} {k : IntKind} {n : Int} : HL.convV Try.prog V 6 5 (.int k n) = some (.int .u8 (IntKind.u8.wrap n)) := HL.conv_int Try.underlying6 Try.underlying5
@[go_sem] theorem T.cv6_6 {V : HL.HV} {k : IntKind} {n : Int} : HL.convV Try.prog V 6 6 (.int k n) = some (.int .u8 (IntKind.u8.wrap n)) := HL.conv_int Try.underlying6 Try.underlying6
@[go_sem] theorem T.cv6_12 {V : HL.HV} {k : IntKind} {n : Int} : HL.convV Try.prog V 6 12 (.int k n) = some (.int .u64 (IntKind.u64.wrap n)) := HL.conv_int Try.underlying6 Try.underlying12
@[go_sem] theorem T.cv6_21 {V : HL.HV} {k : IntKind} {n : Int} : HL.convV Try.prog V 6 21 (.int k n) = some (.int .i32 (IntKind.i32.wrap n)) := HL.conv_int Try.underlying6 Try.underlying21
@[go_sem] theorem T.cv6_25 {V : HL.HV} {k : IntKind} {n : Int} : HL.convV Try.prog V 6 25 (.int k n) = some (.int .i64 (IntKind.i64.wrap n)) := HL.conv_int Try.underlying6 Try.underlying25
@[go_sem] theorem T.cv6_155 {V : HL.HV} {k : IntKind} {n : Int} : HL.convV Try.prog V 6 155 (.int k n) = some (.int .u64 (IntKind.u64.wrap n)) := HL.conv_int Try.underlying6 Try.underlying155
@[go_sem] theorem T.cv6_156 {V : HL.HV} {k : IntKind} {n : Int} : HL.convV Try.prog V 6 156 (.int k n) = some (.int .u32 (IntKind.u32.wrap n)) := HL.conv_int Try.underlying6 Try.underlying156
@[go_sem] theorem T.cv6_164 {V : HL.HV} {k : IntKind} {n : Int} : HL.convV Try.prog V 6 164 (.int k n) = some (.int .u8 (IntKind.u8.wrap n)) := HL.conv_int Try.underlying6 Try.underlying164
@[go_sem] theorem T.cv6_165 {V : HL.HV} {k : IntKind} {n : Int} : HL.convV Try.prog V 6 165 (.int k n) = some (.int .u8 (IntKind.u8.wrap n)) := HL.conv_int Try.underlying6 Try.underlying165
@[go_sem] theorem T.cv6_168 {V : HL.HV} {k : IntKind} {n : Int} : HL.convV Try.prog V 6 168 (.int k n) = some (.int .i32 (IntKind.i32.wrap n)) := HL.conv_int Try.underlying6 Try.underlying168
@[go_sem] theorem T.cv6_169 {V : HL.HV} {k : IntKind} {n : Int} : HL.convV Try.prog V 6 169 (.int k n) = some (.int .i32 (IntKind.i32.wrap n)) := HL.conv_int Try.underlying6 Try.underlying169
@[go_sem] theorem T.cv12_2 {V : HL.HV} {k : IntKind} {n : Int} : HL.convV Try.prog V 12 2 (.int k n) = some (.int .i64 (IntKind.i64.wrap n)) := HL.conv_int Try.underlying12 Try.underlying2
@[go_sem] theorem T.cv12_3 {V : HL.HV} {k : IntKind} {n : Int} : HL.convV Try.prog V 12 3 (.int k n) = some (.int .i64 (IntKind.i64.wrap n)) := HL.conv_int Try.underlying12 Try.underlying3
@[go_sem] theorem T.cv12_5 {V : HL.HV} {k : IntKind} {n : Int} : HL.convV Try.prog V 12 5 (.int k n) = some (.int .u8 (IntKind.u8.wrap n)) := HL.conv_int Try.underlying12 Try.underlying5
@[go_sem] theorem T.cv12_6 {V : HL.HV} {k : IntKind} {n : Int} : HL.convV Try.prog V 12 6 (.int k n) = some (.int .u8 (IntKind.u8.wrap n)) := HL.conv_int Try.underlying12 Try.underlying6
@[go_sem] theorem T.cv12_12 {V : HL.HV} {k : IntKind} {n : Int} : HL.convV Try.prog V 12 12 (.int k n) = some (.int .u64 (IntKind.u64.wrap n)) := HL.conv_int Try.underlying12 Try.underlying12
@[go_sem] theorem T.cv12_21 {V : HL.HV} {k : IntKind} {n : Int} : HL.convV Try.prog V 12 21 (.int k n) = some (.int .i32 (IntKind.i32.wrap n)) := HL.conv_int Try.underlying12 Try.underlying21
@[go_sem] theorem T.cv12_25 {V : HL.HV} {k : IntKind} {n : Int} : HL.convV Try.prog V 12 25 (.int k n) = some (.int .i64 (IntKind.i64.wrap n)) := HL.conv_int Try.underlying12 Try.underlying25
@[go_sem] theorem T.cv12_155 {V : HL.HV} {k : IntKind} {n : Int} : HL.convV Try.prog V 12 155 (.int k n) = some (.int .u64 (IntKind.u64.wrap n)) := HL.conv_int Try.underlying12 Try.underlying155
@[go_sem] theorem T.cv12_156 {V : HL.HV} {k : IntKind} {n : Int} : HL.convV Try.prog V 12 156 (.int k n) = some (.int .u32 (IntKind.u32.wrap n)) := HL.conv_int Try.underlying12 Try.underlying156
@[go_sem] theorem T.cv12_164 {V : HL.HV} {k : IntKind} {n : Int} : HL.convV Try.prog V 12 164 (.int k n) = some (.int .u8 (IntKind.u8.wrap n)) := HL.conv_int Try.underlying12 Try.underlying164
@[go_sem] theorem T.cv12_165 {V : HL.HV} {k : IntKind} {n : Int} : HL.convV Try.prog V 12 165 (.int k n) = some (.int .u8 (IntKind.u8.wrap n)) := HL.conv_int Try.underlying12 Try.underlying165
@[go_sem] theorem T.cv12_168 {V : HL.HV} {k : IntKind} {n : Int} : HL.convV Try.prog V 12 168 (.int k n) = some (.int .i32 (IntKind.i32.wrap n)) := HL.conv_int Try.underlying12 Try.underlying168
@[go_sem] theorem T.cv12_169 {V : HL.HV} {k : IntKind} {n : Int} : HL.convV Try.prog V 12 169 (.int k n) = some (.int .i32 (IntKind.i32.wrap n)) := HL.conv_int Try.underlying12 Try.underlying169
@[go_sem] theorem T.cv21_2 {V : HL.HV} {k : IntKind} {n : Int} : HL.convV Try.prog V 21 2 (.int k n) = some (.int .i64 (IntKind.i64.wrap n)) := HL.conv_int Try.underlying21 Try.underlying2
@[go_sem] theorem T.cv21_3 {V : HL.HV} {k : IntKind} {n : Int} : HL.convV Try.prog V 21 3 (.int k n) = some (.int .i64 (IntKind.i64.wrap n)) := HL.conv_int Try.underlying21 Try.underlying3
@[go_sem] theorem T.cv21_5 {V : HL.HV} {k : IntKind} {n : Int} : HL.convV Try.prog V 21 5 (.int k n) = some (.int .u8 (IntKind.u8.wrap n)) := HL.conv_int Try.underlying21 Try.underlying5
@[go_sem] theorem T.cv21_6 {V : HL.HV} {k : IntKind} {n : Int} : HL.convV Try.prog V 21 6 (.int k n) = some (.int .u8 (IntKind.u8.wrap n)) := HL.conv_int Try.underlying21 Try.underlying6
@[go_sem] theorem T.cv21_12 {V : HL.HV} {k : IntKind} {n : Int} : HL.convV Try.prog V 21 12 (.int k n) = some (.int .u64 (IntKind.u64.wrap n)) := HL.conv_int Try.underlying21 Try.underlying12
@[go_sem] theorem T.cv21_21 {V : HL.HV} {k : IntKind} {n : Int} : HL.convV Try.prog V 21 21 (.int k n) = some (.int .i32 (IntKind.i32.wrap n)) := HL.conv_int Try.underlying21 Try.underlying21
@[go_sem] theorem T.cv21_25 {V : HL.HV} {k : IntKind} {n : Int} : HL.convV Try.prog V 21 25 (.int k n) = some (.int .i64 (IntKind.i64.wrap n)) := HL.conv_int Try.underlying21 Try.underlying25
@[go_sem] theorem T.cv21_155 {V : HL.HV} {k : IntKind} {n : Int} : HL.convV Try.prog V 21 155 (.int k n) = some (.int .u64 (IntKind.u64.wrap n)) := HL.conv_int Try.underlying21 Try.underlying155
@[go_sem] theorem T.cv21_156 {V : HL.HV} {k : IntKind} {n : Int} : HL.convV Try.prog V 21 156 (.int k n) = some (.int .u32 (IntKind.u32.wrap n)) := HL.conv_int Try.underlying21 Try.underlying156
@[go_sem] theorem T.cv21_164 {V : HL.HV} {k : IntKind} {n : Int} : HL.convV Try.prog V 21 164 (.int k n) = some (.int .u8 (IntKind.u8.wrap n)) := HL.conv_int Try.underlying21 Try.underlying164
@[go_sem] theorem T.cv21_165 {V : HL.HV} {k : IntKind} {n : Int} : HL.convV Try.prog V 21 165 (.int k n) = some (.int .u8 (IntKind.u8.wrap n)) := HL.conv_int Try.underlying21 Try.underlying165
@[go_sem] theorem T.cv21_168 {V : HL.HV} {k : IntKind} {n : Int} : HL.convV Try.prog V 21 168 (.int k n) = some (.int .i32 (IntKind.i32.wrap n)) := HL.conv_int Try.underlying21 Try.underlying168
@[go_sem] theorem T.cv21_169 {V : HL.HV} {k : IntKind} {n : Int} : HL.convV Try.prog V 21 169 (.int k n) = some (.int .i32 (IntKind.i32.wrap n)) := HL.conv_int Try.underlying21 Try.underlying169
@[go_sem] theorem T.cv25_2 {V : HL.HV} {k : IntKind} {n : Int} : HL.convV Try.prog V 25 2 (.int k n) = some (.int .i64 (IntKind.i64.wrap n)) := HL.conv_int Try.underlying25 Try.underlying2
@[go_sem] theorem T.cv25_3 {V : HL.HV} {k : IntKind} {n : Int} : HL.convV Try.prog V 25 3 (.int k n) = some (.int .i64 (IntKind.i64.wrap n)) := HL.conv_int Try.underlying25 Try.underlying3
@[go_sem] theorem T.cv25_5 {V : HL.HV} {k : IntKind} {n : Int} : HL.convV Try.prog V 25 5 (.int k n) = some (.int .u8 (IntKind.u8.wrap n)) := HL.conv_int Try.underlying25 Try.underlying5
@[go_sem] theorem T.cv25_6 {V : HL.HV} {k : IntKind} {n : Int} : HL.convV Try.prog V 25 6 (.int k n) = some (.int .u8 (IntKind.u8.wrap n)) := HL.conv_int Try.underlying25 Try.underlying6
@[go_sem] theorem T.cv25_12 {V : HL.HV} {k : IntKind} {n : Int} : HL.convV Try.prog V 25 12 (.int k n) = some (.int .u64 (IntKind.u64.wrap n)) := HL.conv_int Try.underlying25 Try.underlying12
@[go_sem] theorem T.cv25_21 {V : HL.HV} {k : IntKind} {n : Int} : HL.convV Try.prog V 25 21 (.int k n) = some (.int .i32 (IntKind.i32.wrap n)) := HL.conv_int Try.underlying25 Try.underlying21
@[go_sem] theorem T.cv25_25 {V : HL.HV} {k : IntKind} {n : Int} : HL.convV Try.prog V 25 25 (.int k n) = some (.int .i64 (IntKind.i64.wrap n)) := HL.conv_int Try.underlying25 Try.underlying25
@[go_sem] theorem T.cv25_155 {V : HL.HV} {k : IntKind} {n : Int} : HL.convV Try.prog V 25 155 (.int k n) = some (.int .u64 (IntKind.u64.wrap n)) := HL.conv_int Try.underlying25 Try.underlying155
@[go_sem] theorem T.cv25_156 {V : HL.HV} {k : IntKind} {n : Int} : HL.convV Try.prog V 25 156 (.int k n) = some (.int .u32 (IntKind.u32.wrap n)) := HL.conv_int Try.underlying25 Try.underlying156
@[go_sem] theorem T.cv25_164 {V : HL.HV} {k : IntKind} {n : Int} : HL.convV Try.prog V 25 164 (.int k n) = some (.int .u8 (IntKind.u8.wrap n)) := HL.conv_int Try.underlying25 Try.underlying164
@[go_sem] theorem T.cv25_165 {V : HL.HV} {k : IntKind} {n : Int} : HL.convV Try.prog V 25 165 (.int k n) = some (.int .u8 (IntKind.u8.wrap n)) := HL.conv_int Try.underlying25 Try.underlying165
@[go_sem] theorem T.cv25_168 {V : HL.HV} {k : IntKind} {n : Int} : HL.convV Try.prog V 25 168 (.int k n) = some (.int .i32 (IntKind.i32.wrap n)) := HL.conv_int Try.underlying25 Try.underlying168
@[go_sem] theorem T.cv25_169 {V : HL.HV} {k : IntKind} {n : Int} : HL.convV Try.prog V 25 169 (.int k n) = some (.int .i32 (IntKind.i32.wrap n)) := HL.conv_int Try.underlying25 Try.underlying169
@[go_sem] theorem T.cv155_2 {V : HL.HV} {k : IntKind} {n : Int} : HL.convV Try.prog V 155 2 (.int k n) = some (.int .i64 (IntKind.i64.wrap n)) := HL.conv_int Try.underlying155 Try.underlying2
@[go_sem] theorem T.cv155_3 {V : HL.HV} {k : IntKind} {n : Int} : HL.convV Try.prog V 155 3 (.int k n) = some (.int .i64 (IntKind.i64.wrap n)) := HL.conv_int Try.underlying155 Try.underlying3
@[go_sem] theorem T.cv155_5 {V : HL.HV} {k : IntKind} {n : Int} : HL.convV Try.prog V 155 5 (.int k n) = some (.int .u8 (IntKind.u8.wrap n)) := HL.conv_int Try.underlying155 Try.underlying5
@[go_sem] theorem T.cv155_6 {V : HL.HV} {k : IntKind} {n : Int} : HL.convV Try.prog V 155 6 (.int k n) = some (.int .u8 (IntKind.u8.wrap n)) := HL.conv_int Try.underlying155 Try.underlying6
@[go_sem] theorem T.cv155_12 {V : HL.HV} {k : IntKind} {n : Int} : HL.convV Try.prog V 155 12 (.int k n) = some (.int .u64 (IntKind.u64.wrap n)) := HL.conv_int Try.underlying155 Try.underlying12
@[go_sem] theorem T.cv155_21 {V : HL.HV} {k : IntKind} {n : Int} : HL.convV Try.prog V 155 21 (.int k n) = some (.int .i32 (IntKind.i32.wrap n)) := HL.conv_int Try.underlying155 Try.underlying21
@[go_sem] theorem T.cv155_25 {V : HL.HV} {k : IntKind} {n : Int} : HL.convV Try.prog V 155 25 (.int k n) = some (.int .i64 (IntKind.i64.wrap n)) := HL.conv_int Try.underlying155 Try.underlying25
@[go_sem] theorem T.cv155_155 {V : HL.HV} {k : IntKind} {n : Int} : HL.convV Try.prog V 155 155 (.int k n) = some (.int .u64 (IntKind.u64.wrap n)) := HL.conv_int Try.underlying155 Try.underlying155
@[go_sem] theorem T.cv155_156 {V : HL.HV} {k : IntKind} {n : Int} : HL.convV Try.prog V 155 156 (.int k n) = some (.int .u32 (IntKind.u32.wrap n)) := HL.conv_int Try.underlying155 Try.underlying156
@[go_sem] theorem T.cv155_164 {V : HL.HV} {k : IntKind} {n : Int} : HL.convV Try.prog V 155 164 (.int k n) = some (.int .u8 (IntKind.u8.wrap n)) := HL.conv_int Try.underlying155 Try.underlying164
@[go_sem] theorem T.cv155_165 {V : HL.HV} {k : IntKind} {n : Int} : HL.convV Try.prog V 155 165 (.int k n) = some (.int .u8 (IntKind.u8.wrap n)) := HL.conv_int Try.underlying155 Try.underlying165
@[go_sem] theorem T.cv155_168 {V : HL.HV} {k : IntKind} {n : Int} : HL.convV Try.prog V 155 168 (.int k n) = some (.int .i32 (IntKind.i32.wrap n)) := HL.conv_int Try.underlying155 Try.underlying168
@[go_sem] theorem T.cv155_169 {V : HL.HV} {k : IntKind} {n : Int} : HL.convV Try.prog V 155 169 (.int k n) = some (.int .i32 (IntKind.i32.wrap n)) := HL.conv_int Try.underlying155 Try.underlying169
@[go_sem] theorem T.cv156_2 {V : HL.HV} {k : IntKind} {n : Int} : HL.convV Try.prog V 156 2 (.int k n) = some (.int .i64 (IntKind.i64.wrap n)) := HL.conv_int Try.underlying156 Try.underlying2
@[go_sem] theorem T.cv156_3 {V : HL.HV} {k : IntKind} {n : Int} : HL.convV Try.prog V 156 3 (.int k n) = some (.int .i64 (IntKind.i64.wrap n)) := HL.conv_int Try.underlying156 Try.underlying3
@[go_sem] theorem T.cv156_5 {V : HL.HV} {k : IntKind} {n : Int} : HL.convV Try.prog V 156 5 (.int k n) = some (.int .u8 (IntKind.u8.wrap n)) := HL.conv_int Try.underlying156 Try.underlying5
@[go_sem] theorem T.cv156_6 {V : HL.HV} {k : IntKind} {n : Int} : HL.convV Try.prog V 156 6 (.int k n) = some (.int .u8 (IntKind.u8.wrap n)) := HL.conv_int Try.underlying156 Try.underlying6
@[go_sem] theorem T.cv156_12 {V : HL.HV} {k : IntKind} {n : Int} : HL.convV Try.prog V 156 12 (.int k n) = some (.int .u64 (IntKind.u64.wrap n)) := HL.conv_int Try.underlying156 Try.underlying12
@[go_sem] theorem T.cv156_21 {V : HL.HV} {k : IntKind} {n : Int} : HL.convV Try.prog V 156 21 (.int k n) = some (.int .i32 (IntKind.i32.wrap n)) := HL.conv_int Try.underlying156 Try.underlying21
@[go_sem] theorem T.cv156_25 {V : HL.HV} {k : IntKind} {n : Int} : HL.convV Try.prog V 156 25 (.int k n) = some (.int .i64 (IntKind.i64.wrap n)) := HL.conv_int Try.underlying156 Try.underlying25
@[go_sem] theorem T.cv156_155 {V : HL.HV} {k : IntKind} {n : Int} : HL.convV Try.prog V 156 155 (.int k n) = some (.int .u64 (IntKind.u64.wrap n)) := HL.conv_int Try.underlying156 Try.underlying155
@[go_sem] theorem T.cv156_156 {V : HL.HV} {k : IntKind} {n : Int} : HL.convV Try.prog V 156 156 (.int k n) = some (.int .u32 (IntKind.u32.wrap n)) := HL.conv_int Try.underlying156 Try.underlying156
@[go_sem] theorem T.cv156_164 {V : HL.HV} {k : IntKind} {n : Int} : HL.convV Try.prog V 156 164 (.int k n) = some (.int .u8 (IntKind.u8.wrap n)) := HL.conv_int Try.underlying156 Try.underlying164
@[go_sem] theorem T.cv156_165 {V : HL.HV} {k : IntKind} {n : Int} : HL.convV Try.prog V 156 165 (.int k n) = some (.int .u8 (IntKind.u8.wrap n)) := HL.conv_int Try.underlying156 Try.underlying165
@[go_sem] theorem T.cv156_168 {V : HL.HV} {k : IntKind} {n : Int} : HL.convV Try.prog V 156 168 (.int k n) = some (.int .i32 (IntKind.i32.wrap n)) := HL.conv_int Try.underlying156 Try.underlying168
@[go_sem] theorem T.cv156_169 {V : HL.HV} {k : IntKind} {n : Int} : HL.convV Try.prog V 156 169 (.int k n) = some (.int .i32 (IntKind.i32.wrap n)) := HL.conv_int Try.underlying156 Try.underlying169
@[go_sem] theorem T.cv164_2 {V : HL.HV} {k : IntKind} {n : Int} : HL.convV Try.prog V 164 2 (.int k n) = some (.int .i64 (IntKind.i64.wrap n)) := HL.conv_int Try.underlying164 Try.underlying2
@[go_sem] theorem T.cv164_3 {V : HL.HV} {k : IntKind} {n : Int} : HL.convV Try.prog V 164 3 (.int k n) = some (.int .i64 (IntKind.i64.wrap n)) := HL.conv_int Try.underlying164 Try.underlying3
@[go_sem] theorem T.cv164_5 {V : HL.HV} {k : IntKind} {n : Int} : HL.convV Try.prog V 164 5 (.int k n) = some (.int .u8 (IntKind.u8.wrap n)) := HL.conv_int Try.underlying164 Try.underlying5
@[go_sem] theorem T.cv164_6 {V : HL.HV} {k : IntKind} {n : Int} : HL.convV Try.prog V 164 6 (.int k n) = some (.int .u8 (IntKind.u8.wrap n)) := HL.conv_int Try.underlying164 Try.underlying6
@[go_sem] theorem T.cv164_12 {V : HL.HV} {k : IntKind} {n : Int} : HL.convV Try.prog V 164 12 (.int k n) = some (.int .u64 (IntKind.u64.wrap n)) := HL.conv_int Try.underlying164 Try.underlying12
@[go_sem] theorem T.cv164_21 {V : HL.HV} {k : IntKind} {n : Int} : HL.convV Try.prog V 164 21 (.int k n) = some (.int .i32 (IntKind.i32.wrap n)) := HL.conv_int Try.underlying164 Try.underlying21
@[go_sem] theorem T.cv164_25 {V : HL.HV} {k : IntKind} {n : Int} : HL.convV Try.prog V 164 25 (.int k n) = some (.int .i64 (IntKind.i64.wrap n)) := HL.conv_int Try.underlying164 Try.underlying25
@[go_sem] theorem T.cv164_155 {V : HL.HV} {k : IntKind} {n : Int} : HL.convV Try.prog V 164 155 (.int k n) = some (.int .u64 (IntKind.u64.wrap n)) := HL.conv_int Try.underlying164 Try.underlying155
@[go_sem] theorem T.cv164_156 {V : HL.HV} {k : IntKind} {n : Int} : HL.convV Try.prog V 164 156 (.int k n) = some (.int .u32 (IntKind.u32.wrap n)) := HL.conv_int Try.underlying164 Try.underlying156
@[go_sem] theorem T.cv164_164 {V : HL.HV} {k : IntKind} {n : Int} : HL.convV Try.prog V 164 164 (.int k n) = some (.int .u8 (IntKind.u8.wrap n)) := HL.conv_int Try.underlying164 Try.underlying164
@[go_sem] theorem T.cv164_165 {V : HL.HV} {k : IntKind} {n : Int} : HL.convV Try.prog V 164 165 (.int k n) = some (.int .u8 (IntKind.u8.wrap n)) := HL.conv_int Try.underlying164 Try.underlying165
@[go_sem] theorem T.cv164_168 {V : HL.HV} {k : IntKind} {n : Int} : HL.convV Try.prog V 164 168 (.int k n) = some (.int .i32 (IntKind.i32.wrap n)) := HL.conv_int Try.underlying164 Try.underlying168
@[go_sem] theorem T.cv164_169 {V : HL.HV} {k : IntKind} {n : Int} : HL.convV Try.prog V 164 169 (.int k n) = some (.int .i32 (IntKind.i32.wrap n)) := HL.conv_int Try.underlying164 Try.underlying169
@[go_sem] theorem T.cv165_2 {V : HL.HV} {k : IntKind} {n : Int} : HL.convV Try.prog V 165 2 (.int k n) = some (.int .i64 (IntKind.i64.wrap n)) := HL.conv_int Try.underlying165 Try.underlying2
@[go_sem] theorem T.cv165_3 {V : HL.HV} {k : IntKind} {n : Int} : HL.convV Try.prog V 165 3 (.int k n) = some (.int .i64 (IntKind.i64.wrap n)) := HL.conv_int Try.underlying165 Try.underlying3
@[go_sem] theorem T.cv165_5 {V : HL.HV} {k : IntKind} {n : Int} : HL.convV Try.prog V 165 5 (.int k n) = some (.int .u8 (IntKind.u8.wrap n)) := HL.conv_int Try.underlying165 Try.underlying5
@[go_sem] theorem T.cv165_6 {V : HL.HV} {k : IntKind} {n : Int} : HL.convV Try.prog V 165 6 (.int k n) = some (.int .u8 (IntKind.u8.wrap n)) := HL.conv_int Try.underlying165 Try.underlying6
@[go_sem] theorem T.cv165_12 {V : HL.HV} {k : IntKind} {n : Int} : HL.convV Try.prog V 165 12 (.int k n) = some (.int .u64 (IntKind.u64.wrap n)) := HL.conv_int Try.underlying165 Try.underlying12
@[go_sem] theorem T.cv165_21 {V : HL.HV} {k : IntKind} {n : Int} : HL.convV Try.prog V 165 21 (.int k n) = some (.int .i32 (IntKind.i32.wrap n)) := HL.conv_int Try.underlying165 Try.underlying21
@[go_sem] theorem T.cv165_25 {V : HL.HV} {k : IntKind} {n : Int} : HL.convV Try.prog V 165 25 (.int k n) = some (.int .i64 (IntKind.i64.wrap n)) := HL.conv_int Try.underlying165 Try.underlying25
@[go_sem] theorem T.cv165_155 {V : HL.HV} {k : IntKind} {n : Int} : HL.convV Try.prog V 165 155 (.int k n) = some (.int .u64 (IntKind.u64.wrap n)) := HL.conv_int Try.underlying165 Try.underlying155
@[go_sem] theorem T.cv165_156 {V : HL.HV} {k : IntKind} {n : Int} : HL.convV Try.prog V 165 156 (.int k n) = some (.int .u32 (IntKind.u32.wrap n)) := HL.conv_int Try.underlying165 Try.underlying156
@[go_sem] theorem T.cv165_164 {V : HL.HV} {k : IntKind} {n : Int} : HL.convV Try.prog V 165 164 (.int k n) = some (.int .u8 (IntKind.u8.wrap n)) := HL.conv_int Try.underlying165 Try.underlying164
@[go_sem] theorem T.cv165_165 {V : HL.HV} {k : IntKind} {n : Int} : HL.convV Try.prog V 165 165 (.int k n) = some (.int .u8 (IntKind.u8.wrap n)) := HL.conv_int Try.underlying165 Try.underlying165
@[go_sem] theorem T.cv165_168 {V : HL.HV} {k : IntKind} {n : Int} : HL.convV Try.prog V 165 168 (.int k n) = some (.int .i32 (IntKind.i32.wrap n)) := HL.conv_int Try.underlying165 Try.underlying168
@[go_sem] theorem T.cv165_169 {V : HL.HV} {k : IntKind} {n : Int} : HL.convV Try.prog V 165 169 (.int k n) = some (.int .i32 (IntKind.i32.wrap n)) := HL.conv_int Try.underlying165 Try.underlying169
@[go_sem] theorem T.cv168_2 {V : HL.HV} {k : IntKind} {n : Int} : HL.convV Try.prog V 168 2 (.int k n) = some (.int .i64 (IntKind.i64.wrap n)) := HL.conv_int Try.underlying168 Try.underlying2
@[go_sem] theorem T.cv168_3 {V : HL.HV} {k : IntKind} {n : Int} : HL.convV Try.prog V 168 3 (.int k n) = some (.int .i64 (IntKind.i64.wrap n)) := HL.conv_int Try.underlying168 Try.underlying3
@[go_sem] theorem T.cv168_5 {V : HL.HV} {k : IntKind} {n : Int} : HL.convV Try.prog V 168 5 (.int k n) = some (.int .u8 (IntKind.u8.wrap n)) := HL.conv_int Try.underlying168 Try.underlying5
@[go_sem] theorem T.cv168_6 {V : HL.HV} {k : IntKind} {n : Int} : HL.convV Try.prog V 168 6 (.int k n) = some (.int .u8 (IntKind.u8.wrap n)) := HL.conv_int Try.underlying168 Try.underlying6
@[go_sem] theorem T.cv168_12 {V : HL.HV} {k : IntKind} {n : Int} : HL.convV Try.prog V 168 12 (.int k n) = some (.int .u64 (IntKind.u64.wrap n)) := HL.conv_int Try.underlying168 Try.underlying12
@[go_sem] theorem T.cv168_21 {V : HL.HV} {k : IntKind} {n : Int} : HL.convV Try.prog V 168 21 (.int k n) = some (.int .i32 (IntKind.i32.wrap n)) := HL.conv_int Try.underlying168 Try.underlying21
@[go_sem] theorem T.cv168_25 {V : HL.HV} {k : IntKind} {n : Int} : HL.convV Try.prog V 168 25 (.int k n) = some (.int .i64 (IntKind.i64.wrap n)) := HL.conv_int Try.underlying168 Try.underlying25
@[go_sem] theorem T.cv168_155 {V : HL.HV} {k : IntKind} {n : Int} : HL.convV Try.prog V 168 155 (.int k n) = some (.int .u64 (IntKind.u64.wrap n)) := HL.conv_int Try.underlying168 Try.underlying155
@[go_sem] theorem T.cv168_156 {V : HL.HV} {k : IntKind} {n : Int} : HL.convV Try.prog V 168 156 (.int k n) = some (.int .u32 (IntKind.u32.wrap n)) := HL.conv_int Try.underlying168 Try.underlying156
@[go_sem] theorem T.cv168_164 {V : HL.HV} {k : IntKind} {n : Int} : HL.convV Try.prog V 168 164 (.int k n) = some (.int .u8 (IntKind.u8.wrap n)) := HL.conv_int Try.underlying168 Try.underlying164
@[go_sem] theorem T.cv168_165 {V : HL.HV} {k : IntKind} {n : Int} : HL.convV Try.prog V 168 165 (.int k n) = some (.int .u8 (IntKind.u8.wrap n)) := HL.conv_int Try.underlying168 Try.underlying165
@[go_sem] theorem T.cv168_168 {V : HL.HV} {k : IntKind} {n : Int} : HL.convV Try.prog V 168 168 (.int k n) = some (.int .i32 (IntKind.i32.wrap n)) := HL.conv_int Try.underlying168 Try.underlying168
@[go_sem] theorem T.cv168_169 {V : HL.HV} {k : IntKind} {n : Int} : HL.convV Try.prog V 168 169 (.int k n) = some (.int .i32 (IntKind.i32.wrap n)) := HL.conv_int Try.underlying168 Try.underlying169
@[go_sem] theorem T.cv169_2 {V : HL.HV} {k : IntKind} {n : Int} : HL.convV Try.prog V 169 2 (.int k n) = some (.int .i64 (IntKind.i64.wrap n)) := HL.conv_int Try.underlying169 Try.underlying2
@[go_sem] theorem T.cv169_3 {V : HL.HV} {k : IntKind} {n : Int} : HL.convV Try.prog V 169 3 (.int k n) = some (.int .i64 (IntKind.i64.wrap n)) := HL.conv_int Try.underlying169 Try.underlying3
@[go_sem] theorem T.cv169_5 {V : HL.HV} {k : IntKind} {n : Int} : HL.convV Try.prog V 169 5 (.int k n) = some (.int .u8 (IntKind.u8.wrap n)) := HL.conv_int Try.underlying169 Try.underlying5
@[go_sem] theorem T.cv169_6 {V : HL.HV} {k : IntKind} {n : Int} : HL.convV Try.prog V 169 6 (.int k n) = some (.int .u8 (IntKind.u8.wrap n)) := HL.conv_int Try.underlying169 Try.underlying6
@[go_sem] theorem T.cv169_12 {V : HL.HV} {k : IntKind} {n : Int} : HL.convV Try.prog V 169 12 (.int k n) = some (.int .u64 (IntKind.u64.wrap n)) := HL.conv_int Try.underlying169 Try.underlying12
@[go_sem] theorem T.cv169_21 {V : HL.HV} {k : IntKind} {n : Int} : HL.convV Try.prog V 169 21 (.int k n) = some (.int .i32 (IntKind.i32.wrap n)) := HL.conv_int Try.underlying169 Try.underlying21
@[go_sem] theorem T.cv169_25 {V : HL.HV} {k : IntKind} {n : Int} : HL.convV Try.prog V 169 25 (.int k n) = some (.int .i64 (IntKind.i64.wrap n)) := HL.conv_int Try.underlying169 Try.underlying25
@[go_sem] theorem T.cv169_155 {V : HL.HV} {k : IntKind} {n : Int} : HL.convV Try.prog V 169 155 (.int k n) = some (.int .u64 (IntKind.u64.wrap n)) := HL.conv_int Try.underlying169 Try.underlying155
@[go_sem] theorem T.cv169_156 {V : HL.HV} {k : IntKind} {n : Int} : HL.convV Try.prog V 169 156 (.int k n) = some (.int .u32 (IntKind.u32.wrap n)) := HL.conv_int Try.underlying169 Try.underlying156
@[go_sem] theorem T.cv169_164 {V : HL.HV} {k : IntKind} {n : Int} : HL.convV Try.prog V 169 164 (.int k n) = some (.int .u8 (IntKind.u8.wrap n)) := HL.conv_int Try.underlying169 Try.underlying164
@[go_sem] theorem T.cv169_165 {V : HL.HV} {k : IntKind} {n : Int} : HL.convV Try.prog V 169 165 (.int k n) = some (.int .u8 (IntKind.u8.wrap n)) := HL.conv_int Try.underlying169 Try.underlying165
@[go_sem] theorem T.cv169_168 {V : HL.HV} {k : IntKind} {n : Int} : HL.convV Try.prog V 169 168 (.int k n) = some (.int .i32 (IntKind.i32.wrap n)) := HL.conv_int Try.underlying169 Try.underlying168
@[go_sem] theorem T.cv169_169 {V : HL.HV} {k : IntKind} {n : Int} : HL.convV Try.prog V 169 169 (.int k n) = some (.int .i32 (IntKind.i32.wrap n)) := HL.conv_int Try.underlying169 Try.underlying169
@[go_sem] theorem T.bs22_1 {H : HL.Heap} {x0 : Int} {a1 : Option Addr} {l1 c1 : Nat} {a2 : Option Addr} {l2 c2 : Nat} {a3 : Option Addr} {l3 c3 : Nat} {x4 : Int} : HL.buildSliceV Try.prog H 22 1 [(0, .agg #[.int .i64 x0, .slice a1 l1 c1, .slice a2 l2 c2, .slice a3 l3 c3, .int .i64 x4])] = some (.slice (some ⟨H.size, 0, none⟩) 1 1, H.push (.cells #[.int .i64 x0, .slice a1 l1 c1, .slice a2 l2 c2, .slice a3 l3 c3, .int .i64 x4] 61)) := HL.bsl_of (vs := [.agg #[.int .i64 x0, .slice a1 l1 c1, .slice a2 l2 c2, .slice a3 l3 c3, .int .i64 x4]]) T.elem22 T.size61 T.zero61 (Nat.le_of_ble_eq_true rfl) rfl rfl
@[go_sem] theorem T.bs22_2 {H : HL.Heap} {x0 : Int} {a1 : Option Addr} {l1 c1 : Nat} {a2 : Option Addr} {l2 c2 : Nat} {a3 : Option Addr} {l3 c3 : Nat} {x4 : Int} {x5 : Int} {a6 : Option Addr} {l6 c6 : Nat} {a7 : Option Addr} {l7 c7 : Nat} {a8 : Option Addr} {l8 c8 : Nat} {x9 : Int} : HL.buildSliceV Try.prog H 22 2 [(0, .agg #[.int .i64 x0, .slice a1 l1 c1, .slice a2 l2 c2, .slice a3 l3 c3, .int .i64 x4]), (1, .agg #[.int .i64 x5, .slice a6 l6 c6, .slice a7 l7 c7, .slice a8 l8 c8, .int .i64 x9])] = some (.slice (some ⟨H.size, 0, none⟩) 2 2, H.push (.cells #[.int .i64 x0, .slice a1 l1 c1, .slice a2 l2 c2, .slice a3 l3 c3, .int .i64 x4, .int .i64 x5, .slice a6 l6 c6, .slice a7 l7 c7, .slice a8 l8 c8, .int .i64 x9] 61)) := HL.bsl_of (vs := [.agg #[.int .i64 x0, .slice a1 l1 c1, .slice a2 l2 c2, .slice a3 l3 c3, .int .i64 x4], .agg #[.int .i64 x5, .slice a6 l6 c6, .slice a7 l7 c7, .slice a8 l8 c8, .int .i64 x9]]) T.elem22 T.size61 T.zero61 (Nat.le_of_ble_eq_true rfl) rfl rfl
@[go_sem] theorem T.bs22_3 {H : HL.Heap} {x0 : Int} {a1 : Option Addr} {l1 c1 : Nat} {a2 : Option Addr} {l2 c2 : Nat} {a3 : Option Addr} {l3 c3 : Nat} {x4 : Int} {x5 : Int} {a6 : Option Addr} {l6 c6 : Nat} {a7 : Option Addr} {l7 c7 : Nat} {a8 : Option Addr} {l8 c8 : Nat} {x9 : Int} {x10 : Int} {a11 : Option Addr} {l11 c11 : Nat} {a12 : Option Addr} {l12 c12 : Nat} {a13 : Option Addr} {l13 c13 : Nat} {x14 : Int} : HL.buildSliceV Try.prog H 22 3 [(0, .agg #[.int .i64 x0, .slice a1 l1 c1, .slice a2 l2 c2, .slice a3 l3 c3, .int .i64 x4]), (1, .agg #[.int .i64 x5, .slice a6 l6 c6, .slice a7 l7 c7, .slice a8 l8 c8, .int .i64 x9]), (2, .agg #[.int .i64 x10, .slice a11 l11 c11, .slice a12 l12 c12, .slice a13 l13 c13, .int .i64 x14])] = some (.slice (some ⟨H.size, 0, none⟩) 3 3, H.push (.cells #[.int .i64 x0, .slice a1 l1 c1, .slice a2 l2 c2, .slice a3 l3 c3, .int .i64 x4, .int .i64 x5, .slice a6 l6 c6, .slice a7 l7 c7, .slice a8 l8 c8, .int .i64 x9, .int .i64 x10, .slice a11 l11 c11, .slice a12 l12 c12, .slice a13 l13 c13, .int .i64 x14] 61)) := HL.bsl_of (vs := [.agg #[.int .i64 x0, .slice a1 l1 c1, .slice a2 l2 c2, .slice a3 l3 c3, .int .i64 x4], .agg #[.int .i64 x5, .slice a6 l6 c6, .slice a7 l7 c7, .slice a8 l8 c8, .int .i64 x9], .agg #[.int .i64 x10, .slice a11 l11 c11, .slice a12 l12 c12, .slice a13 l13 c13, .int .i64 x14]]) T.elem22 T.size61 T.zero61 (Nat.le_of_ble_eq_true rfl) rfl rfl
@[go_sem] theorem T.bs44_1 {H : HL.Heap} {x0 : ByteArray} {x1 : Int} {x2 : Int} {x3 : Bool} {x4 : Bool} : HL.buildSliceV Try.prog H 44 1 [(0, .agg #[.string x0, .int .i64 x1, .int .i64 x2, .bool x3, .bool x4])] = some (.slice (some ⟨H.size, 0, none⟩) 1 1, H.push (.cells #[.string x0, .int .i64 x1, .int .i64 x2, .bool x3, .bool x4] 121)) := HL.bsl_of (vs := [.agg #[.string x0, .int .i64 x1, .int .i64 x2, .bool x3, .bool x4]]) T.elem44 T.size121 T.zero121 (Nat.le_of_ble_eq_true rfl) rfl rfl
@[go_sem] theorem T.bs44_2 {H : HL.Heap} {x0 : ByteArray} {x1 : Int} {x2 : Int} {x3 : Bool} {x4 : Bool} {x5 : ByteArray} {x6 : Int} {x7 : Int} {x8 : Bool} {x9 : Bool} : HL.buildSliceV Try.prog H 44 2 [(0, .agg #[.string x0, .int .i64 x1, .int .i64 x2, .bool x3, .bool x4]), (1, .agg #[.string x5, .int .i64 x6, .int .i64 x7, .bool x8, .bool x9])] = some (.slice (some ⟨H.size, 0, none⟩) 2 2, H.push (.cells #[.string x0, .int .i64 x1, .int .i64 x2, .bool x3, .bool x4, .string x5, .int .i64 x6, .int .i64 x7, .bool x8, .bool x9] 121)) := HL.bsl_of (vs := [.agg #[.string x0, .int .i64 x1, .int .i64 x2, .bool x3, .bool x4], .agg #[.string x5, .int .i64 x6, .int .i64 x7, .bool x8, .bool x9]]) T.elem44 T.size121 T.zero121 (Nat.le_of_ble_eq_true rfl) rfl rfl
@[go_sem] theorem T.bs44_3 {H : HL.Heap} {x0 : ByteArray} {x1 : Int} {x2 : Int} {x3 : Bool} {x4 : Bool} {x5 : ByteArray} {x6 : Int} {x7 : Int} {x8 : Bool} {x9 : Bool} {x10 : ByteArray} {x11 : Int} {x12 : Int} {x13 : Bool} {x14 : Bool} : HL.buildSliceV Try.prog H 44 3 [(0, .agg #[.string x0, .int .i64 x1, .int .i64 x2, .bool x3, .bool x4]), (1, .agg #[.string x5, .int .i64 x6, .int .i64 x7, .bool x8, .bool x9]), (2, .agg #[.string x10, .int .i64 x11, .int .i64 x12, .bool x13, .bool x14])] = some (.slice (some ⟨H.size, 0, none⟩) 3 3, H.push (.cells #[.string x0, .int .i64 x1, .int .i64 x2, .bool x3, .bool x4, .string x5, .int .i64 x6, .int .i64 x7, .bool x8, .bool x9, .string x10, .int .i64 x11, .int .i64 x12, .bool x13, .bool x14] 121)) := HL.bsl_of (vs := [.agg #[.string x0, .int .i64 x1, .int .i64 x2, .bool x3, .bool x4], .agg #[.string x5, .int .i64 x6, .int .i64 x7, .bool x8, .bool x9], .agg #[.string x10, .int .i64 x11, .int .i64 x12, .bool x13, .bool x14]]) T.elem44 T.size121 T.zero121 (Nat.le_of_ble_eq_true rfl) rfl rfl
@[go_sem] theorem T.bs45_1 {H : HL.Heap} {x0 : ByteArray} {x1 : Int} {x2 : Int} : HL.buildSliceV Try.prog H 45 1 [(0, .agg #[.string x0, .int .i64 x1, .int .i64 x2])] = some (.slice (some ⟨H.size, 0, none⟩) 1 1, H.push (.cells #[.string x0, .int .i64 x1, .int .i64 x2] 59)) := HL.bsl_of (vs := [.agg #[.string x0, .int .i64 x1, .int .i64 x2]]) T.elem45 T.size59 T.zero59 (Nat.le_of_ble_eq_true rfl) rfl rfl
@[go_sem] theorem T.bs45_2 {H : HL.Heap} {x0 : ByteArray} {x1 : Int} {x2 : Int} {x3 : ByteArray} {x4 : Int} {x5 : Int} : HL.buildSliceV Try.prog H 45 2 [(0, .agg #[.string x0, .int .i64 x1, .int .i64 x2]), (1, .agg #[.string x3, .int .i64 x4, .int .i64 x5])] = some (.slice (some ⟨H.size, 0, none⟩) 2 2, H.push (.cells #[.string x0, .int .i64 x1, .int .i64 x2, .string x3, .int .i64 x4, .int .i64 x5] 59)) := HL.bsl_of (vs := [.agg #[.string x0, .int .i64 x1, .int .i64 x2], .agg #[.string x3, .int .i64 x4, .int .i64 x5]]) T.elem45 T.size59 T.zero59 (Nat.le_of_ble_eq_true rfl) rfl rfl
@[go_sem] theorem T.bs45_3 {H : HL.Heap} {x0 : ByteArray} {x1 : Int} {x2 : Int} {x3 : ByteArray} {x4 : Int} {x5 : Int} {x6 : ByteArray} {x7 : Int} {x8 : Int} : HL.buildSliceV Try.prog H 45 3 [(0, .agg #[.string x0, .int .i64 x1, .int .i64 x2]), (1, .agg #[.string x3, .int .i64 x4, .int .i64 x5]), (2, .agg #[.string x6, .int .i64 x7, .int .i64 x8])] = some (.slice (some ⟨H.size, 0, none⟩) 3 3, H.push (.cells #[.string x0, .int .i64 x1, .int .i64 x2, .string x3, .int .i64 x4, .int .i64 x5, .string x6, .int .i64 x7, .int .i64 x8] 59)) := HL.bsl_of (vs := [.agg #[.string x0, .int .i64 x1, .int .i64 x2], .agg #[.string x3, .int .i64 x4, .int .i64 x5], .agg #[.string x6, .int .i64 x7, .int .i64 x8]]) T.elem45 T.size59 T.zero59 (Nat.le_of_ble_eq_true rfl) rfl rfl
@[go_sem] theorem T.bs45_4 {H : HL.Heap} {x0 : ByteArray} {x1 : Int} {x2 : Int} {x3 : ByteArray} {x4 : Int} {x5 : Int} {x6 : ByteArray} {x7 : Int} {x8 : Int} {x9 : ByteArray} {x10 : Int} {x11 : Int} : HL.buildSliceV Try.prog H 45 4 [(0, .agg #[.string x0, .int .i64 x1, .int .i64 x2]), (1, .agg #[.string x3, .int .i64 x4, .int .i64 x5]), (2, .agg #[.string x6, .int .i64 x7, .int .i64 x8]), (3, .agg #[.string x9, .int .i64 x10, .int .i64 x11])] = some (.slice (some ⟨H.size, 0, none⟩) 4 4, H.push (.cells #[.string x0, .int .i64 x1, .int .i64 x2, .string x3, .int .i64 x4, .int .i64 x5, .string x6, .int .i64 x7, .int .i64 x8, .string x9, .int .i64 x10, .int .i64 x11] 59)) := HL.bsl_of (vs := [.agg #[.string x0, .int .i64 x1, .int .i64 x2], .agg #[.string x3, .int .i64 x4, .int .i64 x5], .agg #[.string x6, .int .i64 x7, .int .i64 x8], .agg #[.string x9, .int .i64 x10, .int .i64 x11]]) T.elem45 T.size59 T.zero59 (Nat.le_of_ble_eq_true rfl) rfl rfl
@[go_sem] theorem T.bs46_1 {H : HL.Heap} {x0 : ByteArray} {x1 : Int} {a2 : Option Addr} {l2 c2 : Nat} {x3 : Int} {a4 : Option Addr} {l4 c4 : Nat} {a5 : Option Addr} {l5 c5 : Nat} {a6 : Option Addr} {l6 c6 : Nat} {a7 : Option Addr} {l7 c7 : Nat} : HL.buildSliceV Try.prog H 46 1 [(0, .agg #[.string x0, .int .i64 x1, .slice a2 l2 c2, .int .i64 x3, .slice a4 l4 c4, .slice a5 l5 c5, .slice a6 l6 c6, .slice a7 l7 c7])] = some (.slice (some ⟨H.size, 0, none⟩) 1 1, H.push (.cells #[.string x0, .int .i64 x1, .slice a2 l2 c2, .int .i64 x3, .slice a4 l4 c4, .slice a5 l5 c5, .slice a6 l6 c6, .slice a7 l7 c7] 55)) := HL.bsl_of (vs := [.agg #[.string x0, .int .i64 x1, .slice a2 l2 c2, .int .i64 x3, .slice a4 l4 c4, .slice a5 l5 c5, .slice a6 l6 c6, .slice a7 l7 c7]]) T.elem46 T.size55 T.zero55 (Nat.le_of_ble_eq_true rfl) rfl rfl
@[go_sem] theorem T.bs46_2 {H : HL.Heap} {x0 : ByteArray} {x1 : Int} {a2 : Option Addr} {l2 c2 : Nat} {x3 : Int} {a4 : Option Addr} {l4 c4 : Nat} {a5 : Option Addr} {l5 c5 : Nat} {a6 : Option Addr} {l6 c6 : Nat} {a7 : Option Addr} {l7 c7 : Nat} {x8 : ByteArray} {x9 : Int} {a10 : Option Addr} {l10 c10 : Nat} {x11 : Int} {a12 : Option Addr} {l12 c12 : Nat} {a13 : Option Addr} {l13 c13 : Nat} {a14 : Option Addr} {l14 c14 : Nat} {a15 : Option Addr} {l15 c15 : Nat} : HL.buildSliceV Try.prog H 46 2 [(0, .agg #[.string x0, .int .i64 x1, .slice a2 l2 c2, .int .i64 x3, .slice a4 l4 c4, .slice a5 l5 c5, .slice a6 l6 c6, .slice a7 l7 c7]), (1, .agg #[.string x8, .int .i64 x9, .slice a10 l10 c10, .int .i64 x11, .slice a12 l12 c12, .slice a13 l13 c13, .slice a14 l14 c14, .slice a15 l15 c15])] = some (.slice (some ⟨H.size, 0, none⟩) 2 2, H.push (.cells #[.string x0, .int .i64 x1, .slice a2 l2 c2, .int .i64 x3, .slice a4 l4 c4, .slice a5 l5 c5, .slice a6 l6 c6, .slice a7 l7 c7, .string x8, .int .i64 x9, .slice a10 l10 c10, .int .i64 x11, .slice a12 l12 c12, .slice a13 l13 c13, .slice a14 l14 c14, .slice a15 l15 c15] 55)) := HL.bsl_of (vs := [.agg #[.string x0, .int .i64 x1, .slice a2 l2 c2, .int .i64 x3, .slice a4 l4 c4, .slice a5 l5 c5, .slice a6 l6 c6, .slice a7 l7 c7], .agg #[.string x8, .int .i64 x9, .slice a10 l10 c10, .int .i64 x11, .slice a12 l12 c12, .slice a13 l13 c13, .slice a14 l14 c14, .slice a15 l15 c15]]) T.elem46 T.size55 T.zero55 (Nat.le_of_ble_eq_true rfl) rfl rfl
@[go_sem] theorem T.bs53_1 {H : HL.Heap} {x0 : Int} {x1 : Int} {x2 : Int} {x3 : Int} {x4 : Int} {x5 : Int} {x6 : Bool} {x7 : Int} : HL.buildSliceV Try.prog H 53 1 [(0, .agg #[.int .i64 x0, .int .i64 x1, .int .i64 x2, .int .i64 x3, .int .i64 x4, .int .i64 x5, .bool x6, .int .i64 x7])] = some (.slice (some ⟨H.size, 0, none⟩) 1 1, H.push (.cells #[.int .i64 x0, .int .i64 x1, .int .i64 x2, .int .i64 x3, .int .i64 x4, .int .i64 x5, .bool x6, .int .i64 x7] 57)) := HL.bsl_of (vs := [.agg #[.int .i64 x0, .int .i64 x1, .int .i64 x2, .int .i64 x3, .int .i64 x4, .int .i64 x5, .bool x6, .int .i64 x7]]) T.elem53 T.size57 T.zero57 (Nat.le_of_ble_eq_true rfl) rfl rfl
@[go_sem] theorem T.bs53_2 {H : HL.Heap} {x0 : Int} {x1 : Int} {x2 : Int} {x3 : Int} {x4 : Int} {x5 : Int} {x6 : Bool} {x7 : Int} {x8 : Int} {x9 : Int} {x10 : Int} {x11 : Int} {x12 : Int} {x13 : Int} {x14 : Bool} {x15 : Int} : HL.buildSliceV Try.prog H 53 2 [(0, .agg #[.int .i64 x0, .int .i64 x1, .int .i64 x2, .int .i64 x3, .int .i64 x4, .int .i64 x5, .bool x6, .int .i64 x7]), (1, .agg #[.int .i64 x8, .int .i64 x9, .int .i64 x10, .int .i64 x11, .int .i64 x12, .int .i64 x13, .bool x14, .int .i64 x15])] = some (.slice (some ⟨H.size, 0, none⟩) 2 2, H.push (.cells #[.int .i64 x0, .int .i64 x1, .int .i64 x2, .int .i64 x3, .int .i64 x4, .int .i64 x5, .bool x6, .int .i64 x7, .int .i64 x8, .int .i64 x9, .int .i64 x10, .int .i64 x11, .int .i64 x12, .int .i64 x13, .bool x14, .int .i64 x15] 57)) := HL.bsl_of (vs := [.agg #[.int .i64 x0, .int .i64 x1, .int .i64 x2, .int .i64 x3, .int .i64 x4, .int .i64 x5, .bool x6, .int .i64 x7], .agg #[.int .i64 x8, .int .i64 x9, .int .i64 x10, .int .i64 x11, .int .i64 x12, .int .i64 x13, .bool x14, .int .i64 x15]]) T.elem53 T.size57 T.zero57 (Nat.le_of_ble_eq_true rfl) rfl rfl
@[go_sem] theorem T.bs78_1 {H : HL.Heap} {x0 : Int} {x1 : ByteArray} {x2 : Int} : HL.buildSliceV Try.prog H 78 1 [(0, .agg #[.int .i64 x0, .string x1, .int .i64 x2])] = some (.slice (some ⟨H.size, 0, none⟩) 1 1, H.push (.cells #[.int .i64 x0, .string x1, .int .i64 x2] 114)) := HL.bsl_of (vs := [.agg #[.int .i64 x0, .string x1, .int .i64 x2]]) T.elem78 T.size114 T.zero114 (Nat.le_of_ble_eq_true rfl) rfl rfl
@[go_sem] theorem T.bs78_2 {H : HL.Heap} {x0 : Int} {x1 : ByteArray} {x2 : Int} {x3 : Int} {x4 : ByteArray} {x5 : Int} : HL.buildSliceV Try.prog H 78 2 [(0, .agg #[.int .i64 x0, .string x1, .int .i64 x2]), (1, .agg #[.int .i64 x3, .string x4, .int .i64 x5])] = some (.slice (some ⟨H.size, 0, none⟩) 2 2, H.push (.cells #[.int .i64 x0, .string x1, .int .i64 x2, .int .i64 x3, .string x4, .int .i64 x5] 114)) := HL.bsl_of (vs := [.agg #[.int .i64 x0, .string x1, .int .i64 x2], .agg #[.int .i64 x3, .string x4, .int .i64 x5]]) T.elem78 T.size114 T.zero114 (Nat.le_of_ble_eq_true rfl) rfl rfl
@[go_sem] theorem T.bs78_3 {H : HL.Heap} {x0 : Int} {x1 : ByteArray} {x2 : Int} {x3 : Int} {x4 : ByteArray} {x5 : Int} {x6 : Int} {x7 : ByteArray} {x8 : Int} : HL.buildSliceV Try.prog H 78 3 [(0, .agg #[.int .i64 x0, .string x1, .int .i64 x2]), (1, .agg #[.int .i64 x3, .string x4, .int .i64 x5]), (2, .agg #[.int .i64 x6, .string x7, .int .i64 x8])] = some (.slice (some ⟨H.size, 0, none⟩) 3 3, H.push (.cells #[.int .i64 x0, .string x1, .int .i64 x2, .int .i64 x3, .string x4, .int .i64 x5, .int .i64 x6, .string x7, .int .i64 x8] 114)) := HL.bsl_of (vs := [.agg #[.int .i64 x0, .string x1, .int .i64 x2], .agg #[.int .i64 x3, .string x4, .int .i64 x5], .agg #[.int .i64 x6, .string x7, .int .i64 x8]]) T.elem78 T.size114 T.zero114 (Nat.le_of_ble_eq_true rfl) rfl rfl
@[go_sem] theorem T.bs78_4 {H : HL.Heap} {x0 : Int} {x1 : ByteArray} {x2 : Int} {x3 : Int} {x4 : ByteArray} {x5 : Int} {x6 : Int} {x7 : ByteArray} {x8 : Int} {x9 : Int} {x10 : ByteArray} {x11 : Int} : HL.buildSliceV Try.prog H 78 4 [(0, .agg #[.int .i64 x0, .string x1, .int .i64 x2]), (1, .agg #[.int .i64 x3, .string x4, .int .i64 x5]), (2, .agg #[.int .i64 x6, .string x7, .int .i64 x8]), (3, .agg #[.int .i64 x9, .string x10, .int .i64 x11])] = some (.slice (some ⟨H.size, 0, none⟩) 4 4, H.push (.cells #[.int .i64 x0, .string x1, .int .i64 x2, .int .i64 x3, .string x4, .int .i64 x5, .int .i64 x6, .string x7, .int .i64 x8, .int .i64 x9, .string x10, .int .i64 x11] 114)) := HL.bsl_of (vs := [.agg #[.int .i64 x0, .string x1, .int .i64 x2], .agg #[.int .i64 x3, .string x4, .int .i64 x5], .agg #[.int .i64 x6, .string x7, .int .i64 x8], .agg #[.int .i64 x9, .string x10, .int .i64 x11]]) T.elem78 T.size114 T.zero114 (Nat.le_of_ble_eq_true rfl) rfl rfl
@[go_sem] theorem T.bs84_1 {H : HL.Heap} {x0 : Int} {a1 : Option Addr} {l1 c1 : Nat} {a2 : Option Addr} {l2 c2 : Nat} {a3 : Option Addr} {l3 c3 : Nat} {x4 : Int} {a5 : Option Addr} {l5 c5 : Nat} : HL.buildSliceV Try.prog H 84 1 [(0, .agg #[.int .i64 x0, .slice a1 l1 c1, .slice a2 l2 c2, .slice a3 l3 c3, .int .i64 x4, .slice a5 l5 c5])] = some (.slice (some ⟨H.size, 0, none⟩) 1 1, H.push (.cells #[.int .i64 x0, .slice a1 l1 c1, .slice a2 l2 c2, .slice a3 l3 c3, .int .i64 x4, .slice a5 l5 c5] 86)) := HL.bsl_of (vs := [.agg #[.int .i64 x0, .slice a1 l1 c1, .slice a2 l2 c2, .slice a3 l3 c3, .int .i64 x4, .slice a5 l5 c5]]) T.elem84 T.size86 T.zero86 (Nat.le_of_ble_eq_true rfl) rfl rfl
@[go_sem] theorem T.bs84_2 {H : HL.Heap} {x0 : Int} {a1 : Option Addr} {l1 c1 : Nat} {a2 : Option Addr} {l2 c2 : Nat} {a3 : Option Addr} {l3 c3 : Nat} {x4 : Int} {a5 : Option Addr} {l5 c5 : Nat} {x6 : Int} {a7 : Option Addr} {l7 c7 : Nat} {a8 : Option Addr} {l8 c8 : Nat} {a9 : Option Addr} {l9 c9 : Nat} {x10 : Int} {a11 : Option Addr} {l11 c11 : Nat} : HL.buildSliceV Try.prog H 84 2 [(0, .agg #[.int .i64 x0, .slice a1 l1 c1, .slice a2 l2 c2, .slice a3 l3 c3, .int .i64 x4, .slice a5 l5 c5]), (1, .agg #[.int .i64 x6, .slice a7 l7 c7, .slice a8 l8 c8, .slice a9 l9 c9, .int .i64 x10, .slice a11 l11 c11])] = some (.slice (some ⟨H.size, 0, none⟩) 2 2, H.push (.cells #[.int .i64 x0, .slice a1 l1 c1, .slice a2 l2 c2, .slice a3 l3 c3, .int .i64 x4, .slice a5 l5 c5, .int .i64 x6, .slice a7 l7 c7, .slice a8 l8 c8, .slice a9 l9 c9, .int .i64 x10, .slice a11 l11 c11] 86)) := HL.bsl_of (vs := [.agg #[.int .i64 x0, .slice a1 l1 c1, .slice a2 l2 c2, .slice a3 l3 c3, .int .i64 x4, .slice a5 l5 c5], .agg #[.int .i64 x6, .slice a7 l7 c7, .slice a8 l8 c8, .slice a9 l9 c9, .int .i64 x10, .slice a11 l11 c11]]) T.elem84 T.size86 T.zero86 (Nat.le_of_ble_eq_true rfl) rfl rfl
@[go_sem] theorem T.bs152_1 {H : HL.Heap} {x0 : Int} {x1 : Int} : HL.buildSliceV Try.prog H 152 1 [(0, .agg #[.int .i64 x0, .int .i64 x1])] = some (.slice (some ⟨H.size, 0, none⟩) 1 1, H.push (.cells #[.int .i64 x0, .int .i64 x1] 138)) := HL.bsl_of (vs := [.agg #[.int .i64 x0, .int .i64 x1]]) T.elem152 T.size138 T.zero138 (Nat.le_of_ble_eq_true rfl) rfl rfl
@[go_sem] theorem T.bs152_2 {H : HL.Heap} {x0 : Int} {x1 : Int} {x2 : Int} {x3 : Int} : HL.buildSliceV Try.prog H 152 2 [(0, .agg #[.int .i64 x0, .int .i64 x1]), (1, .agg #[.int .i64 x2, .int .i64 x3])] = some (.slice (some ⟨H.size, 0, none⟩) 2 2, H.push (.cells #[.int .i64 x0, .int .i64 x1, .int .i64 x2, .int .i64 x3] 138)) := HL.bsl_of (vs := [.agg #[.int .i64 x0, .int .i64 x1], .agg #[.int .i64 x2, .int .i64 x3]]) T.elem152 T.size138 T.zero138 (Nat.le_of_ble_eq_true rfl) rfl rfl
@[go_sem] theorem T.bs152_3 {H : HL.Heap} {x0 : Int} {x1 : Int} {x2 : Int} {x3 : Int} {x4 : Int} {x5 : Int} : HL.buildSliceV Try.prog H 152 3 [(0, .agg #[.int .i64 x0, .int .i64 x1]), (1, .agg #[.int .i64 x2, .int .i64 x3]), (2, .agg #[.int .i64 x4, .int .i64 x5])] = some (.slice (some ⟨H.size, 0, none⟩) 3 3, H.push (.cells #[.int .i64 x0, .int .i64 x1, .int .i64 x2, .int .i64 x3, .int .i64 x4, .int .i64 x5] 138)) := HL.bsl_of (vs := [.agg #[.int .i64 x0, .int .i64 x1], .agg #[.int .i64 x2, .int .i64 x3], .agg #[.int .i64 x4, .int .i64 x5]]) T.elem152 T.size138 T.zero138 (Nat.le_of_ble_eq_true rfl) rfl rfl
@[go_sem] theorem T.bs152_4 {H : HL.Heap} {x0 : Int} {x1 : Int} {x2 : Int} {x3 : Int} {x4 : Int} {x5 : Int} {x6 : Int} {x7 : Int} : HL.buildSliceV Try.prog H 152 4 [(0, .agg #[.int .i64 x0, .int .i64 x1]), (1, .agg #[.int .i64 x2, .int .i64 x3]), (2, .agg #[.int .i64 x4, .int .i64 x5]), (3, .agg #[.int .i64 x6, .int .i64 x7])] = some (.slice (some ⟨H.size, 0, none⟩) 4 4, H.push (.cells #[.int .i64 x0, .int .i64 x1, .int .i64 x2, .int .i64 x3, .int .i64 x4, .int .i64 x5, .int .i64 x6, .int .i64 x7] 138)) := HL.bsl_of (vs := [.agg #[.int .i64 x0, .int .i64 x1], .agg #[.int .i64 x2, .int .i64 x3], .agg #[.int .i64 x4, .int .i64 x5], .agg #[.int .i64 x6, .int .i64 x7]]) T.elem152 T.size138 T.zero138 (Nat.le_of_ble_eq_true rfl) rfl rfl
@[go_sem] theorem T.stn27 {H : HL.Heap} {z0 z1 : Value} {x0 : Int} {x1 : Int} : HL.storeA Try.prog (H.push (.cells #[z0, z1] 27)) 27 ⟨H.size, 0, none⟩ (.agg #[.int .i64 x0, .int .i64 x1]) = some (H.push (.cells #[.int .i64 x0, .int .i64 x1] 27)) := HL.store_new (z := [z0, z1]) (vs := [.int .i64 x0, .int .i64 x1]) T.size27 rfl (HL.one_all rfl)
@[go_sem] theorem T.ln27 {H : HL.Heap} {z0 z1 : Value} : HL.cellsH (HL.cellH (H.push (.cells #[z0, z1] 27))) ⟨H.size, 0, none⟩ 0 2 = some [z0, z1] := HL.Blk.cells0 (new := [z0, z1]) (HL.Blk.new rfl)
@[go_sem] theorem T.stn35 {H : HL.Heap} {z0 z1 z2 z3 : Value} {x0 : Int} {x1 : Int} {x2 : Int} {x3 : Int} : HL.storeA Try.prog (H.push (.cells #[z0, z1, z2, z3] 35)) 35 ⟨H.size, 0, none⟩ (.agg #[.int .i64 x0, .int .i64 x1, .int .i64 x2, .int .i64 x3]) = some (H.push (.cells #[.int .i64 x0, .int .i64 x1, .int .i64 x2, .int .i64 x3] 35)) := HL.store_new (z := [z0, z1, z2, z3]) (vs := [.int .i64 x0, .int .i64 x1, .int .i64 x2, .int .i64 x3]) T.size35 rfl (HL.one_all rfl)
@[go_sem] theorem T.ln35 {H : HL.Heap} {z0 z1 z2 z3 : Value} : HL.cellsH (HL.cellH (H.push (.cells #[z0, z1, z2, z3] 35))) ⟨H.size, 0, none⟩ 0 4 = some [z0, z1, z2, z3] := HL.Blk.cells0 (new := [z0, z1, z2, z3]) (HL.Blk.new rfl)
@[go_sem] theorem T.stn49 {H : HL.Heap} {z0 z1 z2 z3 z4 z5 z6 : Value} {a0 : Option Addr} {l0 c0 : Nat} {x1 : Int} {a2 : Option Addr} {l2 c2 : Nat} {a3 : Option Addr} {l3 c3 : Nat} {a4 : Option Addr} {l4 c4 : Nat} {a5 : Option Addr} {l5 c5 : Nat} {x6 : Bool} : HL.storeA Try.prog (H.push (.cells #[z0, z1, z2, z3, z4, z5, z6] 49)) 49 ⟨H.size, 0, none⟩ (.agg #[.slice a0 l0 c0, .int .i64 x1, .slice a2 l2 c2, .slice a3 l3 c3, .slice a4 l4 c4, .slice a5 l5 c5, .bool x6]) = some (H.push (.cells #[.slice a0 l0 c0, .int .i64 x1, .slice a2 l2 c2, .slice a3 l3 c3, .slice a4 l4 c4, .slice a5 l5 c5, .bool x6] 49)) := HL.store_new (z := [z0, z1, z2, z3, z4, z5, z6]) (vs := [.slice a0 l0 c0, .int .i64 x1, .slice a2 l2 c2, .slice a3 l3 c3, .slice a4 l4 c4, .slice a5 l5 c5, .bool x6]) T.size49 rfl (HL.one_all rfl)
@[go_sem] theorem T.ln49 {H : HL.Heap} {z0 z1 z2 z3 z4 z5 z6 : Value} : HL.cellsH (HL.cellH (H.push (.cells #[z0, z1, z2, z3, z4, z5, z6] 49))) ⟨H.size, 0, none⟩ 0 7 = some [z0, z1, z2, z3, z4, z5, z6] := HL.Blk.cells0 (new := [z0, z1, z2, z3, z4, z5, z6]) (HL.Blk.new rfl)
@[go_sem] theorem T.stn55 {H : HL.Heap} {z0 z1 z2 z3 z4 z5 z6 z7 : Value} {x0 : ByteArray} {x1 : Int} {a2 : Option Addr} {l2 c2 : Nat} {x3 : Int} {a4 : Option Addr} {l4 c4 : Nat} {a5 : Option Addr} {l5 c5 : Nat} {a6 : Option Addr} {l6 c6 : Nat} {a7 : Option Addr} {l7 c7 : Nat} : HL.storeA Try.prog (H.push (.cells #[z0, z1, z2, z3, z4, z5, z6, z7] 55)) 55 ⟨H.size, 0, none⟩ (.agg #[.string x0, .int .i64 x1, .slice a2 l2 c2, .int .i64 x3, .slice a4 l4 c4, .slice a5 l5 c5, .slice a6 l6 c6, .slice a7 l7 c7]) = some (H.push (.cells #[.string x0, .int .i64 x1, .slice a2 l2 c2, .int .i64 x3, .slice a4 l4 c4, .slice a5 l5 c5, .slice a6 l6 c6, .slice a7 l7 c7] 55)) := HL.store_new (z := [z0, z1, z2, z3, z4, z5, z6, z7]) (vs := [.string x0, .int .i64 x1, .slice a2 l2 c2, .int .i64 x3, .slice a4 l4 c4, .slice a5 l5 c5, .slice a6 l6 c6, .slice a7 l7 c7]) T.size55 rfl (HL.one_all rfl)
@[go_sem] theorem T.ln55 {H : HL.Heap} {z0 z1 z2 z3 z4 z5 z6 z7 : Value} : HL.cellsH (HL.cellH (H.push (.cells #[z0, z1, z2, z3, z4, z5, z6, z7] 55))) ⟨H.size, 0, none⟩ 0 8 = some [z0, z1, z2, z3, z4, z5, z6, z7] := HL.Blk.cells0 (new := [z0, z1, z2, z3, z4, z5, z6, z7]) (HL.Blk.new rfl)
@[go_sem] theorem T.stn57 {H : HL.Heap} {z0 z1 z2 z3 z4 z5 z6 z7 : Value} {x0 : Int} {x1 : Int} {x2 : Int} {x3 : Int} {x4 : Int} {x5 : Int} {x6 : Bool} {x7 : Int} : HL.storeA Try.prog (H.push (.cells #[z0, z1, z2, z3, z4, z5, z6, z7] 57)) 57 ⟨H.size, 0, none⟩ (.agg #[.int .i64 x0, .int .i64 x1, .int .i64 x2, .int .i64 x3, .int .i64 x4, .int .i64 x5, .bool x6, .int .i64 x7]) = some (H.push (.cells #[.int .i64 x0, .int .i64 x1, .int .i64 x2, .int .i64 x3, .int .i64 x4, .int .i64 x5, .bool x6, .int .i64 x7] 57)) := HL.store_new (z := [z0, z1, z2, z3, z4, z5, z6, z7]) (vs := [.int .i64 x0, .int .i64 x1, .int .i64 x2, .int .i64 x3, .int .i64 x4, .int .i64 x5, .bool x6, .int .i64 x7]) T.size57 rfl (HL.one_all rfl)
@[go_sem] theorem T.ln57 {H : HL.Heap} {z0 z1 z2 z3 z4 z5 z6 z7 : Value} : HL.cellsH (HL.cellH (H.push (.cells #[z0, z1, z2, z3, z4, z5, z6, z7] 57))) ⟨H.size, 0, none⟩ 0 8 = some [z0, z1, z2, z3, z4, z5, z6, z7] := HL.Blk.cells0 (new := [z0, z1, z2, z3, z4, z5, z6, z7]) (HL.Blk.new rfl)
@[go_sem] theorem T.stn59 {H : HL.Heap} {z0 z1 z2 : Value} {x0 : ByteArray} {x1 : Int} {x2 : Int} : HL.storeA Try.prog (H.push (.cells #[z0, z1, z2] 59)) 59 ⟨H.size, 0, none⟩ (.agg #[.string x0, .int .i64 x1, .int .i64 x2]) = some (H.push (.cells #[.string x0, .int .i64 x1, .int .i64 x2] 59)) := HL.store_new (z := [z0, z1, z2]) (vs := [.string x0, .int .i64 x1, .int .i64 x2]) T.size59 rfl (HL.one_all rfl)
@[go_sem] theorem T.ln59 {H : HL.Heap} {z0 z1 z2 : Value} : HL.cellsH (HL.cellH (H.push (.cells #[z0, z1, z2] 59))) ⟨H.size, 0, none⟩ 0 3 = some [z0, z1, z2] := HL.Blk.cells0 (new := [z0, z1, z2]) (HL.Blk.new rfl)
@[go_sem] theorem T.stn61 {H : HL.Heap} {z0 z1 z2 z3 z4 : Value} {x0 : Int} {a1 : Option Addr} {l1 c1 : Nat} {a2 : Option Addr} {l2 c2 : Nat} {a3 : Option Addr} {l3 c3 : Nat} {x4 : Int} : HL.storeA Try.prog (H.push (.cells #[z0, z1, z2, z3, z4] 61)) 61 ⟨H.size, 0, none⟩ (.agg #[.int .i64 x0, .slice a1 l1 c1, .slice a2 l2 c2, .slice a3 l3 c3, .int .i64 x4]) = some (H.push (.cells #[.int .i64 x0, .slice a1 l1 c1, .slice a2 l2 c2, .slice a3 l3 c3, .int .i64 x4] 61)) := HL.store_new (z := [z0, z1, z2, z3, z4]) (vs := [.int .i64 x0, .slice a1 l1 c1, .slice a2 l2 c2, .slice a3 l3 c3, .int .i64 x4]) T.size61 rfl (HL.one_all rfl)
@[go_sem] theorem T.ln61 {H : HL.Heap} {z0 z1 z2 z3 z4 : Value} : HL.cellsH (HL.cellH (H.push (.cells #[z0, z1, z2, z3, z4] 61))) ⟨H.size, 0, none⟩ 0 5 = some [z0, z1, z2, z3, z4] := HL.Blk.cells0 (new := [z0, z1, z2, z3, z4]) (HL.Blk.new rfl)
@[go_sem] theorem T.stn72 {H : HL.Heap} {z0 z1 z2 z3 z4 : Value} {a0 : Option Addr} {l0 c0 : Nat} {a1 : Option Addr} {l1 c1 : Nat} {a2 : Option Addr} {l2 c2 : Nat} {a3 : Option Addr} {l3 c3 : Nat} {x4 : Bool} : HL.storeA Try.prog (H.push (.cells #[z0, z1, z2, z3, z4] 72)) 72 ⟨H.size, 0, none⟩ (.agg #[.slice a0 l0 c0, .slice a1 l1 c1, .slice a2 l2 c2, .slice a3 l3 c3, .bool x4]) = some (H.push (.cells #[.slice a0 l0 c0, .slice a1 l1 c1, .slice a2 l2 c2, .slice a3 l3 c3, .bool x4] 72)) := HL.store_new (z := [z0, z1, z2, z3, z4]) (vs := [.slice a0 l0 c0, .slice a1 l1 c1, .slice a2 l2 c2, .slice a3 l3 c3, .bool x4]) T.size72 rfl (HL.one_all rfl)
@[go_sem] theorem T.ln72 {H : HL.Heap} {z0 z1 z2 z3 z4 : Value} : HL.cellsH (HL.cellH (H.push (.cells #[z0, z1, z2, z3, z4] 72))) ⟨H.size, 0, none⟩ 0 5 = some [z0, z1, z2, z3, z4] := HL.Blk.cells0 (new := [z0, z1, z2, z3, z4]) (HL.Blk.new rfl)
@[go_sem] theorem T.stn83 {H : HL.Heap} {z0 z1 z2 z3 z4 : Value} {a0 : Option Addr} {l0 c0 : Nat} {x1 : Int} {x2 : Int} {x3 : Int} {x4 : Int} : HL.storeA Try.prog (H.push (.cells #[z0, z1, z2, z3, z4] 83)) 83 ⟨H.size, 0, none⟩ (.agg #[.slice a0 l0 c0, .int .i64 x1, .int .i64 x2, .int .i64 x3, .int .i64 x4]) = some (H.push (.cells #[.slice a0 l0 c0, .int .i64 x1, .int .i64 x2, .int .i64 x3, .int .i64 x4] 83)) := HL.store_new (z := [z0, z1, z2, z3, z4]) (vs := [.slice a0 l0 c0, .int .i64 x1, .int .i64 x2, .int .i64 x3, .int .i64 x4]) T.size83 rfl (HL.one_all rfl)
@[go_sem] theorem T.ln83 {H : HL.Heap} {z0 z1 z2 z3 z4 : Value} : HL.cellsH (HL.cellH (H.push (.cells #[z0, z1, z2, z3, z4] 83))) ⟨H.size, 0, none⟩ 0 5 = some [z0, z1, z2, z3, z4] := HL.Blk.cells0 (new := [z0, z1, z2, z3, z4]) (HL.Blk.new rfl)
@[go_sem] theorem T.stn86 {H : HL.Heap} {z0 z1 z2 z3 z4 z5 : Value} {x0 : Int} {a1 : Option Addr} {l1 c1 : Nat} {a2 : Option Addr} {l2 c2 : Nat} {a3 : Option Addr} {l3 c3 : Nat} {x4 : Int} {a5 : Option Addr} {l5 c5 : Nat} : HL.storeA Try.prog (H.push (.cells #[z0, z1, z2, z3, z4, z5] 86)) 86 ⟨H.size, 0, none⟩ (.agg #[.int .i64 x0, .slice a1 l1 c1, .slice a2 l2 c2, .slice a3 l3 c3, .int .i64 x4, .slice a5 l5 c5]) = some (H.push (.cells #[.int .i64 x0, .slice a1 l1 c1, .slice a2 l2 c2, .slice a3 l3 c3, .int .i64 x4, .slice a5 l5 c5] 86)) := HL.store_new (z := [z0, z1, z2, z3, z4, z5]) (vs := [.int .i64 x0, .slice a1 l1 c1, .slice a2 l2 c2, .slice a3 l3 c3, .int .i64 x4, .slice a5 l5 c5]) T.size86 rfl (HL.one_all rfl)
@[go_sem] theorem T.ln86 {H : HL.Heap} {z0 z1 z2 z3 z4 z5 : Value} : HL.cellsH (HL.cellH (H.push (.cells #[z0, z1, z2, z3, z4, z5] 86))) ⟨H.size, 0, none⟩ 0 6 = some [z0, z1, z2, z3, z4, z5] := HL.Blk.cells0 (new := [z0, z1, z2, z3, z4, z5]) (HL.Blk.new rfl)
@[go_sem] theorem T.stn91 {H : HL.Heap} {z0 z1 z2 z3 : Value} {a0 : Option Addr} {l0 c0 : Nat} {x1 : Int} {x2 : Int} {x3 : Int} : HL.storeA Try.prog (H.push (.cells #[z0, z1, z2, z3] 91)) 91 ⟨H.size, 0, none⟩ (.agg #[.slice a0 l0 c0, .int .i64 x1, .int .i64 x2, .int .i64 x3]) = some (H.push (.cells #[.slice a0 l0 c0, .int .i64 x1, .int .i64 x2, .int .i64 x3] 91)) := HL.store_new (z := [z0, z1, z2, z3]) (vs := [.slice a0 l0 c0, .int .i64 x1, .int .i64 x2, .int .i64 x3]) T.size91 rfl (HL.one_all rfl)
@[go_sem] theorem T.ln91 {H : HL.Heap} {z0 z1 z2 z3 : Value} : HL.cellsH (HL.cellH (H.push (.cells #[z0, z1, z2, z3] 91))) ⟨H.size, 0, none⟩ 0 4 = some [z0, z1, z2, z3] := HL.Blk.cells0 (new := [z0, z1, z2, z3]) (HL.Blk.new rfl)
@[go_sem] theorem T.stn95 {H : HL.Heap} {z0 z1 z2 z3 z4 z5 z6 : Value} {a0 : Option Addr} {l0 c0 : Nat} {x1 : Int} {a2 : Option Addr} {l2 c2 : Nat} {a3 : Option Addr} {l3 c3 : Nat} {a4 : Option Addr} {l4 c4 : Nat} {a5 : Option Addr} {l5 c5 : Nat} {x6 : Bool} : HL.storeA Try.prog (H.push (.cells #[z0, z1, z2, z3, z4, z5, z6] 95)) 95 ⟨H.size, 0, none⟩ (.agg #[.slice a0 l0 c0, .int .i64 x1, .slice a2 l2 c2, .slice a3 l3 c3, .slice a4 l4 c4, .slice a5 l5 c5, .bool x6]) = some (H.push (.cells #[.slice a0 l0 c0, .int .i64 x1, .slice a2 l2 c2, .slice a3 l3 c3, .slice a4 l4 c4, .slice a5 l5 c5, .bool x6] 95)) := HL.store_new (z := [z0, z1, z2, z3, z4, z5, z6]) (vs := [.slice a0 l0 c0, .int .i64 x1, .slice a2 l2 c2, .slice a3 l3 c3, .slice a4 l4 c4, .slice a5 l5 c5, .bool x6]) T.size95 rfl (HL.one_all rfl)
@[go_sem] theorem T.ln95 {H : HL.Heap} {z0 z1 z2 z3 z4 z5 z6 : Value} : HL.cellsH (HL.cellH (H.push (.cells #[z0, z1, z2, z3, z4, z5, z6] 95))) ⟨H.size, 0, none⟩ 0 7 = some [z0, z1, z2, z3, z4, z5, z6] := HL.Blk.cells0 (new := [z0, z1, z2, z3, z4, z5, z6]) (HL.Blk.new rfl)
@[go_sem] theorem T.stn114 {H : HL.Heap} {z0 z1 z2 : Value} {x0 : Int} {x1 : ByteArray} {x2 : Int} : HL.storeA Try.prog (H.push (.cells #[z0, z1, z2] 114)) 114 ⟨H.size, 0, none⟩ (.agg #[.int .i64 x0, .string x1, .int .i64 x2]) = some (H.push (.cells #[.int .i64 x0, .string x1, .int .i64 x2] 114)) := HL.store_new (z := [z0, z1, z2]) (vs := [.int .i64 x0, .string x1, .int .i64 x2]) T.size114 rfl (HL.one_all rfl)
@[go_sem] theorem T.ln114 {H : HL.Heap} {z0 z1 z2 : Value} : HL.cellsH (HL.cellH (H.push (.cells #[z0, z1, z2] 114))) ⟨H.size, 0, none⟩ 0 3 = some [z0, z1, z2] := HL.Blk.cells0 (new := [z0, z1, z2]) (HL.Blk.new rfl)
@[go_sem] theorem T.stn121 {H : HL.Heap} {z0 z1 z2 z3 z4 : Value} {x0 : ByteArray} {x1 : Int} {x2 : Int} {x3 : Bool} {x4 : Bool} : HL.storeA Try.prog (H.push (.cells #[z0, z1, z2, z3, z4] 121)) 121 ⟨H.size, 0, none⟩ (.agg #[.string x0, .int .i64 x1, .int .i64 x2, .bool x3, .bool x4]) = some (H.push (.cells #[.string x0, .int .i64 x1, .int .i64 x2, .bool x3, .bool x4] 121)) := HL.store_new (z := [z0, z1, z2, z3, z4]) (vs := [.string x0, .int .i64 x1, .int .i64 x2, .bool x3, .bool x4]) T.size121 rfl (HL.one_all rfl)
@[go_sem] theorem T.ln121 {H : HL.Heap} {z0 z1 z2 z3 z4 : Value} : HL.cellsH (HL.cellH (H.push (.cells #[z0, z1, z2, z3, z4] 121))) ⟨H.size, 0, none⟩ 0 5 = some [z0, z1, z2, z3, z4] := HL.Blk.cells0 (new := [z0, z1, z2, z3, z4]) (HL.Blk.new rfl)
@[go_sem] theorem T.stn124 {H : HL.Heap} {z0 z1 z2 z3 z4 z5 z6 z7 z8 z9 : Value} {x0 : ByteArray} {x1 : Int} {a2 : Option Addr} {l2 c2 : Nat} {x3 : Int} {a4 : Option Addr} {l4 c4 : Nat} {a5 : Option Addr} {l5 c5 : Nat} {a6 : Option Addr} {l6 c6 : Nat} {a7 : Option Addr} {l7 c7 : Nat} {a8 : Option Addr} {l8 c8 : Nat} {a9 : Option Addr} {l9 c9 : Nat} : HL.storeA Try.prog (H.push (.cells #[z0, z1, z2, z3, z4, z5, z6, z7, z8, z9] 124)) 124 ⟨H.size, 0, none⟩ (.agg #[.string x0, .int .i64 x1, .slice a2 l2 c2, .int .i64 x3, .slice a4 l4 c4, .slice a5 l5 c5, .slice a6 l6 c6, .slice a7 l7 c7, .slice a8 l8 c8, .slice a9 l9 c9]) = some (H.push (.cells #[.string x0, .int .i64 x1, .slice a2 l2 c2, .int .i64 x3, .slice a4 l4 c4, .slice a5 l5 c5, .slice a6 l6 c6, .slice a7 l7 c7, .slice a8 l8 c8, .slice a9 l9 c9] 124)) := HL.store_new (z := [z0, z1, z2, z3, z4, z5, z6, z7, z8, z9]) (vs := [.string x0, .int .i64 x1, .slice a2 l2 c2, .int .i64 x3, .slice a4 l4 c4, .slice a5 l5 c5, .slice a6 l6 c6, .slice a7 l7 c7, .slice a8 l8 c8, .slice a9 l9 c9]) T.size124 rfl (HL.one_all rfl)
@[go_sem] theorem T.ln124 {H : HL.Heap} {z0 z1 z2 z3 z4 z5 z6 z7 z8 z9 : Value} : HL.cellsH (HL.cellH (H.push (.cells #[z0, z1, z2, z3, z4, z5, z6, z7, z8, z9] 124))) ⟨H.size, 0, none⟩ 0 10 = some [z0, z1, z2, z3, z4, z5, z6, z7, z8, z9] := HL.Blk.cells0 (new := [z0, z1, z2, z3, z4, z5, z6, z7, z8, z9]) (HL.Blk.new rfl)
@[go_sem] theorem T.stn138 {H : HL.Heap} {z0 z1 : Value} {x0 : Int} {x1 : Int} : HL.storeA Try.prog (H.push (.cells #[z0, z1] 138)) 138 ⟨H.size, 0, none⟩ (.agg #[.int .i64 x0, .int .i64 x1]) = some (H.push (.cells #[.int .i64 x0, .int .i64 x1] 138)) := HL.store_new (z := [z0, z1]) (vs := [.int .i64 x0, .int .i64 x1]) T.size138 rfl (HL.one_all rfl)
@[go_sem] theorem T.ln138 {H : HL.Heap} {z0 z1 : Value} : HL.cellsH (HL.cellH (H.push (.cells #[z0, z1] 138))) ⟨H.size, 0, none⟩ 0 2 = some [z0, z1] := HL.Blk.cells0 (new := [z0, z1]) (HL.Blk.new rfl)
@[go_sem] theorem T.sl9 {H : HL.Heap} {a : HL.Str} : HL.lenV Try.prog (HL.full H) 9 (.string (HL.bs a)) = some (.int .i64 a.length) := HL.str_len Try.underlying9
@[go_sem] theorem T.si9 {a : HL.Str} {k : IntKind} {n : Int} : HL.indexV Try.prog 9 (.string (HL.bs a)) (.int k n) = HL.chk (0 ≤ n ∧ n < a.length) (some (HL.u8v (HL.bt8 a n.toNat))) := HL.str_index Try.underlying9
@[go_sem] theorem T.ss9 {a : HL.Str} {k k2 : IntKind} {x y : Int} : HL.sliceV Try.prog 9 (.string (HL.bs a)) (some (.int k x)) (some (.int k2 y)) none = HL.chk (0 ≤ y ∧ y ≤ a.length) (HL.chk (0 ≤ x ∧ x ≤ y.toNat) (some (.string (HL.bs ((a.take y.toNat).drop x.toNat))))) := HL.str_sub Try.underlying9
@[go_sem] theorem T.so9 {a : HL.Str} {k : IntKind} {x : Int} : HL.sliceV Try.prog 9 (.string (HL.bs a)) (some (.int k x)) none none = HL.chk (0 ≤ x ∧ x ≤ a.length) (some (.string (HL.bs (a.drop x.toNat)))) := HL.str_lo Try.underlying9
@[go_sem] theorem T.sh9 {a : HL.Str} {k : IntKind} {y : Int} : HL.sliceV Try.prog 9 (.string (HL.bs a)) none (some (.int k y)) none = HL.chk (0 ≤ y ∧ y ≤ a.length) (some (.string (HL.bs (a.take y.toNat)))) := HL.str_hi Try.underlying9
@[go_sem] theorem T.sl10 {H : HL.Heap} {a : HL.Str} : HL.lenV Try.prog (HL.full H) 10 (.string (HL.bs a)) = some (.int .i64 a.length) := HL.str_len Try.underlying10
@[go_sem] theorem T.si10 {a : HL.Str} {k : IntKind} {n : Int} : HL.indexV Try.prog 10 (.string (HL.bs a)) (.int k n) = HL.chk (0 ≤ n ∧ n < a.length) (some (HL.u8v (HL.bt8 a n.toNat))) := HL.str_index Try.underlying10
@[go_sem] theorem T.ss10 {a : HL.Str} {k k2 : IntKind} {x y : Int} : HL.sliceV Try.prog 10 (.string (HL.bs a)) (some (.int k x)) (some (.int k2 y)) none = HL.chk (0 ≤ y ∧ y ≤ a.length) (HL.chk (0 ≤ x ∧ x ≤ y.toNat) (some (.string (HL.bs ((a.take y.toNat).drop x.toNat))))) := HL.str_sub Try.underlying10
@[go_sem] theorem T.so10 {a : HL.Str} {k : IntKind} {x : Int} : HL.sliceV Try.prog 10 (.string (HL.bs a)) (some (.int k x)) none none = HL.chk (0 ≤ x ∧ x ≤ a.length) (some (.string (HL.bs (a.drop x.toNat)))) := HL.str_lo Try.underlying10
@[go_sem] theorem T.sh10 {a : HL.Str} {k : IntKind} {y : Int} : HL.sliceV Try.prog 10 (.string (HL.bs a)) none (some (.int k y)) none = HL.chk (0 ≤ y ∧ y ≤ a.length) (some (.string (HL.bs (a.take y.toNat)))) := HL.str_hi Try.underlying10
@[go_sem] theorem T.sl11 {H : HL.Heap} {a : HL.Str} : HL.lenV Try.prog (HL.full H) 11 (.string (HL.bs a)) = some (.int .i64 a.length) := HL.str_len Try.underlying11
@[go_sem] theorem T.si11 {a : HL.Str} {k : IntKind} {n : Int} : HL.indexV Try.prog 11 (.string (HL.bs a)) (.int k n) = HL.chk (0 ≤ n ∧ n < a.length) (some (HL.u8v (HL.bt8 a n.toNat))) := HL.str_index Try.underlying11
@[go_sem] theorem T.ss11 {a : HL.Str} {k k2 : IntKind} {x y : Int} : HL.sliceV Try.prog 11 (.string (HL.bs a)) (some (.int k x)) (some (.int k2 y)) none = HL.chk (0 ≤ y ∧ y ≤ a.length) (HL.chk (0 ≤ x ∧ x ≤ y.toNat) (some (.string (HL.bs ((a.take y.toNat).drop x.toNat))))) := HL.str_sub Try.underlying11
@[go_sem] theorem T.so11 {a : HL.Str} {k : IntKind} {x : Int} : HL.sliceV Try.prog 11 (.string (HL.bs a)) (some (.int k x)) none none = HL.chk (0 ≤ x ∧ x ≤ a.length) (some (.string (HL.bs (a.drop x.toNat)))) := HL.str_lo Try.underlying11
@[go_sem] theorem T.sh11 {a : HL.Str} {k : IntKind} {y : Int} : HL.sliceV Try.prog 11 (.string (HL.bs a)) none (some (.int k y)) none = HL.chk (0 ≤ y ∧ y ≤ a.length) (some (.string (HL.bs (a.take y.toNat)))) := HL.str_hi Try.underlying11
end Go.Proofs
