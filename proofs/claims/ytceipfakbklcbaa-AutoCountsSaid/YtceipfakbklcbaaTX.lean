/- Texts of this proof, put together: T. The conditions of each theorem stand in it. -/
import Derived.Test.YtceipfakbklcbaaProg
import Derived.Test.YtceipfakbklcbaaMX2
/- Closed facts on the types of the program. -/
namespace Go.Proofs
theorem T.mixed : Try.prog.follows .mixedOrders = true := by kernel_rfl
@[go_sem] theorem T.agg1 : HL.aggN Try.prog 1 = some none := by kernel_rfl
@[go_sem] theorem T.size1 : HL.sizeT Try.prog 1 = some 1 := by kernel_rfl
@[go_sem] theorem T.bytes1 : HL.bytesT Try.prog 1 = some 8 := by kernel_rfl
@[go_sem] theorem T.zero1 : HL.zeroT Try.prog 1 = some (.nilFunc) := by kernel_rfl
@[go_sem] theorem T.agg2 : HL.aggN Try.prog 2 = some none := by kernel_rfl
@[go_sem] theorem T.size2 : HL.sizeT Try.prog 2 = some 1 := by kernel_rfl
@[go_sem] theorem T.bytes2 : HL.bytesT Try.prog 2 = some 8 := by kernel_rfl
@[go_sem] theorem T.zero2 : HL.zeroT Try.prog 2 = some (.int .i64 0) := by kernel_rfl
@[go_sem] theorem T.agg3 : HL.aggN Try.prog 3 = some none := by kernel_rfl
@[go_sem] theorem T.size3 : HL.sizeT Try.prog 3 = some 1 := by kernel_rfl
@[go_sem] theorem T.bytes3 : HL.bytesT Try.prog 3 = some 8 := by kernel_rfl
@[go_sem] theorem T.zero3 : HL.zeroT Try.prog 3 = some (.int .i64 0) := by kernel_rfl
@[go_sem] theorem T.agg4 : HL.aggN Try.prog 4 = some none := by kernel_rfl
@[go_sem] theorem T.size4 : HL.sizeT Try.prog 4 = some 1 := by kernel_rfl
@[go_sem] theorem T.bytes4 : HL.bytesT Try.prog 4 = some 1 := by kernel_rfl
@[go_sem] theorem T.zero4 : HL.zeroT Try.prog 4 = some (.bool false) := by kernel_rfl
@[go_sem] theorem T.agg5 : HL.aggN Try.prog 5 = some none := by kernel_rfl
@[go_sem] theorem T.size5 : HL.sizeT Try.prog 5 = some 1 := by kernel_rfl
@[go_sem] theorem T.bytes5 : HL.bytesT Try.prog 5 = some 1 := by kernel_rfl
@[go_sem] theorem T.zero5 : HL.zeroT Try.prog 5 = some (.int .u8 0) := by kernel_rfl
@[go_sem] theorem T.agg6 : HL.aggN Try.prog 6 = some none := by kernel_rfl
@[go_sem] theorem T.size6 : HL.sizeT Try.prog 6 = some 1 := by kernel_rfl
@[go_sem] theorem T.bytes6 : HL.bytesT Try.prog 6 = some 1 := by kernel_rfl
@[go_sem] theorem T.zero6 : HL.zeroT Try.prog 6 = some (.int .u8 0) := by kernel_rfl
@[go_sem] theorem T.agg7 : HL.aggN Try.prog 7 = some (some 4) := by kernel_rfl
@[go_sem] theorem T.size7 : HL.sizeT Try.prog 7 = some 4 := by kernel_rfl
@[go_sem] theorem T.bytes7 : HL.bytesT Try.prog 7 = some 24 := by kernel_rfl
@[go_sem] theorem T.zero7 : HL.zeroT Try.prog 7 = some (.agg #[.int .i64 0, .int .i64 0, .bool false, .int .u8 0]) := by kernel_rfl
@[go_sem] theorem T.places7 : HL.placesT Try.prog 7 = some [(0, 1), (1, 1), (2, 1), (3, 1)] := by kernel_rfl
@[go_sem] theorem T.field7_0 : HL.fieldT Try.prog 7 0 = some (0, 2) := by kernel_rfl
@[go_sem] theorem T.fieldO7_0 : HL.fieldO Try.prog 7 0 = some 0 := by kernel_rfl
@[go_sem] theorem T.field7_1 : HL.fieldT Try.prog 7 1 = some (1, 3) := by kernel_rfl
@[go_sem] theorem T.fieldO7_1 : HL.fieldO Try.prog 7 1 = some 1 := by kernel_rfl
@[go_sem] theorem T.field7_2 : HL.fieldT Try.prog 7 2 = some (2, 4) := by kernel_rfl
@[go_sem] theorem T.fieldO7_2 : HL.fieldO Try.prog 7 2 = some 2 := by kernel_rfl
@[go_sem] theorem T.field7_3 : HL.fieldT Try.prog 7 3 = some (3, 6) := by kernel_rfl
@[go_sem] theorem T.fieldO7_3 : HL.fieldO Try.prog 7 3 = some 3 := by kernel_rfl
@[go_sem] theorem T.agg8 : HL.aggN Try.prog 8 = some (some 4) := by kernel_rfl
@[go_sem] theorem T.size8 : HL.sizeT Try.prog 8 = some 4 := by kernel_rfl
@[go_sem] theorem T.bytes8 : HL.bytesT Try.prog 8 = some 24 := by kernel_rfl
@[go_sem] theorem T.zero8 : HL.zeroT Try.prog 8 = some (.agg #[.int .i64 0, .int .i64 0, .bool false, .int .u8 0]) := by kernel_rfl
@[go_sem] theorem T.places8 : HL.placesT Try.prog 8 = some [(0, 1), (1, 1), (2, 1), (3, 1)] := by kernel_rfl
@[go_sem] theorem T.field8_0 : HL.fieldT Try.prog 8 0 = some (0, 2) := by kernel_rfl
@[go_sem] theorem T.fieldO8_0 : HL.fieldO Try.prog 8 0 = some 0 := by kernel_rfl
@[go_sem] theorem T.field8_1 : HL.fieldT Try.prog 8 1 = some (1, 3) := by kernel_rfl
@[go_sem] theorem T.fieldO8_1 : HL.fieldO Try.prog 8 1 = some 1 := by kernel_rfl
@[go_sem] theorem T.field8_2 : HL.fieldT Try.prog 8 2 = some (2, 4) := by kernel_rfl
@[go_sem] theorem T.fieldO8_2 : HL.fieldO Try.prog 8 2 = some 2 := by kernel_rfl
@[go_sem] theorem T.field8_3 : HL.fieldT Try.prog 8 3 = some (3, 6) := by kernel_rfl
@[go_sem] theorem T.fieldO8_3 : HL.fieldO Try.prog 8 3 = some 3 := by kernel_rfl
@[go_sem] theorem T.agg9 : HL.aggN Try.prog 9 = some none := by kernel_rfl
@[go_sem] theorem T.size9 : HL.sizeT Try.prog 9 = some 1 := by kernel_rfl
@[go_sem] theorem T.bytes9 : HL.bytesT Try.prog 9 = some 16 := by kernel_rfl
@[go_sem] theorem T.zero9 : HL.zeroT Try.prog 9 = some (.string ⟨#[]⟩) := by kernel_rfl
@[go_sem] theorem T.agg10 : HL.aggN Try.prog 10 = some none := by kernel_rfl
@[go_sem] theorem T.size10 : HL.sizeT Try.prog 10 = some 1 := by kernel_rfl
@[go_sem] theorem T.bytes10 : HL.bytesT Try.prog 10 = some 16 := by kernel_rfl
@[go_sem] theorem T.zero10 : HL.zeroT Try.prog 10 = some (.string ⟨#[]⟩) := by kernel_rfl
@[go_sem] theorem T.agg11 : HL.aggN Try.prog 11 = some none := by kernel_rfl
@[go_sem] theorem T.size11 : HL.sizeT Try.prog 11 = some 1 := by kernel_rfl
@[go_sem] theorem T.bytes11 : HL.bytesT Try.prog 11 = some 16 := by kernel_rfl
@[go_sem] theorem T.zero11 : HL.zeroT Try.prog 11 = some (.string ⟨#[]⟩) := by kernel_rfl
@[go_sem] theorem T.agg12 : HL.aggN Try.prog 12 = some none := by kernel_rfl
@[go_sem] theorem T.size12 : HL.sizeT Try.prog 12 = some 1 := by kernel_rfl
@[go_sem] theorem T.bytes12 : HL.bytesT Try.prog 12 = some 8 := by kernel_rfl
@[go_sem] theorem T.zero12 : HL.zeroT Try.prog 12 = some (.int .u64 0) := by kernel_rfl
@[go_sem] theorem T.agg13 : HL.aggN Try.prog 13 = some (some 2) := by kernel_rfl
@[go_sem] theorem T.size13 : HL.sizeT Try.prog 13 = some 2 := by kernel_rfl
@[go_sem] theorem T.bytes13 : HL.bytesT Try.prog 13 = some 24 := by kernel_rfl
@[go_sem] theorem T.zero13 : HL.zeroT Try.prog 13 = some (.agg #[.string ⟨#[]⟩, .int .u64 0]) := by kernel_rfl
@[go_sem] theorem T.places13 : HL.placesT Try.prog 13 = some [(0, 1), (1, 1)] := by kernel_rfl
@[go_sem] theorem T.field13_0 : HL.fieldT Try.prog 13 0 = some (0, 9) := by kernel_rfl
@[go_sem] theorem T.fieldO13_0 : HL.fieldO Try.prog 13 0 = some 0 := by kernel_rfl
@[go_sem] theorem T.field13_1 : HL.fieldT Try.prog 13 1 = some (1, 12) := by kernel_rfl
@[go_sem] theorem T.fieldO13_1 : HL.fieldO Try.prog 13 1 = some 1 := by kernel_rfl
@[go_sem] theorem T.agg14 : HL.aggN Try.prog 14 = some (some 2) := by kernel_rfl
@[go_sem] theorem T.size14 : HL.sizeT Try.prog 14 = some 2 := by kernel_rfl
@[go_sem] theorem T.bytes14 : HL.bytesT Try.prog 14 = some 24 := by kernel_rfl
@[go_sem] theorem T.zero14 : HL.zeroT Try.prog 14 = some (.agg #[.string ⟨#[]⟩, .int .u64 0]) := by kernel_rfl
@[go_sem] theorem T.places14 : HL.placesT Try.prog 14 = some [(0, 1), (1, 1)] := by kernel_rfl
@[go_sem] theorem T.field14_0 : HL.fieldT Try.prog 14 0 = some (0, 9) := by kernel_rfl
@[go_sem] theorem T.fieldO14_0 : HL.fieldO Try.prog 14 0 = some 0 := by kernel_rfl
@[go_sem] theorem T.field14_1 : HL.fieldT Try.prog 14 1 = some (1, 12) := by kernel_rfl
@[go_sem] theorem T.fieldO14_1 : HL.fieldO Try.prog 14 1 = some 1 := by kernel_rfl
@[go_sem] theorem T.agg15 : HL.aggN Try.prog 15 = some none := by kernel_rfl
@[go_sem] theorem T.size15 : HL.sizeT Try.prog 15 = some 1 := by kernel_rfl
@[go_sem] theorem T.bytes15 : HL.bytesT Try.prog 15 = some 8 := by kernel_rfl
@[go_sem] theorem T.zero15 : HL.zeroT Try.prog 15 = some (.pointer none) := by kernel_rfl
@[go_sem] theorem T.agg16 : HL.aggN Try.prog 16 = some none := by kernel_rfl
@[go_sem] theorem T.size16 : HL.sizeT Try.prog 16 = some 1 := by kernel_rfl
@[go_sem] theorem T.bytes16 : HL.bytesT Try.prog 16 = some 8 := by kernel_rfl
@[go_sem] theorem T.zero16 : HL.zeroT Try.prog 16 = some (.pointer none) := by kernel_rfl
@[go_sem] theorem T.agg17 : HL.aggN Try.prog 17 = some none := by kernel_rfl
@[go_sem] theorem T.size17 : HL.sizeT Try.prog 17 = some 1 := by kernel_rfl
@[go_sem] theorem T.bytes17 : HL.bytesT Try.prog 17 = some 8 := by kernel_rfl
@[go_sem] theorem T.zero17 : HL.zeroT Try.prog 17 = some (.pointer none) := by kernel_rfl
@[go_sem] theorem T.agg18 : HL.aggN Try.prog 18 = some (some 1) := by kernel_rfl
@[go_sem] theorem T.size18 : HL.sizeT Try.prog 18 = some 1 := by kernel_rfl
@[go_sem] theorem T.bytes18 : HL.bytesT Try.prog 18 = some 8 := by kernel_rfl
@[go_sem] theorem T.zero18 : HL.zeroT Try.prog 18 = some (.agg #[.pointer none]) := by kernel_rfl
@[go_sem] theorem T.places18 : HL.placesT Try.prog 18 = some [(0, 1)] := by kernel_rfl
@[go_sem] theorem T.field18_0 : HL.fieldT Try.prog 18 0 = some (0, 17) := by kernel_rfl
@[go_sem] theorem T.fieldO18_0 : HL.fieldO Try.prog 18 0 = some 0 := by kernel_rfl
@[go_sem] theorem T.agg19 : HL.aggN Try.prog 19 = some (some 1) := by kernel_rfl
@[go_sem] theorem T.size19 : HL.sizeT Try.prog 19 = some 1 := by kernel_rfl
@[go_sem] theorem T.bytes19 : HL.bytesT Try.prog 19 = some 8 := by kernel_rfl
@[go_sem] theorem T.zero19 : HL.zeroT Try.prog 19 = some (.agg #[.pointer none]) := by kernel_rfl
@[go_sem] theorem T.places19 : HL.placesT Try.prog 19 = some [(0, 1)] := by kernel_rfl
@[go_sem] theorem T.field19_0 : HL.fieldT Try.prog 19 0 = some (0, 17) := by kernel_rfl
@[go_sem] theorem T.fieldO19_0 : HL.fieldO Try.prog 19 0 = some 0 := by kernel_rfl
@[go_sem] theorem T.agg20 : HL.aggN Try.prog 20 = some none := by kernel_rfl
@[go_sem] theorem T.size20 : HL.sizeT Try.prog 20 = some 1 := by kernel_rfl
@[go_sem] theorem T.bytes20 : HL.bytesT Try.prog 20 = some 16 := by kernel_rfl
@[go_sem] theorem T.zero20 : HL.zeroT Try.prog 20 = some (.nilIface) := by kernel_rfl
@[go_sem] theorem T.agg21 : HL.aggN Try.prog 21 = some none := by kernel_rfl
@[go_sem] theorem T.size21 : HL.sizeT Try.prog 21 = some 1 := by kernel_rfl
@[go_sem] theorem T.bytes21 : HL.bytesT Try.prog 21 = some 4 := by kernel_rfl
@[go_sem] theorem T.zero21 : HL.zeroT Try.prog 21 = some (.int .i32 0) := by kernel_rfl
@[go_sem] theorem T.agg22 : HL.aggN Try.prog 22 = some none := by kernel_rfl
@[go_sem] theorem T.size22 : HL.sizeT Try.prog 22 = some 1 := by kernel_rfl
@[go_sem] theorem T.bytes22 : HL.bytesT Try.prog 22 = some 24 := by kernel_rfl
@[go_sem] theorem T.zero22 : HL.zeroT Try.prog 22 = some (.slice none 0 0) := by kernel_rfl
@[go_sem] theorem T.elem22 : HL.elemT Try.prog 22 = some 49 := by kernel_rfl
@[go_sem] theorem T.elemS22 : HL.elemS Try.prog 22 = some 5 := by kernel_rfl
@[go_sem] theorem T.agg23 : HL.aggN Try.prog 23 = some none := by kernel_rfl
@[go_sem] theorem T.size23 : HL.sizeT Try.prog 23 = some 1 := by kernel_rfl
@[go_sem] theorem T.bytes23 : HL.bytesT Try.prog 23 = some 8 := by kernel_rfl
@[go_sem] theorem T.zero23 : HL.zeroT Try.prog 23 = some (.nilFunc) := by kernel_rfl
@[go_sem] theorem T.agg24 : HL.aggN Try.prog 24 = some none := by kernel_rfl
@[go_sem] theorem T.size24 : HL.sizeT Try.prog 24 = some 1 := by kernel_rfl
@[go_sem] theorem T.bytes24 : HL.bytesT Try.prog 24 = some 8 := by kernel_rfl
@[go_sem] theorem T.zero24 : HL.zeroT Try.prog 24 = some (.nilFunc) := by kernel_rfl
@[go_sem] theorem T.agg25 : HL.aggN Try.prog 25 = some none := by kernel_rfl
@[go_sem] theorem T.size25 : HL.sizeT Try.prog 25 = some 1 := by kernel_rfl
@[go_sem] theorem T.bytes25 : HL.bytesT Try.prog 25 = some 24 := by kernel_rfl
@[go_sem] theorem T.zero25 : HL.zeroT Try.prog 25 = some (.slice none 0 0) := by kernel_rfl
@[go_sem] theorem T.elem25 : HL.elemT Try.prog 25 = some 73 := by kernel_rfl
@[go_sem] theorem T.elemS25 : HL.elemS Try.prog 25 = some 5 := by kernel_rfl
@[go_sem] theorem T.agg26 : HL.aggN Try.prog 26 = some none := by kernel_rfl
@[go_sem] theorem T.size26 : HL.sizeT Try.prog 26 = some 1 := by kernel_rfl
@[go_sem] theorem T.bytes26 : HL.bytesT Try.prog 26 = some 24 := by kernel_rfl
@[go_sem] theorem T.zero26 : HL.zeroT Try.prog 26 = some (.slice none 0 0) := by kernel_rfl
@[go_sem] theorem T.elem26 : HL.elemT Try.prog 26 = some 47 := by kernel_rfl
@[go_sem] theorem T.elemS26 : HL.elemS Try.prog 26 = some 3 := by kernel_rfl
@[go_sem] theorem T.agg27 : HL.aggN Try.prog 27 = some none := by kernel_rfl
@[go_sem] theorem T.size27 : HL.sizeT Try.prog 27 = some 1 := by kernel_rfl
@[go_sem] theorem T.bytes27 : HL.bytesT Try.prog 27 = some 24 := by kernel_rfl
@[go_sem] theorem T.zero27 : HL.zeroT Try.prog 27 = some (.slice none 0 0) := by kernel_rfl
@[go_sem] theorem T.elem27 : HL.elemT Try.prog 27 = some 37 := by kernel_rfl
@[go_sem] theorem T.elemS27 : HL.elemS Try.prog 27 = some 8 := by kernel_rfl
@[go_sem] theorem T.agg28 : HL.aggN Try.prog 28 = some none := by kernel_rfl
@[go_sem] theorem T.size28 : HL.sizeT Try.prog 28 = some 1 := by kernel_rfl
@[go_sem] theorem T.bytes28 : HL.bytesT Try.prog 28 = some 24 := by kernel_rfl
@[go_sem] theorem T.zero28 : HL.zeroT Try.prog 28 = some (.slice none 0 0) := by kernel_rfl
@[go_sem] theorem T.elem28 : HL.elemT Try.prog 28 = some 3 := by kernel_rfl
@[go_sem] theorem T.elemS28 : HL.elemS Try.prog 28 = some 1 := by kernel_rfl
@[go_sem] theorem T.agg29 : HL.aggN Try.prog 29 = some (some 7) := by kernel_rfl
@[go_sem] theorem T.size29 : HL.sizeT Try.prog 29 = some 7 := by kernel_rfl
@[go_sem] theorem T.bytes29 : HL.bytesT Try.prog 29 = some 136 := by kernel_rfl
@[go_sem] theorem T.zero29 : HL.zeroT Try.prog 29 = some (.agg #[.slice none 0 0, .int .i64 0, .slice none 0 0, .slice none 0 0, .slice none 0 0, .slice none 0 0, .bool false]) := by kernel_rfl
@[go_sem] theorem T.places29 : HL.placesT Try.prog 29 = some [(0, 1), (1, 1), (2, 1), (3, 1), (4, 1), (5, 1), (6, 1)] := by kernel_rfl
@[go_sem] theorem T.field29_0 : HL.fieldT Try.prog 29 0 = some (0, 22) := by kernel_rfl
@[go_sem] theorem T.fieldO29_0 : HL.fieldO Try.prog 29 0 = some 0 := by kernel_rfl
@[go_sem] theorem T.field29_1 : HL.fieldT Try.prog 29 1 = some (1, 3) := by kernel_rfl
@[go_sem] theorem T.fieldO29_1 : HL.fieldO Try.prog 29 1 = some 1 := by kernel_rfl
@[go_sem] theorem T.field29_2 : HL.fieldT Try.prog 29 2 = some (2, 25) := by kernel_rfl
@[go_sem] theorem T.fieldO29_2 : HL.fieldO Try.prog 29 2 = some 2 := by kernel_rfl
@[go_sem] theorem T.field29_3 : HL.fieldT Try.prog 29 3 = some (3, 26) := by kernel_rfl
@[go_sem] theorem T.fieldO29_3 : HL.fieldO Try.prog 29 3 = some 3 := by kernel_rfl
@[go_sem] theorem T.field29_4 : HL.fieldT Try.prog 29 4 = some (4, 27) := by kernel_rfl
@[go_sem] theorem T.fieldO29_4 : HL.fieldO Try.prog 29 4 = some 4 := by kernel_rfl
@[go_sem] theorem T.field29_5 : HL.fieldT Try.prog 29 5 = some (5, 28) := by kernel_rfl
@[go_sem] theorem T.fieldO29_5 : HL.fieldO Try.prog 29 5 = some 5 := by kernel_rfl
@[go_sem] theorem T.field29_6 : HL.fieldT Try.prog 29 6 = some (6, 4) := by kernel_rfl
@[go_sem] theorem T.fieldO29_6 : HL.fieldO Try.prog 29 6 = some 6 := by kernel_rfl
@[go_sem] theorem T.agg30 : HL.aggN Try.prog 30 = some (some 7) := by kernel_rfl
@[go_sem] theorem T.size30 : HL.sizeT Try.prog 30 = some 7 := by kernel_rfl
@[go_sem] theorem T.bytes30 : HL.bytesT Try.prog 30 = some 136 := by kernel_rfl
@[go_sem] theorem T.zero30 : HL.zeroT Try.prog 30 = some (.agg #[.slice none 0 0, .int .i64 0, .slice none 0 0, .slice none 0 0, .slice none 0 0, .slice none 0 0, .bool false]) := by kernel_rfl
@[go_sem] theorem T.places30 : HL.placesT Try.prog 30 = some [(0, 1), (1, 1), (2, 1), (3, 1), (4, 1), (5, 1), (6, 1)] := by kernel_rfl
@[go_sem] theorem T.field30_0 : HL.fieldT Try.prog 30 0 = some (0, 22) := by kernel_rfl
@[go_sem] theorem T.fieldO30_0 : HL.fieldO Try.prog 30 0 = some 0 := by kernel_rfl
@[go_sem] theorem T.field30_1 : HL.fieldT Try.prog 30 1 = some (1, 3) := by kernel_rfl
@[go_sem] theorem T.fieldO30_1 : HL.fieldO Try.prog 30 1 = some 1 := by kernel_rfl
@[go_sem] theorem T.field30_2 : HL.fieldT Try.prog 30 2 = some (2, 25) := by kernel_rfl
@[go_sem] theorem T.fieldO30_2 : HL.fieldO Try.prog 30 2 = some 2 := by kernel_rfl
@[go_sem] theorem T.field30_3 : HL.fieldT Try.prog 30 3 = some (3, 26) := by kernel_rfl
@[go_sem] theorem T.fieldO30_3 : HL.fieldO Try.prog 30 3 = some 3 := by kernel_rfl
@[go_sem] theorem T.field30_4 : HL.fieldT Try.prog 30 4 = some (4, 27) := by kernel_rfl
@[go_sem] theorem T.fieldO30_4 : HL.fieldO Try.prog 30 4 = some 4 := by kernel_rfl
@[go_sem] theorem T.field30_5 : HL.fieldT Try.prog 30 5 = some (5, 28) := by kernel_rfl
@[go_sem] theorem T.fieldO30_5 : HL.fieldO Try.prog 30 5 = some 5 := by kernel_rfl
@[go_sem] theorem T.field30_6 : HL.fieldT Try.prog 30 6 = some (6, 4) := by kernel_rfl
@[go_sem] theorem T.fieldO30_6 : HL.fieldO Try.prog 30 6 = some 6 := by kernel_rfl
@[go_sem] theorem T.agg32 : HL.aggN Try.prog 32 = some none := by kernel_rfl
@[go_sem] theorem T.size32 : HL.sizeT Try.prog 32 = some 1 := by kernel_rfl
@[go_sem] theorem T.bytes32 : HL.bytesT Try.prog 32 = some 8 := by kernel_rfl
@[go_sem] theorem T.zero32 : HL.zeroT Try.prog 32 = some (.nilFunc) := by kernel_rfl
@[go_sem] theorem T.agg33 : HL.aggN Try.prog 33 = some none := by kernel_rfl
@[go_sem] theorem T.size33 : HL.sizeT Try.prog 33 = some 1 := by kernel_rfl
@[go_sem] theorem T.bytes33 : HL.bytesT Try.prog 33 = some 24 := by kernel_rfl
@[go_sem] theorem T.zero33 : HL.zeroT Try.prog 33 = some (.slice none 0 0) := by kernel_rfl
@[go_sem] theorem T.elem33 : HL.elemT Try.prog 33 = some 4 := by kernel_rfl
@[go_sem] theorem T.elemS33 : HL.elemS Try.prog 33 = some 1 := by kernel_rfl
@[go_sem] theorem T.agg34 : HL.aggN Try.prog 34 = some none := by kernel_rfl
@[go_sem] theorem T.size34 : HL.sizeT Try.prog 34 = some 1 := by kernel_rfl
@[go_sem] theorem T.bytes34 : HL.bytesT Try.prog 34 = some 24 := by kernel_rfl
@[go_sem] theorem T.zero34 : HL.zeroT Try.prog 34 = some (.slice none 0 0) := by kernel_rfl
@[go_sem] theorem T.elem34 : HL.elemT Try.prog 34 = some 39 := by kernel_rfl
@[go_sem] theorem T.elemS34 : HL.elemS Try.prog 34 = some 8 := by kernel_rfl
@[go_sem] theorem T.agg35 : HL.aggN Try.prog 35 = some none := by kernel_rfl
@[go_sem] theorem T.size35 : HL.sizeT Try.prog 35 = some 1 := by kernel_rfl
@[go_sem] theorem T.bytes35 : HL.bytesT Try.prog 35 = some 24 := by kernel_rfl
@[go_sem] theorem T.zero35 : HL.zeroT Try.prog 35 = some (.slice none 0 0) := by kernel_rfl
@[go_sem] theorem T.elem35 : HL.elemT Try.prog 35 = some 9 := by kernel_rfl
@[go_sem] theorem T.elemS35 : HL.elemS Try.prog 35 = some 1 := by kernel_rfl
@[go_sem] theorem T.agg36 : HL.aggN Try.prog 36 = some (some 8) := by kernel_rfl
@[go_sem] theorem T.size36 : HL.sizeT Try.prog 36 = some 8 := by kernel_rfl
@[go_sem] theorem T.bytes36 : HL.bytesT Try.prog 36 = some 152 := by kernel_rfl
@[go_sem] theorem T.zero36 : HL.zeroT Try.prog 36 = some (.agg #[.string ⟨#[]⟩, .int .i64 0, .slice none 0 0, .int .i64 0, .slice none 0 0, .slice none 0 0, .slice none 0 0, .slice none 0 0]) := by kernel_rfl
@[go_sem] theorem T.places36 : HL.placesT Try.prog 36 = some [(0, 1), (1, 1), (2, 1), (3, 1), (4, 1), (5, 1), (6, 1), (7, 1)] := by kernel_rfl
@[go_sem] theorem T.field36_0 : HL.fieldT Try.prog 36 0 = some (0, 9) := by kernel_rfl
@[go_sem] theorem T.fieldO36_0 : HL.fieldO Try.prog 36 0 = some 0 := by kernel_rfl
@[go_sem] theorem T.field36_1 : HL.fieldT Try.prog 36 1 = some (1, 3) := by kernel_rfl
@[go_sem] theorem T.fieldO36_1 : HL.fieldO Try.prog 36 1 = some 1 := by kernel_rfl
@[go_sem] theorem T.field36_2 : HL.fieldT Try.prog 36 2 = some (2, 28) := by kernel_rfl
@[go_sem] theorem T.fieldO36_2 : HL.fieldO Try.prog 36 2 = some 2 := by kernel_rfl
@[go_sem] theorem T.field36_3 : HL.fieldT Try.prog 36 3 = some (3, 3) := by kernel_rfl
@[go_sem] theorem T.fieldO36_3 : HL.fieldO Try.prog 36 3 = some 3 := by kernel_rfl
@[go_sem] theorem T.field36_4 : HL.fieldT Try.prog 36 4 = some (4, 33) := by kernel_rfl
@[go_sem] theorem T.fieldO36_4 : HL.fieldO Try.prog 36 4 = some 4 := by kernel_rfl
@[go_sem] theorem T.field36_5 : HL.fieldT Try.prog 36 5 = some (5, 34) := by kernel_rfl
@[go_sem] theorem T.fieldO36_5 : HL.fieldO Try.prog 36 5 = some 5 := by kernel_rfl
@[go_sem] theorem T.field36_6 : HL.fieldT Try.prog 36 6 = some (6, 35) := by kernel_rfl
@[go_sem] theorem T.fieldO36_6 : HL.fieldO Try.prog 36 6 = some 6 := by kernel_rfl
@[go_sem] theorem T.field36_7 : HL.fieldT Try.prog 36 7 = some (7, 28) := by kernel_rfl
@[go_sem] theorem T.fieldO36_7 : HL.fieldO Try.prog 36 7 = some 7 := by kernel_rfl
@[go_sem] theorem T.agg37 : HL.aggN Try.prog 37 = some (some 8) := by kernel_rfl
@[go_sem] theorem T.size37 : HL.sizeT Try.prog 37 = some 8 := by kernel_rfl
@[go_sem] theorem T.bytes37 : HL.bytesT Try.prog 37 = some 152 := by kernel_rfl
@[go_sem] theorem T.zero37 : HL.zeroT Try.prog 37 = some (.agg #[.string ⟨#[]⟩, .int .i64 0, .slice none 0 0, .int .i64 0, .slice none 0 0, .slice none 0 0, .slice none 0 0, .slice none 0 0]) := by kernel_rfl
@[go_sem] theorem T.places37 : HL.placesT Try.prog 37 = some [(0, 1), (1, 1), (2, 1), (3, 1), (4, 1), (5, 1), (6, 1), (7, 1)] := by kernel_rfl
@[go_sem] theorem T.field37_0 : HL.fieldT Try.prog 37 0 = some (0, 9) := by kernel_rfl
@[go_sem] theorem T.fieldO37_0 : HL.fieldO Try.prog 37 0 = some 0 := by kernel_rfl
@[go_sem] theorem T.field37_1 : HL.fieldT Try.prog 37 1 = some (1, 3) := by kernel_rfl
@[go_sem] theorem T.fieldO37_1 : HL.fieldO Try.prog 37 1 = some 1 := by kernel_rfl
@[go_sem] theorem T.field37_2 : HL.fieldT Try.prog 37 2 = some (2, 28) := by kernel_rfl
@[go_sem] theorem T.fieldO37_2 : HL.fieldO Try.prog 37 2 = some 2 := by kernel_rfl
@[go_sem] theorem T.field37_3 : HL.fieldT Try.prog 37 3 = some (3, 3) := by kernel_rfl
@[go_sem] theorem T.fieldO37_3 : HL.fieldO Try.prog 37 3 = some 3 := by kernel_rfl
@[go_sem] theorem T.field37_4 : HL.fieldT Try.prog 37 4 = some (4, 33) := by kernel_rfl
@[go_sem] theorem T.fieldO37_4 : HL.fieldO Try.prog 37 4 = some 4 := by kernel_rfl
@[go_sem] theorem T.field37_5 : HL.fieldT Try.prog 37 5 = some (5, 34) := by kernel_rfl
@[go_sem] theorem T.fieldO37_5 : HL.fieldO Try.prog 37 5 = some 5 := by kernel_rfl
@[go_sem] theorem T.field37_6 : HL.fieldT Try.prog 37 6 = some (6, 35) := by kernel_rfl
@[go_sem] theorem T.fieldO37_6 : HL.fieldO Try.prog 37 6 = some 6 := by kernel_rfl
@[go_sem] theorem T.field37_7 : HL.fieldT Try.prog 37 7 = some (7, 28) := by kernel_rfl
@[go_sem] theorem T.fieldO37_7 : HL.fieldO Try.prog 37 7 = some 7 := by kernel_rfl
@[go_sem] theorem T.agg38 : HL.aggN Try.prog 38 = some (some 8) := by kernel_rfl
@[go_sem] theorem T.size38 : HL.sizeT Try.prog 38 = some 8 := by kernel_rfl
@[go_sem] theorem T.bytes38 : HL.bytesT Try.prog 38 = some 64 := by kernel_rfl
@[go_sem] theorem T.zero38 : HL.zeroT Try.prog 38 = some (.agg #[.int .i64 0, .int .i64 0, .int .i64 0, .int .i64 0, .int .i64 0, .int .i64 0, .bool false, .int .i64 0]) := by kernel_rfl
@[go_sem] theorem T.places38 : HL.placesT Try.prog 38 = some [(0, 1), (1, 1), (2, 1), (3, 1), (4, 1), (5, 1), (6, 1), (7, 1)] := by kernel_rfl
@[go_sem] theorem T.field38_0 : HL.fieldT Try.prog 38 0 = some (0, 3) := by kernel_rfl
@[go_sem] theorem T.fieldO38_0 : HL.fieldO Try.prog 38 0 = some 0 := by kernel_rfl
@[go_sem] theorem T.field38_1 : HL.fieldT Try.prog 38 1 = some (1, 3) := by kernel_rfl
@[go_sem] theorem T.fieldO38_1 : HL.fieldO Try.prog 38 1 = some 1 := by kernel_rfl
@[go_sem] theorem T.field38_2 : HL.fieldT Try.prog 38 2 = some (2, 3) := by kernel_rfl
@[go_sem] theorem T.fieldO38_2 : HL.fieldO Try.prog 38 2 = some 2 := by kernel_rfl
@[go_sem] theorem T.field38_3 : HL.fieldT Try.prog 38 3 = some (3, 3) := by kernel_rfl
@[go_sem] theorem T.fieldO38_3 : HL.fieldO Try.prog 38 3 = some 3 := by kernel_rfl
@[go_sem] theorem T.field38_4 : HL.fieldT Try.prog 38 4 = some (4, 3) := by kernel_rfl
@[go_sem] theorem T.fieldO38_4 : HL.fieldO Try.prog 38 4 = some 4 := by kernel_rfl
@[go_sem] theorem T.field38_5 : HL.fieldT Try.prog 38 5 = some (5, 3) := by kernel_rfl
@[go_sem] theorem T.fieldO38_5 : HL.fieldO Try.prog 38 5 = some 5 := by kernel_rfl
@[go_sem] theorem T.field38_6 : HL.fieldT Try.prog 38 6 = some (6, 4) := by kernel_rfl
@[go_sem] theorem T.fieldO38_6 : HL.fieldO Try.prog 38 6 = some 6 := by kernel_rfl
@[go_sem] theorem T.field38_7 : HL.fieldT Try.prog 38 7 = some (7, 3) := by kernel_rfl
@[go_sem] theorem T.fieldO38_7 : HL.fieldO Try.prog 38 7 = some 7 := by kernel_rfl
@[go_sem] theorem T.agg39 : HL.aggN Try.prog 39 = some (some 8) := by kernel_rfl
@[go_sem] theorem T.size39 : HL.sizeT Try.prog 39 = some 8 := by kernel_rfl
@[go_sem] theorem T.bytes39 : HL.bytesT Try.prog 39 = some 64 := by kernel_rfl
@[go_sem] theorem T.zero39 : HL.zeroT Try.prog 39 = some (.agg #[.int .i64 0, .int .i64 0, .int .i64 0, .int .i64 0, .int .i64 0, .int .i64 0, .bool false, .int .i64 0]) := by kernel_rfl
@[go_sem] theorem T.places39 : HL.placesT Try.prog 39 = some [(0, 1), (1, 1), (2, 1), (3, 1), (4, 1), (5, 1), (6, 1), (7, 1)] := by kernel_rfl
@[go_sem] theorem T.field39_0 : HL.fieldT Try.prog 39 0 = some (0, 3) := by kernel_rfl
@[go_sem] theorem T.fieldO39_0 : HL.fieldO Try.prog 39 0 = some 0 := by kernel_rfl
@[go_sem] theorem T.field39_1 : HL.fieldT Try.prog 39 1 = some (1, 3) := by kernel_rfl
@[go_sem] theorem T.fieldO39_1 : HL.fieldO Try.prog 39 1 = some 1 := by kernel_rfl
@[go_sem] theorem T.field39_2 : HL.fieldT Try.prog 39 2 = some (2, 3) := by kernel_rfl
@[go_sem] theorem T.fieldO39_2 : HL.fieldO Try.prog 39 2 = some 2 := by kernel_rfl
@[go_sem] theorem T.field39_3 : HL.fieldT Try.prog 39 3 = some (3, 3) := by kernel_rfl
@[go_sem] theorem T.fieldO39_3 : HL.fieldO Try.prog 39 3 = some 3 := by kernel_rfl
@[go_sem] theorem T.field39_4 : HL.fieldT Try.prog 39 4 = some (4, 3) := by kernel_rfl
@[go_sem] theorem T.fieldO39_4 : HL.fieldO Try.prog 39 4 = some 4 := by kernel_rfl
@[go_sem] theorem T.field39_5 : HL.fieldT Try.prog 39 5 = some (5, 3) := by kernel_rfl
@[go_sem] theorem T.fieldO39_5 : HL.fieldO Try.prog 39 5 = some 5 := by kernel_rfl
@[go_sem] theorem T.field39_6 : HL.fieldT Try.prog 39 6 = some (6, 4) := by kernel_rfl
@[go_sem] theorem T.fieldO39_6 : HL.fieldO Try.prog 39 6 = some 6 := by kernel_rfl
@[go_sem] theorem T.field39_7 : HL.fieldT Try.prog 39 7 = some (7, 3) := by kernel_rfl
@[go_sem] theorem T.fieldO39_7 : HL.fieldO Try.prog 39 7 = some 7 := by kernel_rfl
@[go_sem] theorem T.agg40 : HL.aggN Try.prog 40 = some none := by kernel_rfl
@[go_sem] theorem T.size40 : HL.sizeT Try.prog 40 = some 1 := by kernel_rfl
@[go_sem] theorem T.bytes40 : HL.bytesT Try.prog 40 = some 8 := by kernel_rfl
@[go_sem] theorem T.zero40 : HL.zeroT Try.prog 40 = some (.int .i64 0) := by kernel_rfl
@[go_sem] theorem T.agg41 : HL.aggN Try.prog 41 = some (some 2) := by kernel_rfl
@[go_sem] theorem T.size41 : HL.sizeT Try.prog 41 = some 2 := by kernel_rfl
@[go_sem] theorem T.bytes41 : HL.bytesT Try.prog 41 = some 16 := by kernel_rfl
@[go_sem] theorem T.zero41 : HL.zeroT Try.prog 41 = some (.agg #[.int .i64 0, .int .i64 0]) := by kernel_rfl
@[go_sem] theorem T.places41 : HL.placesT Try.prog 41 = some [(0, 1), (1, 1)] := by kernel_rfl
@[go_sem] theorem T.field41_0 : HL.fieldT Try.prog 41 0 = some (0, 40) := by kernel_rfl
@[go_sem] theorem T.fieldO41_0 : HL.fieldO Try.prog 41 0 = some 0 := by kernel_rfl
@[go_sem] theorem T.field41_1 : HL.fieldT Try.prog 41 1 = some (1, 3) := by kernel_rfl
@[go_sem] theorem T.fieldO41_1 : HL.fieldO Try.prog 41 1 = some 1 := by kernel_rfl
@[go_sem] theorem T.agg42 : HL.aggN Try.prog 42 = some (some 2) := by kernel_rfl
@[go_sem] theorem T.size42 : HL.sizeT Try.prog 42 = some 2 := by kernel_rfl
@[go_sem] theorem T.bytes42 : HL.bytesT Try.prog 42 = some 16 := by kernel_rfl
@[go_sem] theorem T.zero42 : HL.zeroT Try.prog 42 = some (.agg #[.int .i64 0, .int .i64 0]) := by kernel_rfl
@[go_sem] theorem T.places42 : HL.placesT Try.prog 42 = some [(0, 1), (1, 1)] := by kernel_rfl
@[go_sem] theorem T.field42_0 : HL.fieldT Try.prog 42 0 = some (0, 40) := by kernel_rfl
@[go_sem] theorem T.fieldO42_0 : HL.fieldO Try.prog 42 0 = some 0 := by kernel_rfl
@[go_sem] theorem T.field42_1 : HL.fieldT Try.prog 42 1 = some (1, 3) := by kernel_rfl
@[go_sem] theorem T.fieldO42_1 : HL.fieldO Try.prog 42 1 = some 1 := by kernel_rfl
@[go_sem] theorem T.agg44 : HL.aggN Try.prog 44 = some none := by kernel_rfl
@[go_sem] theorem T.size44 : HL.sizeT Try.prog 44 = some 1 := by kernel_rfl
@[go_sem] theorem T.bytes44 : HL.bytesT Try.prog 44 = some 8 := by kernel_rfl
@[go_sem] theorem T.zero44 : HL.zeroT Try.prog 44 = some (.nilFunc) := by kernel_rfl
@[go_sem] theorem T.agg45 : HL.aggN Try.prog 45 = some none := by kernel_rfl
@[go_sem] theorem T.size45 : HL.sizeT Try.prog 45 = some 1 := by kernel_rfl
@[go_sem] theorem T.bytes45 : HL.bytesT Try.prog 45 = some 8 := by kernel_rfl
@[go_sem] theorem T.zero45 : HL.zeroT Try.prog 45 = some (.nilFunc) := by kernel_rfl
@[go_sem] theorem T.agg46 : HL.aggN Try.prog 46 = some (some 3) := by kernel_rfl
@[go_sem] theorem T.size46 : HL.sizeT Try.prog 46 = some 3 := by kernel_rfl
@[go_sem] theorem T.bytes46 : HL.bytesT Try.prog 46 = some 32 := by kernel_rfl
@[go_sem] theorem T.zero46 : HL.zeroT Try.prog 46 = some (.agg #[.string ⟨#[]⟩, .int .i64 0, .int .i64 0]) := by kernel_rfl
@[go_sem] theorem T.places46 : HL.placesT Try.prog 46 = some [(0, 1), (1, 1), (2, 1)] := by kernel_rfl
@[go_sem] theorem T.field46_0 : HL.fieldT Try.prog 46 0 = some (0, 9) := by kernel_rfl
@[go_sem] theorem T.fieldO46_0 : HL.fieldO Try.prog 46 0 = some 0 := by kernel_rfl
@[go_sem] theorem T.field46_1 : HL.fieldT Try.prog 46 1 = some (1, 3) := by kernel_rfl
@[go_sem] theorem T.fieldO46_1 : HL.fieldO Try.prog 46 1 = some 1 := by kernel_rfl
@[go_sem] theorem T.field46_2 : HL.fieldT Try.prog 46 2 = some (2, 3) := by kernel_rfl
@[go_sem] theorem T.fieldO46_2 : HL.fieldO Try.prog 46 2 = some 2 := by kernel_rfl
@[go_sem] theorem T.agg47 : HL.aggN Try.prog 47 = some (some 3) := by kernel_rfl
@[go_sem] theorem T.size47 : HL.sizeT Try.prog 47 = some 3 := by kernel_rfl
@[go_sem] theorem T.bytes47 : HL.bytesT Try.prog 47 = some 32 := by kernel_rfl
@[go_sem] theorem T.zero47 : HL.zeroT Try.prog 47 = some (.agg #[.string ⟨#[]⟩, .int .i64 0, .int .i64 0]) := by kernel_rfl
@[go_sem] theorem T.places47 : HL.placesT Try.prog 47 = some [(0, 1), (1, 1), (2, 1)] := by kernel_rfl
@[go_sem] theorem T.field47_0 : HL.fieldT Try.prog 47 0 = some (0, 9) := by kernel_rfl
@[go_sem] theorem T.fieldO47_0 : HL.fieldO Try.prog 47 0 = some 0 := by kernel_rfl
@[go_sem] theorem T.field47_1 : HL.fieldT Try.prog 47 1 = some (1, 3) := by kernel_rfl
@[go_sem] theorem T.fieldO47_1 : HL.fieldO Try.prog 47 1 = some 1 := by kernel_rfl
@[go_sem] theorem T.field47_2 : HL.fieldT Try.prog 47 2 = some (2, 3) := by kernel_rfl
@[go_sem] theorem T.fieldO47_2 : HL.fieldO Try.prog 47 2 = some 2 := by kernel_rfl
@[go_sem] theorem T.agg48 : HL.aggN Try.prog 48 = some (some 5) := by kernel_rfl
@[go_sem] theorem T.size48 : HL.sizeT Try.prog 48 = some 5 := by kernel_rfl
@[go_sem] theorem T.bytes48 : HL.bytesT Try.prog 48 = some 88 := by kernel_rfl
@[go_sem] theorem T.zero48 : HL.zeroT Try.prog 48 = some (.agg #[.int .i64 0, .slice none 0 0, .slice none 0 0, .slice none 0 0, .int .i64 0]) := by kernel_rfl
@[go_sem] theorem T.places48 : HL.placesT Try.prog 48 = some [(0, 1), (1, 1), (2, 1), (3, 1), (4, 1)] := by kernel_rfl
@[go_sem] theorem T.field48_0 : HL.fieldT Try.prog 48 0 = some (0, 3) := by kernel_rfl
@[go_sem] theorem T.fieldO48_0 : HL.fieldO Try.prog 48 0 = some 0 := by kernel_rfl
@[go_sem] theorem T.field48_1 : HL.fieldT Try.prog 48 1 = some (1, 35) := by kernel_rfl
@[go_sem] theorem T.fieldO48_1 : HL.fieldO Try.prog 48 1 = some 1 := by kernel_rfl
@[go_sem] theorem T.field48_2 : HL.fieldT Try.prog 48 2 = some (2, 28) := by kernel_rfl
@[go_sem] theorem T.fieldO48_2 : HL.fieldO Try.prog 48 2 = some 2 := by kernel_rfl
@[go_sem] theorem T.field48_3 : HL.fieldT Try.prog 48 3 = some (3, 28) := by kernel_rfl
@[go_sem] theorem T.fieldO48_3 : HL.fieldO Try.prog 48 3 = some 3 := by kernel_rfl
@[go_sem] theorem T.field48_4 : HL.fieldT Try.prog 48 4 = some (4, 3) := by kernel_rfl
@[go_sem] theorem T.fieldO48_4 : HL.fieldO Try.prog 48 4 = some 4 := by kernel_rfl
@[go_sem] theorem T.agg49 : HL.aggN Try.prog 49 = some (some 5) := by kernel_rfl
@[go_sem] theorem T.size49 : HL.sizeT Try.prog 49 = some 5 := by kernel_rfl
@[go_sem] theorem T.bytes49 : HL.bytesT Try.prog 49 = some 88 := by kernel_rfl
@[go_sem] theorem T.zero49 : HL.zeroT Try.prog 49 = some (.agg #[.int .i64 0, .slice none 0 0, .slice none 0 0, .slice none 0 0, .int .i64 0]) := by kernel_rfl
@[go_sem] theorem T.places49 : HL.placesT Try.prog 49 = some [(0, 1), (1, 1), (2, 1), (3, 1), (4, 1)] := by kernel_rfl
@[go_sem] theorem T.field49_0 : HL.fieldT Try.prog 49 0 = some (0, 3) := by kernel_rfl
@[go_sem] theorem T.fieldO49_0 : HL.fieldO Try.prog 49 0 = some 0 := by kernel_rfl
@[go_sem] theorem T.field49_1 : HL.fieldT Try.prog 49 1 = some (1, 35) := by kernel_rfl
@[go_sem] theorem T.fieldO49_1 : HL.fieldO Try.prog 49 1 = some 1 := by kernel_rfl
@[go_sem] theorem T.field49_2 : HL.fieldT Try.prog 49 2 = some (2, 28) := by kernel_rfl
@[go_sem] theorem T.fieldO49_2 : HL.fieldO Try.prog 49 2 = some 2 := by kernel_rfl
@[go_sem] theorem T.field49_3 : HL.fieldT Try.prog 49 3 = some (3, 28) := by kernel_rfl
@[go_sem] theorem T.fieldO49_3 : HL.fieldO Try.prog 49 3 = some 3 := by kernel_rfl
@[go_sem] theorem T.field49_4 : HL.fieldT Try.prog 49 4 = some (4, 3) := by kernel_rfl
@[go_sem] theorem T.fieldO49_4 : HL.fieldO Try.prog 49 4 = some 4 := by kernel_rfl
@[go_sem] theorem T.agg50 : HL.aggN Try.prog 50 = some none := by kernel_rfl
@[go_sem] theorem T.size50 : HL.sizeT Try.prog 50 = some 1 := by kernel_rfl
@[go_sem] theorem T.bytes50 : HL.bytesT Try.prog 50 = some 8 := by kernel_rfl
@[go_sem] theorem T.zero50 : HL.zeroT Try.prog 50 = some (.nilFunc) := by kernel_rfl
@[go_sem] theorem T.agg51 : HL.aggN Try.prog 51 = some none := by kernel_rfl
@[go_sem] theorem T.size51 : HL.sizeT Try.prog 51 = some 1 := by kernel_rfl
@[go_sem] theorem T.bytes51 : HL.bytesT Try.prog 51 = some 8 := by kernel_rfl
@[go_sem] theorem T.zero51 : HL.zeroT Try.prog 51 = some (.nilFunc) := by kernel_rfl
@[go_sem] theorem T.agg52 : HL.aggN Try.prog 52 = some (some 7) := by kernel_rfl
@[go_sem] theorem T.size52 : HL.sizeT Try.prog 52 = some 7 := by kernel_rfl
@[go_sem] theorem T.bytes52 : HL.bytesT Try.prog 52 = some 136 := by kernel_rfl
@[go_sem] theorem T.zero52 : HL.zeroT Try.prog 52 = some (.agg #[.slice none 0 0, .int .i64 0, .slice none 0 0, .slice none 0 0, .slice none 0 0, .slice none 0 0, .bool false]) := by kernel_rfl
@[go_sem] theorem T.places52 : HL.placesT Try.prog 52 = some [(0, 7)] := by kernel_rfl
@[go_sem] theorem T.field52_0 : HL.fieldT Try.prog 52 0 = some (0, 30) := by kernel_rfl
@[go_sem] theorem T.fieldO52_0 : HL.fieldO Try.prog 52 0 = some 0 := by kernel_rfl
@[go_sem] theorem T.agg53 : HL.aggN Try.prog 53 = some (some 7) := by kernel_rfl
@[go_sem] theorem T.size53 : HL.sizeT Try.prog 53 = some 7 := by kernel_rfl
@[go_sem] theorem T.bytes53 : HL.bytesT Try.prog 53 = some 136 := by kernel_rfl
@[go_sem] theorem T.zero53 : HL.zeroT Try.prog 53 = some (.agg #[.slice none 0 0, .int .i64 0, .slice none 0 0, .slice none 0 0, .slice none 0 0, .slice none 0 0, .bool false]) := by kernel_rfl
@[go_sem] theorem T.places53 : HL.placesT Try.prog 53 = some [(0, 7)] := by kernel_rfl
@[go_sem] theorem T.field53_0 : HL.fieldT Try.prog 53 0 = some (0, 30) := by kernel_rfl
@[go_sem] theorem T.fieldO53_0 : HL.fieldO Try.prog 53 0 = some 0 := by kernel_rfl
@[go_sem] theorem T.agg54 : HL.aggN Try.prog 54 = some none := by kernel_rfl
@[go_sem] theorem T.size54 : HL.sizeT Try.prog 54 = some 1 := by kernel_rfl
@[go_sem] theorem T.bytes54 : HL.bytesT Try.prog 54 = some 8 := by kernel_rfl
@[go_sem] theorem T.zero54 : HL.zeroT Try.prog 54 = some (.nilFunc) := by kernel_rfl
@[go_sem] theorem T.agg55 : HL.aggN Try.prog 55 = some none := by kernel_rfl
@[go_sem] theorem T.size55 : HL.sizeT Try.prog 55 = some 1 := by kernel_rfl
@[go_sem] theorem T.bytes55 : HL.bytesT Try.prog 55 = some 8 := by kernel_rfl
@[go_sem] theorem T.zero55 : HL.zeroT Try.prog 55 = some (.nilFunc) := by kernel_rfl
@[go_sem] theorem T.agg56 : HL.aggN Try.prog 56 = some none := by kernel_rfl
@[go_sem] theorem T.size56 : HL.sizeT Try.prog 56 = some 1 := by kernel_rfl
@[go_sem] theorem T.bytes56 : HL.bytesT Try.prog 56 = some 24 := by kernel_rfl
@[go_sem] theorem T.zero56 : HL.zeroT Try.prog 56 = some (.slice none 0 0) := by kernel_rfl
@[go_sem] theorem T.elem56 : HL.elemT Try.prog 56 = some 83 := by kernel_rfl
@[go_sem] theorem T.elemS56 : HL.elemS Try.prog 56 = some 3 := by kernel_rfl
@[go_sem] theorem T.agg58 : HL.aggN Try.prog 58 = some none := by kernel_rfl
@[go_sem] theorem T.size58 : HL.sizeT Try.prog 58 = some 1 := by kernel_rfl
@[go_sem] theorem T.bytes58 : HL.bytesT Try.prog 58 = some 8 := by kernel_rfl
@[go_sem] theorem T.zero58 : HL.zeroT Try.prog 58 = some (.nilFunc) := by kernel_rfl
@[go_sem] theorem T.agg59 : HL.aggN Try.prog 59 = some none := by kernel_rfl
@[go_sem] theorem T.size59 : HL.sizeT Try.prog 59 = some 1 := by kernel_rfl
@[go_sem] theorem T.bytes59 : HL.bytesT Try.prog 59 = some 8 := by kernel_rfl
@[go_sem] theorem T.zero59 : HL.zeroT Try.prog 59 = some (.pointer none) := by kernel_rfl
@[go_sem] theorem T.agg60 : HL.aggN Try.prog 60 = some (some 5) := by kernel_rfl
@[go_sem] theorem T.size60 : HL.sizeT Try.prog 60 = some 5 := by kernel_rfl
@[go_sem] theorem T.bytes60 : HL.bytesT Try.prog 60 = some 56 := by kernel_rfl
@[go_sem] theorem T.zero60 : HL.zeroT Try.prog 60 = some (.agg #[.slice none 0 0, .int .i64 0, .int .i64 0, .int .i64 0, .int .i64 0]) := by kernel_rfl
@[go_sem] theorem T.places60 : HL.placesT Try.prog 60 = some [(0, 1), (1, 1), (2, 1), (3, 2)] := by kernel_rfl
@[go_sem] theorem T.field60_0 : HL.fieldT Try.prog 60 0 = some (0, 56) := by kernel_rfl
@[go_sem] theorem T.fieldO60_0 : HL.fieldO Try.prog 60 0 = some 0 := by kernel_rfl
@[go_sem] theorem T.field60_1 : HL.fieldT Try.prog 60 1 = some (1, 3) := by kernel_rfl
@[go_sem] theorem T.fieldO60_1 : HL.fieldO Try.prog 60 1 = some 1 := by kernel_rfl
@[go_sem] theorem T.field60_2 : HL.fieldT Try.prog 60 2 = some (2, 3) := by kernel_rfl
@[go_sem] theorem T.fieldO60_2 : HL.fieldO Try.prog 60 2 = some 2 := by kernel_rfl
@[go_sem] theorem T.field60_3 : HL.fieldT Try.prog 60 3 = some (3, 42) := by kernel_rfl
@[go_sem] theorem T.fieldO60_3 : HL.fieldO Try.prog 60 3 = some 3 := by kernel_rfl
@[go_sem] theorem T.agg61 : HL.aggN Try.prog 61 = some (some 5) := by kernel_rfl
@[go_sem] theorem T.size61 : HL.sizeT Try.prog 61 = some 5 := by kernel_rfl
@[go_sem] theorem T.bytes61 : HL.bytesT Try.prog 61 = some 56 := by kernel_rfl
@[go_sem] theorem T.zero61 : HL.zeroT Try.prog 61 = some (.agg #[.slice none 0 0, .int .i64 0, .int .i64 0, .int .i64 0, .int .i64 0]) := by kernel_rfl
@[go_sem] theorem T.places61 : HL.placesT Try.prog 61 = some [(0, 1), (1, 1), (2, 1), (3, 2)] := by kernel_rfl
@[go_sem] theorem T.field61_0 : HL.fieldT Try.prog 61 0 = some (0, 56) := by kernel_rfl
@[go_sem] theorem T.fieldO61_0 : HL.fieldO Try.prog 61 0 = some 0 := by kernel_rfl
@[go_sem] theorem T.field61_1 : HL.fieldT Try.prog 61 1 = some (1, 3) := by kernel_rfl
@[go_sem] theorem T.fieldO61_1 : HL.fieldO Try.prog 61 1 = some 1 := by kernel_rfl
@[go_sem] theorem T.field61_2 : HL.fieldT Try.prog 61 2 = some (2, 3) := by kernel_rfl
@[go_sem] theorem T.fieldO61_2 : HL.fieldO Try.prog 61 2 = some 2 := by kernel_rfl
@[go_sem] theorem T.field61_3 : HL.fieldT Try.prog 61 3 = some (3, 42) := by kernel_rfl
@[go_sem] theorem T.fieldO61_3 : HL.fieldO Try.prog 61 3 = some 3 := by kernel_rfl
@[go_sem] theorem T.agg62 : HL.aggN Try.prog 62 = some none := by kernel_rfl
@[go_sem] theorem T.size62 : HL.sizeT Try.prog 62 = some 1 := by kernel_rfl
@[go_sem] theorem T.bytes62 : HL.bytesT Try.prog 62 = some 24 := by kernel_rfl
@[go_sem] theorem T.zero62 : HL.zeroT Try.prog 62 = some (.slice none 0 0) := by kernel_rfl
@[go_sem] theorem T.elem62 : HL.elemT Try.prog 62 = some 64 := by kernel_rfl
@[go_sem] theorem T.elemS62 : HL.elemS Try.prog 62 = some 6 := by kernel_rfl
@[go_sem] theorem T.agg63 : HL.aggN Try.prog 63 = some (some 6) := by kernel_rfl
@[go_sem] theorem T.size63 : HL.sizeT Try.prog 63 = some 6 := by kernel_rfl
@[go_sem] theorem T.bytes63 : HL.bytesT Try.prog 63 = some 112 := by kernel_rfl
@[go_sem] theorem T.zero63 : HL.zeroT Try.prog 63 = some (.agg #[.int .i64 0, .slice none 0 0, .slice none 0 0, .slice none 0 0, .int .i64 0, .slice none 0 0]) := by kernel_rfl
@[go_sem] theorem T.places63 : HL.placesT Try.prog 63 = some [(0, 5), (5, 1)] := by kernel_rfl
@[go_sem] theorem T.field63_0 : HL.fieldT Try.prog 63 0 = some (0, 49) := by kernel_rfl
@[go_sem] theorem T.fieldO63_0 : HL.fieldO Try.prog 63 0 = some 0 := by kernel_rfl
@[go_sem] theorem T.field63_1 : HL.fieldT Try.prog 63 1 = some (5, 62) := by kernel_rfl
@[go_sem] theorem T.fieldO63_1 : HL.fieldO Try.prog 63 1 = some 5 := by kernel_rfl
@[go_sem] theorem T.agg64 : HL.aggN Try.prog 64 = some (some 6) := by kernel_rfl
@[go_sem] theorem T.size64 : HL.sizeT Try.prog 64 = some 6 := by kernel_rfl
@[go_sem] theorem T.bytes64 : HL.bytesT Try.prog 64 = some 112 := by kernel_rfl
@[go_sem] theorem T.zero64 : HL.zeroT Try.prog 64 = some (.agg #[.int .i64 0, .slice none 0 0, .slice none 0 0, .slice none 0 0, .int .i64 0, .slice none 0 0]) := by kernel_rfl
@[go_sem] theorem T.places64 : HL.placesT Try.prog 64 = some [(0, 5), (5, 1)] := by kernel_rfl
@[go_sem] theorem T.field64_0 : HL.fieldT Try.prog 64 0 = some (0, 49) := by kernel_rfl
@[go_sem] theorem T.fieldO64_0 : HL.fieldO Try.prog 64 0 = some 0 := by kernel_rfl
@[go_sem] theorem T.field64_1 : HL.fieldT Try.prog 64 1 = some (5, 62) := by kernel_rfl
@[go_sem] theorem T.fieldO64_1 : HL.fieldO Try.prog 64 1 = some 5 := by kernel_rfl
@[go_sem] theorem T.agg65 : HL.aggN Try.prog 65 = some none := by kernel_rfl
@[go_sem] theorem T.size65 : HL.sizeT Try.prog 65 = some 1 := by kernel_rfl
@[go_sem] theorem T.bytes65 : HL.bytesT Try.prog 65 = some 8 := by kernel_rfl
@[go_sem] theorem T.zero65 : HL.zeroT Try.prog 65 = some (.nilFunc) := by kernel_rfl
@[go_sem] theorem T.agg66 : HL.aggN Try.prog 66 = some none := by kernel_rfl
@[go_sem] theorem T.size66 : HL.sizeT Try.prog 66 = some 1 := by kernel_rfl
@[go_sem] theorem T.bytes66 : HL.bytesT Try.prog 66 = some 8 := by kernel_rfl
@[go_sem] theorem T.zero66 : HL.zeroT Try.prog 66 = some (.nilFunc) := by kernel_rfl
@[go_sem] theorem T.agg67 : HL.aggN Try.prog 67 = some none := by kernel_rfl
@[go_sem] theorem T.size67 : HL.sizeT Try.prog 67 = some 1 := by kernel_rfl
@[go_sem] theorem T.bytes67 : HL.bytesT Try.prog 67 = some 8 := by kernel_rfl
@[go_sem] theorem T.zero67 : HL.zeroT Try.prog 67 = some (.nilFunc) := by kernel_rfl
@[go_sem] theorem T.agg68 : HL.aggN Try.prog 68 = some (some 4) := by kernel_rfl
@[go_sem] theorem T.size68 : HL.sizeT Try.prog 68 = some 4 := by kernel_rfl
@[go_sem] theorem T.bytes68 : HL.bytesT Try.prog 68 = some 48 := by kernel_rfl
@[go_sem] theorem T.zero68 : HL.zeroT Try.prog 68 = some (.agg #[.slice none 0 0, .int .i64 0, .int .i64 0, .int .i64 0]) := by kernel_rfl
@[go_sem] theorem T.places68 : HL.placesT Try.prog 68 = some [(0, 1), (1, 1), (2, 1), (3, 1)] := by kernel_rfl
@[go_sem] theorem T.field68_0 : HL.fieldT Try.prog 68 0 = some (0, 22) := by kernel_rfl
@[go_sem] theorem T.fieldO68_0 : HL.fieldO Try.prog 68 0 = some 0 := by kernel_rfl
@[go_sem] theorem T.field68_1 : HL.fieldT Try.prog 68 1 = some (1, 3) := by kernel_rfl
@[go_sem] theorem T.fieldO68_1 : HL.fieldO Try.prog 68 1 = some 1 := by kernel_rfl
@[go_sem] theorem T.field68_2 : HL.fieldT Try.prog 68 2 = some (2, 3) := by kernel_rfl
@[go_sem] theorem T.fieldO68_2 : HL.fieldO Try.prog 68 2 = some 2 := by kernel_rfl
@[go_sem] theorem T.field68_3 : HL.fieldT Try.prog 68 3 = some (3, 3) := by kernel_rfl
@[go_sem] theorem T.fieldO68_3 : HL.fieldO Try.prog 68 3 = some 3 := by kernel_rfl
@[go_sem] theorem T.agg69 : HL.aggN Try.prog 69 = some (some 4) := by kernel_rfl
@[go_sem] theorem T.size69 : HL.sizeT Try.prog 69 = some 4 := by kernel_rfl
@[go_sem] theorem T.bytes69 : HL.bytesT Try.prog 69 = some 48 := by kernel_rfl
@[go_sem] theorem T.zero69 : HL.zeroT Try.prog 69 = some (.agg #[.slice none 0 0, .int .i64 0, .int .i64 0, .int .i64 0]) := by kernel_rfl
@[go_sem] theorem T.places69 : HL.placesT Try.prog 69 = some [(0, 1), (1, 1), (2, 1), (3, 1)] := by kernel_rfl
@[go_sem] theorem T.field69_0 : HL.fieldT Try.prog 69 0 = some (0, 22) := by kernel_rfl
@[go_sem] theorem T.fieldO69_0 : HL.fieldO Try.prog 69 0 = some 0 := by kernel_rfl
@[go_sem] theorem T.field69_1 : HL.fieldT Try.prog 69 1 = some (1, 3) := by kernel_rfl
@[go_sem] theorem T.fieldO69_1 : HL.fieldO Try.prog 69 1 = some 1 := by kernel_rfl
@[go_sem] theorem T.field69_2 : HL.fieldT Try.prog 69 2 = some (2, 3) := by kernel_rfl
@[go_sem] theorem T.fieldO69_2 : HL.fieldO Try.prog 69 2 = some 2 := by kernel_rfl
@[go_sem] theorem T.field69_3 : HL.fieldT Try.prog 69 3 = some (3, 3) := by kernel_rfl
@[go_sem] theorem T.fieldO69_3 : HL.fieldO Try.prog 69 3 = some 3 := by kernel_rfl
@[go_sem] theorem T.agg70 : HL.aggN Try.prog 70 = some none := by kernel_rfl
@[go_sem] theorem T.size70 : HL.sizeT Try.prog 70 = some 1 := by kernel_rfl
@[go_sem] theorem T.bytes70 : HL.bytesT Try.prog 70 = some 8 := by kernel_rfl
@[go_sem] theorem T.zero70 : HL.zeroT Try.prog 70 = some (.nilFunc) := by kernel_rfl
@[go_sem] theorem T.agg71 : HL.aggN Try.prog 71 = some none := by kernel_rfl
@[go_sem] theorem T.size71 : HL.sizeT Try.prog 71 = some 1 := by kernel_rfl
@[go_sem] theorem T.bytes71 : HL.bytesT Try.prog 71 = some 8 := by kernel_rfl
@[go_sem] theorem T.zero71 : HL.zeroT Try.prog 71 = some (.pointer none) := by kernel_rfl
@[go_sem] theorem T.agg72 : HL.aggN Try.prog 72 = some (some 5) := by kernel_rfl
@[go_sem] theorem T.size72 : HL.sizeT Try.prog 72 = some 5 := by kernel_rfl
@[go_sem] theorem T.bytes72 : HL.bytesT Try.prog 72 = some 40 := by kernel_rfl
@[go_sem] theorem T.zero72 : HL.zeroT Try.prog 72 = some (.agg #[.string ⟨#[]⟩, .int .i64 0, .int .i64 0, .bool false, .bool false]) := by kernel_rfl
@[go_sem] theorem T.places72 : HL.placesT Try.prog 72 = some [(0, 1), (1, 1), (2, 1), (3, 1), (4, 1)] := by kernel_rfl
@[go_sem] theorem T.field72_0 : HL.fieldT Try.prog 72 0 = some (0, 9) := by kernel_rfl
@[go_sem] theorem T.fieldO72_0 : HL.fieldO Try.prog 72 0 = some 0 := by kernel_rfl
@[go_sem] theorem T.field72_1 : HL.fieldT Try.prog 72 1 = some (1, 3) := by kernel_rfl
@[go_sem] theorem T.fieldO72_1 : HL.fieldO Try.prog 72 1 = some 1 := by kernel_rfl
@[go_sem] theorem T.field72_2 : HL.fieldT Try.prog 72 2 = some (2, 3) := by kernel_rfl
@[go_sem] theorem T.fieldO72_2 : HL.fieldO Try.prog 72 2 = some 2 := by kernel_rfl
@[go_sem] theorem T.field72_3 : HL.fieldT Try.prog 72 3 = some (3, 4) := by kernel_rfl
@[go_sem] theorem T.fieldO72_3 : HL.fieldO Try.prog 72 3 = some 3 := by kernel_rfl
@[go_sem] theorem T.field72_4 : HL.fieldT Try.prog 72 4 = some (4, 4) := by kernel_rfl
@[go_sem] theorem T.fieldO72_4 : HL.fieldO Try.prog 72 4 = some 4 := by kernel_rfl
@[go_sem] theorem T.agg73 : HL.aggN Try.prog 73 = some (some 5) := by kernel_rfl
@[go_sem] theorem T.size73 : HL.sizeT Try.prog 73 = some 5 := by kernel_rfl
@[go_sem] theorem T.bytes73 : HL.bytesT Try.prog 73 = some 40 := by kernel_rfl
@[go_sem] theorem T.zero73 : HL.zeroT Try.prog 73 = some (.agg #[.string ⟨#[]⟩, .int .i64 0, .int .i64 0, .bool false, .bool false]) := by kernel_rfl
@[go_sem] theorem T.places73 : HL.placesT Try.prog 73 = some [(0, 1), (1, 1), (2, 1), (3, 1), (4, 1)] := by kernel_rfl
@[go_sem] theorem T.field73_0 : HL.fieldT Try.prog 73 0 = some (0, 9) := by kernel_rfl
@[go_sem] theorem T.fieldO73_0 : HL.fieldO Try.prog 73 0 = some 0 := by kernel_rfl
@[go_sem] theorem T.field73_1 : HL.fieldT Try.prog 73 1 = some (1, 3) := by kernel_rfl
@[go_sem] theorem T.fieldO73_1 : HL.fieldO Try.prog 73 1 = some 1 := by kernel_rfl
@[go_sem] theorem T.field73_2 : HL.fieldT Try.prog 73 2 = some (2, 3) := by kernel_rfl
@[go_sem] theorem T.fieldO73_2 : HL.fieldO Try.prog 73 2 = some 2 := by kernel_rfl
@[go_sem] theorem T.field73_3 : HL.fieldT Try.prog 73 3 = some (3, 4) := by kernel_rfl
@[go_sem] theorem T.fieldO73_3 : HL.fieldO Try.prog 73 3 = some 3 := by kernel_rfl
@[go_sem] theorem T.field73_4 : HL.fieldT Try.prog 73 4 = some (4, 4) := by kernel_rfl
@[go_sem] theorem T.fieldO73_4 : HL.fieldO Try.prog 73 4 = some 4 := by kernel_rfl
@[go_sem] theorem T.agg74 : HL.aggN Try.prog 74 = some none := by kernel_rfl
@[go_sem] theorem T.size74 : HL.sizeT Try.prog 74 = some 1 := by kernel_rfl
@[go_sem] theorem T.bytes74 : HL.bytesT Try.prog 74 = some 8 := by kernel_rfl
@[go_sem] theorem T.zero74 : HL.zeroT Try.prog 74 = some (.nilFunc) := by kernel_rfl
@[go_sem] theorem T.agg75 : HL.aggN Try.prog 75 = some (some 10) := by kernel_rfl
@[go_sem] theorem T.size75 : HL.sizeT Try.prog 75 = some 10 := by kernel_rfl
@[go_sem] theorem T.bytes75 : HL.bytesT Try.prog 75 = some 200 := by kernel_rfl
@[go_sem] theorem T.zero75 : HL.zeroT Try.prog 75 = some (.agg #[.string ⟨#[]⟩, .int .i64 0, .slice none 0 0, .int .i64 0, .slice none 0 0, .slice none 0 0, .slice none 0 0, .slice none 0 0, .slice none 0 0, .slice none 0 0]) := by kernel_rfl
@[go_sem] theorem T.places75 : HL.placesT Try.prog 75 = some [(0, 8), (8, 1), (9, 1)] := by kernel_rfl
@[go_sem] theorem T.field75_0 : HL.fieldT Try.prog 75 0 = some (0, 37) := by kernel_rfl
@[go_sem] theorem T.fieldO75_0 : HL.fieldO Try.prog 75 0 = some 0 := by kernel_rfl
@[go_sem] theorem T.field75_1 : HL.fieldT Try.prog 75 1 = some (8, 22) := by kernel_rfl
@[go_sem] theorem T.fieldO75_1 : HL.fieldO Try.prog 75 1 = some 8 := by kernel_rfl
@[go_sem] theorem T.field75_2 : HL.fieldT Try.prog 75 2 = some (9, 25) := by kernel_rfl
@[go_sem] theorem T.fieldO75_2 : HL.fieldO Try.prog 75 2 = some 9 := by kernel_rfl
@[go_sem] theorem T.agg76 : HL.aggN Try.prog 76 = some (some 10) := by kernel_rfl
@[go_sem] theorem T.size76 : HL.sizeT Try.prog 76 = some 10 := by kernel_rfl
@[go_sem] theorem T.bytes76 : HL.bytesT Try.prog 76 = some 200 := by kernel_rfl
@[go_sem] theorem T.zero76 : HL.zeroT Try.prog 76 = some (.agg #[.string ⟨#[]⟩, .int .i64 0, .slice none 0 0, .int .i64 0, .slice none 0 0, .slice none 0 0, .slice none 0 0, .slice none 0 0, .slice none 0 0, .slice none 0 0]) := by kernel_rfl
@[go_sem] theorem T.places76 : HL.placesT Try.prog 76 = some [(0, 8), (8, 1), (9, 1)] := by kernel_rfl
@[go_sem] theorem T.field76_0 : HL.fieldT Try.prog 76 0 = some (0, 37) := by kernel_rfl
@[go_sem] theorem T.fieldO76_0 : HL.fieldO Try.prog 76 0 = some 0 := by kernel_rfl
@[go_sem] theorem T.field76_1 : HL.fieldT Try.prog 76 1 = some (8, 22) := by kernel_rfl
@[go_sem] theorem T.fieldO76_1 : HL.fieldO Try.prog 76 1 = some 8 := by kernel_rfl
@[go_sem] theorem T.field76_2 : HL.fieldT Try.prog 76 2 = some (9, 25) := by kernel_rfl
@[go_sem] theorem T.fieldO76_2 : HL.fieldO Try.prog 76 2 = some 9 := by kernel_rfl
@[go_sem] theorem T.agg77 : HL.aggN Try.prog 77 = some none := by kernel_rfl
@[go_sem] theorem T.size77 : HL.sizeT Try.prog 77 = some 1 := by kernel_rfl
@[go_sem] theorem T.bytes77 : HL.bytesT Try.prog 77 = some 8 := by kernel_rfl
@[go_sem] theorem T.zero77 : HL.zeroT Try.prog 77 = some (.nilFunc) := by kernel_rfl
@[go_sem] theorem T.agg78 : HL.aggN Try.prog 78 = some none := by kernel_rfl
@[go_sem] theorem T.size78 : HL.sizeT Try.prog 78 = some 1 := by kernel_rfl
@[go_sem] theorem T.bytes78 : HL.bytesT Try.prog 78 = some 8 := by kernel_rfl
@[go_sem] theorem T.zero78 : HL.zeroT Try.prog 78 = some (.nilFunc) := by kernel_rfl
@[go_sem] theorem T.agg79 : HL.aggN Try.prog 79 = some none := by kernel_rfl
@[go_sem] theorem T.size79 : HL.sizeT Try.prog 79 = some 1 := by kernel_rfl
@[go_sem] theorem T.bytes79 : HL.bytesT Try.prog 79 = some 8 := by kernel_rfl
@[go_sem] theorem T.zero79 : HL.zeroT Try.prog 79 = some (.nilFunc) := by kernel_rfl
@[go_sem] theorem T.agg80 : HL.aggN Try.prog 80 = some none := by kernel_rfl
@[go_sem] theorem T.size80 : HL.sizeT Try.prog 80 = some 1 := by kernel_rfl
@[go_sem] theorem T.bytes80 : HL.bytesT Try.prog 80 = some 8 := by kernel_rfl
@[go_sem] theorem T.zero80 : HL.zeroT Try.prog 80 = some (.nilFunc) := by kernel_rfl
@[go_sem] theorem T.agg81 : HL.aggN Try.prog 81 = some none := by kernel_rfl
@[go_sem] theorem T.size81 : HL.sizeT Try.prog 81 = some 1 := by kernel_rfl
@[go_sem] theorem T.bytes81 : HL.bytesT Try.prog 81 = some 8 := by kernel_rfl
@[go_sem] theorem T.zero81 : HL.zeroT Try.prog 81 = some (.nilFunc) := by kernel_rfl
@[go_sem] theorem T.agg82 : HL.aggN Try.prog 82 = some (some 3) := by kernel_rfl
@[go_sem] theorem T.size82 : HL.sizeT Try.prog 82 = some 3 := by kernel_rfl
@[go_sem] theorem T.bytes82 : HL.bytesT Try.prog 82 = some 32 := by kernel_rfl
@[go_sem] theorem T.zero82 : HL.zeroT Try.prog 82 = some (.agg #[.int .i64 0, .string ⟨#[]⟩, .int .i64 0]) := by kernel_rfl
@[go_sem] theorem T.places82 : HL.placesT Try.prog 82 = some [(0, 1), (1, 1), (2, 1)] := by kernel_rfl
@[go_sem] theorem T.field82_0 : HL.fieldT Try.prog 82 0 = some (0, 3) := by kernel_rfl
@[go_sem] theorem T.fieldO82_0 : HL.fieldO Try.prog 82 0 = some 0 := by kernel_rfl
@[go_sem] theorem T.field82_1 : HL.fieldT Try.prog 82 1 = some (1, 9) := by kernel_rfl
@[go_sem] theorem T.fieldO82_1 : HL.fieldO Try.prog 82 1 = some 1 := by kernel_rfl
@[go_sem] theorem T.field82_2 : HL.fieldT Try.prog 82 2 = some (2, 3) := by kernel_rfl
@[go_sem] theorem T.fieldO82_2 : HL.fieldO Try.prog 82 2 = some 2 := by kernel_rfl
@[go_sem] theorem T.agg83 : HL.aggN Try.prog 83 = some (some 3) := by kernel_rfl
@[go_sem] theorem T.size83 : HL.sizeT Try.prog 83 = some 3 := by kernel_rfl
@[go_sem] theorem T.bytes83 : HL.bytesT Try.prog 83 = some 32 := by kernel_rfl
@[go_sem] theorem T.zero83 : HL.zeroT Try.prog 83 = some (.agg #[.int .i64 0, .string ⟨#[]⟩, .int .i64 0]) := by kernel_rfl
@[go_sem] theorem T.places83 : HL.placesT Try.prog 83 = some [(0, 1), (1, 1), (2, 1)] := by kernel_rfl
@[go_sem] theorem T.field83_0 : HL.fieldT Try.prog 83 0 = some (0, 3) := by kernel_rfl
@[go_sem] theorem T.fieldO83_0 : HL.fieldO Try.prog 83 0 = some 0 := by kernel_rfl
@[go_sem] theorem T.field83_1 : HL.fieldT Try.prog 83 1 = some (1, 9) := by kernel_rfl
@[go_sem] theorem T.fieldO83_1 : HL.fieldO Try.prog 83 1 = some 1 := by kernel_rfl
@[go_sem] theorem T.field83_2 : HL.fieldT Try.prog 83 2 = some (2, 3) := by kernel_rfl
@[go_sem] theorem T.fieldO83_2 : HL.fieldO Try.prog 83 2 = some 2 := by kernel_rfl
@[go_sem] theorem T.agg84 : HL.aggN Try.prog 84 = some none := by kernel_rfl
@[go_sem] theorem T.size84 : HL.sizeT Try.prog 84 = some 1 := by kernel_rfl
@[go_sem] theorem T.bytes84 : HL.bytesT Try.prog 84 = some 8 := by kernel_rfl
@[go_sem] theorem T.zero84 : HL.zeroT Try.prog 84 = some (.nilFunc) := by kernel_rfl
@[go_sem] theorem T.agg85 : HL.aggN Try.prog 85 = some none := by kernel_rfl
@[go_sem] theorem T.size85 : HL.sizeT Try.prog 85 = some 1 := by kernel_rfl
@[go_sem] theorem T.bytes85 : HL.bytesT Try.prog 85 = some 8 := by kernel_rfl
@[go_sem] theorem T.zero85 : HL.zeroT Try.prog 85 = some (.nilFunc) := by kernel_rfl
@[go_sem] theorem T.agg86 : HL.aggN Try.prog 86 = some none := by kernel_rfl
@[go_sem] theorem T.size86 : HL.sizeT Try.prog 86 = some 1 := by kernel_rfl
@[go_sem] theorem T.bytes86 : HL.bytesT Try.prog 86 = some 8 := by kernel_rfl
@[go_sem] theorem T.zero86 : HL.zeroT Try.prog 86 = some (.pointer none) := by kernel_rfl
@[go_sem] theorem T.agg87 : HL.aggN Try.prog 87 = some none := by kernel_rfl
@[go_sem] theorem T.size87 : HL.sizeT Try.prog 87 = some 1 := by kernel_rfl
@[go_sem] theorem T.bytes87 : HL.bytesT Try.prog 87 = some 8 := by kernel_rfl
@[go_sem] theorem T.zero87 : HL.zeroT Try.prog 87 = some (.nilFunc) := by kernel_rfl
@[go_sem] theorem T.agg88 : HL.aggN Try.prog 88 = some none := by kernel_rfl
@[go_sem] theorem T.size88 : HL.sizeT Try.prog 88 = some 1 := by kernel_rfl
@[go_sem] theorem T.bytes88 : HL.bytesT Try.prog 88 = some 8 := by kernel_rfl
@[go_sem] theorem T.zero88 : HL.zeroT Try.prog 88 = some (.nilFunc) := by kernel_rfl
@[go_sem] theorem T.agg89 : HL.aggN Try.prog 89 = some (some 2) := by kernel_rfl
@[go_sem] theorem T.size89 : HL.sizeT Try.prog 89 = some 2 := by kernel_rfl
@[go_sem] theorem T.bytes89 : HL.bytesT Try.prog 89 = some 32 := by kernel_rfl
@[go_sem] theorem T.zero89 : HL.zeroT Try.prog 89 = some (.agg #[.slice none 0 0, .nilFunc]) := by kernel_rfl
@[go_sem] theorem T.places89 : HL.placesT Try.prog 89 = some [(0, 1), (1, 1)] := by kernel_rfl
@[go_sem] theorem T.field89_0 : HL.fieldT Try.prog 89 0 = some (0, 22) := by kernel_rfl
@[go_sem] theorem T.fieldO89_0 : HL.fieldO Try.prog 89 0 = some 0 := by kernel_rfl
@[go_sem] theorem T.field89_1 : HL.fieldT Try.prog 89 1 = some (1, 88) := by kernel_rfl
@[go_sem] theorem T.fieldO89_1 : HL.fieldO Try.prog 89 1 = some 1 := by kernel_rfl
@[go_sem] theorem T.agg90 : HL.aggN Try.prog 90 = some (some 2) := by kernel_rfl
@[go_sem] theorem T.size90 : HL.sizeT Try.prog 90 = some 2 := by kernel_rfl
@[go_sem] theorem T.bytes90 : HL.bytesT Try.prog 90 = some 32 := by kernel_rfl
@[go_sem] theorem T.zero90 : HL.zeroT Try.prog 90 = some (.agg #[.slice none 0 0, .nilFunc]) := by kernel_rfl
@[go_sem] theorem T.places90 : HL.placesT Try.prog 90 = some [(0, 1), (1, 1)] := by kernel_rfl
@[go_sem] theorem T.field90_0 : HL.fieldT Try.prog 90 0 = some (0, 22) := by kernel_rfl
@[go_sem] theorem T.fieldO90_0 : HL.fieldO Try.prog 90 0 = some 0 := by kernel_rfl
@[go_sem] theorem T.field90_1 : HL.fieldT Try.prog 90 1 = some (1, 88) := by kernel_rfl
@[go_sem] theorem T.fieldO90_1 : HL.fieldO Try.prog 90 1 = some 1 := by kernel_rfl
@[go_sem] theorem T.agg91 : HL.aggN Try.prog 91 = some none := by kernel_rfl
@[go_sem] theorem T.size91 : HL.sizeT Try.prog 91 = some 1 := by kernel_rfl
@[go_sem] theorem T.bytes91 : HL.bytesT Try.prog 91 = some 8 := by kernel_rfl
@[go_sem] theorem T.zero91 : HL.zeroT Try.prog 91 = some (.pointer none) := by kernel_rfl
@[go_sem] theorem T.agg92 : HL.aggN Try.prog 92 = some none := by kernel_rfl
@[go_sem] theorem T.size92 : HL.sizeT Try.prog 92 = some 1 := by kernel_rfl
@[go_sem] theorem T.bytes92 : HL.bytesT Try.prog 92 = some 8 := by kernel_rfl
@[go_sem] theorem T.zero92 : HL.zeroT Try.prog 92 = some (.nilFunc) := by kernel_rfl
@[go_sem] theorem T.agg93 : HL.aggN Try.prog 93 = some none := by kernel_rfl
@[go_sem] theorem T.size93 : HL.sizeT Try.prog 93 = some 1 := by kernel_rfl
@[go_sem] theorem T.bytes93 : HL.bytesT Try.prog 93 = some 8 := by kernel_rfl
@[go_sem] theorem T.zero93 : HL.zeroT Try.prog 93 = some (.pointer none) := by kernel_rfl
@[go_sem] theorem T.agg94 : HL.aggN Try.prog 94 = some none := by kernel_rfl
@[go_sem] theorem T.size94 : HL.sizeT Try.prog 94 = some 1 := by kernel_rfl
@[go_sem] theorem T.bytes94 : HL.bytesT Try.prog 94 = some 8 := by kernel_rfl
@[go_sem] theorem T.zero94 : HL.zeroT Try.prog 94 = some (.pointer none) := by kernel_rfl
@[go_sem] theorem T.agg95 : HL.aggN Try.prog 95 = some none := by kernel_rfl
@[go_sem] theorem T.size95 : HL.sizeT Try.prog 95 = some 1 := by kernel_rfl
@[go_sem] theorem T.bytes95 : HL.bytesT Try.prog 95 = some 8 := by kernel_rfl
@[go_sem] theorem T.zero95 : HL.zeroT Try.prog 95 = some (.nilFunc) := by kernel_rfl
@[go_sem] theorem T.agg96 : HL.aggN Try.prog 96 = some none := by kernel_rfl
@[go_sem] theorem T.size96 : HL.sizeT Try.prog 96 = some 1 := by kernel_rfl
@[go_sem] theorem T.bytes96 : HL.bytesT Try.prog 96 = some 8 := by kernel_rfl
@[go_sem] theorem T.zero96 : HL.zeroT Try.prog 96 = some (.nilFunc) := by kernel_rfl
@[go_sem] theorem T.agg97 : HL.aggN Try.prog 97 = some none := by kernel_rfl
@[go_sem] theorem T.size97 : HL.sizeT Try.prog 97 = some 1 := by kernel_rfl
@[go_sem] theorem T.bytes97 : HL.bytesT Try.prog 97 = some 8 := by kernel_rfl
@[go_sem] theorem T.zero97 : HL.zeroT Try.prog 97 = some (.nilFunc) := by kernel_rfl
@[go_sem] theorem T.agg98 : HL.aggN Try.prog 98 = some none := by kernel_rfl
@[go_sem] theorem T.size98 : HL.sizeT Try.prog 98 = some 1 := by kernel_rfl
@[go_sem] theorem T.bytes98 : HL.bytesT Try.prog 98 = some 8 := by kernel_rfl
@[go_sem] theorem T.zero98 : HL.zeroT Try.prog 98 = some (.nilFunc) := by kernel_rfl
@[go_sem] theorem T.agg99 : HL.aggN Try.prog 99 = some none := by kernel_rfl
@[go_sem] theorem T.size99 : HL.sizeT Try.prog 99 = some 1 := by kernel_rfl
@[go_sem] theorem T.bytes99 : HL.bytesT Try.prog 99 = some 8 := by kernel_rfl
@[go_sem] theorem T.zero99 : HL.zeroT Try.prog 99 = some (.nilFunc) := by kernel_rfl
@[go_sem] theorem T.agg101 : HL.aggN Try.prog 101 = some none := by kernel_rfl
@[go_sem] theorem T.size101 : HL.sizeT Try.prog 101 = some 1 := by kernel_rfl
@[go_sem] theorem T.bytes101 : HL.bytesT Try.prog 101 = some 8 := by kernel_rfl
@[go_sem] theorem T.zero101 : HL.zeroT Try.prog 101 = some (.nilFunc) := by kernel_rfl
@[go_sem] theorem T.agg102 : HL.aggN Try.prog 102 = some none := by kernel_rfl
@[go_sem] theorem T.size102 : HL.sizeT Try.prog 102 = some 1 := by kernel_rfl
@[go_sem] theorem T.bytes102 : HL.bytesT Try.prog 102 = some 8 := by kernel_rfl
@[go_sem] theorem T.zero102 : HL.zeroT Try.prog 102 = some (.nilFunc) := by kernel_rfl
@[go_sem] theorem T.agg103 : HL.aggN Try.prog 103 = some (some 5) := by kernel_rfl
@[go_sem] theorem T.size103 : HL.sizeT Try.prog 103 = some 5 := by kernel_rfl
@[go_sem] theorem T.bytes103 : HL.bytesT Try.prog 103 = some 104 := by kernel_rfl
@[go_sem] theorem T.zero103 : HL.zeroT Try.prog 103 = some (.agg #[.slice none 0 0, .slice none 0 0, .slice none 0 0, .slice none 0 0, .bool false]) := by kernel_rfl
@[go_sem] theorem T.places103 : HL.placesT Try.prog 103 = some [(0, 1), (1, 1), (2, 1), (3, 1), (4, 1)] := by kernel_rfl
@[go_sem] theorem T.field103_0 : HL.fieldT Try.prog 103 0 = some (0, 35) := by kernel_rfl
@[go_sem] theorem T.fieldO103_0 : HL.fieldO Try.prog 103 0 = some 0 := by kernel_rfl
@[go_sem] theorem T.field103_1 : HL.fieldT Try.prog 103 1 = some (1, 35) := by kernel_rfl
@[go_sem] theorem T.fieldO103_1 : HL.fieldO Try.prog 103 1 = some 1 := by kernel_rfl
@[go_sem] theorem T.field103_2 : HL.fieldT Try.prog 103 2 = some (2, 35) := by kernel_rfl
@[go_sem] theorem T.fieldO103_2 : HL.fieldO Try.prog 103 2 = some 2 := by kernel_rfl
@[go_sem] theorem T.field103_3 : HL.fieldT Try.prog 103 3 = some (3, 35) := by kernel_rfl
@[go_sem] theorem T.fieldO103_3 : HL.fieldO Try.prog 103 3 = some 3 := by kernel_rfl
@[go_sem] theorem T.field103_4 : HL.fieldT Try.prog 103 4 = some (4, 4) := by kernel_rfl
@[go_sem] theorem T.fieldO103_4 : HL.fieldO Try.prog 103 4 = some 4 := by kernel_rfl
@[go_sem] theorem T.agg104 : HL.aggN Try.prog 104 = some (some 5) := by kernel_rfl
@[go_sem] theorem T.size104 : HL.sizeT Try.prog 104 = some 5 := by kernel_rfl
@[go_sem] theorem T.bytes104 : HL.bytesT Try.prog 104 = some 104 := by kernel_rfl
@[go_sem] theorem T.zero104 : HL.zeroT Try.prog 104 = some (.agg #[.slice none 0 0, .slice none 0 0, .slice none 0 0, .slice none 0 0, .bool false]) := by kernel_rfl
@[go_sem] theorem T.places104 : HL.placesT Try.prog 104 = some [(0, 1), (1, 1), (2, 1), (3, 1), (4, 1)] := by kernel_rfl
@[go_sem] theorem T.field104_0 : HL.fieldT Try.prog 104 0 = some (0, 35) := by kernel_rfl
@[go_sem] theorem T.fieldO104_0 : HL.fieldO Try.prog 104 0 = some 0 := by kernel_rfl
@[go_sem] theorem T.field104_1 : HL.fieldT Try.prog 104 1 = some (1, 35) := by kernel_rfl
@[go_sem] theorem T.fieldO104_1 : HL.fieldO Try.prog 104 1 = some 1 := by kernel_rfl
@[go_sem] theorem T.field104_2 : HL.fieldT Try.prog 104 2 = some (2, 35) := by kernel_rfl
@[go_sem] theorem T.fieldO104_2 : HL.fieldO Try.prog 104 2 = some 2 := by kernel_rfl
@[go_sem] theorem T.field104_3 : HL.fieldT Try.prog 104 3 = some (3, 35) := by kernel_rfl
@[go_sem] theorem T.fieldO104_3 : HL.fieldO Try.prog 104 3 = some 3 := by kernel_rfl
@[go_sem] theorem T.field104_4 : HL.fieldT Try.prog 104 4 = some (4, 4) := by kernel_rfl
@[go_sem] theorem T.fieldO104_4 : HL.fieldO Try.prog 104 4 = some 4 := by kernel_rfl
@[go_sem] theorem T.agg105 : HL.aggN Try.prog 105 = some none := by kernel_rfl
@[go_sem] theorem T.size105 : HL.sizeT Try.prog 105 = some 1 := by kernel_rfl
@[go_sem] theorem T.bytes105 : HL.bytesT Try.prog 105 = some 8 := by kernel_rfl
@[go_sem] theorem T.zero105 : HL.zeroT Try.prog 105 = some (.nilFunc) := by kernel_rfl
@[go_sem] theorem T.agg106 : HL.aggN Try.prog 106 = some none := by kernel_rfl
@[go_sem] theorem T.size106 : HL.sizeT Try.prog 106 = some 1 := by kernel_rfl
@[go_sem] theorem T.bytes106 : HL.bytesT Try.prog 106 = some 8 := by kernel_rfl
@[go_sem] theorem T.zero106 : HL.zeroT Try.prog 106 = some (.nilFunc) := by kernel_rfl
@[go_sem] theorem T.agg107 : HL.aggN Try.prog 107 = some none := by kernel_rfl
@[go_sem] theorem T.size107 : HL.sizeT Try.prog 107 = some 1 := by kernel_rfl
@[go_sem] theorem T.bytes107 : HL.bytesT Try.prog 107 = some 8 := by kernel_rfl
@[go_sem] theorem T.zero107 : HL.zeroT Try.prog 107 = some (.nilFunc) := by kernel_rfl
@[go_sem] theorem T.agg108 : HL.aggN Try.prog 108 = some none := by kernel_rfl
@[go_sem] theorem T.size108 : HL.sizeT Try.prog 108 = some 1 := by kernel_rfl
@[go_sem] theorem T.bytes108 : HL.bytesT Try.prog 108 = some 8 := by kernel_rfl
@[go_sem] theorem T.zero108 : HL.zeroT Try.prog 108 = some (.nilFunc) := by kernel_rfl
@[go_sem] theorem T.agg109 : HL.aggN Try.prog 109 = some none := by kernel_rfl
@[go_sem] theorem T.size109 : HL.sizeT Try.prog 109 = some 1 := by kernel_rfl
@[go_sem] theorem T.bytes109 : HL.bytesT Try.prog 109 = some 8 := by kernel_rfl
@[go_sem] theorem T.zero109 : HL.zeroT Try.prog 109 = some (.nilFunc) := by kernel_rfl
@[go_sem] theorem T.agg110 : HL.aggN Try.prog 110 = some none := by kernel_rfl
@[go_sem] theorem T.size110 : HL.sizeT Try.prog 110 = some 1 := by kernel_rfl
@[go_sem] theorem T.bytes110 : HL.bytesT Try.prog 110 = some 8 := by kernel_rfl
@[go_sem] theorem T.zero110 : HL.zeroT Try.prog 110 = some (.nilFunc) := by kernel_rfl
@[go_sem] theorem T.agg111 : HL.aggN Try.prog 111 = some none := by kernel_rfl
@[go_sem] theorem T.size111 : HL.sizeT Try.prog 111 = some 1 := by kernel_rfl
@[go_sem] theorem T.bytes111 : HL.bytesT Try.prog 111 = some 8 := by kernel_rfl
@[go_sem] theorem T.zero111 : HL.zeroT Try.prog 111 = some (.pointer none) := by kernel_rfl
@[go_sem] theorem T.agg112 : HL.aggN Try.prog 112 = some none := by kernel_rfl
@[go_sem] theorem T.size112 : HL.sizeT Try.prog 112 = some 1 := by kernel_rfl
@[go_sem] theorem T.bytes112 : HL.bytesT Try.prog 112 = some 8 := by kernel_rfl
@[go_sem] theorem T.zero112 : HL.zeroT Try.prog 112 = some (.nilFunc) := by kernel_rfl
@[go_sem] theorem T.agg113 : HL.aggN Try.prog 113 = some none := by kernel_rfl
@[go_sem] theorem T.size113 : HL.sizeT Try.prog 113 = some 1 := by kernel_rfl
@[go_sem] theorem T.bytes113 : HL.bytesT Try.prog 113 = some 8 := by kernel_rfl
@[go_sem] theorem T.zero113 : HL.zeroT Try.prog 113 = some (.nilFunc) := by kernel_rfl
@[go_sem] theorem T.agg114 : HL.aggN Try.prog 114 = some none := by kernel_rfl
@[go_sem] theorem T.size114 : HL.sizeT Try.prog 114 = some 1 := by kernel_rfl
@[go_sem] theorem T.bytes114 : HL.bytesT Try.prog 114 = some 8 := by kernel_rfl
@[go_sem] theorem T.zero114 : HL.zeroT Try.prog 114 = some (.nilFunc) := by kernel_rfl
@[go_sem] theorem T.agg115 : HL.aggN Try.prog 115 = some none := by kernel_rfl
@[go_sem] theorem T.size115 : HL.sizeT Try.prog 115 = some 1 := by kernel_rfl
@[go_sem] theorem T.bytes115 : HL.bytesT Try.prog 115 = some 8 := by kernel_rfl
@[go_sem] theorem T.zero115 : HL.zeroT Try.prog 115 = some (.nilFunc) := by kernel_rfl
@[go_sem] theorem T.agg116 : HL.aggN Try.prog 116 = some none := by kernel_rfl
@[go_sem] theorem T.size116 : HL.sizeT Try.prog 116 = some 1 := by kernel_rfl
@[go_sem] theorem T.bytes116 : HL.bytesT Try.prog 116 = some 8 := by kernel_rfl
@[go_sem] theorem T.zero116 : HL.zeroT Try.prog 116 = some (.nilFunc) := by kernel_rfl
@[go_sem] theorem T.agg117 : HL.aggN Try.prog 117 = some none := by kernel_rfl
@[go_sem] theorem T.size117 : HL.sizeT Try.prog 117 = some 1 := by kernel_rfl
@[go_sem] theorem T.bytes117 : HL.bytesT Try.prog 117 = some 8 := by kernel_rfl
@[go_sem] theorem T.zero117 : HL.zeroT Try.prog 117 = some (.nilFunc) := by kernel_rfl
@[go_sem] theorem T.agg118 : HL.aggN Try.prog 118 = some none := by kernel_rfl
@[go_sem] theorem T.size118 : HL.sizeT Try.prog 118 = some 1 := by kernel_rfl
@[go_sem] theorem T.bytes118 : HL.bytesT Try.prog 118 = some 8 := by kernel_rfl
@[go_sem] theorem T.zero118 : HL.zeroT Try.prog 118 = some (.nilFunc) := by kernel_rfl
@[go_sem] theorem T.agg119 : HL.aggN Try.prog 119 = some (some 2) := by kernel_rfl
@[go_sem] theorem T.size119 : HL.sizeT Try.prog 119 = some 2 := by kernel_rfl
@[go_sem] theorem T.bytes119 : HL.bytesT Try.prog 119 = some 16 := by kernel_rfl
@[go_sem] theorem T.zero119 : HL.zeroT Try.prog 119 = some (.agg #[.int .i64 0, .int .i64 0]) := by kernel_rfl
@[go_sem] theorem T.places119 : HL.placesT Try.prog 119 = none := by kernel_rfl
@[go_sem] theorem T.arr119 : HL.arrT Try.prog 119 = some (2, 3) := by kernel_rfl
@[go_sem] theorem T.arrS119 : HL.arrS Try.prog 119 = some (2, 1) := by kernel_rfl
@[go_sem] theorem T.agg120 : HL.aggN Try.prog 120 = some none := by kernel_rfl
@[go_sem] theorem T.size120 : HL.sizeT Try.prog 120 = some 1 := by kernel_rfl
@[go_sem] theorem T.bytes120 : HL.bytesT Try.prog 120 = some 8 := by kernel_rfl
@[go_sem] theorem T.zero120 : HL.zeroT Try.prog 120 = some (.nilFunc) := by kernel_rfl
@[go_sem] theorem T.agg121 : HL.aggN Try.prog 121 = some none := by kernel_rfl
@[go_sem] theorem T.size121 : HL.sizeT Try.prog 121 = some 1 := by kernel_rfl
@[go_sem] theorem T.bytes121 : HL.bytesT Try.prog 121 = some 8 := by kernel_rfl
@[go_sem] theorem T.zero121 : HL.zeroT Try.prog 121 = some (.nilFunc) := by kernel_rfl
@[go_sem] theorem T.agg122 : HL.aggN Try.prog 122 = some none := by kernel_rfl
@[go_sem] theorem T.size122 : HL.sizeT Try.prog 122 = some 1 := by kernel_rfl
@[go_sem] theorem T.bytes122 : HL.bytesT Try.prog 122 = some 8 := by kernel_rfl
@[go_sem] theorem T.zero122 : HL.zeroT Try.prog 122 = some (.nilFunc) := by kernel_rfl
@[go_sem] theorem T.agg123 : HL.aggN Try.prog 123 = some none := by kernel_rfl
@[go_sem] theorem T.size123 : HL.sizeT Try.prog 123 = some 1 := by kernel_rfl
@[go_sem] theorem T.bytes123 : HL.bytesT Try.prog 123 = some 8 := by kernel_rfl
@[go_sem] theorem T.zero123 : HL.zeroT Try.prog 123 = some (.nilFunc) := by kernel_rfl
@[go_sem] theorem T.agg124 : HL.aggN Try.prog 124 = some none := by kernel_rfl
@[go_sem] theorem T.size124 : HL.sizeT Try.prog 124 = some 1 := by kernel_rfl
@[go_sem] theorem T.bytes124 : HL.bytesT Try.prog 124 = some 8 := by kernel_rfl
@[go_sem] theorem T.zero124 : HL.zeroT Try.prog 124 = some (.nilFunc) := by kernel_rfl
@[go_sem] theorem T.agg125 : HL.aggN Try.prog 125 = some none := by kernel_rfl
@[go_sem] theorem T.size125 : HL.sizeT Try.prog 125 = some 1 := by kernel_rfl
@[go_sem] theorem T.bytes125 : HL.bytesT Try.prog 125 = some 24 := by kernel_rfl
@[go_sem] theorem T.zero125 : HL.zeroT Try.prog 125 = some (.slice none 0 0) := by kernel_rfl
@[go_sem] theorem T.elem125 : HL.elemT Try.prog 125 = some 119 := by kernel_rfl
@[go_sem] theorem T.elemS125 : HL.elemS Try.prog 125 = some 2 := by kernel_rfl
@[go_sem] theorem T.agg126 : HL.aggN Try.prog 126 = some none := by kernel_rfl
@[go_sem] theorem T.size126 : HL.sizeT Try.prog 126 = some 1 := by kernel_rfl
@[go_sem] theorem T.bytes126 : HL.bytesT Try.prog 126 = some 8 := by kernel_rfl
@[go_sem] theorem T.zero126 : HL.zeroT Try.prog 126 = some (.nilFunc) := by kernel_rfl
@[go_sem] theorem T.agg127 : HL.aggN Try.prog 127 = some (some 4) := by kernel_rfl
@[go_sem] theorem T.size127 : HL.sizeT Try.prog 127 = some 4 := by kernel_rfl
@[go_sem] theorem T.bytes127 : HL.bytesT Try.prog 127 = some 40 := by kernel_rfl
@[go_sem] theorem T.zero127 : HL.zeroT Try.prog 127 = some (.agg #[.pointer none, .pointer none, .pointer none, .string ⟨#[]⟩]) := by kernel_rfl
@[go_sem] theorem T.places127 : HL.placesT Try.prog 127 = some [(0, 1), (1, 1), (2, 1), (3, 1)] := by kernel_rfl
@[go_sem] theorem T.field127_0 : HL.fieldT Try.prog 127 0 = some (0, 17) := by kernel_rfl
@[go_sem] theorem T.fieldO127_0 : HL.fieldO Try.prog 127 0 = some 0 := by kernel_rfl
@[go_sem] theorem T.field127_1 : HL.fieldT Try.prog 127 1 = some (1, 17) := by kernel_rfl
@[go_sem] theorem T.fieldO127_1 : HL.fieldO Try.prog 127 1 = some 1 := by kernel_rfl
@[go_sem] theorem T.field127_2 : HL.fieldT Try.prog 127 2 = some (2, 17) := by kernel_rfl
@[go_sem] theorem T.fieldO127_2 : HL.fieldO Try.prog 127 2 = some 2 := by kernel_rfl
@[go_sem] theorem T.field127_3 : HL.fieldT Try.prog 127 3 = some (3, 9) := by kernel_rfl
@[go_sem] theorem T.fieldO127_3 : HL.fieldO Try.prog 127 3 = some 3 := by kernel_rfl
@[go_sem] theorem T.agg128 : HL.aggN Try.prog 128 = some (some 4) := by kernel_rfl
@[go_sem] theorem T.size128 : HL.sizeT Try.prog 128 = some 4 := by kernel_rfl
@[go_sem] theorem T.bytes128 : HL.bytesT Try.prog 128 = some 40 := by kernel_rfl
@[go_sem] theorem T.zero128 : HL.zeroT Try.prog 128 = some (.agg #[.pointer none, .pointer none, .pointer none, .string ⟨#[]⟩]) := by kernel_rfl
@[go_sem] theorem T.places128 : HL.placesT Try.prog 128 = some [(0, 1), (1, 1), (2, 1), (3, 1)] := by kernel_rfl
@[go_sem] theorem T.field128_0 : HL.fieldT Try.prog 128 0 = some (0, 17) := by kernel_rfl
@[go_sem] theorem T.fieldO128_0 : HL.fieldO Try.prog 128 0 = some 0 := by kernel_rfl
@[go_sem] theorem T.field128_1 : HL.fieldT Try.prog 128 1 = some (1, 17) := by kernel_rfl
@[go_sem] theorem T.fieldO128_1 : HL.fieldO Try.prog 128 1 = some 1 := by kernel_rfl
@[go_sem] theorem T.field128_2 : HL.fieldT Try.prog 128 2 = some (2, 17) := by kernel_rfl
@[go_sem] theorem T.fieldO128_2 : HL.fieldO Try.prog 128 2 = some 2 := by kernel_rfl
@[go_sem] theorem T.field128_3 : HL.fieldT Try.prog 128 3 = some (3, 9) := by kernel_rfl
@[go_sem] theorem T.fieldO128_3 : HL.fieldO Try.prog 128 3 = some 3 := by kernel_rfl
@[go_sem] theorem T.agg129 : HL.aggN Try.prog 129 = some (some 0) := by kernel_rfl
@[go_sem] theorem T.size129 : HL.sizeT Try.prog 129 = some 0 := by kernel_rfl
@[go_sem] theorem T.bytes129 : HL.bytesT Try.prog 129 = some 0 := by kernel_rfl
@[go_sem] theorem T.zero129 : HL.zeroT Try.prog 129 = some (.agg #[]) := by kernel_rfl
@[go_sem] theorem T.places129 : HL.placesT Try.prog 129 = none := by kernel_rfl
@[go_sem] theorem T.arr129 : HL.arrT Try.prog 129 = some (0, 16) := by kernel_rfl
@[go_sem] theorem T.arrS129 : HL.arrS Try.prog 129 = some (0, 1) := by kernel_rfl
@[go_sem] theorem T.agg130 : HL.aggN Try.prog 130 = some (some 0) := by kernel_rfl
@[go_sem] theorem T.size130 : HL.sizeT Try.prog 130 = some 0 := by kernel_rfl
@[go_sem] theorem T.bytes130 : HL.bytesT Try.prog 130 = some 0 := by kernel_rfl
@[go_sem] theorem T.zero130 : HL.zeroT Try.prog 130 = some (.agg #[]) := by kernel_rfl
@[go_sem] theorem T.places130 : HL.placesT Try.prog 130 = some [(0, 0)] := by kernel_rfl
@[go_sem] theorem T.field130_0 : HL.fieldT Try.prog 130 0 = some (0, 129) := by kernel_rfl
@[go_sem] theorem T.agg131 : HL.aggN Try.prog 131 = some (some 0) := by kernel_rfl
@[go_sem] theorem T.size131 : HL.sizeT Try.prog 131 = some 0 := by kernel_rfl
@[go_sem] theorem T.bytes131 : HL.bytesT Try.prog 131 = some 0 := by kernel_rfl
@[go_sem] theorem T.zero131 : HL.zeroT Try.prog 131 = some (.agg #[]) := by kernel_rfl
@[go_sem] theorem T.places131 : HL.placesT Try.prog 131 = some [(0, 0)] := by kernel_rfl
@[go_sem] theorem T.field131_0 : HL.fieldT Try.prog 131 0 = some (0, 129) := by kernel_rfl
@[go_sem] theorem T.agg132 : HL.aggN Try.prog 132 = some none := by kernel_rfl
@[go_sem] theorem T.size132 : HL.sizeT Try.prog 132 = some 1 := by kernel_rfl
@[go_sem] theorem T.bytes132 : HL.bytesT Try.prog 132 = some 4 := by kernel_rfl
@[go_sem] theorem T.zero132 : HL.zeroT Try.prog 132 = some (.int .u32 0) := by kernel_rfl
@[go_sem] theorem T.agg133 : HL.aggN Try.prog 133 = some none := by kernel_rfl
@[go_sem] theorem T.size133 : HL.sizeT Try.prog 133 = some 1 := by kernel_rfl
@[go_sem] theorem T.bytes133 : HL.bytesT Try.prog 133 = some 1 := by kernel_rfl
@[go_sem] theorem T.zero133 : HL.zeroT Try.prog 133 = some (.int .u8 0) := by kernel_rfl
@[go_sem] theorem T.agg134 : HL.aggN Try.prog 134 = some none := by kernel_rfl
@[go_sem] theorem T.size134 : HL.sizeT Try.prog 134 = some 1 := by kernel_rfl
@[go_sem] theorem T.bytes134 : HL.bytesT Try.prog 134 = some 1 := by kernel_rfl
@[go_sem] theorem T.zero134 : HL.zeroT Try.prog 134 = some (.int .u8 0) := by kernel_rfl
@[go_sem] theorem T.agg135 : HL.aggN Try.prog 135 = some none := by kernel_rfl
@[go_sem] theorem T.size135 : HL.sizeT Try.prog 135 = some 1 := by kernel_rfl
@[go_sem] theorem T.bytes135 : HL.bytesT Try.prog 135 = some 8 := by kernel_rfl
@[go_sem] theorem T.zero135 : HL.zeroT Try.prog 135 = some (.nilFunc) := by kernel_rfl
@[go_sem] theorem T.agg136 : HL.aggN Try.prog 136 = some none := by kernel_rfl
@[go_sem] theorem T.size136 : HL.sizeT Try.prog 136 = some 1 := by kernel_rfl
@[go_sem] theorem T.bytes136 : HL.bytesT Try.prog 136 = some 8 := by kernel_rfl
@[go_sem] theorem T.zero136 : HL.zeroT Try.prog 136 = some (.pointer none) := by kernel_rfl
@[go_sem] theorem T.agg137 : HL.aggN Try.prog 137 = some none := by kernel_rfl
@[go_sem] theorem T.size137 : HL.sizeT Try.prog 137 = some 1 := by kernel_rfl
@[go_sem] theorem T.bytes137 : HL.bytesT Try.prog 137 = some 4 := by kernel_rfl
@[go_sem] theorem T.zero137 : HL.zeroT Try.prog 137 = some (.int .i32 0) := by kernel_rfl
@[go_sem] theorem T.agg138 : HL.aggN Try.prog 138 = some none := by kernel_rfl
@[go_sem] theorem T.size138 : HL.sizeT Try.prog 138 = some 1 := by kernel_rfl
@[go_sem] theorem T.bytes138 : HL.bytesT Try.prog 138 = some 4 := by kernel_rfl
@[go_sem] theorem T.zero138 : HL.zeroT Try.prog 138 = some (.int .i32 0) := by kernel_rfl
@[go_sem] theorem T.agg139 : HL.aggN Try.prog 139 = some (some 11) := by kernel_rfl
@[go_sem] theorem T.size139 : HL.sizeT Try.prog 139 = some 11 := by kernel_rfl
@[go_sem] theorem T.bytes139 : HL.bytesT Try.prog 139 = some 48 := by kernel_rfl
@[go_sem] theorem T.zero139 : HL.zeroT Try.prog 139 = some (.agg #[.int .u64 0, .int .u64 0, .int .u32 0, .int .u8 0, .int .u8 0, .int .u8 0, .int .u8 0, .nilFunc, .pointer none, .int .i32 0, .int .i32 0]) := by kernel_rfl
@[go_sem] theorem T.places139 : HL.placesT Try.prog 139 = some [(0, 1), (1, 1), (2, 1), (3, 1), (4, 1), (5, 1), (6, 1), (7, 1), (8, 1), (9, 1), (10, 1)] := by kernel_rfl
@[go_sem] theorem T.field139_0 : HL.fieldT Try.prog 139 0 = some (0, 12) := by kernel_rfl
@[go_sem] theorem T.fieldO139_0 : HL.fieldO Try.prog 139 0 = some 0 := by kernel_rfl
@[go_sem] theorem T.field139_1 : HL.fieldT Try.prog 139 1 = some (1, 12) := by kernel_rfl
@[go_sem] theorem T.fieldO139_1 : HL.fieldO Try.prog 139 1 = some 1 := by kernel_rfl
@[go_sem] theorem T.field139_2 : HL.fieldT Try.prog 139 2 = some (2, 132) := by kernel_rfl
@[go_sem] theorem T.fieldO139_2 : HL.fieldO Try.prog 139 2 = some 2 := by kernel_rfl
@[go_sem] theorem T.field139_3 : HL.fieldT Try.prog 139 3 = some (3, 133) := by kernel_rfl
@[go_sem] theorem T.fieldO139_3 : HL.fieldO Try.prog 139 3 = some 3 := by kernel_rfl
@[go_sem] theorem T.field139_4 : HL.fieldT Try.prog 139 4 = some (4, 5) := by kernel_rfl
@[go_sem] theorem T.fieldO139_4 : HL.fieldO Try.prog 139 4 = some 4 := by kernel_rfl
@[go_sem] theorem T.field139_5 : HL.fieldT Try.prog 139 5 = some (5, 5) := by kernel_rfl
@[go_sem] theorem T.fieldO139_5 : HL.fieldO Try.prog 139 5 = some 5 := by kernel_rfl
@[go_sem] theorem T.field139_6 : HL.fieldT Try.prog 139 6 = some (6, 134) := by kernel_rfl
@[go_sem] theorem T.fieldO139_6 : HL.fieldO Try.prog 139 6 = some 6 := by kernel_rfl
@[go_sem] theorem T.field139_7 : HL.fieldT Try.prog 139 7 = some (7, 135) := by kernel_rfl
@[go_sem] theorem T.fieldO139_7 : HL.fieldO Try.prog 139 7 = some 7 := by kernel_rfl
@[go_sem] theorem T.field139_8 : HL.fieldT Try.prog 139 8 = some (8, 136) := by kernel_rfl
@[go_sem] theorem T.fieldO139_8 : HL.fieldO Try.prog 139 8 = some 8 := by kernel_rfl
@[go_sem] theorem T.field139_9 : HL.fieldT Try.prog 139 9 = some (9, 137) := by kernel_rfl
@[go_sem] theorem T.fieldO139_9 : HL.fieldO Try.prog 139 9 = some 9 := by kernel_rfl
@[go_sem] theorem T.field139_10 : HL.fieldT Try.prog 139 10 = some (10, 138) := by kernel_rfl
@[go_sem] theorem T.fieldO139_10 : HL.fieldO Try.prog 139 10 = some 10 := by kernel_rfl
@[go_sem] theorem T.agg140 : HL.aggN Try.prog 140 = some (some 11) := by kernel_rfl
@[go_sem] theorem T.size140 : HL.sizeT Try.prog 140 = some 11 := by kernel_rfl
@[go_sem] theorem T.bytes140 : HL.bytesT Try.prog 140 = some 48 := by kernel_rfl
@[go_sem] theorem T.zero140 : HL.zeroT Try.prog 140 = some (.agg #[.int .u64 0, .int .u64 0, .int .u32 0, .int .u8 0, .int .u8 0, .int .u8 0, .int .u8 0, .nilFunc, .pointer none, .int .i32 0, .int .i32 0]) := by kernel_rfl
@[go_sem] theorem T.places140 : HL.placesT Try.prog 140 = some [(0, 1), (1, 1), (2, 1), (3, 1), (4, 1), (5, 1), (6, 1), (7, 1), (8, 1), (9, 1), (10, 1)] := by kernel_rfl
@[go_sem] theorem T.field140_0 : HL.fieldT Try.prog 140 0 = some (0, 12) := by kernel_rfl
@[go_sem] theorem T.fieldO140_0 : HL.fieldO Try.prog 140 0 = some 0 := by kernel_rfl
@[go_sem] theorem T.field140_1 : HL.fieldT Try.prog 140 1 = some (1, 12) := by kernel_rfl
@[go_sem] theorem T.fieldO140_1 : HL.fieldO Try.prog 140 1 = some 1 := by kernel_rfl
@[go_sem] theorem T.field140_2 : HL.fieldT Try.prog 140 2 = some (2, 132) := by kernel_rfl
@[go_sem] theorem T.fieldO140_2 : HL.fieldO Try.prog 140 2 = some 2 := by kernel_rfl
@[go_sem] theorem T.field140_3 : HL.fieldT Try.prog 140 3 = some (3, 133) := by kernel_rfl
@[go_sem] theorem T.fieldO140_3 : HL.fieldO Try.prog 140 3 = some 3 := by kernel_rfl
@[go_sem] theorem T.field140_4 : HL.fieldT Try.prog 140 4 = some (4, 5) := by kernel_rfl
@[go_sem] theorem T.fieldO140_4 : HL.fieldO Try.prog 140 4 = some 4 := by kernel_rfl
@[go_sem] theorem T.field140_5 : HL.fieldT Try.prog 140 5 = some (5, 5) := by kernel_rfl
@[go_sem] theorem T.fieldO140_5 : HL.fieldO Try.prog 140 5 = some 5 := by kernel_rfl
@[go_sem] theorem T.field140_6 : HL.fieldT Try.prog 140 6 = some (6, 134) := by kernel_rfl
@[go_sem] theorem T.fieldO140_6 : HL.fieldO Try.prog 140 6 = some 6 := by kernel_rfl
@[go_sem] theorem T.field140_7 : HL.fieldT Try.prog 140 7 = some (7, 135) := by kernel_rfl
@[go_sem] theorem T.fieldO140_7 : HL.fieldO Try.prog 140 7 = some 7 := by kernel_rfl
@[go_sem] theorem T.field140_8 : HL.fieldT Try.prog 140 8 = some (8, 136) := by kernel_rfl
@[go_sem] theorem T.fieldO140_8 : HL.fieldO Try.prog 140 8 = some 8 := by kernel_rfl
@[go_sem] theorem T.field140_9 : HL.fieldT Try.prog 140 9 = some (9, 137) := by kernel_rfl
@[go_sem] theorem T.fieldO140_9 : HL.fieldO Try.prog 140 9 = some 9 := by kernel_rfl
@[go_sem] theorem T.field140_10 : HL.fieldT Try.prog 140 10 = some (10, 138) := by kernel_rfl
@[go_sem] theorem T.fieldO140_10 : HL.fieldO Try.prog 140 10 = some 10 := by kernel_rfl
@[go_sem] theorem T.agg141 : HL.aggN Try.prog 141 = some none := by kernel_rfl
@[go_sem] theorem T.size141 : HL.sizeT Try.prog 141 = some 1 := by kernel_rfl
@[go_sem] theorem T.bytes141 : HL.bytesT Try.prog 141 = some 8 := by kernel_rfl
@[go_sem] theorem T.zero141 : HL.zeroT Try.prog 141 = some (.pointer none) := by kernel_rfl
theorem T.el22 : HL.ElT Try.prog 22 49 5 88 (.agg #[.int .i64 0, .slice none 0 0, .slice none 0 0, .slice none 0 0, .int .i64 0]) := ⟨T.elem22, T.size49, T.bytes49, T.zero49⟩
@[go_sem] theorem T.bs22_0 {H : HL.Heap} : HL.buildSliceV Try.prog H 22 0 [] = some (.slice (some ⟨H.size, 0, none⟩) 0 0, H.push (.cells #[] 49)) := HL.bs_zero T.elem22 T.size49 T.zero49
theorem T.el25 : HL.ElT Try.prog 25 73 5 40 (.agg #[.string ⟨#[]⟩, .int .i64 0, .int .i64 0, .bool false, .bool false]) := ⟨T.elem25, T.size73, T.bytes73, T.zero73⟩
@[go_sem] theorem T.bs25_0 {H : HL.Heap} : HL.buildSliceV Try.prog H 25 0 [] = some (.slice (some ⟨H.size, 0, none⟩) 0 0, H.push (.cells #[] 73)) := HL.bs_zero T.elem25 T.size73 T.zero73
theorem T.el26 : HL.ElT Try.prog 26 47 3 32 (.agg #[.string ⟨#[]⟩, .int .i64 0, .int .i64 0]) := ⟨T.elem26, T.size47, T.bytes47, T.zero47⟩
@[go_sem] theorem T.bs26_0 {H : HL.Heap} : HL.buildSliceV Try.prog H 26 0 [] = some (.slice (some ⟨H.size, 0, none⟩) 0 0, H.push (.cells #[] 47)) := HL.bs_zero T.elem26 T.size47 T.zero47
theorem T.el27 : HL.ElT Try.prog 27 37 8 152 (.agg #[.string ⟨#[]⟩, .int .i64 0, .slice none 0 0, .int .i64 0, .slice none 0 0, .slice none 0 0, .slice none 0 0, .slice none 0 0]) := ⟨T.elem27, T.size37, T.bytes37, T.zero37⟩
@[go_sem] theorem T.bs27_0 {H : HL.Heap} : HL.buildSliceV Try.prog H 27 0 [] = some (.slice (some ⟨H.size, 0, none⟩) 0 0, H.push (.cells #[] 37)) := HL.bs_zero T.elem27 T.size37 T.zero37
theorem T.el28 : HL.ElT Try.prog 28 3 1 8 (.int .i64 0) := ⟨T.elem28, T.size3, T.bytes3, T.zero3⟩
@[go_sem] theorem T.bs28_1 {H : HL.Heap} {k0 : IntKind} {n0 : Int} : HL.buildSliceV Try.prog H 28 1 [(0, .int k0 n0)] = some (.slice (some ⟨H.size, 0, none⟩) 1 1, H.push (.cells #[.int k0 n0] 3)) := HL.bs_one T.elem28 T.size3 T.zero3 rfl
@[go_sem] theorem T.bs28_2 {H : HL.Heap} {k0 : IntKind} {n0 : Int} {k1 : IntKind} {n1 : Int} : HL.buildSliceV Try.prog H 28 2 [(0, .int k0 n0), (1, .int k1 n1)] = some (.slice (some ⟨H.size, 0, none⟩) 2 2, H.push (.cells #[.int k0 n0, .int k1 n1] 3)) := HL.bs_two T.elem28 T.size3 T.zero3 rfl rfl
@[go_sem] theorem T.bs28_3 {H : HL.Heap} {k0 : IntKind} {n0 : Int} {k1 : IntKind} {n1 : Int} {k2 : IntKind} {n2 : Int} : HL.buildSliceV Try.prog H 28 3 [(0, .int k0 n0), (1, .int k1 n1), (2, .int k2 n2)] = some (.slice (some ⟨H.size, 0, none⟩) 3 3, H.push (.cells #[.int k0 n0, .int k1 n1, .int k2 n2] 3)) := HL.bs_three T.elem28 T.size3 T.zero3 rfl rfl rfl
@[go_sem] theorem T.bs28_4 {H : HL.Heap} {k0 : IntKind} {n0 : Int} {k1 : IntKind} {n1 : Int} {k2 : IntKind} {n2 : Int} {k3 : IntKind} {n3 : Int} : HL.buildSliceV Try.prog H 28 4 [(0, .int k0 n0), (1, .int k1 n1), (2, .int k2 n2), (3, .int k3 n3)] = some (.slice (some ⟨H.size, 0, none⟩) 4 4, H.push (.cells #[.int k0 n0, .int k1 n1, .int k2 n2, .int k3 n3] 3)) := HL.bs_four T.elem28 T.size3 T.zero3 rfl rfl rfl rfl
@[go_sem] theorem T.bs28_0 {H : HL.Heap} : HL.buildSliceV Try.prog H 28 0 [] = some (.slice (some ⟨H.size, 0, none⟩) 0 0, H.push (.cells #[] 3)) := HL.bs_zero T.elem28 T.size3 T.zero3
theorem T.el33 : HL.ElT Try.prog 33 4 1 1 (.bool false) := ⟨T.elem33, T.size4, T.bytes4, T.zero4⟩
@[go_sem] theorem T.bs33_1 {H : HL.Heap} {n0 : Bool} : HL.buildSliceV Try.prog H 33 1 [(0, .bool n0)] = some (.slice (some ⟨H.size, 0, none⟩) 1 1, H.push (.cells #[.bool n0] 4)) := HL.bs_one T.elem33 T.size4 T.zero4 rfl
@[go_sem] theorem T.bs33_2 {H : HL.Heap} {n0 : Bool} {n1 : Bool} : HL.buildSliceV Try.prog H 33 2 [(0, .bool n0), (1, .bool n1)] = some (.slice (some ⟨H.size, 0, none⟩) 2 2, H.push (.cells #[.bool n0, .bool n1] 4)) := HL.bs_two T.elem33 T.size4 T.zero4 rfl rfl
@[go_sem] theorem T.bs33_3 {H : HL.Heap} {n0 : Bool} {n1 : Bool} {n2 : Bool} : HL.buildSliceV Try.prog H 33 3 [(0, .bool n0), (1, .bool n1), (2, .bool n2)] = some (.slice (some ⟨H.size, 0, none⟩) 3 3, H.push (.cells #[.bool n0, .bool n1, .bool n2] 4)) := HL.bs_three T.elem33 T.size4 T.zero4 rfl rfl rfl
@[go_sem] theorem T.bs33_4 {H : HL.Heap} {n0 : Bool} {n1 : Bool} {n2 : Bool} {n3 : Bool} : HL.buildSliceV Try.prog H 33 4 [(0, .bool n0), (1, .bool n1), (2, .bool n2), (3, .bool n3)] = some (.slice (some ⟨H.size, 0, none⟩) 4 4, H.push (.cells #[.bool n0, .bool n1, .bool n2, .bool n3] 4)) := HL.bs_four T.elem33 T.size4 T.zero4 rfl rfl rfl rfl
@[go_sem] theorem T.bs33_0 {H : HL.Heap} : HL.buildSliceV Try.prog H 33 0 [] = some (.slice (some ⟨H.size, 0, none⟩) 0 0, H.push (.cells #[] 4)) := HL.bs_zero T.elem33 T.size4 T.zero4
theorem T.el34 : HL.ElT Try.prog 34 39 8 64 (.agg #[.int .i64 0, .int .i64 0, .int .i64 0, .int .i64 0, .int .i64 0, .int .i64 0, .bool false, .int .i64 0]) := ⟨T.elem34, T.size39, T.bytes39, T.zero39⟩
@[go_sem] theorem T.bs34_0 {H : HL.Heap} : HL.buildSliceV Try.prog H 34 0 [] = some (.slice (some ⟨H.size, 0, none⟩) 0 0, H.push (.cells #[] 39)) := HL.bs_zero T.elem34 T.size39 T.zero39
theorem T.el35 : HL.ElT Try.prog 35 9 1 16 (.string ⟨#[]⟩) := ⟨T.elem35, T.size9, T.bytes9, T.zero9⟩
@[go_sem] theorem T.bs35_1 {H : HL.Heap} {n0 : ByteArray} : HL.buildSliceV Try.prog H 35 1 [(0, .string n0)] = some (.slice (some ⟨H.size, 0, none⟩) 1 1, H.push (.cells #[.string n0] 9)) := HL.bs_one T.elem35 T.size9 T.zero9 rfl
@[go_sem] theorem T.bs35_2 {H : HL.Heap} {n0 : ByteArray} {n1 : ByteArray} : HL.buildSliceV Try.prog H 35 2 [(0, .string n0), (1, .string n1)] = some (.slice (some ⟨H.size, 0, none⟩) 2 2, H.push (.cells #[.string n0, .string n1] 9)) := HL.bs_two T.elem35 T.size9 T.zero9 rfl rfl
@[go_sem] theorem T.bs35_3 {H : HL.Heap} {n0 : ByteArray} {n1 : ByteArray} {n2 : ByteArray} : HL.buildSliceV Try.prog H 35 3 [(0, .string n0), (1, .string n1), (2, .string n2)] = some (.slice (some ⟨H.size, 0, none⟩) 3 3, H.push (.cells #[.string n0, .string n1, .string n2] 9)) := HL.bs_three T.elem35 T.size9 T.zero9 rfl rfl rfl
@[go_sem] theorem T.bs35_4 {H : HL.Heap} {n0 : ByteArray} {n1 : ByteArray} {n2 : ByteArray} {n3 : ByteArray} : HL.buildSliceV Try.prog H 35 4 [(0, .string n0), (1, .string n1), (2, .string n2), (3, .string n3)] = some (.slice (some ⟨H.size, 0, none⟩) 4 4, H.push (.cells #[.string n0, .string n1, .string n2, .string n3] 9)) := HL.bs_four T.elem35 T.size9 T.zero9 rfl rfl rfl rfl
@[go_sem] theorem T.bs35_0 {H : HL.Heap} : HL.buildSliceV Try.prog H 35 0 [] = some (.slice (some ⟨H.size, 0, none⟩) 0 0, H.push (.cells #[] 9)) := HL.bs_zero T.elem35 T.size9 T.zero9
theorem T.el56 : HL.ElT Try.prog 56 83 3 32 (.agg #[.int .i64 0, .string ⟨#[]⟩, .int .i64 0]) := ⟨T.elem56, T.size83, T.bytes83, T.zero83⟩
@[go_sem] theorem T.bs56_0 {H : HL.Heap} : HL.buildSliceV Try.prog H 56 0 [] = some (.slice (some ⟨H.size, 0, none⟩) 0 0, H.push (.cells #[] 83)) := HL.bs_zero T.elem56 T.size83 T.zero83
theorem T.el62 : HL.ElT Try.prog 62 64 6 112 (.agg #[.int .i64 0, .slice none 0 0, .slice none 0 0, .slice none 0 0, .int .i64 0, .slice none 0 0]) := ⟨T.elem62, T.size64, T.bytes64, T.zero64⟩
@[go_sem] theorem T.bs62_0 {H : HL.Heap} : HL.buildSliceV Try.prog H 62 0 [] = some (.slice (some ⟨H.size, 0, none⟩) 0 0, H.push (.cells #[] 64)) := HL.bs_zero T.elem62 T.size64 T.zero64
theorem T.el125 : HL.ElT Try.prog 125 119 2 16 (.agg #[.int .i64 0, .int .i64 0]) := ⟨T.elem125, T.size119, T.bytes119, T.zero119⟩
@[go_sem] theorem T.bs125_0 {H : HL.Heap} : HL.buildSliceV Try.prog H 125 0 [] = some (.slice (some ⟨H.size, 0, none⟩) 0 0, H.push (.cells #[] 119)) := HL.bs_zero T.elem125 T.size119 T.zero119
@[go_sem] theorem T.pe15 {H : HL.Heap} {xo yo : Operand} {a : Addr} : HL.binV Try.prog (HL.full H) .eql 15 xo yo (.pointer (some a)) (.pointer none) = some (.bool false) := HL.bin_ptr_eql Try.underlying15
@[go_sem] theorem T.pn15 {H : HL.Heap} {xo yo : Operand} {a : Addr} : HL.binV Try.prog (HL.full H) .neq 15 xo yo (.pointer (some a)) (.pointer none) = some (.bool true) := HL.bin_ptr_neq Try.underlying15
@[go_sem] theorem T.ne15 {H : HL.Heap} {xo yo : Operand} : HL.binV Try.prog (HL.full H) .eql 15 xo yo (.pointer none) (.pointer none) = some (.bool true) := HL.bin_nil_eql Try.underlying15
@[go_sem] theorem T.nn15 {H : HL.Heap} {xo yo : Operand} : HL.binV Try.prog (HL.full H) .neq 15 xo yo (.pointer none) (.pointer none) = some (.bool false) := HL.bin_nil_neq Try.underlying15
@[go_sem] theorem T.pe16 {H : HL.Heap} {xo yo : Operand} {a : Addr} : HL.binV Try.prog (HL.full H) .eql 16 xo yo (.pointer (some a)) (.pointer none) = some (.bool false) := HL.bin_ptr_eql Try.underlying16
@[go_sem] theorem T.pn16 {H : HL.Heap} {xo yo : Operand} {a : Addr} : HL.binV Try.prog (HL.full H) .neq 16 xo yo (.pointer (some a)) (.pointer none) = some (.bool true) := HL.bin_ptr_neq Try.underlying16
@[go_sem] theorem T.ne16 {H : HL.Heap} {xo yo : Operand} : HL.binV Try.prog (HL.full H) .eql 16 xo yo (.pointer none) (.pointer none) = some (.bool true) := HL.bin_nil_eql Try.underlying16
@[go_sem] theorem T.nn16 {H : HL.Heap} {xo yo : Operand} : HL.binV Try.prog (HL.full H) .neq 16 xo yo (.pointer none) (.pointer none) = some (.bool false) := HL.bin_nil_neq Try.underlying16
@[go_sem] theorem T.pe17 {H : HL.Heap} {xo yo : Operand} {a : Addr} : HL.binV Try.prog (HL.full H) .eql 17 xo yo (.pointer (some a)) (.pointer none) = some (.bool false) := HL.bin_ptr_eql Try.underlying17
@[go_sem] theorem T.pn17 {H : HL.Heap} {xo yo : Operand} {a : Addr} : HL.binV Try.prog (HL.full H) .neq 17 xo yo (.pointer (some a)) (.pointer none) = some (.bool true) := HL.bin_ptr_neq Try.underlying17
@[go_sem] theorem T.ne17 {H : HL.Heap} {xo yo : Operand} : HL.binV Try.prog (HL.full H) .eql 17 xo yo (.pointer none) (.pointer none) = some (.bool true) := HL.bin_nil_eql Try.underlying17
@[go_sem] theorem T.nn17 {H : HL.Heap} {xo yo : Operand} : HL.binV Try.prog (HL.full H) .neq 17 xo yo (.pointer none) (.pointer none) = some (.bool false) := HL.bin_nil_neq Try.underlying17
@[go_sem] theorem T.pe59 {H : HL.Heap} {xo yo : Operand} {a : Addr} : HL.binV Try.prog (HL.full H) .eql 59 xo yo (.pointer (some a)) (.pointer none) = some (.bool false) := HL.bin_ptr_eql Try.underlying59
@[go_sem] theorem T.pn59 {H : HL.Heap} {xo yo : Operand} {a : Addr} : HL.binV Try.prog (HL.full H) .neq 59 xo yo (.pointer (some a)) (.pointer none) = some (.bool true) := HL.bin_ptr_neq Try.underlying59
@[go_sem] theorem T.ne59 {H : HL.Heap} {xo yo : Operand} : HL.binV Try.prog (HL.full H) .eql 59 xo yo (.pointer none) (.pointer none) = some (.bool true) := HL.bin_nil_eql Try.underlying59
@[go_sem] theorem T.nn59 {H : HL.Heap} {xo yo : Operand} : HL.binV Try.prog (HL.full H) .neq 59 xo yo (.pointer none) (.pointer none) = some (.bool false) := HL.bin_nil_neq Try.underlying59
@[go_sem] theorem T.pe71 {H : HL.Heap} {xo yo : Operand} {a : Addr} : HL.binV Try.prog (HL.full H) .eql 71 xo yo (.pointer (some a)) (.pointer none) = some (.bool false) := HL.bin_ptr_eql Try.underlying71
@[go_sem] theorem T.pn71 {H : HL.Heap} {xo yo : Operand} {a : Addr} : HL.binV Try.prog (HL.full H) .neq 71 xo yo (.pointer (some a)) (.pointer none) = some (.bool true) := HL.bin_ptr_neq Try.underlying71
@[go_sem] theorem T.ne71 {H : HL.Heap} {xo yo : Operand} : HL.binV Try.prog (HL.full H) .eql 71 xo yo (.pointer none) (.pointer none) = some (.bool true) := HL.bin_nil_eql Try.underlying71
@[go_sem] theorem T.nn71 {H : HL.Heap} {xo yo : Operand} : HL.binV Try.prog (HL.full H) .neq 71 xo yo (.pointer none) (.pointer none) = some (.bool false) := HL.bin_nil_neq Try.underlying71
@[go_sem] theorem T.pe86 {H : HL.Heap} {xo yo : Operand} {a : Addr} : HL.binV Try.prog (HL.full H) .eql 86 xo yo (.pointer (some a)) (.pointer none) = some (.bool false) := HL.bin_ptr_eql Try.underlying86
@[go_sem] theorem T.pn86 {H : HL.Heap} {xo yo : Operand} {a : Addr} : HL.binV Try.prog (HL.full H) .neq 86 xo yo (.pointer (some a)) (.pointer none) = some (.bool true) := HL.bin_ptr_neq Try.underlying86
@[go_sem] theorem T.ne86 {H : HL.Heap} {xo yo : Operand} : HL.binV Try.prog (HL.full H) .eql 86 xo yo (.pointer none) (.pointer none) = some (.bool true) := HL.bin_nil_eql Try.underlying86
@[go_sem] theorem T.nn86 {H : HL.Heap} {xo yo : Operand} : HL.binV Try.prog (HL.full H) .neq 86 xo yo (.pointer none) (.pointer none) = some (.bool false) := HL.bin_nil_neq Try.underlying86
@[go_sem] theorem T.pe91 {H : HL.Heap} {xo yo : Operand} {a : Addr} : HL.binV Try.prog (HL.full H) .eql 91 xo yo (.pointer (some a)) (.pointer none) = some (.bool false) := HL.bin_ptr_eql Try.underlying91
@[go_sem] theorem T.pn91 {H : HL.Heap} {xo yo : Operand} {a : Addr} : HL.binV Try.prog (HL.full H) .neq 91 xo yo (.pointer (some a)) (.pointer none) = some (.bool true) := HL.bin_ptr_neq Try.underlying91
@[go_sem] theorem T.ne91 {H : HL.Heap} {xo yo : Operand} : HL.binV Try.prog (HL.full H) .eql 91 xo yo (.pointer none) (.pointer none) = some (.bool true) := HL.bin_nil_eql Try.underlying91
@[go_sem] theorem T.nn91 {H : HL.Heap} {xo yo : Operand} : HL.binV Try.prog (HL.full H) .neq 91 xo yo (.pointer none) (.pointer none) = some (.bool false) := HL.bin_nil_neq Try.underlying91
@[go_sem] theorem T.pe93 {H : HL.Heap} {xo yo : Operand} {a : Addr} : HL.binV Try.prog (HL.full H) .eql 93 xo yo (.pointer (some a)) (.pointer none) = some (.bool false) := HL.bin_ptr_eql Try.underlying93
@[go_sem] theorem T.pn93 {H : HL.Heap} {xo yo : Operand} {a : Addr} : HL.binV Try.prog (HL.full H) .neq 93 xo yo (.pointer (some a)) (.pointer none) = some (.bool true) := HL.bin_ptr_neq Try.underlying93
@[go_sem] theorem T.ne93 {H : HL.Heap} {xo yo : Operand} : HL.binV Try.prog (HL.full H) .eql 93 xo yo (.pointer none) (.pointer none) = some (.bool true) := HL.bin_nil_eql Try.underlying93
@[go_sem] theorem T.nn93 {H : HL.Heap} {xo yo : Operand} : HL.binV Try.prog (HL.full H) .neq 93 xo yo (.pointer none) (.pointer none) = some (.bool false) := HL.bin_nil_neq Try.underlying93
@[go_sem] theorem T.pe94 {H : HL.Heap} {xo yo : Operand} {a : Addr} : HL.binV Try.prog (HL.full H) .eql 94 xo yo (.pointer (some a)) (.pointer none) = some (.bool false) := HL.bin_ptr_eql Try.underlying94
@[go_sem] theorem T.pn94 {H : HL.Heap} {xo yo : Operand} {a : Addr} : HL.binV Try.prog (HL.full H) .neq 94 xo yo (.pointer (some a)) (.pointer none) = some (.bool true) := HL.bin_ptr_neq Try.underlying94
@[go_sem] theorem T.ne94 {H : HL.Heap} {xo yo : Operand} : HL.binV Try.prog (HL.full H) .eql 94 xo yo (.pointer none) (.pointer none) = some (.bool true) := HL.bin_nil_eql Try.underlying94
@[go_sem] theorem T.nn94 {H : HL.Heap} {xo yo : Operand} : HL.binV Try.prog (HL.full H) .neq 94 xo yo (.pointer none) (.pointer none) = some (.bool false) := HL.bin_nil_neq Try.underlying94
@[go_sem] theorem T.pe111 {H : HL.Heap} {xo yo : Operand} {a : Addr} : HL.binV Try.prog (HL.full H) .eql 111 xo yo (.pointer (some a)) (.pointer none) = some (.bool false) := HL.bin_ptr_eql Try.underlying111
@[go_sem] theorem T.pn111 {H : HL.Heap} {xo yo : Operand} {a : Addr} : HL.binV Try.prog (HL.full H) .neq 111 xo yo (.pointer (some a)) (.pointer none) = some (.bool true) := HL.bin_ptr_neq Try.underlying111
@[go_sem] theorem T.ne111 {H : HL.Heap} {xo yo : Operand} : HL.binV Try.prog (HL.full H) .eql 111 xo yo (.pointer none) (.pointer none) = some (.bool true) := HL.bin_nil_eql Try.underlying111
@[go_sem] theorem T.nn111 {H : HL.Heap} {xo yo : Operand} : HL.binV Try.prog (HL.full H) .neq 111 xo yo (.pointer none) (.pointer none) = some (.bool false) := HL.bin_nil_neq Try.underlying111
@[go_sem] theorem T.pe136 {H : HL.Heap} {xo yo : Operand} {a : Addr} : HL.binV Try.prog (HL.full H) .eql 136 xo yo (.pointer (some a)) (.pointer none) = some (.bool false) := HL.bin_ptr_eql Try.underlying136
@[go_sem] theorem T.pn136 {H : HL.Heap} {xo yo : Operand} {a : Addr} : HL.binV Try.prog (HL.full H) .neq 136 xo yo (.pointer (some a)) (.pointer none) = some (.bool true) := HL.bin_ptr_neq Try.underlying136
@[go_sem] theorem T.ne136 {H : HL.Heap} {xo yo : Operand} : HL.binV Try.prog (HL.full H) .eql 136 xo yo (.pointer none) (.pointer none) = some (.bool true) := HL.bin_nil_eql Try.underlying136
@[go_sem] theorem T.nn136 {H : HL.Heap} {xo yo : Operand} : HL.binV Try.prog (HL.full H) .neq 136 xo yo (.pointer none) (.pointer none) = some (.bool false) := HL.bin_nil_neq Try.underlying136
@[go_sem] theorem T.be4 {H : HL.Heap} {xo yo : Operand} {x y : Bool} : HL.binV Try.prog (HL.full H) .eql 4 xo yo (.bool x) (.bool y) = some (.bool (x == y)) := HL.bin_bool_eql Try.underlying4
@[go_sem] theorem T.bn4 {H : HL.Heap} {xo yo : Operand} {x y : Bool} : HL.binV Try.prog (HL.full H) .neq 4 xo yo (.bool x) (.bool y) = some (.bool (!(x == y))) := HL.bin_bool_neq Try.underlying4
@[go_sem] theorem T.se39 {H : HL.Heap} {xo yo : Operand} {a0 b0 : Int} {a1 b1 : Int} {a2 b2 : Int} {a3 b3 : Int} {a4 b4 : Int} {a5 b5 : Int} {a6 b6 : Bool} {a7 b7 : Int} : HL.binV Try.prog (HL.full H) .eql 39 xo yo (.agg #[.int .i64 a0, .int .i64 a1, .int .i64 a2, .int .i64 a3, .int .i64 a4, .int .i64 a5, .bool a6, .int .i64 a7]) (.agg #[.int .i64 b0, .int .i64 b1, .int .i64 b2, .int .i64 b3, .int .i64 b4, .int .i64 b5, .bool b6, .int .i64 b7]) = some (.bool ((decide (a0 = b0 ∧ a1 = b1 ∧ a2 = b2 ∧ a3 = b3 ∧ a4 = b4 ∧ a5 = b5 ∧ a6 = b6 ∧ a7 = b7 ∧ True)))) := (HL.bin_struct (xs := [.int .i64 a0, .int .i64 a1, .int .i64 a2, .int .i64 a3, .int .i64 a4, .int .i64 a5, .bool a6, .int .i64 a7]) (ys := [.int .i64 b0, .int .i64 b1, .int .i64 b2, .int .i64 b3, .int .i64 b4, .int .i64 b5, .bool b6, .int .i64 b7]) Try.underlying39 (by kernel_rfl) (by kernel_rfl) (HL.eqF_int (by decide) Try.underlying3 rfl rfl (HL.eqF_int (by decide) Try.underlying3 rfl rfl (HL.eqF_int (by decide) Try.underlying3 rfl rfl (HL.eqF_int (by decide) Try.underlying3 rfl rfl (HL.eqF_int (by decide) Try.underlying3 rfl rfl (HL.eqF_int (by decide) Try.underlying3 rfl rfl (HL.eqF_bool (by decide) Try.underlying4 rfl rfl (HL.eqF_int (by decide) Try.underlying3 rfl rfl HL.eqF_nil))))))))).1
@[go_sem] theorem T.sn39 {H : HL.Heap} {xo yo : Operand} {a0 b0 : Int} {a1 b1 : Int} {a2 b2 : Int} {a3 b3 : Int} {a4 b4 : Int} {a5 b5 : Int} {a6 b6 : Bool} {a7 b7 : Int} : HL.binV Try.prog (HL.full H) .neq 39 xo yo (.agg #[.int .i64 a0, .int .i64 a1, .int .i64 a2, .int .i64 a3, .int .i64 a4, .int .i64 a5, .bool a6, .int .i64 a7]) (.agg #[.int .i64 b0, .int .i64 b1, .int .i64 b2, .int .i64 b3, .int .i64 b4, .int .i64 b5, .bool b6, .int .i64 b7]) = some (.bool (!(decide (a0 = b0 ∧ a1 = b1 ∧ a2 = b2 ∧ a3 = b3 ∧ a4 = b4 ∧ a5 = b5 ∧ a6 = b6 ∧ a7 = b7 ∧ True)))) := (HL.bin_struct (xs := [.int .i64 a0, .int .i64 a1, .int .i64 a2, .int .i64 a3, .int .i64 a4, .int .i64 a5, .bool a6, .int .i64 a7]) (ys := [.int .i64 b0, .int .i64 b1, .int .i64 b2, .int .i64 b3, .int .i64 b4, .int .i64 b5, .bool b6, .int .i64 b7]) Try.underlying39 (by kernel_rfl) (by kernel_rfl) (HL.eqF_int (by decide) Try.underlying3 rfl rfl (HL.eqF_int (by decide) Try.underlying3 rfl rfl (HL.eqF_int (by decide) Try.underlying3 rfl rfl (HL.eqF_int (by decide) Try.underlying3 rfl rfl (HL.eqF_int (by decide) Try.underlying3 rfl rfl (HL.eqF_int (by decide) Try.underlying3 rfl rfl (HL.eqF_bool (by decide) Try.underlying4 rfl rfl (HL.eqF_int (by decide) Try.underlying3 rfl rfl HL.eqF_nil))))))))).2
@[go_sem] theorem T.se42 {H : HL.Heap} {xo yo : Operand} {a0 b0 : Int} {a1 b1 : Int} : HL.binV Try.prog (HL.full H) .eql 42 xo yo (.agg #[.int .i64 a0, .int .i64 a1]) (.agg #[.int .i64 b0, .int .i64 b1]) = some (.bool ((decide (a0 = b0 ∧ a1 = b1 ∧ True)))) := (HL.bin_struct (xs := [.int .i64 a0, .int .i64 a1]) (ys := [.int .i64 b0, .int .i64 b1]) Try.underlying42 (by kernel_rfl) (by kernel_rfl) (HL.eqF_int (by decide) Try.underlying40 rfl rfl (HL.eqF_int (by decide) Try.underlying3 rfl rfl HL.eqF_nil))).1
@[go_sem] theorem T.sn42 {H : HL.Heap} {xo yo : Operand} {a0 b0 : Int} {a1 b1 : Int} : HL.binV Try.prog (HL.full H) .neq 42 xo yo (.agg #[.int .i64 a0, .int .i64 a1]) (.agg #[.int .i64 b0, .int .i64 b1]) = some (.bool (!(decide (a0 = b0 ∧ a1 = b1 ∧ True)))) := (HL.bin_struct (xs := [.int .i64 a0, .int .i64 a1]) (ys := [.int .i64 b0, .int .i64 b1]) Try.underlying42 (by kernel_rfl) (by kernel_rfl) (HL.eqF_int (by decide) Try.underlying40 rfl rfl (HL.eqF_int (by decide) Try.underlying3 rfl rfl HL.eqF_nil))).2
@[go_sem] theorem T.se47 {H : HL.Heap} {xo yo : Operand} {a0 b0 : ByteArray} {a1 b1 : Int} {a2 b2 : Int} : HL.binV Try.prog (HL.full H) .eql 47 xo yo (.agg #[.string a0, .int .i64 a1, .int .i64 a2]) (.agg #[.string b0, .int .i64 b1, .int .i64 b2]) = some (.bool ((decide (a0 = b0 ∧ a1 = b1 ∧ a2 = b2 ∧ True)))) := (HL.bin_struct (xs := [.string a0, .int .i64 a1, .int .i64 a2]) (ys := [.string b0, .int .i64 b1, .int .i64 b2]) Try.underlying47 (by kernel_rfl) (by kernel_rfl) (HL.eqF_str (by decide) Try.underlying9 rfl rfl (HL.eqF_int (by decide) Try.underlying3 rfl rfl (HL.eqF_int (by decide) Try.underlying3 rfl rfl HL.eqF_nil)))).1
@[go_sem] theorem T.sn47 {H : HL.Heap} {xo yo : Operand} {a0 b0 : ByteArray} {a1 b1 : Int} {a2 b2 : Int} : HL.binV Try.prog (HL.full H) .neq 47 xo yo (.agg #[.string a0, .int .i64 a1, .int .i64 a2]) (.agg #[.string b0, .int .i64 b1, .int .i64 b2]) = some (.bool (!(decide (a0 = b0 ∧ a1 = b1 ∧ a2 = b2 ∧ True)))) := (HL.bin_struct (xs := [.string a0, .int .i64 a1, .int .i64 a2]) (ys := [.string b0, .int .i64 b1, .int .i64 b2]) Try.underlying47 (by kernel_rfl) (by kernel_rfl) (HL.eqF_str (by decide) Try.underlying9 rfl rfl (HL.eqF_int (by decide) Try.underlying3 rfl rfl (HL.eqF_int (by decide) Try.underlying3 rfl rfl HL.eqF_nil)))).2
@[go_sem] theorem T.se73 {H : HL.Heap} {xo yo : Operand} {a0 b0 : ByteArray} {a1 b1 : Int} {a2 b2 : Int} {a3 b3 : Bool} {a4 b4 : Bool} : HL.binV Try.prog (HL.full H) .eql 73 xo yo (.agg #[.string a0, .int .i64 a1, .int .i64 a2, .bool a3, .bool a4]) (.agg #[.string b0, .int .i64 b1, .int .i64 b2, .bool b3, .bool b4]) = some (.bool ((decide (a0 = b0 ∧ a1 = b1 ∧ a2 = b2 ∧ a3 = b3 ∧ a4 = b4 ∧ True)))) := (HL.bin_struct (xs := [.string a0, .int .i64 a1, .int .i64 a2, .bool a3, .bool a4]) (ys := [.string b0, .int .i64 b1, .int .i64 b2, .bool b3, .bool b4]) Try.underlying73 (by kernel_rfl) (by kernel_rfl) (HL.eqF_str (by decide) Try.underlying9 rfl rfl (HL.eqF_int (by decide) Try.underlying3 rfl rfl (HL.eqF_int (by decide) Try.underlying3 rfl rfl (HL.eqF_bool (by decide) Try.underlying4 rfl rfl (HL.eqF_bool (by decide) Try.underlying4 rfl rfl HL.eqF_nil)))))).1
@[go_sem] theorem T.sn73 {H : HL.Heap} {xo yo : Operand} {a0 b0 : ByteArray} {a1 b1 : Int} {a2 b2 : Int} {a3 b3 : Bool} {a4 b4 : Bool} : HL.binV Try.prog (HL.full H) .neq 73 xo yo (.agg #[.string a0, .int .i64 a1, .int .i64 a2, .bool a3, .bool a4]) (.agg #[.string b0, .int .i64 b1, .int .i64 b2, .bool b3, .bool b4]) = some (.bool (!(decide (a0 = b0 ∧ a1 = b1 ∧ a2 = b2 ∧ a3 = b3 ∧ a4 = b4 ∧ True)))) := (HL.bin_struct (xs := [.string a0, .int .i64 a1, .int .i64 a2, .bool a3, .bool a4]) (ys := [.string b0, .int .i64 b1, .int .i64 b2, .bool b3, .bool b4]) Try.underlying73 (by kernel_rfl) (by kernel_rfl) (HL.eqF_str (by decide) Try.underlying9 rfl rfl (HL.eqF_int (by decide) Try.underlying3 rfl rfl (HL.eqF_int (by decide) Try.underlying3 rfl rfl (HL.eqF_bool (by decide) Try.underlying4 rfl rfl (HL.eqF_bool (by decide) Try.underlying4 rfl rfl HL.eqF_nil)))))).2
@[go_sem] theorem T.se83 {H : HL.Heap} {xo yo : Operand} {a0 b0 : Int} {a1 b1 : ByteArray} {a2 b2 : Int} : HL.binV Try.prog (HL.full H) .eql 83 xo yo (.agg #[.int .i64 a0, .string a1, .int .i64 a2]) (.agg #[.int .i64 b0, .string b1, .int .i64 b2]) = some (.bool ((decide (a0 = b0 ∧ a1 = b1 ∧ a2 = b2 ∧ True)))) := (HL.bin_struct (xs := [.int .i64 a0, .string a1, .int .i64 a2]) (ys := [.int .i64 b0, .string b1, .int .i64 b2]) Try.underlying83 (by kernel_rfl) (by kernel_rfl) (HL.eqF_int (by decide) Try.underlying3 rfl rfl (HL.eqF_str (by decide) Try.underlying9 rfl rfl (HL.eqF_int (by decide) Try.underlying3 rfl rfl HL.eqF_nil)))).1
@[go_sem] theorem T.sn83 {H : HL.Heap} {xo yo : Operand} {a0 b0 : Int} {a1 b1 : ByteArray} {a2 b2 : Int} : HL.binV Try.prog (HL.full H) .neq 83 xo yo (.agg #[.int .i64 a0, .string a1, .int .i64 a2]) (.agg #[.int .i64 b0, .string b1, .int .i64 b2]) = some (.bool (!(decide (a0 = b0 ∧ a1 = b1 ∧ a2 = b2 ∧ True)))) := (HL.bin_struct (xs := [.int .i64 a0, .string a1, .int .i64 a2]) (ys := [.int .i64 b0, .string b1, .int .i64 b2]) Try.underlying83 (by kernel_rfl) (by kernel_rfl) (HL.eqF_int (by decide) Try.underlying3 rfl rfl (HL.eqF_str (by decide) Try.underlying9 rfl rfl (HL.eqF_int (by decide) Try.underlying3 rfl rfl HL.eqF_nil)))).2
@[go_sem] theorem T.cv2_2 {V : HL.HV} {k : IntKind} {n : Int} : HL.convV Try.prog V 2 2 (.int k n) = some (.int .i64 (IntKind.i64.wrap n)) := HL.conv_int Try.underlying2 Try.underlying2
@[go_sem] theorem T.cv2_3 {V : HL.HV} {k : IntKind} {n : Int} : HL.convV Try.prog V 2 3 (.int k n) = some (.int .i64 (IntKind.i64.wrap n)) := HL.conv_int Try.underlying2 Try.underlying3
@[go_sem] theorem T.cv2_5 {V : HL.HV} {k : IntKind} {n : Int} : HL.convV Try.prog V 2 5 (.int k n) = some (.int .u8 (IntKind.u8.wrap n)) := HL.conv_int Try.underlying2 Try.underlying5
@[go_sem] theorem T.cv2_6 {V : HL.HV} {k : IntKind} {n : Int} : HL.convV Try.prog V 2 6 (.int k n) = some (.int .u8 (IntKind.u8.wrap n)) := HL.conv_int Try.underlying2 Try.underlying6
@[go_sem] theorem T.cv2_12 {V : HL.HV} {k : IntKind} {n : Int} : HL.convV Try.prog V 2 12 (.int k n) = some (.int .u64 (IntKind.u64.wrap n)) := HL.conv_int Try.underlying2 Try.underlying12
@[go_sem] theorem T.cv2_21 {V : HL.HV} {k : IntKind} {n : Int} : HL.convV Try.prog V 2 21 (.int k n) = some (.int .i32 (IntKind.i32.wrap n)) := HL.conv_int Try.underlying2 Try.underlying21
@[go_sem] theorem T.cv3_2 {V : HL.HV} {k : IntKind} {n : Int} : HL.convV Try.prog V 3 2 (.int k n) = some (.int .i64 (IntKind.i64.wrap n)) := HL.conv_int Try.underlying3 Try.underlying2
@[go_sem] theorem T.cv3_3 {V : HL.HV} {k : IntKind} {n : Int} : HL.convV Try.prog V 3 3 (.int k n) = some (.int .i64 (IntKind.i64.wrap n)) := HL.conv_int Try.underlying3 Try.underlying3
@[go_sem] theorem T.cv3_5 {V : HL.HV} {k : IntKind} {n : Int} : HL.convV Try.prog V 3 5 (.int k n) = some (.int .u8 (IntKind.u8.wrap n)) := HL.conv_int Try.underlying3 Try.underlying5
@[go_sem] theorem T.cv3_6 {V : HL.HV} {k : IntKind} {n : Int} : HL.convV Try.prog V 3 6 (.int k n) = some (.int .u8 (IntKind.u8.wrap n)) := HL.conv_int Try.underlying3 Try.underlying6
@[go_sem] theorem T.cv3_12 {V : HL.HV} {k : IntKind} {n : Int} : HL.convV Try.prog V 3 12 (.int k n) = some (.int .u64 (IntKind.u64.wrap n)) := HL.conv_int Try.underlying3 Try.underlying12
@[go_sem] theorem T.cv3_21 {V : HL.HV} {k : IntKind} {n : Int} : HL.convV Try.prog V 3 21 (.int k n) = some (.int .i32 (IntKind.i32.wrap n)) := HL.conv_int Try.underlying3 Try.underlying21
@[go_sem] theorem T.cv5_2 {V : HL.HV} {k : IntKind} {n : Int} : HL.convV Try.prog V 5 2 (.int k n) = some (.int .i64 (IntKind.i64.wrap n)) := HL.conv_int Try.underlying5 Try.underlying2
@[go_sem] theorem T.cv5_3 {V : HL.HV} {k : IntKind} {n : Int} : HL.convV Try.prog V 5 3 (.int k n) = some (.int .i64 (IntKind.i64.wrap n)) := HL.conv_int Try.underlying5 Try.underlying3
@[go_sem] theorem T.cv5_5 {V : HL.HV} {k : IntKind} {n : Int} : HL.convV Try.prog V 5 5 (.int k n) = some (.int .u8 (IntKind.u8.wrap n)) := HL.conv_int Try.underlying5 Try.underlying5
@[go_sem] theorem T.cv5_6 {V : HL.HV} {k : IntKind} {n : Int} : HL.convV Try.prog V 5 6 (.int k n) = some (.int .u8 (IntKind.u8.wrap n)) := HL.conv_int Try.underlying5 Try.underlying6
@[go_sem] theorem T.cv5_12 {V : HL.HV} {k : IntKind} {n : Int} : HL.convV Try.prog V 5 12 (.int k n) = some (.int .u64 (IntKind.u64.wrap n)) := HL.conv_int Try.underlying5 Try.underlying12
@[go_sem] theorem T.cv5_21 {V : HL.HV} {k : IntKind} {n : Int} : HL.convV Try.prog V 5 21 (.int k n) = some (.int .i32 (IntKind.i32.wrap n)) := HL.conv_int Try.underlying5 Try.underlying21
@[go_sem] theorem T.cv6_2 {V : HL.HV} {k : IntKind} {n : Int} : HL.convV Try.prog V 6 2 (.int k n) = some (.int .i64 (IntKind.i64.wrap n)) := HL.conv_int Try.underlying6 Try.underlying2
@[go_sem] theorem T.cv6_3 {V : HL.HV} {k : IntKind} {n : Int} : HL.convV Try.prog V 6 3 (.int k n) = some (.int .i64 (IntKind.i64.wrap n)) := HL.conv_int Try.underlying6 Try.underlying3
@[go_sem] theorem T.cv6_5 {V : HL.HV} {k : IntKind} {n : Int} : HL.convV Try.prog V 6 5 (.int k n) = some (.int .u8 (IntKind.u8.wrap n)) := HL.conv_int Try.underlying6 Try.underlying5
@[go_sem] theorem T.cv6_6 {V : HL.HV} {k : IntKind} {n : Int} : HL.convV Try.prog V 6 6 (.int k n) = some (.int .u8 (IntKind.u8.wrap n)) := HL.conv_int Try.underlying6 Try.underlying6
@[go_sem] theorem T.cv6_12 {V : HL.HV} {k : IntKind} {n : Int} : HL.convV Try.prog V 6 12 (.int k n) = some (.int .u64 (IntKind.u64.wrap n)) := HL.conv_int Try.underlying6 Try.underlying12
@[go_sem] theorem T.cv6_21 {V : HL.HV} {k : IntKind} {n : Int} : HL.convV Try.prog V 6 21 (.int k n) = some (.int .i32 (IntKind.i32.wrap n)) := HL.conv_int Try.underlying6 Try.underlying21
@[go_sem] theorem T.cv12_2 {V : HL.HV} {k : IntKind} {n : Int} : HL.convV Try.prog V 12 2 (.int k n) = some (.int .i64 (IntKind.i64.wrap n)) := HL.conv_int Try.underlying12 Try.underlying2
@[go_sem] theorem T.cv12_3 {V : HL.HV} {k : IntKind} {n : Int} : HL.convV Try.prog V 12 3 (.int k n) = some (.int .i64 (IntKind.i64.wrap n)) := HL.conv_int Try.underlying12 Try.underlying3
@[go_sem] theorem T.cv12_5 {V : HL.HV} {k : IntKind} {n : Int} : HL.convV Try.prog V 12 5 (.int k n) = some (.int .u8 (IntKind.u8.wrap n)) := HL.conv_int Try.underlying12 Try.underlying5
@[go_sem] theorem T.cv12_6 {V : HL.HV} {k : IntKind} {n : Int} : HL.convV Try.prog V 12 6 (.int k n) = some (.int .u8 (IntKind.u8.wrap n)) := HL.conv_int Try.underlying12 Try.underlying6
@[go_sem] theorem T.cv12_12 {V : HL.HV} {k : IntKind} {n : Int} : HL.convV Try.prog V 12 12 (.int k n) = some (.int .u64 (IntKind.u64.wrap n)) := HL.conv_int Try.underlying12 Try.underlying12
@[go_sem] theorem T.cv12_21 {V : HL.HV} {k : IntKind} {n : Int} : HL.convV Try.prog V 12 21 (.int k n) = some (.int .i32 (IntKind.i32.wrap n)) := HL.conv_int Try.underlying12 Try.underlying21
@[go_sem] theorem T.cv21_2 {V : HL.HV} {k : IntKind} {n : Int} : HL.convV Try.prog V 21 2 (.int k n) = some (.int .i64 (IntKind.i64.wrap n)) := HL.conv_int Try.underlying21 Try.underlying2
@[go_sem] theorem T.cv21_3 {V : HL.HV} {k : IntKind} {n : Int} : HL.convV Try.prog V 21 3 (.int k n) = some (.int .i64 (IntKind.i64.wrap n)) := HL.conv_int Try.underlying21 Try.underlying3
@[go_sem] theorem T.cv21_5 {V : HL.HV} {k : IntKind} {n : Int} : HL.convV Try.prog V 21 5 (.int k n) = some (.int .u8 (IntKind.u8.wrap n)) := HL.conv_int Try.underlying21 Try.underlying5
@[go_sem] theorem T.cv21_6 {V : HL.HV} {k : IntKind} {n : Int} : HL.convV Try.prog V 21 6 (.int k n) = some (.int .u8 (IntKind.u8.wrap n)) := HL.conv_int Try.underlying21 Try.underlying6
@[go_sem] theorem T.cv21_12 {V : HL.HV} {k : IntKind} {n : Int} : HL.convV Try.prog V 21 12 (.int k n) = some (.int .u64 (IntKind.u64.wrap n)) := HL.conv_int Try.underlying21 Try.underlying12
@[go_sem] theorem T.cv21_21 {V : HL.HV} {k : IntKind} {n : Int} : HL.convV Try.prog V 21 21 (.int k n) = some (.int .i32 (IntKind.i32.wrap n)) := HL.conv_int Try.underlying21 Try.underlying21
@[go_sem] theorem T.bs22_1 {H : HL.Heap} {x0 : Int} {a1 : Option Addr} {l1 c1 : Nat} {a2 : Option Addr} {l2 c2 : Nat} {a3 : Option Addr} {l3 c3 : Nat} {x4 : Int} : HL.buildSliceV Try.prog H 22 1 [(0, .agg #[.int .i64 x0, .slice a1 l1 c1, .slice a2 l2 c2, .slice a3 l3 c3, .int .i64 x4])] = some (.slice (some ⟨H.size, 0, none⟩) 1 1, H.push (.cells #[.int .i64 x0, .slice a1 l1 c1, .slice a2 l2 c2, .slice a3 l3 c3, .int .i64 x4] 49)) := HL.bsl_of (vs := [.agg #[.int .i64 x0, .slice a1 l1 c1, .slice a2 l2 c2, .slice a3 l3 c3, .int .i64 x4]]) T.elem22 T.size49 T.zero49 (Nat.le_of_ble_eq_true rfl) rfl rfl
@[go_sem] theorem T.bs22_2 {H : HL.Heap} {x0 : Int} {a1 : Option Addr} {l1 c1 : Nat} {a2 : Option Addr} {l2 c2 : Nat} {a3 : Option Addr} {l3 c3 : Nat} {x4 : Int} {x5 : Int} {a6 : Option Addr} {l6 c6 : Nat} {a7 : Option Addr} {l7 c7 : Nat} {a8 : Option Addr} {l8 c8 : Nat} {x9 : Int} : HL.buildSliceV Try.prog H 22 2 [(0, .agg #[.int .i64 x0, .slice a1 l1 c1, .slice a2 l2 c2, .slice a3 l3 c3, .int .i64 x4]), (1, .agg #[.int .i64 x5, .slice a6 l6 c6, .slice a7 l7 c7, .slice a8 l8 c8, .int .i64 x9])] = some (.slice (some ⟨H.size, 0, none⟩) 2 2, H.push (.cells #[.int .i64 x0, .slice a1 l1 c1, .slice a2 l2 c2, .slice a3 l3 c3, .int .i64 x4, .int .i64 x5, .slice a6 l6 c6, .slice a7 l7 c7, .slice a8 l8 c8, .int .i64 x9] 49)) := HL.bsl_of (vs := [.agg #[.int .i64 x0, .slice a1 l1 c1, .slice a2 l2 c2, .slice a3 l3 c3, .int .i64 x4], .agg #[.int .i64 x5, .slice a6 l6 c6, .slice a7 l7 c7, .slice a8 l8 c8, .int .i64 x9]]) T.elem22 T.size49 T.zero49 (Nat.le_of_ble_eq_true rfl) rfl rfl
@[go_sem] theorem T.bs22_3 {H : HL.Heap} {x0 : Int} {a1 : Option Addr} {l1 c1 : Nat} {a2 : Option Addr} {l2 c2 : Nat} {a3 : Option Addr} {l3 c3 : Nat} {x4 : Int} {x5 : Int} {a6 : Option Addr} {l6 c6 : Nat} {a7 : Option Addr} {l7 c7 : Nat} {a8 : Option Addr} {l8 c8 : Nat} {x9 : Int} {x10 : Int} {a11 : Option Addr} {l11 c11 : Nat} {a12 : Option Addr} {l12 c12 : Nat} {a13 : Option Addr} {l13 c13 : Nat} {x14 : Int} : HL.buildSliceV Try.prog H 22 3 [(0, .agg #[.int .i64 x0, .slice a1 l1 c1, .slice a2 l2 c2, .slice a3 l3 c3, .int .i64 x4]), (1, .agg #[.int .i64 x5, .slice a6 l6 c6, .slice a7 l7 c7, .slice a8 l8 c8, .int .i64 x9]), (2, .agg #[.int .i64 x10, .slice a11 l11 c11, .slice a12 l12 c12, .slice a13 l13 c13, .int .i64 x14])] = some (.slice (some ⟨H.size, 0, none⟩) 3 3, H.push (.cells #[.int .i64 x0, .slice a1 l1 c1, .slice a2 l2 c2, .slice a3 l3 c3, .int .i64 x4, .int .i64 x5, .slice a6 l6 c6, .slice a7 l7 c7, .slice a8 l8 c8, .int .i64 x9, .int .i64 x10, .slice a11 l11 c11, .slice a12 l12 c12, .slice a13 l13 c13, .int .i64 x14] 49)) := HL.bsl_of (vs := [.agg #[.int .i64 x0, .slice a1 l1 c1, .slice a2 l2 c2, .slice a3 l3 c3, .int .i64 x4], .agg #[.int .i64 x5, .slice a6 l6 c6, .slice a7 l7 c7, .slice a8 l8 c8, .int .i64 x9], .agg #[.int .i64 x10, .slice a11 l11 c11, .slice a12 l12 c12, .slice a13 l13 c13, .int .i64 x14]]) T.elem22 T.size49 T.zero49 (Nat.le_of_ble_eq_true rfl) rfl rfl
@[go_sem] theorem T.bs25_1 {H : HL.Heap} {x0 : ByteArray} {x1 : Int} {x2 : Int} {x3 : Bool} {x4 : Bool} : HL.buildSliceV Try.prog H 25 1 [(0, .agg #[.string x0, .int .i64 x1, .int .i64 x2, .bool x3, .bool x4])] = some (.slice (some ⟨H.size, 0, none⟩) 1 1, H.push (.cells #[.string x0, .int .i64 x1, .int .i64 x2, .bool x3, .bool x4] 73)) := HL.bsl_of (vs := [.agg #[.string x0, .int .i64 x1, .int .i64 x2, .bool x3, .bool x4]]) T.elem25 T.size73 T.zero73 (Nat.le_of_ble_eq_true rfl) rfl rfl
@[go_sem] theorem T.bs25_2 {H : HL.Heap} {x0 : ByteArray} {x1 : Int} {x2 : Int} {x3 : Bool} {x4 : Bool} {x5 : ByteArray} {x6 : Int} {x7 : Int} {x8 : Bool} {x9 : Bool} : HL.buildSliceV Try.prog H 25 2 [(0, .agg #[.string x0, .int .i64 x1, .int .i64 x2, .bool x3, .bool x4]), (1, .agg #[.string x5, .int .i64 x6, .int .i64 x7, .bool x8, .bool x9])] = some (.slice (some ⟨H.size, 0, none⟩) 2 2, H.push (.cells #[.string x0, .int .i64 x1, .int .i64 x2, .bool x3, .bool x4, .string x5, .int .i64 x6, .int .i64 x7, .bool x8, .bool x9] 73)) := HL.bsl_of (vs := [.agg #[.string x0, .int .i64 x1, .int .i64 x2, .bool x3, .bool x4], .agg #[.string x5, .int .i64 x6, .int .i64 x7, .bool x8, .bool x9]]) T.elem25 T.size73 T.zero73 (Nat.le_of_ble_eq_true rfl) rfl rfl
@[go_sem] theorem T.bs25_3 {H : HL.Heap} {x0 : ByteArray} {x1 : Int} {x2 : Int} {x3 : Bool} {x4 : Bool} {x5 : ByteArray} {x6 : Int} {x7 : Int} {x8 : Bool} {x9 : Bool} {x10 : ByteArray} {x11 : Int} {x12 : Int} {x13 : Bool} {x14 : Bool} : HL.buildSliceV Try.prog H 25 3 [(0, .agg #[.string x0, .int .i64 x1, .int .i64 x2, .bool x3, .bool x4]), (1, .agg #[.string x5, .int .i64 x6, .int .i64 x7, .bool x8, .bool x9]), (2, .agg #[.string x10, .int .i64 x11, .int .i64 x12, .bool x13, .bool x14])] = some (.slice (some ⟨H.size, 0, none⟩) 3 3, H.push (.cells #[.string x0, .int .i64 x1, .int .i64 x2, .bool x3, .bool x4, .string x5, .int .i64 x6, .int .i64 x7, .bool x8, .bool x9, .string x10, .int .i64 x11, .int .i64 x12, .bool x13, .bool x14] 73)) := HL.bsl_of (vs := [.agg #[.string x0, .int .i64 x1, .int .i64 x2, .bool x3, .bool x4], .agg #[.string x5, .int .i64 x6, .int .i64 x7, .bool x8, .bool x9], .agg #[.string x10, .int .i64 x11, .int .i64 x12, .bool x13, .bool x14]]) T.elem25 T.size73 T.zero73 (Nat.le_of_ble_eq_true rfl) rfl rfl
@[go_sem] theorem T.bs26_1 {H : HL.Heap} {x0 : ByteArray} {x1 : Int} {x2 : Int} : HL.buildSliceV Try.prog H 26 1 [(0, .agg #[.string x0, .int .i64 x1, .int .i64 x2])] = some (.slice (some ⟨H.size, 0, none⟩) 1 1, H.push (.cells #[.string x0, .int .i64 x1, .int .i64 x2] 47)) := HL.bsl_of (vs := [.agg #[.string x0, .int .i64 x1, .int .i64 x2]]) T.elem26 T.size47 T.zero47 (Nat.le_of_ble_eq_true rfl) rfl rfl
@[go_sem] theorem T.bs26_2 {H : HL.Heap} {x0 : ByteArray} {x1 : Int} {x2 : Int} {x3 : ByteArray} {x4 : Int} {x5 : Int} : HL.buildSliceV Try.prog H 26 2 [(0, .agg #[.string x0, .int .i64 x1, .int .i64 x2]), (1, .agg #[.string x3, .int .i64 x4, .int .i64 x5])] = some (.slice (some ⟨H.size, 0, none⟩) 2 2, H.push (.cells #[.string x0, .int .i64 x1, .int .i64 x2, .string x3, .int .i64 x4, .int .i64 x5] 47)) := HL.bsl_of (vs := [.agg #[.string x0, .int .i64 x1, .int .i64 x2], .agg #[.string x3, .int .i64 x4, .int .i64 x5]]) T.elem26 T.size47 T.zero47 (Nat.le_of_ble_eq_true rfl) rfl rfl
@[go_sem] theorem T.bs26_3 {H : HL.Heap} {x0 : ByteArray} {x1 : Int} {x2 : Int} {x3 : ByteArray} {x4 : Int} {x5 : Int} {x6 : ByteArray} {x7 : Int} {x8 : Int} : HL.buildSliceV Try.prog H 26 3 [(0, .agg #[.string x0, .int .i64 x1, .int .i64 x2]), (1, .agg #[.string x3, .int .i64 x4, .int .i64 x5]), (2, .agg #[.string x6, .int .i64 x7, .int .i64 x8])] = some (.slice (some ⟨H.size, 0, none⟩) 3 3, H.push (.cells #[.string x0, .int .i64 x1, .int .i64 x2, .string x3, .int .i64 x4, .int .i64 x5, .string x6, .int .i64 x7, .int .i64 x8] 47)) := HL.bsl_of (vs := [.agg #[.string x0, .int .i64 x1, .int .i64 x2], .agg #[.string x3, .int .i64 x4, .int .i64 x5], .agg #[.string x6, .int .i64 x7, .int .i64 x8]]) T.elem26 T.size47 T.zero47 (Nat.le_of_ble_eq_true rfl) rfl rfl
@[go_sem] theorem T.bs26_4 {H : HL.Heap} {x0 : ByteArray} {x1 : Int} {x2 : Int} {x3 : ByteArray} {x4 : Int} {x5 : Int} {x6 : ByteArray} {x7 : Int} {x8 : Int} {x9 : ByteArray} {x10 : Int} {x11 : Int} : HL.buildSliceV Try.prog H 26 4 [(0, .agg #[.string x0, .int .i64 x1, .int .i64 x2]), (1, .agg #[.string x3, .int .i64 x4, .int .i64 x5]), (2, .agg #[.string x6, .int .i64 x7, .int .i64 x8]), (3, .agg #[.string x9, .int .i64 x10, .int .i64 x11])] = some (.slice (some ⟨H.size, 0, none⟩) 4 4, H.push (.cells #[.string x0, .int .i64 x1, .int .i64 x2, .string x3, .int .i64 x4, .int .i64 x5, .string x6, .int .i64 x7, .int .i64 x8, .string x9, .int .i64 x10, .int .i64 x11] 47)) := HL.bsl_of (vs := [.agg #[.string x0, .int .i64 x1, .int .i64 x2], .agg #[.string x3, .int .i64 x4, .int .i64 x5], .agg #[.string x6, .int .i64 x7, .int .i64 x8], .agg #[.string x9, .int .i64 x10, .int .i64 x11]]) T.elem26 T.size47 T.zero47 (Nat.le_of_ble_eq_true rfl) rfl rfl
@[go_sem] theorem T.bs27_1 {H : HL.Heap} {x0 : ByteArray} {x1 : Int} {a2 : Option Addr} {l2 c2 : Nat} {x3 : Int} {a4 : Option Addr} {l4 c4 : Nat} {a5 : Option Addr} {l5 c5 : Nat} {a6 : Option Addr} {l6 c6 : Nat} {a7 : Option Addr} {l7 c7 : Nat} : HL.buildSliceV Try.prog H 27 1 [(0, .agg #[.string x0, .int .i64 x1, .slice a2 l2 c2, .int .i64 x3, .slice a4 l4 c4, .slice a5 l5 c5, .slice a6 l6 c6, .slice a7 l7 c7])] = some (.slice (some ⟨H.size, 0, none⟩) 1 1, H.push (.cells #[.string x0, .int .i64 x1, .slice a2 l2 c2, .int .i64 x3, .slice a4 l4 c4, .slice a5 l5 c5, .slice a6 l6 c6, .slice a7 l7 c7] 37)) := HL.bsl_of (vs := [.agg #[.string x0, .int .i64 x1, .slice a2 l2 c2, .int .i64 x3, .slice a4 l4 c4, .slice a5 l5 c5, .slice a6 l6 c6, .slice a7 l7 c7]]) T.elem27 T.size37 T.zero37 (Nat.le_of_ble_eq_true rfl) rfl rfl
@[go_sem] theorem T.bs27_2 {H : HL.Heap} {x0 : ByteArray} {x1 : Int} {a2 : Option Addr} {l2 c2 : Nat} {x3 : Int} {a4 : Option Addr} {l4 c4 : Nat} {a5 : Option Addr} {l5 c5 : Nat} {a6 : Option Addr} {l6 c6 : Nat} {a7 : Option Addr} {l7 c7 : Nat} {x8 : ByteArray} {x9 : Int} {a10 : Option Addr} {l10 c10 : Nat} {x11 : Int} {a12 : Option Addr} {l12 c12 : Nat} {a13 : Option Addr} {l13 c13 : Nat} {a14 : Option Addr} {l14 c14 : Nat} {a15 : Option Addr} {l15 c15 : Nat} : HL.buildSliceV Try.prog H 27 2 [(0, .agg #[.string x0, .int .i64 x1, .slice a2 l2 c2, .int .i64 x3, .slice a4 l4 c4, .slice a5 l5 c5, .slice a6 l6 c6, .slice a7 l7 c7]), (1, .agg #[.string x8, .int .i64 x9, .slice a10 l10 c10, .int .i64 x11, .slice a12 l12 c12, .slice a13 l13 c13, .slice a14 l14 c14, .slice a15 l15 c15])] = some (.slice (some ⟨H.size, 0, none⟩) 2 2, H.push (.cells #[.string x0, .int .i64 x1, .slice a2 l2 c2, .int .i64 x3, .slice a4 l4 c4, .slice a5 l5 c5, .slice a6 l6 c6, .slice a7 l7 c7, .string x8, .int .i64 x9, .slice a10 l10 c10, .int .i64 x11, .slice a12 l12 c12, .slice a13 l13 c13, .slice a14 l14 c14, .slice a15 l15 c15] 37)) := HL.bsl_of (vs := [.agg #[.string x0, .int .i64 x1, .slice a2 l2 c2, .int .i64 x3, .slice a4 l4 c4, .slice a5 l5 c5, .slice a6 l6 c6, .slice a7 l7 c7], .agg #[.string x8, .int .i64 x9, .slice a10 l10 c10, .int .i64 x11, .slice a12 l12 c12, .slice a13 l13 c13, .slice a14 l14 c14, .slice a15 l15 c15]]) T.elem27 T.size37 T.zero37 (Nat.le_of_ble_eq_true rfl) rfl rfl
@[go_sem] theorem T.bs34_1 {H : HL.Heap} {x0 : Int} {x1 : Int} {x2 : Int} {x3 : Int} {x4 : Int} {x5 : Int} {x6 : Bool} {x7 : Int} : HL.buildSliceV Try.prog H 34 1 [(0, .agg #[.int .i64 x0, .int .i64 x1, .int .i64 x2, .int .i64 x3, .int .i64 x4, .int .i64 x5, .bool x6, .int .i64 x7])] = some (.slice (some ⟨H.size, 0, none⟩) 1 1, H.push (.cells #[.int .i64 x0, .int .i64 x1, .int .i64 x2, .int .i64 x3, .int .i64 x4, .int .i64 x5, .bool x6, .int .i64 x7] 39)) := HL.bsl_of (vs := [.agg #[.int .i64 x0, .int .i64 x1, .int .i64 x2, .int .i64 x3, .int .i64 x4, .int .i64 x5, .bool x6, .int .i64 x7]]) T.elem34 T.size39 T.zero39 (Nat.le_of_ble_eq_true rfl) rfl rfl
@[go_sem] theorem T.bs34_2 {H : HL.Heap} {x0 : Int} {x1 : Int} {x2 : Int} {x3 : Int} {x4 : Int} {x5 : Int} {x6 : Bool} {x7 : Int} {x8 : Int} {x9 : Int} {x10 : Int} {x11 : Int} {x12 : Int} {x13 : Int} {x14 : Bool} {x15 : Int} : HL.buildSliceV Try.prog H 34 2 [(0, .agg #[.int .i64 x0, .int .i64 x1, .int .i64 x2, .int .i64 x3, .int .i64 x4, .int .i64 x5, .bool x6, .int .i64 x7]), (1, .agg #[.int .i64 x8, .int .i64 x9, .int .i64 x10, .int .i64 x11, .int .i64 x12, .int .i64 x13, .bool x14, .int .i64 x15])] = some (.slice (some ⟨H.size, 0, none⟩) 2 2, H.push (.cells #[.int .i64 x0, .int .i64 x1, .int .i64 x2, .int .i64 x3, .int .i64 x4, .int .i64 x5, .bool x6, .int .i64 x7, .int .i64 x8, .int .i64 x9, .int .i64 x10, .int .i64 x11, .int .i64 x12, .int .i64 x13, .bool x14, .int .i64 x15] 39)) := HL.bsl_of (vs := [.agg #[.int .i64 x0, .int .i64 x1, .int .i64 x2, .int .i64 x3, .int .i64 x4, .int .i64 x5, .bool x6, .int .i64 x7], .agg #[.int .i64 x8, .int .i64 x9, .int .i64 x10, .int .i64 x11, .int .i64 x12, .int .i64 x13, .bool x14, .int .i64 x15]]) T.elem34 T.size39 T.zero39 (Nat.le_of_ble_eq_true rfl) rfl rfl
@[go_sem] theorem T.bs56_1 {H : HL.Heap} {x0 : Int} {x1 : ByteArray} {x2 : Int} : HL.buildSliceV Try.prog H 56 1 [(0, .agg #[.int .i64 x0, .string x1, .int .i64 x2])] = some (.slice (some ⟨H.size, 0, none⟩) 1 1, H.push (.cells #[.int .i64 x0, .string x1, .int .i64 x2] 83)) := HL.bsl_of (vs := [.agg #[.int .i64 x0, .string x1, .int .i64 x2]]) T.elem56 T.size83 T.zero83 (Nat.le_of_ble_eq_true rfl) rfl rfl
@[go_sem] theorem T.bs56_2 {H : HL.Heap} {x0 : Int} {x1 : ByteArray} {x2 : Int} {x3 : Int} {x4 : ByteArray} {x5 : Int} : HL.buildSliceV Try.prog H 56 2 [(0, .agg #[.int .i64 x0, .string x1, .int .i64 x2]), (1, .agg #[.int .i64 x3, .string x4, .int .i64 x5])] = some (.slice (some ⟨H.size, 0, none⟩) 2 2, H.push (.cells #[.int .i64 x0, .string x1, .int .i64 x2, .int .i64 x3, .string x4, .int .i64 x5] 83)) := HL.bsl_of (vs := [.agg #[.int .i64 x0, .string x1, .int .i64 x2], .agg #[.int .i64 x3, .string x4, .int .i64 x5]]) T.elem56 T.size83 T.zero83 (Nat.le_of_ble_eq_true rfl) rfl rfl
@[go_sem] theorem T.bs56_3 {H : HL.Heap} {x0 : Int} {x1 : ByteArray} {x2 : Int} {x3 : Int} {x4 : ByteArray} {x5 : Int} {x6 : Int} {x7 : ByteArray} {x8 : Int} : HL.buildSliceV Try.prog H 56 3 [(0, .agg #[.int .i64 x0, .string x1, .int .i64 x2]), (1, .agg #[.int .i64 x3, .string x4, .int .i64 x5]), (2, .agg #[.int .i64 x6, .string x7, .int .i64 x8])] = some (.slice (some ⟨H.size, 0, none⟩) 3 3, H.push (.cells #[.int .i64 x0, .string x1, .int .i64 x2, .int .i64 x3, .string x4, .int .i64 x5, .int .i64 x6, .string x7, .int .i64 x8] 83)) := HL.bsl_of (vs := [.agg #[.int .i64 x0, .string x1, .int .i64 x2], .agg #[.int .i64 x3, .string x4, .int .i64 x5], .agg #[.int .i64 x6, .string x7, .int .i64 x8]]) T.elem56 T.size83 T.zero83 (Nat.le_of_ble_eq_true rfl) rfl rfl
@[go_sem] theorem T.bs56_4 {H : HL.Heap} {x0 : Int} {x1 : ByteArray} {x2 : Int} {x3 : Int} {x4 : ByteArray} {x5 : Int} {x6 : Int} {x7 : ByteArray} {x8 : Int} {x9 : Int} {x10 : ByteArray} {x11 : Int} : HL.buildSliceV Try.prog H 56 4 [(0, .agg #[.int .i64 x0, .string x1, .int .i64 x2]), (1, .agg #[.int .i64 x3, .string x4, .int .i64 x5]), (2, .agg #[.int .i64 x6, .string x7, .int .i64 x8]), (3, .agg #[.int .i64 x9, .string x10, .int .i64 x11])] = some (.slice (some ⟨H.size, 0, none⟩) 4 4, H.push (.cells #[.int .i64 x0, .string x1, .int .i64 x2, .int .i64 x3, .string x4, .int .i64 x5, .int .i64 x6, .string x7, .int .i64 x8, .int .i64 x9, .string x10, .int .i64 x11] 83)) := HL.bsl_of (vs := [.agg #[.int .i64 x0, .string x1, .int .i64 x2], .agg #[.int .i64 x3, .string x4, .int .i64 x5], .agg #[.int .i64 x6, .string x7, .int .i64 x8], .agg #[.int .i64 x9, .string x10, .int .i64 x11]]) T.elem56 T.size83 T.zero83 (Nat.le_of_ble_eq_true rfl) rfl rfl
@[go_sem] theorem T.bs62_1 {H : HL.Heap} {x0 : Int} {a1 : Option Addr} {l1 c1 : Nat} {a2 : Option Addr} {l2 c2 : Nat} {a3 : Option Addr} {l3 c3 : Nat} {x4 : Int} {a5 : Option Addr} {l5 c5 : Nat} : HL.buildSliceV Try.prog H 62 1 [(0, .agg #[.int .i64 x0, .slice a1 l1 c1, .slice a2 l2 c2, .slice a3 l3 c3, .int .i64 x4, .slice a5 l5 c5])] = some (.slice (some ⟨H.size, 0, none⟩) 1 1, H.push (.cells #[.int .i64 x0, .slice a1 l1 c1, .slice a2 l2 c2, .slice a3 l3 c3, .int .i64 x4, .slice a5 l5 c5] 64)) := HL.bsl_of (vs := [.agg #[.int .i64 x0, .slice a1 l1 c1, .slice a2 l2 c2, .slice a3 l3 c3, .int .i64 x4, .slice a5 l5 c5]]) T.elem62 T.size64 T.zero64 (Nat.le_of_ble_eq_true rfl) rfl rfl
@[go_sem] theorem T.bs62_2 {H : HL.Heap} {x0 : Int} {a1 : Option Addr} {l1 c1 : Nat} {a2 : Option Addr} {l2 c2 : Nat} {a3 : Option Addr} {l3 c3 : Nat} {x4 : Int} {a5 : Option Addr} {l5 c5 : Nat} {x6 : Int} {a7 : Option Addr} {l7 c7 : Nat} {a8 : Option Addr} {l8 c8 : Nat} {a9 : Option Addr} {l9 c9 : Nat} {x10 : Int} {a11 : Option Addr} {l11 c11 : Nat} : HL.buildSliceV Try.prog H 62 2 [(0, .agg #[.int .i64 x0, .slice a1 l1 c1, .slice a2 l2 c2, .slice a3 l3 c3, .int .i64 x4, .slice a5 l5 c5]), (1, .agg #[.int .i64 x6, .slice a7 l7 c7, .slice a8 l8 c8, .slice a9 l9 c9, .int .i64 x10, .slice a11 l11 c11])] = some (.slice (some ⟨H.size, 0, none⟩) 2 2, H.push (.cells #[.int .i64 x0, .slice a1 l1 c1, .slice a2 l2 c2, .slice a3 l3 c3, .int .i64 x4, .slice a5 l5 c5, .int .i64 x6, .slice a7 l7 c7, .slice a8 l8 c8, .slice a9 l9 c9, .int .i64 x10, .slice a11 l11 c11] 64)) := HL.bsl_of (vs := [.agg #[.int .i64 x0, .slice a1 l1 c1, .slice a2 l2 c2, .slice a3 l3 c3, .int .i64 x4, .slice a5 l5 c5], .agg #[.int .i64 x6, .slice a7 l7 c7, .slice a8 l8 c8, .slice a9 l9 c9, .int .i64 x10, .slice a11 l11 c11]]) T.elem62 T.size64 T.zero64 (Nat.le_of_ble_eq_true rfl) rfl rfl
@[go_sem] theorem T.bs125_1 {H : HL.Heap} {x0 : Int} {x1 : Int} : HL.buildSliceV Try.prog H 125 1 [(0, .agg #[.int .i64 x0, .int .i64 x1])] = some (.slice (some ⟨H.size, 0, none⟩) 1 1, H.push (.cells #[.int .i64 x0, .int .i64 x1] 119)) := HL.bsl_of (vs := [.agg #[.int .i64 x0, .int .i64 x1]]) T.elem125 T.size119 T.zero119 (Nat.le_of_ble_eq_true rfl) rfl rfl
@[go_sem] theorem T.bs125_2 {H : HL.Heap} {x0 : Int} {x1 : Int} {x2 : Int} {x3 : Int} : HL.buildSliceV Try.prog H 125 2 [(0, .agg #[.int .i64 x0, .int .i64 x1]), (1, .agg #[.int .i64 x2, .int .i64 x3])] = some (.slice (some ⟨H.size, 0, none⟩) 2 2, H.push (.cells #[.int .i64 x0, .int .i64 x1, .int .i64 x2, .int .i64 x3] 119)) := HL.bsl_of (vs := [.agg #[.int .i64 x0, .int .i64 x1], .agg #[.int .i64 x2, .int .i64 x3]]) T.elem125 T.size119 T.zero119 (Nat.le_of_ble_eq_true rfl) rfl rfl
@[go_sem] theorem T.bs125_3 {H : HL.Heap} {x0 : Int} {x1 : Int} {x2 : Int} {x3 : Int} {x4 : Int} {x5 : Int} : HL.buildSliceV Try.prog H 125 3 [(0, .agg #[.int .i64 x0, .int .i64 x1]), (1, .agg #[.int .i64 x2, .int .i64 x3]), (2, .agg #[.int .i64 x4, .int .i64 x5])] = some (.slice (some ⟨H.size, 0, none⟩) 3 3, H.push (.cells #[.int .i64 x0, .int .i64 x1, .int .i64 x2, .int .i64 x3, .int .i64 x4, .int .i64 x5] 119)) := HL.bsl_of (vs := [.agg #[.int .i64 x0, .int .i64 x1], .agg #[.int .i64 x2, .int .i64 x3], .agg #[.int .i64 x4, .int .i64 x5]]) T.elem125 T.size119 T.zero119 (Nat.le_of_ble_eq_true rfl) rfl rfl
@[go_sem] theorem T.bs125_4 {H : HL.Heap} {x0 : Int} {x1 : Int} {x2 : Int} {x3 : Int} {x4 : Int} {x5 : Int} {x6 : Int} {x7 : Int} : HL.buildSliceV Try.prog H 125 4 [(0, .agg #[.int .i64 x0, .int .i64 x1]), (1, .agg #[.int .i64 x2, .int .i64 x3]), (2, .agg #[.int .i64 x4, .int .i64 x5]), (3, .agg #[.int .i64 x6, .int .i64 x7])] = some (.slice (some ⟨H.size, 0, none⟩) 4 4, H.push (.cells #[.int .i64 x0, .int .i64 x1, .int .i64 x2, .int .i64 x3, .int .i64 x4, .int .i64 x5, .int .i64 x6, .int .i64 x7] 119)) := HL.bsl_of (vs := [.agg #[.int .i64 x0, .int .i64 x1], .agg #[.int .i64 x2, .int .i64 x3], .agg #[.int .i64 x4, .int .i64 x5], .agg #[.int .i64 x6, .int .i64 x7]]) T.elem125 T.size119 T.zero119 (Nat.le_of_ble_eq_true rfl) rfl rfl
@[go_sem] theorem T.stn30 {H : HL.Heap} {z0 z1 z2 z3 z4 z5 z6 : Value} {a0 : Option Addr} {l0 c0 : Nat} {x1 : Int} {a2 : Option Addr} {l2 c2 : Nat} {a3 : Option Addr} {l3 c3 : Nat} {a4 : Option Addr} {l4 c4 : Nat} {a5 : Option Addr} {l5 c5 : Nat} {x6 : Bool} : HL.storeA Try.prog (H.push (.cells #[z0, z1, z2, z3, z4, z5, z6] 30)) 30 ⟨H.size, 0, none⟩ (.agg #[.slice a0 l0 c0, .int .i64 x1, .slice a2 l2 c2, .slice a3 l3 c3, .slice a4 l4 c4, .slice a5 l5 c5, .bool x6]) = some (H.push (.cells #[.slice a0 l0 c0, .int .i64 x1, .slice a2 l2 c2, .slice a3 l3 c3, .slice a4 l4 c4, .slice a5 l5 c5, .bool x6] 30)) := HL.store_new (z := [z0, z1, z2, z3, z4, z5, z6]) (vs := [.slice a0 l0 c0, .int .i64 x1, .slice a2 l2 c2, .slice a3 l3 c3, .slice a4 l4 c4, .slice a5 l5 c5, .bool x6]) T.size30 rfl (HL.one_all rfl)
@[go_sem] theorem T.ln30 {H : HL.Heap} {z0 z1 z2 z3 z4 z5 z6 : Value} : HL.cellsH (HL.cellH (H.push (.cells #[z0, z1, z2, z3, z4, z5, z6] 30))) ⟨H.size, 0, none⟩ 0 7 = some [z0, z1, z2, z3, z4, z5, z6] := HL.Blk.cells0 (new := [z0, z1, z2, z3, z4, z5, z6]) (HL.Blk.new rfl)
@[go_sem] theorem T.stn37 {H : HL.Heap} {z0 z1 z2 z3 z4 z5 z6 z7 : Value} {x0 : ByteArray} {x1 : Int} {a2 : Option Addr} {l2 c2 : Nat} {x3 : Int} {a4 : Option Addr} {l4 c4 : Nat} {a5 : Option Addr} {l5 c5 : Nat} {a6 : Option Addr} {l6 c6 : Nat} {a7 : Option Addr} {l7 c7 : Nat} : HL.storeA Try.prog (H.push (.cells #[z0, z1, z2, z3, z4, z5, z6, z7] 37)) 37 ⟨H.size, 0, none⟩ (.agg #[.string x0, .int .i64 x1, .slice a2 l2 c2, .int .i64 x3, .slice a4 l4 c4, .slice a5 l5 c5, .slice a6 l6 c6, .slice a7 l7 c7]) = some (H.push (.cells #[.string x0, .int .i64 x1, .slice a2 l2 c2, .int .i64 x3, .slice a4 l4 c4, .slice a5 l5 c5, .slice a6 l6 c6, .slice a7 l7 c7] 37)) := HL.store_new (z := [z0, z1, z2, z3, z4, z5, z6, z7]) (vs := [.string x0, .int .i64 x1, .slice a2 l2 c2, .int .i64 x3, .slice a4 l4 c4, .slice a5 l5 c5, .slice a6 l6 c6, .slice a7 l7 c7]) T.size37 rfl (HL.one_all rfl)
@[go_sem] theorem T.ln37 {H : HL.Heap} {z0 z1 z2 z3 z4 z5 z6 z7 : Value} : HL.cellsH (HL.cellH (H.push (.cells #[z0, z1, z2, z3, z4, z5, z6, z7] 37))) ⟨H.size, 0, none⟩ 0 8 = some [z0, z1, z2, z3, z4, z5, z6, z7] := HL.Blk.cells0 (new := [z0, z1, z2, z3, z4, z5, z6, z7]) (HL.Blk.new rfl)
@[go_sem] theorem T.stn39 {H : HL.Heap} {z0 z1 z2 z3 z4 z5 z6 z7 : Value} {x0 : Int} {x1 : Int} {x2 : Int} {x3 : Int} {x4 : Int} {x5 : Int} {x6 : Bool} {x7 : Int} : HL.storeA Try.prog (H.push (.cells #[z0, z1, z2, z3, z4, z5, z6, z7] 39)) 39 ⟨H.size, 0, none⟩ (.agg #[.int .i64 x0, .int .i64 x1, .int .i64 x2, .int .i64 x3, .int .i64 x4, .int .i64 x5, .bool x6, .int .i64 x7]) = some (H.push (.cells #[.int .i64 x0, .int .i64 x1, .int .i64 x2, .int .i64 x3, .int .i64 x4, .int .i64 x5, .bool x6, .int .i64 x7] 39)) := HL.store_new (z := [z0, z1, z2, z3, z4, z5, z6, z7]) (vs := [.int .i64 x0, .int .i64 x1, .int .i64 x2, .int .i64 x3, .int .i64 x4, .int .i64 x5, .bool x6, .int .i64 x7]) T.size39 rfl (HL.one_all rfl)
@[go_sem] theorem T.ln39 {H : HL.Heap} {z0 z1 z2 z3 z4 z5 z6 z7 : Value} : HL.cellsH (HL.cellH (H.push (.cells #[z0, z1, z2, z3, z4, z5, z6, z7] 39))) ⟨H.size, 0, none⟩ 0 8 = some [z0, z1, z2, z3, z4, z5, z6, z7] := HL.Blk.cells0 (new := [z0, z1, z2, z3, z4, z5, z6, z7]) (HL.Blk.new rfl)
@[go_sem] theorem T.stn42 {H : HL.Heap} {z0 z1 : Value} {x0 : Int} {x1 : Int} : HL.storeA Try.prog (H.push (.cells #[z0, z1] 42)) 42 ⟨H.size, 0, none⟩ (.agg #[.int .i64 x0, .int .i64 x1]) = some (H.push (.cells #[.int .i64 x0, .int .i64 x1] 42)) := HL.store_new (z := [z0, z1]) (vs := [.int .i64 x0, .int .i64 x1]) T.size42 rfl (HL.one_all rfl)
@[go_sem] theorem T.ln42 {H : HL.Heap} {z0 z1 : Value} : HL.cellsH (HL.cellH (H.push (.cells #[z0, z1] 42))) ⟨H.size, 0, none⟩ 0 2 = some [z0, z1] := HL.Blk.cells0 (new := [z0, z1]) (HL.Blk.new rfl)
@[go_sem] theorem T.stn47 {H : HL.Heap} {z0 z1 z2 : Value} {x0 : ByteArray} {x1 : Int} {x2 : Int} : HL.storeA Try.prog (H.push (.cells #[z0, z1, z2] 47)) 47 ⟨H.size, 0, none⟩ (.agg #[.string x0, .int .i64 x1, .int .i64 x2]) = some (H.push (.cells #[.string x0, .int .i64 x1, .int .i64 x2] 47)) := HL.store_new (z := [z0, z1, z2]) (vs := [.string x0, .int .i64 x1, .int .i64 x2]) T.size47 rfl (HL.one_all rfl)
@[go_sem] theorem T.ln47 {H : HL.Heap} {z0 z1 z2 : Value} : HL.cellsH (HL.cellH (H.push (.cells #[z0, z1, z2] 47))) ⟨H.size, 0, none⟩ 0 3 = some [z0, z1, z2] := HL.Blk.cells0 (new := [z0, z1, z2]) (HL.Blk.new rfl)
@[go_sem] theorem T.stn49 {H : HL.Heap} {z0 z1 z2 z3 z4 : Value} {x0 : Int} {a1 : Option Addr} {l1 c1 : Nat} {a2 : Option Addr} {l2 c2 : Nat} {a3 : Option Addr} {l3 c3 : Nat} {x4 : Int} : HL.storeA Try.prog (H.push (.cells #[z0, z1, z2, z3, z4] 49)) 49 ⟨H.size, 0, none⟩ (.agg #[.int .i64 x0, .slice a1 l1 c1, .slice a2 l2 c2, .slice a3 l3 c3, .int .i64 x4]) = some (H.push (.cells #[.int .i64 x0, .slice a1 l1 c1, .slice a2 l2 c2, .slice a3 l3 c3, .int .i64 x4] 49)) := HL.store_new (z := [z0, z1, z2, z3, z4]) (vs := [.int .i64 x0, .slice a1 l1 c1, .slice a2 l2 c2, .slice a3 l3 c3, .int .i64 x4]) T.size49 rfl (HL.one_all rfl)
@[go_sem] theorem T.ln49 {H : HL.Heap} {z0 z1 z2 z3 z4 : Value} : HL.cellsH (HL.cellH (H.push (.cells #[z0, z1, z2, z3, z4] 49))) ⟨H.size, 0, none⟩ 0 5 = some [z0, z1, z2, z3, z4] := HL.Blk.cells0 (new := [z0, z1, z2, z3, z4]) (HL.Blk.new rfl)
@[go_sem] theorem T.stn53 {H : HL.Heap} {z0 z1 z2 z3 z4 z5 z6 : Value} {a0 : Option Addr} {l0 c0 : Nat} {x1 : Int} {a2 : Option Addr} {l2 c2 : Nat} {a3 : Option Addr} {l3 c3 : Nat} {a4 : Option Addr} {l4 c4 : Nat} {a5 : Option Addr} {l5 c5 : Nat} {x6 : Bool} : HL.storeA Try.prog (H.push (.cells #[z0, z1, z2, z3, z4, z5, z6] 53)) 53 ⟨H.size, 0, none⟩ (.agg #[.slice a0 l0 c0, .int .i64 x1, .slice a2 l2 c2, .slice a3 l3 c3, .slice a4 l4 c4, .slice a5 l5 c5, .bool x6]) = some (H.push (.cells #[.slice a0 l0 c0, .int .i64 x1, .slice a2 l2 c2, .slice a3 l3 c3, .slice a4 l4 c4, .slice a5 l5 c5, .bool x6] 53)) := HL.store_new (z := [z0, z1, z2, z3, z4, z5, z6]) (vs := [.slice a0 l0 c0, .int .i64 x1, .slice a2 l2 c2, .slice a3 l3 c3, .slice a4 l4 c4, .slice a5 l5 c5, .bool x6]) T.size53 rfl (HL.one_all rfl)
@[go_sem] theorem T.ln53 {H : HL.Heap} {z0 z1 z2 z3 z4 z5 z6 : Value} : HL.cellsH (HL.cellH (H.push (.cells #[z0, z1, z2, z3, z4, z5, z6] 53))) ⟨H.size, 0, none⟩ 0 7 = some [z0, z1, z2, z3, z4, z5, z6] := HL.Blk.cells0 (new := [z0, z1, z2, z3, z4, z5, z6]) (HL.Blk.new rfl)
@[go_sem] theorem T.stn61 {H : HL.Heap} {z0 z1 z2 z3 z4 : Value} {a0 : Option Addr} {l0 c0 : Nat} {x1 : Int} {x2 : Int} {x3 : Int} {x4 : Int} : HL.storeA Try.prog (H.push (.cells #[z0, z1, z2, z3, z4] 61)) 61 ⟨H.size, 0, none⟩ (.agg #[.slice a0 l0 c0, .int .i64 x1, .int .i64 x2, .int .i64 x3, .int .i64 x4]) = some (H.push (.cells #[.slice a0 l0 c0, .int .i64 x1, .int .i64 x2, .int .i64 x3, .int .i64 x4] 61)) := HL.store_new (z := [z0, z1, z2, z3, z4]) (vs := [.slice a0 l0 c0, .int .i64 x1, .int .i64 x2, .int .i64 x3, .int .i64 x4]) T.size61 rfl (HL.one_all rfl)
@[go_sem] theorem T.ln61 {H : HL.Heap} {z0 z1 z2 z3 z4 : Value} : HL.cellsH (HL.cellH (H.push (.cells #[z0, z1, z2, z3, z4] 61))) ⟨H.size, 0, none⟩ 0 5 = some [z0, z1, z2, z3, z4] := HL.Blk.cells0 (new := [z0, z1, z2, z3, z4]) (HL.Blk.new rfl)
@[go_sem] theorem T.stn64 {H : HL.Heap} {z0 z1 z2 z3 z4 z5 : Value} {x0 : Int} {a1 : Option Addr} {l1 c1 : Nat} {a2 : Option Addr} {l2 c2 : Nat} {a3 : Option Addr} {l3 c3 : Nat} {x4 : Int} {a5 : Option Addr} {l5 c5 : Nat} : HL.storeA Try.prog (H.push (.cells #[z0, z1, z2, z3, z4, z5] 64)) 64 ⟨H.size, 0, none⟩ (.agg #[.int .i64 x0, .slice a1 l1 c1, .slice a2 l2 c2, .slice a3 l3 c3, .int .i64 x4, .slice a5 l5 c5]) = some (H.push (.cells #[.int .i64 x0, .slice a1 l1 c1, .slice a2 l2 c2, .slice a3 l3 c3, .int .i64 x4, .slice a5 l5 c5] 64)) := HL.store_new (z := [z0, z1, z2, z3, z4, z5]) (vs := [.int .i64 x0, .slice a1 l1 c1, .slice a2 l2 c2, .slice a3 l3 c3, .int .i64 x4, .slice a5 l5 c5]) T.size64 rfl (HL.one_all rfl)
@[go_sem] theorem T.ln64 {H : HL.Heap} {z0 z1 z2 z3 z4 z5 : Value} : HL.cellsH (HL.cellH (H.push (.cells #[z0, z1, z2, z3, z4, z5] 64))) ⟨H.size, 0, none⟩ 0 6 = some [z0, z1, z2, z3, z4, z5] := HL.Blk.cells0 (new := [z0, z1, z2, z3, z4, z5]) (HL.Blk.new rfl)
@[go_sem] theorem T.stn69 {H : HL.Heap} {z0 z1 z2 z3 : Value} {a0 : Option Addr} {l0 c0 : Nat} {x1 : Int} {x2 : Int} {x3 : Int} : HL.storeA Try.prog (H.push (.cells #[z0, z1, z2, z3] 69)) 69 ⟨H.size, 0, none⟩ (.agg #[.slice a0 l0 c0, .int .i64 x1, .int .i64 x2, .int .i64 x3]) = some (H.push (.cells #[.slice a0 l0 c0, .int .i64 x1, .int .i64 x2, .int .i64 x3] 69)) := HL.store_new (z := [z0, z1, z2, z3]) (vs := [.slice a0 l0 c0, .int .i64 x1, .int .i64 x2, .int .i64 x3]) T.size69 rfl (HL.one_all rfl)
@[go_sem] theorem T.ln69 {H : HL.Heap} {z0 z1 z2 z3 : Value} : HL.cellsH (HL.cellH (H.push (.cells #[z0, z1, z2, z3] 69))) ⟨H.size, 0, none⟩ 0 4 = some [z0, z1, z2, z3] := HL.Blk.cells0 (new := [z0, z1, z2, z3]) (HL.Blk.new rfl)
@[go_sem] theorem T.stn73 {H : HL.Heap} {z0 z1 z2 z3 z4 : Value} {x0 : ByteArray} {x1 : Int} {x2 : Int} {x3 : Bool} {x4 : Bool} : HL.storeA Try.prog (H.push (.cells #[z0, z1, z2, z3, z4] 73)) 73 ⟨H.size, 0, none⟩ (.agg #[.string x0, .int .i64 x1, .int .i64 x2, .bool x3, .bool x4]) = some (H.push (.cells #[.string x0, .int .i64 x1, .int .i64 x2, .bool x3, .bool x4] 73)) := HL.store_new (z := [z0, z1, z2, z3, z4]) (vs := [.string x0, .int .i64 x1, .int .i64 x2, .bool x3, .bool x4]) T.size73 rfl (HL.one_all rfl)
@[go_sem] theorem T.ln73 {H : HL.Heap} {z0 z1 z2 z3 z4 : Value} : HL.cellsH (HL.cellH (H.push (.cells #[z0, z1, z2, z3, z4] 73))) ⟨H.size, 0, none⟩ 0 5 = some [z0, z1, z2, z3, z4] := HL.Blk.cells0 (new := [z0, z1, z2, z3, z4]) (HL.Blk.new rfl)
@[go_sem] theorem T.stn76 {H : HL.Heap} {z0 z1 z2 z3 z4 z5 z6 z7 z8 z9 : Value} {x0 : ByteArray} {x1 : Int} {a2 : Option Addr} {l2 c2 : Nat} {x3 : Int} {a4 : Option Addr} {l4 c4 : Nat} {a5 : Option Addr} {l5 c5 : Nat} {a6 : Option Addr} {l6 c6 : Nat} {a7 : Option Addr} {l7 c7 : Nat} {a8 : Option Addr} {l8 c8 : Nat} {a9 : Option Addr} {l9 c9 : Nat} : HL.storeA Try.prog (H.push (.cells #[z0, z1, z2, z3, z4, z5, z6, z7, z8, z9] 76)) 76 ⟨H.size, 0, none⟩ (.agg #[.string x0, .int .i64 x1, .slice a2 l2 c2, .int .i64 x3, .slice a4 l4 c4, .slice a5 l5 c5, .slice a6 l6 c6, .slice a7 l7 c7, .slice a8 l8 c8, .slice a9 l9 c9]) = some (H.push (.cells #[.string x0, .int .i64 x1, .slice a2 l2 c2, .int .i64 x3, .slice a4 l4 c4, .slice a5 l5 c5, .slice a6 l6 c6, .slice a7 l7 c7, .slice a8 l8 c8, .slice a9 l9 c9] 76)) := HL.store_new (z := [z0, z1, z2, z3, z4, z5, z6, z7, z8, z9]) (vs := [.string x0, .int .i64 x1, .slice a2 l2 c2, .int .i64 x3, .slice a4 l4 c4, .slice a5 l5 c5, .slice a6 l6 c6, .slice a7 l7 c7, .slice a8 l8 c8, .slice a9 l9 c9]) T.size76 rfl (HL.one_all rfl)
@[go_sem] theorem T.ln76 {H : HL.Heap} {z0 z1 z2 z3 z4 z5 z6 z7 z8 z9 : Value} : HL.cellsH (HL.cellH (H.push (.cells #[z0, z1, z2, z3, z4, z5, z6, z7, z8, z9] 76))) ⟨H.size, 0, none⟩ 0 10 = some [z0, z1, z2, z3, z4, z5, z6, z7, z8, z9] := HL.Blk.cells0 (new := [z0, z1, z2, z3, z4, z5, z6, z7, z8, z9]) (HL.Blk.new rfl)
@[go_sem] theorem T.stn83 {H : HL.Heap} {z0 z1 z2 : Value} {x0 : Int} {x1 : ByteArray} {x2 : Int} : HL.storeA Try.prog (H.push (.cells #[z0, z1, z2] 83)) 83 ⟨H.size, 0, none⟩ (.agg #[.int .i64 x0, .string x1, .int .i64 x2]) = some (H.push (.cells #[.int .i64 x0, .string x1, .int .i64 x2] 83)) := HL.store_new (z := [z0, z1, z2]) (vs := [.int .i64 x0, .string x1, .int .i64 x2]) T.size83 rfl (HL.one_all rfl)
@[go_sem] theorem T.ln83 {H : HL.Heap} {z0 z1 z2 : Value} : HL.cellsH (HL.cellH (H.push (.cells #[z0, z1, z2] 83))) ⟨H.size, 0, none⟩ 0 3 = some [z0, z1, z2] := HL.Blk.cells0 (new := [z0, z1, z2]) (HL.Blk.new rfl)
@[go_sem] theorem T.stn104 {H : HL.Heap} {z0 z1 z2 z3 z4 : Value} {a0 : Option Addr} {l0 c0 : Nat} {a1 : Option Addr} {l1 c1 : Nat} {a2 : Option Addr} {l2 c2 : Nat} {a3 : Option Addr} {l3 c3 : Nat} {x4 : Bool} : HL.storeA Try.prog (H.push (.cells #[z0, z1, z2, z3, z4] 104)) 104 ⟨H.size, 0, none⟩ (.agg #[.slice a0 l0 c0, .slice a1 l1 c1, .slice a2 l2 c2, .slice a3 l3 c3, .bool x4]) = some (H.push (.cells #[.slice a0 l0 c0, .slice a1 l1 c1, .slice a2 l2 c2, .slice a3 l3 c3, .bool x4] 104)) := HL.store_new (z := [z0, z1, z2, z3, z4]) (vs := [.slice a0 l0 c0, .slice a1 l1 c1, .slice a2 l2 c2, .slice a3 l3 c3, .bool x4]) T.size104 rfl (HL.one_all rfl)
@[go_sem] theorem T.ln104 {H : HL.Heap} {z0 z1 z2 z3 z4 : Value} : HL.cellsH (HL.cellH (H.push (.cells #[z0, z1, z2, z3, z4] 104))) ⟨H.size, 0, none⟩ 0 5 = some [z0, z1, z2, z3, z4] := HL.Blk.cells0 (new := [z0, z1, z2, z3, z4]) (HL.Blk.new rfl)
@[go_sem] theorem T.stn119 {H : HL.Heap} {z0 z1 : Value} {x0 : Int} {x1 : Int} : HL.storeA Try.prog (H.push (.cells #[z0, z1] 119)) 119 ⟨H.size, 0, none⟩ (.agg #[.int .i64 x0, .int .i64 x1]) = some (H.push (.cells #[.int .i64 x0, .int .i64 x1] 119)) := HL.store_new (z := [z0, z1]) (vs := [.int .i64 x0, .int .i64 x1]) T.size119 rfl (HL.one_all rfl)
@[go_sem] theorem T.ln119 {H : HL.Heap} {z0 z1 : Value} : HL.cellsH (HL.cellH (H.push (.cells #[z0, z1] 119))) ⟨H.size, 0, none⟩ 0 2 = some [z0, z1] := HL.Blk.cells0 (new := [z0, z1]) (HL.Blk.new rfl)
@[go_sem] theorem T.sl9 {H : HL.Heap} {a : HL.Str} : HL.lenV Try.prog (HL.full H) 9 (.string (HL.bs a)) = some (.int .i64 a.length) := HL.str_len Try.underlying9
@[go_sem] theorem T.si9 {a : HL.Str} {k : IntKind} {n : Int} : HL.indexV Try.prog 9 (.string (HL.bs a)) (.int k n) = HL.chk (0 ≤ n ∧ n < a.length) (some (HL.u8v (HL.bt8 a n.toNat))) := HL.str_index Try.underlying9
@[go_sem] theorem T.ss9 {a : HL.Str} {k k2 : IntKind} {x y : Int} : HL.sliceV Try.prog 9 (.string (HL.bs a)) (some (.int k x)) (some (.int k2 y)) none = HL.chk (0 ≤ y ∧ y ≤ a.length) (HL.chk (0 ≤ x ∧ x ≤ y.toNat) (some (.string (HL.bs ((a.take y.toNat).drop x.toNat))))) := HL.str_sub Try.underlying9
@[go_sem] theorem T.so9 {a : HL.Str} {k : IntKind} {x : Int} : HL.sliceV Try.prog 9 (.string (HL.bs a)) (some (.int k x)) none none = HL.chk (0 ≤ x ∧ x ≤ a.length) (some (.string (HL.bs (a.drop x.toNat)))) := HL.str_lo Try.underlying9
@[go_sem] theorem T.sh9 {a : HL.Str} {k : IntKind} {y : Int} : HL.sliceV Try.prog 9 (.string (HL.bs a)) none (some (.int k y)) none = HL.chk (0 ≤ y ∧ y ≤ a.length) (some (.string (HL.bs (a.take y.toNat)))) := HL.str_hi Try.underlying9
@[go_sem] theorem T.sl10 {H : HL.Heap} {a : HL.Str} : HL.lenV Try.prog (HL.full H) 10 (.string (HL.bs a)) = some (.int .i64 a.length) := HL.str_len Try.underlying10
@[go_sem] theorem T.si10 {a : HL.Str} {k : IntKind} {n : Int} : HL.indexV Try.prog 10 (.string (HL.bs a)) (.int k n) = HL.chk (0 ≤ n ∧ n < a.length) (some (HL.u8v (HL.bt8 a n.toNat))) := HL.str_index Try.underlying10
@[go_sem] theorem T.ss10 {a : HL.Str} {k k2 : IntKind} {x y : Int} : HL.sliceV Try.prog 10 (.string (HL.bs a)) (some (.int k x)) (some (.int k2 y)) none = HL.chk (0 ≤ y ∧ y ≤ a.length) (HL.chk (0 ≤ x ∧ x ≤ y.toNat) (some (.string (HL.bs ((a.take y.toNat).drop x.toNat))))) := HL.str_sub Try.underlying10
@[go_sem] theorem T.so10 {a : HL.Str} {k : IntKind} {x : Int} : HL.sliceV Try.prog 10 (.string (HL.bs a)) (some (.int k x)) none none = HL.chk (0 ≤ x ∧ x ≤ a.length) (some (.string (HL.bs (a.drop x.toNat)))) := HL.str_lo Try.underlying10
@[go_sem] theorem T.sh10 {a : HL.Str} {k : IntKind} {y : Int} : HL.sliceV Try.prog 10 (.string (HL.bs a)) none (some (.int k y)) none = HL.chk (0 ≤ y ∧ y ≤ a.length) (some (.string (HL.bs (a.take y.toNat)))) := HL.str_hi Try.underlying10
@[go_sem] theorem T.sl11 {H : HL.Heap} {a : HL.Str} : HL.lenV Try.prog (HL.full H) 11 (.string (HL.bs a)) = some (.int .i64 a.length) := HL.str_len Try.underlying11
@[go_sem] theorem T.si11 {a : HL.Str} {k : IntKind} {n : Int} : HL.indexV Try.prog 11 (.string (HL.bs a)) (.int k n) = HL.chk (0 ≤ n ∧ n < a.length) (some (HL.u8v (HL.bt8 a n.toNat))) := HL.str_index Try.underlying11
@[go_sem] theorem T.ss11 {a : HL.Str} {k k2 : IntKind} {x y : Int} : HL.sliceV Try.prog 11 (.string (HL.bs a)) (some (.int k x)) (some (.int k2 y)) none = HL.chk (0 ≤ y ∧ y ≤ a.length) (HL.chk (0 ≤ x ∧ x ≤ y.toNat) (some (.string (HL.bs ((a.take y.toNat).drop x.toNat))))) := HL.str_sub Try.underlying11
@[go_sem] theorem T.so11 {a : HL.Str} {k : IntKind} {x : Int} : HL.sliceV Try.prog 11 (.string (HL.bs a)) (some (.int k x)) none none = HL.chk (0 ≤ x ∧ x ≤ a.length) (some (.string (HL.bs (a.drop x.toNat)))) := HL.str_lo Try.underlying11
@[go_sem] theorem T.sh11 {a : HL.Str} {k : IntKind} {y : Int} : HL.sliceV Try.prog 11 (.string (HL.bs a)) none (some (.int k y)) none = HL.chk (0 ≤ y ∧ y ≤ a.length) (some (.string (HL.bs (a.take y.toNat)))) := HL.str_hi Try.underlying11
end Go.Proofs
