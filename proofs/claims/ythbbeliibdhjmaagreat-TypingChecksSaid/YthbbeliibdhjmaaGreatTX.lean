/- Texts of this proof, put together: T. The conditions of each theorem stand in it. -/
import Derived.Test.YthbbeliibdhjmaaGreatProg
import Derived.Test.YthbbeliibdhjmaaGreatMX2
/- Closed facts on the types of the program. -/
namespace Go.Proofs
theorem T.mixed : Tryz.prog.follows .mixedOrders = true := by kernel_rfl
@[go_sem] theorem T.agg1 : HL.aggN Tryz.prog 1 = some none := by kernel_rfl
@[go_sem] theorem T.size1 : HL.sizeT Tryz.prog 1 = some 1 := by kernel_rfl
@[go_sem] theorem T.bytes1 : HL.bytesT Tryz.prog 1 = some 8 := by kernel_rfl
@[go_sem] theorem T.zero1 : HL.zeroT Tryz.prog 1 = some (.nilFunc) := by kernel_rfl
@[go_sem] theorem T.agg2 : HL.aggN Tryz.prog 2 = some none := by kernel_rfl
@[go_sem] theorem T.size2 : HL.sizeT Tryz.prog 2 = some 1 := by kernel_rfl
@[go_sem] theorem T.bytes2 : HL.bytesT Tryz.prog 2 = some 8 := by kernel_rfl
@[go_sem] theorem T.zero2 : HL.zeroT Tryz.prog 2 = some (.int .i64 0) := by kernel_rfl
@[go_sem] theorem T.agg3 : HL.aggN Tryz.prog 3 = some none := by kernel_rfl
@[go_sem] theorem T.size3 : HL.sizeT Tryz.prog 3 = some 1 := by kernel_rfl
@[go_sem] theorem T.bytes3 : HL.bytesT Tryz.prog 3 = some 8 := by kernel_rfl
@[go_sem] theorem T.zero3 : HL.zeroT Tryz.prog 3 = some (.int .i64 0) := by kernel_rfl
@[go_sem] theorem T.agg4 : HL.aggN Tryz.prog 4 = some none := by kernel_rfl
@[go_sem] theorem T.size4 : HL.sizeT Tryz.prog 4 = some 1 := by kernel_rfl
@[go_sem] theorem T.bytes4 : HL.bytesT Tryz.prog 4 = some 1 := by kernel_rfl
@[go_sem] theorem T.zero4 : HL.zeroT Tryz.prog 4 = some (.bool false) := by kernel_rfl
@[go_sem] theorem T.agg5 : HL.aggN Tryz.prog 5 = some none := by kernel_rfl
@[go_sem] theorem T.size5 : HL.sizeT Tryz.prog 5 = some 1 := by kernel_rfl
@[go_sem] theorem T.bytes5 : HL.bytesT Tryz.prog 5 = some 1 := by kernel_rfl
@[go_sem] theorem T.zero5 : HL.zeroT Tryz.prog 5 = some (.int .u8 0) := by kernel_rfl
@[go_sem] theorem T.agg6 : HL.aggN Tryz.prog 6 = some none := by kernel_rfl
@[go_sem] theorem T.size6 : HL.sizeT Tryz.prog 6 = some 1 := by kernel_rfl
@[go_sem] theorem T.bytes6 : HL.bytesT Tryz.prog 6 = some 1 := by kernel_rfl
@[go_sem] theorem T.zero6 : HL.zeroT Tryz.prog 6 = some (.int .u8 0) := by kernel_rfl
@[go_sem] theorem T.agg7 : HL.aggN Tryz.prog 7 = some (some 4) := by kernel_rfl
@[go_sem] theorem T.size7 : HL.sizeT Tryz.prog 7 = some 4 := by kernel_rfl
@[go_sem] theorem T.bytes7 : HL.bytesT Tryz.prog 7 = some 24 := by kernel_rfl
@[go_sem] theorem T.zero7 : HL.zeroT Tryz.prog 7 = some (.agg #[.int .i64 0, .int .i64 0, .bool false, .int .u8 0]) := by kernel_rfl
@[go_sem] theorem T.places7 : HL.placesT Tryz.prog 7 = some [(0, 1), (1, 1), (2, 1), (3, 1)] := by kernel_rfl
@[go_sem] theorem T.field7_0 : HL.fieldT Tryz.prog 7 0 = some (0, 2) := by kernel_rfl
@[go_sem] theorem T.fieldO7_0 : HL.fieldO Tryz.prog 7 0 = some 0 := by kernel_rfl
@[go_sem] theorem T.field7_1 : HL.fieldT Tryz.prog 7 1 = some (1, 3) := by kernel_rfl
@[go_sem] theorem T.fieldO7_1 : HL.fieldO Tryz.prog 7 1 = some 1 := by kernel_rfl
@[go_sem] theorem T.field7_2 : HL.fieldT Tryz.prog 7 2 = some (2, 4) := by kernel_rfl
@[go_sem] theorem T.fieldO7_2 : HL.fieldO Tryz.prog 7 2 = some 2 := by kernel_rfl
@[go_sem] theorem T.field7_3 : HL.fieldT Tryz.prog 7 3 = some (3, 6) := by kernel_rfl
@[go_sem] theorem T.fieldO7_3 : HL.fieldO Tryz.prog 7 3 = some 3 := by kernel_rfl
@[go_sem] theorem T.agg8 : HL.aggN Tryz.prog 8 = some (some 4) := by kernel_rfl
@[go_sem] theorem T.size8 : HL.sizeT Tryz.prog 8 = some 4 := by kernel_rfl
@[go_sem] theorem T.bytes8 : HL.bytesT Tryz.prog 8 = some 24 := by kernel_rfl
@[go_sem] theorem T.zero8 : HL.zeroT Tryz.prog 8 = some (.agg #[.int .i64 0, .int .i64 0, .bool false, .int .u8 0]) := by kernel_rfl
@[go_sem] theorem T.places8 : HL.placesT Tryz.prog 8 = some [(0, 1), (1, 1), (2, 1), (3, 1)] := by kernel_rfl
@[go_sem] theorem T.field8_0 : HL.fieldT Tryz.prog 8 0 = some (0, 2) := by kernel_rfl
@[go_sem] theorem T.fieldO8_0 : HL.fieldO Tryz.prog 8 0 = some 0 := by kernel_rfl
@[go_sem] theorem T.field8_1 : HL.fieldT Tryz.prog 8 1 = some (1, 3) := by kernel_rfl
@[go_sem] theorem T.fieldO8_1 : HL.fieldO Tryz.prog 8 1 = some 1 := by kernel_rfl
@[go_sem] theorem T.field8_2 : HL.fieldT Tryz.prog 8 2 = some (2, 4) := by kernel_rfl
@[go_sem] theorem T.fieldO8_2 : HL.fieldO Tryz.prog 8 2 = some 2 := by kernel_rfl
@[go_sem] theorem T.field8_3 : HL.fieldT Tryz.prog 8 3 = some (3, 6) := by kernel_rfl
@[go_sem] theorem T.fieldO8_3 : HL.fieldO Tryz.prog 8 3 = some 3 := by kernel_rfl
@[go_sem] theorem T.agg9 : HL.aggN Tryz.prog 9 = some none := by kernel_rfl
@[go_sem] theorem T.size9 : HL.sizeT Tryz.prog 9 = some 1 := by kernel_rfl
@[go_sem] theorem T.bytes9 : HL.bytesT Tryz.prog 9 = some 16 := by kernel_rfl
@[go_sem] theorem T.zero9 : HL.zeroT Tryz.prog 9 = some (.string ⟨#[]⟩) := by kernel_rfl
@[go_sem] theorem T.agg10 : HL.aggN Tryz.prog 10 = some none := by kernel_rfl
@[go_sem] theorem T.size10 : HL.sizeT Tryz.prog 10 = some 1 := by kernel_rfl
@[go_sem] theorem T.bytes10 : HL.bytesT Tryz.prog 10 = some 16 := by kernel_rfl
@[go_sem] theorem T.zero10 : HL.zeroT Tryz.prog 10 = some (.string ⟨#[]⟩) := by kernel_rfl
@[go_sem] theorem T.agg11 : HL.aggN Tryz.prog 11 = some none := by kernel_rfl
@[go_sem] theorem T.size11 : HL.sizeT Tryz.prog 11 = some 1 := by kernel_rfl
@[go_sem] theorem T.bytes11 : HL.bytesT Tryz.prog 11 = some 16 := by kernel_rfl
@[go_sem] theorem T.zero11 : HL.zeroT Tryz.prog 11 = some (.string ⟨#[]⟩) := by kernel_rfl
@[go_sem] theorem T.agg12 : HL.aggN Tryz.prog 12 = some none := by kernel_rfl
@[go_sem] theorem T.size12 : HL.sizeT Tryz.prog 12 = some 1 := by kernel_rfl
@[go_sem] theorem T.bytes12 : HL.bytesT Tryz.prog 12 = some 8 := by kernel_rfl
@[go_sem] theorem T.zero12 : HL.zeroT Tryz.prog 12 = some (.int .u64 0) := by kernel_rfl
@[go_sem] theorem T.agg13 : HL.aggN Tryz.prog 13 = some (some 2) := by kernel_rfl
@[go_sem] theorem T.size13 : HL.sizeT Tryz.prog 13 = some 2 := by kernel_rfl
@[go_sem] theorem T.bytes13 : HL.bytesT Tryz.prog 13 = some 24 := by kernel_rfl
@[go_sem] theorem T.zero13 : HL.zeroT Tryz.prog 13 = some (.agg #[.string ⟨#[]⟩, .int .u64 0]) := by kernel_rfl
@[go_sem] theorem T.places13 : HL.placesT Tryz.prog 13 = some [(0, 1), (1, 1)] := by kernel_rfl
@[go_sem] theorem T.field13_0 : HL.fieldT Tryz.prog 13 0 = some (0, 9) := by kernel_rfl
@[go_sem] theorem T.fieldO13_0 : HL.fieldO Tryz.prog 13 0 = some 0 := by kernel_rfl
@[go_sem] theorem T.field13_1 : HL.fieldT Tryz.prog 13 1 = some (1, 12) := by kernel_rfl
@[go_sem] theorem T.fieldO13_1 : HL.fieldO Tryz.prog 13 1 = some 1 := by kernel_rfl
@[go_sem] theorem T.agg14 : HL.aggN Tryz.prog 14 = some (some 2) := by kernel_rfl
@[go_sem] theorem T.size14 : HL.sizeT Tryz.prog 14 = some 2 := by kernel_rfl
@[go_sem] theorem T.bytes14 : HL.bytesT Tryz.prog 14 = some 24 := by kernel_rfl
@[go_sem] theorem T.zero14 : HL.zeroT Tryz.prog 14 = some (.agg #[.string ⟨#[]⟩, .int .u64 0]) := by kernel_rfl
@[go_sem] theorem T.places14 : HL.placesT Tryz.prog 14 = some [(0, 1), (1, 1)] := by kernel_rfl
@[go_sem] theorem T.field14_0 : HL.fieldT Tryz.prog 14 0 = some (0, 9) := by kernel_rfl
@[go_sem] theorem T.fieldO14_0 : HL.fieldO Tryz.prog 14 0 = some 0 := by kernel_rfl
@[go_sem] theorem T.field14_1 : HL.fieldT Tryz.prog 14 1 = some (1, 12) := by kernel_rfl
@[go_sem] theorem T.fieldO14_1 : HL.fieldO Tryz.prog 14 1 = some 1 := by kernel_rfl
@[go_sem] theorem T.agg15 : HL.aggN Tryz.prog 15 = some none := by kernel_rfl
@[go_sem] theorem T.size15 : HL.sizeT Tryz.prog 15 = some 1 := by kernel_rfl
@[go_sem] theorem T.bytes15 : HL.bytesT Tryz.prog 15 = some 8 := by kernel_rfl
@[go_sem] theorem T.zero15 : HL.zeroT Tryz.prog 15 = some (.pointer none) := by kernel_rfl
@[go_sem] theorem T.agg16 : HL.aggN Tryz.prog 16 = some none := by kernel_rfl
@[go_sem] theorem T.size16 : HL.sizeT Tryz.prog 16 = some 1 := by kernel_rfl
@[go_sem] theorem T.bytes16 : HL.bytesT Tryz.prog 16 = some 8 := by kernel_rfl
@[go_sem] theorem T.zero16 : HL.zeroT Tryz.prog 16 = some (.pointer none) := by kernel_rfl
@[go_sem] theorem T.agg17 : HL.aggN Tryz.prog 17 = some none := by kernel_rfl
@[go_sem] theorem T.size17 : HL.sizeT Tryz.prog 17 = some 1 := by kernel_rfl
@[go_sem] theorem T.bytes17 : HL.bytesT Tryz.prog 17 = some 8 := by kernel_rfl
@[go_sem] theorem T.zero17 : HL.zeroT Tryz.prog 17 = some (.pointer none) := by kernel_rfl
@[go_sem] theorem T.agg18 : HL.aggN Tryz.prog 18 = some (some 1) := by kernel_rfl
@[go_sem] theorem T.size18 : HL.sizeT Tryz.prog 18 = some 1 := by kernel_rfl
@[go_sem] theorem T.bytes18 : HL.bytesT Tryz.prog 18 = some 8 := by kernel_rfl
@[go_sem] theorem T.zero18 : HL.zeroT Tryz.prog 18 = some (.agg #[.pointer none]) := by kernel_rfl
@[go_sem] theorem T.places18 : HL.placesT Tryz.prog 18 = some [(0, 1)] := by kernel_rfl
@[go_sem] theorem T.field18_0 : HL.fieldT Tryz.prog 18 0 = some (0, 17) := by kernel_rfl
@[go_sem] theorem T.fieldO18_0 : HL.fieldO Tryz.prog 18 0 = some 0 := by kernel_rfl
@[go_sem] theorem T.agg19 : HL.aggN Tryz.prog 19 = some (some 1) := by kernel_rfl
@[go_sem] theorem T.size19 : HL.sizeT Tryz.prog 19 = some 1 := by kernel_rfl
@[go_sem] theorem T.bytes19 : HL.bytesT Tryz.prog 19 = some 8 := by kernel_rfl
@[go_sem] theorem T.zero19 : HL.zeroT Tryz.prog 19 = some (.agg #[.pointer none]) := by kernel_rfl
@[go_sem] theorem T.places19 : HL.placesT Tryz.prog 19 = some [(0, 1)] := by kernel_rfl
@[go_sem] theorem T.field19_0 : HL.fieldT Tryz.prog 19 0 = some (0, 17) := by kernel_rfl
@[go_sem] theorem T.fieldO19_0 : HL.fieldO Tryz.prog 19 0 = some 0 := by kernel_rfl
@[go_sem] theorem T.agg20 : HL.aggN Tryz.prog 20 = some none := by kernel_rfl
@[go_sem] theorem T.size20 : HL.sizeT Tryz.prog 20 = some 1 := by kernel_rfl
@[go_sem] theorem T.bytes20 : HL.bytesT Tryz.prog 20 = some 16 := by kernel_rfl
@[go_sem] theorem T.zero20 : HL.zeroT Tryz.prog 20 = some (.nilIface) := by kernel_rfl
@[go_sem] theorem T.agg21 : HL.aggN Tryz.prog 21 = some none := by kernel_rfl
@[go_sem] theorem T.size21 : HL.sizeT Tryz.prog 21 = some 1 := by kernel_rfl
@[go_sem] theorem T.bytes21 : HL.bytesT Tryz.prog 21 = some 4 := by kernel_rfl
@[go_sem] theorem T.zero21 : HL.zeroT Tryz.prog 21 = some (.int .i32 0) := by kernel_rfl
@[go_sem] theorem T.agg22 : HL.aggN Tryz.prog 22 = some none := by kernel_rfl
@[go_sem] theorem T.size22 : HL.sizeT Tryz.prog 22 = some 1 := by kernel_rfl
@[go_sem] theorem T.bytes22 : HL.bytesT Tryz.prog 22 = some 24 := by kernel_rfl
@[go_sem] theorem T.zero22 : HL.zeroT Tryz.prog 22 = some (.slice none 0 0) := by kernel_rfl
@[go_sem] theorem T.elem22 : HL.elemT Tryz.prog 22 = some 45 := by kernel_rfl
@[go_sem] theorem T.elemS22 : HL.elemS Tryz.prog 22 = some 5 := by kernel_rfl
@[go_sem] theorem T.agg23 : HL.aggN Tryz.prog 23 = some none := by kernel_rfl
@[go_sem] theorem T.size23 : HL.sizeT Tryz.prog 23 = some 1 := by kernel_rfl
@[go_sem] theorem T.bytes23 : HL.bytesT Tryz.prog 23 = some 8 := by kernel_rfl
@[go_sem] theorem T.zero23 : HL.zeroT Tryz.prog 23 = some (.nilFunc) := by kernel_rfl
@[go_sem] theorem T.agg24 : HL.aggN Tryz.prog 24 = some none := by kernel_rfl
@[go_sem] theorem T.size24 : HL.sizeT Tryz.prog 24 = some 1 := by kernel_rfl
@[go_sem] theorem T.bytes24 : HL.bytesT Tryz.prog 24 = some 8 := by kernel_rfl
@[go_sem] theorem T.zero24 : HL.zeroT Tryz.prog 24 = some (.nilFunc) := by kernel_rfl
@[go_sem] theorem T.agg25 : HL.aggN Tryz.prog 25 = some none := by kernel_rfl
@[go_sem] theorem T.size25 : HL.sizeT Tryz.prog 25 = some 1 := by kernel_rfl
@[go_sem] theorem T.bytes25 : HL.bytesT Tryz.prog 25 = some 8 := by kernel_rfl
@[go_sem] theorem T.zero25 : HL.zeroT Tryz.prog 25 = some (.int .i64 0) := by kernel_rfl
@[go_sem] theorem T.agg26 : HL.aggN Tryz.prog 26 = some (some 2) := by kernel_rfl
@[go_sem] theorem T.size26 : HL.sizeT Tryz.prog 26 = some 2 := by kernel_rfl
@[go_sem] theorem T.bytes26 : HL.bytesT Tryz.prog 26 = some 16 := by kernel_rfl
@[go_sem] theorem T.zero26 : HL.zeroT Tryz.prog 26 = some (.agg #[.int .i64 0, .int .i64 0]) := by kernel_rfl
@[go_sem] theorem T.places26 : HL.placesT Tryz.prog 26 = some [(0, 1), (1, 1)] := by kernel_rfl
@[go_sem] theorem T.field26_0 : HL.fieldT Tryz.prog 26 0 = some (0, 25) := by kernel_rfl
@[go_sem] theorem T.fieldO26_0 : HL.fieldO Tryz.prog 26 0 = some 0 := by kernel_rfl
@[go_sem] theorem T.field26_1 : HL.fieldT Tryz.prog 26 1 = some (1, 3) := by kernel_rfl
@[go_sem] theorem T.fieldO26_1 : HL.fieldO Tryz.prog 26 1 = some 1 := by kernel_rfl
@[go_sem] theorem T.agg27 : HL.aggN Tryz.prog 27 = some (some 2) := by kernel_rfl
@[go_sem] theorem T.size27 : HL.sizeT Tryz.prog 27 = some 2 := by kernel_rfl
@[go_sem] theorem T.bytes27 : HL.bytesT Tryz.prog 27 = some 16 := by kernel_rfl
@[go_sem] theorem T.zero27 : HL.zeroT Tryz.prog 27 = some (.agg #[.int .i64 0, .int .i64 0]) := by kernel_rfl
@[go_sem] theorem T.places27 : HL.placesT Tryz.prog 27 = some [(0, 1), (1, 1)] := by kernel_rfl
@[go_sem] theorem T.field27_0 : HL.fieldT Tryz.prog 27 0 = some (0, 25) := by kernel_rfl
@[go_sem] theorem T.fieldO27_0 : HL.fieldO Tryz.prog 27 0 = some 0 := by kernel_rfl
@[go_sem] theorem T.field27_1 : HL.fieldT Tryz.prog 27 1 = some (1, 3) := by kernel_rfl
@[go_sem] theorem T.fieldO27_1 : HL.fieldO Tryz.prog 27 1 = some 1 := by kernel_rfl
@[go_sem] theorem T.agg28 : HL.aggN Tryz.prog 28 = some none := by kernel_rfl
@[go_sem] theorem T.size28 : HL.sizeT Tryz.prog 28 = some 1 := by kernel_rfl
@[go_sem] theorem T.bytes28 : HL.bytesT Tryz.prog 28 = some 8 := by kernel_rfl
@[go_sem] theorem T.zero28 : HL.zeroT Tryz.prog 28 = some (.nilFunc) := by kernel_rfl
@[go_sem] theorem T.agg29 : HL.aggN Tryz.prog 29 = some none := by kernel_rfl
@[go_sem] theorem T.size29 : HL.sizeT Tryz.prog 29 = some 1 := by kernel_rfl
@[go_sem] theorem T.bytes29 : HL.bytesT Tryz.prog 29 = some 24 := by kernel_rfl
@[go_sem] theorem T.zero29 : HL.zeroT Tryz.prog 29 = some (.slice none 0 0) := by kernel_rfl
@[go_sem] theorem T.elem29 : HL.elemT Tryz.prog 29 = some 66 := by kernel_rfl
@[go_sem] theorem T.elemS29 : HL.elemS Tryz.prog 29 = some 5 := by kernel_rfl
@[go_sem] theorem T.agg30 : HL.aggN Tryz.prog 30 = some none := by kernel_rfl
@[go_sem] theorem T.size30 : HL.sizeT Tryz.prog 30 = some 1 := by kernel_rfl
@[go_sem] theorem T.bytes30 : HL.bytesT Tryz.prog 30 = some 24 := by kernel_rfl
@[go_sem] theorem T.zero30 : HL.zeroT Tryz.prog 30 = some (.slice none 0 0) := by kernel_rfl
@[go_sem] theorem T.elem30 : HL.elemT Tryz.prog 30 = some 68 := by kernel_rfl
@[go_sem] theorem T.elemS30 : HL.elemS Tryz.prog 30 = some 3 := by kernel_rfl
@[go_sem] theorem T.agg31 : HL.aggN Tryz.prog 31 = some none := by kernel_rfl
@[go_sem] theorem T.size31 : HL.sizeT Tryz.prog 31 = some 1 := by kernel_rfl
@[go_sem] theorem T.bytes31 : HL.bytesT Tryz.prog 31 = some 24 := by kernel_rfl
@[go_sem] theorem T.zero31 : HL.zeroT Tryz.prog 31 = some (.slice none 0 0) := by kernel_rfl
@[go_sem] theorem T.elem31 : HL.elemT Tryz.prog 31 = some 56 := by kernel_rfl
@[go_sem] theorem T.elemS31 : HL.elemS Tryz.prog 31 = some 8 := by kernel_rfl
@[go_sem] theorem T.agg32 : HL.aggN Tryz.prog 32 = some none := by kernel_rfl
@[go_sem] theorem T.size32 : HL.sizeT Tryz.prog 32 = some 1 := by kernel_rfl
@[go_sem] theorem T.bytes32 : HL.bytesT Tryz.prog 32 = some 24 := by kernel_rfl
@[go_sem] theorem T.zero32 : HL.zeroT Tryz.prog 32 = some (.slice none 0 0) := by kernel_rfl
@[go_sem] theorem T.elem32 : HL.elemT Tryz.prog 32 = some 3 := by kernel_rfl
@[go_sem] theorem T.elemS32 : HL.elemS Tryz.prog 32 = some 1 := by kernel_rfl
@[go_sem] theorem T.agg33 : HL.aggN Tryz.prog 33 = some (some 7) := by kernel_rfl
@[go_sem] theorem T.size33 : HL.sizeT Tryz.prog 33 = some 7 := by kernel_rfl
@[go_sem] theorem T.bytes33 : HL.bytesT Tryz.prog 33 = some 136 := by kernel_rfl
@[go_sem] theorem T.zero33 : HL.zeroT Tryz.prog 33 = some (.agg #[.slice none 0 0, .int .i64 0, .slice none 0 0, .slice none 0 0, .slice none 0 0, .slice none 0 0, .bool false]) := by kernel_rfl
@[go_sem] theorem T.places33 : HL.placesT Tryz.prog 33 = some [(0, 1), (1, 1), (2, 1), (3, 1), (4, 1), (5, 1), (6, 1)] := by kernel_rfl
@[go_sem] theorem T.field33_0 : HL.fieldT Tryz.prog 33 0 = some (0, 22) := by kernel_rfl
@[go_sem] theorem T.fieldO33_0 : HL.fieldO Tryz.prog 33 0 = some 0 := by kernel_rfl
@[go_sem] theorem T.field33_1 : HL.fieldT Tryz.prog 33 1 = some (1, 3) := by kernel_rfl
@[go_sem] theorem T.fieldO33_1 : HL.fieldO Tryz.prog 33 1 = some 1 := by kernel_rfl
@[go_sem] theorem T.field33_2 : HL.fieldT Tryz.prog 33 2 = some (2, 29) := by kernel_rfl
@[go_sem] theorem T.fieldO33_2 : HL.fieldO Tryz.prog 33 2 = some 2 := by kernel_rfl
@[go_sem] theorem T.field33_3 : HL.fieldT Tryz.prog 33 3 = some (3, 30) := by kernel_rfl
@[go_sem] theorem T.fieldO33_3 : HL.fieldO Tryz.prog 33 3 = some 3 := by kernel_rfl
@[go_sem] theorem T.field33_4 : HL.fieldT Tryz.prog 33 4 = some (4, 31) := by kernel_rfl
@[go_sem] theorem T.fieldO33_4 : HL.fieldO Tryz.prog 33 4 = some 4 := by kernel_rfl
@[go_sem] theorem T.field33_5 : HL.fieldT Tryz.prog 33 5 = some (5, 32) := by kernel_rfl
@[go_sem] theorem T.fieldO33_5 : HL.fieldO Tryz.prog 33 5 = some 5 := by kernel_rfl
@[go_sem] theorem T.field33_6 : HL.fieldT Tryz.prog 33 6 = some (6, 4) := by kernel_rfl
@[go_sem] theorem T.fieldO33_6 : HL.fieldO Tryz.prog 33 6 = some 6 := by kernel_rfl
@[go_sem] theorem T.agg34 : HL.aggN Tryz.prog 34 = some (some 7) := by kernel_rfl
@[go_sem] theorem T.size34 : HL.sizeT Tryz.prog 34 = some 7 := by kernel_rfl
@[go_sem] theorem T.bytes34 : HL.bytesT Tryz.prog 34 = some 136 := by kernel_rfl
@[go_sem] theorem T.zero34 : HL.zeroT Tryz.prog 34 = some (.agg #[.slice none 0 0, .int .i64 0, .slice none 0 0, .slice none 0 0, .slice none 0 0, .slice none 0 0, .bool false]) := by kernel_rfl
@[go_sem] theorem T.places34 : HL.placesT Tryz.prog 34 = some [(0, 1), (1, 1), (2, 1), (3, 1), (4, 1), (5, 1), (6, 1)] := by kernel_rfl
@[go_sem] theorem T.field34_0 : HL.fieldT Tryz.prog 34 0 = some (0, 22) := by kernel_rfl
@[go_sem] theorem T.fieldO34_0 : HL.fieldO Tryz.prog 34 0 = some 0 := by kernel_rfl
@[go_sem] theorem T.field34_1 : HL.fieldT Tryz.prog 34 1 = some (1, 3) := by kernel_rfl
@[go_sem] theorem T.fieldO34_1 : HL.fieldO Tryz.prog 34 1 = some 1 := by kernel_rfl
@[go_sem] theorem T.field34_2 : HL.fieldT Tryz.prog 34 2 = some (2, 29) := by kernel_rfl
@[go_sem] theorem T.fieldO34_2 : HL.fieldO Tryz.prog 34 2 = some 2 := by kernel_rfl
@[go_sem] theorem T.field34_3 : HL.fieldT Tryz.prog 34 3 = some (3, 30) := by kernel_rfl
@[go_sem] theorem T.fieldO34_3 : HL.fieldO Tryz.prog 34 3 = some 3 := by kernel_rfl
@[go_sem] theorem T.field34_4 : HL.fieldT Tryz.prog 34 4 = some (4, 31) := by kernel_rfl
@[go_sem] theorem T.fieldO34_4 : HL.fieldO Tryz.prog 34 4 = some 4 := by kernel_rfl
@[go_sem] theorem T.field34_5 : HL.fieldT Tryz.prog 34 5 = some (5, 32) := by kernel_rfl
@[go_sem] theorem T.fieldO34_5 : HL.fieldO Tryz.prog 34 5 = some 5 := by kernel_rfl
@[go_sem] theorem T.field34_6 : HL.fieldT Tryz.prog 34 6 = some (6, 4) := by kernel_rfl
@[go_sem] theorem T.fieldO34_6 : HL.fieldO Tryz.prog 34 6 = some 6 := by kernel_rfl
@[go_sem] theorem T.agg36 : HL.aggN Tryz.prog 36 = some none := by kernel_rfl
@[go_sem] theorem T.size36 : HL.sizeT Tryz.prog 36 = some 1 := by kernel_rfl
@[go_sem] theorem T.bytes36 : HL.bytesT Tryz.prog 36 = some 8 := by kernel_rfl
@[go_sem] theorem T.zero36 : HL.zeroT Tryz.prog 36 = some (.nilFunc) := by kernel_rfl
@[go_sem] theorem T.agg37 : HL.aggN Tryz.prog 37 = some none := by kernel_rfl
@[go_sem] theorem T.size37 : HL.sizeT Tryz.prog 37 = some 1 := by kernel_rfl
@[go_sem] theorem T.bytes37 : HL.bytesT Tryz.prog 37 = some 8 := by kernel_rfl
@[go_sem] theorem T.zero37 : HL.zeroT Tryz.prog 37 = some (.nilFunc) := by kernel_rfl
@[go_sem] theorem T.agg39 : HL.aggN Tryz.prog 39 = some none := by kernel_rfl
@[go_sem] theorem T.size39 : HL.sizeT Tryz.prog 39 = some 1 := by kernel_rfl
@[go_sem] theorem T.bytes39 : HL.bytesT Tryz.prog 39 = some 8 := by kernel_rfl
@[go_sem] theorem T.zero39 : HL.zeroT Tryz.prog 39 = some (.nilFunc) := by kernel_rfl
@[go_sem] theorem T.agg40 : HL.aggN Tryz.prog 40 = some none := by kernel_rfl
@[go_sem] theorem T.size40 : HL.sizeT Tryz.prog 40 = some 1 := by kernel_rfl
@[go_sem] theorem T.bytes40 : HL.bytesT Tryz.prog 40 = some 16 := by kernel_rfl
@[go_sem] theorem T.zero40 : HL.zeroT Tryz.prog 40 = some (.nilIface) := by kernel_rfl
@[go_sem] theorem T.agg41 : HL.aggN Tryz.prog 41 = some none := by kernel_rfl
@[go_sem] theorem T.size41 : HL.sizeT Tryz.prog 41 = some 1 := by kernel_rfl
@[go_sem] theorem T.bytes41 : HL.bytesT Tryz.prog 41 = some 16 := by kernel_rfl
@[go_sem] theorem T.zero41 : HL.zeroT Tryz.prog 41 = some (.nilIface) := by kernel_rfl
@[go_sem] theorem T.agg42 : HL.aggN Tryz.prog 42 = some none := by kernel_rfl
@[go_sem] theorem T.size42 : HL.sizeT Tryz.prog 42 = some 1 := by kernel_rfl
@[go_sem] theorem T.bytes42 : HL.bytesT Tryz.prog 42 = some 8 := by kernel_rfl
@[go_sem] theorem T.zero42 : HL.zeroT Tryz.prog 42 = some (.nilFunc) := by kernel_rfl
@[go_sem] theorem T.agg43 : HL.aggN Tryz.prog 43 = some none := by kernel_rfl
@[go_sem] theorem T.size43 : HL.sizeT Tryz.prog 43 = some 1 := by kernel_rfl
@[go_sem] theorem T.bytes43 : HL.bytesT Tryz.prog 43 = some 24 := by kernel_rfl
@[go_sem] theorem T.zero43 : HL.zeroT Tryz.prog 43 = some (.slice none 0 0) := by kernel_rfl
@[go_sem] theorem T.elem43 : HL.elemT Tryz.prog 43 = some 9 := by kernel_rfl
@[go_sem] theorem T.elemS43 : HL.elemS Tryz.prog 43 = some 1 := by kernel_rfl
@[go_sem] theorem T.agg44 : HL.aggN Tryz.prog 44 = some (some 5) := by kernel_rfl
@[go_sem] theorem T.size44 : HL.sizeT Tryz.prog 44 = some 5 := by kernel_rfl
@[go_sem] theorem T.bytes44 : HL.bytesT Tryz.prog 44 = some 88 := by kernel_rfl
@[go_sem] theorem T.zero44 : HL.zeroT Tryz.prog 44 = some (.agg #[.int .i64 0, .slice none 0 0, .slice none 0 0, .slice none 0 0, .int .i64 0]) := by kernel_rfl
@[go_sem] theorem T.places44 : HL.placesT Tryz.prog 44 = some [(0, 1), (1, 1), (2, 1), (3, 1), (4, 1)] := by kernel_rfl
@[go_sem] theorem T.field44_0 : HL.fieldT Tryz.prog 44 0 = some (0, 3) := by kernel_rfl
@[go_sem] theorem T.fieldO44_0 : HL.fieldO Tryz.prog 44 0 = some 0 := by kernel_rfl
@[go_sem] theorem T.field44_1 : HL.fieldT Tryz.prog 44 1 = some (1, 43) := by kernel_rfl
@[go_sem] theorem T.fieldO44_1 : HL.fieldO Tryz.prog 44 1 = some 1 := by kernel_rfl
@[go_sem] theorem T.field44_2 : HL.fieldT Tryz.prog 44 2 = some (2, 32) := by kernel_rfl
@[go_sem] theorem T.fieldO44_2 : HL.fieldO Tryz.prog 44 2 = some 2 := by kernel_rfl
@[go_sem] theorem T.field44_3 : HL.fieldT Tryz.prog 44 3 = some (3, 32) := by kernel_rfl
@[go_sem] theorem T.fieldO44_3 : HL.fieldO Tryz.prog 44 3 = some 3 := by kernel_rfl
@[go_sem] theorem T.field44_4 : HL.fieldT Tryz.prog 44 4 = some (4, 3) := by kernel_rfl
@[go_sem] theorem T.fieldO44_4 : HL.fieldO Tryz.prog 44 4 = some 4 := by kernel_rfl
@[go_sem] theorem T.agg45 : HL.aggN Tryz.prog 45 = some (some 5) := by kernel_rfl
@[go_sem] theorem T.size45 : HL.sizeT Tryz.prog 45 = some 5 := by kernel_rfl
@[go_sem] theorem T.bytes45 : HL.bytesT Tryz.prog 45 = some 88 := by kernel_rfl
@[go_sem] theorem T.zero45 : HL.zeroT Tryz.prog 45 = some (.agg #[.int .i64 0, .slice none 0 0, .slice none 0 0, .slice none 0 0, .int .i64 0]) := by kernel_rfl
@[go_sem] theorem T.places45 : HL.placesT Tryz.prog 45 = some [(0, 1), (1, 1), (2, 1), (3, 1), (4, 1)] := by kernel_rfl
@[go_sem] theorem T.field45_0 : HL.fieldT Tryz.prog 45 0 = some (0, 3) := by kernel_rfl
@[go_sem] theorem T.fieldO45_0 : HL.fieldO Tryz.prog 45 0 = some 0 := by kernel_rfl
@[go_sem] theorem T.field45_1 : HL.fieldT Tryz.prog 45 1 = some (1, 43) := by kernel_rfl
@[go_sem] theorem T.fieldO45_1 : HL.fieldO Tryz.prog 45 1 = some 1 := by kernel_rfl
@[go_sem] theorem T.field45_2 : HL.fieldT Tryz.prog 45 2 = some (2, 32) := by kernel_rfl
@[go_sem] theorem T.fieldO45_2 : HL.fieldO Tryz.prog 45 2 = some 2 := by kernel_rfl
@[go_sem] theorem T.field45_3 : HL.fieldT Tryz.prog 45 3 = some (3, 32) := by kernel_rfl
@[go_sem] theorem T.fieldO45_3 : HL.fieldO Tryz.prog 45 3 = some 3 := by kernel_rfl
@[go_sem] theorem T.field45_4 : HL.fieldT Tryz.prog 45 4 = some (4, 3) := by kernel_rfl
@[go_sem] theorem T.fieldO45_4 : HL.fieldO Tryz.prog 45 4 = some 4 := by kernel_rfl
@[go_sem] theorem T.agg46 : HL.aggN Tryz.prog 46 = some (some 4) := by kernel_rfl
@[go_sem] theorem T.size46 : HL.sizeT Tryz.prog 46 = some 4 := by kernel_rfl
@[go_sem] theorem T.bytes46 : HL.bytesT Tryz.prog 46 = some 48 := by kernel_rfl
@[go_sem] theorem T.zero46 : HL.zeroT Tryz.prog 46 = some (.agg #[.slice none 0 0, .int .i64 0, .int .i64 0, .int .i64 0]) := by kernel_rfl
@[go_sem] theorem T.places46 : HL.placesT Tryz.prog 46 = some [(0, 1), (1, 1), (2, 1), (3, 1)] := by kernel_rfl
@[go_sem] theorem T.field46_0 : HL.fieldT Tryz.prog 46 0 = some (0, 22) := by kernel_rfl
@[go_sem] theorem T.fieldO46_0 : HL.fieldO Tryz.prog 46 0 = some 0 := by kernel_rfl
@[go_sem] theorem T.field46_1 : HL.fieldT Tryz.prog 46 1 = some (1, 3) := by kernel_rfl
@[go_sem] theorem T.fieldO46_1 : HL.fieldO Tryz.prog 46 1 = some 1 := by kernel_rfl
@[go_sem] theorem T.field46_2 : HL.fieldT Tryz.prog 46 2 = some (2, 3) := by kernel_rfl
@[go_sem] theorem T.fieldO46_2 : HL.fieldO Tryz.prog 46 2 = some 2 := by kernel_rfl
@[go_sem] theorem T.field46_3 : HL.fieldT Tryz.prog 46 3 = some (3, 3) := by kernel_rfl
@[go_sem] theorem T.fieldO46_3 : HL.fieldO Tryz.prog 46 3 = some 3 := by kernel_rfl
@[go_sem] theorem T.agg47 : HL.aggN Tryz.prog 47 = some (some 4) := by kernel_rfl
@[go_sem] theorem T.size47 : HL.sizeT Tryz.prog 47 = some 4 := by kernel_rfl
@[go_sem] theorem T.bytes47 : HL.bytesT Tryz.prog 47 = some 48 := by kernel_rfl
@[go_sem] theorem T.zero47 : HL.zeroT Tryz.prog 47 = some (.agg #[.slice none 0 0, .int .i64 0, .int .i64 0, .int .i64 0]) := by kernel_rfl
@[go_sem] theorem T.places47 : HL.placesT Tryz.prog 47 = some [(0, 1), (1, 1), (2, 1), (3, 1)] := by kernel_rfl
@[go_sem] theorem T.field47_0 : HL.fieldT Tryz.prog 47 0 = some (0, 22) := by kernel_rfl
@[go_sem] theorem T.fieldO47_0 : HL.fieldO Tryz.prog 47 0 = some 0 := by kernel_rfl
@[go_sem] theorem T.field47_1 : HL.fieldT Tryz.prog 47 1 = some (1, 3) := by kernel_rfl
@[go_sem] theorem T.fieldO47_1 : HL.fieldO Tryz.prog 47 1 = some 1 := by kernel_rfl
@[go_sem] theorem T.field47_2 : HL.fieldT Tryz.prog 47 2 = some (2, 3) := by kernel_rfl
@[go_sem] theorem T.fieldO47_2 : HL.fieldO Tryz.prog 47 2 = some 2 := by kernel_rfl
@[go_sem] theorem T.field47_3 : HL.fieldT Tryz.prog 47 3 = some (3, 3) := by kernel_rfl
@[go_sem] theorem T.fieldO47_3 : HL.fieldO Tryz.prog 47 3 = some 3 := by kernel_rfl
@[go_sem] theorem T.agg48 : HL.aggN Tryz.prog 48 = some none := by kernel_rfl
@[go_sem] theorem T.size48 : HL.sizeT Tryz.prog 48 = some 1 := by kernel_rfl
@[go_sem] theorem T.bytes48 : HL.bytesT Tryz.prog 48 = some 8 := by kernel_rfl
@[go_sem] theorem T.zero48 : HL.zeroT Tryz.prog 48 = some (.nilFunc) := by kernel_rfl
@[go_sem] theorem T.agg50 : HL.aggN Tryz.prog 50 = some none := by kernel_rfl
@[go_sem] theorem T.size50 : HL.sizeT Tryz.prog 50 = some 1 := by kernel_rfl
@[go_sem] theorem T.bytes50 : HL.bytesT Tryz.prog 50 = some 8 := by kernel_rfl
@[go_sem] theorem T.zero50 : HL.zeroT Tryz.prog 50 = some (.nilFunc) := by kernel_rfl
@[go_sem] theorem T.agg51 : HL.aggN Tryz.prog 51 = some none := by kernel_rfl
@[go_sem] theorem T.size51 : HL.sizeT Tryz.prog 51 = some 1 := by kernel_rfl
@[go_sem] theorem T.bytes51 : HL.bytesT Tryz.prog 51 = some 8 := by kernel_rfl
@[go_sem] theorem T.zero51 : HL.zeroT Tryz.prog 51 = some (.nilFunc) := by kernel_rfl
@[go_sem] theorem T.agg52 : HL.aggN Tryz.prog 52 = some none := by kernel_rfl
@[go_sem] theorem T.size52 : HL.sizeT Tryz.prog 52 = some 1 := by kernel_rfl
@[go_sem] theorem T.bytes52 : HL.bytesT Tryz.prog 52 = some 8 := by kernel_rfl
@[go_sem] theorem T.zero52 : HL.zeroT Tryz.prog 52 = some (.nilFunc) := by kernel_rfl
@[go_sem] theorem T.agg53 : HL.aggN Tryz.prog 53 = some none := by kernel_rfl
@[go_sem] theorem T.size53 : HL.sizeT Tryz.prog 53 = some 1 := by kernel_rfl
@[go_sem] theorem T.bytes53 : HL.bytesT Tryz.prog 53 = some 24 := by kernel_rfl
@[go_sem] theorem T.zero53 : HL.zeroT Tryz.prog 53 = some (.slice none 0 0) := by kernel_rfl
@[go_sem] theorem T.elem53 : HL.elemT Tryz.prog 53 = some 4 := by kernel_rfl
@[go_sem] theorem T.elemS53 : HL.elemS Tryz.prog 53 = some 1 := by kernel_rfl
@[go_sem] theorem T.agg54 : HL.aggN Tryz.prog 54 = some none := by kernel_rfl
@[go_sem] theorem T.size54 : HL.sizeT Tryz.prog 54 = some 1 := by kernel_rfl
@[go_sem] theorem T.bytes54 : HL.bytesT Tryz.prog 54 = some 24 := by kernel_rfl
@[go_sem] theorem T.zero54 : HL.zeroT Tryz.prog 54 = some (.slice none 0 0) := by kernel_rfl
@[go_sem] theorem T.elem54 : HL.elemT Tryz.prog 54 = some 58 := by kernel_rfl
@[go_sem] theorem T.elemS54 : HL.elemS Tryz.prog 54 = some 8 := by kernel_rfl
@[go_sem] theorem T.agg55 : HL.aggN Tryz.prog 55 = some (some 8) := by kernel_rfl
@[go_sem] theorem T.size55 : HL.sizeT Tryz.prog 55 = some 8 := by kernel_rfl
@[go_sem] theorem T.bytes55 : HL.bytesT Tryz.prog 55 = some 152 := by kernel_rfl
@[go_sem] theorem T.zero55 : HL.zeroT Tryz.prog 55 = some (.agg #[.string ⟨#[]⟩, .int .i64 0, .slice none 0 0, .int .i64 0, .slice none 0 0, .slice none 0 0, .slice none 0 0, .slice none 0 0]) := by kernel_rfl
@[go_sem] theorem T.places55 : HL.placesT Tryz.prog 55 = some [(0, 1), (1, 1), (2, 1), (3, 1), (4, 1), (5, 1), (6, 1), (7, 1)] := by kernel_rfl
@[go_sem] theorem T.field55_0 : HL.fieldT Tryz.prog 55 0 = some (0, 9) := by kernel_rfl
@[go_sem] theorem T.fieldO55_0 : HL.fieldO Tryz.prog 55 0 = some 0 := by kernel_rfl
@[go_sem] theorem T.field55_1 : HL.fieldT Tryz.prog 55 1 = some (1, 3) := by kernel_rfl
@[go_sem] theorem T.fieldO55_1 : HL.fieldO Tryz.prog 55 1 = some 1 := by kernel_rfl
@[go_sem] theorem T.field55_2 : HL.fieldT Tryz.prog 55 2 = some (2, 32) := by kernel_rfl
@[go_sem] theorem T.fieldO55_2 : HL.fieldO Tryz.prog 55 2 = some 2 := by kernel_rfl
@[go_sem] theorem T.field55_3 : HL.fieldT Tryz.prog 55 3 = some (3, 3) := by kernel_rfl
@[go_sem] theorem T.fieldO55_3 : HL.fieldO Tryz.prog 55 3 = some 3 := by kernel_rfl
@[go_sem] theorem T.field55_4 : HL.fieldT Tryz.prog 55 4 = some (4, 53) := by kernel_rfl
@[go_sem] theorem T.fieldO55_4 : HL.fieldO Tryz.prog 55 4 = some 4 := by kernel_rfl
@[go_sem] theorem T.field55_5 : HL.fieldT Tryz.prog 55 5 = some (5, 54) := by kernel_rfl
@[go_sem] theorem T.fieldO55_5 : HL.fieldO Tryz.prog 55 5 = some 5 := by kernel_rfl
@[go_sem] theorem T.field55_6 : HL.fieldT Tryz.prog 55 6 = some (6, 43) := by kernel_rfl
@[go_sem] theorem T.fieldO55_6 : HL.fieldO Tryz.prog 55 6 = some 6 := by kernel_rfl
@[go_sem] theorem T.field55_7 : HL.fieldT Tryz.prog 55 7 = some (7, 32) := by kernel_rfl
@[go_sem] theorem T.fieldO55_7 : HL.fieldO Tryz.prog 55 7 = some 7 := by kernel_rfl
@[go_sem] theorem T.agg56 : HL.aggN Tryz.prog 56 = some (some 8) := by kernel_rfl
@[go_sem] theorem T.size56 : HL.sizeT Tryz.prog 56 = some 8 := by kernel_rfl
@[go_sem] theorem T.bytes56 : HL.bytesT Tryz.prog 56 = some 152 := by kernel_rfl
@[go_sem] theorem T.zero56 : HL.zeroT Tryz.prog 56 = some (.agg #[.string ⟨#[]⟩, .int .i64 0, .slice none 0 0, .int .i64 0, .slice none 0 0, .slice none 0 0, .slice none 0 0, .slice none 0 0]) := by kernel_rfl
@[go_sem] theorem T.places56 : HL.placesT Tryz.prog 56 = some [(0, 1), (1, 1), (2, 1), (3, 1), (4, 1), (5, 1), (6, 1), (7, 1)] := by kernel_rfl
@[go_sem] theorem T.field56_0 : HL.fieldT Tryz.prog 56 0 = some (0, 9) := by kernel_rfl
@[go_sem] theorem T.fieldO56_0 : HL.fieldO Tryz.prog 56 0 = some 0 := by kernel_rfl
@[go_sem] theorem T.field56_1 : HL.fieldT Tryz.prog 56 1 = some (1, 3) := by kernel_rfl
@[go_sem] theorem T.fieldO56_1 : HL.fieldO Tryz.prog 56 1 = some 1 := by kernel_rfl
@[go_sem] theorem T.field56_2 : HL.fieldT Tryz.prog 56 2 = some (2, 32) := by kernel_rfl
@[go_sem] theorem T.fieldO56_2 : HL.fieldO Tryz.prog 56 2 = some 2 := by kernel_rfl
@[go_sem] theorem T.field56_3 : HL.fieldT Tryz.prog 56 3 = some (3, 3) := by kernel_rfl
@[go_sem] theorem T.fieldO56_3 : HL.fieldO Tryz.prog 56 3 = some 3 := by kernel_rfl
@[go_sem] theorem T.field56_4 : HL.fieldT Tryz.prog 56 4 = some (4, 53) := by kernel_rfl
@[go_sem] theorem T.fieldO56_4 : HL.fieldO Tryz.prog 56 4 = some 4 := by kernel_rfl
@[go_sem] theorem T.field56_5 : HL.fieldT Tryz.prog 56 5 = some (5, 54) := by kernel_rfl
@[go_sem] theorem T.fieldO56_5 : HL.fieldO Tryz.prog 56 5 = some 5 := by kernel_rfl
@[go_sem] theorem T.field56_6 : HL.fieldT Tryz.prog 56 6 = some (6, 43) := by kernel_rfl
@[go_sem] theorem T.fieldO56_6 : HL.fieldO Tryz.prog 56 6 = some 6 := by kernel_rfl
@[go_sem] theorem T.field56_7 : HL.fieldT Tryz.prog 56 7 = some (7, 32) := by kernel_rfl
@[go_sem] theorem T.fieldO56_7 : HL.fieldO Tryz.prog 56 7 = some 7 := by kernel_rfl
@[go_sem] theorem T.agg57 : HL.aggN Tryz.prog 57 = some (some 8) := by kernel_rfl
@[go_sem] theorem T.size57 : HL.sizeT Tryz.prog 57 = some 8 := by kernel_rfl
@[go_sem] theorem T.bytes57 : HL.bytesT Tryz.prog 57 = some 64 := by kernel_rfl
@[go_sem] theorem T.zero57 : HL.zeroT Tryz.prog 57 = some (.agg #[.int .i64 0, .int .i64 0, .int .i64 0, .int .i64 0, .int .i64 0, .int .i64 0, .bool false, .int .i64 0]) := by kernel_rfl
@[go_sem] theorem T.places57 : HL.placesT Tryz.prog 57 = some [(0, 1), (1, 1), (2, 1), (3, 1), (4, 1), (5, 1), (6, 1), (7, 1)] := by kernel_rfl
@[go_sem] theorem T.field57_0 : HL.fieldT Tryz.prog 57 0 = some (0, 3) := by kernel_rfl
@[go_sem] theorem T.fieldO57_0 : HL.fieldO Tryz.prog 57 0 = some 0 := by kernel_rfl
@[go_sem] theorem T.field57_1 : HL.fieldT Tryz.prog 57 1 = some (1, 3) := by kernel_rfl
@[go_sem] theorem T.fieldO57_1 : HL.fieldO Tryz.prog 57 1 = some 1 := by kernel_rfl
@[go_sem] theorem T.field57_2 : HL.fieldT Tryz.prog 57 2 = some (2, 3) := by kernel_rfl
@[go_sem] theorem T.fieldO57_2 : HL.fieldO Tryz.prog 57 2 = some 2 := by kernel_rfl
@[go_sem] theorem T.field57_3 : HL.fieldT Tryz.prog 57 3 = some (3, 3) := by kernel_rfl
@[go_sem] theorem T.fieldO57_3 : HL.fieldO Tryz.prog 57 3 = some 3 := by kernel_rfl
@[go_sem] theorem T.field57_4 : HL.fieldT Tryz.prog 57 4 = some (4, 3) := by kernel_rfl
@[go_sem] theorem T.fieldO57_4 : HL.fieldO Tryz.prog 57 4 = some 4 := by kernel_rfl
@[go_sem] theorem T.field57_5 : HL.fieldT Tryz.prog 57 5 = some (5, 3) := by kernel_rfl
@[go_sem] theorem T.fieldO57_5 : HL.fieldO Tryz.prog 57 5 = some 5 := by kernel_rfl
@[go_sem] theorem T.field57_6 : HL.fieldT Tryz.prog 57 6 = some (6, 4) := by kernel_rfl
@[go_sem] theorem T.fieldO57_6 : HL.fieldO Tryz.prog 57 6 = some 6 := by kernel_rfl
@[go_sem] theorem T.field57_7 : HL.fieldT Tryz.prog 57 7 = some (7, 3) := by kernel_rfl
@[go_sem] theorem T.fieldO57_7 : HL.fieldO Tryz.prog 57 7 = some 7 := by kernel_rfl
@[go_sem] theorem T.agg58 : HL.aggN Tryz.prog 58 = some (some 8) := by kernel_rfl
@[go_sem] theorem T.size58 : HL.sizeT Tryz.prog 58 = some 8 := by kernel_rfl
@[go_sem] theorem T.bytes58 : HL.bytesT Tryz.prog 58 = some 64 := by kernel_rfl
@[go_sem] theorem T.zero58 : HL.zeroT Tryz.prog 58 = some (.agg #[.int .i64 0, .int .i64 0, .int .i64 0, .int .i64 0, .int .i64 0, .int .i64 0, .bool false, .int .i64 0]) := by kernel_rfl
@[go_sem] theorem T.places58 : HL.placesT Tryz.prog 58 = some [(0, 1), (1, 1), (2, 1), (3, 1), (4, 1), (5, 1), (6, 1), (7, 1)] := by kernel_rfl
@[go_sem] theorem T.field58_0 : HL.fieldT Tryz.prog 58 0 = some (0, 3) := by kernel_rfl
@[go_sem] theorem T.fieldO58_0 : HL.fieldO Tryz.prog 58 0 = some 0 := by kernel_rfl
@[go_sem] theorem T.field58_1 : HL.fieldT Tryz.prog 58 1 = some (1, 3) := by kernel_rfl
@[go_sem] theorem T.fieldO58_1 : HL.fieldO Tryz.prog 58 1 = some 1 := by kernel_rfl
@[go_sem] theorem T.field58_2 : HL.fieldT Tryz.prog 58 2 = some (2, 3) := by kernel_rfl
@[go_sem] theorem T.fieldO58_2 : HL.fieldO Tryz.prog 58 2 = some 2 := by kernel_rfl
@[go_sem] theorem T.field58_3 : HL.fieldT Tryz.prog 58 3 = some (3, 3) := by kernel_rfl
@[go_sem] theorem T.fieldO58_3 : HL.fieldO Tryz.prog 58 3 = some 3 := by kernel_rfl
@[go_sem] theorem T.field58_4 : HL.fieldT Tryz.prog 58 4 = some (4, 3) := by kernel_rfl
@[go_sem] theorem T.fieldO58_4 : HL.fieldO Tryz.prog 58 4 = some 4 := by kernel_rfl
@[go_sem] theorem T.field58_5 : HL.fieldT Tryz.prog 58 5 = some (5, 3) := by kernel_rfl
@[go_sem] theorem T.fieldO58_5 : HL.fieldO Tryz.prog 58 5 = some 5 := by kernel_rfl
@[go_sem] theorem T.field58_6 : HL.fieldT Tryz.prog 58 6 = some (6, 4) := by kernel_rfl
@[go_sem] theorem T.fieldO58_6 : HL.fieldO Tryz.prog 58 6 = some 6 := by kernel_rfl
@[go_sem] theorem T.field58_7 : HL.fieldT Tryz.prog 58 7 = some (7, 3) := by kernel_rfl
@[go_sem] theorem T.fieldO58_7 : HL.fieldO Tryz.prog 58 7 = some 7 := by kernel_rfl
@[go_sem] theorem T.agg59 : HL.aggN Tryz.prog 59 = some none := by kernel_rfl
@[go_sem] theorem T.size59 : HL.sizeT Tryz.prog 59 = some 1 := by kernel_rfl
@[go_sem] theorem T.bytes59 : HL.bytesT Tryz.prog 59 = some 8 := by kernel_rfl
@[go_sem] theorem T.zero59 : HL.zeroT Tryz.prog 59 = some (.nilFunc) := by kernel_rfl
@[go_sem] theorem T.agg60 : HL.aggN Tryz.prog 60 = some (some 7) := by kernel_rfl
@[go_sem] theorem T.size60 : HL.sizeT Tryz.prog 60 = some 7 := by kernel_rfl
@[go_sem] theorem T.bytes60 : HL.bytesT Tryz.prog 60 = some 136 := by kernel_rfl
@[go_sem] theorem T.zero60 : HL.zeroT Tryz.prog 60 = some (.agg #[.slice none 0 0, .int .i64 0, .slice none 0 0, .slice none 0 0, .slice none 0 0, .slice none 0 0, .bool false]) := by kernel_rfl
@[go_sem] theorem T.places60 : HL.placesT Tryz.prog 60 = some [(0, 7)] := by kernel_rfl
@[go_sem] theorem T.field60_0 : HL.fieldT Tryz.prog 60 0 = some (0, 34) := by kernel_rfl
@[go_sem] theorem T.fieldO60_0 : HL.fieldO Tryz.prog 60 0 = some 0 := by kernel_rfl
@[go_sem] theorem T.agg61 : HL.aggN Tryz.prog 61 = some (some 7) := by kernel_rfl
@[go_sem] theorem T.size61 : HL.sizeT Tryz.prog 61 = some 7 := by kernel_rfl
@[go_sem] theorem T.bytes61 : HL.bytesT Tryz.prog 61 = some 136 := by kernel_rfl
@[go_sem] theorem T.zero61 : HL.zeroT Tryz.prog 61 = some (.agg #[.slice none 0 0, .int .i64 0, .slice none 0 0, .slice none 0 0, .slice none 0 0, .slice none 0 0, .bool false]) := by kernel_rfl
@[go_sem] theorem T.places61 : HL.placesT Tryz.prog 61 = some [(0, 7)] := by kernel_rfl
@[go_sem] theorem T.field61_0 : HL.fieldT Tryz.prog 61 0 = some (0, 34) := by kernel_rfl
@[go_sem] theorem T.fieldO61_0 : HL.fieldO Tryz.prog 61 0 = some 0 := by kernel_rfl
@[go_sem] theorem T.agg62 : HL.aggN Tryz.prog 62 = some none := by kernel_rfl
@[go_sem] theorem T.size62 : HL.sizeT Tryz.prog 62 = some 1 := by kernel_rfl
@[go_sem] theorem T.bytes62 : HL.bytesT Tryz.prog 62 = some 8 := by kernel_rfl
@[go_sem] theorem T.zero62 : HL.zeroT Tryz.prog 62 = some (.nilFunc) := by kernel_rfl
@[go_sem] theorem T.agg63 : HL.aggN Tryz.prog 63 = some none := by kernel_rfl
@[go_sem] theorem T.size63 : HL.sizeT Tryz.prog 63 = some 1 := by kernel_rfl
@[go_sem] theorem T.bytes63 : HL.bytesT Tryz.prog 63 = some 8 := by kernel_rfl
@[go_sem] theorem T.zero63 : HL.zeroT Tryz.prog 63 = some (.nilFunc) := by kernel_rfl
@[go_sem] theorem T.agg64 : HL.aggN Tryz.prog 64 = some none := by kernel_rfl
@[go_sem] theorem T.size64 : HL.sizeT Tryz.prog 64 = some 1 := by kernel_rfl
@[go_sem] theorem T.bytes64 : HL.bytesT Tryz.prog 64 = some 8 := by kernel_rfl
@[go_sem] theorem T.zero64 : HL.zeroT Tryz.prog 64 = some (.nilFunc) := by kernel_rfl
@[go_sem] theorem T.agg65 : HL.aggN Tryz.prog 65 = some (some 5) := by kernel_rfl
@[go_sem] theorem T.size65 : HL.sizeT Tryz.prog 65 = some 5 := by kernel_rfl
@[go_sem] theorem T.bytes65 : HL.bytesT Tryz.prog 65 = some 40 := by kernel_rfl
@[go_sem] theorem T.zero65 : HL.zeroT Tryz.prog 65 = some (.agg #[.string ⟨#[]⟩, .int .i64 0, .int .i64 0, .bool false, .bool false]) := by kernel_rfl
@[go_sem] theorem T.places65 : HL.placesT Tryz.prog 65 = some [(0, 1), (1, 1), (2, 1), (3, 1), (4, 1)] := by kernel_rfl
@[go_sem] theorem T.field65_0 : HL.fieldT Tryz.prog 65 0 = some (0, 9) := by kernel_rfl
@[go_sem] theorem T.fieldO65_0 : HL.fieldO Tryz.prog 65 0 = some 0 := by kernel_rfl
@[go_sem] theorem T.field65_1 : HL.fieldT Tryz.prog 65 1 = some (1, 3) := by kernel_rfl
@[go_sem] theorem T.fieldO65_1 : HL.fieldO Tryz.prog 65 1 = some 1 := by kernel_rfl
@[go_sem] theorem T.field65_2 : HL.fieldT Tryz.prog 65 2 = some (2, 3) := by kernel_rfl
@[go_sem] theorem T.fieldO65_2 : HL.fieldO Tryz.prog 65 2 = some 2 := by kernel_rfl
@[go_sem] theorem T.field65_3 : HL.fieldT Tryz.prog 65 3 = some (3, 4) := by kernel_rfl
@[go_sem] theorem T.fieldO65_3 : HL.fieldO Tryz.prog 65 3 = some 3 := by kernel_rfl
@[go_sem] theorem T.field65_4 : HL.fieldT Tryz.prog 65 4 = some (4, 4) := by kernel_rfl
@[go_sem] theorem T.fieldO65_4 : HL.fieldO Tryz.prog 65 4 = some 4 := by kernel_rfl
@[go_sem] theorem T.agg66 : HL.aggN Tryz.prog 66 = some (some 5) := by kernel_rfl
@[go_sem] theorem T.size66 : HL.sizeT Tryz.prog 66 = some 5 := by kernel_rfl
@[go_sem] theorem T.bytes66 : HL.bytesT Tryz.prog 66 = some 40 := by kernel_rfl
@[go_sem] theorem T.zero66 : HL.zeroT Tryz.prog 66 = some (.agg #[.string ⟨#[]⟩, .int .i64 0, .int .i64 0, .bool false, .bool false]) := by kernel_rfl
@[go_sem] theorem T.places66 : HL.placesT Tryz.prog 66 = some [(0, 1), (1, 1), (2, 1), (3, 1), (4, 1)] := by kernel_rfl
@[go_sem] theorem T.field66_0 : HL.fieldT Tryz.prog 66 0 = some (0, 9) := by kernel_rfl
@[go_sem] theorem T.fieldO66_0 : HL.fieldO Tryz.prog 66 0 = some 0 := by kernel_rfl
@[go_sem] theorem T.field66_1 : HL.fieldT Tryz.prog 66 1 = some (1, 3) := by kernel_rfl
@[go_sem] theorem T.fieldO66_1 : HL.fieldO Tryz.prog 66 1 = some 1 := by kernel_rfl
@[go_sem] theorem T.field66_2 : HL.fieldT Tryz.prog 66 2 = some (2, 3) := by kernel_rfl
@[go_sem] theorem T.fieldO66_2 : HL.fieldO Tryz.prog 66 2 = some 2 := by kernel_rfl
@[go_sem] theorem T.field66_3 : HL.fieldT Tryz.prog 66 3 = some (3, 4) := by kernel_rfl
@[go_sem] theorem T.fieldO66_3 : HL.fieldO Tryz.prog 66 3 = some 3 := by kernel_rfl
@[go_sem] theorem T.field66_4 : HL.fieldT Tryz.prog 66 4 = some (4, 4) := by kernel_rfl
@[go_sem] theorem T.fieldO66_4 : HL.fieldO Tryz.prog 66 4 = some 4 := by kernel_rfl
@[go_sem] theorem T.agg67 : HL.aggN Tryz.prog 67 = some (some 3) := by kernel_rfl
@[go_sem] theorem T.size67 : HL.sizeT Tryz.prog 67 = some 3 := by kernel_rfl
@[go_sem] theorem T.bytes67 : HL.bytesT Tryz.prog 67 = some 32 := by kernel_rfl
@[go_sem] theorem T.zero67 : HL.zeroT Tryz.prog 67 = some (.agg #[.string ⟨#[]⟩, .int .i64 0, .int .i64 0]) := by kernel_rfl
@[go_sem] theorem T.places67 : HL.placesT Tryz.prog 67 = some [(0, 1), (1, 1), (2, 1)] := by kernel_rfl
@[go_sem] theorem T.field67_0 : HL.fieldT Tryz.prog 67 0 = some (0, 9) := by kernel_rfl
@[go_sem] theorem T.fieldO67_0 : HL.fieldO Tryz.prog 67 0 = some 0 := by kernel_rfl
@[go_sem] theorem T.field67_1 : HL.fieldT Tryz.prog 67 1 = some (1, 3) := by kernel_rfl
@[go_sem] theorem T.fieldO67_1 : HL.fieldO Tryz.prog 67 1 = some 1 := by kernel_rfl
@[go_sem] theorem T.field67_2 : HL.fieldT Tryz.prog 67 2 = some (2, 3) := by kernel_rfl
@[go_sem] theorem T.fieldO67_2 : HL.fieldO Tryz.prog 67 2 = some 2 := by kernel_rfl
@[go_sem] theorem T.agg68 : HL.aggN Tryz.prog 68 = some (some 3) := by kernel_rfl
@[go_sem] theorem T.size68 : HL.sizeT Tryz.prog 68 = some 3 := by kernel_rfl
@[go_sem] theorem T.bytes68 : HL.bytesT Tryz.prog 68 = some 32 := by kernel_rfl
@[go_sem] theorem T.zero68 : HL.zeroT Tryz.prog 68 = some (.agg #[.string ⟨#[]⟩, .int .i64 0, .int .i64 0]) := by kernel_rfl
@[go_sem] theorem T.places68 : HL.placesT Tryz.prog 68 = some [(0, 1), (1, 1), (2, 1)] := by kernel_rfl
@[go_sem] theorem T.field68_0 : HL.fieldT Tryz.prog 68 0 = some (0, 9) := by kernel_rfl
@[go_sem] theorem T.fieldO68_0 : HL.fieldO Tryz.prog 68 0 = some 0 := by kernel_rfl
@[go_sem] theorem T.field68_1 : HL.fieldT Tryz.prog 68 1 = some (1, 3) := by kernel_rfl
@[go_sem] theorem T.fieldO68_1 : HL.fieldO Tryz.prog 68 1 = some 1 := by kernel_rfl
@[go_sem] theorem T.field68_2 : HL.fieldT Tryz.prog 68 2 = some (2, 3) := by kernel_rfl
@[go_sem] theorem T.fieldO68_2 : HL.fieldO Tryz.prog 68 2 = some 2 := by kernel_rfl
@[go_sem] theorem T.agg69 : HL.aggN Tryz.prog 69 = some none := by kernel_rfl
@[go_sem] theorem T.size69 : HL.sizeT Tryz.prog 69 = some 1 := by kernel_rfl
@[go_sem] theorem T.bytes69 : HL.bytesT Tryz.prog 69 = some 8 := by kernel_rfl
@[go_sem] theorem T.zero69 : HL.zeroT Tryz.prog 69 = some (.nilFunc) := by kernel_rfl
@[go_sem] theorem T.agg70 : HL.aggN Tryz.prog 70 = some none := by kernel_rfl
@[go_sem] theorem T.size70 : HL.sizeT Tryz.prog 70 = some 1 := by kernel_rfl
@[go_sem] theorem T.bytes70 : HL.bytesT Tryz.prog 70 = some 8 := by kernel_rfl
@[go_sem] theorem T.zero70 : HL.zeroT Tryz.prog 70 = some (.nilFunc) := by kernel_rfl
@[go_sem] theorem T.agg71 : HL.aggN Tryz.prog 71 = some none := by kernel_rfl
@[go_sem] theorem T.size71 : HL.sizeT Tryz.prog 71 = some 1 := by kernel_rfl
@[go_sem] theorem T.bytes71 : HL.bytesT Tryz.prog 71 = some 24 := by kernel_rfl
@[go_sem] theorem T.zero71 : HL.zeroT Tryz.prog 71 = some (.slice none 0 0) := by kernel_rfl
@[go_sem] theorem T.elem71 : HL.elemT Tryz.prog 71 = some 119 := by kernel_rfl
@[go_sem] theorem T.elemS71 : HL.elemS Tryz.prog 71 = some 3 := by kernel_rfl
@[go_sem] theorem T.agg73 : HL.aggN Tryz.prog 73 = some none := by kernel_rfl
@[go_sem] theorem T.size73 : HL.sizeT Tryz.prog 73 = some 1 := by kernel_rfl
@[go_sem] theorem T.bytes73 : HL.bytesT Tryz.prog 73 = some 8 := by kernel_rfl
@[go_sem] theorem T.zero73 : HL.zeroT Tryz.prog 73 = some (.nilFunc) := by kernel_rfl
@[go_sem] theorem T.agg74 : HL.aggN Tryz.prog 74 = some none := by kernel_rfl
@[go_sem] theorem T.size74 : HL.sizeT Tryz.prog 74 = some 1 := by kernel_rfl
@[go_sem] theorem T.bytes74 : HL.bytesT Tryz.prog 74 = some 8 := by kernel_rfl
@[go_sem] theorem T.zero74 : HL.zeroT Tryz.prog 74 = some (.pointer none) := by kernel_rfl
@[go_sem] theorem T.agg75 : HL.aggN Tryz.prog 75 = some (some 5) := by kernel_rfl
@[go_sem] theorem T.size75 : HL.sizeT Tryz.prog 75 = some 5 := by kernel_rfl
@[go_sem] theorem T.bytes75 : HL.bytesT Tryz.prog 75 = some 56 := by kernel_rfl
@[go_sem] theorem T.zero75 : HL.zeroT Tryz.prog 75 = some (.agg #[.slice none 0 0, .int .i64 0, .int .i64 0, .int .i64 0, .int .i64 0]) := by kernel_rfl
@[go_sem] theorem T.places75 : HL.placesT Tryz.prog 75 = some [(0, 1), (1, 1), (2, 1), (3, 2)] := by kernel_rfl
@[go_sem] theorem T.field75_0 : HL.fieldT Tryz.prog 75 0 = some (0, 71) := by kernel_rfl
@[go_sem] theorem T.fieldO75_0 : HL.fieldO Tryz.prog 75 0 = some 0 := by kernel_rfl
@[go_sem] theorem T.field75_1 : HL.fieldT Tryz.prog 75 1 = some (1, 3) := by kernel_rfl
@[go_sem] theorem T.fieldO75_1 : HL.fieldO Tryz.prog 75 1 = some 1 := by kernel_rfl
@[go_sem] theorem T.field75_2 : HL.fieldT Tryz.prog 75 2 = some (2, 3) := by kernel_rfl
@[go_sem] theorem T.fieldO75_2 : HL.fieldO Tryz.prog 75 2 = some 2 := by kernel_rfl
@[go_sem] theorem T.field75_3 : HL.fieldT Tryz.prog 75 3 = some (3, 27) := by kernel_rfl
@[go_sem] theorem T.fieldO75_3 : HL.fieldO Tryz.prog 75 3 = some 3 := by kernel_rfl
@[go_sem] theorem T.agg76 : HL.aggN Tryz.prog 76 = some (some 5) := by kernel_rfl
@[go_sem] theorem T.size76 : HL.sizeT Tryz.prog 76 = some 5 := by kernel_rfl
@[go_sem] theorem T.bytes76 : HL.bytesT Tryz.prog 76 = some 56 := by kernel_rfl
@[go_sem] theorem T.zero76 : HL.zeroT Tryz.prog 76 = some (.agg #[.slice none 0 0, .int .i64 0, .int .i64 0, .int .i64 0, .int .i64 0]) := by kernel_rfl
@[go_sem] theorem T.places76 : HL.placesT Tryz.prog 76 = some [(0, 1), (1, 1), (2, 1), (3, 2)] := by kernel_rfl
@[go_sem] theorem T.field76_0 : HL.fieldT Tryz.prog 76 0 = some (0, 71) := by kernel_rfl
@[go_sem] theorem T.fieldO76_0 : HL.fieldO Tryz.prog 76 0 = some 0 := by kernel_rfl
@[go_sem] theorem T.field76_1 : HL.fieldT Tryz.prog 76 1 = some (1, 3) := by kernel_rfl
@[go_sem] theorem T.fieldO76_1 : HL.fieldO Tryz.prog 76 1 = some 1 := by kernel_rfl
@[go_sem] theorem T.field76_2 : HL.fieldT Tryz.prog 76 2 = some (2, 3) := by kernel_rfl
@[go_sem] theorem T.fieldO76_2 : HL.fieldO Tryz.prog 76 2 = some 2 := by kernel_rfl
@[go_sem] theorem T.field76_3 : HL.fieldT Tryz.prog 76 3 = some (3, 27) := by kernel_rfl
@[go_sem] theorem T.fieldO76_3 : HL.fieldO Tryz.prog 76 3 = some 3 := by kernel_rfl
@[go_sem] theorem T.agg77 : HL.aggN Tryz.prog 77 = some none := by kernel_rfl
@[go_sem] theorem T.size77 : HL.sizeT Tryz.prog 77 = some 1 := by kernel_rfl
@[go_sem] theorem T.bytes77 : HL.bytesT Tryz.prog 77 = some 24 := by kernel_rfl
@[go_sem] theorem T.zero77 : HL.zeroT Tryz.prog 77 = some (.slice none 0 0) := by kernel_rfl
@[go_sem] theorem T.elem77 : HL.elemT Tryz.prog 77 = some 79 := by kernel_rfl
@[go_sem] theorem T.elemS77 : HL.elemS Tryz.prog 77 = some 6 := by kernel_rfl
@[go_sem] theorem T.agg78 : HL.aggN Tryz.prog 78 = some (some 6) := by kernel_rfl
@[go_sem] theorem T.size78 : HL.sizeT Tryz.prog 78 = some 6 := by kernel_rfl
@[go_sem] theorem T.bytes78 : HL.bytesT Tryz.prog 78 = some 112 := by kernel_rfl
@[go_sem] theorem T.zero78 : HL.zeroT Tryz.prog 78 = some (.agg #[.int .i64 0, .slice none 0 0, .slice none 0 0, .slice none 0 0, .int .i64 0, .slice none 0 0]) := by kernel_rfl
@[go_sem] theorem T.places78 : HL.placesT Tryz.prog 78 = some [(0, 5), (5, 1)] := by kernel_rfl
@[go_sem] theorem T.field78_0 : HL.fieldT Tryz.prog 78 0 = some (0, 45) := by kernel_rfl
@[go_sem] theorem T.fieldO78_0 : HL.fieldO Tryz.prog 78 0 = some 0 := by kernel_rfl
@[go_sem] theorem T.field78_1 : HL.fieldT Tryz.prog 78 1 = some (5, 77) := by kernel_rfl
@[go_sem] theorem T.fieldO78_1 : HL.fieldO Tryz.prog 78 1 = some 5 := by kernel_rfl
@[go_sem] theorem T.agg79 : HL.aggN Tryz.prog 79 = some (some 6) := by kernel_rfl
@[go_sem] theorem T.size79 : HL.sizeT Tryz.prog 79 = some 6 := by kernel_rfl
@[go_sem] theorem T.bytes79 : HL.bytesT Tryz.prog 79 = some 112 := by kernel_rfl
@[go_sem] theorem T.zero79 : HL.zeroT Tryz.prog 79 = some (.agg #[.int .i64 0, .slice none 0 0, .slice none 0 0, .slice none 0 0, .int .i64 0, .slice none 0 0]) := by kernel_rfl
@[go_sem] theorem T.places79 : HL.placesT Tryz.prog 79 = some [(0, 5), (5, 1)] := by kernel_rfl
@[go_sem] theorem T.field79_0 : HL.fieldT Tryz.prog 79 0 = some (0, 45) := by kernel_rfl
@[go_sem] theorem T.fieldO79_0 : HL.fieldO Tryz.prog 79 0 = some 0 := by kernel_rfl
@[go_sem] theorem T.field79_1 : HL.fieldT Tryz.prog 79 1 = some (5, 77) := by kernel_rfl
@[go_sem] theorem T.fieldO79_1 : HL.fieldO Tryz.prog 79 1 = some 5 := by kernel_rfl
@[go_sem] theorem T.agg80 : HL.aggN Tryz.prog 80 = some none := by kernel_rfl
@[go_sem] theorem T.size80 : HL.sizeT Tryz.prog 80 = some 1 := by kernel_rfl
@[go_sem] theorem T.bytes80 : HL.bytesT Tryz.prog 80 = some 8 := by kernel_rfl
@[go_sem] theorem T.zero80 : HL.zeroT Tryz.prog 80 = some (.nilFunc) := by kernel_rfl
@[go_sem] theorem T.agg81 : HL.aggN Tryz.prog 81 = some none := by kernel_rfl
@[go_sem] theorem T.size81 : HL.sizeT Tryz.prog 81 = some 1 := by kernel_rfl
@[go_sem] theorem T.bytes81 : HL.bytesT Tryz.prog 81 = some 8 := by kernel_rfl
@[go_sem] theorem T.zero81 : HL.zeroT Tryz.prog 81 = some (.nilFunc) := by kernel_rfl
@[go_sem] theorem T.agg82 : HL.aggN Tryz.prog 82 = some none := by kernel_rfl
@[go_sem] theorem T.size82 : HL.sizeT Tryz.prog 82 = some 1 := by kernel_rfl
@[go_sem] theorem T.bytes82 : HL.bytesT Tryz.prog 82 = some 8 := by kernel_rfl
@[go_sem] theorem T.zero82 : HL.zeroT Tryz.prog 82 = some (.nilFunc) := by kernel_rfl
@[go_sem] theorem T.agg84 : HL.aggN Tryz.prog 84 = some none := by kernel_rfl
@[go_sem] theorem T.size84 : HL.sizeT Tryz.prog 84 = some 1 := by kernel_rfl
@[go_sem] theorem T.bytes84 : HL.bytesT Tryz.prog 84 = some 8 := by kernel_rfl
@[go_sem] theorem T.zero84 : HL.zeroT Tryz.prog 84 = some (.nilFunc) := by kernel_rfl
@[go_sem] theorem T.agg85 : HL.aggN Tryz.prog 85 = some none := by kernel_rfl
@[go_sem] theorem T.size85 : HL.sizeT Tryz.prog 85 = some 1 := by kernel_rfl
@[go_sem] theorem T.bytes85 : HL.bytesT Tryz.prog 85 = some 8 := by kernel_rfl
@[go_sem] theorem T.zero85 : HL.zeroT Tryz.prog 85 = some (.pointer none) := by kernel_rfl
@[go_sem] theorem T.agg86 : HL.aggN Tryz.prog 86 = some (some 3) := by kernel_rfl
@[go_sem] theorem T.size86 : HL.sizeT Tryz.prog 86 = some 3 := by kernel_rfl
@[go_sem] theorem T.bytes86 : HL.bytesT Tryz.prog 86 = some 32 := by kernel_rfl
@[go_sem] theorem T.zero86 : HL.zeroT Tryz.prog 86 = some (.agg #[.int .i64 0, .int .i64 0, .nilIface]) := by kernel_rfl
@[go_sem] theorem T.places86 : HL.placesT Tryz.prog 86 = some [(0, 1), (1, 1), (2, 1)] := by kernel_rfl
@[go_sem] theorem T.field86_0 : HL.fieldT Tryz.prog 86 0 = some (0, 3) := by kernel_rfl
@[go_sem] theorem T.fieldO86_0 : HL.fieldO Tryz.prog 86 0 = some 0 := by kernel_rfl
@[go_sem] theorem T.field86_1 : HL.fieldT Tryz.prog 86 1 = some (1, 3) := by kernel_rfl
@[go_sem] theorem T.fieldO86_1 : HL.fieldO Tryz.prog 86 1 = some 1 := by kernel_rfl
@[go_sem] theorem T.field86_2 : HL.fieldT Tryz.prog 86 2 = some (2, 41) := by kernel_rfl
@[go_sem] theorem T.fieldO86_2 : HL.fieldO Tryz.prog 86 2 = some 2 := by kernel_rfl
@[go_sem] theorem T.agg87 : HL.aggN Tryz.prog 87 = some (some 3) := by kernel_rfl
@[go_sem] theorem T.size87 : HL.sizeT Tryz.prog 87 = some 3 := by kernel_rfl
@[go_sem] theorem T.bytes87 : HL.bytesT Tryz.prog 87 = some 32 := by kernel_rfl
@[go_sem] theorem T.zero87 : HL.zeroT Tryz.prog 87 = some (.agg #[.int .i64 0, .int .i64 0, .nilIface]) := by kernel_rfl
@[go_sem] theorem T.places87 : HL.placesT Tryz.prog 87 = some [(0, 1), (1, 1), (2, 1)] := by kernel_rfl
@[go_sem] theorem T.field87_0 : HL.fieldT Tryz.prog 87 0 = some (0, 3) := by kernel_rfl
@[go_sem] theorem T.fieldO87_0 : HL.fieldO Tryz.prog 87 0 = some 0 := by kernel_rfl
@[go_sem] theorem T.field87_1 : HL.fieldT Tryz.prog 87 1 = some (1, 3) := by kernel_rfl
@[go_sem] theorem T.fieldO87_1 : HL.fieldO Tryz.prog 87 1 = some 1 := by kernel_rfl
@[go_sem] theorem T.field87_2 : HL.fieldT Tryz.prog 87 2 = some (2, 41) := by kernel_rfl
@[go_sem] theorem T.fieldO87_2 : HL.fieldO Tryz.prog 87 2 = some 2 := by kernel_rfl
@[go_sem] theorem T.agg88 : HL.aggN Tryz.prog 88 = some none := by kernel_rfl
@[go_sem] theorem T.size88 : HL.sizeT Tryz.prog 88 = some 1 := by kernel_rfl
@[go_sem] theorem T.bytes88 : HL.bytesT Tryz.prog 88 = some 8 := by kernel_rfl
@[go_sem] theorem T.zero88 : HL.zeroT Tryz.prog 88 = some (.pointer none) := by kernel_rfl
@[go_sem] theorem T.agg89 : HL.aggN Tryz.prog 89 = some none := by kernel_rfl
@[go_sem] theorem T.size89 : HL.sizeT Tryz.prog 89 = some 1 := by kernel_rfl
@[go_sem] theorem T.bytes89 : HL.bytesT Tryz.prog 89 = some 8 := by kernel_rfl
@[go_sem] theorem T.zero89 : HL.zeroT Tryz.prog 89 = some (.nilFunc) := by kernel_rfl
@[go_sem] theorem T.agg90 : HL.aggN Tryz.prog 90 = some none := by kernel_rfl
@[go_sem] theorem T.size90 : HL.sizeT Tryz.prog 90 = some 1 := by kernel_rfl
@[go_sem] theorem T.bytes90 : HL.bytesT Tryz.prog 90 = some 8 := by kernel_rfl
@[go_sem] theorem T.zero90 : HL.zeroT Tryz.prog 90 = some (.nilFunc) := by kernel_rfl
@[go_sem] theorem T.agg91 : HL.aggN Tryz.prog 91 = some (some 2) := by kernel_rfl
@[go_sem] theorem T.size91 : HL.sizeT Tryz.prog 91 = some 2 := by kernel_rfl
@[go_sem] theorem T.bytes91 : HL.bytesT Tryz.prog 91 = some 32 := by kernel_rfl
@[go_sem] theorem T.zero91 : HL.zeroT Tryz.prog 91 = some (.agg #[.slice none 0 0, .nilFunc]) := by kernel_rfl
@[go_sem] theorem T.places91 : HL.placesT Tryz.prog 91 = some [(0, 1), (1, 1)] := by kernel_rfl
@[go_sem] theorem T.field91_0 : HL.fieldT Tryz.prog 91 0 = some (0, 22) := by kernel_rfl
@[go_sem] theorem T.fieldO91_0 : HL.fieldO Tryz.prog 91 0 = some 0 := by kernel_rfl
@[go_sem] theorem T.field91_1 : HL.fieldT Tryz.prog 91 1 = some (1, 90) := by kernel_rfl
@[go_sem] theorem T.fieldO91_1 : HL.fieldO Tryz.prog 91 1 = some 1 := by kernel_rfl
@[go_sem] theorem T.agg92 : HL.aggN Tryz.prog 92 = some (some 2) := by kernel_rfl
@[go_sem] theorem T.size92 : HL.sizeT Tryz.prog 92 = some 2 := by kernel_rfl
@[go_sem] theorem T.bytes92 : HL.bytesT Tryz.prog 92 = some 32 := by kernel_rfl
@[go_sem] theorem T.zero92 : HL.zeroT Tryz.prog 92 = some (.agg #[.slice none 0 0, .nilFunc]) := by kernel_rfl
@[go_sem] theorem T.places92 : HL.placesT Tryz.prog 92 = some [(0, 1), (1, 1)] := by kernel_rfl
@[go_sem] theorem T.field92_0 : HL.fieldT Tryz.prog 92 0 = some (0, 22) := by kernel_rfl
@[go_sem] theorem T.fieldO92_0 : HL.fieldO Tryz.prog 92 0 = some 0 := by kernel_rfl
@[go_sem] theorem T.field92_1 : HL.fieldT Tryz.prog 92 1 = some (1, 90) := by kernel_rfl
@[go_sem] theorem T.fieldO92_1 : HL.fieldO Tryz.prog 92 1 = some 1 := by kernel_rfl
@[go_sem] theorem T.agg93 : HL.aggN Tryz.prog 93 = some none := by kernel_rfl
@[go_sem] theorem T.size93 : HL.sizeT Tryz.prog 93 = some 1 := by kernel_rfl
@[go_sem] theorem T.bytes93 : HL.bytesT Tryz.prog 93 = some 8 := by kernel_rfl
@[go_sem] theorem T.zero93 : HL.zeroT Tryz.prog 93 = some (.pointer none) := by kernel_rfl
@[go_sem] theorem T.agg94 : HL.aggN Tryz.prog 94 = some none := by kernel_rfl
@[go_sem] theorem T.size94 : HL.sizeT Tryz.prog 94 = some 1 := by kernel_rfl
@[go_sem] theorem T.bytes94 : HL.bytesT Tryz.prog 94 = some 8 := by kernel_rfl
@[go_sem] theorem T.zero94 : HL.zeroT Tryz.prog 94 = some (.nilFunc) := by kernel_rfl
@[go_sem] theorem T.agg95 : HL.aggN Tryz.prog 95 = some none := by kernel_rfl
@[go_sem] theorem T.size95 : HL.sizeT Tryz.prog 95 = some 1 := by kernel_rfl
@[go_sem] theorem T.bytes95 : HL.bytesT Tryz.prog 95 = some 8 := by kernel_rfl
@[go_sem] theorem T.zero95 : HL.zeroT Tryz.prog 95 = some (.nilFunc) := by kernel_rfl
@[go_sem] theorem T.agg96 : HL.aggN Tryz.prog 96 = some none := by kernel_rfl
@[go_sem] theorem T.size96 : HL.sizeT Tryz.prog 96 = some 1 := by kernel_rfl
@[go_sem] theorem T.bytes96 : HL.bytesT Tryz.prog 96 = some 8 := by kernel_rfl
@[go_sem] theorem T.zero96 : HL.zeroT Tryz.prog 96 = some (.nilFunc) := by kernel_rfl
@[go_sem] theorem T.agg97 : HL.aggN Tryz.prog 97 = some none := by kernel_rfl
@[go_sem] theorem T.size97 : HL.sizeT Tryz.prog 97 = some 1 := by kernel_rfl
@[go_sem] theorem T.bytes97 : HL.bytesT Tryz.prog 97 = some 8 := by kernel_rfl
@[go_sem] theorem T.zero97 : HL.zeroT Tryz.prog 97 = some (.nilFunc) := by kernel_rfl
@[go_sem] theorem T.agg98 : HL.aggN Tryz.prog 98 = some none := by kernel_rfl
@[go_sem] theorem T.size98 : HL.sizeT Tryz.prog 98 = some 1 := by kernel_rfl
@[go_sem] theorem T.bytes98 : HL.bytesT Tryz.prog 98 = some 8 := by kernel_rfl
@[go_sem] theorem T.zero98 : HL.zeroT Tryz.prog 98 = some (.nilFunc) := by kernel_rfl
@[go_sem] theorem T.agg99 : HL.aggN Tryz.prog 99 = some none := by kernel_rfl
@[go_sem] theorem T.size99 : HL.sizeT Tryz.prog 99 = some 1 := by kernel_rfl
@[go_sem] theorem T.bytes99 : HL.bytesT Tryz.prog 99 = some 8 := by kernel_rfl
@[go_sem] theorem T.zero99 : HL.zeroT Tryz.prog 99 = some (.nilFunc) := by kernel_rfl
@[go_sem] theorem T.agg100 : HL.aggN Tryz.prog 100 = some none := by kernel_rfl
@[go_sem] theorem T.size100 : HL.sizeT Tryz.prog 100 = some 1 := by kernel_rfl
@[go_sem] theorem T.bytes100 : HL.bytesT Tryz.prog 100 = some 8 := by kernel_rfl
@[go_sem] theorem T.zero100 : HL.zeroT Tryz.prog 100 = some (.nilFunc) := by kernel_rfl
@[go_sem] theorem T.agg101 : HL.aggN Tryz.prog 101 = some none := by kernel_rfl
@[go_sem] theorem T.size101 : HL.sizeT Tryz.prog 101 = some 1 := by kernel_rfl
@[go_sem] theorem T.bytes101 : HL.bytesT Tryz.prog 101 = some 8 := by kernel_rfl
@[go_sem] theorem T.zero101 : HL.zeroT Tryz.prog 101 = some (.nilFunc) := by kernel_rfl
@[go_sem] theorem T.agg102 : HL.aggN Tryz.prog 102 = some none := by kernel_rfl
@[go_sem] theorem T.size102 : HL.sizeT Tryz.prog 102 = some 1 := by kernel_rfl
@[go_sem] theorem T.bytes102 : HL.bytesT Tryz.prog 102 = some 8 := by kernel_rfl
@[go_sem] theorem T.zero102 : HL.zeroT Tryz.prog 102 = some (.nilFunc) := by kernel_rfl
@[go_sem] theorem T.agg103 : HL.aggN Tryz.prog 103 = some none := by kernel_rfl
@[go_sem] theorem T.size103 : HL.sizeT Tryz.prog 103 = some 1 := by kernel_rfl
@[go_sem] theorem T.bytes103 : HL.bytesT Tryz.prog 103 = some 8 := by kernel_rfl
@[go_sem] theorem T.zero103 : HL.zeroT Tryz.prog 103 = some (.nilFunc) := by kernel_rfl
@[go_sem] theorem T.agg104 : HL.aggN Tryz.prog 104 = some none := by kernel_rfl
@[go_sem] theorem T.size104 : HL.sizeT Tryz.prog 104 = some 1 := by kernel_rfl
@[go_sem] theorem T.bytes104 : HL.bytesT Tryz.prog 104 = some 8 := by kernel_rfl
@[go_sem] theorem T.zero104 : HL.zeroT Tryz.prog 104 = some (.pointer none) := by kernel_rfl
@[go_sem] theorem T.agg105 : HL.aggN Tryz.prog 105 = some none := by kernel_rfl
@[go_sem] theorem T.size105 : HL.sizeT Tryz.prog 105 = some 1 := by kernel_rfl
@[go_sem] theorem T.bytes105 : HL.bytesT Tryz.prog 105 = some 8 := by kernel_rfl
@[go_sem] theorem T.zero105 : HL.zeroT Tryz.prog 105 = some (.nilFunc) := by kernel_rfl
@[go_sem] theorem T.agg106 : HL.aggN Tryz.prog 106 = some (some 10) := by kernel_rfl
@[go_sem] theorem T.size106 : HL.sizeT Tryz.prog 106 = some 10 := by kernel_rfl
@[go_sem] theorem T.bytes106 : HL.bytesT Tryz.prog 106 = some 200 := by kernel_rfl
@[go_sem] theorem T.zero106 : HL.zeroT Tryz.prog 106 = some (.agg #[.string ⟨#[]⟩, .int .i64 0, .slice none 0 0, .int .i64 0, .slice none 0 0, .slice none 0 0, .slice none 0 0, .slice none 0 0, .slice none 0 0, .slice none 0 0]) := by kernel_rfl
@[go_sem] theorem T.places106 : HL.placesT Tryz.prog 106 = some [(0, 8), (8, 1), (9, 1)] := by kernel_rfl
@[go_sem] theorem T.field106_0 : HL.fieldT Tryz.prog 106 0 = some (0, 56) := by kernel_rfl
@[go_sem] theorem T.fieldO106_0 : HL.fieldO Tryz.prog 106 0 = some 0 := by kernel_rfl
@[go_sem] theorem T.field106_1 : HL.fieldT Tryz.prog 106 1 = some (8, 22) := by kernel_rfl
@[go_sem] theorem T.fieldO106_1 : HL.fieldO Tryz.prog 106 1 = some 8 := by kernel_rfl
@[go_sem] theorem T.field106_2 : HL.fieldT Tryz.prog 106 2 = some (9, 29) := by kernel_rfl
@[go_sem] theorem T.fieldO106_2 : HL.fieldO Tryz.prog 106 2 = some 9 := by kernel_rfl
@[go_sem] theorem T.agg107 : HL.aggN Tryz.prog 107 = some (some 10) := by kernel_rfl
@[go_sem] theorem T.size107 : HL.sizeT Tryz.prog 107 = some 10 := by kernel_rfl
@[go_sem] theorem T.bytes107 : HL.bytesT Tryz.prog 107 = some 200 := by kernel_rfl
@[go_sem] theorem T.zero107 : HL.zeroT Tryz.prog 107 = some (.agg #[.string ⟨#[]⟩, .int .i64 0, .slice none 0 0, .int .i64 0, .slice none 0 0, .slice none 0 0, .slice none 0 0, .slice none 0 0, .slice none 0 0, .slice none 0 0]) := by kernel_rfl
@[go_sem] theorem T.places107 : HL.placesT Tryz.prog 107 = some [(0, 8), (8, 1), (9, 1)] := by kernel_rfl
@[go_sem] theorem T.field107_0 : HL.fieldT Tryz.prog 107 0 = some (0, 56) := by kernel_rfl
@[go_sem] theorem T.fieldO107_0 : HL.fieldO Tryz.prog 107 0 = some 0 := by kernel_rfl
@[go_sem] theorem T.field107_1 : HL.fieldT Tryz.prog 107 1 = some (8, 22) := by kernel_rfl
@[go_sem] theorem T.fieldO107_1 : HL.fieldO Tryz.prog 107 1 = some 8 := by kernel_rfl
@[go_sem] theorem T.field107_2 : HL.fieldT Tryz.prog 107 2 = some (9, 29) := by kernel_rfl
@[go_sem] theorem T.fieldO107_2 : HL.fieldO Tryz.prog 107 2 = some 9 := by kernel_rfl
@[go_sem] theorem T.agg108 : HL.aggN Tryz.prog 108 = some none := by kernel_rfl
@[go_sem] theorem T.size108 : HL.sizeT Tryz.prog 108 = some 1 := by kernel_rfl
@[go_sem] theorem T.bytes108 : HL.bytesT Tryz.prog 108 = some 8 := by kernel_rfl
@[go_sem] theorem T.zero108 : HL.zeroT Tryz.prog 108 = some (.nilFunc) := by kernel_rfl
@[go_sem] theorem T.agg109 : HL.aggN Tryz.prog 109 = some none := by kernel_rfl
@[go_sem] theorem T.size109 : HL.sizeT Tryz.prog 109 = some 1 := by kernel_rfl
@[go_sem] theorem T.bytes109 : HL.bytesT Tryz.prog 109 = some 8 := by kernel_rfl
@[go_sem] theorem T.zero109 : HL.zeroT Tryz.prog 109 = some (.nilFunc) := by kernel_rfl
@[go_sem] theorem T.agg110 : HL.aggN Tryz.prog 110 = some none := by kernel_rfl
@[go_sem] theorem T.size110 : HL.sizeT Tryz.prog 110 = some 1 := by kernel_rfl
@[go_sem] theorem T.bytes110 : HL.bytesT Tryz.prog 110 = some 8 := by kernel_rfl
@[go_sem] theorem T.zero110 : HL.zeroT Tryz.prog 110 = some (.nilFunc) := by kernel_rfl
@[go_sem] theorem T.agg111 : HL.aggN Tryz.prog 111 = some none := by kernel_rfl
@[go_sem] theorem T.size111 : HL.sizeT Tryz.prog 111 = some 1 := by kernel_rfl
@[go_sem] theorem T.bytes111 : HL.bytesT Tryz.prog 111 = some 8 := by kernel_rfl
@[go_sem] theorem T.zero111 : HL.zeroT Tryz.prog 111 = some (.nilFunc) := by kernel_rfl
@[go_sem] theorem T.agg112 : HL.aggN Tryz.prog 112 = some none := by kernel_rfl
@[go_sem] theorem T.size112 : HL.sizeT Tryz.prog 112 = some 1 := by kernel_rfl
@[go_sem] theorem T.bytes112 : HL.bytesT Tryz.prog 112 = some 8 := by kernel_rfl
@[go_sem] theorem T.zero112 : HL.zeroT Tryz.prog 112 = some (.nilFunc) := by kernel_rfl
@[go_sem] theorem T.agg114 : HL.aggN Tryz.prog 114 = some none := by kernel_rfl
@[go_sem] theorem T.size114 : HL.sizeT Tryz.prog 114 = some 1 := by kernel_rfl
@[go_sem] theorem T.bytes114 : HL.bytesT Tryz.prog 114 = some 8 := by kernel_rfl
@[go_sem] theorem T.zero114 : HL.zeroT Tryz.prog 114 = some (.nilFunc) := by kernel_rfl
@[go_sem] theorem T.agg115 : HL.aggN Tryz.prog 115 = some none := by kernel_rfl
@[go_sem] theorem T.size115 : HL.sizeT Tryz.prog 115 = some 1 := by kernel_rfl
@[go_sem] theorem T.bytes115 : HL.bytesT Tryz.prog 115 = some 8 := by kernel_rfl
@[go_sem] theorem T.zero115 : HL.zeroT Tryz.prog 115 = some (.nilFunc) := by kernel_rfl
@[go_sem] theorem T.agg116 : HL.aggN Tryz.prog 116 = some none := by kernel_rfl
@[go_sem] theorem T.size116 : HL.sizeT Tryz.prog 116 = some 1 := by kernel_rfl
@[go_sem] theorem T.bytes116 : HL.bytesT Tryz.prog 116 = some 8 := by kernel_rfl
@[go_sem] theorem T.zero116 : HL.zeroT Tryz.prog 116 = some (.nilFunc) := by kernel_rfl
@[go_sem] theorem T.agg117 : HL.aggN Tryz.prog 117 = some none := by kernel_rfl
@[go_sem] theorem T.size117 : HL.sizeT Tryz.prog 117 = some 1 := by kernel_rfl
@[go_sem] theorem T.bytes117 : HL.bytesT Tryz.prog 117 = some 8 := by kernel_rfl
@[go_sem] theorem T.zero117 : HL.zeroT Tryz.prog 117 = some (.nilFunc) := by kernel_rfl
@[go_sem] theorem T.agg118 : HL.aggN Tryz.prog 118 = some (some 3) := by kernel_rfl
@[go_sem] theorem T.size118 : HL.sizeT Tryz.prog 118 = some 3 := by kernel_rfl
@[go_sem] theorem T.bytes118 : HL.bytesT Tryz.prog 118 = some 32 := by kernel_rfl
@[go_sem] theorem T.zero118 : HL.zeroT Tryz.prog 118 = some (.agg #[.int .i64 0, .string ⟨#[]⟩, .int .i64 0]) := by kernel_rfl
@[go_sem] theorem T.places118 : HL.placesT Tryz.prog 118 = some [(0, 1), (1, 1), (2, 1)] := by kernel_rfl
@[go_sem] theorem T.field118_0 : HL.fieldT Tryz.prog 118 0 = some (0, 3) := by kernel_rfl
@[go_sem] theorem T.fieldO118_0 : HL.fieldO Tryz.prog 118 0 = some 0 := by kernel_rfl
@[go_sem] theorem T.field118_1 : HL.fieldT Tryz.prog 118 1 = some (1, 9) := by kernel_rfl
@[go_sem] theorem T.fieldO118_1 : HL.fieldO Tryz.prog 118 1 = some 1 := by kernel_rfl
@[go_sem] theorem T.field118_2 : HL.fieldT Tryz.prog 118 2 = some (2, 3) := by kernel_rfl
@[go_sem] theorem T.fieldO118_2 : HL.fieldO Tryz.prog 118 2 = some 2 := by kernel_rfl
@[go_sem] theorem T.agg119 : HL.aggN Tryz.prog 119 = some (some 3) := by kernel_rfl
@[go_sem] theorem T.size119 : HL.sizeT Tryz.prog 119 = some 3 := by kernel_rfl
@[go_sem] theorem T.bytes119 : HL.bytesT Tryz.prog 119 = some 32 := by kernel_rfl
@[go_sem] theorem T.zero119 : HL.zeroT Tryz.prog 119 = some (.agg #[.int .i64 0, .string ⟨#[]⟩, .int .i64 0]) := by kernel_rfl
@[go_sem] theorem T.places119 : HL.placesT Tryz.prog 119 = some [(0, 1), (1, 1), (2, 1)] := by kernel_rfl
@[go_sem] theorem T.field119_0 : HL.fieldT Tryz.prog 119 0 = some (0, 3) := by kernel_rfl
@[go_sem] theorem T.fieldO119_0 : HL.fieldO Tryz.prog 119 0 = some 0 := by kernel_rfl
@[go_sem] theorem T.field119_1 : HL.fieldT Tryz.prog 119 1 = some (1, 9) := by kernel_rfl
@[go_sem] theorem T.fieldO119_1 : HL.fieldO Tryz.prog 119 1 = some 1 := by kernel_rfl
@[go_sem] theorem T.field119_2 : HL.fieldT Tryz.prog 119 2 = some (2, 3) := by kernel_rfl
@[go_sem] theorem T.fieldO119_2 : HL.fieldO Tryz.prog 119 2 = some 2 := by kernel_rfl
@[go_sem] theorem T.agg120 : HL.aggN Tryz.prog 120 = some none := by kernel_rfl
@[go_sem] theorem T.size120 : HL.sizeT Tryz.prog 120 = some 1 := by kernel_rfl
@[go_sem] theorem T.bytes120 : HL.bytesT Tryz.prog 120 = some 8 := by kernel_rfl
@[go_sem] theorem T.zero120 : HL.zeroT Tryz.prog 120 = some (.nilFunc) := by kernel_rfl
@[go_sem] theorem T.agg121 : HL.aggN Tryz.prog 121 = some none := by kernel_rfl
@[go_sem] theorem T.size121 : HL.sizeT Tryz.prog 121 = some 1 := by kernel_rfl
@[go_sem] theorem T.bytes121 : HL.bytesT Tryz.prog 121 = some 8 := by kernel_rfl
@[go_sem] theorem T.zero121 : HL.zeroT Tryz.prog 121 = some (.nilFunc) := by kernel_rfl
@[go_sem] theorem T.agg122 : HL.aggN Tryz.prog 122 = some none := by kernel_rfl
@[go_sem] theorem T.size122 : HL.sizeT Tryz.prog 122 = some 1 := by kernel_rfl
@[go_sem] theorem T.bytes122 : HL.bytesT Tryz.prog 122 = some 8 := by kernel_rfl
@[go_sem] theorem T.zero122 : HL.zeroT Tryz.prog 122 = some (.nilFunc) := by kernel_rfl
@[go_sem] theorem T.agg123 : HL.aggN Tryz.prog 123 = some none := by kernel_rfl
@[go_sem] theorem T.size123 : HL.sizeT Tryz.prog 123 = some 1 := by kernel_rfl
@[go_sem] theorem T.bytes123 : HL.bytesT Tryz.prog 123 = some 8 := by kernel_rfl
@[go_sem] theorem T.zero123 : HL.zeroT Tryz.prog 123 = some (.nilFunc) := by kernel_rfl
@[go_sem] theorem T.agg124 : HL.aggN Tryz.prog 124 = some none := by kernel_rfl
@[go_sem] theorem T.size124 : HL.sizeT Tryz.prog 124 = some 1 := by kernel_rfl
@[go_sem] theorem T.bytes124 : HL.bytesT Tryz.prog 124 = some 8 := by kernel_rfl
@[go_sem] theorem T.zero124 : HL.zeroT Tryz.prog 124 = some (.nilFunc) := by kernel_rfl
@[go_sem] theorem T.agg125 : HL.aggN Tryz.prog 125 = some none := by kernel_rfl
@[go_sem] theorem T.size125 : HL.sizeT Tryz.prog 125 = some 1 := by kernel_rfl
@[go_sem] theorem T.bytes125 : HL.bytesT Tryz.prog 125 = some 8 := by kernel_rfl
@[go_sem] theorem T.zero125 : HL.zeroT Tryz.prog 125 = some (.nilFunc) := by kernel_rfl
@[go_sem] theorem T.agg126 : HL.aggN Tryz.prog 126 = some (some 5) := by kernel_rfl
@[go_sem] theorem T.size126 : HL.sizeT Tryz.prog 126 = some 5 := by kernel_rfl
@[go_sem] theorem T.bytes126 : HL.bytesT Tryz.prog 126 = some 104 := by kernel_rfl
@[go_sem] theorem T.zero126 : HL.zeroT Tryz.prog 126 = some (.agg #[.slice none 0 0, .slice none 0 0, .slice none 0 0, .slice none 0 0, .bool false]) := by kernel_rfl
@[go_sem] theorem T.places126 : HL.placesT Tryz.prog 126 = some [(0, 1), (1, 1), (2, 1), (3, 1), (4, 1)] := by kernel_rfl
@[go_sem] theorem T.field126_0 : HL.fieldT Tryz.prog 126 0 = some (0, 43) := by kernel_rfl
@[go_sem] theorem T.fieldO126_0 : HL.fieldO Tryz.prog 126 0 = some 0 := by kernel_rfl
@[go_sem] theorem T.field126_1 : HL.fieldT Tryz.prog 126 1 = some (1, 43) := by kernel_rfl
@[go_sem] theorem T.fieldO126_1 : HL.fieldO Tryz.prog 126 1 = some 1 := by kernel_rfl
@[go_sem] theorem T.field126_2 : HL.fieldT Tryz.prog 126 2 = some (2, 43) := by kernel_rfl
@[go_sem] theorem T.fieldO126_2 : HL.fieldO Tryz.prog 126 2 = some 2 := by kernel_rfl
@[go_sem] theorem T.field126_3 : HL.fieldT Tryz.prog 126 3 = some (3, 43) := by kernel_rfl
@[go_sem] theorem T.fieldO126_3 : HL.fieldO Tryz.prog 126 3 = some 3 := by kernel_rfl
@[go_sem] theorem T.field126_4 : HL.fieldT Tryz.prog 126 4 = some (4, 4) := by kernel_rfl
@[go_sem] theorem T.fieldO126_4 : HL.fieldO Tryz.prog 126 4 = some 4 := by kernel_rfl
@[go_sem] theorem T.agg127 : HL.aggN Tryz.prog 127 = some (some 5) := by kernel_rfl
@[go_sem] theorem T.size127 : HL.sizeT Tryz.prog 127 = some 5 := by kernel_rfl
@[go_sem] theorem T.bytes127 : HL.bytesT Tryz.prog 127 = some 104 := by kernel_rfl
@[go_sem] theorem T.zero127 : HL.zeroT Tryz.prog 127 = some (.agg #[.slice none 0 0, .slice none 0 0, .slice none 0 0, .slice none 0 0, .bool false]) := by kernel_rfl
@[go_sem] theorem T.places127 : HL.placesT Tryz.prog 127 = some [(0, 1), (1, 1), (2, 1), (3, 1), (4, 1)] := by kernel_rfl
@[go_sem] theorem T.field127_0 : HL.fieldT Tryz.prog 127 0 = some (0, 43) := by kernel_rfl
@[go_sem] theorem T.fieldO127_0 : HL.fieldO Tryz.prog 127 0 = some 0 := by kernel_rfl
@[go_sem] theorem T.field127_1 : HL.fieldT Tryz.prog 127 1 = some (1, 43) := by kernel_rfl
@[go_sem] theorem T.fieldO127_1 : HL.fieldO Tryz.prog 127 1 = some 1 := by kernel_rfl
@[go_sem] theorem T.field127_2 : HL.fieldT Tryz.prog 127 2 = some (2, 43) := by kernel_rfl
@[go_sem] theorem T.fieldO127_2 : HL.fieldO Tryz.prog 127 2 = some 2 := by kernel_rfl
@[go_sem] theorem T.field127_3 : HL.fieldT Tryz.prog 127 3 = some (3, 43) := by kernel_rfl
@[go_sem] theorem T.fieldO127_3 : HL.fieldO Tryz.prog 127 3 = some 3 := by kernel_rfl
@[go_sem] theorem T.field127_4 : HL.fieldT Tryz.prog 127 4 = some (4, 4) := by kernel_rfl
@[go_sem] theorem T.fieldO127_4 : HL.fieldO Tryz.prog 127 4 = some 4 := by kernel_rfl
@[go_sem] theorem T.agg128 : HL.aggN Tryz.prog 128 = some none := by kernel_rfl
@[go_sem] theorem T.size128 : HL.sizeT Tryz.prog 128 = some 1 := by kernel_rfl
@[go_sem] theorem T.bytes128 : HL.bytesT Tryz.prog 128 = some 8 := by kernel_rfl
@[go_sem] theorem T.zero128 : HL.zeroT Tryz.prog 128 = some (.nilFunc) := by kernel_rfl
@[go_sem] theorem T.agg129 : HL.aggN Tryz.prog 129 = some none := by kernel_rfl
@[go_sem] theorem T.size129 : HL.sizeT Tryz.prog 129 = some 1 := by kernel_rfl
@[go_sem] theorem T.bytes129 : HL.bytesT Tryz.prog 129 = some 8 := by kernel_rfl
@[go_sem] theorem T.zero129 : HL.zeroT Tryz.prog 129 = some (.nilFunc) := by kernel_rfl
@[go_sem] theorem T.agg130 : HL.aggN Tryz.prog 130 = some none := by kernel_rfl
@[go_sem] theorem T.size130 : HL.sizeT Tryz.prog 130 = some 1 := by kernel_rfl
@[go_sem] theorem T.bytes130 : HL.bytesT Tryz.prog 130 = some 8 := by kernel_rfl
@[go_sem] theorem T.zero130 : HL.zeroT Tryz.prog 130 = some (.nilFunc) := by kernel_rfl
@[go_sem] theorem T.agg131 : HL.aggN Tryz.prog 131 = some none := by kernel_rfl
@[go_sem] theorem T.size131 : HL.sizeT Tryz.prog 131 = some 1 := by kernel_rfl
@[go_sem] theorem T.bytes131 : HL.bytesT Tryz.prog 131 = some 8 := by kernel_rfl
@[go_sem] theorem T.zero131 : HL.zeroT Tryz.prog 131 = some (.pointer none) := by kernel_rfl
@[go_sem] theorem T.agg132 : HL.aggN Tryz.prog 132 = some none := by kernel_rfl
@[go_sem] theorem T.size132 : HL.sizeT Tryz.prog 132 = some 1 := by kernel_rfl
@[go_sem] theorem T.bytes132 : HL.bytesT Tryz.prog 132 = some 8 := by kernel_rfl
@[go_sem] theorem T.zero132 : HL.zeroT Tryz.prog 132 = some (.pointer none) := by kernel_rfl
@[go_sem] theorem T.agg133 : HL.aggN Tryz.prog 133 = some none := by kernel_rfl
@[go_sem] theorem T.size133 : HL.sizeT Tryz.prog 133 = some 1 := by kernel_rfl
@[go_sem] theorem T.bytes133 : HL.bytesT Tryz.prog 133 = some 8 := by kernel_rfl
@[go_sem] theorem T.zero133 : HL.zeroT Tryz.prog 133 = some (.nilFunc) := by kernel_rfl
@[go_sem] theorem T.agg134 : HL.aggN Tryz.prog 134 = some none := by kernel_rfl
@[go_sem] theorem T.size134 : HL.sizeT Tryz.prog 134 = some 1 := by kernel_rfl
@[go_sem] theorem T.bytes134 : HL.bytesT Tryz.prog 134 = some 8 := by kernel_rfl
@[go_sem] theorem T.zero134 : HL.zeroT Tryz.prog 134 = some (.nilFunc) := by kernel_rfl
@[go_sem] theorem T.agg135 : HL.aggN Tryz.prog 135 = some none := by kernel_rfl
@[go_sem] theorem T.size135 : HL.sizeT Tryz.prog 135 = some 1 := by kernel_rfl
@[go_sem] theorem T.bytes135 : HL.bytesT Tryz.prog 135 = some 8 := by kernel_rfl
@[go_sem] theorem T.zero135 : HL.zeroT Tryz.prog 135 = some (.nilFunc) := by kernel_rfl
@[go_sem] theorem T.agg136 : HL.aggN Tryz.prog 136 = some none := by kernel_rfl
@[go_sem] theorem T.size136 : HL.sizeT Tryz.prog 136 = some 1 := by kernel_rfl
@[go_sem] theorem T.bytes136 : HL.bytesT Tryz.prog 136 = some 8 := by kernel_rfl
@[go_sem] theorem T.zero136 : HL.zeroT Tryz.prog 136 = some (.nilFunc) := by kernel_rfl
@[go_sem] theorem T.agg137 : HL.aggN Tryz.prog 137 = some none := by kernel_rfl
@[go_sem] theorem T.size137 : HL.sizeT Tryz.prog 137 = some 1 := by kernel_rfl
@[go_sem] theorem T.bytes137 : HL.bytesT Tryz.prog 137 = some 8 := by kernel_rfl
@[go_sem] theorem T.zero137 : HL.zeroT Tryz.prog 137 = some (.nilFunc) := by kernel_rfl
@[go_sem] theorem T.agg138 : HL.aggN Tryz.prog 138 = some none := by kernel_rfl
@[go_sem] theorem T.size138 : HL.sizeT Tryz.prog 138 = some 1 := by kernel_rfl
@[go_sem] theorem T.bytes138 : HL.bytesT Tryz.prog 138 = some 8 := by kernel_rfl
@[go_sem] theorem T.zero138 : HL.zeroT Tryz.prog 138 = some (.nilFunc) := by kernel_rfl
@[go_sem] theorem T.agg139 : HL.aggN Tryz.prog 139 = some none := by kernel_rfl
@[go_sem] theorem T.size139 : HL.sizeT Tryz.prog 139 = some 1 := by kernel_rfl
@[go_sem] theorem T.bytes139 : HL.bytesT Tryz.prog 139 = some 8 := by kernel_rfl
@[go_sem] theorem T.zero139 : HL.zeroT Tryz.prog 139 = some (.nilFunc) := by kernel_rfl
@[go_sem] theorem T.agg140 : HL.aggN Tryz.prog 140 = some none := by kernel_rfl
@[go_sem] theorem T.size140 : HL.sizeT Tryz.prog 140 = some 1 := by kernel_rfl
@[go_sem] theorem T.bytes140 : HL.bytesT Tryz.prog 140 = some 8 := by kernel_rfl
@[go_sem] theorem T.zero140 : HL.zeroT Tryz.prog 140 = some (.nilFunc) := by kernel_rfl
@[go_sem] theorem T.agg141 : HL.aggN Tryz.prog 141 = some none := by kernel_rfl
@[go_sem] theorem T.size141 : HL.sizeT Tryz.prog 141 = some 1 := by kernel_rfl
@[go_sem] theorem T.bytes141 : HL.bytesT Tryz.prog 141 = some 8 := by kernel_rfl
@[go_sem] theorem T.zero141 : HL.zeroT Tryz.prog 141 = some (.nilFunc) := by kernel_rfl
@[go_sem] theorem T.agg142 : HL.aggN Tryz.prog 142 = some none := by kernel_rfl
@[go_sem] theorem T.size142 : HL.sizeT Tryz.prog 142 = some 1 := by kernel_rfl
@[go_sem] theorem T.bytes142 : HL.bytesT Tryz.prog 142 = some 8 := by kernel_rfl
@[go_sem] theorem T.zero142 : HL.zeroT Tryz.prog 142 = some (.nilFunc) := by kernel_rfl
@[go_sem] theorem T.agg143 : HL.aggN Tryz.prog 143 = some none := by kernel_rfl
@[go_sem] theorem T.size143 : HL.sizeT Tryz.prog 143 = some 1 := by kernel_rfl
@[go_sem] theorem T.bytes143 : HL.bytesT Tryz.prog 143 = some 8 := by kernel_rfl
@[go_sem] theorem T.zero143 : HL.zeroT Tryz.prog 143 = some (.nilFunc) := by kernel_rfl
@[go_sem] theorem T.agg144 : HL.aggN Tryz.prog 144 = some none := by kernel_rfl
@[go_sem] theorem T.size144 : HL.sizeT Tryz.prog 144 = some 1 := by kernel_rfl
@[go_sem] theorem T.bytes144 : HL.bytesT Tryz.prog 144 = some 8 := by kernel_rfl
@[go_sem] theorem T.zero144 : HL.zeroT Tryz.prog 144 = some (.nilFunc) := by kernel_rfl
@[go_sem] theorem T.agg145 : HL.aggN Tryz.prog 145 = some none := by kernel_rfl
@[go_sem] theorem T.size145 : HL.sizeT Tryz.prog 145 = some 1 := by kernel_rfl
@[go_sem] theorem T.bytes145 : HL.bytesT Tryz.prog 145 = some 8 := by kernel_rfl
@[go_sem] theorem T.zero145 : HL.zeroT Tryz.prog 145 = some (.nilFunc) := by kernel_rfl
@[go_sem] theorem T.agg146 : HL.aggN Tryz.prog 146 = some none := by kernel_rfl
@[go_sem] theorem T.size146 : HL.sizeT Tryz.prog 146 = some 1 := by kernel_rfl
@[go_sem] theorem T.bytes146 : HL.bytesT Tryz.prog 146 = some 8 := by kernel_rfl
@[go_sem] theorem T.zero146 : HL.zeroT Tryz.prog 146 = some (.pointer none) := by kernel_rfl
@[go_sem] theorem T.agg147 : HL.aggN Tryz.prog 147 = some none := by kernel_rfl
@[go_sem] theorem T.size147 : HL.sizeT Tryz.prog 147 = some 1 := by kernel_rfl
@[go_sem] theorem T.bytes147 : HL.bytesT Tryz.prog 147 = some 8 := by kernel_rfl
@[go_sem] theorem T.zero147 : HL.zeroT Tryz.prog 147 = some (.nilFunc) := by kernel_rfl
@[go_sem] theorem T.agg148 : HL.aggN Tryz.prog 148 = some none := by kernel_rfl
@[go_sem] theorem T.size148 : HL.sizeT Tryz.prog 148 = some 1 := by kernel_rfl
@[go_sem] theorem T.bytes148 : HL.bytesT Tryz.prog 148 = some 8 := by kernel_rfl
@[go_sem] theorem T.zero148 : HL.zeroT Tryz.prog 148 = some (.nilFunc) := by kernel_rfl
@[go_sem] theorem T.agg149 : HL.aggN Tryz.prog 149 = some (some 2) := by kernel_rfl
@[go_sem] theorem T.size149 : HL.sizeT Tryz.prog 149 = some 2 := by kernel_rfl
@[go_sem] theorem T.bytes149 : HL.bytesT Tryz.prog 149 = some 16 := by kernel_rfl
@[go_sem] theorem T.zero149 : HL.zeroT Tryz.prog 149 = some (.agg #[.int .i64 0, .int .i64 0]) := by kernel_rfl
@[go_sem] theorem T.places149 : HL.placesT Tryz.prog 149 = none := by kernel_rfl
@[go_sem] theorem T.arr149 : HL.arrT Tryz.prog 149 = some (2, 3) := by kernel_rfl
@[go_sem] theorem T.arrS149 : HL.arrS Tryz.prog 149 = some (2, 1) := by kernel_rfl
@[go_sem] theorem T.agg150 : HL.aggN Tryz.prog 150 = some none := by kernel_rfl
@[go_sem] theorem T.size150 : HL.sizeT Tryz.prog 150 = some 1 := by kernel_rfl
@[go_sem] theorem T.bytes150 : HL.bytesT Tryz.prog 150 = some 8 := by kernel_rfl
@[go_sem] theorem T.zero150 : HL.zeroT Tryz.prog 150 = some (.nilFunc) := by kernel_rfl
@[go_sem] theorem T.agg151 : HL.aggN Tryz.prog 151 = some none := by kernel_rfl
@[go_sem] theorem T.size151 : HL.sizeT Tryz.prog 151 = some 1 := by kernel_rfl
@[go_sem] theorem T.bytes151 : HL.bytesT Tryz.prog 151 = some 8 := by kernel_rfl
@[go_sem] theorem T.zero151 : HL.zeroT Tryz.prog 151 = some (.nilFunc) := by kernel_rfl
@[go_sem] theorem T.agg152 : HL.aggN Tryz.prog 152 = some none := by kernel_rfl
@[go_sem] theorem T.size152 : HL.sizeT Tryz.prog 152 = some 1 := by kernel_rfl
@[go_sem] theorem T.bytes152 : HL.bytesT Tryz.prog 152 = some 8 := by kernel_rfl
@[go_sem] theorem T.zero152 : HL.zeroT Tryz.prog 152 = some (.nilFunc) := by kernel_rfl
@[go_sem] theorem T.agg153 : HL.aggN Tryz.prog 153 = some none := by kernel_rfl
@[go_sem] theorem T.size153 : HL.sizeT Tryz.prog 153 = some 1 := by kernel_rfl
@[go_sem] theorem T.bytes153 : HL.bytesT Tryz.prog 153 = some 8 := by kernel_rfl
@[go_sem] theorem T.zero153 : HL.zeroT Tryz.prog 153 = some (.nilFunc) := by kernel_rfl
@[go_sem] theorem T.agg154 : HL.aggN Tryz.prog 154 = some none := by kernel_rfl
@[go_sem] theorem T.size154 : HL.sizeT Tryz.prog 154 = some 1 := by kernel_rfl
@[go_sem] theorem T.bytes154 : HL.bytesT Tryz.prog 154 = some 8 := by kernel_rfl
@[go_sem] theorem T.zero154 : HL.zeroT Tryz.prog 154 = some (.nilFunc) := by kernel_rfl
@[go_sem] theorem T.agg155 : HL.aggN Tryz.prog 155 = some none := by kernel_rfl
@[go_sem] theorem T.size155 : HL.sizeT Tryz.prog 155 = some 1 := by kernel_rfl
@[go_sem] theorem T.bytes155 : HL.bytesT Tryz.prog 155 = some 8 := by kernel_rfl
@[go_sem] theorem T.zero155 : HL.zeroT Tryz.prog 155 = some (.int .u64 0) := by kernel_rfl
@[go_sem] theorem T.agg156 : HL.aggN Tryz.prog 156 = some none := by kernel_rfl
@[go_sem] theorem T.size156 : HL.sizeT Tryz.prog 156 = some 1 := by kernel_rfl
@[go_sem] theorem T.bytes156 : HL.bytesT Tryz.prog 156 = some 8 := by kernel_rfl
@[go_sem] theorem T.zero156 : HL.zeroT Tryz.prog 156 = some (.nilFunc) := by kernel_rfl
@[go_sem] theorem T.agg157 : HL.aggN Tryz.prog 157 = some none := by kernel_rfl
@[go_sem] theorem T.size157 : HL.sizeT Tryz.prog 157 = some 1 := by kernel_rfl
@[go_sem] theorem T.bytes157 : HL.bytesT Tryz.prog 157 = some 8 := by kernel_rfl
@[go_sem] theorem T.zero157 : HL.zeroT Tryz.prog 157 = some (.nilFunc) := by kernel_rfl
@[go_sem] theorem T.agg158 : HL.aggN Tryz.prog 158 = some none := by kernel_rfl
@[go_sem] theorem T.size158 : HL.sizeT Tryz.prog 158 = some 1 := by kernel_rfl
@[go_sem] theorem T.bytes158 : HL.bytesT Tryz.prog 158 = some 24 := by kernel_rfl
@[go_sem] theorem T.zero158 : HL.zeroT Tryz.prog 158 = some (.slice none 0 0) := by kernel_rfl
@[go_sem] theorem T.elem158 : HL.elemT Tryz.prog 158 = some 149 := by kernel_rfl
@[go_sem] theorem T.elemS158 : HL.elemS Tryz.prog 158 = some 2 := by kernel_rfl
@[go_sem] theorem T.agg159 : HL.aggN Tryz.prog 159 = some none := by kernel_rfl
@[go_sem] theorem T.size159 : HL.sizeT Tryz.prog 159 = some 1 := by kernel_rfl
@[go_sem] theorem T.bytes159 : HL.bytesT Tryz.prog 159 = some 4 := by kernel_rfl
@[go_sem] theorem T.zero159 : HL.zeroT Tryz.prog 159 = some (.int .u32 0) := by kernel_rfl
@[go_sem] theorem T.agg161 : HL.aggN Tryz.prog 161 = some none := by kernel_rfl
@[go_sem] theorem T.size161 : HL.sizeT Tryz.prog 161 = some 1 := by kernel_rfl
@[go_sem] theorem T.bytes161 : HL.bytesT Tryz.prog 161 = some 8 := by kernel_rfl
@[go_sem] theorem T.zero161 : HL.zeroT Tryz.prog 161 = some (.nilFunc) := by kernel_rfl
@[go_sem] theorem T.agg162 : HL.aggN Tryz.prog 162 = some (some 4) := by kernel_rfl
@[go_sem] theorem T.size162 : HL.sizeT Tryz.prog 162 = some 4 := by kernel_rfl
@[go_sem] theorem T.bytes162 : HL.bytesT Tryz.prog 162 = some 40 := by kernel_rfl
@[go_sem] theorem T.zero162 : HL.zeroT Tryz.prog 162 = some (.agg #[.pointer none, .pointer none, .pointer none, .string ⟨#[]⟩]) := by kernel_rfl
@[go_sem] theorem T.places162 : HL.placesT Tryz.prog 162 = some [(0, 1), (1, 1), (2, 1), (3, 1)] := by kernel_rfl
@[go_sem] theorem T.field162_0 : HL.fieldT Tryz.prog 162 0 = some (0, 17) := by kernel_rfl
@[go_sem] theorem T.fieldO162_0 : HL.fieldO Tryz.prog 162 0 = some 0 := by kernel_rfl
@[go_sem] theorem T.field162_1 : HL.fieldT Tryz.prog 162 1 = some (1, 17) := by kernel_rfl
@[go_sem] theorem T.fieldO162_1 : HL.fieldO Tryz.prog 162 1 = some 1 := by kernel_rfl
@[go_sem] theorem T.field162_2 : HL.fieldT Tryz.prog 162 2 = some (2, 17) := by kernel_rfl
@[go_sem] theorem T.fieldO162_2 : HL.fieldO Tryz.prog 162 2 = some 2 := by kernel_rfl
@[go_sem] theorem T.field162_3 : HL.fieldT Tryz.prog 162 3 = some (3, 9) := by kernel_rfl
@[go_sem] theorem T.fieldO162_3 : HL.fieldO Tryz.prog 162 3 = some 3 := by kernel_rfl
@[go_sem] theorem T.agg163 : HL.aggN Tryz.prog 163 = some (some 4) := by kernel_rfl
@[go_sem] theorem T.size163 : HL.sizeT Tryz.prog 163 = some 4 := by kernel_rfl
@[go_sem] theorem T.bytes163 : HL.bytesT Tryz.prog 163 = some 40 := by kernel_rfl
@[go_sem] theorem T.zero163 : HL.zeroT Tryz.prog 163 = some (.agg #[.pointer none, .pointer none, .pointer none, .string ⟨#[]⟩]) := by kernel_rfl
@[go_sem] theorem T.places163 : HL.placesT Tryz.prog 163 = some [(0, 1), (1, 1), (2, 1), (3, 1)] := by kernel_rfl
@[go_sem] theorem T.field163_0 : HL.fieldT Tryz.prog 163 0 = some (0, 17) := by kernel_rfl
@[go_sem] theorem T.fieldO163_0 : HL.fieldO Tryz.prog 163 0 = some 0 := by kernel_rfl
@[go_sem] theorem T.field163_1 : HL.fieldT Tryz.prog 163 1 = some (1, 17) := by kernel_rfl
@[go_sem] theorem T.fieldO163_1 : HL.fieldO Tryz.prog 163 1 = some 1 := by kernel_rfl
@[go_sem] theorem T.field163_2 : HL.fieldT Tryz.prog 163 2 = some (2, 17) := by kernel_rfl
@[go_sem] theorem T.fieldO163_2 : HL.fieldO Tryz.prog 163 2 = some 2 := by kernel_rfl
@[go_sem] theorem T.field163_3 : HL.fieldT Tryz.prog 163 3 = some (3, 9) := by kernel_rfl
@[go_sem] theorem T.fieldO163_3 : HL.fieldO Tryz.prog 163 3 = some 3 := by kernel_rfl
@[go_sem] theorem T.agg164 : HL.aggN Tryz.prog 164 = some (some 0) := by kernel_rfl
@[go_sem] theorem T.size164 : HL.sizeT Tryz.prog 164 = some 0 := by kernel_rfl
@[go_sem] theorem T.bytes164 : HL.bytesT Tryz.prog 164 = some 0 := by kernel_rfl
@[go_sem] theorem T.zero164 : HL.zeroT Tryz.prog 164 = some (.agg #[]) := by kernel_rfl
@[go_sem] theorem T.places164 : HL.placesT Tryz.prog 164 = none := by kernel_rfl
@[go_sem] theorem T.arr164 : HL.arrT Tryz.prog 164 = some (0, 16) := by kernel_rfl
@[go_sem] theorem T.arrS164 : HL.arrS Tryz.prog 164 = some (0, 1) := by kernel_rfl
@[go_sem] theorem T.agg165 : HL.aggN Tryz.prog 165 = some (some 0) := by kernel_rfl
@[go_sem] theorem T.size165 : HL.sizeT Tryz.prog 165 = some 0 := by kernel_rfl
@[go_sem] theorem T.bytes165 : HL.bytesT Tryz.prog 165 = some 0 := by kernel_rfl
@[go_sem] theorem T.zero165 : HL.zeroT Tryz.prog 165 = some (.agg #[]) := by kernel_rfl
@[go_sem] theorem T.places165 : HL.placesT Tryz.prog 165 = some [(0, 0)] := by kernel_rfl
@[go_sem] theorem T.field165_0 : HL.fieldT Tryz.prog 165 0 = some (0, 164) := by kernel_rfl
@[go_sem] theorem T.agg166 : HL.aggN Tryz.prog 166 = some (some 0) := by kernel_rfl
@[go_sem] theorem T.size166 : HL.sizeT Tryz.prog 166 = some 0 := by kernel_rfl
@[go_sem] theorem T.bytes166 : HL.bytesT Tryz.prog 166 = some 0 := by kernel_rfl
@[go_sem] theorem T.zero166 : HL.zeroT Tryz.prog 166 = some (.agg #[]) := by kernel_rfl
@[go_sem] theorem T.places166 : HL.placesT Tryz.prog 166 = some [(0, 0)] := by kernel_rfl
@[go_sem] theorem T.field166_0 : HL.fieldT Tryz.prog 166 0 = some (0, 164) := by kernel_rfl
@[go_sem] theorem T.agg167 : HL.aggN Tryz.prog 167 = some none := by kernel_rfl
@[go_sem] theorem T.size167 : HL.sizeT Tryz.prog 167 = some 1 := by kernel_rfl
@[go_sem] theorem T.bytes167 : HL.bytesT Tryz.prog 167 = some 1 := by kernel_rfl
@[go_sem] theorem T.zero167 : HL.zeroT Tryz.prog 167 = some (.int .u8 0) := by kernel_rfl
@[go_sem] theorem T.agg168 : HL.aggN Tryz.prog 168 = some none := by kernel_rfl
@[go_sem] theorem T.size168 : HL.sizeT Tryz.prog 168 = some 1 := by kernel_rfl
@[go_sem] theorem T.bytes168 : HL.bytesT Tryz.prog 168 = some 1 := by kernel_rfl
@[go_sem] theorem T.zero168 : HL.zeroT Tryz.prog 168 = some (.int .u8 0) := by kernel_rfl
@[go_sem] theorem T.agg169 : HL.aggN Tryz.prog 169 = some none := by kernel_rfl
@[go_sem] theorem T.size169 : HL.sizeT Tryz.prog 169 = some 1 := by kernel_rfl
@[go_sem] theorem T.bytes169 : HL.bytesT Tryz.prog 169 = some 8 := by kernel_rfl
@[go_sem] theorem T.zero169 : HL.zeroT Tryz.prog 169 = some (.nilFunc) := by kernel_rfl
@[go_sem] theorem T.agg170 : HL.aggN Tryz.prog 170 = some none := by kernel_rfl
@[go_sem] theorem T.size170 : HL.sizeT Tryz.prog 170 = some 1 := by kernel_rfl
@[go_sem] theorem T.bytes170 : HL.bytesT Tryz.prog 170 = some 8 := by kernel_rfl
@[go_sem] theorem T.zero170 : HL.zeroT Tryz.prog 170 = some (.pointer none) := by kernel_rfl
@[go_sem] theorem T.agg171 : HL.aggN Tryz.prog 171 = some none := by kernel_rfl
@[go_sem] theorem T.size171 : HL.sizeT Tryz.prog 171 = some 1 := by kernel_rfl
@[go_sem] theorem T.bytes171 : HL.bytesT Tryz.prog 171 = some 4 := by kernel_rfl
@[go_sem] theorem T.zero171 : HL.zeroT Tryz.prog 171 = some (.int .i32 0) := by kernel_rfl
@[go_sem] theorem T.agg172 : HL.aggN Tryz.prog 172 = some none := by kernel_rfl
@[go_sem] theorem T.size172 : HL.sizeT Tryz.prog 172 = some 1 := by kernel_rfl
@[go_sem] theorem T.bytes172 : HL.bytesT Tryz.prog 172 = some 4 := by kernel_rfl
@[go_sem] theorem T.zero172 : HL.zeroT Tryz.prog 172 = some (.int .i32 0) := by kernel_rfl
@[go_sem] theorem T.agg173 : HL.aggN Tryz.prog 173 = some (some 11) := by kernel_rfl
@[go_sem] theorem T.size173 : HL.sizeT Tryz.prog 173 = some 11 := by kernel_rfl
@[go_sem] theorem T.bytes173 : HL.bytesT Tryz.prog 173 = some 48 := by kernel_rfl
@[go_sem] theorem T.zero173 : HL.zeroT Tryz.prog 173 = some (.agg #[.int .u64 0, .int .u64 0, .int .u32 0, .int .u8 0, .int .u8 0, .int .u8 0, .int .u8 0, .nilFunc, .pointer none, .int .i32 0, .int .i32 0]) := by kernel_rfl
@[go_sem] theorem T.places173 : HL.placesT Tryz.prog 173 = some [(0, 1), (1, 1), (2, 1), (3, 1), (4, 1), (5, 1), (6, 1), (7, 1), (8, 1), (9, 1), (10, 1)] := by kernel_rfl
@[go_sem] theorem T.field173_0 : HL.fieldT Tryz.prog 173 0 = some (0, 12) := by kernel_rfl
@[go_sem] theorem T.fieldO173_0 : HL.fieldO Tryz.prog 173 0 = some 0 := by kernel_rfl
@[go_sem] theorem T.field173_1 : HL.fieldT Tryz.prog 173 1 = some (1, 12) := by kernel_rfl
@[go_sem] theorem T.fieldO173_1 : HL.fieldO Tryz.prog 173 1 = some 1 := by kernel_rfl
@[go_sem] theorem T.field173_2 : HL.fieldT Tryz.prog 173 2 = some (2, 159) := by kernel_rfl
@[go_sem] theorem T.fieldO173_2 : HL.fieldO Tryz.prog 173 2 = some 2 := by kernel_rfl
@[go_sem] theorem T.field173_3 : HL.fieldT Tryz.prog 173 3 = some (3, 167) := by kernel_rfl
@[go_sem] theorem T.fieldO173_3 : HL.fieldO Tryz.prog 173 3 = some 3 := by kernel_rfl
@[go_sem] theorem T.field173_4 : HL.fieldT Tryz.prog 173 4 = some (4, 5) := by kernel_rfl
@[go_sem] theorem T.fieldO173_4 : HL.fieldO Tryz.prog 173 4 = some 4 := by kernel_rfl
@[go_sem] theorem T.field173_5 : HL.fieldT Tryz.prog 173 5 = some (5, 5) := by kernel_rfl
@[go_sem] theorem T.fieldO173_5 : HL.fieldO Tryz.prog 173 5 = some 5 := by kernel_rfl
@[go_sem] theorem T.field173_6 : HL.fieldT Tryz.prog 173 6 = some (6, 168) := by kernel_rfl
@[go_sem] theorem T.fieldO173_6 : HL.fieldO Tryz.prog 173 6 = some 6 := by kernel_rfl
@[go_sem] theorem T.field173_7 : HL.fieldT Tryz.prog 173 7 = some (7, 169) := by kernel_rfl
@[go_sem] theorem T.fieldO173_7 : HL.fieldO Tryz.prog 173 7 = some 7 := by kernel_rfl
@[go_sem] theorem T.field173_8 : HL.fieldT Tryz.prog 173 8 = some (8, 170) := by kernel_rfl
@[go_sem] theorem T.fieldO173_8 : HL.fieldO Tryz.prog 173 8 = some 8 := by kernel_rfl
@[go_sem] theorem T.field173_9 : HL.fieldT Tryz.prog 173 9 = some (9, 171) := by kernel_rfl
@[go_sem] theorem T.fieldO173_9 : HL.fieldO Tryz.prog 173 9 = some 9 := by kernel_rfl
@[go_sem] theorem T.field173_10 : HL.fieldT Tryz.prog 173 10 = some (10, 172) := by kernel_rfl
@[go_sem] theorem T.fieldO173_10 : HL.fieldO Tryz.prog 173 10 = some 10 := by kernel_rfl
@[go_sem] theorem T.agg174 : HL.aggN Tryz.prog 174 = some (some 11) := by kernel_rfl
@[go_sem] theorem T.size174 : HL.sizeT Tryz.prog 174 = some 11 := by kernel_rfl
@[go_sem] theorem T.bytes174 : HL.bytesT Tryz.prog 174 = some 48 := by kernel_rfl
@[go_sem] theorem T.zero174 : HL.zeroT Tryz.prog 174 = some (.agg #[.int .u64 0, .int .u64 0, .int .u32 0, .int .u8 0, .int .u8 0, .int .u8 0, .int .u8 0, .nilFunc, .pointer none, .int .i32 0, .int .i32 0]) := by kernel_rfl
@[go_sem] theorem T.places174 : HL.placesT Tryz.prog 174 = some [(0, 1), (1, 1), (2, 1), (3, 1), (4, 1), (5, 1), (6, 1), (7, 1), (8, 1), (9, 1), (10, 1)] := by kernel_rfl
@[go_sem] theorem T.field174_0 : HL.fieldT Tryz.prog 174 0 = some (0, 12) := by kernel_rfl
@[go_sem] theorem T.fieldO174_0 : HL.fieldO Tryz.prog 174 0 = some 0 := by kernel_rfl
@[go_sem] theorem T.field174_1 : HL.fieldT Tryz.prog 174 1 = some (1, 12) := by kernel_rfl
@[go_sem] theorem T.fieldO174_1 : HL.fieldO Tryz.prog 174 1 = some 1 := by kernel_rfl
@[go_sem] theorem T.field174_2 : HL.fieldT Tryz.prog 174 2 = some (2, 159) := by kernel_rfl
@[go_sem] theorem T.fieldO174_2 : HL.fieldO Tryz.prog 174 2 = some 2 := by kernel_rfl
@[go_sem] theorem T.field174_3 : HL.fieldT Tryz.prog 174 3 = some (3, 167) := by kernel_rfl
@[go_sem] theorem T.fieldO174_3 : HL.fieldO Tryz.prog 174 3 = some 3 := by kernel_rfl
@[go_sem] theorem T.field174_4 : HL.fieldT Tryz.prog 174 4 = some (4, 5) := by kernel_rfl
@[go_sem] theorem T.fieldO174_4 : HL.fieldO Tryz.prog 174 4 = some 4 := by kernel_rfl
@[go_sem] theorem T.field174_5 : HL.fieldT Tryz.prog 174 5 = some (5, 5) := by kernel_rfl
@[go_sem] theorem T.fieldO174_5 : HL.fieldO Tryz.prog 174 5 = some 5 := by kernel_rfl
@[go_sem] theorem T.field174_6 : HL.fieldT Tryz.prog 174 6 = some (6, 168) := by kernel_rfl
@[go_sem] theorem T.fieldO174_6 : HL.fieldO Tryz.prog 174 6 = some 6 := by kernel_rfl
@[go_sem] theorem T.field174_7 : HL.fieldT Tryz.prog 174 7 = some (7, 169) := by kernel_rfl
@[go_sem] theorem T.fieldO174_7 : HL.fieldO Tryz.prog 174 7 = some 7 := by kernel_rfl
@[go_sem] theorem T.field174_8 : HL.fieldT Tryz.prog 174 8 = some (8, 170) := by kernel_rfl
@[go_sem] theorem T.fieldO174_8 : HL.fieldO Tryz.prog 174 8 = some 8 := by kernel_rfl
@[go_sem] theorem T.field174_9 : HL.fieldT Tryz.prog 174 9 = some (9, 171) := by kernel_rfl
@[go_sem] theorem T.fieldO174_9 : HL.fieldO Tryz.prog 174 9 = some 9 := by kernel_rfl
@[go_sem] theorem T.field174_10 : HL.fieldT Tryz.prog 174 10 = some (10, 172) := by kernel_rfl
@[go_sem] theorem T.fieldO174_10 : HL.fieldO Tryz.prog 174 10 = some 10 := by kernel_rfl
@[go_sem] theorem T.agg175 : HL.aggN Tryz.prog 175 = some none := by kernel_rfl
@[go_sem] theorem T.size175 : HL.sizeT Tryz.prog 175 = some 1 := by kernel_rfl
@[go_sem] theorem T.bytes175 : HL.bytesT Tryz.prog 175 = some 8 := by kernel_rfl
@[go_sem] theorem T.zero175 : HL.zeroT Tryz.prog 175 = some (.pointer none) := by kernel_rfl
theorem T.el22 : HL.ElT Tryz.prog 22 45 5 88 (.agg #[.int .i64 0, .slice none 0 0, .slice none 0 0, .slice none 0 0, .int .i64 0]) := ⟨T.elem22, T.size45, T.bytes45, T.zero45⟩
@[go_sem] theorem T.bs22_0 {H : HL.Heap} : HL.buildSliceV Tryz.prog H 22 0 [] = some (.slice (some ⟨H.size, 0, none⟩) 0 0, H.push (.cells #[] 45)) := HL.bs_zero T.elem22 T.size45 T.zero45
theorem T.el29 : HL.ElT Tryz.prog 29 66 5 40 (.agg #[.string ⟨#[]⟩, .int .i64 0, .int .i64 0, .bool false, .bool false]) := ⟨T.elem29, T.size66, T.bytes66, T.zero66⟩
@[go_sem] theorem T.bs29_0 {H : HL.Heap} : HL.buildSliceV Tryz.prog H 29 0 [] = some (.slice (some ⟨H.size, 0, none⟩) 0 0, H.push (.cells #[] 66)) := HL.bs_zero T.elem29 T.size66 T.zero66
theorem T.el30 : HL.ElT Tryz.prog 30 68 3 32 (.agg #[.string ⟨#[]⟩, .int .i64 0, .int .i64 0]) := ⟨T.elem30, T.size68, T.bytes68, T.zero68⟩
@[go_sem] theorem T.bs30_0 {H : HL.Heap} : HL.buildSliceV Tryz.prog H 30 0 [] = some (.slice (some ⟨H.size, 0, none⟩) 0 0, H.push (.cells #[] 68)) := HL.bs_zero T.elem30 T.size68 T.zero68
theorem T.el31 : HL.ElT Tryz.prog 31 56 8 152 (.agg #[.string ⟨#[]⟩, .int .i64 0, .slice none 0 0, .int .i64 0, .slice none 0 0, .slice none 0 0, .slice none 0 0, .slice none 0 0]) := ⟨T.elem31, T.size56, T.bytes56, T.zero56⟩
@[go_sem] theorem T.bs31_0 {H : HL.Heap} : HL.buildSliceV Tryz.prog H 31 0 [] = some (.slice (some ⟨H.size, 0, none⟩) 0 0, H.push (.cells #[] 56)) := HL.bs_zero T.elem31 T.size56 T.zero56
theorem T.el32 : HL.ElT Tryz.prog 32 3 1 8 (.int .i64 0) := ⟨T.elem32, T.size3, T.bytes3, T.zero3⟩
@[go_sem] theorem T.bs32_1 {H : HL.Heap} {k0 : IntKind} {n0 : Int} : HL.buildSliceV Tryz.prog H 32 1 [(0, .int k0 n0)] = some (.slice (some ⟨H.size, 0, none⟩) 1 1, H.push (.cells #[.int k0 n0] 3)) := HL.bs_one T.elem32 T.size3 T.zero3 rfl
@[go_sem] theorem T.bs32_2 {H : HL.Heap} {k0 : IntKind} {n0 : Int} {k1 : IntKind} {n1 : Int} : HL.buildSliceV Tryz.prog H 32 2 [(0, .int k0 n0), (1, .int k1 n1)] = some (.slice (some ⟨H.size, 0, none⟩) 2 2, H.push (.cells #[.int k0 n0, .int k1 n1] 3)) := HL.bs_two T.elem32 T.size3 T.zero3 rfl rfl
@[go_sem] theorem T.bs32_3 {H : HL.Heap} {k0 : IntKind} {n0 : Int} {k1 : IntKind} {n1 : Int} {k2 : IntKind} {n2 : Int} : HL.buildSliceV Tryz.prog H 32 3 [(0, .int k0 n0), (1, .int k1 n1), (2, .int k2 n2)] = some (.slice (some ⟨H.size, 0, none⟩) 3 3, H.push (.cells #[.int k0 n0, .int k1 n1, .int k2 n2] 3)) := HL.bs_three T.elem32 T.size3 T.zero3 rfl rfl rfl
@[go_sem] theorem T.bs32_4 {H : HL.Heap} {k0 : IntKind} {n0 : Int} {k1 : IntKind} {n1 : Int} {k2 : IntKind} {n2 : Int} {k3 : IntKind} {n3 : Int} : HL.buildSliceV Tryz.prog H 32 4 [(0, .int k0 n0), (1, .int k1 n1), (2, .int k2 n2), (3, .int k3 n3)] = some (.slice (some ⟨H.size, 0, none⟩) 4 4, H.push (.cells #[.int k0 n0, .int k1 n1, .int k2 n2, .int k3 n3] 3)) := HL.bs_four T.elem32 T.size3 T.zero3 rfl rfl rfl rfl
@[go_sem] theorem T.bs32_0 {H : HL.Heap} : HL.buildSliceV Tryz.prog H 32 0 [] = some (.slice (some ⟨H.size, 0, none⟩) 0 0, H.push (.cells #[] 3)) := HL.bs_zero T.elem32 T.size3 T.zero3
theorem T.el43 : HL.ElT Tryz.prog 43 9 1 16 (.string ⟨#[]⟩) := ⟨T.elem43, T.size9, T.bytes9, T.zero9⟩
@[go_sem] theorem T.bs43_1 {H : HL.Heap} {n0 : ByteArray} : HL.buildSliceV Tryz.prog H 43 1 [(0, .string n0)] = some (.slice (some ⟨H.size, 0, none⟩) 1 1, H.push (.cells #[.string n0] 9)) := HL.bs_one T.elem43 T.size9 T.zero9 rfl
@[go_sem] theorem T.bs43_2 {H : HL.Heap} {n0 : ByteArray} {n1 : ByteArray} : HL.buildSliceV Tryz.prog H 43 2 [(0, .string n0), (1, .string n1)] = some (.slice (some ⟨H.size, 0, none⟩) 2 2, H.push (.cells #[.string n0, .string n1] 9)) := HL.bs_two T.elem43 T.size9 T.zero9 rfl rfl
@[go_sem] theorem T.bs43_3 {H : HL.Heap} {n0 : ByteArray} {n1 : ByteArray} {n2 : ByteArray} : HL.buildSliceV Tryz.prog H 43 3 [(0, .string n0), (1, .string n1), (2, .string n2)] = some (.slice (some ⟨H.size, 0, none⟩) 3 3, H.push (.cells #[.string n0, .string n1, .string n2] 9)) := HL.bs_three T.elem43 T.size9 T.zero9 rfl rfl rfl
@[go_sem] theorem T.bs43_4 {H : HL.Heap} {n0 : ByteArray} {n1 : ByteArray} {n2 : ByteArray} {n3 : ByteArray} : HL.buildSliceV Tryz.prog H 43 4 [(0, .string n0), (1, .string n1), (2, .string n2), (3, .string n3)] = some (.slice (some ⟨H.size, 0, none⟩) 4 4, H.push (.cells #[.string n0, .string n1, .string n2, .string n3] 9)) := HL.bs_four T.elem43 T.size9 T.zero9 rfl rfl rfl rfl
@[go_sem] theorem T.bs43_0 {H : HL.Heap} : HL.buildSliceV Tryz.prog H 43 0 [] = some (.slice (some ⟨H.size, 0, none⟩) 0 0, H.push (.cells #[] 9)) := HL.bs_zero T.elem43 T.size9 T.zero9
theorem T.el53 : HL.ElT Tryz.prog 53 4 1 1 (.bool false) := ⟨T.elem53, T.size4, T.bytes4, T.zero4⟩
@[go_sem] theorem T.bs53_1 {H : HL.Heap} {n0 : Bool} : HL.buildSliceV Tryz.prog H 53 1 [(0, .bool n0)] = some (.slice (some ⟨H.size, 0, none⟩) 1 1, H.push (.cells #[.bool n0] 4)) := HL.bs_one T.elem53 T.size4 T.zero4 rfl
@[go_sem] theorem T.bs53_2 {H : HL.Heap} {n0 : Bool} {n1 : Bool} : HL.buildSliceV Tryz.prog H 53 2 [(0, .bool n0), (1, .bool n1)] = some (.slice (some ⟨H.size, 0, none⟩) 2 2, H.push (.cells #[.bool n0, .bool n1] 4)) := HL.bs_two T.elem53 T.size4 T.zero4 rfl rfl
@[go_sem] theorem T.bs53_3 {H : HL.Heap} {n0 : Bool} {n1 : Bool} {n2 : Bool} : HL.buildSliceV Tryz.prog H 53 3 [(0, .bool n0), (1, .bool n1), (2, .bool n2)] = some (.slice (some ⟨H.size, 0, none⟩) 3 3, H.push (.cells #[.bool n0, .bool n1, .bool n2] 4)) := HL.bs_three T.elem53 T.size4 T.zero4 rfl rfl rfl
@[go_sem] theorem T.bs53_4 {H : HL.Heap} {n0 : Bool} {n1 : Bool} {n2 : Bool} {n3 : Bool} : HL.buildSliceV Tryz.prog H 53 4 [(0, .bool n0), (1, .bool n1), (2, .bool n2), (3, .bool n3)] = some (.slice (some ⟨H.size, 0, none⟩) 4 4, H.push (.cells #[.bool n0, .bool n1, .bool n2, .bool n3] 4)) := HL.bs_four T.elem53 T.size4 T.zero4 rfl rfl rfl rfl
@[go_sem] theorem T.bs53_0 {H : HL.Heap} : HL.buildSliceV Tryz.prog H 53 0 [] = some (.slice (some ⟨H.size, 0, none⟩) 0 0, H.push (.cells #[] 4)) := HL.bs_zero T.elem53 T.size4 T.zero4
theorem T.el54 : HL.ElT Tryz.prog 54 58 8 64 (.agg #[.int .i64 0, .int .i64 0, .int .i64 0, .int .i64 0, .int .i64 0, .int .i64 0, .bool false, .int .i64 0]) := ⟨T.elem54, T.size58, T.bytes58, T.zero58⟩
@[go_sem] theorem T.bs54_0 {H : HL.Heap} : HL.buildSliceV Tryz.prog H 54 0 [] = some (.slice (some ⟨H.size, 0, none⟩) 0 0, H.push (.cells #[] 58)) := HL.bs_zero T.elem54 T.size58 T.zero58
theorem T.el71 : HL.ElT Tryz.prog 71 119 3 32 (.agg #[.int .i64 0, .string ⟨#[]⟩, .int .i64 0]) := ⟨T.elem71, T.size119, T.bytes119, T.zero119⟩
@[go_sem] theorem T.bs71_0 {H : HL.Heap} : HL.buildSliceV Tryz.prog H 71 0 [] = some (.slice (some ⟨H.size, 0, none⟩) 0 0, H.push (.cells #[] 119)) := HL.bs_zero T.elem71 T.size119 T.zero119
theorem T.el77 : HL.ElT Tryz.prog 77 79 6 112 (.agg #[.int .i64 0, .slice none 0 0, .slice none 0 0, .slice none 0 0, .int .i64 0, .slice none 0 0]) := ⟨T.elem77, T.size79, T.bytes79, T.zero79⟩
@[go_sem] theorem T.bs77_0 {H : HL.Heap} : HL.buildSliceV Tryz.prog H 77 0 [] = some (.slice (some ⟨H.size, 0, none⟩) 0 0, H.push (.cells #[] 79)) := HL.bs_zero T.elem77 T.size79 T.zero79
theorem T.el158 : HL.ElT Tryz.prog 158 149 2 16 (.agg #[.int .i64 0, .int .i64 0]) := ⟨T.elem158, T.size149, T.bytes149, T.zero149⟩
@[go_sem] theorem T.bs158_0 {H : HL.Heap} : HL.buildSliceV Tryz.prog H 158 0 [] = some (.slice (some ⟨H.size, 0, none⟩) 0 0, H.push (.cells #[] 149)) := HL.bs_zero T.elem158 T.size149 T.zero149
@[go_sem] theorem T.pe15 {H : HL.Heap} {xo yo : Operand} {a : Addr} : HL.binV Tryz.prog (HL.full H) .eql 15 xo yo (.pointer (some a)) (.pointer none) = some (.bool false) := HL.bin_ptr_eql Tryz.underlying15
@[go_sem] theorem T.pn15 {H : HL.Heap} {xo yo : Operand} {a : Addr} : HL.binV Tryz.prog (HL.full H) .neq 15 xo yo (.pointer (some a)) (.pointer none) = some (.bool true) := HL.bin_ptr_neq Tryz.underlying15
@[go_sem] theorem T.ne15 {H : HL.Heap} {xo yo : Operand} : HL.binV Tryz.prog (HL.full H) .eql 15 xo yo (.pointer none) (.pointer none) = some (.bool true) := HL.bin_nil_eql Tryz.underlying15
@[go_sem] theorem T.nn15 {H : HL.Heap} {xo yo : Operand} : HL.binV Tryz.prog (HL.full H) .neq 15 xo yo (.pointer none) (.pointer none) = some (.bool false) := HL.bin_nil_neq Tryz.underlying15
@[go_sem] theorem T.pe16 {H : HL.Heap} {xo yo : Operand} {a : Addr} : HL.binV Tryz.prog (HL.full H) .eql 16 xo yo (.pointer (some a)) (.pointer none) = some (.bool false) := HL.bin_ptr_eql Tryz.underlying16
@[go_sem] theorem T.pn16 {H : HL.Heap} {xo yo : Operand} {a : Addr} : HL.binV Tryz.prog (HL.full H) .neq 16 xo yo (.pointer (some a)) (.pointer none) = some (.bool true) := HL.bin_ptr_neq Tryz.underlying16
@[go_sem] theorem T.ne16 {H : HL.Heap} {xo yo : Operand} : HL.binV Tryz.prog (HL.full H) .eql 16 xo yo (.pointer none) (.pointer none) = some (.bool true) := HL.bin_nil_eql Tryz.underlying16
@[go_sem] theorem T.nn16 {H : HL.Heap} {xo yo : Operand} : HL.binV Tryz.prog (HL.full H) .neq 16 xo yo (.pointer none) (.pointer none) = some (.bool false) := HL.bin_nil_neq Tryz.underlying16
@[go_sem] theorem T.pe17 {H : HL.Heap} {xo yo : Operand} {a : Addr} : HL.binV Tryz.prog (HL.full H) .eql 17 xo yo (.pointer (some a)) (.pointer none) = some (.bool false) := HL.bin_ptr_eql Tryz.underlying17
@[go_sem] theorem T.pn17 {H : HL.Heap} {xo yo : Operand} {a : Addr} : HL.binV Tryz.prog (HL.full H) .neq 17 xo yo (.pointer (some a)) (.pointer none) = some (.bool true) := HL.bin_ptr_neq Tryz.underlying17
@[go_sem] theorem T.ne17 {H : HL.Heap} {xo yo : Operand} : HL.binV Tryz.prog (HL.full H) .eql 17 xo yo (.pointer none) (.pointer none) = some (.bool true) := HL.bin_nil_eql Tryz.underlying17
@[go_sem] theorem T.nn17 {H : HL.Heap} {xo yo : Operand} : HL.binV Tryz.prog (HL.full H) .neq 17 xo yo (.pointer none) (.pointer none) = some (.bool false) := HL.bin_nil_neq Tryz.underlying17
@[go_sem] theorem T.pe74 {H : HL.Heap} {xo yo : Operand} {a : Addr} : HL.binV Tryz.prog (HL.full H) .eql 74 xo yo (.pointer (some a)) (.pointer none) = some (.bool false) := HL.bin_ptr_eql Tryz.underlying74
@[go_sem] theorem T.pn74 {H : HL.Heap} {xo yo : Operand} {a : Addr} : HL.binV Tryz.prog (HL.full H) .neq 74 xo yo (.pointer (some a)) (.pointer none) = some (.bool true) := HL.bin_ptr_neq Tryz.underlying74
@[go_sem] theorem T.ne74 {H : HL.Heap} {xo yo : Operand} : HL.binV Tryz.prog (HL.full H) .eql 74 xo yo (.pointer none) (.pointer none) = some (.bool true) := HL.bin_nil_eql Tryz.underlying74
@[go_sem] theorem T.nn74 {H : HL.Heap} {xo yo : Operand} : HL.binV Tryz.prog (HL.full H) .neq 74 xo yo (.pointer none) (.pointer none) = some (.bool false) := HL.bin_nil_neq Tryz.underlying74
@[go_sem] theorem T.pe85 {H : HL.Heap} {xo yo : Operand} {a : Addr} : HL.binV Tryz.prog (HL.full H) .eql 85 xo yo (.pointer (some a)) (.pointer none) = some (.bool false) := HL.bin_ptr_eql Tryz.underlying85
@[go_sem] theorem T.pn85 {H : HL.Heap} {xo yo : Operand} {a : Addr} : HL.binV Tryz.prog (HL.full H) .neq 85 xo yo (.pointer (some a)) (.pointer none) = some (.bool true) := HL.bin_ptr_neq Tryz.underlying85
@[go_sem] theorem T.ne85 {H : HL.Heap} {xo yo : Operand} : HL.binV Tryz.prog (HL.full H) .eql 85 xo yo (.pointer none) (.pointer none) = some (.bool true) := HL.bin_nil_eql Tryz.underlying85
@[go_sem] theorem T.nn85 {H : HL.Heap} {xo yo : Operand} : HL.binV Tryz.prog (HL.full H) .neq 85 xo yo (.pointer none) (.pointer none) = some (.bool false) := HL.bin_nil_neq Tryz.underlying85
@[go_sem] theorem T.pe88 {H : HL.Heap} {xo yo : Operand} {a : Addr} : HL.binV Tryz.prog (HL.full H) .eql 88 xo yo (.pointer (some a)) (.pointer none) = some (.bool false) := HL.bin_ptr_eql Tryz.underlying88
@[go_sem] theorem T.pn88 {H : HL.Heap} {xo yo : Operand} {a : Addr} : HL.binV Tryz.prog (HL.full H) .neq 88 xo yo (.pointer (some a)) (.pointer none) = some (.bool true) := HL.bin_ptr_neq Tryz.underlying88
@[go_sem] theorem T.ne88 {H : HL.Heap} {xo yo : Operand} : HL.binV Tryz.prog (HL.full H) .eql 88 xo yo (.pointer none) (.pointer none) = some (.bool true) := HL.bin_nil_eql Tryz.underlying88
@[go_sem] theorem T.nn88 {H : HL.Heap} {xo yo : Operand} : HL.binV Tryz.prog (HL.full H) .neq 88 xo yo (.pointer none) (.pointer none) = some (.bool false) := HL.bin_nil_neq Tryz.underlying88
@[go_sem] theorem T.pe93 {H : HL.Heap} {xo yo : Operand} {a : Addr} : HL.binV Tryz.prog (HL.full H) .eql 93 xo yo (.pointer (some a)) (.pointer none) = some (.bool false) := HL.bin_ptr_eql Tryz.underlying93
@[go_sem] theorem T.pn93 {H : HL.Heap} {xo yo : Operand} {a : Addr} : HL.binV Tryz.prog (HL.full H) .neq 93 xo yo (.pointer (some a)) (.pointer none) = some (.bool true) := HL.bin_ptr_neq Tryz.underlying93
@[go_sem] theorem T.ne93 {H : HL.Heap} {xo yo : Operand} : HL.binV Tryz.prog (HL.full H) .eql 93 xo yo (.pointer none) (.pointer none) = some (.bool true) := HL.bin_nil_eql Tryz.underlying93
@[go_sem] theorem T.nn93 {H : HL.Heap} {xo yo : Operand} : HL.binV Tryz.prog (HL.full H) .neq 93 xo yo (.pointer none) (.pointer none) = some (.bool false) := HL.bin_nil_neq Tryz.underlying93
@[go_sem] theorem T.pe104 {H : HL.Heap} {xo yo : Operand} {a : Addr} : HL.binV Tryz.prog (HL.full H) .eql 104 xo yo (.pointer (some a)) (.pointer none) = some (.bool false) := HL.bin_ptr_eql Tryz.underlying104
@[go_sem] theorem T.pn104 {H : HL.Heap} {xo yo : Operand} {a : Addr} : HL.binV Tryz.prog (HL.full H) .neq 104 xo yo (.pointer (some a)) (.pointer none) = some (.bool true) := HL.bin_ptr_neq Tryz.underlying104
@[go_sem] theorem T.ne104 {H : HL.Heap} {xo yo : Operand} : HL.binV Tryz.prog (HL.full H) .eql 104 xo yo (.pointer none) (.pointer none) = some (.bool true) := HL.bin_nil_eql Tryz.underlying104
@[go_sem] theorem T.nn104 {H : HL.Heap} {xo yo : Operand} : HL.binV Tryz.prog (HL.full H) .neq 104 xo yo (.pointer none) (.pointer none) = some (.bool false) := HL.bin_nil_neq Tryz.underlying104
@[go_sem] theorem T.pe131 {H : HL.Heap} {xo yo : Operand} {a : Addr} : HL.binV Tryz.prog (HL.full H) .eql 131 xo yo (.pointer (some a)) (.pointer none) = some (.bool false) := HL.bin_ptr_eql Tryz.underlying131
@[go_sem] theorem T.pn131 {H : HL.Heap} {xo yo : Operand} {a : Addr} : HL.binV Tryz.prog (HL.full H) .neq 131 xo yo (.pointer (some a)) (.pointer none) = some (.bool true) := HL.bin_ptr_neq Tryz.underlying131
@[go_sem] theorem T.ne131 {H : HL.Heap} {xo yo : Operand} : HL.binV Tryz.prog (HL.full H) .eql 131 xo yo (.pointer none) (.pointer none) = some (.bool true) := HL.bin_nil_eql Tryz.underlying131
@[go_sem] theorem T.nn131 {H : HL.Heap} {xo yo : Operand} : HL.binV Tryz.prog (HL.full H) .neq 131 xo yo (.pointer none) (.pointer none) = some (.bool false) := HL.bin_nil_neq Tryz.underlying131
@[go_sem] theorem T.pe132 {H : HL.Heap} {xo yo : Operand} {a : Addr} : HL.binV Tryz.prog (HL.full H) .eql 132 xo yo (.pointer (some a)) (.pointer none) = some (.bool false) := HL.bin_ptr_eql Tryz.underlying132
@[go_sem] theorem T.pn132 {H : HL.Heap} {xo yo : Operand} {a : Addr} : HL.binV Tryz.prog (HL.full H) .neq 132 xo yo (.pointer (some a)) (.pointer none) = some (.bool true) := HL.bin_ptr_neq Tryz.underlying132
@[go_sem] theorem T.ne132 {H : HL.Heap} {xo yo : Operand} : HL.binV Tryz.prog (HL.full H) .eql 132 xo yo (.pointer none) (.pointer none) = some (.bool true) := HL.bin_nil_eql Tryz.underlying132
@[go_sem] theorem T.nn132 {H : HL.Heap} {xo yo : Operand} : HL.binV Tryz.prog (HL.full H) .neq 132 xo yo (.pointer none) (.pointer none) = some (.bool false) := HL.bin_nil_neq Tryz.underlying132
@[go_sem] theorem T.pe146 {H : HL.Heap} {xo yo : Operand} {a : Addr} : HL.binV Tryz.prog (HL.full H) .eql 146 xo yo (.pointer (some a)) (.pointer none) = some (.bool false) := HL.bin_ptr_eql Tryz.underlying146
@[go_sem] theorem T.pn146 {H : HL.Heap} {xo yo : Operand} {a : Addr} : HL.binV Tryz.prog (HL.full H) .neq 146 xo yo (.pointer (some a)) (.pointer none) = some (.bool true) := HL.bin_ptr_neq Tryz.underlying146
@[go_sem] theorem T.ne146 {H : HL.Heap} {xo yo : Operand} : HL.binV Tryz.prog (HL.full H) .eql 146 xo yo (.pointer none) (.pointer none) = some (.bool true) := HL.bin_nil_eql Tryz.underlying146
@[go_sem] theorem T.nn146 {H : HL.Heap} {xo yo : Operand} : HL.binV Tryz.prog (HL.full H) .neq 146 xo yo (.pointer none) (.pointer none) = some (.bool false) := HL.bin_nil_neq Tryz.underlying146
@[go_sem] theorem T.pe170 {H : HL.Heap} {xo yo : Operand} {a : Addr} : HL.binV Tryz.prog (HL.full H) .eql 170 xo yo (.pointer (some a)) (.pointer none) = some (.bool false) := HL.bin_ptr_eql Tryz.underlying170
@[go_sem] theorem T.pn170 {H : HL.Heap} {xo yo : Operand} {a : Addr} : HL.binV Tryz.prog (HL.full H) .neq 170 xo yo (.pointer (some a)) (.pointer none) = some (.bool true) := HL.bin_ptr_neq Tryz.underlying170
@[go_sem] theorem T.ne170 {H : HL.Heap} {xo yo : Operand} : HL.binV Tryz.prog (HL.full H) .eql 170 xo yo (.pointer none) (.pointer none) = some (.bool true) := HL.bin_nil_eql Tryz.underlying170
@[go_sem] theorem T.nn170 {H : HL.Heap} {xo yo : Operand} : HL.binV Tryz.prog (HL.full H) .neq 170 xo yo (.pointer none) (.pointer none) = some (.bool false) := HL.bin_nil_neq Tryz.underlying170
@[go_sem] theorem T.be4 {H : HL.Heap} {xo yo : Operand} {x y : Bool} : HL.binV Tryz.prog (HL.full H) .eql 4 xo yo (.bool x) (.bool y) = some (.bool (x == y)) := HL.bin_bool_eql Tryz.underlying4
@[go_sem] theorem T.bn4 {H : HL.Heap} {xo yo : Operand} {x y : Bool} : HL.binV Tryz.prog (HL.full H) .neq 4 xo yo (.bool x) (.bool y) = some (.bool (!(x == y))) := HL.bin_bool_neq Tryz.underlying4
@[go_sem] theorem T.se27 {H : HL.Heap} {xo yo : Operand} {a0 b0 : Int} {a1 b1 : Int} : HL.binV Tryz.prog (HL.full H) .eql 27 xo yo (.agg #[.int .i64 a0, .int .i64 a1]) (.agg #[.int .i64 b0, .int .i64 b1]) = some (.bool ((decide (a0 = b0 ∧ a1 = b1 ∧ True)))) := (HL.bin_struct (xs := [.int .i64 a0, .int .i64 a1]) (ys := [.int .i64 b0, .int .i64 b1]) Tryz.underlying27 (by kernel_rfl) (by kernel_rfl) (HL.eqF_int (by decide) Tryz.underlying25 rfl rfl (HL.eqF_int (by decide) Tryz.underlying3 rfl rfl HL.eqF_nil))).1
@[go_sem] theorem T.sn27 {H : HL.Heap} {xo yo : Operand} {a0 b0 : Int} {a1 b1 : Int} : HL.binV Tryz.prog (HL.full H) .neq 27 xo yo (.agg #[.int .i64 a0, .int .i64 a1]) (.agg #[.int .i64 b0, .int .i64 b1]) = some (.bool (!(decide (a0 = b0 ∧ a1 = b1 ∧ True)))) := (HL.bin_struct (xs := [.int .i64 a0, .int .i64 a1]) (ys := [.int .i64 b0, .int .i64 b1]) Tryz.underlying27 (by kernel_rfl) (by kernel_rfl) (HL.eqF_int (by decide) Tryz.underlying25 rfl rfl (HL.eqF_int (by decide) Tryz.underlying3 rfl rfl HL.eqF_nil))).2
@[go_sem] theorem T.se58 {H : HL.Heap} {xo yo : Operand} {a0 b0 : Int} {a1 b1 : Int} {a2 b2 : Int} {a3 b3 : Int} {a4 b4 : Int} {a5 b5 : Int} {a6 b6 : Bool} {a7 b7 : Int} : HL.binV Tryz.prog (HL.full H) .eql 58 xo yo (.agg #[.int .i64 a0, .int .i64 a1, .int .i64 a2, .int .i64 a3, .int .i64 a4, .int .i64 a5, .bool a6, .int .i64 a7]) (.agg #[.int .i64 b0, .int .i64 b1, .int .i64 b2, .int .i64 b3, .int .i64 b4, .int .i64 b5, .bool b6, .int .i64 b7]) = some (.bool ((decide (a0 = b0 ∧ a1 = b1 ∧ a2 = b2 ∧ a3 = b3 ∧ a4 = b4 ∧ a5 = b5 ∧ a6 = b6 ∧ a7 = b7 ∧ True)))) := (HL.bin_struct (xs := [.int .i64 a0, .int .i64 a1, .int .i64 a2, .int .i64 a3, .int .i64 a4, .int .i64 a5, .bool a6, .int .i64 a7]) (ys := [.int .i64 b0, .int .i64 b1, .int .i64 b2, .int .i64 b3, .int .i64 b4, .int .i64 b5, .bool b6, .int .i64 b7]) Tryz.underlying58 (by kernel_rfl) (by kernel_rfl) (HL.eqF_int (by decide) Tryz.underlying3 rfl rfl (HL.eqF_int (by decide) Tryz.underlying3 rfl rfl (HL.eqF_int (by decide) Tryz.underlying3 rfl rfl (HL.eqF_int (by decide) Tryz.underlying3 rfl rfl (HL.eqF_int (by decide) Tryz.underlying3 rfl rfl (HL.eqF_int (by decide) Tryz.underlying3 rfl rfl (HL.eqF_bool (by decide) Tryz.underlying4 rfl rfl (HL.eqF_int (by decide) Tryz.underlying3 rfl rfl HL.eqF_nil))))))))).1
@[go_sem] theorem T.sn58 {H : HL.Heap} {xo yo : Operand} {a0 b0 : Int} {a1 b1 : Int} {a2 b2 : Int} {a3 b3 : Int} {a4 b4 : Int} {a5 b5 : Int} {a6 b6 : Bool} {a7 b7 : Int} : HL.binV Tryz.prog (HL.full H) .neq 58 xo yo (.agg #[.int .i64 a0, .int .i64 a1, .int .i64 a2, .int .i64 a3, .int .i64 a4, .int .i64 a5, .bool a6, .int .i64 a7]) (.agg #[.int .i64 b0, .int .i64 b1, .int .i64 b2, .int .i64 b3, .int .i64 b4, .int .i64 b5, .bool b6, .int .i64 b7]) = some (.bool (!(decide (a0 = b0 ∧ a1 = b1 ∧ a2 = b2 ∧ a3 = b3 ∧ a4 = b4 ∧ a5 = b5 ∧ a6 = b6 ∧ a7 = b7 ∧ True)))) := (HL.bin_struct (xs := [.int .i64 a0, .int .i64 a1, .int .i64 a2, .int .i64 a3, .int .i64 a4, .int .i64 a5, .bool a6, .int .i64 a7]) (ys := [.int .i64 b0, .int .i64 b1, .int .i64 b2, .int .i64 b3, .int .i64 b4, .int .i64 b5, .bool b6, .int .i64 b7]) Tryz.underlying58 (by kernel_rfl) (by kernel_rfl) (HL.eqF_int (by decide) Tryz.underlying3 rfl rfl (HL.eqF_int (by decide) Tryz.underlying3 rfl rfl (HL.eqF_int (by decide) Tryz.underlying3 rfl rfl (HL.eqF_int (by decide) Tryz.underlying3 rfl rfl (HL.eqF_int (by decide) Tryz.underlying3 rfl rfl (HL.eqF_int (by decide) Tryz.underlying3 rfl rfl (HL.eqF_bool (by decide) Tryz.underlying4 rfl rfl (HL.eqF_int (by decide) Tryz.underlying3 rfl rfl HL.eqF_nil))))))))).2
@[go_sem] theorem T.se66 {H : HL.Heap} {xo yo : Operand} {a0 b0 : ByteArray} {a1 b1 : Int} {a2 b2 : Int} {a3 b3 : Bool} {a4 b4 : Bool} : HL.binV Tryz.prog (HL.full H) .eql 66 xo yo (.agg #[.string a0, .int .i64 a1, .int .i64 a2, .bool a3, .bool a4]) (.agg #[.string b0, .int .i64 b1, .int .i64 b2, .bool b3, .bool b4]) = some (.bool ((decide (a0 = b0 ∧ a1 = b1 ∧ a2 = b2 ∧ a3 = b3 ∧ a4 = b4 ∧ True)))) := (HL.bin_struct (xs := [.string a0, .int .i64 a1, .int .i64 a2, .bool a3, .bool a4]) (ys := [.string b0, .int .i64 b1, .int .i64 b2, .bool b3, .bool b4]) Tryz.underlying66 (by kernel_rfl) (by kernel_rfl) (HL.eqF_str (by decide) Tryz.underlying9 rfl rfl (HL.eqF_int (by decide) Tryz.underlying3 rfl rfl (HL.eqF_int (by decide) Tryz.underlying3 rfl rfl (HL.eqF_bool (by decide) Tryz.underlying4 rfl rfl (HL.eqF_bool (by decide) Tryz.underlying4 rfl rfl HL.eqF_nil)))))).1
@[go_sem] theorem T.sn66 {H : HL.Heap} {xo yo : Operand} {a0 b0 : ByteArray} {a1 b1 : Int} {a2 b2 : Int} {a3 b3 : Bool} {a4 b4 : Bool} : HL.binV Tryz.prog (HL.full H) .neq 66 xo yo (.agg #[.string a0, .int .i64 a1, .int .i64 a2, .bool a3, .bool a4]) (.agg #[.string b0, .int .i64 b1, .int .i64 b2, .bool b3, .bool b4]) = some (.bool (!(decide (a0 = b0 ∧ a1 = b1 ∧ a2 = b2 ∧ a3 = b3 ∧ a4 = b4 ∧ True)))) := (HL.bin_struct (xs := [.string a0, .int .i64 a1, .int .i64 a2, .bool a3, .bool a4]) (ys := [.string b0, .int .i64 b1, .int .i64 b2, .bool b3, .bool b4]) Tryz.underlying66 (by kernel_rfl) (by kernel_rfl) (HL.eqF_str (by decide) Tryz.underlying9 rfl rfl (HL.eqF_int (by decide) Tryz.underlying3 rfl rfl (HL.eqF_int (by decide) Tryz.underlying3 rfl rfl (HL.eqF_bool (by decide) Tryz.underlying4 rfl rfl (HL.eqF_bool (by decide) Tryz.underlying4 rfl rfl HL.eqF_nil)))))).2
@[go_sem] theorem T.se68 {H : HL.Heap} {xo yo : Operand} {a0 b0 : ByteArray} {a1 b1 : Int} {a2 b2 : Int} : HL.binV Tryz.prog (HL.full H) .eql 68 xo yo (.agg #[.string a0, .int .i64 a1, .int .i64 a2]) (.agg #[.string b0, .int .i64 b1, .int .i64 b2]) = some (.bool ((decide (a0 = b0 ∧ a1 = b1 ∧ a2 = b2 ∧ True)))) := (HL.bin_struct (xs := [.string a0, .int .i64 a1, .int .i64 a2]) (ys := [.string b0, .int .i64 b1, .int .i64 b2]) Tryz.underlying68 (by kernel_rfl) (by kernel_rfl) (HL.eqF_str (by decide) Tryz.underlying9 rfl rfl (HL.eqF_int (by decide) Tryz.underlying3 rfl rfl (HL.eqF_int (by decide) Tryz.underlying3 rfl rfl HL.eqF_nil)))).1
@[go_sem] theorem T.sn68 {H : HL.Heap} {xo yo : Operand} {a0 b0 : ByteArray} {a1 b1 : Int} {a2 b2 : Int} : HL.binV Tryz.prog (HL.full H) .neq 68 xo yo (.agg #[.string a0, .int .i64 a1, .int .i64 a2]) (.agg #[.string b0, .int .i64 b1, .int .i64 b2]) = some (.bool (!(decide (a0 = b0 ∧ a1 = b1 ∧ a2 = b2 ∧ True)))) := (HL.bin_struct (xs := [.string a0, .int .i64 a1, .int .i64 a2]) (ys := [.string b0, .int .i64 b1, .int .i64 b2]) Tryz.underlying68 (by kernel_rfl) (by kernel_rfl) (HL.eqF_str (by decide) Tryz.underlying9 rfl rfl (HL.eqF_int (by decide) Tryz.underlying3 rfl rfl (HL.eqF_int (by decide) Tryz.underlying3 rfl rfl HL.eqF_nil)))).2
@[go_sem] theorem T.se119 {H : HL.Heap} {xo yo : Operand} {a0 b0 : Int} {a1 b1 : ByteArray} {a2 b2 : Int} : HL.binV Tryz.prog (HL.full H) .eql 119 xo yo (.agg #[.int .i64 a0, .string a1, .int .i64 a2]) (.agg #[.int .i64 b0, .string b1, .int .i64 b2]) = some (.bool ((decide (a0 = b0 ∧ a1 = b1 ∧ a2 = b2 ∧ True)))) := (HL.bin_struct (xs := [.int .i64 a0, .string a1, .int .i64 a2]) (ys := [.int .i64 b0, .string b1, .int .i64 b2]) Tryz.underlying119 (by kernel_rfl) (by kernel_rfl) (HL.eqF_int (by decide) Tryz.underlying3 rfl rfl (HL.eqF_str (by decide) Tryz.underlying9 rfl rfl (HL.eqF_int (by decide) Tryz.underlying3 rfl rfl HL.eqF_nil)))).1
@[go_sem] theorem T.sn119 {H : HL.Heap} {xo yo : Operand} {a0 b0 : Int} {a1 b1 : ByteArray} {a2 b2 : Int} : HL.binV Tryz.prog (HL.full H) .neq 119 xo yo (.agg #[.int .i64 a0, .string a1, .int .i64 a2]) (.agg #[.int .i64 b0, .string b1, .int .i64 b2]) = some (.bool (!(decide (a0 = b0 ∧ a1 = b1 ∧ a2 = b2 ∧ True)))) := (HL.bin_struct (xs := [.int .i64 a0, .string a1, .int .i64 a2]) (ys := [.int .i64 b0, .string b1, .int .i64 b2]) Tryz.underlying119 (by kernel_rfl) (by kernel_rfl) (HL.eqF_int (by decide) Tryz.underlying3 rfl rfl (HL.eqF_str (by decide) Tryz.underlying9 rfl rfl (HL.eqF_int (by decide) Tryz.underlying3 rfl rfl HL.eqF_nil)))).2
@[go_sem] theorem T.cv2_2 {V : HL.HV} {k : IntKind} {n : Int} : HL.convV Tryz.prog V 2 2 (.int k n) = some (.int .i64 (IntKind.i64.wrap n)) := HL.conv_int Tryz.underlying2 Tryz.underlying2
@[go_sem] theorem T.cv2_3 {V : HL.HV} {k : IntKind} {n : Int} : HL.convV Tryz.prog V 2 3 (.int k n) = some (.int .i64 (IntKind.i64.wrap n)) := HL.conv_int Tryz.underlying2 Tryz.underlying3
@[go_sem] theorem T.cv2_5 {V : HL.HV} {k : IntKind} {n : Int} : HL.convV Tryz.prog V 2 5 (.int k n) = some (.int .u8 (IntKind.u8.wrap n)) := HL.conv_int Tryz.underlying2 Tryz.underlying5
@[go_sem] theorem T.cv2_6 {V : HL.HV} {k : IntKind} {n : Int} : HL.convV Tryz.prog V 2 6 (.int k n) = some (.int .u8 (IntKind.u8.wrap n)) := HL.conv_int Tryz.underlying2 Tryz.underlying6
@[go_sem] theorem T.cv2_12 {V : HL.HV} {k : IntKind} {n : Int} : HL.convV Tryz.prog V 2 12 (.int k n) = some (.int .u64 (IntKind.u64.wrap n)) := HL.conv_int Tryz.underlying2 Tryz.underlying12
@[go_sem] theorem T.cv2_21 {V : HL.HV} {k : IntKind} {n : Int} : HL.convV Tryz.prog V 2 21 (.int k n) = some (.int .i32 (IntKind.i32.wrap n)) := HL.conv_int Tryz.underlying2 Tryz.underlying21
@[go_sem] theorem T.cv2_25 {V : HL.HV} {k : IntKind} {n : Int} : HL.convV Tryz.prog V 2 25 (.int k n) = some (.int .i64 (IntKind.i64.wrap n)) := HL.conv_int Tryz.underlying2 Tryz.underlying25
@[go_sem] theorem T.cv2_155 {V : HL.HV} {k : IntKind} {n : Int} : HL.convV Tryz.prog V 2 155 (.int k n) = some (.int .u64 (IntKind.u64.wrap n)) := HL.conv_int Tryz.underlying2 Tryz.underlying155
@[go_sem] theorem T.cv2_159 {V : HL.HV} {k : IntKind} {n : Int} : HL.convV Tryz.prog V 2 159 (.int k n) = some (.int .u32 (IntKind.u32.wrap n)) := HL.conv_int Tryz.underlying2 Tryz.underlying159
@[go_sem] theorem T.cv2_167 {V : HL.HV} {k : IntKind} {n : Int} : HL.convV Tryz.prog V 2 167 (.int k n) = some (.int .u8 (IntKind.u8.wrap n)) := HL.conv_int Tryz.underlying2 Tryz.underlying167
@[go_sem] theorem T.cv2_168 {V : HL.HV} {k : IntKind} {n : Int} : HL.convV Tryz.prog V 2 168 (.int k n) = some (.int .u8 (IntKind.u8.wrap n)) := HL.conv_int Tryz.underlying2 Tryz.underlying168
@[go_sem] theorem T.cv2_171 {V : HL.HV} {k : IntKind} {n : Int} : HL.convV Tryz.prog V 2 171 (.int k n) = some (.int .i32 (IntKind.i32.wrap n)) := HL.conv_int Tryz.underlying2 Tryz.underlying171
@[go_sem] theorem T.cv2_172 {V : HL.HV} {k : IntKind} {n : Int} : HL.convV Tryz.prog V 2 172 (.int k n) = some (.int .i32 (IntKind.i32.wrap n)) := HL.conv_int Tryz.underlying2 Tryz.underlying172
@[go_sem] theorem T.cv3_2 {V : HL.HV} {k : IntKind} {n : Int} : HL.convV Tryz.prog V 3 2 (.int k n) = some (.int .i64 (IntKind.i64.wrap n)) := HL.conv_int Tryz.underlying3 Tryz.underlying2
@[go_sem] theorem T.cv3_3 {V : HL.HV} {k : IntKind} {n : Int} : HL.convV Tryz.prog V 3 3 (.int k n) = some (.int .i64 (IntKind.i64.wrap n)) := HL.conv_int Tryz.underlying3 Tryz.underlying3
@[go_sem] theorem T.cv3_5 {V : HL.HV} {k : IntKind} {n : Int} : HL.convV Tryz.prog V 3 5 (.int k n) = some (.int .u8 (IntKind.u8.wrap n)) := HL.conv_int Tryz.underlying3 Tryz.underlying5
@[go_sem] theorem T.cv3_6 {V : HL.HV} {k : IntKind} {n : Int} : HL.convV Tryz.prog V 3 6 (.int k n) = some (.int .u8 (IntKind.u8.wrap n)) := HL.conv_int Tryz.underlying3 Tryz.underlying6
@[go_sem] theorem T.cv3_12 {V : HL.HV} {k : IntKind} {n : Int} : HL.convV Tryz.prog V 3 12 (.int k n) = some (.int .u64 (IntKind.u64.wrap n)) := HL.conv_int Tryz.underlying3 Tryz.underlying12
@[go_sem] theorem T.cv3_21 {V : HL.HV} {k : IntKind} {n : Int} : HL.convV Tryz.prog V 3 21 (.int k n) = some (.int .i32 (IntKind.i32.wrap n)) := HL.conv_int Tryz.underlying3 Tryz.underlying21
@[go_sem] theorem T.cv3_25 {V : HL.HV} {k : IntKind} {n : Int} : HL.convV Tryz.prog V 3 25 (.int k n) = some (.int .i64 (IntKind.i64.wrap n)) := HL.conv_int Tryz.underlying3 Tryz.underlying25
@[go_sem] theorem T.cv3_155 {V : HL.HV} {k : IntKind} {n : Int} : HL.convV Tryz.prog V 3 155 (.int k n) = some (.int .u64 (IntKind.u64.wrap n)) := HL.conv_int Tryz.underlying3 Tryz.underlying155
@[go_sem] theorem T.cv3_159 {V : HL.HV} {k : IntKind} {n : Int} : HL.convV Tryz.prog V 3 159 (.int k n) = some (.int .u32 (IntKind.u32.wrap n)) := HL.conv_int Tryz.underlying3 Tryz.underlying159
@[go_sem] theorem T.cv3_167 {V : HL.HV} {k : IntKind} {n : Int} : HL.convV Tryz.prog V 3 167 (.int k n) = some (.int .u8 (IntKind.u8.wrap n)) := HL.conv_int Tryz.underlying3 Tryz.underlying167
@[go_sem] theorem T.cv3_168 {V : HL.HV} {k : IntKind} {n : Int} : HL.convV Tryz.prog V 3 168 (.int k n) = some (.int .u8 (IntKind.u8.wrap n)) := HL.conv_int Tryz.underlying3 Tryz.underlying168
@[go_sem] theorem T.cv3_171 {V : HL.HV} {k : IntKind} {n : Int} : HL.convV Tryz.prog V 3 171 (.int k n) = some (.int .i32 (IntKind.i32.wrap n)) := HL.conv_int Tryz.underlying3 Tryz.underlying171
@[go_sem] theorem T.cv3_172 {V : HL.HV} {k : IntKind} {n : Int} : HL.convV Tryz.prog V 3 172 (.int k n) = some (.int .i32 (IntKind.i32.wrap n)) := HL.conv_int Tryz.underlying3 Tryz.underlying172
@[go_sem] theorem T.cv5_2 {V : HL.HV} {k : IntKind} {n : Int} : HL.convV Tryz.prog V 5 2 (.int k n) = some (.int .i64 (IntKind.i64.wrap n)) := HL.conv_int Tryz.underlying5 Tryz.underlying2
@[go_sem] theorem T.cv5_3 {V : HL.HV} {k : IntKind} {n : Int} : HL.convV Tryz.prog V 5 3 (.int k n) = some (.int .i64 (IntKind.i64.wrap n)) := HL.conv_int Tryz.underlying5 Tryz.underlying3
@[go_sem] theorem T.cv5_5 {V : HL.HV} {k : IntKind} {n : Int} : HL.convV Tryz.prog V 5 5 (.int k n) = some (.int .u8 (IntKind.u8.wrap n)) := HL.conv_int Tryz.underlying5 Tryz.underlying5
@[go_sem] theorem T.cv5_6 {V : HL.HV} {k : IntKind} {n : Int} : HL.convV Tryz.prog V 5 6 (.int k n) = some (.int .u8 (IntKind.u8.wrap n)) := HL.conv_int Tryz.underlying5 Tryz.underlying6
@[go_sem] theorem T.cv5_12 {V : HL.HV} {k : IntKind} {n : Int} : HL.convV Tryz.prog V 5 12 (.int k n) = some (.int .u64 (IntKind.u64.wrap n)) := HL.conv_int Tryz.underlying5 Tryz.underlying12
@[go_sem] theorem T.cv5_21 {V : HL.HV} {k : IntKind} {n : Int} : HL.convV Tryz.prog V 5 21 (.int k n) = some (.int .i32 (IntKind.i32.wrap n)) := HL.conv_int Tryz.underlying5 Tryz.underlying21
@[go_sem] theorem T.cv5_25 {V : HL.HV} {k : IntKind} {n : Int} : HL.convV Tryz.prog V 5 25 (.int k n) = some (.int .i64 (IntKind.i64.wrap n)) := HL.conv_int Tryz.underlying5 Tryz.underlying25
@[go_sem] theorem T.cv5_155 {V : HL.HV} {k : IntKind} {n : Int} : HL.convV Tryz.prog V 5 155 (.int k n) = some (.int .u64 (IntKind.u64.wrap n)) := HL.conv_int Tryz.underlying5 Tryz.underlying155
@[go_sem] theorem T.cv5_159 {V : HL.HV} {k : IntKind} {n : Int} : HL.convV Tryz.prog V 5 159 (.int k n) = some (.int .u32 (IntKind.u32.wrap n)) := HL.conv_int Tryz.underlying5 Tryz.underlying159
@[go_sem] theorem T.cv5_167 {V : HL.HV} {k : IntKind} {n : Int} : HL.convV Tryz.prog V 5 167 (.int k n) = some (.int .u8 (IntKind.u8.wrap n)) := HL.conv_int Tryz.underlying5 Tryz.underlying167
@[go_sem] theorem T.cv5_168 {V : HL.HV} {k : IntKind} {n : Int} : HL.convV Tryz.prog V 5 168 (.int k n) = some (.int .u8 (IntKind.u8.wrap n)) := HL.conv_int Tryz.underlying5 Tryz.underlying168
@[go_sem] theorem T.cv5_171 {V : HL.HV} {k : IntKind} {n : Int} : HL.convV Tryz.prog V 5 171 (.int k n) = some (.int .i32 (IntKind.i32.wrap n)) := HL.conv_int Tryz.underlying5 Tryz.underlying171
@[go_sem] theorem T.cv5_172 {V : HL.HV} {k : IntKind} {n : Int} : HL.convV Tryz.prog V 5 172 (.int k n) = some (.int .i32 (IntKind.i32.wrap n)) := HL.conv_int Tryz.underlying5 Tryz.underlying172
@[go_sem] theorem T.cv6_2 {V : HL.HV} {k : IntKind} {n : Int} : HL.convV Tryz.prog V 6 2 (.int k n) = some (.int .i64 (IntKind.i64.wrap n)) := HL.conv_int Tryz.underlying6 Tryz.underlying2
@[go_sem] theorem T.cv6_3 {V : HL.HV} {k : IntKind} {n : Int} : HL.convV Tryz.prog V 6 3 (.int k n) = some (.int .i64 (IntKind.i64.wrap n)) := HL.conv_int Tryz.underlying6 Tryz.underlying3
@[go_sem] theorem T.cv6_5 {V : HL.HV} {k : IntKind} {n : Int} : HL.convV Tryz.prog V 6 5 (.int k n) = some (.int .u8 (IntKind.u8.wrap n)) := HL.conv_int Tryz.underlying6 Tryz.underlying5
@[go_sem] theorem T.cv6_6 {V : HL.HV} {k : IntKind} {n : Int} : HL.convV Tryz.prog V 6 6 (.int k n) = some (.int .u8 (IntKind.u8.wrap n)) := HL.conv_int Tryz.underlying6 Tryz.underlying6
@[go_sem] theorem T.cv6_12 {V : HL.HV} {k : IntKind} {n : Int} : HL.convV Tryz.prog V 6 12 (.int k n) = some (.int .u64 (IntKind.u64.wrap n)) := HL.conv_int Tryz.underlying6 Tryz.underlying12
@[go_sem] theorem T.cv6_21 {V : HL.HV} {k : IntKind} {n : Int} : HL.convV Tryz.prog V 6 21 (.int k n) = some (.int .i32 (IntKind.i32.wrap n)) := HL.conv_int Tryz.underlying6 Tryz.underlying21
@[go_sem] theorem T.cv6_25 {V : HL.HV} {k : IntKind} {n : Int} : HL.convV Tryz.prog V 6 25 (.int k n) = some (.int .i64 (IntKind.i64.wrap n)) := HL.conv_int Tryz.underlying6 Tryz.underlying25
@[go_sem] theorem T.cv6_155 {V : HL.HV} {k : IntKind} {n : Int} : HL.convV Tryz.prog V 6 155 (.int k n) = some (.int .u64 (IntKind.u64.wrap n)) := HL.conv_int Tryz.underlying6 Tryz.underlying155
@[go_sem] theorem T.cv6_159 {V : HL.HV} {k : IntKind} {n : Int} : HL.convV Tryz.prog V 6 159 (.int k n) = some (.int .u32 (IntKind.u32.wrap n)) := HL.conv_int Tryz.underlying6 Tryz.underlying159
@[go_sem] theorem T.cv6_167 {V : HL.HV} {k : IntKind} {n : Int} : HL.convV Tryz.prog V 6 167 (.int k n) = some (.int .u8 (IntKind.u8.wrap n)) := HL.conv_int Tryz.underlying6 Tryz.underlying167
@[go_sem] theorem T.cv6_168 {V : HL.HV} {k : IntKind} {n : Int} : HL.convV Tryz.prog V 6 168 (.int k n) = some (.int .u8 (IntKind.u8.wrap n)) := HL.conv_int Tryz.underlying6 Tryz.underlying168
@[go_sem] theorem T.cv6_171 {V : HL.HV} {k : IntKind} {n : Int} : HL.convV Tryz.prog V 6 171 (.int k n) = some (.int .i32 (IntKind.i32.wrap n)) := HL.conv_int Tryz.underlying6 Tryz.underlying171
@[go_sem] theorem T.cv6_172 {V : HL.HV} {k : IntKind} {n : Int} : HL.convV Tryz.prog V 6 172 (.int k n) = some (.int .i32 (IntKind.i32.wrap n)) := HL.conv_int Tryz.underlying6 Tryz.underlying172
@[go_sem] theorem T.cv12_2 {V : HL.HV} {k : IntKind} {n : Int} : HL.convV Tryz.prog V 12 2 (.int k n) = some (.int .i64 (IntKind.i64.wrap n)) := HL.conv_int Tryz.underlying12 Tryz.underlying2
@[go_sem] theorem T.cv12_3 {V : HL.HV} {k : IntKind} {n : Int} : HL.convV Tryz.prog V 12 3 (.int k n) = some (.int .i64 (IntKind.i64.wrap n)) := HL.conv_int Tryz.underlying12 Tryz.underlying3
@[go_sem] theorem T.cv12_5 {V : HL.HV} {k : IntKind} {n : Int} : HL.convV Tryz.prog V 12 5 (.int k n) = some (.int .u8 (IntKind.u8.wrap n)) := HL.conv_int Tryz.underlying12 Tryz.underlying5
@[go_sem] theorem T.cv12_6 {V : HL.HV} {k : IntKind} {n : Int} : HL.convV Tryz.prog V 12 6 (.int k n) = some (.int .u8 (IntKind.u8.wrap n)) := HL.conv_int Tryz.underlying12 Tryz.underlying6
@[go_sem] theorem T.cv12_12 {V : HL.HV} {k : IntKind} {n : Int} : HL.convV Tryz.prog V 12 12 (.int k n) = some (.int .u64 (IntKind.u64.wrap n)) := HL.conv_int Tryz.underlying12 Tryz.underlying12
@[go_sem] theorem T.cv12_21 {V : HL.HV} {k : IntKind} {n : Int} : HL.convV Tryz.prog V 12 21 (.int k n) = some (.int .i32 (IntKind.i32.wrap n)) := HL.conv_int Tryz.underlying12 Tryz.underlying21
@[go_sem] theorem T.cv12_25 {V : HL.HV} {k : IntKind} {n : Int} : HL.convV Tryz.prog V 12 25 (.int k n) = some (.int .i64 (IntKind.i64.wrap n)) := HL.conv_int Tryz.underlying12 Tryz.underlying25
@[go_sem] theorem T.cv12_155 {V : HL.HV} {k : IntKind} {n : Int} : HL.convV Tryz.prog V 12 155 (.int k n) = some (.int .u64 (IntKind.u64.wrap n)) := HL.conv_int Tryz.underlying12 Tryz.underlying155
@[go_sem] theorem T.cv12_159 {V : HL.HV} {k : IntKind} {n : Int} : HL.convV Tryz.prog V 12 159 (.int k n) = some (.int .u32 (IntKind.u32.wrap n)) := HL.conv_int Tryz.underlying12 Tryz.underlying159
@[go_sem] theorem T.cv12_167 {V : HL.HV} {k : IntKind} {n : Int} : HL.convV Tryz.prog V 12 167 (.int k n) = some (.int .u8 (IntKind.u8.wrap n)) := HL.conv_int Tryz.underlying12 Tryz.underlying167
@[go_sem] theorem T.cv12_168 {V : HL.HV} {k : IntKind} {n : Int} : HL.convV Tryz.prog V 12 168 (.int k n) = some (.int .u8 (IntKind.u8.wrap n)) := HL.conv_int Tryz.underlying12 Tryz.underlying168
@[go_sem] theorem T.cv12_171 {V : HL.HV} {k : IntKind} {n : Int} : HL.convV Tryz.prog V 12 171 (.int k n) = some (.int .i32 (IntKind.i32.wrap n)) := HL.conv_int Tryz.underlying12 Tryz.underlying171
@[go_sem] theorem T.cv12_172 {V : HL.HV} {k : IntKind} {n : Int} : HL.convV Tryz.prog V 12 172 (.int k n) = some (.int .i32 (IntKind.i32.wrap n)) := HL.conv_int Tryz.underlying12 Tryz.underlying172
@[go_sem] theorem T.cv21_2 {V : HL.HV} {k : IntKind} {n : Int} : HL.convV Tryz.prog V 21 2 (.int k n) = some (.int .i64 (IntKind.i64.wrap n)) := HL.conv_int Tryz.underlying21 Tryz.underlying2
@[go_sem] theorem T.cv21_3 {V : HL.HV} {k : IntKind} {n : Int} : HL.convV Tryz.prog V 21 3 (.int k n) = some (.int .i64 (IntKind.i64.wrap n)) := HL.conv_int Tryz.underlying21 Tryz.underlying3
@[go_sem] theorem T.cv21_5 {V : HL.HV} {k : IntKind} {n : Int} : HL.convV Tryz.prog V 21 5 (.int k n) = some (.int .u8 (IntKind.u8.wrap n)) := HL.conv_int Tryz.underlying21 Tryz.underlying5
@[go_sem] theorem T.cv21_6 {V : HL.HV} {k : IntKind} {n : Int} : HL.convV Tryz.prog V 21 6 (.int k n) = some (.int .u8 (IntKind.u8.wrap n)) := HL.conv_int Tryz.underlying21 Tryz.underlying6
@[go_sem] theorem T.cv21_12 {V : HL.HV} {k : IntKind} {n : Int} : HL.convV Tryz.prog V 21 12 (.int k n) = some (.int .u64 (IntKind.u64.wrap n)) := HL.conv_int Tryz.underlying21 Tryz.underlying12
@[go_sem] theorem T.cv21_21 {V : HL.HV} {k : IntKind} {n : Int} : HL.convV Tryz.prog V 21 21 (.int k n) = some (.int .i32 (IntKind.i32.wrap n)) := HL.conv_int Tryz.underlying21 Tryz.underlying21
@[go_sem] theorem T.cv21_25 {V : HL.HV} {k : IntKind} {n : Int} : HL.convV Tryz.prog V 21 25 (.int k n) = some (.int .i64 (IntKind.i64.wrap n)) := HL.conv_int Tryz.underlying21 Tryz.underlying25
@[go_sem] theorem T.cv21_155 {V : HL.HV} {k : IntKind} {n : Int} : HL.convV Tryz.prog V 21 155 (.int k n) = some (.int .u64 (IntKind.u64.wrap n)) := HL.conv_int Tryz.underlying21 Tryz.underlying155
@[go_sem] theorem T.cv21_159 {V : HL.HV} {k : IntKind} {n : Int} : HL.convV Tryz.prog V 21 159 (.int k n) = some (.int .u32 (IntKind.u32.wrap n)) := HL.conv_int Tryz.underlying21 Tryz.underlying159
@[go_sem] theorem T.cv21_167 {V : HL.HV} {k : IntKind} {n : Int} : HL.convV Tryz.prog V 21 167 (.int k n) = some (.int .u8 (IntKind.u8.wrap n)) := HL.conv_int Tryz.underlying21 Tryz.underlying167
@[go_sem] theorem T.cv21_168 {V : HL.HV} {k : IntKind} {n : Int} : HL.convV Tryz.prog V 21 168 (.int k n) = some (.int .u8 (IntKind.u8.wrap n)) := HL.conv_int Tryz.underlying21 Tryz.underlying168
@[go_sem] theorem T.cv21_171 {V : HL.HV} {k : IntKind} {n : Int} : HL.convV Tryz.prog V 21 171 (.int k n) = some (.int .i32 (IntKind.i32.wrap n)) := HL.conv_int Tryz.underlying21 Tryz.underlying171
@[go_sem] theorem T.cv21_172 {V : HL.HV} {k : IntKind} {n : Int} : HL.convV Tryz.prog V 21 172 (.int k n) = some (.int .i32 (IntKind.i32.wrap n)) := HL.conv_int Tryz.underlying21 Tryz.underlying172
@[go_sem] theorem T.cv25_2 {V : HL.HV} {k : IntKind} {n : Int} : HL.convV Tryz.prog V 25 2 (.int k n) = some (.int .i64 (IntKind.i64.wrap n)) := HL.conv_int Tryz.underlying25 Tryz.underlying2
@[go_sem] theorem T.cv25_3 {V : HL.HV} {k : IntKind} {n : Int} : HL.convV Tryz.prog V 25 3 (.int k n) = some (.int .i64 (IntKind.i64.wrap n)) := HL.conv_int Tryz.underlying25 Tryz.underlying3
@[go_sem] theorem T.cv25_5 {V : HL.HV} {k : IntKind} {n : Int} : HL.convV Tryz.prog V 25 5 (.int k n) = some (.int .u8 (IntKind.u8.wrap n)) := HL.conv_int Tryz.underlying25 Tryz.underlying5
@[go_sem] theorem T.cv25_6 {V : HL.HV} {k : IntKind} {n : Int} : HL.convV Tryz.prog V 25 6 (.int k n) = some (.int .u8 (IntKind.u8.wrap n)) := HL.conv_int Tryz.underlying25 Tryz.underlying6
@[go_sem] theorem T.cv25_12 {V : HL.HV} {k : IntKind} {n : Int} : HL.convV Tryz.prog V 25 12 (.int k n) = some (.int .u64 (IntKind.u64.wrap n)) := HL.conv_int Tryz.underlying25 Tryz.underlying12
@[go_sem] theorem T.cv25_21 {V : HL.HV} {k : IntKind} {n : Int} : HL.convV Tryz.prog V 25 21 (.int k n) = some (.int .i32 (IntKind.i32.wrap n)) := HL.conv_int Tryz.underlying25 Tryz.underlying21
@[go_sem] theorem T.cv25_25 {V : HL.HV} {k : IntKind} {n : Int} : HL.convV Tryz.prog V 25 25 (.int k n) = some (.int .i64 (IntKind.i64.wrap n)) := HL.conv_int Tryz.underlying25 Tryz.underlying25
@[go_sem] theorem T.cv25_155 {V : HL.HV} {k : IntKind} {n : Int} : HL.convV Tryz.prog V 25 155 (.int k n) = some (.int .u64 (IntKind.u64.wrap n)) := HL.conv_int Tryz.underlying25 Tryz.underlying155
@[go_sem] theorem T.cv25_159 {V : HL.HV} {k : IntKind} {n : Int} : HL.convV Tryz.prog V 25 159 (.int k n) = some (.int .u32 (IntKind.u32.wrap n)) := HL.conv_int Tryz.underlying25 Tryz.underlying159
@[go_sem] theorem T.cv25_167 {V : HL.HV} {k : IntKind} {n : Int} : HL.convV Tryz.prog V 25 167 (.int k n) = some (.int .u8 (IntKind.u8.wrap n)) := HL.conv_int Tryz.underlying25 Tryz.underlying167
@[go_sem] theorem T.cv25_168 {V : HL.HV} {k : IntKind} {n : Int} : HL.convV Tryz.prog V 25 168 (.int k n) = some (.int .u8 (IntKind.u8.wrap n)) := HL.conv_int Tryz.underlying25 Tryz.underlying168
@[go_sem] theorem T.cv25_171 {V : HL.HV} {k : IntKind} {n : Int} : HL.convV Tryz.prog V 25 171 (.int k n) = some (.int .i32 (IntKind.i32.wrap n)) := HL.conv_int Tryz.underlying25 Tryz.underlying171
@[go_sem] theorem T.cv25_172 {V : HL.HV} {k : IntKind} {n : Int} : HL.convV Tryz.prog V 25 172 (.int k n) = some (.int .i32 (IntKind.i32.wrap n)) := HL.conv_int Tryz.underlying25 Tryz.underlying172
@[go_sem] theorem T.cv155_2 {V : HL.HV} {k : IntKind} {n : Int} : HL.convV Tryz.prog V 155 2 (.int k n) = some (.int .i64 (IntKind.i64.wrap n)) := HL.conv_int Tryz.underlying155 Tryz.underlying2
@[go_sem] theorem T.cv155_3 {V : HL.HV} {k : IntKind} {n : Int} : HL.convV Tryz.prog V 155 3 (.int k n) = some (.int .i64 (IntKind.i64.wrap n)) := HL.conv_int Tryz.underlying155 Tryz.underlying3
@[go_sem] theorem T.cv155_5 {V : HL.HV} {k : IntKind} {n : Int} : HL.convV Tryz.prog V 155 5 (.int k n) = some (.int .u8 (IntKind.u8.wrap n)) := HL.conv_int Tryz.underlying155 Tryz.underlying5
@[go_sem] theorem T.cv155_6 {V : HL.HV} {k : IntKind} {n : Int} : HL.convV Tryz.prog V 155 6 (.int k n) = some (.int .u8 (IntKind.u8.wrap n)) := HL.conv_int Tryz.underlying155 Tryz.underlying6
@[go_sem] theorem T.cv155_12 {V : HL.HV} {k : IntKind} {n : Int} : HL.convV Tryz.prog V 155 12 (.int k n) = some (.int .u64 (IntKind.u64.wrap n)) := HL.conv_int Tryz.underlying155 Tryz.underlying12
@[go_sem] theorem T.cv155_21 {V : HL.HV} {k : IntKind} {n : Int} : HL.convV Tryz.prog V 155 21 (.int k n) = some (.int .i32 (IntKind.i32.wrap n)) := HL.conv_int Tryz.underlying155 Tryz.underlying21
@[go_sem] theorem T.cv155_25 {V : HL.HV} {k : IntKind} {n : Int} : HL.convV Tryz.prog V 155 25 (.int k n) = some (.int .i64 (IntKind.i64.wrap n)) := HL.conv_int Tryz.underlying155 Tryz.underlying25
@[go_sem] theorem T.cv155_155 {V : HL.HV} {k : IntKind} {n : Int} : HL.convV Tryz.prog V 155 155 (.int k n) = some (.int .u64 (IntKind.u64.wrap n)) := HL.conv_int Tryz.underlying155 Tryz.underlying155
@[go_sem] theorem T.cv155_159 {V : HL.HV} {k : IntKind} {n : Int} : HL.convV Tryz.prog V 155 159 (.int k n) = some (.int .u32 (IntKind.u32.wrap n)) := HL.conv_int Tryz.underlying155 Tryz.underlying159
@[go_sem] theorem T.cv155_167 {V : HL.HV} {k : IntKind} {n : Int} : HL.convV Tryz.prog V 155 167 (.int k n) = some (.int .u8 (IntKind.u8.wrap n)) := HL.conv_int Tryz.underlying155 Tryz.underlying167
@[go_sem] theorem T.cv155_168 {V : HL.HV} {k : IntKind} {n : Int} : HL.convV Tryz.prog V 155 168 (.int k n) = some (.int .u8 (IntKind.u8.wrap n)) := HL.conv_int Tryz.underlying155 Tryz.underlying168
@[go_sem] theorem T.cv155_171 {V : HL.HV} {k : IntKind} {n : Int} : HL.convV Tryz.prog V 155 171 (.int k n) = some (.int .i32 (IntKind.i32.wrap n)) := HL.conv_int Tryz.underlying155 Tryz.underlying171
@[go_sem] theorem T.cv155_172 {V : HL.HV} {k : IntKind} {n : Int} : HL.convV Tryz.prog V 155 172 (.int k n) = some (.int .i32 (IntKind.i32.wrap n)) := HL.conv_int Tryz.underlying155 Tryz.underlying172
@[go_sem] theorem T.cv159_2 {V : HL.HV} {k : IntKind} {n : Int} : HL.convV Tryz.prog V 159 2 (.int k n) = some (.int .i64 (IntKind.i64.wrap n)) := HL.conv_int Tryz.underlying159 Tryz.underlying2
@[go_sem] theorem T.cv159_3 {V : HL.HV} {k : IntKind} {n : Int} : HL.convV Tryz.prog V 159 3 (.int k n) = some (.int .i64 (IntKind.i64.wrap n)) := HL.conv_int Tryz.underlying159 Tryz.underlying3
@[go_sem] theorem T.cv159_5 {V : HL.HV} {k : IntKind} {n : Int} : HL.convV Tryz.prog V 159 5 (.int k n) = some (.int .u8 (IntKind.u8.wrap n)) := HL.conv_int Tryz.underlying159 Tryz.underlying5
@[go_sem] theorem T.cv159_6 {V : HL.HV} {k : IntKind} {n : Int} : HL.convV Tryz.prog V 159 6 (.int k n) = some (.int .u8 (IntKind.u8.wrap n)) := HL.conv_int Tryz.underlying159 Tryz.underlying6
@[go_sem] theorem T.cv159_12 {V : HL.HV} {k : IntKind} {n : Int} : HL.convV Tryz.prog V 159 12 (.int k n) = some (.int .u64 (IntKind.u64.wrap n)) := HL.conv_int Tryz.underlying159 Tryz.underlying12
@[go_sem] theorem T.cv159_21 {V : HL.HV} {k : IntKind} {n : Int} : HL.convV Tryz.prog V 159 21 (.int k n) = some (.int .i32 (IntKind.i32.wrap n)) := HL.conv_int Tryz.underlying159 Tryz.underlying21
@[go_sem] theorem T.cv159_25 {V : HL.HV} {k : IntKind} {n : Int} : HL.convV Tryz.prog V 159 25 (.int k n) = some (.int .i64 (IntKind.i64.wrap n)) := HL.conv_int Tryz.underlying159 Tryz.underlying25
@[go_sem] theorem T.cv159_155 {V : HL.HV} {k : IntKind} {n : Int} : HL.convV Tryz.prog V 159 155 (.int k n) = some (.int .u64 (IntKind.u64.wrap n)) := HL.conv_int Tryz.underlying159 Tryz.underlying155
@[go_sem] theorem T.cv159_159 {V : HL.HV} {k : IntKind} {n : Int} : HL.convV Tryz.prog V 159 159 (.int k n) = some (.int .u32 (IntKind.u32.wrap n)) := HL.conv_int Tryz.underlying159 Tryz.underlying159
@[go_sem] theorem T.cv159_167 {V : HL.HV} {k : IntKind} {n : Int} : HL.convV Tryz.prog V 159 167 (.int k n) = some (.int .u8 (IntKind.u8.wrap n)) := HL.conv_int Tryz.underlying159 Tryz.underlying167
@[go_sem] theorem T.cv159_168 {V : HL.HV} {k : IntKind} {n : Int} : HL.convV Tryz.prog V 159 168 (.int k n) = some (.int .u8 (IntKind.u8.wrap n)) := HL.conv_int Tryz.underlying159 Tryz.underlying168
@[go_sem] theorem T.cv159_171 {V : HL.HV} {k : IntKind} {n : Int} : HL.convV Tryz.prog V 159 171 (.int k n) = some (.int .i32 (IntKind.i32.wrap n)) := HL.conv_int Tryz.underlying159 Tryz.underlying171
@[go_sem] theorem T.cv159_172 {V : HL.HV} {k : IntKind} {n : Int} : HL.convV Tryz.prog V 159 172 (.int k n) = some (.int .i32 (IntKind.i32.wrap n)) := HL.conv_int Tryz.underlying159 Tryz.underlying172
@[go_sem] theorem T.cv167_2 {V : HL.HV} {k : IntKind} {n : Int} : HL.convV Tryz.prog V 167 2 (.int k n) = some (.int .i64 (IntKind.i64.wrap n)) := HL.conv_int Tryz.underlying167 Tryz.underlying2
@[go_sem] theorem T.cv167_3 {V : HL.HV} {k : IntKind} {n : Int} : HL.convV Tryz.prog V 167 3 (.int k n) = some (.int .i64 (IntKind.i64.wrap n)) := HL.conv_int Tryz.underlying167 Tryz.underlying3
@[go_sem] theorem T.cv167_5 {V : HL.HV} {k : IntKind} {n : Int} : HL.convV Tryz.prog V 167 5 (.int k n) = some (.int .u8 (IntKind.u8.wrap n)) := HL.conv_int Tryz.underlying167 Tryz.underlying5
@[go_sem] theorem T.cv167_6 {V : HL.HV} {k : IntKind} {n : Int} : HL.convV Tryz.prog V 167 6 (.int k n) = some (.int .u8 (IntKind.u8.wrap n)) := HL.conv_int Tryz.underlying167 Tryz.underlying6
@[go_sem] theorem T.cv167_12 {V : HL.HV} {k : IntKind} {n : Int} : HL.convV Tryz.prog V 167 12 (.int k n) = some (.int .u64 (IntKind.u64.wrap n)) := HL.conv_int Tryz.underlying167 Tryz.underlying12
@[go_sem] theorem T.cv167_21 {V : HL.HV} {k : IntKind} {n : Int} : HL.convV Tryz.prog V 167 21 (.int k n) = some (.int .i32 (IntKind.i32.wrap n)) := HL.conv_int Tryz.underlying167 Tryz.underlying21
@[go_sem] theorem T.cv167_25 {V : HL.HV} {k : IntKind} {n : Int} : HL.convV Tryz.prog V 167 25 (.int k n) = some (.int .i64 (IntKind.i64.wrap n)) := HL.conv_int Tryz.underlying167 Tryz.underlying25
@[go_sem] theorem T.cv167_155 {V : HL.HV} {k : IntKind} {n : Int} : HL.convV Tryz.prog V 167 155 (.int k n) = some (.int .u64 (IntKind.u64.wrap n)) := HL.conv_int Tryz.underlying167 Tryz.underlying155
@[go_sem] theorem T.cv167_159 {V : HL.HV} {k : IntKind} {n : Int} : HL.convV Tryz.prog V 167 159 (.int k n) = some (.int .u32 (IntKind.u32.wrap n)) := HL.conv_int Tryz.underlying167 Tryz.underlying159
@[go_sem] theorem T.cv167_167 {V : HL.HV} {k : IntKind} {n : Int} : HL.convV Tryz.prog V 167 167 (.int k n) = some (.int .u8 (IntKind.u8.wrap n)) := HL.conv_int Tryz.underlying167 Tryz.underlying167
@[go_sem] theorem T.cv167_168 {V : HL.HV} {k : IntKind} {n : Int} : HL.convV Tryz.prog V 167 168 (.int k n) = some (.int .u8 (IntKind.u8.wrap n)) := HL.conv_int Tryz.underlying167 Tryz.underlying168
@[go_sem] theorem T.cv167_171 {V : HL.HV} {k : IntKind} {n : Int} : HL.convV Tryz.prog V 167 171 (.int k n) = some (.int .i32 (IntKind.i32.wrap n)) := HL.conv_int Tryz.underlying167 Tryz.underlying171
@[go_sem] theorem T.cv167_172 {V : HL.HV} {k : IntKind} {n : Int} : HL.convV Tryz.prog V 167 172 (.int k n) = some (.int .i32 (IntKind.i32.wrap n)) := HL.conv_int Tryz.underlying167 Tryz.underlying172
@[go_sem] theorem T.cv168_2 {V : HL.HV} {k : IntKind} {n : Int} : HL.convV Tryz.prog V 168 2 (.int k n) = some (.int .i64 (IntKind.i64.wrap n)) := HL.conv_int Tryz.underlying168 Tryz.underlying2
@[go_sem] theorem T.cv168_3 {V : HL.HV} {k : IntKind} {n : Int} : HL.convV Tryz.prog V 168 3 (.int k n) = some (.int .i64 (IntKind.i64.wrap n)) := HL.conv_int Tryz.underlying168 Tryz.underlying3
@[go_sem] theorem T.cv168_5 {V : HL.HV} {k : IntKind} {n : Int} : HL.convV Tryz.prog V 168 5 (.int k n) = some (.int .u8 (IntKind.u8.wrap n)) := HL.conv_int Tryz.underlying168 Tryz.underlying5
@[go_sem] theorem T.cv168_6 {V : HL.HV} {k : IntKind} {n : Int} : HL.convV Tryz.prog V 168 6 (.int k n) = some (.int .u8 (IntKind.u8.wrap n)) := HL.conv_int Tryz.underlying168 Tryz.underlying6
@[go_sem] theorem T.cv168_12 {V : HL.HV} {k : IntKind} {n : Int} : HL.convV Tryz.prog V 168 12 (.int k n) = some (.int .u64 (IntKind.u64.wrap n)) := HL.conv_int Tryz.underlying168 Tryz.underlying12
@[go_sem] theorem T.cv168_21 {V : HL.HV} {k : IntKind} {n : Int} : HL.convV Tryz.prog V 168 21 (.int k n) = some (.int .i32 (IntKind.i32.wrap n)) := HL.conv_int Tryz.underlying168 Tryz.underlying21
@[go_sem] theorem T.cv168_25 {V : HL.HV} {k : IntKind} {n : Int} : HL.convV Tryz.prog V 168 25 (.int k n) = some (.int .i64 (IntKind.i64.wrap n)) := HL.conv_int Tryz.underlying168 Tryz.underlying25
@[go_sem] theorem T.cv168_155 {V : HL.HV} {k : IntKind} {n : Int} : HL.convV Tryz.prog V 168 155 (.int k n) = some (.int .u64 (IntKind.u64.wrap n)) := HL.conv_int Tryz.underlying168 Tryz.underlying155
@[go_sem] theorem T.cv168_159 {V : HL.HV} {k : IntKind} {n : Int} : HL.convV Tryz.prog V 168 159 (.int k n) = some (.int .u32 (IntKind.u32.wrap n)) := HL.conv_int Tryz.underlying168 Tryz.underlying159
@[go_sem] theorem T.cv168_167 {V : HL.HV} {k : IntKind} {n : Int} : HL.convV Tryz.prog V 168 167 (.int k n) = some (.int .u8 (IntKind.u8.wrap n)) := HL.conv_int Tryz.underlying168 Tryz.underlying167
@[go_sem] theorem T.cv168_168 {V : HL.HV} {k : IntKind} {n : Int} : HL.convV Tryz.prog V 168 168 (.int k n) = some (.int .u8 (IntKind.u8.wrap n)) := HL.conv_int Tryz.underlying168 Tryz.underlying168
@[go_sem] theorem T.cv168_171 {V : HL.HV} {k : IntKind} {n : Int} : HL.convV Tryz.prog V 168 171 (.int k n) = some (.int .i32 (IntKind.i32.wrap n)) := HL.conv_int Tryz.underlying168 Tryz.underlying171
@[go_sem] theorem T.cv168_172 {V : HL.HV} {k : IntKind} {n : Int} : HL.convV Tryz.prog V 168 172 (.int k n) = some (.int .i32 (IntKind.i32.wrap n)) := HL.conv_int Tryz.underlying168 Tryz.underlying172
@[go_sem] theorem T.cv171_2 {V : HL.HV} {k : IntKind} {n : Int} : HL.convV Tryz.prog V 171 2 (.int k n) = some (.int .i64 (IntKind.i64.wrap n)) := HL.conv_int Tryz.underlying171 Tryz.underlying2
@[go_sem] theorem T.cv171_3 {V : HL.HV} {k : IntKind} {n : Int} : HL.convV Tryz.prog V 171 3 (.int k n) = some (.int .i64 (IntKind.i64.wrap n)) := HL.conv_int Tryz.underlying171 Tryz.underlying3
@[go_sem] theorem T.cv171_5 {V : HL.HV} {k : IntKind} {n : Int} : HL.convV Tryz.prog V 171 5 (.int k n) = some (.int .u8 (IntKind.u8.wrap n)) := HL.conv_int Tryz.underlying171 Tryz.underlying5
@[go_sem] theorem T.cv171_6 {V : HL.HV} {k : IntKind} {n : Int} : HL.convV Tryz.prog V 171 6 (.int k n) = some (.int .u8 (IntKind.u8.wrap n)) := HL.conv_int Tryz.underlying171 Tryz.underlying6
@[go_sem] theorem T.cv171_12 {V : HL.HV} {k : IntKind} {n : Int} : HL.convV Tryz.prog V 171 12 (.int k n) = some (.int .u64 (IntKind.u64.wrap n)) := HL.conv_int Tryz.underlying171 Tryz.underlying12
@[go_sem] theorem T.cv171_21 {V : HL.HV} {k : IntKind} {n : Int} : HL.convV Tryz.prog V 171 21 (.int k n) = some (.int .i32 (IntKind.i32.wrap n)) := HL.conv_int Tryz.underlying171 Tryz.underlying21
@[go_sem] theorem T.cv171_25 {V : HL.HV} {k : IntKind} {n : Int} : HL.convV Tryz.prog V 171 25 (.int k n) = some (.int .i64 (IntKind.i64.wrap n)) := HL.conv_int Tryz.underlying171 Tryz.underlying25
@[go_sem] theorem T.cv171_155 {V : HL.HV} {k : IntKind} {n : Int} : HL.convV Tryz.prog V 171 155 (.int k n) = some (.int .u64 (IntKind.u64.wrap n)) := HL.conv_int Tryz.underlying171 Tryz.underlying155
@[go_sem] theorem T.cv171_159 {V : HL.HV} {k : IntKind} {n : Int} : HL.convV Tryz.prog V 171 159 (.int k n) = some (.int .u32 (IntKind.u32.wrap n)) := HL.conv_int Tryz.underlying171 Tryz.underlying159
@[go_sem] theorem T.cv171_167 {V : HL.HV} {k : IntKind} {n : Int} : HL.convV Tryz.prog V 171 167 (.int k n) = some (.int .u8 (IntKind.u8.wrap n)) := HL.conv_int Tryz.underlying171 Tryz.underlying167
@[go_sem] theorem T.cv171_168 {V : HL.HV} {k : IntKind} {n : Int} : HL.convV Tryz.prog V 171 168 (.int k n) = some (.int .u8 (IntKind.u8.wrap n)) := HL.conv_int Tryz.underlying171 Tryz.underlying168
@[go_sem] theorem T.cv171_171 {V : HL.HV} {k : IntKind} {n : Int} : HL.convV Tryz.prog V 171 171 (.int k n) = some (.int .i32 (IntKind.i32.wrap n)) := HL.conv_int Tryz.underlying171 Tryz.underlying171
@[go_sem] theorem T.cv171_172 {V : HL.HV} {k : IntKind} {n : Int} : HL.convV Tryz.prog V 171 172 (.int k n) = some (.int .i32 (IntKind.i32.wrap n)) := HL.conv_int Tryz.underlying171 Tryz.underlying172
@[go_sem] theorem T.cv172_2 {V : HL.HV} {k : IntKind} {n : Int} : HL.convV Tryz.prog V 172 2 (.int k n) = some (.int .i64 (IntKind.i64.wrap n)) := HL.conv_int Tryz.underlying172 Tryz.underlying2
@[go_sem] theorem T.cv172_3 {V : HL.HV} {k : IntKind} {n : Int} : HL.convV Tryz.prog V 172 3 (.int k n) = some (.int .i64 (IntKind.i64.wrap n)) := HL.conv_int Tryz.underlying172 Tryz.underlying3
@[go_sem] theorem T.cv172_5 {V : HL.HV} {k : IntKind} {n : Int} : HL.convV Tryz.prog V 172 5 (.int k n) = some (.int .u8 (IntKind.u8.wrap n)) := HL.conv_int Tryz.underlying172 Tryz.underlying5
@[go_sem] theorem T.cv172_6 {V : HL.HV} {k : IntKind} {n : Int} : HL.convV Tryz.prog V 172 6 (.int k n) = some (.int .u8 (IntKind.u8.wrap n)) := HL.conv_int Tryz.underlying172 Tryz.underlying6
@[go_sem] theorem T.cv172_12 {V : HL.HV} {k : IntKind} {n : Int} : HL.convV Tryz.prog V 172 12 (.int k n) = some (.int .u64 (IntKind.u64.wrap n)) := HL.conv_int Tryz.underlying172 Tryz.underlying12
@[go_sem] theorem T.cv172_21 {V : HL.HV} {k : IntKind} {n : Int} : HL.convV Tryz.prog V 172 21 (.int k n) = some (.int .i32 (IntKind.i32.wrap n)) := HL.conv_int Tryz.underlying172 Tryz.underlying21
@[go_sem] theorem T.cv172_25 {V : HL.HV} {k : IntKind} {n : Int} : HL.convV Tryz.prog V 172 25 (.int k n) = some (.int .i64 (IntKind.i64.wrap n)) := HL.conv_int Tryz.underlying172 Tryz.underlying25
@[go_sem] theorem T.cv172_155 {V : HL.HV} {k : IntKind} {n : Int} : HL.convV Tryz.prog V 172 155 (.int k n) = some (.int .u64 (IntKind.u64.wrap n)) := HL.conv_int Tryz.underlying172 Tryz.underlying155
@[go_sem] theorem T.cv172_159 {V : HL.HV} {k : IntKind} {n : Int} : HL.convV Tryz.prog V 172 159 (.int k n) = some (.int .u32 (IntKind.u32.wrap n)) := HL.conv_int Tryz.underlying172 Tryz.underlying159
@[go_sem] theorem T.cv172_167 {V : HL.HV} {k : IntKind} {n : Int} : HL.convV Tryz.prog V 172 167 (.int k n) = some (.int .u8 (IntKind.u8.wrap n)) := HL.conv_int Tryz.underlying172 Tryz.underlying167
@[go_sem] theorem T.cv172_168 {V : HL.HV} {k : IntKind} {n : Int} : HL.convV Tryz.prog V 172 168 (.int k n) = some (.int .u8 (IntKind.u8.wrap n)) := HL.conv_int Tryz.underlying172 Tryz.underlying168
@[go_sem] theorem T.cv172_171 {V : HL.HV} {k : IntKind} {n : Int} : HL.convV Tryz.prog V 172 171 (.int k n) = some (.int .i32 (IntKind.i32.wrap n)) := HL.conv_int Tryz.underlying172 Tryz.underlying171
@[go_sem] theorem T.cv172_172 {V : HL.HV} {k : IntKind} {n : Int} : HL.convV Tryz.prog V 172 172 (.int k n) = some (.int .i32 (IntKind.i32.wrap n)) := HL.conv_int Tryz.underlying172 Tryz.underlying172
@[go_sem] theorem T.bs22_1 {H : HL.Heap} {x0 : Int} {a1 : Option Addr} {l1 c1 : Nat} {a2 : Option Addr} {l2 c2 : Nat} {a3 : Option Addr} {l3 c3 : Nat} {x4 : Int} : HL.buildSliceV Tryz.prog H 22 1 [(0, .agg #[.int .i64 x0, .slice a1 l1 c1, .slice a2 l2 c2, .slice a3 l3 c3, .int .i64 x4])] = some (.slice (some ⟨H.size, 0, none⟩) 1 1, H.push (.cells #[.int .i64 x0, .slice a1 l1 c1, .slice a2 l2 c2, .slice a3 l3 c3, .int .i64 x4] 45)) := HL.bsl_of (vs := [.agg #[.int .i64 x0, .slice a1 l1 c1, .slice a2 l2 c2, .slice a3 l3 c3, .int .i64 x4]]) T.elem22 T.size45 T.zero45 (Nat.le_of_ble_eq_true rfl) rfl rfl
@[go_sem] theorem T.bs22_2 {H : HL.Heap} {x0 : Int} {a1 : Option Addr} {l1 c1 : Nat} {a2 : Option Addr} {l2 c2 : Nat} {a3 : Option Addr} {l3 c3 : Nat} {x4 : Int} {x5 : Int} {a6 : Option Addr} {l6 c6 : Nat} {a7 : Option Addr} {l7 c7 : Nat} {a8 : Option Addr} {l8 c8 : Nat} {x9 : Int} : HL.buildSliceV Tryz.prog H 22 2 [(0, .agg #[.int .i64 x0, .slice a1 l1 c1, .slice a2 l2 c2, .slice a3 l3 c3, .int .i64 x4]), (1, .agg #[.int .i64 x5, .slice a6 l6 c6, .slice a7 l7 c7, .slice a8 l8 c8, .int .i64 x9])] = some (.slice (some ⟨H.size, 0, none⟩) 2 2, H.push (.cells #[.int .i64 x0, .slice a1 l1 c1, .slice a2 l2 c2, .slice a3 l3 c3, .int .i64 x4, .int .i64 x5, .slice a6 l6 c6, .slice a7 l7 c7, .slice a8 l8 c8, .int .i64 x9] 45)) := HL.bsl_of (vs := [.agg #[.int .i64 x0, .slice a1 l1 c1, .slice a2 l2 c2, .slice a3 l3 c3, .int .i64 x4], .agg #[.int .i64 x5, .slice a6 l6 c6, .slice a7 l7 c7, .slice a8 l8 c8, .int .i64 x9]]) T.elem22 T.size45 T.zero45 (Nat.le_of_ble_eq_true rfl) rfl rfl
@[go_sem] theorem T.bs22_3 {H : HL.Heap} {x0 : Int} {a1 : Option Addr} {l1 c1 : Nat} {a2 : Option Addr} {l2 c2 : Nat} {a3 : Option Addr} {l3 c3 : Nat} {x4 : Int} {x5 : Int} {a6 : Option Addr} {l6 c6 : Nat} {a7 : Option Addr} {l7 c7 : Nat} {a8 : Option Addr} {l8 c8 : Nat} {x9 : Int} {x10 : Int} {a11 : Option Addr} {l11 c11 : Nat} {a12 : Option Addr} {l12 c12 : Nat} {a13 : Option Addr} {l13 c13 : Nat} {x14 : Int} : HL.buildSliceV Tryz.prog H 22 3 [(0, .agg #[.int .i64 x0, .slice a1 l1 c1, .slice a2 l2 c2, .slice a3 l3 c3, .int .i64 x4]), (1, .agg #[.int .i64 x5, .slice a6 l6 c6, .slice a7 l7 c7, .slice a8 l8 c8, .int .i64 x9]), (2, .agg #[.int .i64 x10, .slice a11 l11 c11, .slice a12 l12 c12, .slice a13 l13 c13, .int .i64 x14])] = some (.slice (some ⟨H.size, 0, none⟩) 3 3, H.push (.cells #[.int .i64 x0, .slice a1 l1 c1, .slice a2 l2 c2, .slice a3 l3 c3, .int .i64 x4, .int .i64 x5, .slice a6 l6 c6, .slice a7 l7 c7, .slice a8 l8 c8, .int .i64 x9, .int .i64 x10, .slice a11 l11 c11, .slice a12 l12 c12, .slice a13 l13 c13, .int .i64 x14] 45)) := HL.bsl_of (vs := [.agg #[.int .i64 x0, .slice a1 l1 c1, .slice a2 l2 c2, .slice a3 l3 c3, .int .i64 x4], .agg #[.int .i64 x5, .slice a6 l6 c6, .slice a7 l7 c7, .slice a8 l8 c8, .int .i64 x9], .agg #[.int .i64 x10, .slice a11 l11 c11, .slice a12 l12 c12, .slice a13 l13 c13, .int .i64 x14]]) T.elem22 T.size45 T.zero45 (Nat.le_of_ble_eq_true rfl) rfl rfl
@[go_sem] theorem T.bs29_1 {H : HL.Heap} {x0 : ByteArray} {x1 : Int} {x2 : Int} {x3 : Bool} {x4 : Bool} : HL.buildSliceV Tryz.prog H 29 1 [(0, .agg #[.string x0, .int .i64 x1, .int .i64 x2, .bool x3, .bool x4])] = some (.slice (some ⟨H.size, 0, none⟩) 1 1, H.push (.cells #[.string x0, .int .i64 x1, .int .i64 x2, .bool x3, .bool x4] 66)) := HL.bsl_of (vs := [.agg #[.string x0, .int .i64 x1, .int .i64 x2, .bool x3, .bool x4]]) T.elem29 T.size66 T.zero66 (Nat.le_of_ble_eq_true rfl) rfl rfl
@[go_sem] theorem T.bs29_2 {H : HL.Heap} {x0 : ByteArray} {x1 : Int} {x2 : Int} {x3 : Bool} {x4 : Bool} {x5 : ByteArray} {x6 : Int} {x7 : Int} {x8 : Bool} {x9 : Bool} : HL.buildSliceV Tryz.prog H 29 2 [(0, .agg #[.string x0, .int .i64 x1, .int .i64 x2, .bool x3, .bool x4]), (1, .agg #[.string x5, .int .i64 x6, .int .i64 x7, .bool x8, .bool x9])] = some (.slice (some ⟨H.size, 0, none⟩) 2 2, H.push (.cells #[.string x0, .int .i64 x1, .int .i64 x2, .bool x3, .bool x4, .string x5, .int .i64 x6, .int .i64 x7, .bool x8, .bool x9] 66)) := HL.bsl_of (vs := [.agg #[.string x0, .int .i64 x1, .int .i64 x2, .bool x3, .bool x4], .agg #[.string x5, .int .i64 x6, .int .i64 x7, .bool x8, .bool x9]]) T.elem29 T.size66 T.zero66 (Nat.le_of_ble_eq_true rfl) rfl rfl
@[go_sem] theorem T.bs29_3 {H : HL.Heap} {x0 : ByteArray} {x1 : Int} {x2 : Int} {x3 : Bool} {x4 : Bool} {x5 : ByteArray} {x6 : Int} {x7 : Int} {x8 : Bool} {x9 : Bool} {x10 : ByteArray} {x11 : Int} {x12 : Int} {x13 : Bool} {x14 : Bool} : HL.buildSliceV Tryz.prog H 29 3 [(0, .agg #[.string x0, .int .i64 x1, .int .i64 x2, .bool x3, .bool x4]), (1, .agg #[.string x5, .int .i64 x6, .int .i64 x7, .bool x8, .bool x9]), (2, .agg #[.string x10, .int .i64 x11, .int .i64 x12, .bool x13, .bool x14])] = some (.slice (some ⟨H.size, 0, none⟩) 3 3, H.push (.cells #[.string x0, .int .i64 x1, .int .i64 x2, .bool x3, .bool x4, .string x5, .int .i64 x6, .int .i64 x7, .bool x8, .bool x9, .string x10, .int .i64 x11, .int .i64 x12, .bool x13, .bool x14] 66)) := HL.bsl_of (vs := [.agg #[.string x0, .int .i64 x1, .int .i64 x2, .bool x3, .bool x4], .agg #[.string x5, .int .i64 x6, .int .i64 x7, .bool x8, .bool x9], .agg #[.string x10, .int .i64 x11, .int .i64 x12, .bool x13, .bool x14]]) T.elem29 T.size66 T.zero66 (Nat.le_of_ble_eq_true rfl) rfl rfl
@[go_sem] theorem T.bs30_1 {H : HL.Heap} {x0 : ByteArray} {x1 : Int} {x2 : Int} : HL.buildSliceV Tryz.prog H 30 1 [(0, .agg #[.string x0, .int .i64 x1, .int .i64 x2])] = some (.slice (some ⟨H.size, 0, none⟩) 1 1, H.push (.cells #[.string x0, .int .i64 x1, .int .i64 x2] 68)) := HL.bsl_of (vs := [.agg #[.string x0, .int .i64 x1, .int .i64 x2]]) T.elem30 T.size68 T.zero68 (Nat.le_of_ble_eq_true rfl) rfl rfl
@[go_sem] theorem T.bs30_2 {H : HL.Heap} {x0 : ByteArray} {x1 : Int} {x2 : Int} {x3 : ByteArray} {x4 : Int} {x5 : Int} : HL.buildSliceV Tryz.prog H 30 2 [(0, .agg #[.string x0, .int .i64 x1, .int .i64 x2]), (1, .agg #[.string x3, .int .i64 x4, .int .i64 x5])] = some (.slice (some ⟨H.size, 0, none⟩) 2 2, H.push (.cells #[.string x0, .int .i64 x1, .int .i64 x2, .string x3, .int .i64 x4, .int .i64 x5] 68)) := HL.bsl_of (vs := [.agg #[.string x0, .int .i64 x1, .int .i64 x2], .agg #[.string x3, .int .i64 x4, .int .i64 x5]]) T.elem30 T.size68 T.zero68 (Nat.le_of_ble_eq_true rfl) rfl rfl
@[go_sem] theorem T.bs30_3 {H : HL.Heap} {x0 : ByteArray} {x1 : Int} {x2 : Int} {x3 : ByteArray} {x4 : Int} {x5 : Int} {x6 : ByteArray} {x7 : Int} {x8 : Int} : HL.buildSliceV Tryz.prog H 30 3 [(0, .agg #[.string x0, .int .i64 x1, .int .i64 x2]), (1, .agg #[.string x3, .int .i64 x4, .int .i64 x5]), (2, .agg #[.string x6, .int .i64 x7, .int .i64 x8])] = some (.slice (some ⟨H.size, 0, none⟩) 3 3, H.push (.cells #[.string x0, .int .i64 x1, .int .i64 x2, .string x3, .int .i64 x4, .int .i64 x5, .string x6, .int .i64 x7, .int .i64 x8] 68)) := HL.bsl_of (vs := [.agg #[.string x0, .int .i64 x1, .int .i64 x2], .agg #[.string x3, .int .i64 x4, .int .i64 x5], .agg #[.string x6, .int .i64 x7, .int .i64 x8]]) T.elem30 T.size68 T.zero68 (Nat.le_of_ble_eq_true rfl) rfl rfl
@[go_sem] theorem T.bs30_4 {H : HL.Heap} {x0 : ByteArray} {x1 : Int} {x2 : Int} {x3 : ByteArray} {x4 : Int} {x5 : Int} {x6 : ByteArray} {x7 : Int} {x8 : Int} {x9 : ByteArray} {x10 : Int} {x11 : Int} : HL.buildSliceV Tryz.prog H 30 4 [(0, .agg #[.string x0, .int .i64 x1, .int .i64 x2]), (1, .agg #[.string x3, .int .i64 x4, .int .i64 x5]), (2, .agg #[.string x6, .int .i64 x7, .int .i64 x8]), (3, .agg #[.string x9, .int .i64 x10, .int .i64 x11])] = some (.slice (some ⟨H.size, 0, none⟩) 4 4, H.push (.cells #[.string x0, .int .i64 x1, .int .i64 x2, .string x3, .int .i64 x4, .int .i64 x5, .string x6, .int .i64 x7, .int .i64 x8, .string x9, .int .i64 x10, .int .i64 x11] 68)) := HL.bsl_of (vs := [.agg #[.string x0, .int .i64 x1, .int .i64 x2], .agg #[.string x3, .int .i64 x4, .int .i64 x5], .agg #[.string x6, .int .i64 x7, .int .i64 x8], .agg #[.string x9, .int .i64 x10, .int .i64 x11]]) T.elem30 T.size68 T.zero68 (Nat.le_of_ble_eq_true rfl) rfl rfl
@[go_sem] theorem T.bs31_1 {H : HL.Heap} {x0 : ByteArray} {x1 : Int} {a2 : Option Addr} {l2 c2 : Nat} {x3 : Int} {a4 : Option Addr} {l4 c4 : Nat} {a5 : Option Addr} {l5 c5 : Nat} {a6 : Option Addr} {l6 c6 : Nat} {a7 : Option Addr} {l7 c7 : Nat} : HL.buildSliceV Tryz.prog H 31 1 [(0, .agg #[.string x0, .int .i64 x1, .slice a2 l2 c2, .int .i64 x3, .slice a4 l4 c4, .slice a5 l5 c5, .slice a6 l6 c6, .slice a7 l7 c7])] = some (.slice (some ⟨H.size, 0, none⟩) 1 1, H.push (.cells #[.string x0, .int .i64 x1, .slice a2 l2 c2, .int .i64 x3, .slice a4 l4 c4, .slice a5 l5 c5, .slice a6 l6 c6, .slice a7 l7 c7] 56)) := HL.bsl_of (vs := [.agg #[.string x0, .int .i64 x1, .slice a2 l2 c2, .int .i64 x3, .slice a4 l4 c4, .slice a5 l5 c5, .slice a6 l6 c6, .slice a7 l7 c7]]) T.elem31 T.size56 T.zero56 (Nat.le_of_ble_eq_true rfl) rfl rfl
@[go_sem] theorem T.bs31_2 {H : HL.Heap} {x0 : ByteArray} {x1 : Int} {a2 : Option Addr} {l2 c2 : Nat} {x3 : Int} {a4 : Option Addr} {l4 c4 : Nat} {a5 : Option Addr} {l5 c5 : Nat} {a6 : Option Addr} {l6 c6 : Nat} {a7 : Option Addr} {l7 c7 : Nat} {x8 : ByteArray} {x9 : Int} {a10 : Option Addr} {l10 c10 : Nat} {x11 : Int} {a12 : Option Addr} {l12 c12 : Nat} {a13 : Option Addr} {l13 c13 : Nat} {a14 : Option Addr} {l14 c14 : Nat} {a15 : Option Addr} {l15 c15 : Nat} : HL.buildSliceV Tryz.prog H 31 2 [(0, .agg #[.string x0, .int .i64 x1, .slice a2 l2 c2, .int .i64 x3, .slice a4 l4 c4, .slice a5 l5 c5, .slice a6 l6 c6, .slice a7 l7 c7]), (1, .agg #[.string x8, .int .i64 x9, .slice a10 l10 c10, .int .i64 x11, .slice a12 l12 c12, .slice a13 l13 c13, .slice a14 l14 c14, .slice a15 l15 c15])] = some (.slice (some ⟨H.size, 0, none⟩) 2 2, H.push (.cells #[.string x0, .int .i64 x1, .slice a2 l2 c2, .int .i64 x3, .slice a4 l4 c4, .slice a5 l5 c5, .slice a6 l6 c6, .slice a7 l7 c7, .string x8, .int .i64 x9, .slice a10 l10 c10, .int .i64 x11, .slice a12 l12 c12, .slice a13 l13 c13, .slice a14 l14 c14, .slice a15 l15 c15] 56)) := HL.bsl_of (vs := [.agg #[.string x0, .int .i64 x1, .slice a2 l2 c2, .int .i64 x3, .slice a4 l4 c4, .slice a5 l5 c5, .slice a6 l6 c6, .slice a7 l7 c7], .agg #[.string x8, .int .i64 x9, .slice a10 l10 c10, .int .i64 x11, .slice a12 l12 c12, .slice a13 l13 c13, .slice a14 l14 c14, .slice a15 l15 c15]]) T.elem31 T.size56 T.zero56 (Nat.le_of_ble_eq_true rfl) rfl rfl
@[go_sem] theorem T.bs54_1 {H : HL.Heap} {x0 : Int} {x1 : Int} {x2 : Int} {x3 : Int} {x4 : Int} {x5 : Int} {x6 : Bool} {x7 : Int} : HL.buildSliceV Tryz.prog H 54 1 [(0, .agg #[.int .i64 x0, .int .i64 x1, .int .i64 x2, .int .i64 x3, .int .i64 x4, .int .i64 x5, .bool x6, .int .i64 x7])] = some (.slice (some ⟨H.size, 0, none⟩) 1 1, H.push (.cells #[.int .i64 x0, .int .i64 x1, .int .i64 x2, .int .i64 x3, .int .i64 x4, .int .i64 x5, .bool x6, .int .i64 x7] 58)) := HL.bsl_of (vs := [.agg #[.int .i64 x0, .int .i64 x1, .int .i64 x2, .int .i64 x3, .int .i64 x4, .int .i64 x5, .bool x6, .int .i64 x7]]) T.elem54 T.size58 T.zero58 (Nat.le_of_ble_eq_true rfl) rfl rfl
@[go_sem] theorem T.bs54_2 {H : HL.Heap} {x0 : Int} {x1 : Int} {x2 : Int} {x3 : Int} {x4 : Int} {x5 : Int} {x6 : Bool} {x7 : Int} {x8 : Int} {x9 : Int} {x10 : Int} {x11 : Int} {x12 : Int} {x13 : Int} {x14 : Bool} {x15 : Int} : HL.buildSliceV Tryz.prog H 54 2 [(0, .agg #[.int .i64 x0, .int .i64 x1, .int .i64 x2, .int .i64 x3, .int .i64 x4, .int .i64 x5, .bool x6, .int .i64 x7]), (1, .agg #[.int .i64 x8, .int .i64 x9, .int .i64 x10, .int .i64 x11, .int .i64 x12, .int .i64 x13, .bool x14, .int .i64 x15])] = some (.slice (some ⟨H.size, 0, none⟩) 2 2, H.push (.cells #[.int .i64 x0, .int .i64 x1, .int .i64 x2, .int .i64 x3, .int .i64 x4, .int .i64 x5, .bool x6, .int .i64 x7, .int .i64 x8, .int .i64 x9, .int .i64 x10, .int .i64 x11, .int .i64 x12, .int .i64 x13, .bool x14, .int .i64 x15] 58)) := HL.bsl_of (vs := [.agg #[.int .i64 x0, .int .i64 x1, .int .i64 x2, .int .i64 x3, .int .i64 x4, .int .i64 x5, .bool x6, .int .i64 x7], .agg #[.int .i64 x8, .int .i64 x9, .int .i64 x10, .int .i64 x11, .int .i64 x12, .int .i64 x13, .bool x14, .int .i64 x15]]) T.elem54 T.size58 T.zero58 (Nat.le_of_ble_eq_true rfl) rfl rfl
@[go_sem] theorem T.bs71_1 {H : HL.Heap} {x0 : Int} {x1 : ByteArray} {x2 : Int} : HL.buildSliceV Tryz.prog H 71 1 [(0, .agg #[.int .i64 x0, .string x1, .int .i64 x2])] = some (.slice (some ⟨H.size, 0, none⟩) 1 1, H.push (.cells #[.int .i64 x0, .string x1, .int .i64 x2] 119)) := HL.bsl_of (vs := [.agg #[.int .i64 x0, .string x1, .int .i64 x2]]) T.elem71 T.size119 T.zero119 (Nat.le_of_ble_eq_true rfl) rfl rfl
@[go_sem] theorem T.bs71_2 {H : HL.Heap} {x0 : Int} {x1 : ByteArray} {x2 : Int} {x3 : Int} {x4 : ByteArray} {x5 : Int} : HL.buildSliceV Tryz.prog H 71 2 [(0, .agg #[.int .i64 x0, .string x1, .int .i64 x2]), (1, .agg #[.int .i64 x3, .string x4, .int .i64 x5])] = some (.slice (some ⟨H.size, 0, none⟩) 2 2, H.push (.cells #[.int .i64 x0, .string x1, .int .i64 x2, .int .i64 x3, .string x4, .int .i64 x5] 119)) := HL.bsl_of (vs := [.agg #[.int .i64 x0, .string x1, .int .i64 x2], .agg #[.int .i64 x3, .string x4, .int .i64 x5]]) T.elem71 T.size119 T.zero119 (Nat.le_of_ble_eq_true rfl) rfl rfl
@[go_sem] theorem T.bs71_3 {H : HL.Heap} {x0 : Int} {x1 : ByteArray} {x2 : Int} {x3 : Int} {x4 : ByteArray} {x5 : Int} {x6 : Int} {x7 : ByteArray} {x8 : Int} : HL.buildSliceV Tryz.prog H 71 3 [(0, .agg #[.int .i64 x0, .string x1, .int .i64 x2]), (1, .agg #[.int .i64 x3, .string x4, .int .i64 x5]), (2, .agg #[.int .i64 x6, .string x7, .int .i64 x8])] = some (.slice (some ⟨H.size, 0, none⟩) 3 3, H.push (.cells #[.int .i64 x0, .string x1, .int .i64 x2, .int .i64 x3, .string x4, .int .i64 x5, .int .i64 x6, .string x7, .int .i64 x8] 119)) := HL.bsl_of (vs := [.agg #[.int .i64 x0, .string x1, .int .i64 x2], .agg #[.int .i64 x3, .string x4, .int .i64 x5], .agg #[.int .i64 x6, .string x7, .int .i64 x8]]) T.elem71 T.size119 T.zero119 (Nat.le_of_ble_eq_true rfl) rfl rfl
@[go_sem] theorem T.bs71_4 {H : HL.Heap} {x0 : Int} {x1 : ByteArray} {x2 : Int} {x3 : Int} {x4 : ByteArray} {x5 : Int} {x6 : Int} {x7 : ByteArray} {x8 : Int} {x9 : Int} {x10 : ByteArray} {x11 : Int} : HL.buildSliceV Tryz.prog H 71 4 [(0, .agg #[.int .i64 x0, .string x1, .int .i64 x2]), (1, .agg #[.int .i64 x3, .string x4, .int .i64 x5]), (2, .agg #[.int .i64 x6, .string x7, .int .i64 x8]), (3, .agg #[.int .i64 x9, .string x10, .int .i64 x11])] = some (.slice (some ⟨H.size, 0, none⟩) 4 4, H.push (.cells #[.int .i64 x0, .string x1, .int .i64 x2, .int .i64 x3, .string x4, .int .i64 x5, .int .i64 x6, .string x7, .int .i64 x8, .int .i64 x9, .string x10, .int .i64 x11] 119)) := HL.bsl_of (vs := [.agg #[.int .i64 x0, .string x1, .int .i64 x2], .agg #[.int .i64 x3, .string x4, .int .i64 x5], .agg #[.int .i64 x6, .string x7, .int .i64 x8], .agg #[.int .i64 x9, .string x10, .int .i64 x11]]) T.elem71 T.size119 T.zero119 (Nat.le_of_ble_eq_true rfl) rfl rfl
@[go_sem] theorem T.bs77_1 {H : HL.Heap} {x0 : Int} {a1 : Option Addr} {l1 c1 : Nat} {a2 : Option Addr} {l2 c2 : Nat} {a3 : Option Addr} {l3 c3 : Nat} {x4 : Int} {a5 : Option Addr} {l5 c5 : Nat} : HL.buildSliceV Tryz.prog H 77 1 [(0, .agg #[.int .i64 x0, .slice a1 l1 c1, .slice a2 l2 c2, .slice a3 l3 c3, .int .i64 x4, .slice a5 l5 c5])] = some (.slice (some ⟨H.size, 0, none⟩) 1 1, H.push (.cells #[.int .i64 x0, .slice a1 l1 c1, .slice a2 l2 c2, .slice a3 l3 c3, .int .i64 x4, .slice a5 l5 c5] 79)) := HL.bsl_of (vs := [.agg #[.int .i64 x0, .slice a1 l1 c1, .slice a2 l2 c2, .slice a3 l3 c3, .int .i64 x4, .slice a5 l5 c5]]) T.elem77 T.size79 T.zero79 (Nat.le_of_ble_eq_true rfl) rfl rfl
@[go_sem] theorem T.bs77_2 {H : HL.Heap} {x0 : Int} {a1 : Option Addr} {l1 c1 : Nat} {a2 : Option Addr} {l2 c2 : Nat} {a3 : Option Addr} {l3 c3 : Nat} {x4 : Int} {a5 : Option Addr} {l5 c5 : Nat} {x6 : Int} {a7 : Option Addr} {l7 c7 : Nat} {a8 : Option Addr} {l8 c8 : Nat} {a9 : Option Addr} {l9 c9 : Nat} {x10 : Int} {a11 : Option Addr} {l11 c11 : Nat} : HL.buildSliceV Tryz.prog H 77 2 [(0, .agg #[.int .i64 x0, .slice a1 l1 c1, .slice a2 l2 c2, .slice a3 l3 c3, .int .i64 x4, .slice a5 l5 c5]), (1, .agg #[.int .i64 x6, .slice a7 l7 c7, .slice a8 l8 c8, .slice a9 l9 c9, .int .i64 x10, .slice a11 l11 c11])] = some (.slice (some ⟨H.size, 0, none⟩) 2 2, H.push (.cells #[.int .i64 x0, .slice a1 l1 c1, .slice a2 l2 c2, .slice a3 l3 c3, .int .i64 x4, .slice a5 l5 c5, .int .i64 x6, .slice a7 l7 c7, .slice a8 l8 c8, .slice a9 l9 c9, .int .i64 x10, .slice a11 l11 c11] 79)) := HL.bsl_of (vs := [.agg #[.int .i64 x0, .slice a1 l1 c1, .slice a2 l2 c2, .slice a3 l3 c3, .int .i64 x4, .slice a5 l5 c5], .agg #[.int .i64 x6, .slice a7 l7 c7, .slice a8 l8 c8, .slice a9 l9 c9, .int .i64 x10, .slice a11 l11 c11]]) T.elem77 T.size79 T.zero79 (Nat.le_of_ble_eq_true rfl) rfl rfl
@[go_sem] theorem T.bs158_1 {H : HL.Heap} {x0 : Int} {x1 : Int} : HL.buildSliceV Tryz.prog H 158 1 [(0, .agg #[.int .i64 x0, .int .i64 x1])] = some (.slice (some ⟨H.size, 0, none⟩) 1 1, H.push (.cells #[.int .i64 x0, .int .i64 x1] 149)) := HL.bsl_of (vs := [.agg #[.int .i64 x0, .int .i64 x1]]) T.elem158 T.size149 T.zero149 (Nat.le_of_ble_eq_true rfl) rfl rfl
@[go_sem] theorem T.bs158_2 {H : HL.Heap} {x0 : Int} {x1 : Int} {x2 : Int} {x3 : Int} : HL.buildSliceV Tryz.prog H 158 2 [(0, .agg #[.int .i64 x0, .int .i64 x1]), (1, .agg #[.int .i64 x2, .int .i64 x3])] = some (.slice (some ⟨H.size, 0, none⟩) 2 2, H.push (.cells #[.int .i64 x0, .int .i64 x1, .int .i64 x2, .int .i64 x3] 149)) := HL.bsl_of (vs := [.agg #[.int .i64 x0, .int .i64 x1], .agg #[.int .i64 x2, .int .i64 x3]]) T.elem158 T.size149 T.zero149 (Nat.le_of_ble_eq_true rfl) rfl rfl
@[go_sem] theorem T.bs158_3 {H : HL.Heap} {x0 : Int} {x1 : Int} {x2 : Int} {x3 : Int} {x4 : Int} {x5 : Int} : HL.buildSliceV Tryz.prog H 158 3 [(0, .agg #[.int .i64 x0, .int .i64 x1]), (1, .agg #[.int .i64 x2, .int .i64 x3]), (2, .agg #[.int .i64 x4, .int .i64 x5])] = some (.slice (some ⟨H.size, 0, none⟩) 3 3, H.push (.cells #[.int .i64 x0, .int .i64 x1, .int .i64 x2, .int .i64 x3, .int .i64 x4, .int .i64 x5] 149)) := HL.bsl_of (vs := [.agg #[.int .i64 x0, .int .i64 x1], .agg #[.int .i64 x2, .int .i64 x3], .agg #[.int .i64 x4, .int .i64 x5]]) T.elem158 T.size149 T.zero149 (Nat.le_of_ble_eq_true rfl) rfl rfl
@[go_sem] theorem T.bs158_4 {H : HL.Heap} {x0 : Int} {x1 : Int} {x2 : Int} {x3 : Int} {x4 : Int} {x5 : Int} {x6 : Int} {x7 : Int} : HL.buildSliceV Tryz.prog H 158 4 [(0, .agg #[.int .i64 x0, .int .i64 x1]), (1, .agg #[.int .i64 x2, .int .i64 x3]), (2, .agg #[.int .i64 x4, .int .i64 x5]), (3, .agg #[.int .i64 x6, .int .i64 x7])] = some (.slice (some ⟨H.size, 0, none⟩) 4 4, H.push (.cells #[.int .i64 x0, .int .i64 x1, .int .i64 x2, .int .i64 x3, .int .i64 x4, .int .i64 x5, .int .i64 x6, .int .i64 x7] 149)) := HL.bsl_of (vs := [.agg #[.int .i64 x0, .int .i64 x1], .agg #[.int .i64 x2, .int .i64 x3], .agg #[.int .i64 x4, .int .i64 x5], .agg #[.int .i64 x6, .int .i64 x7]]) T.elem158 T.size149 T.zero149 (Nat.le_of_ble_eq_true rfl) rfl rfl
@[go_sem] theorem T.stn27 {H : HL.Heap} {z0 z1 : Value} {x0 : Int} {x1 : Int} : HL.storeA Tryz.prog (H.push (.cells #[z0, z1] 27)) 27 ⟨H.size, 0, none⟩ (.agg #[.int .i64 x0, .int .i64 x1]) = some (H.push (.cells #[.int .i64 x0, .int .i64 x1] 27)) := HL.store_new (z := [z0, z1]) (vs := [.int .i64 x0, .int .i64 x1]) T.size27 rfl (HL.one_all rfl)
@[go_sem] theorem T.ln27 {H : HL.Heap} {z0 z1 : Value} : HL.cellsH (HL.cellH (H.push (.cells #[z0, z1] 27))) ⟨H.size, 0, none⟩ 0 2 = some [z0, z1] := HL.Blk.cells0 (new := [z0, z1]) (HL.Blk.new rfl)
@[go_sem] theorem T.stn34 {H : HL.Heap} {z0 z1 z2 z3 z4 z5 z6 : Value} {a0 : Option Addr} {l0 c0 : Nat} {x1 : Int} {a2 : Option Addr} {l2 c2 : Nat} {a3 : Option Addr} {l3 c3 : Nat} {a4 : Option Addr} {l4 c4 : Nat} {a5 : Option Addr} {l5 c5 : Nat} {x6 : Bool} : HL.storeA Tryz.prog (H.push (.cells #[z0, z1, z2, z3, z4, z5, z6] 34)) 34 ⟨H.size, 0, none⟩ (.agg #[.slice a0 l0 c0, .int .i64 x1, .slice a2 l2 c2, .slice a3 l3 c3, .slice a4 l4 c4, .slice a5 l5 c5, .bool x6]) = some (H.push (.cells #[.slice a0 l0 c0, .int .i64 x1, .slice a2 l2 c2, .slice a3 l3 c3, .slice a4 l4 c4, .slice a5 l5 c5, .bool x6] 34)) := HL.store_new (z := [z0, z1, z2, z3, z4, z5, z6]) (vs := [.slice a0 l0 c0, .int .i64 x1, .slice a2 l2 c2, .slice a3 l3 c3, .slice a4 l4 c4, .slice a5 l5 c5, .bool x6]) T.size34 rfl (HL.one_all rfl)
@[go_sem] theorem T.ln34 {H : HL.Heap} {z0 z1 z2 z3 z4 z5 z6 : Value} : HL.cellsH (HL.cellH (H.push (.cells #[z0, z1, z2, z3, z4, z5, z6] 34))) ⟨H.size, 0, none⟩ 0 7 = some [z0, z1, z2, z3, z4, z5, z6] := HL.Blk.cells0 (new := [z0, z1, z2, z3, z4, z5, z6]) (HL.Blk.new rfl)
@[go_sem] theorem T.stn45 {H : HL.Heap} {z0 z1 z2 z3 z4 : Value} {x0 : Int} {a1 : Option Addr} {l1 c1 : Nat} {a2 : Option Addr} {l2 c2 : Nat} {a3 : Option Addr} {l3 c3 : Nat} {x4 : Int} : HL.storeA Tryz.prog (H.push (.cells #[z0, z1, z2, z3, z4] 45)) 45 ⟨H.size, 0, none⟩ (.agg #[.int .i64 x0, .slice a1 l1 c1, .slice a2 l2 c2, .slice a3 l3 c3, .int .i64 x4]) = some (H.push (.cells #[.int .i64 x0, .slice a1 l1 c1, .slice a2 l2 c2, .slice a3 l3 c3, .int .i64 x4] 45)) := HL.store_new (z := [z0, z1, z2, z3, z4]) (vs := [.int .i64 x0, .slice a1 l1 c1, .slice a2 l2 c2, .slice a3 l3 c3, .int .i64 x4]) T.size45 rfl (HL.one_all rfl)
@[go_sem] theorem T.ln45 {H : HL.Heap} {z0 z1 z2 z3 z4 : Value} : HL.cellsH (HL.cellH (H.push (.cells #[z0, z1, z2, z3, z4] 45))) ⟨H.size, 0, none⟩ 0 5 = some [z0, z1, z2, z3, z4] := HL.Blk.cells0 (new := [z0, z1, z2, z3, z4]) (HL.Blk.new rfl)
@[go_sem] theorem T.stn47 {H : HL.Heap} {z0 z1 z2 z3 : Value} {a0 : Option Addr} {l0 c0 : Nat} {x1 : Int} {x2 : Int} {x3 : Int} : HL.storeA Tryz.prog (H.push (.cells #[z0, z1, z2, z3] 47)) 47 ⟨H.size, 0, none⟩ (.agg #[.slice a0 l0 c0, .int .i64 x1, .int .i64 x2, .int .i64 x3]) = some (H.push (.cells #[.slice a0 l0 c0, .int .i64 x1, .int .i64 x2, .int .i64 x3] 47)) := HL.store_new (z := [z0, z1, z2, z3]) (vs := [.slice a0 l0 c0, .int .i64 x1, .int .i64 x2, .int .i64 x3]) T.size47 rfl (HL.one_all rfl)
@[go_sem] theorem T.ln47 {H : HL.Heap} {z0 z1 z2 z3 : Value} : HL.cellsH (HL.cellH (H.push (.cells #[z0, z1, z2, z3] 47))) ⟨H.size, 0, none⟩ 0 4 = some [z0, z1, z2, z3] := HL.Blk.cells0 (new := [z0, z1, z2, z3]) (HL.Blk.new rfl)
@[go_sem] theorem T.stn56 {H : HL.Heap} {z0 z1 z2 z3 z4 z5 z6 z7 : Value} {x0 : ByteArray} {x1 : Int} {a2 : Option Addr} {l2 c2 : Nat} {x3 : Int} {a4 : Option Addr} {l4 c4 : Nat} {a5 : Option Addr} {l5 c5 : Nat} {a6 : Option Addr} {l6 c6 : Nat} {a7 : Option Addr} {l7 c7 : Nat} : HL.storeA Tryz.prog (H.push (.cells #[z0, z1, z2, z3, z4, z5, z6, z7] 56)) 56 ⟨H.size, 0, none⟩ (.agg #[.string x0, .int .i64 x1, .slice a2 l2 c2, .int .i64 x3, .slice a4 l4 c4, .slice a5 l5 c5, .slice a6 l6 c6, .slice a7 l7 c7]) = some (H.push (.cells #[.string x0, .int .i64 x1, .slice a2 l2 c2, .int .i64 x3, .slice a4 l4 c4, .slice a5 l5 c5, .slice a6 l6 c6, .slice a7 l7 c7] 56)) := HL.store_new (z := [z0, z1, z2, z3, z4, z5, z6, z7]) (vs := [.string x0, .int .i64 x1, .slice a2 l2 c2, .int .i64 x3, .slice a4 l4 c4, .slice a5 l5 c5, .slice a6 l6 c6, .slice a7 l7 c7]) T.size56 rfl (HL.one_all rfl)
@[go_sem] theorem T.ln56 {H : HL.Heap} {z0 z1 z2 z3 z4 z5 z6 z7 : Value} : HL.cellsH (HL.cellH (H.push (.cells #[z0, z1, z2, z3, z4, z5, z6, z7] 56))) ⟨H.size, 0, none⟩ 0 8 = some [z0, z1, z2, z3, z4, z5, z6, z7] := HL.Blk.cells0 (new := [z0, z1, z2, z3, z4, z5, z6, z7]) (HL.Blk.new rfl)
@[go_sem] theorem T.stn58 {H : HL.Heap} {z0 z1 z2 z3 z4 z5 z6 z7 : Value} {x0 : Int} {x1 : Int} {x2 : Int} {x3 : Int} {x4 : Int} {x5 : Int} {x6 : Bool} {x7 : Int} : HL.storeA Tryz.prog (H.push (.cells #[z0, z1, z2, z3, z4, z5, z6, z7] 58)) 58 ⟨H.size, 0, none⟩ (.agg #[.int .i64 x0, .int .i64 x1, .int .i64 x2, .int .i64 x3, .int .i64 x4, .int .i64 x5, .bool x6, .int .i64 x7]) = some (H.push (.cells #[.int .i64 x0, .int .i64 x1, .int .i64 x2, .int .i64 x3, .int .i64 x4, .int .i64 x5, .bool x6, .int .i64 x7] 58)) := HL.store_new (z := [z0, z1, z2, z3, z4, z5, z6, z7]) (vs := [.int .i64 x0, .int .i64 x1, .int .i64 x2, .int .i64 x3, .int .i64 x4, .int .i64 x5, .bool x6, .int .i64 x7]) T.size58 rfl (HL.one_all rfl)
@[go_sem] theorem T.ln58 {H : HL.Heap} {z0 z1 z2 z3 z4 z5 z6 z7 : Value} : HL.cellsH (HL.cellH (H.push (.cells #[z0, z1, z2, z3, z4, z5, z6, z7] 58))) ⟨H.size, 0, none⟩ 0 8 = some [z0, z1, z2, z3, z4, z5, z6, z7] := HL.Blk.cells0 (new := [z0, z1, z2, z3, z4, z5, z6, z7]) (HL.Blk.new rfl)
@[go_sem] theorem T.stn61 {H : HL.Heap} {z0 z1 z2 z3 z4 z5 z6 : Value} {a0 : Option Addr} {l0 c0 : Nat} {x1 : Int} {a2 : Option Addr} {l2 c2 : Nat} {a3 : Option Addr} {l3 c3 : Nat} {a4 : Option Addr} {l4 c4 : Nat} {a5 : Option Addr} {l5 c5 : Nat} {x6 : Bool} : HL.storeA Tryz.prog (H.push (.cells #[z0, z1, z2, z3, z4, z5, z6] 61)) 61 ⟨H.size, 0, none⟩ (.agg #[.slice a0 l0 c0, .int .i64 x1, .slice a2 l2 c2, .slice a3 l3 c3, .slice a4 l4 c4, .slice a5 l5 c5, .bool x6]) = some (H.push (.cells #[.slice a0 l0 c0, .int .i64 x1, .slice a2 l2 c2, .slice a3 l3 c3, .slice a4 l4 c4, .slice a5 l5 c5, .bool x6] 61)) := HL.store_new (z := [z0, z1, z2, z3, z4, z5, z6]) (vs := [.slice a0 l0 c0, .int .i64 x1, .slice a2 l2 c2, .slice a3 l3 c3, .slice a4 l4 c4, .slice a5 l5 c5, .bool x6]) T.size61 rfl (HL.one_all rfl)
@[go_sem] theorem T.ln61 {H : HL.Heap} {z0 z1 z2 z3 z4 z5 z6 : Value} : HL.cellsH (HL.cellH (H.push (.cells #[z0, z1, z2, z3, z4, z5, z6] 61))) ⟨H.size, 0, none⟩ 0 7 = some [z0, z1, z2, z3, z4, z5, z6] := HL.Blk.cells0 (new := [z0, z1, z2, z3, z4, z5, z6]) (HL.Blk.new rfl)
@[go_sem] theorem T.stn66 {H : HL.Heap} {z0 z1 z2 z3 z4 : Value} {x0 : ByteArray} {x1 : Int} {x2 : Int} {x3 : Bool} {x4 : Bool} : HL.storeA Tryz.prog (H.push (.cells #[z0, z1, z2, z3, z4] 66)) 66 ⟨H.size, 0, none⟩ (.agg #[.string x0, .int .i64 x1, .int .i64 x2, .bool x3, .bool x4]) = some (H.push (.cells #[.string x0, .int .i64 x1, .int .i64 x2, .bool x3, .bool x4] 66)) := HL.store_new (z := [z0, z1, z2, z3, z4]) (vs := [.string x0, .int .i64 x1, .int .i64 x2, .bool x3, .bool x4]) T.size66 rfl (HL.one_all rfl)
@[go_sem] theorem T.ln66 {H : HL.Heap} {z0 z1 z2 z3 z4 : Value} : HL.cellsH (HL.cellH (H.push (.cells #[z0, z1, z2, z3, z4] 66))) ⟨H.size, 0, none⟩ 0 5 = some [z0, z1, z2, z3, z4] := HL.Blk.cells0 (new := [z0, z1, z2, z3, z4]) (HL.Blk.new rfl)
@[go_sem] theorem T.stn68 {H : HL.Heap} {z0 z1 z2 : Value} {x0 : ByteArray} {x1 : Int} {x2 : Int} : HL.storeA Tryz.prog (H.push (.cells #[z0, z1, z2] 68)) 68 ⟨H.size, 0, none⟩ (.agg #[.string x0, .int .i64 x1, .int .i64 x2]) = some (H.push (.cells #[.string x0, .int .i64 x1, .int .i64 x2] 68)) := HL.store_new (z := [z0, z1, z2]) (vs := [.string x0, .int .i64 x1, .int .i64 x2]) T.size68 rfl (HL.one_all rfl)
@[go_sem] theorem T.ln68 {H : HL.Heap} {z0 z1 z2 : Value} : HL.cellsH (HL.cellH (H.push (.cells #[z0, z1, z2] 68))) ⟨H.size, 0, none⟩ 0 3 = some [z0, z1, z2] := HL.Blk.cells0 (new := [z0, z1, z2]) (HL.Blk.new rfl)
@[go_sem] theorem T.stn76 {H : HL.Heap} {z0 z1 z2 z3 z4 : Value} {a0 : Option Addr} {l0 c0 : Nat} {x1 : Int} {x2 : Int} {x3 : Int} {x4 : Int} : HL.storeA Tryz.prog (H.push (.cells #[z0, z1, z2, z3, z4] 76)) 76 ⟨H.size, 0, none⟩ (.agg #[.slice a0 l0 c0, .int .i64 x1, .int .i64 x2, .int .i64 x3, .int .i64 x4]) = some (H.push (.cells #[.slice a0 l0 c0, .int .i64 x1, .int .i64 x2, .int .i64 x3, .int .i64 x4] 76)) := HL.store_new (z := [z0, z1, z2, z3, z4]) (vs := [.slice a0 l0 c0, .int .i64 x1, .int .i64 x2, .int .i64 x3, .int .i64 x4]) T.size76 rfl (HL.one_all rfl)
@[go_sem] theorem T.ln76 {H : HL.Heap} {z0 z1 z2 z3 z4 : Value} : HL.cellsH (HL.cellH (H.push (.cells #[z0, z1, z2, z3, z4] 76))) ⟨H.size, 0, none⟩ 0 5 = some [z0, z1, z2, z3, z4] := HL.Blk.cells0 (new := [z0, z1, z2, z3, z4]) (HL.Blk.new rfl)
@[go_sem] theorem T.stn79 {H : HL.Heap} {z0 z1 z2 z3 z4 z5 : Value} {x0 : Int} {a1 : Option Addr} {l1 c1 : Nat} {a2 : Option Addr} {l2 c2 : Nat} {a3 : Option Addr} {l3 c3 : Nat} {x4 : Int} {a5 : Option Addr} {l5 c5 : Nat} : HL.storeA Tryz.prog (H.push (.cells #[z0, z1, z2, z3, z4, z5] 79)) 79 ⟨H.size, 0, none⟩ (.agg #[.int .i64 x0, .slice a1 l1 c1, .slice a2 l2 c2, .slice a3 l3 c3, .int .i64 x4, .slice a5 l5 c5]) = some (H.push (.cells #[.int .i64 x0, .slice a1 l1 c1, .slice a2 l2 c2, .slice a3 l3 c3, .int .i64 x4, .slice a5 l5 c5] 79)) := HL.store_new (z := [z0, z1, z2, z3, z4, z5]) (vs := [.int .i64 x0, .slice a1 l1 c1, .slice a2 l2 c2, .slice a3 l3 c3, .int .i64 x4, .slice a5 l5 c5]) T.size79 rfl (HL.one_all rfl)
@[go_sem] theorem T.ln79 {H : HL.Heap} {z0 z1 z2 z3 z4 z5 : Value} : HL.cellsH (HL.cellH (H.push (.cells #[z0, z1, z2, z3, z4, z5] 79))) ⟨H.size, 0, none⟩ 0 6 = some [z0, z1, z2, z3, z4, z5] := HL.Blk.cells0 (new := [z0, z1, z2, z3, z4, z5]) (HL.Blk.new rfl)
@[go_sem] theorem T.stn107 {H : HL.Heap} {z0 z1 z2 z3 z4 z5 z6 z7 z8 z9 : Value} {x0 : ByteArray} {x1 : Int} {a2 : Option Addr} {l2 c2 : Nat} {x3 : Int} {a4 : Option Addr} {l4 c4 : Nat} {a5 : Option Addr} {l5 c5 : Nat} {a6 : Option Addr} {l6 c6 : Nat} {a7 : Option Addr} {l7 c7 : Nat} {a8 : Option Addr} {l8 c8 : Nat} {a9 : Option Addr} {l9 c9 : Nat} : HL.storeA Tryz.prog (H.push (.cells #[z0, z1, z2, z3, z4, z5, z6, z7, z8, z9] 107)) 107 ⟨H.size, 0, none⟩ (.agg #[.string x0, .int .i64 x1, .slice a2 l2 c2, .int .i64 x3, .slice a4 l4 c4, .slice a5 l5 c5, .slice a6 l6 c6, .slice a7 l7 c7, .slice a8 l8 c8, .slice a9 l9 c9]) = some (H.push (.cells #[.string x0, .int .i64 x1, .slice a2 l2 c2, .int .i64 x3, .slice a4 l4 c4, .slice a5 l5 c5, .slice a6 l6 c6, .slice a7 l7 c7, .slice a8 l8 c8, .slice a9 l9 c9] 107)) := HL.store_new (z := [z0, z1, z2, z3, z4, z5, z6, z7, z8, z9]) (vs := [.string x0, .int .i64 x1, .slice a2 l2 c2, .int .i64 x3, .slice a4 l4 c4, .slice a5 l5 c5, .slice a6 l6 c6, .slice a7 l7 c7, .slice a8 l8 c8, .slice a9 l9 c9]) T.size107 rfl (HL.one_all rfl)
@[go_sem] theorem T.ln107 {H : HL.Heap} {z0 z1 z2 z3 z4 z5 z6 z7 z8 z9 : Value} : HL.cellsH (HL.cellH (H.push (.cells #[z0, z1, z2, z3, z4, z5, z6, z7, z8, z9] 107))) ⟨H.size, 0, none⟩ 0 10 = some [z0, z1, z2, z3, z4, z5, z6, z7, z8, z9] := HL.Blk.cells0 (new := [z0, z1, z2, z3, z4, z5, z6, z7, z8, z9]) (HL.Blk.new rfl)
@[go_sem] theorem T.stn119 {H : HL.Heap} {z0 z1 z2 : Value} {x0 : Int} {x1 : ByteArray} {x2 : Int} : HL.storeA Tryz.prog (H.push (.cells #[z0, z1, z2] 119)) 119 ⟨H.size, 0, none⟩ (.agg #[.int .i64 x0, .string x1, .int .i64 x2]) = some (H.push (.cells #[.int .i64 x0, .string x1, .int .i64 x2] 119)) := HL.store_new (z := [z0, z1, z2]) (vs := [.int .i64 x0, .string x1, .int .i64 x2]) T.size119 rfl (HL.one_all rfl)
@[go_sem] theorem T.ln119 {H : HL.Heap} {z0 z1 z2 : Value} : HL.cellsH (HL.cellH (H.push (.cells #[z0, z1, z2] 119))) ⟨H.size, 0, none⟩ 0 3 = some [z0, z1, z2] := HL.Blk.cells0 (new := [z0, z1, z2]) (HL.Blk.new rfl)
@[go_sem] theorem T.stn127 {H : HL.Heap} {z0 z1 z2 z3 z4 : Value} {a0 : Option Addr} {l0 c0 : Nat} {a1 : Option Addr} {l1 c1 : Nat} {a2 : Option Addr} {l2 c2 : Nat} {a3 : Option Addr} {l3 c3 : Nat} {x4 : Bool} : HL.storeA Tryz.prog (H.push (.cells #[z0, z1, z2, z3, z4] 127)) 127 ⟨H.size, 0, none⟩ (.agg #[.slice a0 l0 c0, .slice a1 l1 c1, .slice a2 l2 c2, .slice a3 l3 c3, .bool x4]) = some (H.push (.cells #[.slice a0 l0 c0, .slice a1 l1 c1, .slice a2 l2 c2, .slice a3 l3 c3, .bool x4] 127)) := HL.store_new (z := [z0, z1, z2, z3, z4]) (vs := [.slice a0 l0 c0, .slice a1 l1 c1, .slice a2 l2 c2, .slice a3 l3 c3, .bool x4]) T.size127 rfl (HL.one_all rfl)
@[go_sem] theorem T.ln127 {H : HL.Heap} {z0 z1 z2 z3 z4 : Value} : HL.cellsH (HL.cellH (H.push (.cells #[z0, z1, z2, z3, z4] 127))) ⟨H.size, 0, none⟩ 0 5 = some [z0, z1, z2, z3, z4] := HL.Blk.cells0 (new := [z0, z1, z2, z3, z4]) (HL.Blk.new rfl)
@[go_sem] theorem T.stn149 {H : HL.Heap} {z0 z1 : Value} {x0 : Int} {x1 : Int} : HL.storeA Tryz.prog (H.push (.cells #[z0, z1] 149)) 149 ⟨H.size, 0, none⟩ (.agg #[.int .i64 x0, .int .i64 x1]) = some (H.push (.cells #[.int .i64 x0, .int .i64 x1] 149)) := HL.store_new (z := [z0, z1]) (vs := [.int .i64 x0, .int .i64 x1]) T.size149 rfl (HL.one_all rfl)
@[go_sem] theorem T.ln149 {H : HL.Heap} {z0 z1 : Value} : HL.cellsH (HL.cellH (H.push (.cells #[z0, z1] 149))) ⟨H.size, 0, none⟩ 0 2 = some [z0, z1] := HL.Blk.cells0 (new := [z0, z1]) (HL.Blk.new rfl)
@[go_sem] theorem T.sl9 {H : HL.Heap} {a : HL.Str} : HL.lenV Tryz.prog (HL.full H) 9 (.string (HL.bs a)) = some (.int .i64 a.length) := HL.str_len Tryz.underlying9
@[go_sem] theorem T.si9 {a : HL.Str} {k : IntKind} {n : Int} : HL.indexV Tryz.prog 9 (.string (HL.bs a)) (.int k n) = HL.chk (0 ≤ n ∧ n < a.length) (some (HL.u8v (HL.bt8 a n.toNat))) := HL.str_index Tryz.underlying9
@[go_sem] theorem T.ss9 {a : HL.Str} {k k2 : IntKind} {x y : Int} : HL.sliceV Tryz.prog 9 (.string (HL.bs a)) (some (.int k x)) (some (.int k2 y)) none = HL.chk (0 ≤ y ∧ y ≤ a.length) (HL.chk (0 ≤ x ∧ x ≤ y.toNat) (some (.string (HL.bs ((a.take y.toNat).drop x.toNat))))) := HL.str_sub Tryz.underlying9
@[go_sem] theorem T.so9 {a : HL.Str} {k : IntKind} {x : Int} : HL.sliceV Tryz.prog 9 (.string (HL.bs a)) (some (.int k x)) none none = HL.chk (0 ≤ x ∧ x ≤ a.length) (some (.string (HL.bs (a.drop x.toNat)))) := HL.str_lo Tryz.underlying9
@[go_sem] theorem T.sh9 {a : HL.Str} {k : IntKind} {y : Int} : HL.sliceV Tryz.prog 9 (.string (HL.bs a)) none (some (.int k y)) none = HL.chk (0 ≤ y ∧ y ≤ a.length) (some (.string (HL.bs (a.take y.toNat)))) := HL.str_hi Tryz.underlying9
@[go_sem] theorem T.sl10 {H : HL.Heap} {a : HL.Str} : HL.lenV Tryz.prog (HL.full H) 10 (.string (HL.bs a)) = some (.int .i64 a.length) := HL.str_len Tryz.underlying10
@[go_sem] theorem T.si10 {a : HL.Str} {k : IntKind} {n : Int} : HL.indexV Tryz.prog 10 (.string (HL.bs a)) (.int k n) = HL.chk (0 ≤ n ∧ n < a.length) (some (HL.u8v (HL.bt8 a n.toNat))) := HL.str_index Tryz.underlying10
@[go_sem] theorem T.ss10 {a : HL.Str} {k k2 : IntKind} {x y : Int} : HL.sliceV Tryz.prog 10 (.string (HL.bs a)) (some (.int k x)) (some (.int k2 y)) none = HL.chk (0 ≤ y ∧ y ≤ a.length) (HL.chk (0 ≤ x ∧ x ≤ y.toNat) (some (.string (HL.bs ((a.take y.toNat).drop x.toNat))))) := HL.str_sub Tryz.underlying10
@[go_sem] theorem T.so10 {a : HL.Str} {k : IntKind} {x : Int} : HL.sliceV Tryz.prog 10 (.string (HL.bs a)) (some (.int k x)) none none = HL.chk (0 ≤ x ∧ x ≤ a.length) (some (.string (HL.bs (a.drop x.toNat)))) := HL.str_lo Tryz.underlying10
@[go_sem] theorem T.sh10 {a : HL.Str} {k : IntKind} {y : Int} : HL.sliceV Tryz.prog 10 (.string (HL.bs a)) none (some (.int k y)) none = HL.chk (0 ≤ y ∧ y ≤ a.length) (some (.string (HL.bs (a.take y.toNat)))) := HL.str_hi Tryz.underlying10
@[go_sem] theorem T.sl11 {H : HL.Heap} {a : HL.Str} : HL.lenV Tryz.prog (HL.full H) 11 (.string (HL.bs a)) = some (.int .i64 a.length) := HL.str_len Tryz.underlying11
@[go_sem] theorem T.si11 {a : HL.Str} {k : IntKind} {n : Int} : HL.indexV Tryz.prog 11 (.string (HL.bs a)) (.int k n) = HL.chk (0 ≤ n ∧ n < a.length) (some (HL.u8v (HL.bt8 a n.toNat))) := HL.str_index Tryz.underlying11
@[go_sem] theorem T.ss11 {a : HL.Str} {k k2 : IntKind} {x y : Int} : HL.sliceV Tryz.prog 11 (.string (HL.bs a)) (some (.int k x)) (some (.int k2 y)) none = HL.chk (0 ≤ y ∧ y ≤ a.length) (HL.chk (0 ≤ x ∧ x ≤ y.toNat) (some (.string (HL.bs ((a.take y.toNat).drop x.toNat))))) := HL.str_sub Tryz.underlying11
@[go_sem] theorem T.so11 {a : HL.Str} {k : IntKind} {x : Int} : HL.sliceV Tryz.prog 11 (.string (HL.bs a)) (some (.int k x)) none none = HL.chk (0 ≤ x ∧ x ≤ a.length) (some (.string (HL.bs (a.drop x.toNat)))) := HL.str_lo Tryz.underlying11
@[go_sem] theorem T.sh11 {a : HL.Str} {k : IntKind} {y : Int} : HL.sliceV Tryz.prog 11 (.string (HL.bs a)) none (some (.int k y)) none = HL.chk (0 ≤ y ∧ y ≤ a.length) (some (.string (HL.bs (a.take y.toNat)))) := HL.str_hi Tryz.underlying11
end Go.Proofs
