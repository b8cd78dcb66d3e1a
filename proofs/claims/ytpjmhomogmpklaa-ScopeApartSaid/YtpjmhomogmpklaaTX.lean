/- Texts of this proof, put together: T. The conditions of each theorem stand in it. -/
import Derived.Test.YtpjmhomogmpklaaProg
import Derived.Test.YtpjmhomogmpklaaMX2
/- Closed facts on the types of the program. -/
namespace Go.Proofs
theorem T.mixed : Try.prog.follows .mixedOrders = true := by kernel_rfl
@[go_sem] theorem T.agg1 : HL.aggN Try.prog 1 = some none := by kernel_rfl
@[go_sem] theorem T.size1 : HL.sizeT Try.prog 1 = some 1 := by kernel_rfl
@[go_sem] theorem T.bytes1 : HL.bytesT Try.prog 1 = some 8 := by kernel_rfl
@[go_sem] theorem T.zero1 : HL.zeroT Try.prog 1 = some (.nilFunc) := by kernel_rfl
@[go_sem] theorem T.agg2 : HL.aggN Try.prog 2 = some none := by kernel_rfl
@[go_sem] theorem T.size2 : HL.sizeT Try.prog 2 = some 1 := by kernel_rfl
@[go_sem] theorem T.bytes2 : HL.bytesT Try.prog 2 = some 8 := by kernel_rfl
@[go_sem] theorem T.zero2 : HL.zeroT Try.prog 2 = some (.int .i64 0) := by kernel_rfl
@[go_sem] theorem T.agg3 : HL.aggN Try.prog 3 = some none := by kernel_rfl
@[go_sem] theorem T.size3 : HL.sizeT Try.prog 3 = some 1 := by kernel_rfl
@[go_sem] theorem T.bytes3 : HL.bytesT Try.prog 3 = some 8 := by kernel_rfl
@[go_sem] theorem T.zero3 : HL.zeroT Try.prog 3 = some (.int .i64 0) := by kernel_rfl
@[go_sem] theorem T.agg4 : HL.aggN Try.prog 4 = some none := by kernel_rfl
@[go_sem] theorem T.size4 : HL.sizeT Try.prog 4 = some 1 := by kernel_rfl
@[go_sem] theorem T.bytes4 : HL.bytesT Try.prog 4 = some 1 := by kernel_rfl
@[go_sem] theorem T.zero4 : HL.zeroT Try.prog 4 = some (.bool false) := by kernel_rfl
@[go_sem] theorem T.agg5 : HL.aggN Try.prog 5 = some none := by kernel_rfl
@[go_sem] theorem T.size5 : HL.sizeT Try.prog 5 = some 1 := by kernel_rfl
@[go_sem] theorem T.bytes5 : HL.bytesT Try.prog 5 = some 1 := by kernel_rfl
@[go_sem] theorem T.zero5 : HL.zeroT Try.prog 5 = some (.int .u8 0) := by kernel_rfl
@[go_sem] theorem T.agg6 : HL.aggN Try.prog 6 = some none := by kernel_rfl
@[go_sem] theorem T.size6 : HL.sizeT Try.prog 6 = some 1 := by kernel_rfl
@[go_sem] theorem T.bytes6 : HL.bytesT Try.prog 6 = some 1 := by kernel_rfl
@[go_sem] theorem T.zero6 : HL.zeroT Try.prog 6 = some (.int .u8 0) := by kernel_rfl
@[go_sem] theorem T.agg7 : HL.aggN Try.prog 7 = some (some 4) := by kernel_rfl
@[go_sem] theorem T.size7 : HL.sizeT Try.prog 7 = some 4 := by kernel_rfl
@[go_sem] theorem T.bytes7 : HL.bytesT Try.prog 7 = some 24 := by kernel_rfl
@[go_sem] theorem T.zero7 : HL.zeroT Try.prog 7 = some (.agg #[.int .i64 0, .int .i64 0, .bool false, .int .u8 0]) := by kernel_rfl
@[go_sem] theorem T.places7 : HL.placesT Try.prog 7 = some [(0, 1), (1, 1), (2, 1), (3, 1)] := by kernel_rfl
@[go_sem] theorem T.field7_0 : HL.fieldT Try.prog 7 0 = some (0, 2) := by kernel_rfl
@[go_sem] theorem T.fieldO7_0 : HL.fieldO Try.prog 7 0 = some 0 := by kernel_rfl
@[go_sem] theorem T.field7_1 : HL.fieldT Try.prog 7 1 = some (1, 3) := by kernel_rfl
@[go_sem] theorem T.fieldO7_1 : HL.fieldO Try.prog 7 1 = some 1 := by kernel_rfl
@[go_sem] theorem T.field7_2 : HL.fieldT Try.prog 7 2 = some (2, 4) := by kernel_rfl
@[go_sem] theorem T.fieldO7_2 : HL.fieldO Try.prog 7 2 = some 2 := by kernel_rfl
@[go_sem] theorem T.field7_3 : HL.fieldT Try.prog 7 3 = some (3, 6) := by kernel_rfl
@[go_sem] theorem T.fieldO7_3 : HL.fieldO Try.prog 7 3 = some 3 := by kernel_rfl
@[go_sem] theorem T.agg8 : HL.aggN Try.prog 8 = some (some 4) := by kernel_rfl
@[go_sem] theorem T.size8 : HL.sizeT Try.prog 8 = some 4 := by kernel_rfl
@[go_sem] theorem T.bytes8 : HL.bytesT Try.prog 8 = some 24 := by kernel_rfl
@[go_sem] theorem T.zero8 : HL.zeroT Try.prog 8 = some (.agg #[.int .i64 0, .int .i64 0, .bool false, .int .u8 0]) := by kernel_rfl
@[go_sem] theorem T.places8 : HL.placesT Try.prog 8 = some [(0, 1), (1, 1), (2, 1), (3, 1)] := by kernel_rfl
@[go_sem] theorem T.field8_0 : HL.fieldT Try.prog 8 0 = some (0, 2) := by kernel_rfl
@[go_sem] theorem T.fieldO8_0 : HL.fieldO Try.prog 8 0 = some 0 := by kernel_rfl
@[go_sem] theorem T.field8_1 : HL.fieldT Try.prog 8 1 = some (1, 3) := by kernel_rfl
@[go_sem] theorem T.fieldO8_1 : HL.fieldO Try.prog 8 1 = some 1 := by kernel_rfl
@[go_sem] theorem T.field8_2 : HL.fieldT Try.prog 8 2 = some (2, 4) := by kernel_rfl
@[go_sem] theorem T.fieldO8_2 : HL.fieldO Try.prog 8 2 = some 2 := by kernel_rfl
@[go_sem] theorem T.field8_3 : HL.fieldT Try.prog 8 3 = some (3, 6) := by kernel_rfl
@[go_sem] theorem T.fieldO8_3 : HL.fieldO Try.prog 8 3 = some 3 := by kernel_rfl
@[go_sem] theorem T.agg9 : HL.aggN Try.prog 9 = some none := by kernel_rfl
@[go_sem] theorem T.size9 : HL.sizeT Try.prog 9 = some 1 := by kernel_rfl
@[go_sem] theorem T.bytes9 : HL.bytesT Try.prog 9 = some 16 := by kernel_rfl
@[go_sem] theorem T.zero9 : HL.zeroT Try.prog 9 = some (.string ⟨#[]⟩) := by kernel_rfl
@[go_sem] theorem T.agg10 : HL.aggN Try.prog 10 = some none := by kernel_rfl
@[go_sem] theorem T.size10 : HL.sizeT Try.prog 10 = some 1 := by kernel_rfl
@[go_sem] theorem T.bytes10 : HL.bytesT Try.prog 10 = some 16 := by kernel_rfl
@[go_sem] theorem T.zero10 : HL.zeroT Try.prog 10 = some (.string ⟨#[]⟩) := by kernel_rfl
@[go_sem] theorem T.agg11 : HL.aggN Try.prog 11 = some none := by kernel_rfl
@[go_sem] theorem T.size11 : HL.sizeT Try.prog 11 = some 1 := by kernel_rfl
@[go_sem] theorem T.bytes11 : HL.bytesT Try.prog 11 = some 16 := by kernel_rfl
@[go_sem] theorem T.zero11 : HL.zeroT Try.prog 11 = some (.string ⟨#[]⟩) := by kernel_rfl
@[go_sem] theorem T.agg12 : HL.aggN Try.prog 12 = some none := by kernel_rfl
@[go_sem] theorem T.size12 : HL.sizeT Try.prog 12 = some 1 := by kernel_rfl
@[go_sem] theorem T.bytes12 : HL.bytesT Try.prog 12 = some 8 := by kernel_rfl
@[go_sem] theorem T.zero12 : HL.zeroT Try.prog 12 = some (.int .u64 0) := by kernel_rfl
@[go_sem] theorem T.agg13 : HL.aggN Try.prog 13 = some (some 2) := by kernel_rfl
@[go_sem] theorem T.size13 : HL.sizeT Try.prog 13 = some 2 := by kernel_rfl
@[go_sem] theorem T.bytes13 : HL.bytesT Try.prog 13 = some 24 := by kernel_rfl
@[go_sem] theorem T.zero13 : HL.zeroT Try.prog 13 = some (.agg #[.string ⟨#[]⟩, .int .u64 0]) := by kernel_rfl
@[go_sem] theorem T.places13 : HL.placesT Try.prog 13 = some [(0, 1), (1, 1)] := by kernel_rfl
@[go_sem] theorem T.field13_0 : HL.fieldT Try.prog 13 0 = some (0, 9) := by kernel_rfl
@[go_sem] theorem T.fieldO13_0 : HL.fieldO Try.prog 13 0 = some 0 := by kernel_rfl
@[go_sem] theorem T.field13_1 : HL.fieldT Try.prog 13 1 = some (1, 12) := by kernel_rfl
@[go_sem] theorem T.fieldO13_1 : HL.fieldO Try.prog 13 1 = some 1 := by kernel_rfl
@[go_sem] theorem T.agg14 : HL.aggN Try.prog 14 = some (some 2) := by kernel_rfl
@[go_sem] theorem T.size14 : HL.sizeT Try.prog 14 = some 2 := by kernel_rfl
@[go_sem] theorem T.bytes14 : HL.bytesT Try.prog 14 = some 24 := by kernel_rfl
@[go_sem] theorem T.zero14 : HL.zeroT Try.prog 14 = some (.agg #[.string ⟨#[]⟩, .int .u64 0]) := by kernel_rfl
@[go_sem] theorem T.places14 : HL.placesT Try.prog 14 = some [(0, 1), (1, 1)] := by kernel_rfl
@[go_sem] theorem T.field14_0 : HL.fieldT Try.prog 14 0 = some (0, 9) := by kernel_rfl
@[go_sem] theorem T.fieldO14_0 : HL.fieldO Try.prog 14 0 = some 0 := by kernel_rfl
@[go_sem] theorem T.field14_1 : HL.fieldT Try.prog 14 1 = some (1, 12) := by kernel_rfl
@[go_sem] theorem T.fieldO14_1 : HL.fieldO Try.prog 14 1 = some 1 := by kernel_rfl
@[go_sem] theorem T.agg15 : HL.aggN Try.prog 15 = some none := by kernel_rfl
@[go_sem] theorem T.size15 : HL.sizeT Try.prog 15 = some 1 := by kernel_rfl
@[go_sem] theorem T.bytes15 : HL.bytesT Try.prog 15 = some 8 := by kernel_rfl
@[go_sem] theorem T.zero15 : HL.zeroT Try.prog 15 = some (.pointer none) := by kernel_rfl
@[go_sem] theorem T.agg16 : HL.aggN Try.prog 16 = some none := by kernel_rfl
@[go_sem] theorem T.size16 : HL.sizeT Try.prog 16 = some 1 := by kernel_rfl
@[go_sem] theorem T.bytes16 : HL.bytesT Try.prog 16 = some 8 := by kernel_rfl
@[go_sem] theorem T.zero16 : HL.zeroT Try.prog 16 = some (.pointer none) := by kernel_rfl
@[go_sem] theorem T.agg17 : HL.aggN Try.prog 17 = some none := by kernel_rfl
@[go_sem] theorem T.size17 : HL.sizeT Try.prog 17 = some 1 := by kernel_rfl
@[go_sem] theorem T.bytes17 : HL.bytesT Try.prog 17 = some 8 := by kernel_rfl
@[go_sem] theorem T.zero17 : HL.zeroT Try.prog 17 = some (.pointer none) := by kernel_rfl
@[go_sem] theorem T.agg18 : HL.aggN Try.prog 18 = some (some 1) := by kernel_rfl
@[go_sem] theorem T.size18 : HL.sizeT Try.prog 18 = some 1 := by kernel_rfl
@[go_sem] theorem T.bytes18 : HL.bytesT Try.prog 18 = some 8 := by kernel_rfl
@[go_sem] theorem T.zero18 : HL.zeroT Try.prog 18 = some (.agg #[.pointer none]) := by kernel_rfl
@[go_sem] theorem T.places18 : HL.placesT Try.prog 18 = some [(0, 1)] := by kernel_rfl
@[go_sem] theorem T.field18_0 : HL.fieldT Try.prog 18 0 = some (0, 17) := by kernel_rfl
@[go_sem] theorem T.fieldO18_0 : HL.fieldO Try.prog 18 0 = some 0 := by kernel_rfl
@[go_sem] theorem T.agg19 : HL.aggN Try.prog 19 = some (some 1) := by kernel_rfl
@[go_sem] theorem T.size19 : HL.sizeT Try.prog 19 = some 1 := by kernel_rfl
@[go_sem] theorem T.bytes19 : HL.bytesT Try.prog 19 = some 8 := by kernel_rfl
@[go_sem] theorem T.zero19 : HL.zeroT Try.prog 19 = some (.agg #[.pointer none]) := by kernel_rfl
@[go_sem] theorem T.places19 : HL.placesT Try.prog 19 = some [(0, 1)] := by kernel_rfl
@[go_sem] theorem T.field19_0 : HL.fieldT Try.prog 19 0 = some (0, 17) := by kernel_rfl
@[go_sem] theorem T.fieldO19_0 : HL.fieldO Try.prog 19 0 = some 0 := by kernel_rfl
@[go_sem] theorem T.agg20 : HL.aggN Try.prog 20 = some none := by kernel_rfl
@[go_sem] theorem T.size20 : HL.sizeT Try.prog 20 = some 1 := by kernel_rfl
@[go_sem] theorem T.bytes20 : HL.bytesT Try.prog 20 = some 16 := by kernel_rfl
@[go_sem] theorem T.zero20 : HL.zeroT Try.prog 20 = some (.nilIface) := by kernel_rfl
@[go_sem] theorem T.agg21 : HL.aggN Try.prog 21 = some none := by kernel_rfl
@[go_sem] theorem T.size21 : HL.sizeT Try.prog 21 = some 1 := by kernel_rfl
@[go_sem] theorem T.bytes21 : HL.bytesT Try.prog 21 = some 4 := by kernel_rfl
@[go_sem] theorem T.zero21 : HL.zeroT Try.prog 21 = some (.int .i32 0) := by kernel_rfl
@[go_sem] theorem T.agg22 : HL.aggN Try.prog 22 = some none := by kernel_rfl
@[go_sem] theorem T.size22 : HL.sizeT Try.prog 22 = some 1 := by kernel_rfl
@[go_sem] theorem T.bytes22 : HL.bytesT Try.prog 22 = some 24 := by kernel_rfl
@[go_sem] theorem T.zero22 : HL.zeroT Try.prog 22 = some (.slice none 0 0) := by kernel_rfl
@[go_sem] theorem T.elem22 : HL.elemT Try.prog 22 = some 60 := by kernel_rfl
@[go_sem] theorem T.elemS22 : HL.elemS Try.prog 22 = some 5 := by kernel_rfl
@[go_sem] theorem T.agg23 : HL.aggN Try.prog 23 = some none := by kernel_rfl
@[go_sem] theorem T.size23 : HL.sizeT Try.prog 23 = some 1 := by kernel_rfl
@[go_sem] theorem T.bytes23 : HL.bytesT Try.prog 23 = some 8 := by kernel_rfl
@[go_sem] theorem T.zero23 : HL.zeroT Try.prog 23 = some (.nilFunc) := by kernel_rfl
@[go_sem] theorem T.agg24 : HL.aggN Try.prog 24 = some none := by kernel_rfl
@[go_sem] theorem T.size24 : HL.sizeT Try.prog 24 = some 1 := by kernel_rfl
@[go_sem] theorem T.bytes24 : HL.bytesT Try.prog 24 = some 8 := by kernel_rfl
@[go_sem] theorem T.zero24 : HL.zeroT Try.prog 24 = some (.nilFunc) := by kernel_rfl
@[go_sem] theorem T.agg25 : HL.aggN Try.prog 25 = some none := by kernel_rfl
@[go_sem] theorem T.size25 : HL.sizeT Try.prog 25 = some 1 := by kernel_rfl
@[go_sem] theorem T.bytes25 : HL.bytesT Try.prog 25 = some 8 := by kernel_rfl
@[go_sem] theorem T.zero25 : HL.zeroT Try.prog 25 = some (.int .i64 0) := by kernel_rfl
@[go_sem] theorem T.agg26 : HL.aggN Try.prog 26 = some (some 2) := by kernel_rfl
@[go_sem] theorem T.size26 : HL.sizeT Try.prog 26 = some 2 := by kernel_rfl
@[go_sem] theorem T.bytes26 : HL.bytesT Try.prog 26 = some 16 := by kernel_rfl
@[go_sem] theorem T.zero26 : HL.zeroT Try.prog 26 = some (.agg #[.int .i64 0, .int .i64 0]) := by kernel_rfl
@[go_sem] theorem T.places26 : HL.placesT Try.prog 26 = some [(0, 1), (1, 1)] := by kernel_rfl
@[go_sem] theorem T.field26_0 : HL.fieldT Try.prog 26 0 = some (0, 25) := by kernel_rfl
@[go_sem] theorem T.fieldO26_0 : HL.fieldO Try.prog 26 0 = some 0 := by kernel_rfl
@[go_sem] theorem T.field26_1 : HL.fieldT Try.prog 26 1 = some (1, 3) := by kernel_rfl
@[go_sem] theorem T.fieldO26_1 : HL.fieldO Try.prog 26 1 = some 1 := by kernel_rfl
@[go_sem] theorem T.agg27 : HL.aggN Try.prog 27 = some (some 2) := by kernel_rfl
@[go_sem] theorem T.size27 : HL.sizeT Try.prog 27 = some 2 := by kernel_rfl
@[go_sem] theorem T.bytes27 : HL.bytesT Try.prog 27 = some 16 := by kernel_rfl
@[go_sem] theorem T.zero27 : HL.zeroT Try.prog 27 = some (.agg #[.int .i64 0, .int .i64 0]) := by kernel_rfl
@[go_sem] theorem T.places27 : HL.placesT Try.prog 27 = some [(0, 1), (1, 1)] := by kernel_rfl
@[go_sem] theorem T.field27_0 : HL.fieldT Try.prog 27 0 = some (0, 25) := by kernel_rfl
@[go_sem] theorem T.fieldO27_0 : HL.fieldO Try.prog 27 0 = some 0 := by kernel_rfl
@[go_sem] theorem T.field27_1 : HL.fieldT Try.prog 27 1 = some (1, 3) := by kernel_rfl
@[go_sem] theorem T.fieldO27_1 : HL.fieldO Try.prog 27 1 = some 1 := by kernel_rfl
@[go_sem] theorem T.agg28 : HL.aggN Try.prog 28 = some none := by kernel_rfl
@[go_sem] theorem T.size28 : HL.sizeT Try.prog 28 = some 1 := by kernel_rfl
@[go_sem] theorem T.bytes28 : HL.bytesT Try.prog 28 = some 8 := by kernel_rfl
@[go_sem] theorem T.zero28 : HL.zeroT Try.prog 28 = some (.nilFunc) := by kernel_rfl
@[go_sem] theorem T.agg29 : HL.aggN Try.prog 29 = some none := by kernel_rfl
@[go_sem] theorem T.size29 : HL.sizeT Try.prog 29 = some 1 := by kernel_rfl
@[go_sem] theorem T.bytes29 : HL.bytesT Try.prog 29 = some 24 := by kernel_rfl
@[go_sem] theorem T.zero29 : HL.zeroT Try.prog 29 = some (.slice none 0 0) := by kernel_rfl
@[go_sem] theorem T.elem29 : HL.elemT Try.prog 29 = some 5 := by kernel_rfl
@[go_sem] theorem T.elemS29 : HL.elemS Try.prog 29 = some 1 := by kernel_rfl
@[go_sem] theorem T.agg31 : HL.aggN Try.prog 31 = some none := by kernel_rfl
@[go_sem] theorem T.size31 : HL.sizeT Try.prog 31 = some 1 := by kernel_rfl
@[go_sem] theorem T.bytes31 : HL.bytesT Try.prog 31 = some 8 := by kernel_rfl
@[go_sem] theorem T.zero31 : HL.zeroT Try.prog 31 = some (.nilFunc) := by kernel_rfl
@[go_sem] theorem T.agg32 : HL.aggN Try.prog 32 = some none := by kernel_rfl
@[go_sem] theorem T.size32 : HL.sizeT Try.prog 32 = some 1 := by kernel_rfl
@[go_sem] theorem T.bytes32 : HL.bytesT Try.prog 32 = some 8 := by kernel_rfl
@[go_sem] theorem T.zero32 : HL.zeroT Try.prog 32 = some (.nilFunc) := by kernel_rfl
@[go_sem] theorem T.agg33 : HL.aggN Try.prog 33 = some none := by kernel_rfl
@[go_sem] theorem T.size33 : HL.sizeT Try.prog 33 = some 1 := by kernel_rfl
@[go_sem] theorem T.bytes33 : HL.bytesT Try.prog 33 = some 24 := by kernel_rfl
@[go_sem] theorem T.zero33 : HL.zeroT Try.prog 33 = some (.slice none 0 0) := by kernel_rfl
@[go_sem] theorem T.elem33 : HL.elemT Try.prog 33 = some 9 := by kernel_rfl
@[go_sem] theorem T.elemS33 : HL.elemS Try.prog 33 = some 1 := by kernel_rfl
@[go_sem] theorem T.agg34 : HL.aggN Try.prog 34 = some none := by kernel_rfl
@[go_sem] theorem T.size34 : HL.sizeT Try.prog 34 = some 1 := by kernel_rfl
@[go_sem] theorem T.bytes34 : HL.bytesT Try.prog 34 = some 8 := by kernel_rfl
@[go_sem] theorem T.zero34 : HL.zeroT Try.prog 34 = some (.nilFunc) := by kernel_rfl
@[go_sem] theorem T.agg36 : HL.aggN Try.prog 36 = some none := by kernel_rfl
@[go_sem] theorem T.size36 : HL.sizeT Try.prog 36 = some 1 := by kernel_rfl
@[go_sem] theorem T.bytes36 : HL.bytesT Try.prog 36 = some 8 := by kernel_rfl
@[go_sem] theorem T.zero36 : HL.zeroT Try.prog 36 = some (.nilFunc) := by kernel_rfl
@[go_sem] theorem T.agg37 : HL.aggN Try.prog 37 = some none := by kernel_rfl
@[go_sem] theorem T.size37 : HL.sizeT Try.prog 37 = some 1 := by kernel_rfl
@[go_sem] theorem T.bytes37 : HL.bytesT Try.prog 37 = some 8 := by kernel_rfl
@[go_sem] theorem T.zero37 : HL.zeroT Try.prog 37 = some (.nilFunc) := by kernel_rfl
@[go_sem] theorem T.agg38 : HL.aggN Try.prog 38 = some none := by kernel_rfl
@[go_sem] theorem T.size38 : HL.sizeT Try.prog 38 = some 1 := by kernel_rfl
@[go_sem] theorem T.bytes38 : HL.bytesT Try.prog 38 = some 8 := by kernel_rfl
@[go_sem] theorem T.zero38 : HL.zeroT Try.prog 38 = some (.nilFunc) := by kernel_rfl
@[go_sem] theorem T.agg39 : HL.aggN Try.prog 39 = some none := by kernel_rfl
@[go_sem] theorem T.size39 : HL.sizeT Try.prog 39 = some 1 := by kernel_rfl
@[go_sem] theorem T.bytes39 : HL.bytesT Try.prog 39 = some 8 := by kernel_rfl
@[go_sem] theorem T.zero39 : HL.zeroT Try.prog 39 = some (.nilFunc) := by kernel_rfl
@[go_sem] theorem T.agg40 : HL.aggN Try.prog 40 = some (some 4) := by kernel_rfl
@[go_sem] theorem T.size40 : HL.sizeT Try.prog 40 = some 4 := by kernel_rfl
@[go_sem] theorem T.bytes40 : HL.bytesT Try.prog 40 = some 32 := by kernel_rfl
@[go_sem] theorem T.zero40 : HL.zeroT Try.prog 40 = some (.agg #[.int .i64 0, .int .i64 0, .int .i64 0, .int .i64 0]) := by kernel_rfl
@[go_sem] theorem T.places40 : HL.placesT Try.prog 40 = none := by kernel_rfl
@[go_sem] theorem T.arr40 : HL.arrT Try.prog 40 = some (4, 3) := by kernel_rfl
@[go_sem] theorem T.arrS40 : HL.arrS Try.prog 40 = some (4, 1) := by kernel_rfl
@[go_sem] theorem T.agg41 : HL.aggN Try.prog 41 = some none := by kernel_rfl
@[go_sem] theorem T.size41 : HL.sizeT Try.prog 41 = some 1 := by kernel_rfl
@[go_sem] theorem T.bytes41 : HL.bytesT Try.prog 41 = some 8 := by kernel_rfl
@[go_sem] theorem T.zero41 : HL.zeroT Try.prog 41 = some (.nilFunc) := by kernel_rfl
@[go_sem] theorem T.agg42 : HL.aggN Try.prog 42 = some none := by kernel_rfl
@[go_sem] theorem T.size42 : HL.sizeT Try.prog 42 = some 1 := by kernel_rfl
@[go_sem] theorem T.bytes42 : HL.bytesT Try.prog 42 = some 8 := by kernel_rfl
@[go_sem] theorem T.zero42 : HL.zeroT Try.prog 42 = some (.nilFunc) := by kernel_rfl
@[go_sem] theorem T.agg43 : HL.aggN Try.prog 43 = some none := by kernel_rfl
@[go_sem] theorem T.size43 : HL.sizeT Try.prog 43 = some 1 := by kernel_rfl
@[go_sem] theorem T.bytes43 : HL.bytesT Try.prog 43 = some 8 := by kernel_rfl
@[go_sem] theorem T.zero43 : HL.zeroT Try.prog 43 = some (.nilFunc) := by kernel_rfl
@[go_sem] theorem T.agg44 : HL.aggN Try.prog 44 = some none := by kernel_rfl
@[go_sem] theorem T.size44 : HL.sizeT Try.prog 44 = some 1 := by kernel_rfl
@[go_sem] theorem T.bytes44 : HL.bytesT Try.prog 44 = some 8 := by kernel_rfl
@[go_sem] theorem T.zero44 : HL.zeroT Try.prog 44 = some (.nilFunc) := by kernel_rfl
@[go_sem] theorem T.agg45 : HL.aggN Try.prog 45 = some none := by kernel_rfl
@[go_sem] theorem T.size45 : HL.sizeT Try.prog 45 = some 1 := by kernel_rfl
@[go_sem] theorem T.bytes45 : HL.bytesT Try.prog 45 = some 24 := by kernel_rfl
@[go_sem] theorem T.zero45 : HL.zeroT Try.prog 45 = some (.slice none 0 0) := by kernel_rfl
@[go_sem] theorem T.elem45 : HL.elemT Try.prog 45 = some 120 := by kernel_rfl
@[go_sem] theorem T.elemS45 : HL.elemS Try.prog 45 = some 5 := by kernel_rfl
@[go_sem] theorem T.agg46 : HL.aggN Try.prog 46 = some none := by kernel_rfl
@[go_sem] theorem T.size46 : HL.sizeT Try.prog 46 = some 1 := by kernel_rfl
@[go_sem] theorem T.bytes46 : HL.bytesT Try.prog 46 = some 24 := by kernel_rfl
@[go_sem] theorem T.zero46 : HL.zeroT Try.prog 46 = some (.slice none 0 0) := by kernel_rfl
@[go_sem] theorem T.elem46 : HL.elemT Try.prog 46 = some 125 := by kernel_rfl
@[go_sem] theorem T.elemS46 : HL.elemS Try.prog 46 = some 3 := by kernel_rfl
@[go_sem] theorem T.agg47 : HL.aggN Try.prog 47 = some none := by kernel_rfl
@[go_sem] theorem T.size47 : HL.sizeT Try.prog 47 = some 1 := by kernel_rfl
@[go_sem] theorem T.bytes47 : HL.bytesT Try.prog 47 = some 24 := by kernel_rfl
@[go_sem] theorem T.zero47 : HL.zeroT Try.prog 47 = some (.slice none 0 0) := by kernel_rfl
@[go_sem] theorem T.elem47 : HL.elemT Try.prog 47 = some 56 := by kernel_rfl
@[go_sem] theorem T.elemS47 : HL.elemS Try.prog 47 = some 8 := by kernel_rfl
@[go_sem] theorem T.agg48 : HL.aggN Try.prog 48 = some none := by kernel_rfl
@[go_sem] theorem T.size48 : HL.sizeT Try.prog 48 = some 1 := by kernel_rfl
@[go_sem] theorem T.bytes48 : HL.bytesT Try.prog 48 = some 24 := by kernel_rfl
@[go_sem] theorem T.zero48 : HL.zeroT Try.prog 48 = some (.slice none 0 0) := by kernel_rfl
@[go_sem] theorem T.elem48 : HL.elemT Try.prog 48 = some 3 := by kernel_rfl
@[go_sem] theorem T.elemS48 : HL.elemS Try.prog 48 = some 1 := by kernel_rfl
@[go_sem] theorem T.agg49 : HL.aggN Try.prog 49 = some (some 7) := by kernel_rfl
@[go_sem] theorem T.size49 : HL.sizeT Try.prog 49 = some 7 := by kernel_rfl
@[go_sem] theorem T.bytes49 : HL.bytesT Try.prog 49 = some 136 := by kernel_rfl
@[go_sem] theorem T.zero49 : HL.zeroT Try.prog 49 = some (.agg #[.slice none 0 0, .int .i64 0, .slice none 0 0, .slice none 0 0, .slice none 0 0, .slice none 0 0, .bool false]) := by kernel_rfl
@[go_sem] theorem T.places49 : HL.placesT Try.prog 49 = some [(0, 1), (1, 1), (2, 1), (3, 1), (4, 1), (5, 1), (6, 1)] := by kernel_rfl
@[go_sem] theorem T.field49_0 : HL.fieldT Try.prog 49 0 = some (0, 22) := by kernel_rfl
@[go_sem] theorem T.fieldO49_0 : HL.fieldO Try.prog 49 0 = some 0 := by kernel_rfl
@[go_sem] theorem T.field49_1 : HL.fieldT Try.prog 49 1 = some (1, 3) := by kernel_rfl
@[go_sem] theorem T.fieldO49_1 : HL.fieldO Try.prog 49 1 = some 1 := by kernel_rfl
@[go_sem] theorem T.field49_2 : HL.fieldT Try.prog 49 2 = some (2, 45) := by kernel_rfl
@[go_sem] theorem T.fieldO49_2 : HL.fieldO Try.prog 49 2 = some 2 := by kernel_rfl
@[go_sem] theorem T.field49_3 : HL.fieldT Try.prog 49 3 = some (3, 46) := by kernel_rfl
@[go_sem] theorem T.fieldO49_3 : HL.fieldO Try.prog 49 3 = some 3 := by kernel_rfl
@[go_sem] theorem T.field49_4 : HL.fieldT Try.prog 49 4 = some (4, 47) := by kernel_rfl
@[go_sem] theorem T.fieldO49_4 : HL.fieldO Try.prog 49 4 = some 4 := by kernel_rfl
@[go_sem] theorem T.field49_5 : HL.fieldT Try.prog 49 5 = some (5, 48) := by kernel_rfl
@[go_sem] theorem T.fieldO49_5 : HL.fieldO Try.prog 49 5 = some 5 := by kernel_rfl
@[go_sem] theorem T.field49_6 : HL.fieldT Try.prog 49 6 = some (6, 4) := by kernel_rfl
@[go_sem] theorem T.fieldO49_6 : HL.fieldO Try.prog 49 6 = some 6 := by kernel_rfl
@[go_sem] theorem T.agg50 : HL.aggN Try.prog 50 = some (some 7) := by kernel_rfl
@[go_sem] theorem T.size50 : HL.sizeT Try.prog 50 = some 7 := by kernel_rfl
@[go_sem] theorem T.bytes50 : HL.bytesT Try.prog 50 = some 136 := by kernel_rfl
@[go_sem] theorem T.zero50 : HL.zeroT Try.prog 50 = some (.agg #[.slice none 0 0, .int .i64 0, .slice none 0 0, .slice none 0 0, .slice none 0 0, .slice none 0 0, .bool false]) := by kernel_rfl
@[go_sem] theorem T.places50 : HL.placesT Try.prog 50 = some [(0, 1), (1, 1), (2, 1), (3, 1), (4, 1), (5, 1), (6, 1)] := by kernel_rfl
@[go_sem] theorem T.field50_0 : HL.fieldT Try.prog 50 0 = some (0, 22) := by kernel_rfl
@[go_sem] theorem T.fieldO50_0 : HL.fieldO Try.prog 50 0 = some 0 := by kernel_rfl
@[go_sem] theorem T.field50_1 : HL.fieldT Try.prog 50 1 = some (1, 3) := by kernel_rfl
@[go_sem] theorem T.fieldO50_1 : HL.fieldO Try.prog 50 1 = some 1 := by kernel_rfl
@[go_sem] theorem T.field50_2 : HL.fieldT Try.prog 50 2 = some (2, 45) := by kernel_rfl
@[go_sem] theorem T.fieldO50_2 : HL.fieldO Try.prog 50 2 = some 2 := by kernel_rfl
@[go_sem] theorem T.field50_3 : HL.fieldT Try.prog 50 3 = some (3, 46) := by kernel_rfl
@[go_sem] theorem T.fieldO50_3 : HL.fieldO Try.prog 50 3 = some 3 := by kernel_rfl
@[go_sem] theorem T.field50_4 : HL.fieldT Try.prog 50 4 = some (4, 47) := by kernel_rfl
@[go_sem] theorem T.fieldO50_4 : HL.fieldO Try.prog 50 4 = some 4 := by kernel_rfl
@[go_sem] theorem T.field50_5 : HL.fieldT Try.prog 50 5 = some (5, 48) := by kernel_rfl
@[go_sem] theorem T.fieldO50_5 : HL.fieldO Try.prog 50 5 = some 5 := by kernel_rfl
@[go_sem] theorem T.field50_6 : HL.fieldT Try.prog 50 6 = some (6, 4) := by kernel_rfl
@[go_sem] theorem T.fieldO50_6 : HL.fieldO Try.prog 50 6 = some 6 := by kernel_rfl
@[go_sem] theorem T.agg52 : HL.aggN Try.prog 52 = some none := by kernel_rfl
@[go_sem] theorem T.size52 : HL.sizeT Try.prog 52 = some 1 := by kernel_rfl
@[go_sem] theorem T.bytes52 : HL.bytesT Try.prog 52 = some 8 := by kernel_rfl
@[go_sem] theorem T.zero52 : HL.zeroT Try.prog 52 = some (.nilFunc) := by kernel_rfl
@[go_sem] theorem T.agg53 : HL.aggN Try.prog 53 = some none := by kernel_rfl
@[go_sem] theorem T.size53 : HL.sizeT Try.prog 53 = some 1 := by kernel_rfl
@[go_sem] theorem T.bytes53 : HL.bytesT Try.prog 53 = some 24 := by kernel_rfl
@[go_sem] theorem T.zero53 : HL.zeroT Try.prog 53 = some (.slice none 0 0) := by kernel_rfl
@[go_sem] theorem T.elem53 : HL.elemT Try.prog 53 = some 4 := by kernel_rfl
@[go_sem] theorem T.elemS53 : HL.elemS Try.prog 53 = some 1 := by kernel_rfl
@[go_sem] theorem T.agg54 : HL.aggN Try.prog 54 = some none := by kernel_rfl
@[go_sem] theorem T.size54 : HL.sizeT Try.prog 54 = some 1 := by kernel_rfl
@[go_sem] theorem T.bytes54 : HL.bytesT Try.prog 54 = some 24 := by kernel_rfl
@[go_sem] theorem T.zero54 : HL.zeroT Try.prog 54 = some (.slice none 0 0) := by kernel_rfl
@[go_sem] theorem T.elem54 : HL.elemT Try.prog 54 = some 58 := by kernel_rfl
@[go_sem] theorem T.elemS54 : HL.elemS Try.prog 54 = some 8 := by kernel_rfl
@[go_sem] theorem T.agg55 : HL.aggN Try.prog 55 = some (some 8) := by kernel_rfl
@[go_sem] theorem T.size55 : HL.sizeT Try.prog 55 = some 8 := by kernel_rfl
@[go_sem] theorem T.bytes55 : HL.bytesT Try.prog 55 = some 152 := by kernel_rfl
@[go_sem] theorem T.zero55 : HL.zeroT Try.prog 55 = some (.agg #[.string ⟨#[]⟩, .int .i64 0, .slice none 0 0, .int .i64 0, .slice none 0 0, .slice none 0 0, .slice none 0 0, .slice none 0 0]) := by kernel_rfl
@[go_sem] theorem T.places55 : HL.placesT Try.prog 55 = some [(0, 1), (1, 1), (2, 1), (3, 1), (4, 1), (5, 1), (6, 1), (7, 1)] := by kernel_rfl
@[go_sem] theorem T.field55_0 : HL.fieldT Try.prog 55 0 = some (0, 9) := by kernel_rfl
@[go_sem] theorem T.fieldO55_0 : HL.fieldO Try.prog 55 0 = some 0 := by kernel_rfl
@[go_sem] theorem T.field55_1 : HL.fieldT Try.prog 55 1 = some (1, 3) := by kernel_rfl
@[go_sem] theorem T.fieldO55_1 : HL.fieldO Try.prog 55 1 = some 1 := by kernel_rfl
@[go_sem] theorem T.field55_2 : HL.fieldT Try.prog 55 2 = some (2, 48) := by kernel_rfl
@[go_sem] theorem T.fieldO55_2 : HL.fieldO Try.prog 55 2 = some 2 := by kernel_rfl
@[go_sem] theorem T.field55_3 : HL.fieldT Try.prog 55 3 = some (3, 3) := by kernel_rfl
@[go_sem] theorem T.fieldO55_3 : HL.fieldO Try.prog 55 3 = some 3 := by kernel_rfl
@[go_sem] theorem T.field55_4 : HL.fieldT Try.prog 55 4 = some (4, 53) := by kernel_rfl
@[go_sem] theorem T.fieldO55_4 : HL.fieldO Try.prog 55 4 = some 4 := by kernel_rfl
@[go_sem] theorem T.field55_5 : HL.fieldT Try.prog 55 5 = some (5, 54) := by kernel_rfl
@[go_sem] theorem T.fieldO55_5 : HL.fieldO Try.prog 55 5 = some 5 := by kernel_rfl
@[go_sem] theorem T.field55_6 : HL.fieldT Try.prog 55 6 = some (6, 33) := by kernel_rfl
@[go_sem] theorem T.fieldO55_6 : HL.fieldO Try.prog 55 6 = some 6 := by kernel_rfl
@[go_sem] theorem T.field55_7 : HL.fieldT Try.prog 55 7 = some (7, 48) := by kernel_rfl
@[go_sem] theorem T.fieldO55_7 : HL.fieldO Try.prog 55 7 = some 7 := by kernel_rfl
@[go_sem] theorem T.agg56 : HL.aggN Try.prog 56 = some (some 8) := by kernel_rfl
@[go_sem] theorem T.size56 : HL.sizeT Try.prog 56 = some 8 := by kernel_rfl
@[go_sem] theorem T.bytes56 : HL.bytesT Try.prog 56 = some 152 := by kernel_rfl
@[go_sem] theorem T.zero56 : HL.zeroT Try.prog 56 = some (.agg #[.string ⟨#[]⟩, .int .i64 0, .slice none 0 0, .int .i64 0, .slice none 0 0, .slice none 0 0, .slice none 0 0, .slice none 0 0]) := by kernel_rfl
@[go_sem] theorem T.places56 : HL.placesT Try.prog 56 = some [(0, 1), (1, 1), (2, 1), (3, 1), (4, 1), (5, 1), (6, 1), (7, 1)] := by kernel_rfl
@[go_sem] theorem T.field56_0 : HL.fieldT Try.prog 56 0 = some (0, 9) := by kernel_rfl
@[go_sem] theorem T.fieldO56_0 : HL.fieldO Try.prog 56 0 = some 0 := by kernel_rfl
@[go_sem] theorem T.field56_1 : HL.fieldT Try.prog 56 1 = some (1, 3) := by kernel_rfl
@[go_sem] theorem T.fieldO56_1 : HL.fieldO Try.prog 56 1 = some 1 := by kernel_rfl
@[go_sem] theorem T.field56_2 : HL.fieldT Try.prog 56 2 = some (2, 48) := by kernel_rfl
@[go_sem] theorem T.fieldO56_2 : HL.fieldO Try.prog 56 2 = some 2 := by kernel_rfl
@[go_sem] theorem T.field56_3 : HL.fieldT Try.prog 56 3 = some (3, 3) := by kernel_rfl
@[go_sem] theorem T.fieldO56_3 : HL.fieldO Try.prog 56 3 = some 3 := by kernel_rfl
@[go_sem] theorem T.field56_4 : HL.fieldT Try.prog 56 4 = some (4, 53) := by kernel_rfl
@[go_sem] theorem T.fieldO56_4 : HL.fieldO Try.prog 56 4 = some 4 := by kernel_rfl
@[go_sem] theorem T.field56_5 : HL.fieldT Try.prog 56 5 = some (5, 54) := by kernel_rfl
@[go_sem] theorem T.fieldO56_5 : HL.fieldO Try.prog 56 5 = some 5 := by kernel_rfl
@[go_sem] theorem T.field56_6 : HL.fieldT Try.prog 56 6 = some (6, 33) := by kernel_rfl
@[go_sem] theorem T.fieldO56_6 : HL.fieldO Try.prog 56 6 = some 6 := by kernel_rfl
@[go_sem] theorem T.field56_7 : HL.fieldT Try.prog 56 7 = some (7, 48) := by kernel_rfl
@[go_sem] theorem T.fieldO56_7 : HL.fieldO Try.prog 56 7 = some 7 := by kernel_rfl
@[go_sem] theorem T.agg57 : HL.aggN Try.prog 57 = some (some 8) := by kernel_rfl
@[go_sem] theorem T.size57 : HL.sizeT Try.prog 57 = some 8 := by kernel_rfl
@[go_sem] theorem T.bytes57 : HL.bytesT Try.prog 57 = some 64 := by kernel_rfl
@[go_sem] theorem T.zero57 : HL.zeroT Try.prog 57 = some (.agg #[.int .i64 0, .int .i64 0, .int .i64 0, .int .i64 0, .int .i64 0, .int .i64 0, .bool false, .int .i64 0]) := by kernel_rfl
@[go_sem] theorem T.places57 : HL.placesT Try.prog 57 = some [(0, 1), (1, 1), (2, 1), (3, 1), (4, 1), (5, 1), (6, 1), (7, 1)] := by kernel_rfl
@[go_sem] theorem T.field57_0 : HL.fieldT Try.prog 57 0 = some (0, 3) := by kernel_rfl
@[go_sem] theorem T.fieldO57_0 : HL.fieldO Try.prog 57 0 = some 0 := by kernel_rfl
@[go_sem] theorem T.field57_1 : HL.fieldT Try.prog 57 1 = some (1, 3) := by kernel_rfl
@[go_sem] theorem T.fieldO57_1 : HL.fieldO Try.prog 57 1 = some 1 := by kernel_rfl
@[go_sem] theorem T.field57_2 : HL.fieldT Try.prog 57 2 = some (2, 3) := by kernel_rfl
@[go_sem] theorem T.fieldO57_2 : HL.fieldO Try.prog 57 2 = some 2 := by kernel_rfl
@[go_sem] theorem T.field57_3 : HL.fieldT Try.prog 57 3 = some (3, 3) := by kernel_rfl
@[go_sem] theorem T.fieldO57_3 : HL.fieldO Try.prog 57 3 = some 3 := by kernel_rfl
@[go_sem] theorem T.field57_4 : HL.fieldT Try.prog 57 4 = some (4, 3) := by kernel_rfl
@[go_sem] theorem T.fieldO57_4 : HL.fieldO Try.prog 57 4 = some 4 := by kernel_rfl
@[go_sem] theorem T.field57_5 : HL.fieldT Try.prog 57 5 = some (5, 3) := by kernel_rfl
@[go_sem] theorem T.fieldO57_5 : HL.fieldO Try.prog 57 5 = some 5 := by kernel_rfl
@[go_sem] theorem T.field57_6 : HL.fieldT Try.prog 57 6 = some (6, 4) := by kernel_rfl
@[go_sem] theorem T.fieldO57_6 : HL.fieldO Try.prog 57 6 = some 6 := by kernel_rfl
@[go_sem] theorem T.field57_7 : HL.fieldT Try.prog 57 7 = some (7, 3) := by kernel_rfl
@[go_sem] theorem T.fieldO57_7 : HL.fieldO Try.prog 57 7 = some 7 := by kernel_rfl
@[go_sem] theorem T.agg58 : HL.aggN Try.prog 58 = some (some 8) := by kernel_rfl
@[go_sem] theorem T.size58 : HL.sizeT Try.prog 58 = some 8 := by kernel_rfl
@[go_sem] theorem T.bytes58 : HL.bytesT Try.prog 58 = some 64 := by kernel_rfl
@[go_sem] theorem T.zero58 : HL.zeroT Try.prog 58 = some (.agg #[.int .i64 0, .int .i64 0, .int .i64 0, .int .i64 0, .int .i64 0, .int .i64 0, .bool false, .int .i64 0]) := by kernel_rfl
@[go_sem] theorem T.places58 : HL.placesT Try.prog 58 = some [(0, 1), (1, 1), (2, 1), (3, 1), (4, 1), (5, 1), (6, 1), (7, 1)] := by kernel_rfl
@[go_sem] theorem T.field58_0 : HL.fieldT Try.prog 58 0 = some (0, 3) := by kernel_rfl
@[go_sem] theorem T.fieldO58_0 : HL.fieldO Try.prog 58 0 = some 0 := by kernel_rfl
@[go_sem] theorem T.field58_1 : HL.fieldT Try.prog 58 1 = some (1, 3) := by kernel_rfl
@[go_sem] theorem T.fieldO58_1 : HL.fieldO Try.prog 58 1 = some 1 := by kernel_rfl
@[go_sem] theorem T.field58_2 : HL.fieldT Try.prog 58 2 = some (2, 3) := by kernel_rfl
@[go_sem] theorem T.fieldO58_2 : HL.fieldO Try.prog 58 2 = some 2 := by kernel_rfl
@[go_sem] theorem T.field58_3 : HL.fieldT Try.prog 58 3 = some (3, 3) := by kernel_rfl
@[go_sem] theorem T.fieldO58_3 : HL.fieldO Try.prog 58 3 = some 3 := by kernel_rfl
@[go_sem] theorem T.field58_4 : HL.fieldT Try.prog 58 4 = some (4, 3) := by kernel_rfl
@[go_sem] theorem T.fieldO58_4 : HL.fieldO Try.prog 58 4 = some 4 := by kernel_rfl
@[go_sem] theorem T.field58_5 : HL.fieldT Try.prog 58 5 = some (5, 3) := by kernel_rfl
@[go_sem] theorem T.fieldO58_5 : HL.fieldO Try.prog 58 5 = some 5 := by kernel_rfl
@[go_sem] theorem T.field58_6 : HL.fieldT Try.prog 58 6 = some (6, 4) := by kernel_rfl
@[go_sem] theorem T.fieldO58_6 : HL.fieldO Try.prog 58 6 = some 6 := by kernel_rfl
@[go_sem] theorem T.field58_7 : HL.fieldT Try.prog 58 7 = some (7, 3) := by kernel_rfl
@[go_sem] theorem T.fieldO58_7 : HL.fieldO Try.prog 58 7 = some 7 := by kernel_rfl
@[go_sem] theorem T.agg59 : HL.aggN Try.prog 59 = some (some 5) := by kernel_rfl
@[go_sem] theorem T.size59 : HL.sizeT Try.prog 59 = some 5 := by kernel_rfl
@[go_sem] theorem T.bytes59 : HL.bytesT Try.prog 59 = some 88 := by kernel_rfl
@[go_sem] theorem T.zero59 : HL.zeroT Try.prog 59 = some (.agg #[.int .i64 0, .slice none 0 0, .slice none 0 0, .slice none 0 0, .int .i64 0]) := by kernel_rfl
@[go_sem] theorem T.places59 : HL.placesT Try.prog 59 = some [(0, 1), (1, 1), (2, 1), (3, 1), (4, 1)] := by kernel_rfl
@[go_sem] theorem T.field59_0 : HL.fieldT Try.prog 59 0 = some (0, 3) := by kernel_rfl
@[go_sem] theorem T.fieldO59_0 : HL.fieldO Try.prog 59 0 = some 0 := by kernel_rfl
@[go_sem] theorem T.field59_1 : HL.fieldT Try.prog 59 1 = some (1, 33) := by kernel_rfl
@[go_sem] theorem T.fieldO59_1 : HL.fieldO Try.prog 59 1 = some 1 := by kernel_rfl
@[go_sem] theorem T.field59_2 : HL.fieldT Try.prog 59 2 = some (2, 48) := by kernel_rfl
@[go_sem] theorem T.fieldO59_2 : HL.fieldO Try.prog 59 2 = some 2 := by kernel_rfl
@[go_sem] theorem T.field59_3 : HL.fieldT Try.prog 59 3 = some (3, 48) := by kernel_rfl
@[go_sem] theorem T.fieldO59_3 : HL.fieldO Try.prog 59 3 = some 3 := by kernel_rfl
@[go_sem] theorem T.field59_4 : HL.fieldT Try.prog 59 4 = some (4, 3) := by kernel_rfl
@[go_sem] theorem T.fieldO59_4 : HL.fieldO Try.prog 59 4 = some 4 := by kernel_rfl
@[go_sem] theorem T.agg60 : HL.aggN Try.prog 60 = some (some 5) := by kernel_rfl
@[go_sem] theorem T.size60 : HL.sizeT Try.prog 60 = some 5 := by kernel_rfl
@[go_sem] theorem T.bytes60 : HL.bytesT Try.prog 60 = some 88 := by kernel_rfl
@[go_sem] theorem T.zero60 : HL.zeroT Try.prog 60 = some (.agg #[.int .i64 0, .slice none 0 0, .slice none 0 0, .slice none 0 0, .int .i64 0]) := by kernel_rfl
@[go_sem] theorem T.places60 : HL.placesT Try.prog 60 = some [(0, 1), (1, 1), (2, 1), (3, 1), (4, 1)] := by kernel_rfl
@[go_sem] theorem T.field60_0 : HL.fieldT Try.prog 60 0 = some (0, 3) := by kernel_rfl
@[go_sem] theorem T.fieldO60_0 : HL.fieldO Try.prog 60 0 = some 0 := by kernel_rfl
@[go_sem] theorem T.field60_1 : HL.fieldT Try.prog 60 1 = some (1, 33) := by kernel_rfl
@[go_sem] theorem T.fieldO60_1 : HL.fieldO Try.prog 60 1 = some 1 := by kernel_rfl
@[go_sem] theorem T.field60_2 : HL.fieldT Try.prog 60 2 = some (2, 48) := by kernel_rfl
@[go_sem] theorem T.fieldO60_2 : HL.fieldO Try.prog 60 2 = some 2 := by kernel_rfl
@[go_sem] theorem T.field60_3 : HL.fieldT Try.prog 60 3 = some (3, 48) := by kernel_rfl
@[go_sem] theorem T.fieldO60_3 : HL.fieldO Try.prog 60 3 = some 3 := by kernel_rfl
@[go_sem] theorem T.field60_4 : HL.fieldT Try.prog 60 4 = some (4, 3) := by kernel_rfl
@[go_sem] theorem T.fieldO60_4 : HL.fieldO Try.prog 60 4 = some 4 := by kernel_rfl
@[go_sem] theorem T.agg61 : HL.aggN Try.prog 61 = some none := by kernel_rfl
@[go_sem] theorem T.size61 : HL.sizeT Try.prog 61 = some 1 := by kernel_rfl
@[go_sem] theorem T.bytes61 : HL.bytesT Try.prog 61 = some 8 := by kernel_rfl
@[go_sem] theorem T.zero61 : HL.zeroT Try.prog 61 = some (.pointer none) := by kernel_rfl
@[go_sem] theorem T.agg62 : HL.aggN Try.prog 62 = some none := by kernel_rfl
@[go_sem] theorem T.size62 : HL.sizeT Try.prog 62 = some 1 := by kernel_rfl
@[go_sem] theorem T.bytes62 : HL.bytesT Try.prog 62 = some 8 := by kernel_rfl
@[go_sem] theorem T.zero62 : HL.zeroT Try.prog 62 = some (.nilFunc) := by kernel_rfl
@[go_sem] theorem T.agg63 : HL.aggN Try.prog 63 = some none := by kernel_rfl
@[go_sem] theorem T.size63 : HL.sizeT Try.prog 63 = some 1 := by kernel_rfl
@[go_sem] theorem T.bytes63 : HL.bytesT Try.prog 63 = some 8 := by kernel_rfl
@[go_sem] theorem T.zero63 : HL.zeroT Try.prog 63 = some (.nilFunc) := by kernel_rfl
@[go_sem] theorem T.agg64 : HL.aggN Try.prog 64 = some (some 2) := by kernel_rfl
@[go_sem] theorem T.size64 : HL.sizeT Try.prog 64 = some 2 := by kernel_rfl
@[go_sem] theorem T.bytes64 : HL.bytesT Try.prog 64 = some 32 := by kernel_rfl
@[go_sem] theorem T.zero64 : HL.zeroT Try.prog 64 = some (.agg #[.slice none 0 0, .nilFunc]) := by kernel_rfl
@[go_sem] theorem T.places64 : HL.placesT Try.prog 64 = some [(0, 1), (1, 1)] := by kernel_rfl
@[go_sem] theorem T.field64_0 : HL.fieldT Try.prog 64 0 = some (0, 22) := by kernel_rfl
@[go_sem] theorem T.fieldO64_0 : HL.fieldO Try.prog 64 0 = some 0 := by kernel_rfl
@[go_sem] theorem T.field64_1 : HL.fieldT Try.prog 64 1 = some (1, 63) := by kernel_rfl
@[go_sem] theorem T.fieldO64_1 : HL.fieldO Try.prog 64 1 = some 1 := by kernel_rfl
@[go_sem] theorem T.agg65 : HL.aggN Try.prog 65 = some (some 2) := by kernel_rfl
@[go_sem] theorem T.size65 : HL.sizeT Try.prog 65 = some 2 := by kernel_rfl
@[go_sem] theorem T.bytes65 : HL.bytesT Try.prog 65 = some 32 := by kernel_rfl
@[go_sem] theorem T.zero65 : HL.zeroT Try.prog 65 = some (.agg #[.slice none 0 0, .nilFunc]) := by kernel_rfl
@[go_sem] theorem T.places65 : HL.placesT Try.prog 65 = some [(0, 1), (1, 1)] := by kernel_rfl
@[go_sem] theorem T.field65_0 : HL.fieldT Try.prog 65 0 = some (0, 22) := by kernel_rfl
@[go_sem] theorem T.fieldO65_0 : HL.fieldO Try.prog 65 0 = some 0 := by kernel_rfl
@[go_sem] theorem T.field65_1 : HL.fieldT Try.prog 65 1 = some (1, 63) := by kernel_rfl
@[go_sem] theorem T.fieldO65_1 : HL.fieldO Try.prog 65 1 = some 1 := by kernel_rfl
@[go_sem] theorem T.agg67 : HL.aggN Try.prog 67 = some none := by kernel_rfl
@[go_sem] theorem T.size67 : HL.sizeT Try.prog 67 = some 1 := by kernel_rfl
@[go_sem] theorem T.bytes67 : HL.bytesT Try.prog 67 = some 8 := by kernel_rfl
@[go_sem] theorem T.zero67 : HL.zeroT Try.prog 67 = some (.nilFunc) := by kernel_rfl
@[go_sem] theorem T.agg68 : HL.aggN Try.prog 68 = some none := by kernel_rfl
@[go_sem] theorem T.size68 : HL.sizeT Try.prog 68 = some 1 := by kernel_rfl
@[go_sem] theorem T.bytes68 : HL.bytesT Try.prog 68 = some 8 := by kernel_rfl
@[go_sem] theorem T.zero68 : HL.zeroT Try.prog 68 = some (.nilFunc) := by kernel_rfl
@[go_sem] theorem T.agg69 : HL.aggN Try.prog 69 = some none := by kernel_rfl
@[go_sem] theorem T.size69 : HL.sizeT Try.prog 69 = some 1 := by kernel_rfl
@[go_sem] theorem T.bytes69 : HL.bytesT Try.prog 69 = some 24 := by kernel_rfl
@[go_sem] theorem T.zero69 : HL.zeroT Try.prog 69 = some (.slice none 0 0) := by kernel_rfl
@[go_sem] theorem T.elem69 : HL.elemT Try.prog 69 = some 107 := by kernel_rfl
@[go_sem] theorem T.elemS69 : HL.elemS Try.prog 69 = some 3 := by kernel_rfl
@[go_sem] theorem T.agg71 : HL.aggN Try.prog 71 = some none := by kernel_rfl
@[go_sem] theorem T.size71 : HL.sizeT Try.prog 71 = some 1 := by kernel_rfl
@[go_sem] theorem T.bytes71 : HL.bytesT Try.prog 71 = some 8 := by kernel_rfl
@[go_sem] theorem T.zero71 : HL.zeroT Try.prog 71 = some (.nilFunc) := by kernel_rfl
@[go_sem] theorem T.agg72 : HL.aggN Try.prog 72 = some none := by kernel_rfl
@[go_sem] theorem T.size72 : HL.sizeT Try.prog 72 = some 1 := by kernel_rfl
@[go_sem] theorem T.bytes72 : HL.bytesT Try.prog 72 = some 8 := by kernel_rfl
@[go_sem] theorem T.zero72 : HL.zeroT Try.prog 72 = some (.pointer none) := by kernel_rfl
@[go_sem] theorem T.agg73 : HL.aggN Try.prog 73 = some (some 5) := by kernel_rfl
@[go_sem] theorem T.size73 : HL.sizeT Try.prog 73 = some 5 := by kernel_rfl
@[go_sem] theorem T.bytes73 : HL.bytesT Try.prog 73 = some 56 := by kernel_rfl
@[go_sem] theorem T.zero73 : HL.zeroT Try.prog 73 = some (.agg #[.slice none 0 0, .int .i64 0, .int .i64 0, .int .i64 0, .int .i64 0]) := by kernel_rfl
@[go_sem] theorem T.places73 : HL.placesT Try.prog 73 = some [(0, 1), (1, 1), (2, 1), (3, 2)] := by kernel_rfl
@[go_sem] theorem T.field73_0 : HL.fieldT Try.prog 73 0 = some (0, 69) := by kernel_rfl
@[go_sem] theorem T.fieldO73_0 : HL.fieldO Try.prog 73 0 = some 0 := by kernel_rfl
@[go_sem] theorem T.field73_1 : HL.fieldT Try.prog 73 1 = some (1, 3) := by kernel_rfl
@[go_sem] theorem T.fieldO73_1 : HL.fieldO Try.prog 73 1 = some 1 := by kernel_rfl
@[go_sem] theorem T.field73_2 : HL.fieldT Try.prog 73 2 = some (2, 3) := by kernel_rfl
@[go_sem] theorem T.fieldO73_2 : HL.fieldO Try.prog 73 2 = some 2 := by kernel_rfl
@[go_sem] theorem T.field73_3 : HL.fieldT Try.prog 73 3 = some (3, 27) := by kernel_rfl
@[go_sem] theorem T.fieldO73_3 : HL.fieldO Try.prog 73 3 = some 3 := by kernel_rfl
@[go_sem] theorem T.agg74 : HL.aggN Try.prog 74 = some (some 5) := by kernel_rfl
@[go_sem] theorem T.size74 : HL.sizeT Try.prog 74 = some 5 := by kernel_rfl
@[go_sem] theorem T.bytes74 : HL.bytesT Try.prog 74 = some 56 := by kernel_rfl
@[go_sem] theorem T.zero74 : HL.zeroT Try.prog 74 = some (.agg #[.slice none 0 0, .int .i64 0, .int .i64 0, .int .i64 0, .int .i64 0]) := by kernel_rfl
@[go_sem] theorem T.places74 : HL.placesT Try.prog 74 = some [(0, 1), (1, 1), (2, 1), (3, 2)] := by kernel_rfl
@[go_sem] theorem T.field74_0 : HL.fieldT Try.prog 74 0 = some (0, 69) := by kernel_rfl
@[go_sem] theorem T.fieldO74_0 : HL.fieldO Try.prog 74 0 = some 0 := by kernel_rfl
@[go_sem] theorem T.field74_1 : HL.fieldT Try.prog 74 1 = some (1, 3) := by kernel_rfl
@[go_sem] theorem T.fieldO74_1 : HL.fieldO Try.prog 74 1 = some 1 := by kernel_rfl
@[go_sem] theorem T.field74_2 : HL.fieldT Try.prog 74 2 = some (2, 3) := by kernel_rfl
@[go_sem] theorem T.fieldO74_2 : HL.fieldO Try.prog 74 2 = some 2 := by kernel_rfl
@[go_sem] theorem T.field74_3 : HL.fieldT Try.prog 74 3 = some (3, 27) := by kernel_rfl
@[go_sem] theorem T.fieldO74_3 : HL.fieldO Try.prog 74 3 = some 3 := by kernel_rfl
@[go_sem] theorem T.agg75 : HL.aggN Try.prog 75 = some none := by kernel_rfl
@[go_sem] theorem T.size75 : HL.sizeT Try.prog 75 = some 1 := by kernel_rfl
@[go_sem] theorem T.bytes75 : HL.bytesT Try.prog 75 = some 24 := by kernel_rfl
@[go_sem] theorem T.zero75 : HL.zeroT Try.prog 75 = some (.slice none 0 0) := by kernel_rfl
@[go_sem] theorem T.elem75 : HL.elemT Try.prog 75 = some 77 := by kernel_rfl
@[go_sem] theorem T.elemS75 : HL.elemS Try.prog 75 = some 6 := by kernel_rfl
@[go_sem] theorem T.agg76 : HL.aggN Try.prog 76 = some (some 6) := by kernel_rfl
@[go_sem] theorem T.size76 : HL.sizeT Try.prog 76 = some 6 := by kernel_rfl
@[go_sem] theorem T.bytes76 : HL.bytesT Try.prog 76 = some 112 := by kernel_rfl
@[go_sem] theorem T.zero76 : HL.zeroT Try.prog 76 = some (.agg #[.int .i64 0, .slice none 0 0, .slice none 0 0, .slice none 0 0, .int .i64 0, .slice none 0 0]) := by kernel_rfl
@[go_sem] theorem T.places76 : HL.placesT Try.prog 76 = some [(0, 5), (5, 1)] := by kernel_rfl
@[go_sem] theorem T.field76_0 : HL.fieldT Try.prog 76 0 = some (0, 60) := by kernel_rfl
@[go_sem] theorem T.fieldO76_0 : HL.fieldO Try.prog 76 0 = some 0 := by kernel_rfl
@[go_sem] theorem T.field76_1 : HL.fieldT Try.prog 76 1 = some (5, 75) := by kernel_rfl
@[go_sem] theorem T.fieldO76_1 : HL.fieldO Try.prog 76 1 = some 5 := by kernel_rfl
@[go_sem] theorem T.agg77 : HL.aggN Try.prog 77 = some (some 6) := by kernel_rfl
@[go_sem] theorem T.size77 : HL.sizeT Try.prog 77 = some 6 := by kernel_rfl
@[go_sem] theorem T.bytes77 : HL.bytesT Try.prog 77 = some 112 := by kernel_rfl
@[go_sem] theorem T.zero77 : HL.zeroT Try.prog 77 = some (.agg #[.int .i64 0, .slice none 0 0, .slice none 0 0, .slice none 0 0, .int .i64 0, .slice none 0 0]) := by kernel_rfl
@[go_sem] theorem T.places77 : HL.placesT Try.prog 77 = some [(0, 5), (5, 1)] := by kernel_rfl
@[go_sem] theorem T.field77_0 : HL.fieldT Try.prog 77 0 = some (0, 60) := by kernel_rfl
@[go_sem] theorem T.fieldO77_0 : HL.fieldO Try.prog 77 0 = some 0 := by kernel_rfl
@[go_sem] theorem T.field77_1 : HL.fieldT Try.prog 77 1 = some (5, 75) := by kernel_rfl
@[go_sem] theorem T.fieldO77_1 : HL.fieldO Try.prog 77 1 = some 5 := by kernel_rfl
@[go_sem] theorem T.agg78 : HL.aggN Try.prog 78 = some none := by kernel_rfl
@[go_sem] theorem T.size78 : HL.sizeT Try.prog 78 = some 1 := by kernel_rfl
@[go_sem] theorem T.bytes78 : HL.bytesT Try.prog 78 = some 8 := by kernel_rfl
@[go_sem] theorem T.zero78 : HL.zeroT Try.prog 78 = some (.nilFunc) := by kernel_rfl
@[go_sem] theorem T.agg79 : HL.aggN Try.prog 79 = some none := by kernel_rfl
@[go_sem] theorem T.size79 : HL.sizeT Try.prog 79 = some 1 := by kernel_rfl
@[go_sem] theorem T.bytes79 : HL.bytesT Try.prog 79 = some 8 := by kernel_rfl
@[go_sem] theorem T.zero79 : HL.zeroT Try.prog 79 = some (.nilFunc) := by kernel_rfl
@[go_sem] theorem T.agg80 : HL.aggN Try.prog 80 = some none := by kernel_rfl
@[go_sem] theorem T.size80 : HL.sizeT Try.prog 80 = some 1 := by kernel_rfl
@[go_sem] theorem T.bytes80 : HL.bytesT Try.prog 80 = some 8 := by kernel_rfl
@[go_sem] theorem T.zero80 : HL.zeroT Try.prog 80 = some (.nilFunc) := by kernel_rfl
@[go_sem] theorem T.agg81 : HL.aggN Try.prog 81 = some none := by kernel_rfl
@[go_sem] theorem T.size81 : HL.sizeT Try.prog 81 = some 1 := by kernel_rfl
@[go_sem] theorem T.bytes81 : HL.bytesT Try.prog 81 = some 8 := by kernel_rfl
@[go_sem] theorem T.zero81 : HL.zeroT Try.prog 81 = some (.nilFunc) := by kernel_rfl
@[go_sem] theorem T.agg82 : HL.aggN Try.prog 82 = some (some 5) := by kernel_rfl
@[go_sem] theorem T.size82 : HL.sizeT Try.prog 82 = some 5 := by kernel_rfl
@[go_sem] theorem T.bytes82 : HL.bytesT Try.prog 82 = some 104 := by kernel_rfl
@[go_sem] theorem T.zero82 : HL.zeroT Try.prog 82 = some (.agg #[.slice none 0 0, .slice none 0 0, .slice none 0 0, .slice none 0 0, .bool false]) := by kernel_rfl
@[go_sem] theorem T.places82 : HL.placesT Try.prog 82 = some [(0, 1), (1, 1), (2, 1), (3, 1), (4, 1)] := by kernel_rfl
@[go_sem] theorem T.field82_0 : HL.fieldT Try.prog 82 0 = some (0, 33) := by kernel_rfl
@[go_sem] theorem T.fieldO82_0 : HL.fieldO Try.prog 82 0 = some 0 := by kernel_rfl
@[go_sem] theorem T.field82_1 : HL.fieldT Try.prog 82 1 = some (1, 33) := by kernel_rfl
@[go_sem] theorem T.fieldO82_1 : HL.fieldO Try.prog 82 1 = some 1 := by kernel_rfl
@[go_sem] theorem T.field82_2 : HL.fieldT Try.prog 82 2 = some (2, 33) := by kernel_rfl
@[go_sem] theorem T.fieldO82_2 : HL.fieldO Try.prog 82 2 = some 2 := by kernel_rfl
@[go_sem] theorem T.field82_3 : HL.fieldT Try.prog 82 3 = some (3, 33) := by kernel_rfl
@[go_sem] theorem T.fieldO82_3 : HL.fieldO Try.prog 82 3 = some 3 := by kernel_rfl
@[go_sem] theorem T.field82_4 : HL.fieldT Try.prog 82 4 = some (4, 4) := by kernel_rfl
@[go_sem] theorem T.fieldO82_4 : HL.fieldO Try.prog 82 4 = some 4 := by kernel_rfl
@[go_sem] theorem T.agg83 : HL.aggN Try.prog 83 = some (some 5) := by kernel_rfl
@[go_sem] theorem T.size83 : HL.sizeT Try.prog 83 = some 5 := by kernel_rfl
@[go_sem] theorem T.bytes83 : HL.bytesT Try.prog 83 = some 104 := by kernel_rfl
@[go_sem] theorem T.zero83 : HL.zeroT Try.prog 83 = some (.agg #[.slice none 0 0, .slice none 0 0, .slice none 0 0, .slice none 0 0, .bool false]) := by kernel_rfl
@[go_sem] theorem T.places83 : HL.placesT Try.prog 83 = some [(0, 1), (1, 1), (2, 1), (3, 1), (4, 1)] := by kernel_rfl
@[go_sem] theorem T.field83_0 : HL.fieldT Try.prog 83 0 = some (0, 33) := by kernel_rfl
@[go_sem] theorem T.fieldO83_0 : HL.fieldO Try.prog 83 0 = some 0 := by kernel_rfl
@[go_sem] theorem T.field83_1 : HL.fieldT Try.prog 83 1 = some (1, 33) := by kernel_rfl
@[go_sem] theorem T.fieldO83_1 : HL.fieldO Try.prog 83 1 = some 1 := by kernel_rfl
@[go_sem] theorem T.field83_2 : HL.fieldT Try.prog 83 2 = some (2, 33) := by kernel_rfl
@[go_sem] theorem T.fieldO83_2 : HL.fieldO Try.prog 83 2 = some 2 := by kernel_rfl
@[go_sem] theorem T.field83_3 : HL.fieldT Try.prog 83 3 = some (3, 33) := by kernel_rfl
@[go_sem] theorem T.fieldO83_3 : HL.fieldO Try.prog 83 3 = some 3 := by kernel_rfl
@[go_sem] theorem T.field83_4 : HL.fieldT Try.prog 83 4 = some (4, 4) := by kernel_rfl
@[go_sem] theorem T.fieldO83_4 : HL.fieldO Try.prog 83 4 = some 4 := by kernel_rfl
@[go_sem] theorem T.agg84 : HL.aggN Try.prog 84 = some none := by kernel_rfl
@[go_sem] theorem T.size84 : HL.sizeT Try.prog 84 = some 1 := by kernel_rfl
@[go_sem] theorem T.bytes84 : HL.bytesT Try.prog 84 = some 8 := by kernel_rfl
@[go_sem] theorem T.zero84 : HL.zeroT Try.prog 84 = some (.nilFunc) := by kernel_rfl
@[go_sem] theorem T.agg85 : HL.aggN Try.prog 85 = some none := by kernel_rfl
@[go_sem] theorem T.size85 : HL.sizeT Try.prog 85 = some 1 := by kernel_rfl
@[go_sem] theorem T.bytes85 : HL.bytesT Try.prog 85 = some 8 := by kernel_rfl
@[go_sem] theorem T.zero85 : HL.zeroT Try.prog 85 = some (.nilFunc) := by kernel_rfl
@[go_sem] theorem T.agg86 : HL.aggN Try.prog 86 = some none := by kernel_rfl
@[go_sem] theorem T.size86 : HL.sizeT Try.prog 86 = some 1 := by kernel_rfl
@[go_sem] theorem T.bytes86 : HL.bytesT Try.prog 86 = some 16 := by kernel_rfl
@[go_sem] theorem T.zero86 : HL.zeroT Try.prog 86 = some (.nilIface) := by kernel_rfl
@[go_sem] theorem T.agg87 : HL.aggN Try.prog 87 = some none := by kernel_rfl
@[go_sem] theorem T.size87 : HL.sizeT Try.prog 87 = some 1 := by kernel_rfl
@[go_sem] theorem T.bytes87 : HL.bytesT Try.prog 87 = some 16 := by kernel_rfl
@[go_sem] theorem T.zero87 : HL.zeroT Try.prog 87 = some (.nilIface) := by kernel_rfl
@[go_sem] theorem T.agg88 : HL.aggN Try.prog 88 = some none := by kernel_rfl
@[go_sem] theorem T.size88 : HL.sizeT Try.prog 88 = some 1 := by kernel_rfl
@[go_sem] theorem T.bytes88 : HL.bytesT Try.prog 88 = some 8 := by kernel_rfl
@[go_sem] theorem T.zero88 : HL.zeroT Try.prog 88 = some (.nilFunc) := by kernel_rfl
@[go_sem] theorem T.agg89 : HL.aggN Try.prog 89 = some (some 4) := by kernel_rfl
@[go_sem] theorem T.size89 : HL.sizeT Try.prog 89 = some 4 := by kernel_rfl
@[go_sem] theorem T.bytes89 : HL.bytesT Try.prog 89 = some 48 := by kernel_rfl
@[go_sem] theorem T.zero89 : HL.zeroT Try.prog 89 = some (.agg #[.slice none 0 0, .int .i64 0, .int .i64 0, .int .i64 0]) := by kernel_rfl
@[go_sem] theorem T.places89 : HL.placesT Try.prog 89 = some [(0, 1), (1, 1), (2, 1), (3, 1)] := by kernel_rfl
@[go_sem] theorem T.field89_0 : HL.fieldT Try.prog 89 0 = some (0, 22) := by kernel_rfl
@[go_sem] theorem T.fieldO89_0 : HL.fieldO Try.prog 89 0 = some 0 := by kernel_rfl
@[go_sem] theorem T.field89_1 : HL.fieldT Try.prog 89 1 = some (1, 3) := by kernel_rfl
@[go_sem] theorem T.fieldO89_1 : HL.fieldO Try.prog 89 1 = some 1 := by kernel_rfl
@[go_sem] theorem T.field89_2 : HL.fieldT Try.prog 89 2 = some (2, 3) := by kernel_rfl
@[go_sem] theorem T.fieldO89_2 : HL.fieldO Try.prog 89 2 = some 2 := by kernel_rfl
@[go_sem] theorem T.field89_3 : HL.fieldT Try.prog 89 3 = some (3, 3) := by kernel_rfl
@[go_sem] theorem T.fieldO89_3 : HL.fieldO Try.prog 89 3 = some 3 := by kernel_rfl
@[go_sem] theorem T.agg90 : HL.aggN Try.prog 90 = some (some 4) := by kernel_rfl
@[go_sem] theorem T.size90 : HL.sizeT Try.prog 90 = some 4 := by kernel_rfl
@[go_sem] theorem T.bytes90 : HL.bytesT Try.prog 90 = some 48 := by kernel_rfl
@[go_sem] theorem T.zero90 : HL.zeroT Try.prog 90 = some (.agg #[.slice none 0 0, .int .i64 0, .int .i64 0, .int .i64 0]) := by kernel_rfl
@[go_sem] theorem T.places90 : HL.placesT Try.prog 90 = some [(0, 1), (1, 1), (2, 1), (3, 1)] := by kernel_rfl
@[go_sem] theorem T.field90_0 : HL.fieldT Try.prog 90 0 = some (0, 22) := by kernel_rfl
@[go_sem] theorem T.fieldO90_0 : HL.fieldO Try.prog 90 0 = some 0 := by kernel_rfl
@[go_sem] theorem T.field90_1 : HL.fieldT Try.prog 90 1 = some (1, 3) := by kernel_rfl
@[go_sem] theorem T.fieldO90_1 : HL.fieldO Try.prog 90 1 = some 1 := by kernel_rfl
@[go_sem] theorem T.field90_2 : HL.fieldT Try.prog 90 2 = some (2, 3) := by kernel_rfl
@[go_sem] theorem T.fieldO90_2 : HL.fieldO Try.prog 90 2 = some 2 := by kernel_rfl
@[go_sem] theorem T.field90_3 : HL.fieldT Try.prog 90 3 = some (3, 3) := by kernel_rfl
@[go_sem] theorem T.fieldO90_3 : HL.fieldO Try.prog 90 3 = some 3 := by kernel_rfl
@[go_sem] theorem T.agg91 : HL.aggN Try.prog 91 = some none := by kernel_rfl
@[go_sem] theorem T.size91 : HL.sizeT Try.prog 91 = some 1 := by kernel_rfl
@[go_sem] theorem T.bytes91 : HL.bytesT Try.prog 91 = some 8 := by kernel_rfl
@[go_sem] theorem T.zero91 : HL.zeroT Try.prog 91 = some (.nilFunc) := by kernel_rfl
@[go_sem] theorem T.agg92 : HL.aggN Try.prog 92 = some none := by kernel_rfl
@[go_sem] theorem T.size92 : HL.sizeT Try.prog 92 = some 1 := by kernel_rfl
@[go_sem] theorem T.bytes92 : HL.bytesT Try.prog 92 = some 8 := by kernel_rfl
@[go_sem] theorem T.zero92 : HL.zeroT Try.prog 92 = some (.nilFunc) := by kernel_rfl
@[go_sem] theorem T.agg93 : HL.aggN Try.prog 93 = some (some 7) := by kernel_rfl
@[go_sem] theorem T.size93 : HL.sizeT Try.prog 93 = some 7 := by kernel_rfl
@[go_sem] theorem T.bytes93 : HL.bytesT Try.prog 93 = some 136 := by kernel_rfl
@[go_sem] theorem T.zero93 : HL.zeroT Try.prog 93 = some (.agg #[.slice none 0 0, .int .i64 0, .slice none 0 0, .slice none 0 0, .slice none 0 0, .slice none 0 0, .bool false]) := by kernel_rfl
@[go_sem] theorem T.places93 : HL.placesT Try.prog 93 = some [(0, 7)] := by kernel_rfl
@[go_sem] theorem T.field93_0 : HL.fieldT Try.prog 93 0 = some (0, 50) := by kernel_rfl
@[go_sem] theorem T.fieldO93_0 : HL.fieldO Try.prog 93 0 = some 0 := by kernel_rfl
@[go_sem] theorem T.agg94 : HL.aggN Try.prog 94 = some (some 7) := by kernel_rfl
@[go_sem] theorem T.size94 : HL.sizeT Try.prog 94 = some 7 := by kernel_rfl
@[go_sem] theorem T.bytes94 : HL.bytesT Try.prog 94 = some 136 := by kernel_rfl
@[go_sem] theorem T.zero94 : HL.zeroT Try.prog 94 = some (.agg #[.slice none 0 0, .int .i64 0, .slice none 0 0, .slice none 0 0, .slice none 0 0, .slice none 0 0, .bool false]) := by kernel_rfl
@[go_sem] theorem T.places94 : HL.placesT Try.prog 94 = some [(0, 7)] := by kernel_rfl
@[go_sem] theorem T.field94_0 : HL.fieldT Try.prog 94 0 = some (0, 50) := by kernel_rfl
@[go_sem] theorem T.fieldO94_0 : HL.fieldO Try.prog 94 0 = some 0 := by kernel_rfl
@[go_sem] theorem T.agg95 : HL.aggN Try.prog 95 = some none := by kernel_rfl
@[go_sem] theorem T.size95 : HL.sizeT Try.prog 95 = some 1 := by kernel_rfl
@[go_sem] theorem T.bytes95 : HL.bytesT Try.prog 95 = some 8 := by kernel_rfl
@[go_sem] theorem T.zero95 : HL.zeroT Try.prog 95 = some (.nilFunc) := by kernel_rfl
@[go_sem] theorem T.agg96 : HL.aggN Try.prog 96 = some none := by kernel_rfl
@[go_sem] theorem T.size96 : HL.sizeT Try.prog 96 = some 1 := by kernel_rfl
@[go_sem] theorem T.bytes96 : HL.bytesT Try.prog 96 = some 8 := by kernel_rfl
@[go_sem] theorem T.zero96 : HL.zeroT Try.prog 96 = some (.nilFunc) := by kernel_rfl
@[go_sem] theorem T.agg97 : HL.aggN Try.prog 97 = some none := by kernel_rfl
@[go_sem] theorem T.size97 : HL.sizeT Try.prog 97 = some 1 := by kernel_rfl
@[go_sem] theorem T.bytes97 : HL.bytesT Try.prog 97 = some 8 := by kernel_rfl
@[go_sem] theorem T.zero97 : HL.zeroT Try.prog 97 = some (.nilFunc) := by kernel_rfl
@[go_sem] theorem T.agg98 : HL.aggN Try.prog 98 = some none := by kernel_rfl
@[go_sem] theorem T.size98 : HL.sizeT Try.prog 98 = some 1 := by kernel_rfl
@[go_sem] theorem T.bytes98 : HL.bytesT Try.prog 98 = some 8 := by kernel_rfl
@[go_sem] theorem T.zero98 : HL.zeroT Try.prog 98 = some (.nilFunc) := by kernel_rfl
@[go_sem] theorem T.agg99 : HL.aggN Try.prog 99 = some none := by kernel_rfl
@[go_sem] theorem T.size99 : HL.sizeT Try.prog 99 = some 1 := by kernel_rfl
@[go_sem] theorem T.bytes99 : HL.bytesT Try.prog 99 = some 8 := by kernel_rfl
@[go_sem] theorem T.zero99 : HL.zeroT Try.prog 99 = some (.nilFunc) := by kernel_rfl
@[go_sem] theorem T.agg100 : HL.aggN Try.prog 100 = some none := by kernel_rfl
@[go_sem] theorem T.size100 : HL.sizeT Try.prog 100 = some 1 := by kernel_rfl
@[go_sem] theorem T.bytes100 : HL.bytesT Try.prog 100 = some 8 := by kernel_rfl
@[go_sem] theorem T.zero100 : HL.zeroT Try.prog 100 = some (.nilFunc) := by kernel_rfl
@[go_sem] theorem T.agg101 : HL.aggN Try.prog 101 = some none := by kernel_rfl
@[go_sem] theorem T.size101 : HL.sizeT Try.prog 101 = some 1 := by kernel_rfl
@[go_sem] theorem T.bytes101 : HL.bytesT Try.prog 101 = some 8 := by kernel_rfl
@[go_sem] theorem T.zero101 : HL.zeroT Try.prog 101 = some (.nilFunc) := by kernel_rfl
@[go_sem] theorem T.agg102 : HL.aggN Try.prog 102 = some none := by kernel_rfl
@[go_sem] theorem T.size102 : HL.sizeT Try.prog 102 = some 1 := by kernel_rfl
@[go_sem] theorem T.bytes102 : HL.bytesT Try.prog 102 = some 8 := by kernel_rfl
@[go_sem] theorem T.zero102 : HL.zeroT Try.prog 102 = some (.nilFunc) := by kernel_rfl
@[go_sem] theorem T.agg103 : HL.aggN Try.prog 103 = some none := by kernel_rfl
@[go_sem] theorem T.size103 : HL.sizeT Try.prog 103 = some 1 := by kernel_rfl
@[go_sem] theorem T.bytes103 : HL.bytesT Try.prog 103 = some 8 := by kernel_rfl
@[go_sem] theorem T.zero103 : HL.zeroT Try.prog 103 = some (.nilFunc) := by kernel_rfl
@[go_sem] theorem T.agg104 : HL.aggN Try.prog 104 = some none := by kernel_rfl
@[go_sem] theorem T.size104 : HL.sizeT Try.prog 104 = some 1 := by kernel_rfl
@[go_sem] theorem T.bytes104 : HL.bytesT Try.prog 104 = some 8 := by kernel_rfl
@[go_sem] theorem T.zero104 : HL.zeroT Try.prog 104 = some (.nilFunc) := by kernel_rfl
@[go_sem] theorem T.agg105 : HL.aggN Try.prog 105 = some none := by kernel_rfl
@[go_sem] theorem T.size105 : HL.sizeT Try.prog 105 = some 1 := by kernel_rfl
@[go_sem] theorem T.bytes105 : HL.bytesT Try.prog 105 = some 8 := by kernel_rfl
@[go_sem] theorem T.zero105 : HL.zeroT Try.prog 105 = some (.nilFunc) := by kernel_rfl
@[go_sem] theorem T.agg106 : HL.aggN Try.prog 106 = some (some 3) := by kernel_rfl
@[go_sem] theorem T.size106 : HL.sizeT Try.prog 106 = some 3 := by kernel_rfl
@[go_sem] theorem T.bytes106 : HL.bytesT Try.prog 106 = some 32 := by kernel_rfl
@[go_sem] theorem T.zero106 : HL.zeroT Try.prog 106 = some (.agg #[.int .i64 0, .string ⟨#[]⟩, .int .i64 0]) := by kernel_rfl
@[go_sem] theorem T.places106 : HL.placesT Try.prog 106 = some [(0, 1), (1, 1), (2, 1)] := by kernel_rfl
@[go_sem] theorem T.field106_0 : HL.fieldT Try.prog 106 0 = some (0, 3) := by kernel_rfl
@[go_sem] theorem T.fieldO106_0 : HL.fieldO Try.prog 106 0 = some 0 := by kernel_rfl
@[go_sem] theorem T.field106_1 : HL.fieldT Try.prog 106 1 = some (1, 9) := by kernel_rfl
@[go_sem] theorem T.fieldO106_1 : HL.fieldO Try.prog 106 1 = some 1 := by kernel_rfl
@[go_sem] theorem T.field106_2 : HL.fieldT Try.prog 106 2 = some (2, 3) := by kernel_rfl
@[go_sem] theorem T.fieldO106_2 : HL.fieldO Try.prog 106 2 = some 2 := by kernel_rfl
@[go_sem] theorem T.agg107 : HL.aggN Try.prog 107 = some (some 3) := by kernel_rfl
@[go_sem] theorem T.size107 : HL.sizeT Try.prog 107 = some 3 := by kernel_rfl
@[go_sem] theorem T.bytes107 : HL.bytesT Try.prog 107 = some 32 := by kernel_rfl
@[go_sem] theorem T.zero107 : HL.zeroT Try.prog 107 = some (.agg #[.int .i64 0, .string ⟨#[]⟩, .int .i64 0]) := by kernel_rfl
@[go_sem] theorem T.places107 : HL.placesT Try.prog 107 = some [(0, 1), (1, 1), (2, 1)] := by kernel_rfl
@[go_sem] theorem T.field107_0 : HL.fieldT Try.prog 107 0 = some (0, 3) := by kernel_rfl
@[go_sem] theorem T.fieldO107_0 : HL.fieldO Try.prog 107 0 = some 0 := by kernel_rfl
@[go_sem] theorem T.field107_1 : HL.fieldT Try.prog 107 1 = some (1, 9) := by kernel_rfl
@[go_sem] theorem T.fieldO107_1 : HL.fieldO Try.prog 107 1 = some 1 := by kernel_rfl
@[go_sem] theorem T.field107_2 : HL.fieldT Try.prog 107 2 = some (2, 3) := by kernel_rfl
@[go_sem] theorem T.fieldO107_2 : HL.fieldO Try.prog 107 2 = some 2 := by kernel_rfl
@[go_sem] theorem T.agg108 : HL.aggN Try.prog 108 = some none := by kernel_rfl
@[go_sem] theorem T.size108 : HL.sizeT Try.prog 108 = some 1 := by kernel_rfl
@[go_sem] theorem T.bytes108 : HL.bytesT Try.prog 108 = some 8 := by kernel_rfl
@[go_sem] theorem T.zero108 : HL.zeroT Try.prog 108 = some (.nilFunc) := by kernel_rfl
@[go_sem] theorem T.agg109 : HL.aggN Try.prog 109 = some none := by kernel_rfl
@[go_sem] theorem T.size109 : HL.sizeT Try.prog 109 = some 1 := by kernel_rfl
@[go_sem] theorem T.bytes109 : HL.bytesT Try.prog 109 = some 8 := by kernel_rfl
@[go_sem] theorem T.zero109 : HL.zeroT Try.prog 109 = some (.nilFunc) := by kernel_rfl
@[go_sem] theorem T.agg110 : HL.aggN Try.prog 110 = some none := by kernel_rfl
@[go_sem] theorem T.size110 : HL.sizeT Try.prog 110 = some 1 := by kernel_rfl
@[go_sem] theorem T.bytes110 : HL.bytesT Try.prog 110 = some 24 := by kernel_rfl
@[go_sem] theorem T.zero110 : HL.zeroT Try.prog 110 = some (.slice none 0 0) := by kernel_rfl
@[go_sem] theorem T.elem110 : HL.elemT Try.prog 110 = some 33 := by kernel_rfl
@[go_sem] theorem T.elemS110 : HL.elemS Try.prog 110 = some 1 := by kernel_rfl
@[go_sem] theorem T.agg112 : HL.aggN Try.prog 112 = some none := by kernel_rfl
@[go_sem] theorem T.size112 : HL.sizeT Try.prog 112 = some 1 := by kernel_rfl
@[go_sem] theorem T.bytes112 : HL.bytesT Try.prog 112 = some 8 := by kernel_rfl
@[go_sem] theorem T.zero112 : HL.zeroT Try.prog 112 = some (.nilFunc) := by kernel_rfl
@[go_sem] theorem T.agg113 : HL.aggN Try.prog 113 = some none := by kernel_rfl
@[go_sem] theorem T.size113 : HL.sizeT Try.prog 113 = some 1 := by kernel_rfl
@[go_sem] theorem T.bytes113 : HL.bytesT Try.prog 113 = some 8 := by kernel_rfl
@[go_sem] theorem T.zero113 : HL.zeroT Try.prog 113 = some (.pointer none) := by kernel_rfl
@[go_sem] theorem T.agg114 : HL.aggN Try.prog 114 = some (some 3) := by kernel_rfl
@[go_sem] theorem T.size114 : HL.sizeT Try.prog 114 = some 3 := by kernel_rfl
@[go_sem] theorem T.bytes114 : HL.bytesT Try.prog 114 = some 32 := by kernel_rfl
@[go_sem] theorem T.zero114 : HL.zeroT Try.prog 114 = some (.agg #[.int .i64 0, .int .i64 0, .nilIface]) := by kernel_rfl
@[go_sem] theorem T.places114 : HL.placesT Try.prog 114 = some [(0, 1), (1, 1), (2, 1)] := by kernel_rfl
@[go_sem] theorem T.field114_0 : HL.fieldT Try.prog 114 0 = some (0, 3) := by kernel_rfl
@[go_sem] theorem T.fieldO114_0 : HL.fieldO Try.prog 114 0 = some 0 := by kernel_rfl
@[go_sem] theorem T.field114_1 : HL.fieldT Try.prog 114 1 = some (1, 3) := by kernel_rfl
@[go_sem] theorem T.fieldO114_1 : HL.fieldO Try.prog 114 1 = some 1 := by kernel_rfl
@[go_sem] theorem T.field114_2 : HL.fieldT Try.prog 114 2 = some (2, 87) := by kernel_rfl
@[go_sem] theorem T.fieldO114_2 : HL.fieldO Try.prog 114 2 = some 2 := by kernel_rfl
@[go_sem] theorem T.agg115 : HL.aggN Try.prog 115 = some (some 3) := by kernel_rfl
@[go_sem] theorem T.size115 : HL.sizeT Try.prog 115 = some 3 := by kernel_rfl
@[go_sem] theorem T.bytes115 : HL.bytesT Try.prog 115 = some 32 := by kernel_rfl
@[go_sem] theorem T.zero115 : HL.zeroT Try.prog 115 = some (.agg #[.int .i64 0, .int .i64 0, .nilIface]) := by kernel_rfl
@[go_sem] theorem T.places115 : HL.placesT Try.prog 115 = some [(0, 1), (1, 1), (2, 1)] := by kernel_rfl
@[go_sem] theorem T.field115_0 : HL.fieldT Try.prog 115 0 = some (0, 3) := by kernel_rfl
@[go_sem] theorem T.fieldO115_0 : HL.fieldO Try.prog 115 0 = some 0 := by kernel_rfl
@[go_sem] theorem T.field115_1 : HL.fieldT Try.prog 115 1 = some (1, 3) := by kernel_rfl
@[go_sem] theorem T.fieldO115_1 : HL.fieldO Try.prog 115 1 = some 1 := by kernel_rfl
@[go_sem] theorem T.field115_2 : HL.fieldT Try.prog 115 2 = some (2, 87) := by kernel_rfl
@[go_sem] theorem T.fieldO115_2 : HL.fieldO Try.prog 115 2 = some 2 := by kernel_rfl
@[go_sem] theorem T.agg116 : HL.aggN Try.prog 116 = some none := by kernel_rfl
@[go_sem] theorem T.size116 : HL.sizeT Try.prog 116 = some 1 := by kernel_rfl
@[go_sem] theorem T.bytes116 : HL.bytesT Try.prog 116 = some 8 := by kernel_rfl
@[go_sem] theorem T.zero116 : HL.zeroT Try.prog 116 = some (.pointer none) := by kernel_rfl
@[go_sem] theorem T.agg117 : HL.aggN Try.prog 117 = some none := by kernel_rfl
@[go_sem] theorem T.size117 : HL.sizeT Try.prog 117 = some 1 := by kernel_rfl
@[go_sem] theorem T.bytes117 : HL.bytesT Try.prog 117 = some 8 := by kernel_rfl
@[go_sem] theorem T.zero117 : HL.zeroT Try.prog 117 = some (.nilFunc) := by kernel_rfl
@[go_sem] theorem T.agg118 : HL.aggN Try.prog 118 = some none := by kernel_rfl
@[go_sem] theorem T.size118 : HL.sizeT Try.prog 118 = some 1 := by kernel_rfl
@[go_sem] theorem T.bytes118 : HL.bytesT Try.prog 118 = some 8 := by kernel_rfl
@[go_sem] theorem T.zero118 : HL.zeroT Try.prog 118 = some (.pointer none) := by kernel_rfl
@[go_sem] theorem T.agg119 : HL.aggN Try.prog 119 = some (some 5) := by kernel_rfl
@[go_sem] theorem T.size119 : HL.sizeT Try.prog 119 = some 5 := by kernel_rfl
@[go_sem] theorem T.bytes119 : HL.bytesT Try.prog 119 = some 40 := by kernel_rfl
@[go_sem] theorem T.zero119 : HL.zeroT Try.prog 119 = some (.agg #[.string ⟨#[]⟩, .int .i64 0, .int .i64 0, .bool false, .bool false]) := by kernel_rfl
@[go_sem] theorem T.places119 : HL.placesT Try.prog 119 = some [(0, 1), (1, 1), (2, 1), (3, 1), (4, 1)] := by kernel_rfl
@[go_sem] theorem T.field119_0 : HL.fieldT Try.prog 119 0 = some (0, 9) := by kernel_rfl
@[go_sem] theorem T.fieldO119_0 : HL.fieldO Try.prog 119 0 = some 0 := by kernel_rfl
@[go_sem] theorem T.field119_1 : HL.fieldT Try.prog 119 1 = some (1, 3) := by kernel_rfl
@[go_sem] theorem T.fieldO119_1 : HL.fieldO Try.prog 119 1 = some 1 := by kernel_rfl
@[go_sem] theorem T.field119_2 : HL.fieldT Try.prog 119 2 = some (2, 3) := by kernel_rfl
@[go_sem] theorem T.fieldO119_2 : HL.fieldO Try.prog 119 2 = some 2 := by kernel_rfl
@[go_sem] theorem T.field119_3 : HL.fieldT Try.prog 119 3 = some (3, 4) := by kernel_rfl
@[go_sem] theorem T.fieldO119_3 : HL.fieldO Try.prog 119 3 = some 3 := by kernel_rfl
@[go_sem] theorem T.field119_4 : HL.fieldT Try.prog 119 4 = some (4, 4) := by kernel_rfl
@[go_sem] theorem T.fieldO119_4 : HL.fieldO Try.prog 119 4 = some 4 := by kernel_rfl
@[go_sem] theorem T.agg120 : HL.aggN Try.prog 120 = some (some 5) := by kernel_rfl
@[go_sem] theorem T.size120 : HL.sizeT Try.prog 120 = some 5 := by kernel_rfl
@[go_sem] theorem T.bytes120 : HL.bytesT Try.prog 120 = some 40 := by kernel_rfl
@[go_sem] theorem T.zero120 : HL.zeroT Try.prog 120 = some (.agg #[.string ⟨#[]⟩, .int .i64 0, .int .i64 0, .bool false, .bool false]) := by kernel_rfl
@[go_sem] theorem T.places120 : HL.placesT Try.prog 120 = some [(0, 1), (1, 1), (2, 1), (3, 1), (4, 1)] := by kernel_rfl
@[go_sem] theorem T.field120_0 : HL.fieldT Try.prog 120 0 = some (0, 9) := by kernel_rfl
@[go_sem] theorem T.fieldO120_0 : HL.fieldO Try.prog 120 0 = some 0 := by kernel_rfl
@[go_sem] theorem T.field120_1 : HL.fieldT Try.prog 120 1 = some (1, 3) := by kernel_rfl
@[go_sem] theorem T.fieldO120_1 : HL.fieldO Try.prog 120 1 = some 1 := by kernel_rfl
@[go_sem] theorem T.field120_2 : HL.fieldT Try.prog 120 2 = some (2, 3) := by kernel_rfl
@[go_sem] theorem T.fieldO120_2 : HL.fieldO Try.prog 120 2 = some 2 := by kernel_rfl
@[go_sem] theorem T.field120_3 : HL.fieldT Try.prog 120 3 = some (3, 4) := by kernel_rfl
@[go_sem] theorem T.fieldO120_3 : HL.fieldO Try.prog 120 3 = some 3 := by kernel_rfl
@[go_sem] theorem T.field120_4 : HL.fieldT Try.prog 120 4 = some (4, 4) := by kernel_rfl
@[go_sem] theorem T.fieldO120_4 : HL.fieldO Try.prog 120 4 = some 4 := by kernel_rfl
@[go_sem] theorem T.agg121 : HL.aggN Try.prog 121 = some none := by kernel_rfl
@[go_sem] theorem T.size121 : HL.sizeT Try.prog 121 = some 1 := by kernel_rfl
@[go_sem] theorem T.bytes121 : HL.bytesT Try.prog 121 = some 8 := by kernel_rfl
@[go_sem] theorem T.zero121 : HL.zeroT Try.prog 121 = some (.nilFunc) := by kernel_rfl
@[go_sem] theorem T.agg122 : HL.aggN Try.prog 122 = some (some 10) := by kernel_rfl
@[go_sem] theorem T.size122 : HL.sizeT Try.prog 122 = some 10 := by kernel_rfl
@[go_sem] theorem T.bytes122 : HL.bytesT Try.prog 122 = some 200 := by kernel_rfl
@[go_sem] theorem T.zero122 : HL.zeroT Try.prog 122 = some (.agg #[.string ⟨#[]⟩, .int .i64 0, .slice none 0 0, .int .i64 0, .slice none 0 0, .slice none 0 0, .slice none 0 0, .slice none 0 0, .slice none 0 0, .slice none 0 0]) := by kernel_rfl
@[go_sem] theorem T.places122 : HL.placesT Try.prog 122 = some [(0, 8), (8, 1), (9, 1)] := by kernel_rfl
@[go_sem] theorem T.field122_0 : HL.fieldT Try.prog 122 0 = some (0, 56) := by kernel_rfl
@[go_sem] theorem T.fieldO122_0 : HL.fieldO Try.prog 122 0 = some 0 := by kernel_rfl
@[go_sem] theorem T.field122_1 : HL.fieldT Try.prog 122 1 = some (8, 22) := by kernel_rfl
@[go_sem] theorem T.fieldO122_1 : HL.fieldO Try.prog 122 1 = some 8 := by kernel_rfl
@[go_sem] theorem T.field122_2 : HL.fieldT Try.prog 122 2 = some (9, 45) := by kernel_rfl
@[go_sem] theorem T.fieldO122_2 : HL.fieldO Try.prog 122 2 = some 9 := by kernel_rfl
@[go_sem] theorem T.agg123 : HL.aggN Try.prog 123 = some (some 10) := by kernel_rfl
@[go_sem] theorem T.size123 : HL.sizeT Try.prog 123 = some 10 := by kernel_rfl
@[go_sem] theorem T.bytes123 : HL.bytesT Try.prog 123 = some 200 := by kernel_rfl
@[go_sem] theorem T.zero123 : HL.zeroT Try.prog 123 = some (.agg #[.string ⟨#[]⟩, .int .i64 0, .slice none 0 0, .int .i64 0, .slice none 0 0, .slice none 0 0, .slice none 0 0, .slice none 0 0, .slice none 0 0, .slice none 0 0]) := by kernel_rfl
@[go_sem] theorem T.places123 : HL.placesT Try.prog 123 = some [(0, 8), (8, 1), (9, 1)] := by kernel_rfl
@[go_sem] theorem T.field123_0 : HL.fieldT Try.prog 123 0 = some (0, 56) := by kernel_rfl
@[go_sem] theorem T.fieldO123_0 : HL.fieldO Try.prog 123 0 = some 0 := by kernel_rfl
@[go_sem] theorem T.field123_1 : HL.fieldT Try.prog 123 1 = some (8, 22) := by kernel_rfl
@[go_sem] theorem T.fieldO123_1 : HL.fieldO Try.prog 123 1 = some 8 := by kernel_rfl
@[go_sem] theorem T.field123_2 : HL.fieldT Try.prog 123 2 = some (9, 45) := by kernel_rfl
@[go_sem] theorem T.fieldO123_2 : HL.fieldO Try.prog 123 2 = some 9 := by kernel_rfl
@[go_sem] theorem T.agg124 : HL.aggN Try.prog 124 = some (some 3) := by kernel_rfl
@[go_sem] theorem T.size124 : HL.sizeT Try.prog 124 = some 3 := by kernel_rfl
@[go_sem] theorem T.bytes124 : HL.bytesT Try.prog 124 = some 32 := by kernel_rfl
@[go_sem] theorem T.zero124 : HL.zeroT Try.prog 124 = some (.agg #[.string ⟨#[]⟩, .int .i64 0, .int .i64 0]) := by kernel_rfl
@[go_sem] theorem T.places124 : HL.placesT Try.prog 124 = some [(0, 1), (1, 1), (2, 1)] := by kernel_rfl
@[go_sem] theorem T.field124_0 : HL.fieldT Try.prog 124 0 = some (0, 9) := by kernel_rfl
@[go_sem] theorem T.fieldO124_0 : HL.fieldO Try.prog 124 0 = some 0 := by kernel_rfl
@[go_sem] theorem T.field124_1 : HL.fieldT Try.prog 124 1 = some (1, 3) := by kernel_rfl
@[go_sem] theorem T.fieldO124_1 : HL.fieldO Try.prog 124 1 = some 1 := by kernel_rfl
@[go_sem] theorem T.field124_2 : HL.fieldT Try.prog 124 2 = some (2, 3) := by kernel_rfl
@[go_sem] theorem T.fieldO124_2 : HL.fieldO Try.prog 124 2 = some 2 := by kernel_rfl
@[go_sem] theorem T.agg125 : HL.aggN Try.prog 125 = some (some 3) := by kernel_rfl
@[go_sem] theorem T.size125 : HL.sizeT Try.prog 125 = some 3 := by kernel_rfl
@[go_sem] theorem T.bytes125 : HL.bytesT Try.prog 125 = some 32 := by kernel_rfl
@[go_sem] theorem T.zero125 : HL.zeroT Try.prog 125 = some (.agg #[.string ⟨#[]⟩, .int .i64 0, .int .i64 0]) := by kernel_rfl
@[go_sem] theorem T.places125 : HL.placesT Try.prog 125 = some [(0, 1), (1, 1), (2, 1)] := by kernel_rfl
@[go_sem] theorem T.field125_0 : HL.fieldT Try.prog 125 0 = some (0, 9) := by kernel_rfl
@[go_sem] theorem T.fieldO125_0 : HL.fieldO Try.prog 125 0 = some 0 := by kernel_rfl
@[go_sem] theorem T.field125_1 : HL.fieldT Try.prog 125 1 = some (1, 3) := by kernel_rfl
@[go_sem] theorem T.fieldO125_1 : HL.fieldO Try.prog 125 1 = some 1 := by kernel_rfl
@[go_sem] theorem T.field125_2 : HL.fieldT Try.prog 125 2 = some (2, 3) := by kernel_rfl
@[go_sem] theorem T.fieldO125_2 : HL.fieldO Try.prog 125 2 = some 2 := by kernel_rfl
@[go_sem] theorem T.agg126 : HL.aggN Try.prog 126 = some none := by kernel_rfl
@[go_sem] theorem T.size126 : HL.sizeT Try.prog 126 = some 1 := by kernel_rfl
@[go_sem] theorem T.bytes126 : HL.bytesT Try.prog 126 = some 8 := by kernel_rfl
@[go_sem] theorem T.zero126 : HL.zeroT Try.prog 126 = some (.nilFunc) := by kernel_rfl
@[go_sem] theorem T.agg127 : HL.aggN Try.prog 127 = some none := by kernel_rfl
@[go_sem] theorem T.size127 : HL.sizeT Try.prog 127 = some 1 := by kernel_rfl
@[go_sem] theorem T.bytes127 : HL.bytesT Try.prog 127 = some 8 := by kernel_rfl
@[go_sem] theorem T.zero127 : HL.zeroT Try.prog 127 = some (.nilFunc) := by kernel_rfl
@[go_sem] theorem T.agg128 : HL.aggN Try.prog 128 = some none := by kernel_rfl
@[go_sem] theorem T.size128 : HL.sizeT Try.prog 128 = some 1 := by kernel_rfl
@[go_sem] theorem T.bytes128 : HL.bytesT Try.prog 128 = some 8 := by kernel_rfl
@[go_sem] theorem T.zero128 : HL.zeroT Try.prog 128 = some (.nilFunc) := by kernel_rfl
@[go_sem] theorem T.agg129 : HL.aggN Try.prog 129 = some none := by kernel_rfl
@[go_sem] theorem T.size129 : HL.sizeT Try.prog 129 = some 1 := by kernel_rfl
@[go_sem] theorem T.bytes129 : HL.bytesT Try.prog 129 = some 8 := by kernel_rfl
@[go_sem] theorem T.zero129 : HL.zeroT Try.prog 129 = some (.nilFunc) := by kernel_rfl
@[go_sem] theorem T.agg130 : HL.aggN Try.prog 130 = some none := by kernel_rfl
@[go_sem] theorem T.size130 : HL.sizeT Try.prog 130 = some 1 := by kernel_rfl
@[go_sem] theorem T.bytes130 : HL.bytesT Try.prog 130 = some 8 := by kernel_rfl
@[go_sem] theorem T.zero130 : HL.zeroT Try.prog 130 = some (.nilFunc) := by kernel_rfl
@[go_sem] theorem T.agg131 : HL.aggN Try.prog 131 = some none := by kernel_rfl
@[go_sem] theorem T.size131 : HL.sizeT Try.prog 131 = some 1 := by kernel_rfl
@[go_sem] theorem T.bytes131 : HL.bytesT Try.prog 131 = some 8 := by kernel_rfl
@[go_sem] theorem T.zero131 : HL.zeroT Try.prog 131 = some (.nilFunc) := by kernel_rfl
@[go_sem] theorem T.agg132 : HL.aggN Try.prog 132 = some none := by kernel_rfl
@[go_sem] theorem T.size132 : HL.sizeT Try.prog 132 = some 1 := by kernel_rfl
@[go_sem] theorem T.bytes132 : HL.bytesT Try.prog 132 = some 8 := by kernel_rfl
@[go_sem] theorem T.zero132 : HL.zeroT Try.prog 132 = some (.nilFunc) := by kernel_rfl
@[go_sem] theorem T.agg133 : HL.aggN Try.prog 133 = some none := by kernel_rfl
@[go_sem] theorem T.size133 : HL.sizeT Try.prog 133 = some 1 := by kernel_rfl
@[go_sem] theorem T.bytes133 : HL.bytesT Try.prog 133 = some 8 := by kernel_rfl
@[go_sem] theorem T.zero133 : HL.zeroT Try.prog 133 = some (.nilFunc) := by kernel_rfl
@[go_sem] theorem T.agg134 : HL.aggN Try.prog 134 = some none := by kernel_rfl
@[go_sem] theorem T.size134 : HL.sizeT Try.prog 134 = some 1 := by kernel_rfl
@[go_sem] theorem T.bytes134 : HL.bytesT Try.prog 134 = some 8 := by kernel_rfl
@[go_sem] theorem T.zero134 : HL.zeroT Try.prog 134 = some (.nilFunc) := by kernel_rfl
@[go_sem] theorem T.agg135 : HL.aggN Try.prog 135 = some none := by kernel_rfl
@[go_sem] theorem T.size135 : HL.sizeT Try.prog 135 = some 1 := by kernel_rfl
@[go_sem] theorem T.bytes135 : HL.bytesT Try.prog 135 = some 8 := by kernel_rfl
@[go_sem] theorem T.zero135 : HL.zeroT Try.prog 135 = some (.nilFunc) := by kernel_rfl
@[go_sem] theorem T.agg136 : HL.aggN Try.prog 136 = some none := by kernel_rfl
@[go_sem] theorem T.size136 : HL.sizeT Try.prog 136 = some 1 := by kernel_rfl
@[go_sem] theorem T.bytes136 : HL.bytesT Try.prog 136 = some 8 := by kernel_rfl
@[go_sem] theorem T.zero136 : HL.zeroT Try.prog 136 = some (.pointer none) := by kernel_rfl
@[go_sem] theorem T.agg137 : HL.aggN Try.prog 137 = some none := by kernel_rfl
@[go_sem] theorem T.size137 : HL.sizeT Try.prog 137 = some 1 := by kernel_rfl
@[go_sem] theorem T.bytes137 : HL.bytesT Try.prog 137 = some 8 := by kernel_rfl
@[go_sem] theorem T.zero137 : HL.zeroT Try.prog 137 = some (.pointer none) := by kernel_rfl
@[go_sem] theorem T.agg138 : HL.aggN Try.prog 138 = some none := by kernel_rfl
@[go_sem] theorem T.size138 : HL.sizeT Try.prog 138 = some 1 := by kernel_rfl
@[go_sem] theorem T.bytes138 : HL.bytesT Try.prog 138 = some 8 := by kernel_rfl
@[go_sem] theorem T.zero138 : HL.zeroT Try.prog 138 = some (.nilFunc) := by kernel_rfl
@[go_sem] theorem T.agg139 : HL.aggN Try.prog 139 = some (some 2) := by kernel_rfl
@[go_sem] theorem T.size139 : HL.sizeT Try.prog 139 = some 2 := by kernel_rfl
@[go_sem] theorem T.bytes139 : HL.bytesT Try.prog 139 = some 16 := by kernel_rfl
@[go_sem] theorem T.zero139 : HL.zeroT Try.prog 139 = some (.agg #[.int .i64 0, .int .i64 0]) := by kernel_rfl
@[go_sem] theorem T.places139 : HL.placesT Try.prog 139 = none := by kernel_rfl
@[go_sem] theorem T.arr139 : HL.arrT Try.prog 139 = some (2, 3) := by kernel_rfl
@[go_sem] theorem T.arrS139 : HL.arrS Try.prog 139 = some (2, 1) := by kernel_rfl
@[go_sem] theorem T.agg140 : HL.aggN Try.prog 140 = some none := by kernel_rfl
@[go_sem] theorem T.size140 : HL.sizeT Try.prog 140 = some 1 := by kernel_rfl
@[go_sem] theorem T.bytes140 : HL.bytesT Try.prog 140 = some 8 := by kernel_rfl
@[go_sem] theorem T.zero140 : HL.zeroT Try.prog 140 = some (.nilFunc) := by kernel_rfl
@[go_sem] theorem T.agg141 : HL.aggN Try.prog 141 = some none := by kernel_rfl
@[go_sem] theorem T.size141 : HL.sizeT Try.prog 141 = some 1 := by kernel_rfl
@[go_sem] theorem T.bytes141 : HL.bytesT Try.prog 141 = some 8 := by kernel_rfl
@[go_sem] theorem T.zero141 : HL.zeroT Try.prog 141 = some (.nilFunc) := by kernel_rfl
@[go_sem] theorem T.agg142 : HL.aggN Try.prog 142 = some none := by kernel_rfl
@[go_sem] theorem T.size142 : HL.sizeT Try.prog 142 = some 1 := by kernel_rfl
@[go_sem] theorem T.bytes142 : HL.bytesT Try.prog 142 = some 8 := by kernel_rfl
@[go_sem] theorem T.zero142 : HL.zeroT Try.prog 142 = some (.nilFunc) := by kernel_rfl
@[go_sem] theorem T.agg143 : HL.aggN Try.prog 143 = some none := by kernel_rfl
@[go_sem] theorem T.size143 : HL.sizeT Try.prog 143 = some 1 := by kernel_rfl
@[go_sem] theorem T.bytes143 : HL.bytesT Try.prog 143 = some 8 := by kernel_rfl
@[go_sem] theorem T.zero143 : HL.zeroT Try.prog 143 = some (.nilFunc) := by kernel_rfl
@[go_sem] theorem T.agg144 : HL.aggN Try.prog 144 = some none := by kernel_rfl
@[go_sem] theorem T.size144 : HL.sizeT Try.prog 144 = some 1 := by kernel_rfl
@[go_sem] theorem T.bytes144 : HL.bytesT Try.prog 144 = some 8 := by kernel_rfl
@[go_sem] theorem T.zero144 : HL.zeroT Try.prog 144 = some (.pointer none) := by kernel_rfl
@[go_sem] theorem T.agg145 : HL.aggN Try.prog 145 = some none := by kernel_rfl
@[go_sem] theorem T.size145 : HL.sizeT Try.prog 145 = some 1 := by kernel_rfl
@[go_sem] theorem T.bytes145 : HL.bytesT Try.prog 145 = some 8 := by kernel_rfl
@[go_sem] theorem T.zero145 : HL.zeroT Try.prog 145 = some (.nilFunc) := by kernel_rfl
@[go_sem] theorem T.agg146 : HL.aggN Try.prog 146 = some none := by kernel_rfl
@[go_sem] theorem T.size146 : HL.sizeT Try.prog 146 = some 1 := by kernel_rfl
@[go_sem] theorem T.bytes146 : HL.bytesT Try.prog 146 = some 8 := by kernel_rfl
@[go_sem] theorem T.zero146 : HL.zeroT Try.prog 146 = some (.nilFunc) := by kernel_rfl
@[go_sem] theorem T.agg147 : HL.aggN Try.prog 147 = some none := by kernel_rfl
@[go_sem] theorem T.size147 : HL.sizeT Try.prog 147 = some 1 := by kernel_rfl
@[go_sem] theorem T.bytes147 : HL.bytesT Try.prog 147 = some 8 := by kernel_rfl
@[go_sem] theorem T.zero147 : HL.zeroT Try.prog 147 = some (.nilFunc) := by kernel_rfl
@[go_sem] theorem T.agg148 : HL.aggN Try.prog 148 = some none := by kernel_rfl
@[go_sem] theorem T.size148 : HL.sizeT Try.prog 148 = some 1 := by kernel_rfl
@[go_sem] theorem T.bytes148 : HL.bytesT Try.prog 148 = some 8 := by kernel_rfl
@[go_sem] theorem T.zero148 : HL.zeroT Try.prog 148 = some (.nilFunc) := by kernel_rfl
@[go_sem] theorem T.agg149 : HL.aggN Try.prog 149 = some none := by kernel_rfl
@[go_sem] theorem T.size149 : HL.sizeT Try.prog 149 = some 1 := by kernel_rfl
@[go_sem] theorem T.bytes149 : HL.bytesT Try.prog 149 = some 8 := by kernel_rfl
@[go_sem] theorem T.zero149 : HL.zeroT Try.prog 149 = some (.nilFunc) := by kernel_rfl
@[go_sem] theorem T.agg150 : HL.aggN Try.prog 150 = some none := by kernel_rfl
@[go_sem] theorem T.size150 : HL.sizeT Try.prog 150 = some 1 := by kernel_rfl
@[go_sem] theorem T.bytes150 : HL.bytesT Try.prog 150 = some 8 := by kernel_rfl
@[go_sem] theorem T.zero150 : HL.zeroT Try.prog 150 = some (.nilFunc) := by kernel_rfl
@[go_sem] theorem T.agg151 : HL.aggN Try.prog 151 = some none := by kernel_rfl
@[go_sem] theorem T.size151 : HL.sizeT Try.prog 151 = some 1 := by kernel_rfl
@[go_sem] theorem T.bytes151 : HL.bytesT Try.prog 151 = some 8 := by kernel_rfl
@[go_sem] theorem T.zero151 : HL.zeroT Try.prog 151 = some (.nilFunc) := by kernel_rfl
@[go_sem] theorem T.agg152 : HL.aggN Try.prog 152 = some none := by kernel_rfl
@[go_sem] theorem T.size152 : HL.sizeT Try.prog 152 = some 1 := by kernel_rfl
@[go_sem] theorem T.bytes152 : HL.bytesT Try.prog 152 = some 8 := by kernel_rfl
@[go_sem] theorem T.zero152 : HL.zeroT Try.prog 152 = some (.nilFunc) := by kernel_rfl
@[go_sem] theorem T.agg153 : HL.aggN Try.prog 153 = some none := by kernel_rfl
@[go_sem] theorem T.size153 : HL.sizeT Try.prog 153 = some 1 := by kernel_rfl
@[go_sem] theorem T.bytes153 : HL.bytesT Try.prog 153 = some 24 := by kernel_rfl
@[go_sem] theorem T.zero153 : HL.zeroT Try.prog 153 = some (.slice none 0 0) := by kernel_rfl
@[go_sem] theorem T.elem153 : HL.elemT Try.prog 153 = some 139 := by kernel_rfl
@[go_sem] theorem T.elemS153 : HL.elemS Try.prog 153 = some 2 := by kernel_rfl
@[go_sem] theorem T.agg154 : HL.aggN Try.prog 154 = some none := by kernel_rfl
@[go_sem] theorem T.size154 : HL.sizeT Try.prog 154 = some 1 := by kernel_rfl
@[go_sem] theorem T.bytes154 : HL.bytesT Try.prog 154 = some 8 := by kernel_rfl
@[go_sem] theorem T.zero154 : HL.zeroT Try.prog 154 = some (.nilFunc) := by kernel_rfl
@[go_sem] theorem T.agg155 : HL.aggN Try.prog 155 = some none := by kernel_rfl
@[go_sem] theorem T.size155 : HL.sizeT Try.prog 155 = some 1 := by kernel_rfl
@[go_sem] theorem T.bytes155 : HL.bytesT Try.prog 155 = some 8 := by kernel_rfl
@[go_sem] theorem T.zero155 : HL.zeroT Try.prog 155 = some (.nilFunc) := by kernel_rfl
@[go_sem] theorem T.agg156 : HL.aggN Try.prog 156 = some none := by kernel_rfl
@[go_sem] theorem T.size156 : HL.sizeT Try.prog 156 = some 1 := by kernel_rfl
@[go_sem] theorem T.bytes156 : HL.bytesT Try.prog 156 = some 8 := by kernel_rfl
@[go_sem] theorem T.zero156 : HL.zeroT Try.prog 156 = some (.int .u64 0) := by kernel_rfl
@[go_sem] theorem T.agg157 : HL.aggN Try.prog 157 = some none := by kernel_rfl
@[go_sem] theorem T.size157 : HL.sizeT Try.prog 157 = some 1 := by kernel_rfl
@[go_sem] theorem T.bytes157 : HL.bytesT Try.prog 157 = some 4 := by kernel_rfl
@[go_sem] theorem T.zero157 : HL.zeroT Try.prog 157 = some (.int .u32 0) := by kernel_rfl
@[go_sem] theorem T.agg159 : HL.aggN Try.prog 159 = some none := by kernel_rfl
@[go_sem] theorem T.size159 : HL.sizeT Try.prog 159 = some 1 := by kernel_rfl
@[go_sem] theorem T.bytes159 : HL.bytesT Try.prog 159 = some 8 := by kernel_rfl
@[go_sem] theorem T.zero159 : HL.zeroT Try.prog 159 = some (.nilFunc) := by kernel_rfl
@[go_sem] theorem T.agg160 : HL.aggN Try.prog 160 = some (some 4) := by kernel_rfl
@[go_sem] theorem T.size160 : HL.sizeT Try.prog 160 = some 4 := by kernel_rfl
@[go_sem] theorem T.bytes160 : HL.bytesT Try.prog 160 = some 40 := by kernel_rfl
@[go_sem] theorem T.zero160 : HL.zeroT Try.prog 160 = some (.agg #[.pointer none, .pointer none, .pointer none, .string ⟨#[]⟩]) := by kernel_rfl
@[go_sem] theorem T.places160 : HL.placesT Try.prog 160 = some [(0, 1), (1, 1), (2, 1), (3, 1)] := by kernel_rfl
@[go_sem] theorem T.field160_0 : HL.fieldT Try.prog 160 0 = some (0, 17) := by kernel_rfl
@[go_sem] theorem T.fieldO160_0 : HL.fieldO Try.prog 160 0 = some 0 := by kernel_rfl
@[go_sem] theorem T.field160_1 : HL.fieldT Try.prog 160 1 = some (1, 17) := by kernel_rfl
@[go_sem] theorem T.fieldO160_1 : HL.fieldO Try.prog 160 1 = some 1 := by kernel_rfl
@[go_sem] theorem T.field160_2 : HL.fieldT Try.prog 160 2 = some (2, 17) := by kernel_rfl
@[go_sem] theorem T.fieldO160_2 : HL.fieldO Try.prog 160 2 = some 2 := by kernel_rfl
@[go_sem] theorem T.field160_3 : HL.fieldT Try.prog 160 3 = some (3, 9) := by kernel_rfl
@[go_sem] theorem T.fieldO160_3 : HL.fieldO Try.prog 160 3 = some 3 := by kernel_rfl
@[go_sem] theorem T.agg161 : HL.aggN Try.prog 161 = some (some 4) := by kernel_rfl
@[go_sem] theorem T.size161 : HL.sizeT Try.prog 161 = some 4 := by kernel_rfl
@[go_sem] theorem T.bytes161 : HL.bytesT Try.prog 161 = some 40 := by kernel_rfl
@[go_sem] theorem T.zero161 : HL.zeroT Try.prog 161 = some (.agg #[.pointer none, .pointer none, .pointer none, .string ⟨#[]⟩]) := by kernel_rfl
@[go_sem] theorem T.places161 : HL.placesT Try.prog 161 = some [(0, 1), (1, 1), (2, 1), (3, 1)] := by kernel_rfl
@[go_sem] theorem T.field161_0 : HL.fieldT Try.prog 161 0 = some (0, 17) := by kernel_rfl
@[go_sem] theorem T.fieldO161_0 : HL.fieldO Try.prog 161 0 = some 0 := by kernel_rfl
@[go_sem] theorem T.field161_1 : HL.fieldT Try.prog 161 1 = some (1, 17) := by kernel_rfl
@[go_sem] theorem T.fieldO161_1 : HL.fieldO Try.prog 161 1 = some 1 := by kernel_rfl
@[go_sem] theorem T.field161_2 : HL.fieldT Try.prog 161 2 = some (2, 17) := by kernel_rfl
@[go_sem] theorem T.fieldO161_2 : HL.fieldO Try.prog 161 2 = some 2 := by kernel_rfl
@[go_sem] theorem T.field161_3 : HL.fieldT Try.prog 161 3 = some (3, 9) := by kernel_rfl
@[go_sem] theorem T.fieldO161_3 : HL.fieldO Try.prog 161 3 = some 3 := by kernel_rfl
@[go_sem] theorem T.agg162 : HL.aggN Try.prog 162 = some (some 0) := by kernel_rfl
@[go_sem] theorem T.size162 : HL.sizeT Try.prog 162 = some 0 := by kernel_rfl
@[go_sem] theorem T.bytes162 : HL.bytesT Try.prog 162 = some 0 := by kernel_rfl
@[go_sem] theorem T.zero162 : HL.zeroT Try.prog 162 = some (.agg #[]) := by kernel_rfl
@[go_sem] theorem T.places162 : HL.placesT Try.prog 162 = none := by kernel_rfl
@[go_sem] theorem T.arr162 : HL.arrT Try.prog 162 = some (0, 16) := by kernel_rfl
@[go_sem] theorem T.arrS162 : HL.arrS Try.prog 162 = some (0, 1) := by kernel_rfl
@[go_sem] theorem T.agg163 : HL.aggN Try.prog 163 = some (some 0) := by kernel_rfl
@[go_sem] theorem T.size163 : HL.sizeT Try.prog 163 = some 0 := by kernel_rfl
@[go_sem] theorem T.bytes163 : HL.bytesT Try.prog 163 = some 0 := by kernel_rfl
@[go_sem] theorem T.zero163 : HL.zeroT Try.prog 163 = some (.agg #[]) := by kernel_rfl
@[go_sem] theorem T.places163 : HL.placesT Try.prog 163 = some [(0, 0)] := by kernel_rfl
@[go_sem] theorem T.field163_0 : HL.fieldT Try.prog 163 0 = some (0, 162) := by kernel_rfl
@[go_sem] theorem T.agg164 : HL.aggN Try.prog 164 = some (some 0) := by kernel_rfl
@[go_sem] theorem T.size164 : HL.sizeT Try.prog 164 = some 0 := by kernel_rfl
@[go_sem] theorem T.bytes164 : HL.bytesT Try.prog 164 = some 0 := by kernel_rfl
@[go_sem] theorem T.zero164 : HL.zeroT Try.prog 164 = some (.agg #[]) := by kernel_rfl
@[go_sem] theorem T.places164 : HL.placesT Try.prog 164 = some [(0, 0)] := by kernel_rfl
@[go_sem] theorem T.field164_0 : HL.fieldT Try.prog 164 0 = some (0, 162) := by kernel_rfl
@[go_sem] theorem T.agg165 : HL.aggN Try.prog 165 = some none := by kernel_rfl
@[go_sem] theorem T.size165 : HL.sizeT Try.prog 165 = some 1 := by kernel_rfl
@[go_sem] theorem T.bytes165 : HL.bytesT Try.prog 165 = some 1 := by kernel_rfl
@[go_sem] theorem T.zero165 : HL.zeroT Try.prog 165 = some (.int .u8 0) := by kernel_rfl
@[go_sem] theorem T.agg166 : HL.aggN Try.prog 166 = some none := by kernel_rfl
@[go_sem] theorem T.size166 : HL.sizeT Try.prog 166 = some 1 := by kernel_rfl
@[go_sem] theorem T.bytes166 : HL.bytesT Try.prog 166 = some 1 := by kernel_rfl
@[go_sem] theorem T.zero166 : HL.zeroT Try.prog 166 = some (.int .u8 0) := by kernel_rfl
@[go_sem] theorem T.agg167 : HL.aggN Try.prog 167 = some none := by kernel_rfl
@[go_sem] theorem T.size167 : HL.sizeT Try.prog 167 = some 1 := by kernel_rfl
@[go_sem] theorem T.bytes167 : HL.bytesT Try.prog 167 = some 8 := by kernel_rfl
@[go_sem] theorem T.zero167 : HL.zeroT Try.prog 167 = some (.nilFunc) := by kernel_rfl
@[go_sem] theorem T.agg168 : HL.aggN Try.prog 168 = some none := by kernel_rfl
@[go_sem] theorem T.size168 : HL.sizeT Try.prog 168 = some 1 := by kernel_rfl
@[go_sem] theorem T.bytes168 : HL.bytesT Try.prog 168 = some 8 := by kernel_rfl
@[go_sem] theorem T.zero168 : HL.zeroT Try.prog 168 = some (.pointer none) := by kernel_rfl
@[go_sem] theorem T.agg169 : HL.aggN Try.prog 169 = some none := by kernel_rfl
@[go_sem] theorem T.size169 : HL.sizeT Try.prog 169 = some 1 := by kernel_rfl
@[go_sem] theorem T.bytes169 : HL.bytesT Try.prog 169 = some 4 := by kernel_rfl
@[go_sem] theorem T.zero169 : HL.zeroT Try.prog 169 = some (.int .i32 0) := by kernel_rfl
@[go_sem] theorem T.agg170 : HL.aggN Try.prog 170 = some none := by kernel_rfl
@[go_sem] theorem T.size170 : HL.sizeT Try.prog 170 = some 1 := by kernel_rfl
@[go_sem] theorem T.bytes170 : HL.bytesT Try.prog 170 = some 4 := by kernel_rfl
@[go_sem] theorem T.zero170 : HL.zeroT Try.prog 170 = some (.int .i32 0) := by kernel_rfl
@[go_sem] theorem T.agg171 : HL.aggN Try.prog 171 = some (some 11) := by kernel_rfl
@[go_sem] theorem T.size171 : HL.sizeT Try.prog 171 = some 11 := by kernel_rfl
@[go_sem] theorem T.bytes171 : HL.bytesT Try.prog 171 = some 48 := by kernel_rfl
@[go_sem] theorem T.zero171 : HL.zeroT Try.prog 171 = some (.agg #[.int .u64 0, .int .u64 0, .int .u32 0, .int .u8 0, .int .u8 0, .int .u8 0, .int .u8 0, .nilFunc, .pointer none, .int .i32 0, .int .i32 0]) := by kernel_rfl
@[go_sem] theorem T.places171 : HL.placesT Try.prog 171 = some [(0, 1), (1, 1), (2, 1), (3, 1), (4, 1), (5, 1), (6, 1), (7, 1), (8, 1), (9, 1), (10, 1)] := by kernel_rfl
@[go_sem] theorem T.field171_0 : HL.fieldT Try.prog 171 0 = some (0, 12) := by kernel_rfl
@[go_sem] theorem T.fieldO171_0 : HL.fieldO Try.prog 171 0 = some 0 := by kernel_rfl
@[go_sem] theorem T.field171_1 : HL.fieldT Try.prog 171 1 = some (1, 12) := by kernel_rfl
@[go_sem] theorem T.fieldO171_1 : HL.fieldO Try.prog 171 1 = some 1 := by kernel_rfl
@[go_sem] theorem T.field171_2 : HL.fieldT Try.prog 171 2 = some (2, 157) := by kernel_rfl
@[go_sem] theorem T.fieldO171_2 : HL.fieldO Try.prog 171 2 = some 2 := by kernel_rfl
@[go_sem] theorem T.field171_3 : HL.fieldT Try.prog 171 3 = some (3, 165) := by kernel_rfl
@[go_sem] theorem T.fieldO171_3 : HL.fieldO Try.prog 171 3 = some 3 := by kernel_rfl
@[go_sem] theorem T.field171_4 : HL.fieldT Try.prog 171 4 = some (4, 5) := by kernel_rfl
@[go_sem] theorem T.fieldO171_4 : HL.fieldO Try.prog 171 4 = some 4 := by kernel_rfl
@[go_sem] theorem T.field171_5 : HL.fieldT Try.prog 171 5 = some (5, 5) := by kernel_rfl
@[go_sem] theorem T.fieldO171_5 : HL.fieldO Try.prog 171 5 = some 5 := by kernel_rfl
@[go_sem] theorem T.field171_6 : HL.fieldT Try.prog 171 6 = some (6, 166) := by kernel_rfl
@[go_sem] theorem T.fieldO171_6 : HL.fieldO Try.prog 171 6 = some 6 := by kernel_rfl
@[go_sem] theorem T.field171_7 : HL.fieldT Try.prog 171 7 = some (7, 167) := by kernel_rfl
@[go_sem] theorem T.fieldO171_7 : HL.fieldO Try.prog 171 7 = some 7 := by kernel_rfl
@[go_sem] theorem T.field171_8 : HL.fieldT Try.prog 171 8 = some (8, 168) := by kernel_rfl
@[go_sem] theorem T.fieldO171_8 : HL.fieldO Try.prog 171 8 = some 8 := by kernel_rfl
@[go_sem] theorem T.field171_9 : HL.fieldT Try.prog 171 9 = some (9, 169) := by kernel_rfl
@[go_sem] theorem T.fieldO171_9 : HL.fieldO Try.prog 171 9 = some 9 := by kernel_rfl
@[go_sem] theorem T.field171_10 : HL.fieldT Try.prog 171 10 = some (10, 170) := by kernel_rfl
@[go_sem] theorem T.fieldO171_10 : HL.fieldO Try.prog 171 10 = some 10 := by kernel_rfl
@[go_sem] theorem T.agg172 : HL.aggN Try.prog 172 = some (some 11) := by kernel_rfl
@[go_sem] theorem T.size172 : HL.sizeT Try.prog 172 = some 11 := by kernel_rfl
@[go_sem] theorem T.bytes172 : HL.bytesT Try.prog 172 = some 48 := by kernel_rfl
@[go_sem] theorem T.zero172 : HL.zeroT Try.prog 172 = some (.agg #[.int .u64 0, .int .u64 0, .int .u32 0, .int .u8 0, .int .u8 0, .int .u8 0, .int .u8 0, .nilFunc, .pointer none, .int .i32 0, .int .i32 0]) := by kernel_rfl
@[go_sem] theorem T.places172 : HL.placesT Try.prog 172 = some [(0, 1), (1, 1), (2, 1), (3, 1), (4, 1), (5, 1), (6, 1), (7, 1), (8, 1), (9, 1), (10, 1)] := by kernel_rfl
@[go_sem] theorem T.field172_0 : HL.fieldT Try.prog 172 0 = some (0, 12) := by kernel_rfl
@[go_sem] theorem T.fieldO172_0 : HL.fieldO Try.prog 172 0 = some 0 := by kernel_rfl
@[go_sem] theorem T.field172_1 : HL.fieldT Try.prog 172 1 = some (1, 12) := by kernel_rfl
@[go_sem] theorem T.fieldO172_1 : HL.fieldO Try.prog 172 1 = some 1 := by kernel_rfl
@[go_sem] theorem T.field172_2 : HL.fieldT Try.prog 172 2 = some (2, 157) := by kernel_rfl
@[go_sem] theorem T.fieldO172_2 : HL.fieldO Try.prog 172 2 = some 2 := by kernel_rfl
@[go_sem] theorem T.field172_3 : HL.fieldT Try.prog 172 3 = some (3, 165) := by kernel_rfl
@[go_sem] theorem T.fieldO172_3 : HL.fieldO Try.prog 172 3 = some 3 := by kernel_rfl
@[go_sem] theorem T.field172_4 : HL.fieldT Try.prog 172 4 = some (4, 5) := by kernel_rfl
@[go_sem] theorem T.fieldO172_4 : HL.fieldO Try.prog 172 4 = some 4 := by kernel_rfl
@[go_sem] theorem T.field172_5 : HL.fieldT Try.prog 172 5 = some (5, 5) := by kernel_rfl
@[go_sem] theorem T.fieldO172_5 : HL.fieldO Try.prog 172 5 = some 5 := by kernel_rfl
@[go_sem] theorem T.field172_6 : HL.fieldT Try.prog 172 6 = some (6, 166) := by kernel_rfl
@[go_sem] theorem T.fieldO172_6 : HL.fieldO Try.prog 172 6 = some 6 := by kernel_rfl
@[go_sem] theorem T.field172_7 : HL.fieldT Try.prog 172 7 = some (7, 167) := by kernel_rfl
@[go_sem] theorem T.fieldO172_7 : HL.fieldO Try.prog 172 7 = some 7 := by kernel_rfl
@[go_sem] theorem T.field172_8 : HL.fieldT Try.prog 172 8 = some (8, 168) := by kernel_rfl
@[go_sem] theorem T.fieldO172_8 : HL.fieldO Try.prog 172 8 = some 8 := by kernel_rfl
@[go_sem] theorem T.field172_9 : HL.fieldT Try.prog 172 9 = some (9, 169) := by kernel_rfl
@[go_sem] theorem T.fieldO172_9 : HL.fieldO Try.prog 172 9 = some 9 := by kernel_rfl
@[go_sem] theorem T.field172_10 : HL.fieldT Try.prog 172 10 = some (10, 170) := by kernel_rfl
@[go_sem] theorem T.fieldO172_10 : HL.fieldO Try.prog 172 10 = some 10 := by kernel_rfl
@[go_sem] theorem T.agg173 : HL.aggN Try.prog 173 = some none := by kernel_rfl
@[go_sem] theorem T.size173 : HL.sizeT Try.prog 173 = some 1 := by kernel_rfl
@[go_sem] theorem T.bytes173 : HL.bytesT Try.prog 173 = some 8 := by kernel_rfl
@[go_sem] theorem T.zero173 : HL.zeroT Try.prog 173 = some (.pointer none) := by kernel_rfl
theorem T.el22 : HL.ElT Try.prog 22 60 5 88 (.agg #[.int .i64 0, .slice none 0 0, .slice none 0 0, .slice none 0 0, .int .i64 0]) := ⟨T.elem22, T.size60, T.bytes60, T.zero60⟩
@[go_sem] theorem T.bs22_0 {H : HL.Heap} : HL.buildSliceV Try.prog H 22 0 [] = some (.slice (some ⟨H.size, 0, none⟩) 0 0, H.push (.cells #[] 60)) := HL.bs_zero T.elem22 T.size60 T.zero60
theorem T.el29 : HL.ElT Try.prog 29 5 1 1 (.int .u8 0) := ⟨T.elem29, T.size5, T.bytes5, T.zero5⟩
@[go_sem] theorem T.bs29_1 {H : HL.Heap} {k0 : IntKind} {n0 : Int} : HL.buildSliceV Try.prog H 29 1 [(0, .int k0 n0)] = some (.slice (some ⟨H.size, 0, none⟩) 1 1, H.push (.cells #[.int k0 n0] 5)) := HL.bs_one T.elem29 T.size5 T.zero5 rfl
@[go_sem] theorem T.bs29_2 {H : HL.Heap} {k0 : IntKind} {n0 : Int} {k1 : IntKind} {n1 : Int} : HL.buildSliceV Try.prog H 29 2 [(0, .int k0 n0), (1, .int k1 n1)] = some (.slice (some ⟨H.size, 0, none⟩) 2 2, H.push (.cells #[.int k0 n0, .int k1 n1] 5)) := HL.bs_two T.elem29 T.size5 T.zero5 rfl rfl
@[go_sem] theorem T.bs29_3 {H : HL.Heap} {k0 : IntKind} {n0 : Int} {k1 : IntKind} {n1 : Int} {k2 : IntKind} {n2 : Int} : HL.buildSliceV Try.prog H 29 3 [(0, .int k0 n0), (1, .int k1 n1), (2, .int k2 n2)] = some (.slice (some ⟨H.size, 0, none⟩) 3 3, H.push (.cells #[.int k0 n0, .int k1 n1, .int k2 n2] 5)) := HL.bs_three T.elem29 T.size5 T.zero5 rfl rfl rfl
@[go_sem] theorem T.bs29_4 {H : HL.Heap} {k0 : IntKind} {n0 : Int} {k1 : IntKind} {n1 : Int} {k2 : IntKind} {n2 : Int} {k3 : IntKind} {n3 : Int} : HL.buildSliceV Try.prog H 29 4 [(0, .int k0 n0), (1, .int k1 n1), (2, .int k2 n2), (3, .int k3 n3)] = some (.slice (some ⟨H.size, 0, none⟩) 4 4, H.push (.cells #[.int k0 n0, .int k1 n1, .int k2 n2, .int k3 n3] 5)) := HL.bs_four T.elem29 T.size5 T.zero5 rfl rfl rfl rfl
@[go_sem] theorem T.bs29_0 {H : HL.Heap} : HL.buildSliceV Try.prog H 29 0 [] = some (.slice (some ⟨H.size, 0, none⟩) 0 0, H.push (.cells #[] 5)) := HL.bs_zero T.elem29 T.size5 T.zero5
theorem T.el33 : HL.ElT Try.prog 33 9 1 16 (.string ⟨#[]⟩) := ⟨T.elem33, T.size9, T.bytes9, T.zero9⟩
@[go_sem] theorem T.bs33_1 {H : HL.Heap} {n0 : ByteArray} : HL.buildSliceV Try.prog H 33 1 [(0, .string n0)] = some (.slice (some ⟨H.size, 0, none⟩) 1 1, H.push (.cells #[.string n0] 9)) := HL.bs_one T.elem33 T.size9 T.zero9 rfl
@[go_sem] theorem T.bs33_2 {H : HL.Heap} {n0 : ByteArray} {n1 : ByteArray} : HL.buildSliceV Try.prog H 33 2 [(0, .string n0), (1, .string n1)] = some (.slice (some ⟨H.size, 0, none⟩) 2 2, H.push (.cells #[.string n0, .string n1] 9)) := HL.bs_two T.elem33 T.size9 T.zero9 rfl rfl
@[go_sem] theorem T.bs33_3 {H : HL.Heap} {n0 : ByteArray} {n1 : ByteArray} {n2 : ByteArray} : HL.buildSliceV Try.prog H 33 3 [(0, .string n0), (1, .string n1), (2, .string n2)] = some (.slice (some ⟨H.size, 0, none⟩) 3 3, H.push (.cells #[.string n0, .string n1, .string n2] 9)) := HL.bs_three T.elem33 T.size9 T.zero9 rfl rfl rfl
@[go_sem] theorem T.bs33_4 {H : HL.Heap} {n0 : ByteArray} {n1 : ByteArray} {n2 : ByteArray} {n3 : ByteArray} : HL.buildSliceV Try.prog H 33 4 [(0, .string n0), (1, .string n1), (2, .string n2), (3, .string n3)] = some (.slice (some ⟨H.size, 0, none⟩) 4 4, H.push (.cells #[.string n0, .string n1, .string n2, .string n3] 9)) := HL.bs_four T.elem33 T.size9 T.zero9 rfl rfl rfl rfl
@[go_sem] theorem T.bs33_0 {H : HL.Heap} : HL.buildSliceV Try.prog H 33 0 [] = some (.slice (some ⟨H.size, 0, none⟩) 0 0, H.push (.cells #[] 9)) := HL.bs_zero T.elem33 T.size9 T.zero9
theorem T.el45 : HL.ElT Try.prog 45 120 5 40 (.agg #[.string ⟨#[]⟩, .int .i64 0, .int .i64 0, .bool false, .bool false]) := ⟨T.elem45, T.size120, T.bytes120, T.zero120⟩
@[go_sem] theorem T.bs45_0 {H : HL.Heap} : HL.buildSliceV Try.prog H 45 0 [] = some (.slice (some ⟨H.size, 0, none⟩) 0 0, H.push (.cells #[] 120)) := HL.bs_zero T.elem45 T.size120 T.zero120
theorem T.el46 : HL.ElT Try.prog 46 125 3 32 (.agg #[.string ⟨#[]⟩, .int .i64 0, .int .i64 0]) := ⟨T.elem46, T.size125, T.bytes125, T.zero125⟩
@[go_sem] theorem T.bs46_0 {H : HL.Heap} : HL.buildSliceV Try.prog H 46 0 [] = some (.slice (some ⟨H.size, 0, none⟩) 0 0, H.push (.cells #[] 125)) := HL.bs_zero T.elem46 T.size125 T.zero125
theorem T.el47 : HL.ElT Try.prog 47 56 8 152 (.agg #[.string ⟨#[]⟩, .int .i64 0, .slice none 0 0, .int .i64 0, .slice none 0 0, .slice none 0 0, .slice none 0 0, .slice none 0 0]) := ⟨T.elem47, T.size56, T.bytes56, T.zero56⟩
@[go_sem] theorem T.bs47_0 {H : HL.Heap} : HL.buildSliceV Try.prog H 47 0 [] = some (.slice (some ⟨H.size, 0, none⟩) 0 0, H.push (.cells #[] 56)) := HL.bs_zero T.elem47 T.size56 T.zero56
theorem T.el48 : HL.ElT Try.prog 48 3 1 8 (.int .i64 0) := ⟨T.elem48, T.size3, T.bytes3, T.zero3⟩
@[go_sem] theorem T.bs48_1 {H : HL.Heap} {k0 : IntKind} {n0 : Int} : HL.buildSliceV Try.prog H 48 1 [(0, .int k0 n0)] = some (.slice (some ⟨H.size, 0, none⟩) 1 1, H.push (.cells #[.int k0 n0] 3)) := HL.bs_one T.elem48 T.size3 T.zero3 rfl
@[go_sem] theorem T.bs48_2 {H : HL.Heap} {k0 : IntKind} {n0 : Int} {k1 : IntKind} {n1 : Int} : HL.buildSliceV Try.prog H 48 2 [(0, .int k0 n0), (1, .int k1 n1)] = some (.slice (some ⟨H.size, 0, none⟩) 2 2, H.push (.cells #[.int k0 n0, .int k1 n1] 3)) := HL.bs_two T.elem48 T.size3 T.zero3 rfl rfl
@[go_sem] theorem T.bs48_3 {H : HL.Heap} {k0 : IntKind} {n0 : Int} {k1 : IntKind} {n1 : Int} {k2 : IntKind} {n2 : Int} : HL.buildSliceV Try.prog H 48 3 [(0, .int k0 n0), (1, .int k1 n1), (2, .int k2 n2)] = some (.slice (some ⟨H.size, 0, none⟩) 3 3, H.push (.cells #[.int k0 n0, .int k1 n1, .int k2 n2] 3)) := HL.bs_three T.elem48 T.size3 T.zero3 rfl rfl rfl
@[go_sem] theorem T.bs48_4 {H : HL.Heap} {k0 : IntKind} {n0 : Int} {k1 : IntKind} {n1 : Int} {k2 : IntKind} {n2 : Int} {k3 : IntKind} {n3 : Int} : HL.buildSliceV Try.prog H 48 4 [(0, .int k0 n0), (1, .int k1 n1), (2, .int k2 n2), (3, .int k3 n3)] = some (.slice (some ⟨H.size, 0, none⟩) 4 4, H.push (.cells #[.int k0 n0, .int k1 n1, .int k2 n2, .int k3 n3] 3)) := HL.bs_four T.elem48 T.size3 T.zero3 rfl rfl rfl rfl
@[go_sem] theorem T.bs48_0 {H : HL.Heap} : HL.buildSliceV Try.prog H 48 0 [] = some (.slice (some ⟨H.size, 0, none⟩) 0 0, H.push (.cells #[] 3)) := HL.bs_zero T.elem48 T.size3 T.zero3
theorem T.el53 : HL.ElT Try.prog 53 4 1 1 (.bool false) := ⟨T.elem53, T.size4, T.bytes4, T.zero4⟩
@[go_sem] theorem T.bs53_1 {H : HL.Heap} {n0 : Bool} : HL.buildSliceV Try.prog H 53 1 [(0, .bool n0)] = some (.slice (some ⟨H.size, 0, none⟩) 1 1, H.push (.cells #[.bool n0] 4)) := HL.bs_one T.elem53 T.size4 T.zero4 rfl
@[go_sem] theorem T.bs53_2 {H : HL.Heap} {n0 : Bool} {n1 : Bool} : HL.buildSliceV Try.prog H 53 2 [(0, .bool n0), (1, .bool n1)] = some (.slice (some ⟨H.size, 0, none⟩) 2 2, H.push (.cells #[.bool n0, .bool n1] 4)) := HL.bs_two T.elem53 T.size4 T.zero4 rfl rfl
@[go_sem] theorem T.bs53_3 {H : HL.Heap} {n0 : Bool} {n1 : Bool} {n2 : Bool} : HL.buildSliceV Try.prog H 53 3 [(0, .bool n0), (1, .bool n1), (2, .bool n2)] = some (.slice (some ⟨H.size, 0, none⟩) 3 3, H.push (.cells #[.bool n0, .bool n1, .bool n2] 4)) := HL.bs_three T.elem53 T.size4 T.zero4 rfl rfl rfl
@[go_sem] theorem T.bs53_4 {H : HL.Heap} {n0 : Bool} {n1 : Bool} {n2 : Bool} {n3 : Bool} : HL.buildSliceV Try.prog H 53 4 [(0, .bool n0), (1, .bool n1), (2, .bool n2), (3, .bool n3)] = some (.slice (some ⟨H.size, 0, none⟩) 4 4, H.push (.cells #[.bool n0, .bool n1, .bool n2, .bool n3] 4)) := HL.bs_four T.elem53 T.size4 T.zero4 rfl rfl rfl rfl
@[go_sem] theorem T.bs53_0 {H : HL.Heap} : HL.buildSliceV Try.prog H 53 0 [] = some (.slice (some ⟨H.size, 0, none⟩) 0 0, H.push (.cells #[] 4)) := HL.bs_zero T.elem53 T.size4 T.zero4
theorem T.el54 : HL.ElT Try.prog 54 58 8 64 (.agg #[.int .i64 0, .int .i64 0, .int .i64 0, .int .i64 0, .int .i64 0, .int .i64 0, .bool false, .int .i64 0]) := ⟨T.elem54, T.size58, T.bytes58, T.zero58⟩
@[go_sem] theorem T.bs54_0 {H : HL.Heap} : HL.buildSliceV Try.prog H 54 0 [] = some (.slice (some ⟨H.size, 0, none⟩) 0 0, H.push (.cells #[] 58)) := HL.bs_zero T.elem54 T.size58 T.zero58
theorem T.el69 : HL.ElT Try.prog 69 107 3 32 (.agg #[.int .i64 0, .string ⟨#[]⟩, .int .i64 0]) := ⟨T.elem69, T.size107, T.bytes107, T.zero107⟩
@[go_sem] theorem T.bs69_0 {H : HL.Heap} : HL.buildSliceV Try.prog H 69 0 [] = some (.slice (some ⟨H.size, 0, none⟩) 0 0, H.push (.cells #[] 107)) := HL.bs_zero T.elem69 T.size107 T.zero107
theorem T.el75 : HL.ElT Try.prog 75 77 6 112 (.agg #[.int .i64 0, .slice none 0 0, .slice none 0 0, .slice none 0 0, .int .i64 0, .slice none 0 0]) := ⟨T.elem75, T.size77, T.bytes77, T.zero77⟩
@[go_sem] theorem T.bs75_0 {H : HL.Heap} : HL.buildSliceV Try.prog H 75 0 [] = some (.slice (some ⟨H.size, 0, none⟩) 0 0, H.push (.cells #[] 77)) := HL.bs_zero T.elem75 T.size77 T.zero77
theorem T.el110 : HL.ElT Try.prog 110 33 1 24 (.slice none 0 0) := ⟨T.elem110, T.size33, T.bytes33, T.zero33⟩
@[go_sem] theorem T.bs110_1 {H : HL.Heap} {a0 : Option Addr} {l0 c0 : Nat} : HL.buildSliceV Try.prog H 110 1 [(0, .slice a0 l0 c0)] = some (.slice (some ⟨H.size, 0, none⟩) 1 1, H.push (.cells #[.slice a0 l0 c0] 33)) := HL.bs_one T.elem110 T.size33 T.zero33 rfl
@[go_sem] theorem T.bs110_2 {H : HL.Heap} {a0 : Option Addr} {l0 c0 : Nat} {a1 : Option Addr} {l1 c1 : Nat} : HL.buildSliceV Try.prog H 110 2 [(0, .slice a0 l0 c0), (1, .slice a1 l1 c1)] = some (.slice (some ⟨H.size, 0, none⟩) 2 2, H.push (.cells #[.slice a0 l0 c0, .slice a1 l1 c1] 33)) := HL.bs_two T.elem110 T.size33 T.zero33 rfl rfl
@[go_sem] theorem T.bs110_3 {H : HL.Heap} {a0 : Option Addr} {l0 c0 : Nat} {a1 : Option Addr} {l1 c1 : Nat} {a2 : Option Addr} {l2 c2 : Nat} : HL.buildSliceV Try.prog H 110 3 [(0, .slice a0 l0 c0), (1, .slice a1 l1 c1), (2, .slice a2 l2 c2)] = some (.slice (some ⟨H.size, 0, none⟩) 3 3, H.push (.cells #[.slice a0 l0 c0, .slice a1 l1 c1, .slice a2 l2 c2] 33)) := HL.bs_three T.elem110 T.size33 T.zero33 rfl rfl rfl
@[go_sem] theorem T.bs110_4 {H : HL.Heap} {a0 : Option Addr} {l0 c0 : Nat} {a1 : Option Addr} {l1 c1 : Nat} {a2 : Option Addr} {l2 c2 : Nat} {a3 : Option Addr} {l3 c3 : Nat} : HL.buildSliceV Try.prog H 110 4 [(0, .slice a0 l0 c0), (1, .slice a1 l1 c1), (2, .slice a2 l2 c2), (3, .slice a3 l3 c3)] = some (.slice (some ⟨H.size, 0, none⟩) 4 4, H.push (.cells #[.slice a0 l0 c0, .slice a1 l1 c1, .slice a2 l2 c2, .slice a3 l3 c3] 33)) := HL.bs_four T.elem110 T.size33 T.zero33 rfl rfl rfl rfl
@[go_sem] theorem T.bs110_0 {H : HL.Heap} : HL.buildSliceV Try.prog H 110 0 [] = some (.slice (some ⟨H.size, 0, none⟩) 0 0, H.push (.cells #[] 33)) := HL.bs_zero T.elem110 T.size33 T.zero33
theorem T.el153 : HL.ElT Try.prog 153 139 2 16 (.agg #[.int .i64 0, .int .i64 0]) := ⟨T.elem153, T.size139, T.bytes139, T.zero139⟩
@[go_sem] theorem T.bs153_0 {H : HL.Heap} : HL.buildSliceV Try.prog H 153 0 [] = some (.slice (some ⟨H.size, 0, none⟩) 0 0, H.push (.cells #[] 139)) := HL.bs_zero T.elem153 T.size139 T.zero139
@[go_sem] theorem T.pe15 {H : HL.Heap} {xo yo : Operand} {a : Addr} : HL.binV Try.prog (HL.full H) .eql 15 xo yo (.pointer (some a)) (.pointer none) = some (.bool false) := HL.bin_ptr_eql Try.underlying15
@[go_sem] theorem T.pn15 {H : HL.Heap} {xo yo : Operand} {a : Addr} : HL.binV Try.prog (HL.full H) .neq 15 xo yo (.pointer (some a)) (.pointer none) = some (.bool true) := HL.bin_ptr_neq Try.underlying15
@[go_sem] theorem T.ne15 {H : HL.Heap} {xo yo : Operand} : HL.binV Try.prog (HL.full H) .eql 15 xo yo (.pointer none) (.pointer none) = some (.bool true) := HL.bin_nil_eql Try.underlying15
@[go_sem] theorem T.nn15 {H : HL.Heap} {xo yo : Operand} : HL.binV Try.prog (HL.full H) .neq 15 xo yo (.pointer none) (.pointer none) = some (.bool false) := HL.bin_nil_neq Try.underlying15
@[go_sem] theorem T.pe16 {H : HL.Heap} {xo yo : Operand} {a : Addr} : HL.binV Try.prog (HL.full H) .eql 16 xo yo (.pointer (some a)) (.pointer none) = some (.bool false) := HL.bin_ptr_eql Try.underlying16
@[go_sem] theorem T.pn16 {H : HL.Heap} {xo yo : Operand} {a : Addr} : HL.binV Try.prog (HL.full H) .neq 16 xo yo (.pointer (some a)) (.pointer none) = some (.bool true) := HL.bin_ptr_neq Try.underlying16
@[go_sem] theorem T.ne16 {H : HL.Heap} {xo yo : Operand} : HL.binV Try.prog (HL.full H) .eql 16 xo yo (.pointer none) (.pointer none) = some (.bool true) := HL.bin_nil_eql Try.underlying16
@[go_sem] theorem T.nn16 {H : HL.Heap} {xo yo : Operand} : HL.binV Try.prog (HL.full H) .neq 16 xo yo (.pointer none) (.pointer none) = some (.bool false) := HL.bin_nil_neq Try.underlying16
@[go_sem] theorem T.pe17 {H : HL.Heap} {xo yo : Operand} {a : Addr} : HL.binV Try.prog (HL.full H) .eql 17 xo yo (.pointer (some a)) (.pointer none) = some (.bool false) := HL.bin_ptr_eql Try.underlying17
@[go_sem] theorem T.pn17 {H : HL.Heap} {xo yo : Operand} {a : Addr} : HL.binV Try.prog (HL.full H) .neq 17 xo yo (.pointer (some a)) (.pointer none) = some (.bool true) := HL.bin_ptr_neq Try.underlying17
@[go_sem] theorem T.ne17 {H : HL.Heap} {xo yo : Operand} : HL.binV Try.prog (HL.full H) .eql 17 xo yo (.pointer none) (.pointer none) = some (.bool true) := HL.bin_nil_eql Try.underlying17
@[go_sem] theorem T.nn17 {H : HL.Heap} {xo yo : Operand} : HL.binV Try.prog (HL.full H) .neq 17 xo yo (.pointer none) (.pointer none) = some (.bool false) := HL.bin_nil_neq Try.underlying17
@[go_sem] theorem T.pe61 {H : HL.Heap} {xo yo : Operand} {a : Addr} : HL.binV Try.prog (HL.full H) .eql 61 xo yo (.pointer (some a)) (.pointer none) = some (.bool false) := HL.bin_ptr_eql Try.underlying61
@[go_sem] theorem T.pn61 {H : HL.Heap} {xo yo : Operand} {a : Addr} : HL.binV Try.prog (HL.full H) .neq 61 xo yo (.pointer (some a)) (.pointer none) = some (.bool true) := HL.bin_ptr_neq Try.underlying61
@[go_sem] theorem T.ne61 {H : HL.Heap} {xo yo : Operand} : HL.binV Try.prog (HL.full H) .eql 61 xo yo (.pointer none) (.pointer none) = some (.bool true) := HL.bin_nil_eql Try.underlying61
@[go_sem] theorem T.nn61 {H : HL.Heap} {xo yo : Operand} : HL.binV Try.prog (HL.full H) .neq 61 xo yo (.pointer none) (.pointer none) = some (.bool false) := HL.bin_nil_neq Try.underlying61
@[go_sem] theorem T.pe72 {H : HL.Heap} {xo yo : Operand} {a : Addr} : HL.binV Try.prog (HL.full H) .eql 72 xo yo (.pointer (some a)) (.pointer none) = some (.bool false) := HL.bin_ptr_eql Try.underlying72
@[go_sem] theorem T.pn72 {H : HL.Heap} {xo yo : Operand} {a : Addr} : HL.binV Try.prog (HL.full H) .neq 72 xo yo (.pointer (some a)) (.pointer none) = some (.bool true) := HL.bin_ptr_neq Try.underlying72
@[go_sem] theorem T.ne72 {H : HL.Heap} {xo yo : Operand} : HL.binV Try.prog (HL.full H) .eql 72 xo yo (.pointer none) (.pointer none) = some (.bool true) := HL.bin_nil_eql Try.underlying72
@[go_sem] theorem T.nn72 {H : HL.Heap} {xo yo : Operand} : HL.binV Try.prog (HL.full H) .neq 72 xo yo (.pointer none) (.pointer none) = some (.bool false) := HL.bin_nil_neq Try.underlying72
@[go_sem] theorem T.pe113 {H : HL.Heap} {xo yo : Operand} {a : Addr} : HL.binV Try.prog (HL.full H) .eql 113 xo yo (.pointer (some a)) (.pointer none) = some (.bool false) := HL.bin_ptr_eql Try.underlying113
@[go_sem] theorem T.pn113 {H : HL.Heap} {xo yo : Operand} {a : Addr} : HL.binV Try.prog (HL.full H) .neq 113 xo yo (.pointer (some a)) (.pointer none) = some (.bool true) := HL.bin_ptr_neq Try.underlying113
@[go_sem] theorem T.ne113 {H : HL.Heap} {xo yo : Operand} : HL.binV Try.prog (HL.full H) .eql 113 xo yo (.pointer none) (.pointer none) = some (.bool true) := HL.bin_nil_eql Try.underlying113
@[go_sem] theorem T.nn113 {H : HL.Heap} {xo yo : Operand} : HL.binV Try.prog (HL.full H) .neq 113 xo yo (.pointer none) (.pointer none) = some (.bool false) := HL.bin_nil_neq Try.underlying113
@[go_sem] theorem T.pe116 {H : HL.Heap} {xo yo : Operand} {a : Addr} : HL.binV Try.prog (HL.full H) .eql 116 xo yo (.pointer (some a)) (.pointer none) = some (.bool false) := HL.bin_ptr_eql Try.underlying116
@[go_sem] theorem T.pn116 {H : HL.Heap} {xo yo : Operand} {a : Addr} : HL.binV Try.prog (HL.full H) .neq 116 xo yo (.pointer (some a)) (.pointer none) = some (.bool true) := HL.bin_ptr_neq Try.underlying116
@[go_sem] theorem T.ne116 {H : HL.Heap} {xo yo : Operand} : HL.binV Try.prog (HL.full H) .eql 116 xo yo (.pointer none) (.pointer none) = some (.bool true) := HL.bin_nil_eql Try.underlying116
@[go_sem] theorem T.nn116 {H : HL.Heap} {xo yo : Operand} : HL.binV Try.prog (HL.full H) .neq 116 xo yo (.pointer none) (.pointer none) = some (.bool false) := HL.bin_nil_neq Try.underlying116
@[go_sem] theorem T.pe118 {H : HL.Heap} {xo yo : Operand} {a : Addr} : HL.binV Try.prog (HL.full H) .eql 118 xo yo (.pointer (some a)) (.pointer none) = some (.bool false) := HL.bin_ptr_eql Try.underlying118
@[go_sem] theorem T.pn118 {H : HL.Heap} {xo yo : Operand} {a : Addr} : HL.binV Try.prog (HL.full H) .neq 118 xo yo (.pointer (some a)) (.pointer none) = some (.bool true) := HL.bin_ptr_neq Try.underlying118
@[go_sem] theorem T.ne118 {H : HL.Heap} {xo yo : Operand} : HL.binV Try.prog (HL.full H) .eql 118 xo yo (.pointer none) (.pointer none) = some (.bool true) := HL.bin_nil_eql Try.underlying118
@[go_sem] theorem T.nn118 {H : HL.Heap} {xo yo : Operand} : HL.binV Try.prog (HL.full H) .neq 118 xo yo (.pointer none) (.pointer none) = some (.bool false) := HL.bin_nil_neq Try.underlying118
@[go_sem] theorem T.pe136 {H : HL.Heap} {xo yo : Operand} {a : Addr} : HL.binV Try.prog (HL.full H) .eql 136 xo yo (.pointer (some a)) (.pointer none) = some (.bool false) := HL.bin_ptr_eql Try.underlying136
@[go_sem] theorem T.pn136 {H : HL.Heap} {xo yo : Operand} {a : Addr} : HL.binV Try.prog (HL.full H) .neq 136 xo yo (.pointer (some a)) (.pointer none) = some (.bool true) := HL.bin_ptr_neq Try.underlying136
@[go_sem] theorem T.ne136 {H : HL.Heap} {xo yo : Operand} : HL.binV Try.prog (HL.full H) .eql 136 xo yo (.pointer none) (.pointer none) = some (.bool true) := HL.bin_nil_eql Try.underlying136
@[go_sem] theorem T.nn136 {H : HL.Heap} {xo yo : Operand} : HL.binV Try.prog (HL.full H) .neq 136 xo yo (.pointer none) (.pointer none) = some (.bool false) := HL.bin_nil_neq Try.underlying136
@[go_sem] theorem T.pe137 {H : HL.Heap} {xo yo : Operand} {a : Addr} : HL.binV Try.prog (HL.full H) .eql 137 xo yo (.pointer (some a)) (.pointer none) = some (.bool false) := HL.bin_ptr_eql Try.underlying137
@[go_sem] theorem T.pn137 {H : HL.Heap} {xo yo : Operand} {a : Addr} : HL.binV Try.prog (HL.full H) .neq 137 xo yo (.pointer (some a)) (.pointer none) = some (.bool true) := HL.bin_ptr_neq Try.underlying137
@[go_sem] theorem T.ne137 {H : HL.Heap} {xo yo : Operand} : HL.binV Try.prog (HL.full H) .eql 137 xo yo (.pointer none) (.pointer none) = some (.bool true) := HL.bin_nil_eql Try.underlying137
@[go_sem] theorem T.nn137 {H : HL.Heap} {xo yo : Operand} : HL.binV Try.prog (HL.full H) .neq 137 xo yo (.pointer none) (.pointer none) = some (.bool false) := HL.bin_nil_neq Try.underlying137
@[go_sem] theorem T.pe144 {H : HL.Heap} {xo yo : Operand} {a : Addr} : HL.binV Try.prog (HL.full H) .eql 144 xo yo (.pointer (some a)) (.pointer none) = some (.bool false) := HL.bin_ptr_eql Try.underlying144
@[go_sem] theorem T.pn144 {H : HL.Heap} {xo yo : Operand} {a : Addr} : HL.binV Try.prog (HL.full H) .neq 144 xo yo (.pointer (some a)) (.pointer none) = some (.bool true) := HL.bin_ptr_neq Try.underlying144
@[go_sem] theorem T.ne144 {H : HL.Heap} {xo yo : Operand} : HL.binV Try.prog (HL.full H) .eql 144 xo yo (.pointer none) (.pointer none) = some (.bool true) := HL.bin_nil_eql Try.underlying144
@[go_sem] theorem T.nn144 {H : HL.Heap} {xo yo : Operand} : HL.binV Try.prog (HL.full H) .neq 144 xo yo (.pointer none) (.pointer none) = some (.bool false) := HL.bin_nil_neq Try.underlying144
@[go_sem] theorem T.pe168 {H : HL.Heap} {xo yo : Operand} {a : Addr} : HL.binV Try.prog (HL.full H) .eql 168 xo yo (.pointer (some a)) (.pointer none) = some (.bool false) := HL.bin_ptr_eql Try.underlying168
@[go_sem] theorem T.pn168 {H : HL.Heap} {xo yo : Operand} {a : Addr} : HL.binV Try.prog (HL.full H) .neq 168 xo yo (.pointer (some a)) (.pointer none) = some (.bool true) := HL.bin_ptr_neq Try.underlying168
@[go_sem] theorem T.ne168 {H : HL.Heap} {xo yo : Operand} : HL.binV Try.prog (HL.full H) .eql 168 xo yo (.pointer none) (.pointer none) = some (.bool true) := HL.bin_nil_eql Try.underlying168
@[go_sem] theorem T.nn168 {H : HL.Heap} {xo yo : Operand} : HL.binV Try.prog (HL.full H) .neq 168 xo yo (.pointer none) (.pointer none) = some (.bool false) := HL.bin_nil_neq Try.underlying168
@[go_sem] theorem T.be4 {H : HL.Heap} {xo yo : Operand} {x y : Bool} : HL.binV Try.prog (HL.full H) .eql 4 xo yo (.bool x) (.bool y) = some (.bool (x == y)) := HL.bin_bool_eql Try.underlying4
@[go_sem] theorem T.bn4 {H : HL.Heap} {xo yo : Operand} {x y : Bool} : HL.binV Try.prog (HL.full H) .neq 4 xo yo (.bool x) (.bool y) = some (.bool (!(x == y))) := HL.bin_bool_neq Try.underlying4
@[go_sem] theorem T.se27 {H : HL.Heap} {xo yo : Operand} {a0 b0 : Int} {a1 b1 : Int} : HL.binV Try.prog (HL.full H) .eql 27 xo yo (.agg #[.int .i64 a0, .int .i64 a1]) (.agg #[.int .i64 b0, .int .i64 b1]) = some (.bool ((decide (a0 = b0 ∧ a1 = b1 ∧ True)))) := (HL.bin_struct (xs := [.int .i64 a0, .int .i64 a1]) (ys := [.int .i64 b0, .int .i64 b1]) Try.underlying27 (by kernel_rfl) (by kernel_rfl) (HL.eqF_int (by decide) Try.underlying25 rfl rfl (HL.eqF_int (by decide) Try.underlying3 rfl rfl HL.eqF_nil))).1
@[go_sem] theorem T.sn27 {H : HL.Heap} {xo yo : Operand} {a0 b0 : Int} {a1 b1 : Int} : HL.binV Try.prog (HL.full H) .neq 27 xo yo (.agg #[.int .i64 a0, .int .i64 a1]) (.agg #[.int .i64 b0, .int .i64 b1]) = some (.bool (!(decide (a0 = b0 ∧ a1 = b1 ∧ True)))) := (HL.bin_struct (xs := [.int .i64 a0, .int .i64 a1]) (ys := [.int .i64 b0, .int .i64 b1]) Try.underlying27 (by kernel_rfl) (by kernel_rfl) (HL.eqF_int (by decide) Try.underlying25 rfl rfl (HL.eqF_int (by decide) Try.underlying3 rfl rfl HL.eqF_nil))).2
@[go_sem] theorem T.se58 {H : HL.Heap} {xo yo : Operand} {a0 b0 : Int} {a1 b1 : Int} {a2 b2 : Int} {a3 b3 : Int} {a4 b4 : Int} {a5 b5 : Int} {a6 b6 : Bool} {a7 b7 : Int} : HL.binV Try.prog (HL.full H) .eql 58 xo yo (.agg #[.int .i64 a0, .int .i64 a1, .int .i64 a2, .int .i64 a3, .int .i64 a4, .int .i64 a5, .bool a6, .int .i64 a7]) (.agg #[.int .i64 b0, .int .i64 b1, .int .i64 b2, .int .i64 b3, .int .i64 b4, .int .i64 b5, .bool b6, .int .i64 b7]) = some (.bool ((decide (a0 = b0 ∧ a1 = b1 ∧ a2 = b2 ∧ a3 = b3 ∧ a4 = b4 ∧ a5 = b5 ∧ a6 = b6 ∧ a7 = b7 ∧ True)))) := (HL.bin_struct (xs := [.int .i64 a0, .int .i64 a1, .int .i64 a2, .int .i64 a3, .int .i64 a4, .int .i64 a5, .bool a6, .int .i64 a7]) (ys := [.int .i64 b0, .int .i64 b1, .int .i64 b2, .int .i64 b3, .int .i64 b4, .int .i64 b5, .bool b6, .int .i64 b7]) Try.underlying58 (by kernel_rfl) (by kernel_rfl) (HL.eqF_int (by decide) Try.underlying3 rfl rfl (HL.eqF_int (by decide) Try.underlying3 rfl rfl (HL.eqF_int (by decide) Try.underlying3 rfl rfl (HL.eqF_int (by decide) Try.underlying3 rfl rfl (HL.eqF_int (by decide) Try.underlying3 rfl rfl (HL.eqF_int (by decide) Try.underlying3 rfl rfl (HL.eqF_bool (by decide) Try.underlying4 rfl rfl (HL.eqF_int (by decide) Try.underlying3 rfl rfl HL.eqF_nil))))))))).1
@[go_sem] theorem T.sn58 {H : HL.Heap} {xo yo : Operand} {a0 b0 : Int} {a1 b1 : Int} {a2 b2 : Int} {a3 b3 : Int} {a4 b4 : Int} {a5 b5 : Int} {a6 b6 : Bool} {a7 b7 : Int} : HL.binV Try.prog (HL.full H) .neq 58 xo yo (.agg #[.int .i64 a0, .int .i64 a1, .int .i64 a2, .int .i64 a3, .int .i64 a4, .int .i64 a5, .bool a6, .int .i64 a7]) (.agg #[.int .i64 b0, .int .i64 b1, .int .i64 b2, .int .i64 b3, .int .i64 b4, .int .i64 b5, .bool b6, .int .i64 b7]) = some (.bool (!(decide (a0 = b0 ∧ a1 = b1 ∧ a2 = b2 ∧ a3 = b3 ∧ a4 = b4 ∧ a5 = b5 ∧ a6 = b6 ∧ a7 = b7 ∧ True)))) := (HL.bin_struct (xs := [.int .i64 a0, .int .i64 a1, .int .i64 a2, .int .i64 a3, .int .i64 a4, .int .i64 a5, .bool a6, .int .i64 a7]) (ys := [.int .i64 b0, .int .i64 b1, .int .i64 b2, .int .i64 b3, .int .i64 b4, .int .i64 b5, .bool b6, .int .i64 b7]) Try.underlying58 (by kernel_rfl) (by kernel_rfl) (HL.eqF_int (by decide) Try.underlying3 rfl rfl (HL.eqF_int (by decide) Try.underlying3 rfl rfl (HL.eqF_int (by decide) Try.underlying3 rfl rfl (HL.eqF_int (by decide) Try.underlying3 rfl rfl (HL.eqF_int (by decide) Try.underlying3 rfl rfl (HL.eqF_int (by decide) Try.underlying3 rfl rfl (HL.eqF_bool (by decide) Try.underlying4 rfl rfl (HL.eqF_int (by decide) Try.underlying3 rfl rfl HL.eqF_nil))))))))).2
@[go_sem] theorem T.se107 {H : HL.Heap} {xo yo : Operand} {a0 b0 : Int} {a1 b1 : ByteArray} {a2 b2 : Int} : HL.binV Try.prog (HL.full H) .eql 107 xo yo (.agg #[.int .i64 a0, .string a1, .int .i64 a2]) (.agg #[.int .i64 b0, .string b1, .int .i64 b2]) = some (.bool ((decide (a0 = b0 ∧ a1 = b1 ∧ a2 = b2 ∧ True)))) := (HL.bin_struct (xs := [.int .i64 a0, .string a1, .int .i64 a2]) (ys := [.int .i64 b0, .string b1, .int .i64 b2]) Try.underlying107 (by kernel_rfl) (by kernel_rfl) (HL.eqF_int (by decide) Try.underlying3 rfl rfl (HL.eqF_str (by decide) Try.underlying9 rfl rfl (HL.eqF_int (by decide) Try.underlying3 rfl rfl HL.eqF_nil)))).1
@[go_sem] theorem T.sn107 {H : HL.Heap} {xo yo : Operand} {a0 b0 : Int} {a1 b1 : ByteArray} {a2 b2 : Int} : HL.binV Try.prog (HL.full H) .neq 107 xo yo (.agg #[.int .i64 a0, .string a1, .int .i64 a2]) (.agg #[.int .i64 b0, .string b1, .int .i64 b2]) = some (.bool (!(decide (a0 = b0 ∧ a1 = b1 ∧ a2 = b2 ∧ True)))) := (HL.bin_struct (xs := [.int .i64 a0, .string a1, .int .i64 a2]) (ys := [.int .i64 b0, .string b1, .int .i64 b2]) Try.underlying107 (by kernel_rfl) (by kernel_rfl) (HL.eqF_int (by decide) Try.underlying3 rfl rfl (HL.eqF_str (by decide) Try.underlying9 rfl rfl (HL.eqF_int (by decide) Try.underlying3 rfl rfl HL.eqF_nil)))).2
@[go_sem] theorem T.se120 {H : HL.Heap} {xo yo : Operand} {a0 b0 : ByteArray} {a1 b1 : Int} {a2 b2 : Int} {a3 b3 : Bool} {a4 b4 : Bool} : HL.binV Try.prog (HL.full H) .eql 120 xo yo (.agg #[.string a0, .int .i64 a1, .int .i64 a2, .bool a3, .bool a4]) (.agg #[.string b0, .int .i64 b1, .int .i64 b2, .bool b3, .bool b4]) = some (.bool ((decide (a0 = b0 ∧ a1 = b1 ∧ a2 = b2 ∧ a3 = b3 ∧ a4 = b4 ∧ True)))) := (HL.bin_struct (xs := [.string a0, .int .i64 a1, .int .i64 a2, .bool a3, .bool a4]) (ys := [.string b0, .int .i64 b1, .int .i64 b2, .bool b3, .bool b4]) Try.underlying120 (by kernel_rfl) (by kernel_rfl) (HL.eqF_str (by decide) Try.underlying9 rfl rfl (HL.eqF_int (by decide) Try.underlying3 rfl rfl (HL.eqF_int (by decide) Try.underlying3 rfl rfl (HL.eqF_bool (by decide) Try.underlying4 rfl rfl (HL.eqF_bool (by decide) Try.underlying4 rfl rfl HL.eqF_nil)))))).1
@[go_sem] theorem T.sn120 {H : HL.Heap} {xo yo : Operand} {a0 b0 : ByteArray} {a1 b1 : Int} {a2 b2 : Int} {a3 b3 : Bool} {a4 b4 : Bool} : HL.binV Try.prog (HL.full H) .neq 120 xo yo (.agg #[.string a0, .int .i64 a1, .int .i64 a2, .bool a3, .bool a4]) (.agg #[.string b0, .int .i64 b1, .int .i64 b2, .bool b3, .bool b4]) = some (.bool (!(decide (a0 = b0 ∧ a1 = b1 ∧ a2 = b2 ∧ a3 = b3 ∧ a4 = b4 ∧ True)))) := (HL.bin_struct (xs := [.string a0, .int .i64 a1, .int .i64 a2, .bool a3, .bool a4]) (ys := [.string b0, .int .i64 b1, .int .i64 b2, .bool b3, .bool b4]) Try.underlying120 (by kernel_rfl) (by kernel_rfl) (HL.eqF_str (by decide) Try.underlying9 rfl rfl (HL.eqF_int (by decide) Try.underlying3 rfl rfl (HL.eqF_int (by decide) Try.underlying3 rfl rfl (HL.eqF_bool (by decide) Try.underlying4 rfl rfl (HL.eqF_bool (by decide) Try.underlying4 rfl rfl HL.eqF_nil)))))).2
@[go_sem] theorem T.se125 {H : HL.Heap} {xo yo : Operand} {a0 b0 : ByteArray} {a1 b1 : Int} {a2 b2 : Int} : HL.binV Try.prog (HL.full H) .eql 125 xo yo (.agg #[.string a0, .int .i64 a1, .int .i64 a2]) (.agg #[.string b0, .int .i64 b1, .int .i64 b2]) = some (.bool ((decide (a0 = b0 ∧ a1 = b1 ∧ a2 = b2 ∧ True)))) := (HL.bin_struct (xs := [.string a0, .int .i64 a1, .int .i64 a2]) (ys := [.string b0, .int .i64 b1, .int .i64 b2]) Try.underlying125 (by kernel_rfl) (by kernel_rfl) (HL.eqF_str (by decide) Try.underlying9 rfl rfl (HL.eqF_int (by decide) Try.underlying3 rfl rfl (HL.eqF_int (by decide) Try.underlying3 rfl rfl HL.eqF_nil)))).1
@[go_sem] theorem T.sn125 {H : HL.Heap} {xo yo : Operand} {a0 b0 : ByteArray} {a1 b1 : Int} {a2 b2 : Int} : HL.binV Try.prog (HL.full H) .neq 125 xo yo (.agg #[.string a0, .int .i64 a1, .int .i64 a2]) (.agg #[.string b0, .int .i64 b1, .int .i64 b2]) = some (.bool (!(decide (a0 = b0 ∧ a1 = b1 ∧ a2 = b2 ∧ True)))) := (HL.bin_struct (xs := [.string a0, .int .i64 a1, .int .i64 a2]) (ys := [.string b0, .int .i64 b1, .int .i64 b2]) Try.underlying125 (by kernel_rfl) (by kernel_rfl) (HL.eqF_str (by decide) Try.underlying9 rfl rfl (HL.eqF_int (by decide) Try.underlying3 rfl rfl (HL.eqF_int (by decide) Try.underlying3 rfl rfl HL.eqF_nil)))).2
@[go_sem] theorem T.cv2_2 {V : HL.HV} {k : IntKind} {n : Int} : HL.convV Try.prog V 2 2 (.int k n) = some (.int .i64 (IntKind.i64.wrap n)) := HL.conv_int Try.underlying2 Try.underlying2
@[go_sem] theorem T.cv2_3 {V : HL.HV} {k : IntKind} {n : Int} : HL.convV Try.prog V 2 3 (.int k n) = some (.int .i64 (IntKind.i64.wrap n)) := HL.conv_int Try.underlying2 Try.underlying3
@[go_sem] theorem T.cv2_5 {V : HL.HV} {k : IntKind} {n : Int} : HL.convV Try.prog V 2 5 (.int k n) = some (.int .u8 (IntKind.u8.wrap n)) := HL.conv_int Try.underlying2 Try.underlying5
@[go_sem] theorem T.cv2_6 {V : HL.HV} {k : IntKind} {n : Int} : HL.convV Try.prog V 2 6 (.int k n) = some (.int .u8 (IntKind.u8.wrap n)) := HL.conv_int Try.underlying2 Try.underlying6
@[go_sem] theorem T.cv2_12 {V : HL.HV} {k : IntKind} {n : Int} : HL.convV Try.prog V 2 12 (.int k n) = some (.int .u64 (IntKind.u64.wrap n)) := HL.conv_int Try.underlying2 Try.underlying12
@[go_sem] theorem T.cv2_21 {V : HL.HV} {k : IntKind} {n : Int} : HL.convV Try.prog V 2 21 (.int k n) = some (.int .i32 (IntKind.i32.wrap n)) := HL.conv_int Try.underlying2 Try.underlying21
@[go_sem] theorem T.cv2_25 {V : HL.HV} {k : IntKind} {n : Int} : HL.convV Try.prog V 2 25 (.int k n) = some (.int .i64 (IntKind.i64.wrap n)) := HL.conv_int Try.underlying2 Try.underlying25
@[go_sem] theorem T.cv2_156 {V : HL.HV} {k : IntKind} {n : Int} : HL.convV Try.prog V 2 156 (.int k n) = some (.int .u64 (IntKind.u64.wrap n)) := HL.conv_int Try.underlying2 Try.underlying156
@[go_sem] theorem T.cv2_157 {V : HL.HV} {k : IntKind} {n : Int} : HL.convV Try.prog V 2 157 (.int k n) = some (.int .u32 (IntKind.u32.wrap n)) := HL.conv_int Try.underlying2 Try.underlying157
@[go_sem] theorem T.cv2_165 {V : HL.HV} {k : IntKind} {n : Int} : HL.convV Try.prog V 2 165 (.int k n) = some (.int .u8 (IntKind.u8.wrap n)) := HL.conv_int Try.underlying2 Try.underlying165
@[go_sem] theorem T.cv2_166 {V : HL.HV} {k : IntKind} {n : Int} : HL.convV Try.prog V 2 166 (.int k n) = some (.int .u8 (IntKind.u8.wrap n)) := HL.conv_int Try.underlying2 Try.underlying166
@[go_sem] theorem T.cv2_169 {V : HL.HV} {k : IntKind} {n : Int} : HL.convV Try.prog V 2 169 (.int k n) = some (.int .i32 (IntKind.i32.wrap n)) := HL.conv_int Try.underlying2 Try.underlying169
@[go_sem] theorem T.cv2_170 {V : HL.HV} {k : IntKind} {n : Int} : HL.convV Try.prog V 2 170 (.int k n) = some (.int .i32 (IntKind.i32.wrap n)) := HL.conv_int Try.underlying2 Try.underlying170
@[go_sem] theorem T.cv3_2 {V : HL.HV} {k : IntKind} {n : Int} : HL.convV Try.prog V 3 2 (.int k n) = some (.int .i64 (IntKind.i64.wrap n)) := HL.conv_int Try.underlying3 Try.underlying2
@[go_sem] theorem T.cv3_3 {V : HL.HV} {k : IntKind} {n : Int} : HL.convV Try.prog V 3 3 (.int k n) = some (.int .i64 (IntKind.i64.wrap n)) := HL.conv_int Try.underlying3 Try.underlying3
@[go_sem] theorem T.cv3_5 {V : HL.HV} {k : IntKind} {n : Int} : HL.convV Try.prog V 3 5 (.int k n) = some (.int .u8 (IntKind.u8.wrap n)) := HL.conv_int Try.underlying3 Try.underlying5
@[go_sem] theorem T.cv3_6 {V : HL.HV} {k : IntKind} {n : Int} : HL.convV Try.prog V 3 6 (.int k n) = some (.int .u8 (IntKind.u8.wrap n)) := HL.conv_int Try.underlying3 Try.underlying6
@[go_sem] theorem T.cv3_12 {V : HL.HV} {k : IntKind} {n : Int} : HL.convV Try.prog V 3 12 (.int k n) = some (.int .u64 (IntKind.u64.wrap n)) := HL.conv_int Try.underlying3 Try.underlying12
@[go_sem] theorem T.cv3_21 {V : HL.HV} {k : IntKind} {n : Int} : HL.convV Try.prog V 3 21 (.int k n) = some (.int .i32 (IntKind.i32.wrap n)) := HL.conv_int Try.underlying3 Try.underlying21
@[go_sem] theorem T.cv3_25 {V : HL.HV} {k : IntKind} {n : Int} : HL.convV Try.prog V 3 25 (.int k n) = some (.int .i64 (IntKind.i64.wrap n)) := HL.conv_int Try.underlying3 Try.underlying25
@[go_sem] theorem T.cv3_156 {V : HL.HV} {k : IntKind} {n : Int} : HL.convV Try.prog V 3 156 (.int k n) = some (.int .u64 (IntKind.u64.wrap n)) := HL.conv_int Try.underlying3 Try.underlying156
@[go_sem] theorem T.cv3_157 {V : HL.HV} {k : IntKind} {n : Int} : HL.convV Try.prog V 3 157 (.int k n) = some (.int .u32 (IntKind.u32.wrap n)) := HL.conv_int Try.underlying3 Try.underlying157
@[go_sem] theorem T.cv3_165 {V : HL.HV} {k : IntKind} {n : Int} : HL.convV Try.prog V 3 165 (.int k n) = some (.int .u8 (IntKind.u8.wrap n)) := HL.conv_int Try.underlying3 Try.underlying165
@[go_sem] theorem T.cv3_166 {V : HL.HV} {k : IntKind} {n : Int} : HL.convV Try.prog V 3 166 (.int k n) = some (.int .u8 (IntKind.u8.wrap n)) := HL.conv_int Try.underlying3 Try.underlying166
@[go_sem] theorem T.cv3_169 {V : HL.HV} {k : IntKind} {n : Int} : HL.convV Try.prog V 3 169 (.int k n) = some (.int .i32 (IntKind.i32.wrap n)) := HL.conv_int Try.underlying3 Try.underlying169
@[go_sem] theorem T.cv3_170 {V : HL.HV} {k : IntKind} {n : Int} : HL.convV Try.prog V 3 170 (.int k n) = some (.int .i32 (IntKind.i32.wrap n)) := HL.conv_int Try.underlying3 Try.underlying170
@[go_sem] theorem T.cv5_2 {V : HL.HV} {k : IntKind} {n : Int} : HL.convV Try.prog V 5 2 (.int k n) = some (.int .i64 (IntKind.i64.wrap n)) := HL.conv_int Try.underlying5 Try.underlying2
@[go_sem] theorem T.cv5_3 {V : HL.HV} {k : IntKind} {n : Int} : HL.convV Try.prog V 5 3 (.int k n) = some (.int .i64 (IntKind.i64.wrap n)) := HL.conv_int Try.underlying5 Try.underlying3
@[go_sem] theorem T.cv5_5 {V : HL.HV} {k : IntKind} {n : Int} : HL.convV Try.prog V 5 5 (.int k n) = some (.int .u8 (IntKind.u8.wrap n)) := HL.conv_int Try.underlying5 Try.underlying5
@[go_sem] theorem T.cv5_6 {V : HL.HV} {k : IntKind} {n : Int} : HL.convV Try.prog V 5 6 (.int k n) = some (.int .u8 (IntKind.u8.wrap n)) := HL.conv_int Try.underlying5 Try.underlying6
@[go_sem] theorem T.cv5_12 {V : HL.HV} {k : IntKind} {n : Int} : HL.convV Try.prog V 5 12 (.int k n) = some (.int .u64 (IntKind.u64.wrap n)) := HL.conv_int Try.underlying5 Try.underlying12
@[go_sem] theorem T.cv5_21 {V : HL.HV} {k : IntKind} {n : Int} : HL.convV Try.prog V 5 21 (.int k n) = some (.int .i32 (IntKind.i32.wrap n)) := HL.conv_int Try.underlying5 Try.underlying21
@[go_sem] theorem T.cv5_25 {V : HL.HV} {k : IntKind} {n : Int} : HL.convV Try.prog V 5 25 (.int k n) = some (.int .i64 (IntKind.i64.wrap n)) := HL.conv_int Try.underlying5 Try.underlying25
@[go_sem] theorem T.cv5_156 {V : HL.HV} {k : IntKind} {n : Int} : HL.convV Try.prog V 5 156 (.int k n) = some (.int .u64 (IntKind.u64.wrap n)) := HL.conv_int Try.underlying5 Try.underlying156
@[go_sem] theorem T.cv5_157 {V : HL.HV} {k : IntKind} {n : Int} : HL.convV Try.prog V 5 157 (.int k n) = some (.int .u32 (IntKind.u32.wrap n)) := HL.conv_int Try.underlying5 Try.underlying157
@[go_sem] theorem T.cv5_165 {V : HL.HV} {k : IntKind} {n : Int} : HL.convV Try.prog V 5 165 (.int k n) = some (.int .u8 (IntKind.u8.wrap n)) := HL.conv_int Try.underlying5 Try.underlying165
@[go_sem] theorem T.cv5_166 {V : HL.HV} {k : IntKind} {n : Int} : HL.convV Try.prog V 5 166 (.int k n) = some (.int .u8 (IntKind.u8.wrap n)) := HL.conv_int Try.underlying5 Try.underlying166
@[go_sem] theorem T.cv5_169 {V : HL.HV} {k : IntKind} {n : Int} : HL.convV Try.prog V 5 169 (.int k n) = some (.int .i32 (IntKind.i32.wrap n)) := HL.conv_int Try.underlying5 Try.underlying169
@[go_sem] theorem T.cv5_170 {V : HL.HV} {k : IntKind} {n : Int} : HL.convV Try.prog V 5 170 (.int k n) = some (.int .i32 (IntKind.i32.wrap n)) := HL.conv_int Try.underlying5 Try.underlying170
@[go_sem] theorem T.cv6_2 {V : HL.HV} {k : IntKind} {n : Int} : HL.convV Try.prog V 6 2 (.int k n) = some (.int .i64 (IntKind.i64.wrap n)) := HL.conv_int Try.underlying6 Try.underlying2
@[go_sem] theorem T.cv6_3 {V : HL.HV} {k : IntKind} {n : Int} : HL.convV Try.prog V 6 3 (.int k n) = some (.int .i64 (IntKind.i64.wrap n)) := HL.conv_int Try.underlying6 Try.underlying3
@[go_sem] theorem T.cv6_5 {V : HL.HV} {k : IntKind} {n : Int} : HL.convV Try.prog V 6 5 (.int k n) = some (.int .u8 (IntKind.u8.wrap n)) := HL.conv_int Try.underlying6 Try.underlying5
@[go_sem] theorem T.cv6_6 {V : HL.HV} {k : IntKind} {n : Int} : HL.convV Try.prog V 6 6 (.int k n) = some (.int .u8 (IntKind.u8.wrap n)) := HL.conv_int Try.underlying6 Try.underlying6
@[go_sem] theorem T.cv6_12 {V : HL.HV} {k : IntKind} {n : Int} : HL.convV Try.prog V 6 12 (.int k n) = some (.int .u64 (IntKind.u64.wrap n)) := HL.conv_int Try.underlying6 Try.underlying12
@[go_sem] theorem T.cv6_21 {V : HL.HV} {k : IntKind} {n : Int} : HL.convV Try.prog V 6 21 (.int k n) = some (.int .i32 (IntKind.i32.wrap n)) := HL.conv_int Try.underlying6 Try.underlying21
@[go_sem] theorem T.cv6_25 {V : HL.HV} {k : IntKind} {n : Int} : HL.convV Try.prog V 6 25 (.int k n) = some (.int .i64 (IntKind.i64.wrap n)) := HL.conv_int Try.underlying6 Try.underlying25
@[go_sem] theorem T.cv6_156 {V : HL.HV} {k : IntKind} {n : Int} : HL.convV Try.prog V 6 156 (.int k n) = some (.int .u64 (IntKind.u64.wrap n)) := HL.conv_int Try.underlying6 Try.underlying156
@[go_sem] theorem T.cv6_157 {V : HL.HV} {k : IntKind} {n : Int} : HL.convV Try.prog V 6 157 (.int k n) = some (.int .u32 (IntKind.u32.wrap n)) := HL.conv_int Try.underlying6 Try.underlying157
@[go_sem] theorem T.cv6_165 {V : HL.HV} {k : IntKind} {n : Int} : HL.convV Try.prog V 6 165 (.int k n) = some (.int .u8 (IntKind.u8.wrap n)) := HL.conv_int Try.underlying6 Try.underlying165
@[go_sem] theorem T.cv6_166 {V : HL.HV} {k : IntKind} {n : Int} : HL.convV Try.prog V 6 166 (.int k n) = some (.int .u8 (IntKind.u8.wrap n)) := HL.conv_int Try.underlying6 Try.underlying166
@[go_sem] theorem T.cv6_169 {V : HL.HV} {k : IntKind} {n : Int} : HL.convV Try.prog V 6 169 (.int k n) = some (.int .i32 (IntKind.i32.wrap n)) := HL.conv_int Try.underlying6 Try.underlying169
@[go_sem] theorem T.cv6_170 {V : HL.HV} {k : IntKind} {n : Int} : HL.convV Try.prog V 6 170 (.int k n) = some (.int .i32 (IntKind.i32.wrap n)) := HL.conv_int Try.underlying6 Try.underlying170
@[go_sem] theorem T.cv12_2 {V : HL.HV} {k : IntKind} {n : Int} : HL.convV Try.prog V 12 2 (.int k n) = some (.int .i64 (IntKind.i64.wrap n)) := HL.conv_int Try.underlying12 Try.underlying2
@[go_sem] theorem T.cv12_3 {V : HL.HV} {k : IntKind} {n : Int} : HL.convV Try.prog V 12 3 (.int k n) = some (.int .i64 (IntKind.i64.wrap n)) := HL.conv_int Try.underlying12 Try.underlying3
@[go_sem] theorem T.cv12_5 {V : HL.HV} {k : IntKind} {n : Int} : HL.convV Try.prog V 12 5 (.int k n) = some (.int .u8 (IntKind.u8.wrap n)) := HL.conv_int Try.underlying12 Try.underlying5
@[go_sem] theorem T.cv12_6 {V : HL.HV} {k : IntKind} {n : Int} : HL.convV Try.prog V 12 6 (.int k n) = some (.int .u8 (IntKind.u8.wrap n)) := HL.conv_int Try.underlying12 Try.underlying6
@[go_sem] theorem T.cv12_12 {V : HL.HV} {k : IntKind} {n : Int} : HL.convV Try.prog V 12 12 (.int k n) = some (.int .u64 (IntKind.u64.wrap n)) := HL.conv_int Try.underlying12 Try.underlying12
@[go_sem] theorem T.cv12_21 {V : HL.HV} {k : IntKind} {n : Int} : HL.convV Try.prog V 12 21 (.int k n) = some (.int .i32 (IntKind.i32.wrap n)) := HL.conv_int Try.underlying12 Try.underlying21
@[go_sem] theorem T.cv12_25 {V : HL.HV} {k : IntKind} {n : Int} : HL.convV Try.prog V 12 25 (.int k n) = some (.int .i64 (IntKind.i64.wrap n)) := HL.conv_int Try.underlying12 Try.underlying25
@[go_sem] theorem T.cv12_156 {V : HL.HV} {k : IntKind} {n : Int} : HL.convV Try.prog V 12 156 (.int k n) = some (.int .u64 (IntKind.u64.wrap n)) := HL.conv_int Try.underlying12 Try.underlying156
@[go_sem] theorem T.cv12_157 {V : HL.HV} {k : IntKind} {n : Int} : HL.convV Try.prog V 12 157 (.int k n) = some (.int .u32 (IntKind.u32.wrap n)) := HL.conv_int Try.underlying12 Try.underlying157
@[go_sem] theorem T.cv12_165 {V : HL.HV} {k : IntKind} {n : Int} : HL.convV Try.prog V 12 165 (.int k n) = some (.int .u8 (IntKind.u8.wrap n)) := HL.conv_int Try.underlying12 Try.underlying165
@[go_sem] theorem T.cv12_166 {V : HL.HV} {k : IntKind} {n : Int} : HL.convV Try.prog V 12 166 (.int k n) = some (.int .u8 (IntKind.u8.wrap n)) := HL.conv_int Try.underlying12 Try.underlying166
@[go_sem] theorem T.cv12_169 {V : HL.HV} {k : IntKind} {n : Int} : HL.convV Try.prog V 12 169 (.int k n) = some (.int .i32 (IntKind.i32.wrap n)) := HL.conv_int Try.underlying12 Try.underlying169
@[go_sem] theorem T.cv12_170 {V : HL.HV} {k : IntKind} {n : Int} : HL.convV Try.prog V 12 170 (.int k n) = some (.int .i32 (IntKind.i32.wrap n)) := HL.conv_int Try.underlying12 Try.underlying170
@[go_sem] theorem T.cv21_2 {V : HL.HV} {k : IntKind} {n : Int} : HL.convV Try.prog V 21 2 (.int k n) = some (.int .i64 (IntKind.i64.wrap n)) := HL.conv_int Try.underlying21 Try.underlying2
@[go_sem] theorem T.cv21_3 {V : HL.HV} {k : IntKind} {n : Int} : HL.convV Try.prog V 21 3 (.int k n) = some (.int .i64 (IntKind.i64.wrap n)) := HL.conv_int Try.underlying21 Try.underlying3
@[go_sem] theorem T.cv21_5 {V : HL.HV} {k : IntKind} {n : Int} : HL.convV Try.prog V 21 5 (.int k n) = some (.int .u8 (IntKind.u8.wrap n)) := HL.conv_int Try.underlying21 Try.underlying5
@[go_sem] theorem T.cv21_6 {V : HL.HV} {k : IntKind} {n : Int} : HL.convV Try.prog V 21 6 (.int k n) = some (.int .u8 (IntKind.u8.wrap n)) := HL.conv_int Try.underlying21 Try.underlying6
@[go_sem] theorem T.cv21_12 {V : HL.HV} {k : IntKind} {n : Int} : HL.convV Try.prog V 21 12 (.int k n) = some (.int .u64 (IntKind.u64.wrap n)) := HL.conv_int Try.underlying21 Try.underlying12
@[go_sem] theorem T.cv21_21 {V : HL.HV} {k : IntKind} {n : Int} : HL.convV Try.prog V 21 21 (.int k n) = some (.int .i32 (IntKind.i32.wrap n)) := HL.conv_int Try.underlying21 Try.underlying21
@[go_sem] theorem T.cv21_25 {V : HL.HV} {k : IntKind} {n : Int} : HL.convV Try.prog V 21 25 (.int k n) = some (.int .i64 (IntKind.i64.wrap n)) := HL.conv_int Try.underlying21 Try.underlying25
@[go_sem] theorem T.cv21_156 {V : HL.HV} {k : IntKind} {n : Int} : HL.convV Try.prog V 21 156 (.int k n) = some (.int .u64 (IntKind.u64.wrap n)) := HL.conv_int Try.underlying21 Try.underlying156
@[go_sem] theorem T.cv21_157 {V : HL.HV} {k : IntKind} {n : Int} : HL.convV Try.prog V 21 157 (.int k n) = some (.int .u32 (IntKind.u32.wrap n)) := HL.conv_int Try.underlying21 Try.underlying157
@[go_sem] theorem T.cv21_165 {V : HL.HV} {k : IntKind} {n : Int} : HL.convV Try.prog V 21 165 (.int k n) = some (.int .u8 (IntKind.u8.wrap n)) := HL.conv_int Try.underlying21 Try.underlying165
@[go_sem] theorem T.cv21_166 {V : HL.HV} {k : IntKind} {n : Int} : HL.convV Try.prog V 21 166 (.int k n) = some (.int .u8 (IntKind.u8.wrap n)) := HL.conv_int Try.underlying21 Try.underlying166
@[go_sem] theorem T.cv21_169 {V : HL.HV} {k : IntKind} {n : Int} : HL.convV Try.prog V 21 169 (.int k n) = some (.int .i32 (IntKind.i32.wrap n)) := HL.conv_int Try.underlying21 Try.underlying169
@[go_sem] theorem T.cv21_170 {V : HL.HV} {k : IntKind} {n : Int} : HL.convV Try.prog V 21 170 (.int k n) = some (.int .i32 (IntKind.i32.wrap n)) := HL.conv_int Try.underlying21 Try.underlying170
@[go_sem] theorem T.cv25_2 {V : HL.HV} {k : IntKind} {n : Int} : HL.convV Try.prog V 25 2 (.int k n) = some (.int .i64 (IntKind.i64.wrap n)) := HL.conv_int Try.underlying25 Try.underlying2
@[go_sem] theorem T.cv25_3 {V : HL.HV} {k : IntKind} {n : Int} : HL.convV Try.prog V 25 3 (.int k n) = some (.int .i64 (IntKind.i64.wrap n)) := HL.conv_int Try.underlying25 Try.underlying3
@[go_sem] theorem T.cv25_5 {V : HL.HV} {k : IntKind} {n : Int} : HL.convV Try.prog V 25 5 (.int k n) = some (.int .u8 (IntKind.u8.wrap n)) := HL.conv_int Try.underlying25 Try.underlying5
@[go_sem] theorem T.cv25_6 {V : HL.HV} {k : IntKind} {n : Int} : HL.convV Try.prog V 25 6 (.int k n) = some (.int .u8 (IntKind.u8.wrap n)) := HL.conv_int Try.underlying25 Try.underlying6
@[go_sem] theorem T.cv25_12 {V : HL.HV} {k : IntKind} {n : Int} : HL.convV Try.prog V 25 12 (.int k n) = some (.int .u64 (IntKind.u64.wrap n)) := HL.conv_int Try.underlying25 Try.underlying12
@[go_sem] theorem T.cv25_21 {V : HL.HV} {k : IntKind} {n : Int} : HL.convV Try.prog V 25 21 (.int k n) = some (.int .i32 (IntKind.i32.wrap n)) := HL.conv_int Try.underlying25 Try.underlying21
@[go_sem] theorem T.cv25_25 {V : HL.HV} {k : IntKind} {n : Int} : HL.convV Try.prog V 25 25 (.int k n) = some (.int .i64 (IntKind.i64.wrap n)) := HL.conv_int Try.underlying25 Try.underlying25
@[go_sem] theorem T.cv25_156 {V : HL.HV} {k : IntKind} {n : Int} : HL.convV Try.prog V 25 156 (.int k n) = some (.int .u64 (IntKind.u64.wrap n)) := HL.conv_int Try.underlying25 Try.underlying156
@[go_sem] theorem T.cv25_157 {V : HL.HV} {k : IntKind} {n : Int} : HL.convV Try.prog V 25 157 (.int k n) = some (.int .u32 (IntKind.u32.wrap n)) := HL.conv_int Try.underlying25 Try.underlying157
@[go_sem] theorem T.cv25_165 {V : HL.HV} {k : IntKind} {n : Int} : HL.convV Try.prog V 25 165 (.int k n) = some (.int .u8 (IntKind.u8.wrap n)) := HL.conv_int Try.underlying25 Try.underlying165
@[go_sem] theorem T.cv25_166 {V : HL.HV} {k : IntKind} {n : Int} : HL.convV Try.prog V 25 166 (.int k n) = some (.int .u8 (IntKind.u8.wrap n)) := HL.conv_int Try.underlying25 Try.underlying166
@[go_sem] theorem T.cv25_169 {V : HL.HV} {k : IntKind} {n : Int} : HL.convV Try.prog V 25 169 (.int k n) = some (.int .i32 (IntKind.i32.wrap n)) := HL.conv_int Try.underlying25 Try.underlying169
@[go_sem] theorem T.cv25_170 {V : HL.HV} {k : IntKind} {n : Int} : HL.convV Try.prog V 25 170 (.int k n) = some (.int .i32 (IntKind.i32.wrap n)) := HL.conv_int Try.underlying25 Try.underlying170
@[go_sem] theorem T.cv156_2 {V : HL.HV} {k : IntKind} {n : Int} : HL.convV Try.prog V 156 2 (.int k n) = some (.int .i64 (IntKind.i64.wrap n)) := HL.conv_int Try.underlying156 Try.underlying2
@[go_sem] theorem T.cv156_3 {V : HL.HV} {k : IntKind} {n : Int} : HL.convV Try.prog V 156 3 (.int k n) = some (.int .i64 (IntKind.i64.wrap n)) := HL.conv_int Try.underlying156 Try.underlying3
@[go_sem] theorem T.cv156_5 {V : HL.HV} {k : IntKind} {n : Int} : HL.convV Try.prog V 156 5 (.int k n) = some (.int .u8 (IntKind.u8.wrap n)) := HL.conv_int Try.underlying156 Try.underlying5
@[go_sem] theorem T.cv156_6 {V : HL.HV} {k : IntKind} {n : Int} : HL.convV Try.prog V 156 6 (.int k n) = some (.int .u8 (IntKind.u8.wrap n)) := HL.conv_int Try.underlying156 Try.underlying6
@[go_sem] theorem T.cv156_12 {V : HL.HV} {k : IntKind} {n : Int} : HL.convV Try.prog V 156 12 (.int k n) = some (.int .u64 (IntKind.u64.wrap n)) := HL.conv_int Try.underlying156 Try.underlying12
@[go_sem] theorem T.cv156_21 {V : HL.HV} {k : IntKind} {n : Int} : HL.convV Try.prog V 156 21 (.int k n) = some (.int .i32 (IntKind.i32.wrap n)) := HL.conv_int Try.underlying156 Try.underlying21
@[go_sem] theorem T.cv156_25 {V : HL.HV} {k : IntKind} {n : Int} : HL.convV Try.prog V 156 25 (.int k n) = some (.int .i64 (IntKind.i64.wrap n)) := HL.conv_int Try.underlying156 Try.underlying25
@[go_sem] theorem T.cv156_156 {V : HL.HV} {k : IntKind} {n : Int} : HL.convV Try.prog V 156 156 (.int k n) = some (.int .u64 (IntKind.u64.wrap n)) := HL.conv_int Try.underlying156 Try.underlying156
@[go_sem] theorem T.cv156_157 {V : HL.HV} {k : IntKind} {n : Int} : HL.convV Try.prog V 156 157 (.int k n) = some (.int .u32 (IntKind.u32.wrap n)) := HL.conv_int Try.underlying156 Try.underlying157
@[go_sem] theorem T.cv156_165 {V : HL.HV} {k : IntKind} {n : Int} : HL.convV Try.prog V 156 165 (.int k n) = some (.int .u8 (IntKind.u8.wrap n)) := HL.conv_int Try.underlying156 Try.underlying165
@[go_sem] theorem T.cv156_166 {V : HL.HV} {k : IntKind} {n : Int} : HL.convV Try.prog V 156 166 (.int k n) = some (.int .u8 (IntKind.u8.wrap n)) := HL.conv_int Try.underlying156 Try.underlying166
@[go_sem] theorem T.cv156_169 {V : HL.HV} {k : IntKind} {n : Int} : HL.convV Try.prog V 156 169 (.int k n) = some (.int .i32 (IntKind.i32.wrap n)) := HL.conv_int Try.underlying156 Try.underlying169
@[go_sem] theorem T.cv156_170 {V : HL.HV} {k : IntKind} {n : Int} : HL.convV Try.prog V 156 170 (.int k n) = some (.int .i32 (IntKind.i32.wrap n)) := HL.conv_int Try.underlying156 Try.underlying170
@[go_sem] theorem T.cv157_2 {V : HL.HV} {k : IntKind} {n : Int} : HL.convV Try.prog V 157 2 (.int k n) = some (.int .i64 (IntKind.i64.wrap n)) := HL.conv_int Try.underlying157 Try.underlying2
@[go_sem] theorem T.cv157_3 {V : HL.HV} {k : IntKind} {n : Int} : HL.convV Try.prog V 157 3 (.int k n) = some (.int .i64 (IntKind.i64.wrap n)) := HL.conv_int Try.underlying157 Try.underlying3
@[go_sem] theorem T.cv157_5 {V : HL.HV} {k : IntKind} {n : Int} : HL.convV Try.prog V 157 5 (.int k n) = some (.int .u8 (IntKind.u8.wrap n)) := HL.conv_int Try.underlying157 Try.underlying5
@[go_sem] theorem T.cv157_6 {V : HL.HV} {k : IntKind} {n : Int} : HL.convV Try.prog V 157 6 (.int k n) = some (.int .u8 (IntKind.u8.wrap n)) := HL.conv_int Try.underlying157 Try.underlying6
@[go_sem] theorem T.cv157_12 {V : HL.HV} {k : IntKind} {n : Int} : HL.convV Try.prog V 157 12 (.int k n) = some (.int .u64 (IntKind.u64.wrap n)) := HL.conv_int Try.underlying157 Try.underlying12
@[go_sem] theorem T.cv157_21 {V : HL.HV} {k : IntKind} {n : Int} : HL.convV Try.prog V 157 21 (.int k n) = some (.int .i32 (IntKind.i32.wrap n)) := HL.conv_int Try.underlying157 Try.underlying21
@[go_sem] theorem T.cv157_25 {V : HL.HV} {k : IntKind} {n : Int} : HL.convV Try.prog V 157 25 (.int k n) = some (.int .i64 (IntKind.i64.wrap n)) := HL.conv_int Try.underlying157 Try.underlying25
@[go_sem] theorem T.cv157_156 {V : HL.HV} {k : IntKind} {n : Int} : HL.convV Try.prog V 157 156 (.int k n) = some (.int .u64 (IntKind.u64.wrap n)) := HL.conv_int Try.underlying157 Try.underlying156
@[go_sem] theorem T.cv157_157 {V : HL.HV} {k : IntKind} {n : Int} : HL.convV Try.prog V 157 157 (.int k n) = some (.int .u32 (IntKind.u32.wrap n)) := HL.conv_int Try.underlying157 Try.underlying157
@[go_sem] theorem T.cv157_165 {V : HL.HV} {k : IntKind} {n : Int} : HL.convV Try.prog V 157 165 (.int k n) = some (.int .u8 (IntKind.u8.wrap n)) := HL.conv_int Try.underlying157 Try.underlying165
@[go_sem] theorem T.cv157_166 {V : HL.HV} {k : IntKind} {n : Int} : HL.convV Try.prog V 157 166 (.int k n) = some (.int .u8 (IntKind.u8.wrap n)) := HL.conv_int Try.underlying157 Try.underlying166
@[go_sem] theorem T.cv157_169 {V : HL.HV} {k : IntKind} {n : Int} : HL.convV Try.prog V 157 169 (.int k n) = some (.int .i32 (IntKind.i32.wrap n)) := HL.conv_int Try.underlying157 Try.underlying169
@[go_sem] theorem T.cv157_170 {V : HL.HV} {k : IntKind} {n : Int} : HL.convV Try.prog V 157 170 (.int k n) = some (.int .i32 (IntKind.i32.wrap n)) := HL.conv_int Try.underlying157 Try.underlying170
@[go_sem] theorem T.cv165_2 {V : HL.HV} {k : IntKind} {n : Int} : HL.convV Try.prog V 165 2 (.int k n) = some (.int .i64 (IntKind.i64.wrap n)) := HL.conv_int Try.underlying165 Try.underlying2
@[go_sem] theorem T.cv165_3 {V : HL.HV} {k : IntKind} {n : Int} : HL.convV Try.prog V 165 3 (.int k n) = some (.int .i64 (IntKind.i64.wrap n)) := HL.conv_int Try.underlying165 Try.underlying3
@[go_sem] theorem T.cv165_5 {V : HL.HV} {k : IntKind} {n : Int} : HL.convV Try.prog V 165 5 (.int k n) = some (.int .u8 (IntKind.u8.wrap n)) := HL.conv_int Try.underlying165 Try.underlying5
@[go_sem] theorem T.cv165_6 {V : HL.HV} {k : IntKind} {n : Int} : HL.convV Try.prog V 165 6 (.int k n) = some (.int .u8 (IntKind.u8.wrap n)) := HL.conv_int Try.underlying165 Try.underlying6
@[go_sem] theorem T.cv165_12 {V : HL.HV} {k : IntKind} {n : Int} : HL.convV Try.prog V 165 12 (.int k n) = some (.int .u64 (IntKind.u64.wrap n)) := HL.conv_int Try.underlying165 Try.underlying12
@[go_sem] theorem T.cv165_21 {V : HL.HV} {k : IntKind} {n : Int} : HL.convV Try.prog V 165 21 (.int k n) = some (.int .i32 (IntKind.i32.wrap n)) := HL.conv_int Try.underlying165 Try.underlying21
@[go_sem] theorem T.cv165_25 {V : HL.HV} {k : IntKind} {n : Int} : HL.convV Try.prog V 165 25 (.int k n) = some (.int .i64 (IntKind.i64.wrap n)) := HL.conv_int Try.underlying165 Try.underlying25
@[go_sem] theorem T.cv165_156 {V : HL.HV} {k : IntKind} {n : Int} : HL.convV Try.prog V 165 156 (.int k n) = some (.int .u64 (IntKind.u64.wrap n)) := HL.conv_int Try.underlying165 Try.underlying156
@[go_sem] theorem T.cv165_157 {V : HL.HV} {k : IntKind} {n : Int} : HL.convV Try.prog V 165 157 (.int k n) = some (.int .u32 (IntKind.u32.wrap n)) := HL.conv_int Try.underlying165 Try.underlying157
@[go_sem] theorem T.cv165_165 {V : HL.HV} {k : IntKind} {n : Int} : HL.convV Try.prog V 165 165 (.int k n) = some (.int .u8 (IntKind.u8.wrap n)) := HL.conv_int Try.underlying165 Try.underlying165
@[go_sem] theorem T.cv165_166 {V : HL.HV} {k : IntKind} {n : Int} : HL.convV Try.prog V 165 166 (.int k n) = some (.int .u8 (IntKind.u8.wrap n)) := HL.conv_int Try.underlying165 Try.underlying166
@[go_sem] theorem T.cv165_169 {V : HL.HV} {k : IntKind} {n : Int} : HL.convV Try.prog V 165 169 (.int k n) = some (.int .i32 (IntKind.i32.wrap n)) := HL.conv_int Try.underlying165 Try.underlying169
@[go_sem] theorem T.cv165_170 {V : HL.HV} {k : IntKind} {n : Int} : HL.convV Try.prog V 165 170 (.int k n) = some (.int .i32 (IntKind.i32.wrap n)) := HL.conv_int Try.underlying165 Try.underlying170
@[go_sem] theorem T.cv166_2 {V : HL.HV} {k : IntKind} {n : Int} : HL.convV Try.prog V 166 2 (.int k n) = some (.int .i64 (IntKind.i64.wrap n)) := HL.conv_int Try.underlying166 Try.underlying2
@[go_sem] theorem T.cv166_3 {V : HL.HV} {k : IntKind} {n : Int} : HL.convV Try.prog V 166 3 (.int k n) = some (.int .i64 (IntKind.i64.wrap n)) := HL.conv_int Try.underlying166 Try.underlying3
@[go_sem] theorem T.cv166_5 {V : HL.HV} {k : IntKind} {n : Int} : HL.convV Try.prog V 166 5 (.int k n) = some (.int .u8 (IntKind.u8.wrap n)) := HL.conv_int Try.underlying166 Try.underlying5
@[go_sem] theorem T.cv166_6 {V : HL.HV} {k : IntKind} {n : Int} : HL.convV Try.prog V 166 6 (.int k n) = some (.int .u8 (IntKind.u8.wrap n)) := HL.conv_int Try.underlying166 Try.underlying6
@[go_sem] theorem T.cv166_12 {V : HL.HV} {k : IntKind} {n : Int} : HL.convV Try.prog V 166 12 (.int k n) = some (.int .u64 (IntKind.u64.wrap n)) := HL.conv_int Try.underlying166 Try.underlying12
@[go_sem] theorem T.cv166_21 {V : HL.HV} {k : IntKind} {n : Int} : HL.convV Try.prog V 166 21 (.int k n) = some (.int .i32 (IntKind.i32.wrap n)) := HL.conv_int Try.underlying166 Try.underlying21
@[go_sem] theorem T.cv166_25 {V : HL.HV} {k : IntKind} {n : Int} : HL.convV Try.prog V 166 25 (.int k n) = some (.int .i64 (IntKind.i64.wrap n)) := HL.conv_int Try.underlying166 Try.underlying25
@[go_sem] theorem T.cv166_156 {V : HL.HV} {k : IntKind} {n : Int} : HL.convV Try.prog V 166 156 (.int k n) = some (.int .u64 (IntKind.u64.wrap n)) := HL.conv_int Try.underlying166 Try.underlying156
@[go_sem] theorem T.cv166_157 {V : HL.HV} {k : IntKind} {n : Int} : HL.convV Try.prog V 166 157 (.int k n) = some (.int .u32 (IntKind.u32.wrap n)) := HL.conv_int Try.underlying166 Try.underlying157
@[go_sem] theorem T.cv166_165 {V : HL.HV} {k : IntKind} {n : Int} : HL.convV Try.prog V 166 165 (.int k n) = some (.int .u8 (IntKind.u8.wrap n)) := HL.conv_int Try.underlying166 Try.underlying165
@[go_sem] theorem T.cv166_166 {V : HL.HV} {k : IntKind} {n : Int} : HL.convV Try.prog V 166 166 (.int k n) = some (.int .u8 (IntKind.u8.wrap n)) := HL.conv_int Try.underlying166 Try.underlying166
@[go_sem] theorem T.cv166_169 {V : HL.HV} {k : IntKind} {n : Int} : HL.convV Try.prog V 166 169 (.int k n) = some (.int .i32 (IntKind.i32.wrap n)) := HL.conv_int Try.underlying166 Try.underlying169
@[go_sem] theorem T.cv166_170 {V : HL.HV} {k : IntKind} {n : Int} : HL.convV Try.prog V 166 170 (.int k n) = some (.int .i32 (IntKind.i32.wrap n)) := HL.conv_int Try.underlying166 Try.underlying170
@[go_sem] theorem T.cv169_2 {V : HL.HV} {k : IntKind} {n : Int} : HL.convV Try.prog V 169 2 (.int k n) = some (.int .i64 (IntKind.i64.wrap n)) := HL.conv_int Try.underlying169 Try.underlying2
@[go_sem] theorem T.cv169_3 {V : HL.HV} {k : IntKind} {n : Int} : HL.convV Try.prog V 169 3 (.int k n) = some (.int .i64 (IntKind.i64.wrap n)) := HL.conv_int Try.underlying169 Try.underlying3
@[go_sem] theorem T.cv169_5 {V : HL.HV} {k : IntKind} {n : Int} : HL.convV Try.prog V 169 5 (.int k n) = some (.int .u8 (IntKind.u8.wrap n)) := HL.conv_int Try.underlying169 Try.underlying5
@[go_sem] theorem T.cv169_6 {V : HL.HV} {k : IntKind} {n : Int} : HL.convV Try.prog V 169 6 (.int k n) = some (.int .u8 (IntKind.u8.wrap n)) := HL.conv_int Try.underlying169 Try.underlying6
@[go_sem] theorem T.cv169_12 {V : HL.HV} {k : IntKind} {n : Int} : HL.convV Try.prog V 169 12 (.int k n) = some (.int .u64 (IntKind.u64.wrap n)) := HL.conv_int Try.underlying169 Try.underlying12
@[go_sem] theorem T.cv169_21 {V : HL.HV} {k : IntKind} {n : Int} : HL.convV Try.prog V 169 21 (.int k n) = some (.int .i32 (IntKind.i32.wrap n)) := HL.conv_int Try.underlying169 Try.underlying21
@[go_sem] theorem T.cv169_25 {V : HL.HV} {k : IntKind} {n : Int} : HL.convV Try.prog V 169 25 (.int k n) = some (.int .i64 (IntKind.i64.wrap n)) := HL.conv_int Try.underlying169 Try.underlying25
@[go_sem] theorem T.cv169_156 {V : HL.HV} {k : IntKind} {n : Int} : HL.convV Try.prog V 169 156 (.int k n) = some (.int .u64 (IntKind.u64.wrap n)) := HL.conv_int Try.underlying169 Try.underlying156
@[go_sem] theorem T.cv169_157 {V : HL.HV} {k : IntKind} {n : Int} : HL.convV Try.prog V 169 157 (.int k n) = some (.int .u32 (IntKind.u32.wrap n)) := HL.conv_int Try.underlying169 Try.underlying157
@[go_sem] theorem T.cv169_165 {V : HL.HV} {k : IntKind} {n : Int} : HL.convV Try.prog V 169 165 (.int k n) = some (.int .u8 (IntKind.u8.wrap n)) := HL.conv_int Try.underlying169 Try.underlying165
@[go_sem] theorem T.cv169_166 {V : HL.HV} {k : IntKind} {n : Int} : HL.convV Try.prog V 169 166 (.int k n) = some (.int .u8 (IntKind.u8.wrap n)) := HL.conv_int Try.underlying169 Try.underlying166
@[go_sem] theorem T.cv169_169 {V : HL.HV} {k : IntKind} {n : Int} : HL.convV Try.prog V 169 169 (.int k n) = some (.int .i32 (IntKind.i32.wrap n)) := HL.conv_int Try.underlying169 Try.underlying169
@[go_sem] theorem T.cv169_170 {V : HL.HV} {k : IntKind} {n : Int} : HL.convV Try.prog V 169 170 (.int k n) = some (.int .i32 (IntKind.i32.wrap n)) := HL.conv_int Try.underlying169 Try.underlying170
@[go_sem] theorem T.cv170_2 {V : HL.HV} {k : IntKind} {n : Int} : HL.convV Try.prog V 170 2 (.int k n) = some (.int .i64 (IntKind.i64.wrap n)) := HL.conv_int Try.underlying170 Try.underlying2
@[go_sem] theorem T.cv170_3 {V : HL.HV} {k : IntKind} {n : Int} : HL.convV Try.prog V 170 3 (.int k n) = some (.int .i64 (IntKind.i64.wrap n)) := HL.conv_int Try.underlying170 Try.underlying3
@[go_sem] theorem T.cv170_5 {V : HL.HV} {k : IntKind} {n : Int} : HL.convV Try.prog V 170 5 (.int k n) = some (.int .u8 (IntKind.u8.wrap n)) := HL.conv_int Try.underlying170 Try.underlying5
@[go_sem] theorem T.cv170_6 {V : HL.HV} {k : IntKind} {n : Int} : HL.convV Try.prog V 170 6 (.int k n) = some (.int .u8 (IntKind.u8.wrap n)) := HL.conv_int Try.underlying170 Try.underlying6
@[go_sem] theorem T.cv170_12 {V : HL.HV} {k : IntKind} {n : Int} : HL.convV Try.prog V 170 12 (.int k n) = some (.int .u64 (IntKind.u64.wrap n)) := HL.conv_int Try.underlying170 Try.underlying12
@[go_sem] theorem T.cv170_21 {V : HL.HV} {k : IntKind} {n : Int} : HL.convV Try.prog V 170 21 (.int k n) = some (.int .i32 (IntKind.i32.wrap n)) := HL.conv_int Try.underlying170 Try.underlying21
@[go_sem] theorem T.cv170_25 {V : HL.HV} {k : IntKind} {n : Int} : HL.convV Try.prog V 170 25 (.int k n) = some (.int .i64 (IntKind.i64.wrap n)) := HL.conv_int Try.underlying170 Try.underlying25
@[go_sem] theorem T.cv170_156 {V : HL.HV} {k : IntKind} {n : Int} : HL.convV Try.prog V 170 156 (.int k n) = some (.int .u64 (IntKind.u64.wrap n)) := HL.conv_int Try.underlying170 Try.underlying156
@[go_sem] theorem T.cv170_157 {V : HL.HV} {k : IntKind} {n : Int} : HL.convV Try.prog V 170 157 (.int k n) = some (.int .u32 (IntKind.u32.wrap n)) := HL.conv_int Try.underlying170 Try.underlying157
@[go_sem] theorem T.cv170_165 {V : HL.HV} {k : IntKind} {n : Int} : HL.convV Try.prog V 170 165 (.int k n) = some (.int .u8 (IntKind.u8.wrap n)) := HL.conv_int Try.underlying170 Try.underlying165
@[go_sem] theorem T.cv170_166 {V : HL.HV} {k : IntKind} {n : Int} : HL.convV Try.prog V 170 166 (.int k n) = some (.int .u8 (IntKind.u8.wrap n)) := HL.conv_int Try.underlying170 Try.underlying166
@[go_sem] theorem T.cv170_169 {V : HL.HV} {k : IntKind} {n : Int} : HL.convV Try.prog V 170 169 (.int k n) = some (.int .i32 (IntKind.i32.wrap n)) := HL.conv_int Try.underlying170 Try.underlying169
@[go_sem] theorem T.cv170_170 {V : HL.HV} {k : IntKind} {n : Int} : HL.convV Try.prog V 170 170 (.int k n) = some (.int .i32 (IntKind.i32.wrap n)) := HL.conv_int Try.underlying170 Try.underlying170
@[go_sem] theorem T.bs22_1 {H : HL.Heap} {x0 : Int} {a1 : Option Addr} {l1 c1 : Nat} {a2 : Option Addr} {l2 c2 : Nat} {a3 : Option Addr} {l3 c3 : Nat} {x4 : Int} : HL.buildSliceV Try.prog H 22 1 [(0, .agg #[.int .i64 x0, .slice a1 l1 c1, .slice a2 l2 c2, .slice a3 l3 c3, .int .i64 x4])] = some (.slice (some ⟨H.size, 0, none⟩) 1 1, H.push (.cells #[.int .i64 x0, .slice a1 l1 c1, .slice a2 l2 c2, .slice a3 l3 c3, .int .i64 x4] 60)) := HL.bsl_of (vs := [.agg #[.int .i64 x0, .slice a1 l1 c1, .slice a2 l2 c2, .slice a3 l3 c3, .int .i64 x4]]) T.elem22 T.size60 T.zero60 (Nat.le_of_ble_eq_true rfl) rfl rfl
@[go_sem] theorem T.bs22_2 {H : HL.Heap} {x0 : Int} {a1 : Option Addr} {l1 c1 : Nat} {a2 : Option Addr} {l2 c2 : Nat} {a3 : Option Addr} {l3 c3 : Nat} {x4 : Int} {x5 : Int} {a6 : Option Addr} {l6 c6 : Nat} {a7 : Option Addr} {l7 c7 : Nat} {a8 : Option Addr} {l8 c8 : Nat} {x9 : Int} : HL.buildSliceV Try.prog H 22 2 [(0, .agg #[.int .i64 x0, .slice a1 l1 c1, .slice a2 l2 c2, .slice a3 l3 c3, .int .i64 x4]), (1, .agg #[.int .i64 x5, .slice a6 l6 c6, .slice a7 l7 c7, .slice a8 l8 c8, .int .i64 x9])] = some (.slice (some ⟨H.size, 0, none⟩) 2 2, H.push (.cells #[.int .i64 x0, .slice a1 l1 c1, .slice a2 l2 c2, .slice a3 l3 c3, .int .i64 x4, .int .i64 x5, .slice a6 l6 c6, .slice a7 l7 c7, .slice a8 l8 c8, .int .i64 x9] 60)) := HL.bsl_of (vs := [.agg #[.int .i64 x0, .slice a1 l1 c1, .slice a2 l2 c2, .slice a3 l3 c3, .int .i64 x4], .agg #[.int .i64 x5, .slice a6 l6 c6, .slice a7 l7 c7, .slice a8 l8 c8, .int .i64 x9]]) T.elem22 T.size60 T.zero60 (Nat.le_of_ble_eq_true rfl) rfl rfl
@[go_sem] theorem T.bs22_3 {H : HL.Heap} {x0 : Int} {a1 : Option Addr} {l1 c1 : Nat} {a2 : Option Addr} {l2 c2 : Nat} {a3 : Option Addr} {l3 c3 : Nat} {x4 : Int} {x5 : Int} {a6 : Option Addr} {l6 c6 : Nat} {a7 : Option Addr} {l7 c7 : Nat} {a8 : Option Addr} {l8 c8 : Nat} {x9 : Int} {x10 : Int} {a11 : Option Addr} {l11 c11 : Nat} {a12 : Option Addr} {l12 c12 : Nat} {a13 : Option Addr} {l13 c13 : Nat} {x14 : Int} : HL.buildSliceV Try.prog H 22 3 [(0, .agg #[.int .i64 x0, .slice a1 l1 c1, .slice a2 l2 c2, .slice a3 l3 c3, .int .i64 x4]), (1, .agg #[.int .i64 x5, .slice a6 l6 c6, .slice a7 l7 c7, .slice a8 l8 c8, .int .i64 x9]), (2, .agg #[.int .i64 x10, .slice a11 l11 c11, .slice a12 l12 c12, .slice a13 l13 c13, .int .i64 x14])] = some (.slice (some ⟨H.size, 0, none⟩) 3 3, H.push (.cells #[.int .i64 x0, .slice a1 l1 c1, .slice a2 l2 c2, .slice a3 l3 c3, .int .i64 x4, .int .i64 x5, .slice a6 l6 c6, .slice a7 l7 c7, .slice a8 l8 c8, .int .i64 x9, .int .i64 x10, .slice a11 l11 c11, .slice a12 l12 c12, .slice a13 l13 c13, .int .i64 x14] 60)) := HL.bsl_of (vs := [.agg #[.int .i64 x0, .slice a1 l1 c1, .slice a2 l2 c2, .slice a3 l3 c3, .int .i64 x4], .agg #[.int .i64 x5, .slice a6 l6 c6, .slice a7 l7 c7, .slice a8 l8 c8, .int .i64 x9], .agg #[.int .i64 x10, .slice a11 l11 c11, .slice a12 l12 c12, .slice a13 l13 c13, .int .i64 x14]]) T.elem22 T.size60 T.zero60 (Nat.le_of_ble_eq_true rfl) rfl rfl
@[go_sem] theorem T.bs45_1 {H : HL.Heap} {x0 : ByteArray} {x1 : Int} {x2 : Int} {x3 : Bool} {x4 : Bool} : HL.buildSliceV Try.prog H 45 1 [(0, .agg #[.string x0, .int .i64 x1, .int .i64 x2, .bool x3, .bool x4])] = some (.slice (some ⟨H.size, 0, none⟩) 1 1, H.push (.cells #[.string x0, .int .i64 x1, .int .i64 x2, .bool x3, .bool x4] 120)) := HL.bsl_of (vs := [.agg #[.string x0, .int .i64 x1, .int .i64 x2, .bool x3, .bool x4]]) T.elem45 T.size120 T.zero120 (Nat.le_of_ble_eq_true rfl) rfl rfl
@[go_sem] theorem T.bs45_2 {H : HL.Heap} {x0 : ByteArray} {x1 : Int} {x2 : Int} {x3 : Bool} {x4 : Bool} {x5 : ByteArray} {x6 : Int} {x7 : Int} {x8 : Bool} {x9 : Bool} : HL.buildSliceV Try.prog H 45 2 [(0, .agg #[.string x0, .int .i64 x1, .int .i64 x2, .bool x3, .bool x4]), (1, .agg #[.string x5, .int .i64 x6, .int .i64 x7, .bool x8, .bool x9])] = some (.slice (some ⟨H.size, 0, none⟩) 2 2, H.push (.cells #[.string x0, .int .i64 x1, .int .i64 x2, .bool x3, .bool x4, .string x5, .int .i64 x6, .int .i64 x7, .bool x8, .bool x9] 120)) := HL.bsl_of (vs := [.agg #[.string x0, .int .i64 x1, .int .i64 x2, .bool x3, .bool x4], .agg #[.string x5, .int .i64 x6, .int .i64 x7, .bool x8, .bool x9]]) T.elem45 T.size120 T.zero120 (Nat.le_of_ble_eq_true rfl) rfl rfl
@[go_sem] theorem T.bs45_3 {H : HL.Heap} {x0 : ByteArray} {x1 : Int} {x2 : Int} {x3 : Bool} {x4 : Bool} {x5 : ByteArray} {x6 : Int} {x7 : Int} {x8 : Bool} {x9 : Bool} {x10 : ByteArray} {x11 : Int} {x12 : Int} {x13 : Bool} {x14 : Bool} : HL.buildSliceV Try.prog H 45 3 [(0, .agg #[.string x0, .int .i64 x1, .int .i64 x2, .bool x3, .bool x4]), (1, .agg #[.string x5, .int .i64 x6, .int .i64 x7, .bool x8, .bool x9]), (2, .agg #[.string x10, .int .i64 x11, .int .i64 x12, .bool x13, .bool x14])] = some (.slice (some ⟨H.size, 0, none⟩) 3 3, H.push (.cells #[.string x0, .int .i64 x1, .int .i64 x2, .bool x3, .bool x4, .string x5, .int .i64 x6, .int .i64 x7, .bool x8, .bool x9, .string x10, .int .i64 x11, .int .i64 x12, .bool x13, .bool x14] 120)) := HL.bsl_of (vs := [.agg #[.string x0, .int .i64 x1, .int .i64 x2, .bool x3, .bool x4], .agg #[.string x5, .int .i64 x6, .int .i64 x7, .bool x8, .bool x9], .agg #[.string x10, .int .i64 x11, .int .i64 x12, .bool x13, .bool x14]]) T.elem45 T.size120 T.zero120 (Nat.le_of_ble_eq_true rfl) rfl rfl
@[go_sem] theorem T.bs46_1 {H : HL.Heap} {x0 : ByteArray} {x1 : Int} {x2 : Int} : HL.buildSliceV Try.prog H 46 1 [(0, .agg #[.string x0, .int .i64 x1, .int .i64 x2])] = some (.slice (some ⟨H.size, 0, none⟩) 1 1, H.push (.cells #[.string x0, .int .i64 x1, .int .i64 x2] 125)) := HL.bsl_of (vs := [.agg #[.string x0, .int .i64 x1, .int .i64 x2]]) T.elem46 T.size125 T.zero125 (Nat.le_of_ble_eq_true rfl) rfl rfl
@[go_sem] theorem T.bs46_2 {H : HL.Heap} {x0 : ByteArray} {x1 : Int} {x2 : Int} {x3 : ByteArray} {x4 : Int} {x5 : Int} : HL.buildSliceV Try.prog H 46 2 [(0, .agg #[.string x0, .int .i64 x1, .int .i64 x2]), (1, .agg #[.string x3, .int .i64 x4, .int .i64 x5])] = some (.slice (some ⟨H.size, 0, none⟩) 2 2, H.push (.cells #[.string x0, .int .i64 x1, .int .i64 x2, .string x3, .int .i64 x4, .int .i64 x5] 125)) := HL.bsl_of (vs := [.agg #[.string x0, .int .i64 x1, .int .i64 x2], .agg #[.string x3, .int .i64 x4, .int .i64 x5]]) T.elem46 T.size125 T.zero125 (Nat.le_of_ble_eq_true rfl) rfl rfl
@[go_sem] theorem T.bs46_3 {H : HL.Heap} {x0 : ByteArray} {x1 : Int} {x2 : Int} {x3 : ByteArray} {x4 : Int} {x5 : Int} {x6 : ByteArray} {x7 : Int} {x8 : Int} : HL.buildSliceV Try.prog H 46 3 [(0, .agg #[.string x0, .int .i64 x1, .int .i64 x2]), (1, .agg #[.string x3, .int .i64 x4, .int .i64 x5]), (2, .agg #[.string x6, .int .i64 x7, .int .i64 x8])] = some (.slice (some ⟨H.size, 0, none⟩) 3 3, H.push (.cells #[.string x0, .int .i64 x1, .int .i64 x2, .string x3, .int .i64 x4, .int .i64 x5, .string x6, .int .i64 x7, .int .i64 x8] 125)) := HL.bsl_of (vs := [.agg #[.string x0, .int .i64 x1, .int .i64 x2], .agg #[.string x3, .int .i64 x4, .int .i64 x5], .agg #[.string x6, .int .i64 x7, .int .i64 x8]]) T.elem46 T.size125 T.zero125 (Nat.le_of_ble_eq_true rfl) rfl rfl
@[go_sem] theorem T.bs46_4 {H : HL.Heap} {x0 : ByteArray} {x1 : Int} {x2 : Int} {x3 : ByteArray} {x4 : Int} {x5 : Int} {x6 : ByteArray} {x7 : Int} {x8 : Int} {x9 : ByteArray} {x10 : Int} {x11 : Int} : HL.buildSliceV Try.prog H 46 4 [(0, .agg #[.string x0, .int .i64 x1, .int .i64 x2]), (1, .agg #[.string x3, .int .i64 x4, .int .i64 x5]), (2, .agg #[.string x6, .int .i64 x7, .int .i64 x8]), (3, .agg #[.string x9, .int .i64 x10, .int .i64 x11])] = some (.slice (some ⟨H.size, 0, none⟩) 4 4, H.push (.cells #[.string x0, .int .i64 x1, .int .i64 x2, .string x3, .int .i64 x4, .int .i64 x5, .string x6, .int .i64 x7, .int .i64 x8, .string x9, .int .i64 x10, .int .i64 x11] 125)) := HL.bsl_of (vs := [.agg #[.string x0, .int .i64 x1, .int .i64 x2], .agg #[.string x3, .int .i64 x4, .int .i64 x5], .agg #[.string x6, .int .i64 x7, .int .i64 x8], .agg #[.string x9, .int .i64 x10, .int .i64 x11]]) T.elem46 T.size125 T.zero125 (Nat.le_of_ble_eq_true rfl) rfl rfl
@[go_sem] theorem T.bs47_1 {H : HL.Heap} {x0 : ByteArray} {x1 : Int} {a2 : Option Addr} {l2 c2 : Nat} {x3 : Int} {a4 : Option Addr} {l4 c4 : Nat} {a5 : Option Addr} {l5 c5 : Nat} {a6 : Option Addr} {l6 c6 : Nat} {a7 : Option Addr} {l7 c7 : Nat} : HL.buildSliceV Try.prog H 47 1 [(0, .agg #[.string x0, .int .i64 x1, .slice a2 l2 c2, .int .i64 x3, .slice a4 l4 c4, .slice a5 l5 c5, .slice a6 l6 c6, .slice a7 l7 c7])] = some (.slice (some ⟨H.size, 0, none⟩) 1 1, H.push (.cells #[.string x0, .int .i64 x1, .slice a2 l2 c2, .int .i64 x3, .slice a4 l4 c4, .slice a5 l5 c5, .slice a6 l6 c6, .slice a7 l7 c7] 56)) := HL.bsl_of (vs := [.agg #[.string x0, .int .i64 x1, .slice a2 l2 c2, .int .i64 x3, .slice a4 l4 c4, .slice a5 l5 c5, .slice a6 l6 c6, .slice a7 l7 c7]]) T.elem47 T.size56 T.zero56 (Nat.le_of_ble_eq_true rfl) rfl rfl
@[go_sem] theorem T.bs47_2 {H : HL.Heap} {x0 : ByteArray} {x1 : Int} {a2 : Option Addr} {l2 c2 : Nat} {x3 : Int} {a4 : Option Addr} {l4 c4 : Nat} {a5 : Option Addr} {l5 c5 : Nat} {a6 : Option Addr} {l6 c6 : Nat} {a7 : Option Addr} {l7 c7 : Nat} {x8 : ByteArray} {x9 : Int} {a10 : Option Addr} {l10 c10 : Nat} {x11 : Int} {a12 : Option Addr} {l12 c12 : Nat} {a13 : Option Addr} {l13 c13 : Nat} {a14 : Option Addr} {l14 c14 : Nat} {a15 : Option Addr} {l15 c15 : Nat} : HL.buildSliceV Try.prog H 47 2 [(0, .agg #[.string x0, .int .i64 x1, .slice a2 l2 c2, .int .i64 x3, .slice a4 l4 c4, .slice a5 l5 c5, .slice a6 l6 c6, .slice a7 l7 c7]), (1, .agg #[.string x8, .int .i64 x9, .slice a10 l10 c10, .int .i64 x11, .slice a12 l12 c12, .slice a13 l13 c13, .slice a14 l14 c14, .slice a15 l15 c15])] = some (.slice (some ⟨H.size, 0, none⟩) 2 2, H.push (.cells #[.string x0, .int .i64 x1, .slice a2 l2 c2, .int .i64 x3, .slice a4 l4 c4, .slice a5 l5 c5, .slice a6 l6 c6, .slice a7 l7 c7, .string x8, .int .i64 x9, .slice a10 l10 c10, .int .i64 x11, .slice a12 l12 c12, .slice a13 l13 c13, .slice a14 l14 c14, .slice a15 l15 c15] 56)) := HL.bsl_of (vs := [.agg #[.string x0, .int .i64 x1, .slice a2 l2 c2, .int .i64 x3, .slice a4 l4 c4, .slice a5 l5 c5, .slice a6 l6 c6, .slice a7 l7 c7], .agg #[.string x8, .int .i64 x9, .slice a10 l10 c10, .int .i64 x11, .slice a12 l12 c12, .slice a13 l13 c13, .slice a14 l14 c14, .slice a15 l15 c15]]) T.elem47 T.size56 T.zero56 (Nat.le_of_ble_eq_true rfl) rfl rfl
@[go_sem] theorem T.bs54_1 {H : HL.Heap} {x0 : Int} {x1 : Int} {x2 : Int} {x3 : Int} {x4 : Int} {x5 : Int} {x6 : Bool} {x7 : Int} : HL.buildSliceV Try.prog H 54 1 [(0, .agg #[.int .i64 x0, .int .i64 x1, .int .i64 x2, .int .i64 x3, .int .i64 x4, .int .i64 x5, .bool x6, .int .i64 x7])] = some (.slice (some ⟨H.size, 0, none⟩) 1 1, H.push (.cells #[.int .i64 x0, .int .i64 x1, .int .i64 x2, .int .i64 x3, .int .i64 x4, .int .i64 x5, .bool x6, .int .i64 x7] 58)) := HL.bsl_of (vs := [.agg #[.int .i64 x0, .int .i64 x1, .int .i64 x2, .int .i64 x3, .int .i64 x4, .int .i64 x5, .bool x6, .int .i64 x7]]) T.elem54 T.size58 T.zero58 (Nat.le_of_ble_eq_true rfl) rfl rfl
@[go_sem] theorem T.bs54_2 {H : HL.Heap} {x0 : Int} {x1 : Int} {x2 : Int} {x3 : Int} {x4 : Int} {x5 : Int} {x6 : Bool} {x7 : Int} {x8 : Int} {x9 : Int} {x10 : Int} {x11 : Int} {x12 : Int} {x13 : Int} {x14 : Bool} {x15 : Int} : HL.buildSliceV Try.prog H 54 2 [(0, .agg #[.int .i64 x0, .int .i64 x1, .int .i64 x2, .int .i64 x3, .int .i64 x4, .int .i64 x5, .bool x6, .int .i64 x7]), (1, .agg #[.int .i64 x8, .int .i64 x9, .int .i64 x10, .int .i64 x11, .int .i64 x12, .int .i64 x13, .bool x14, .int .i64 x15])] = some (.slice (some ⟨H.size, 0, none⟩) 2 2, H.push (.cells #[.int .i64 x0, .int .i64 x1, .int .i64 x2, .int .i64 x3, .int .i64 x4, .int .i64 x5, .bool x6, .int .i64 x7, .int .i64 x8, .int .i64 x9, .int .i64 x10, .int .i64 x11, .int .i64 x12, .int .i64 x13, .bool x14, .int .i64 x15] 58)) := HL.bsl_of (vs := [.agg #[.int .i64 x0, .int .i64 x1, .int .i64 x2, .int .i64 x3, .int .i64 x4, .int .i64 x5, .bool x6, .int .i64 x7], .agg #[.int .i64 x8, .int .i64 x9, .int .i64 x10, .int .i64 x11, .int .i64 x12, .int .i64 x13, .bool x14, .int .i64 x15]]) T.elem54 T.size58 T.zero58 (Nat.le_of_ble_eq_true rfl) rfl rfl
@[go_sem] theorem T.bs69_1 {H : HL.Heap} {x0 : Int} {x1 : ByteArray} {x2 : Int} : HL.buildSliceV Try.prog H 69 1 [(0, .agg #[.int .i64 x0, .string x1, .int .i64 x2])] = some (.slice (some ⟨H.size, 0, none⟩) 1 1, H.push (.cells #[.int .i64 x0, .string x1, .int .i64 x2] 107)) := HL.bsl_of (vs := [.agg #[.int .i64 x0, .string x1, .int .i64 x2]]) T.elem69 T.size107 T.zero107 (Nat.le_of_ble_eq_true rfl) rfl rfl
@[go_sem] theorem T.bs69_2 {H : HL.Heap} {x0 : Int} {x1 : ByteArray} {x2 : Int} {x3 : Int} {x4 : ByteArray} {x5 : Int} : HL.buildSliceV Try.prog H 69 2 [(0, .agg #[.int .i64 x0, .string x1, .int .i64 x2]), (1, .agg #[.int .i64 x3, .string x4, .int .i64 x5])] = some (.slice (some ⟨H.size, 0, none⟩) 2 2, H.push (.cells #[.int .i64 x0, .string x1, .int .i64 x2, .int .i64 x3, .string x4, .int .i64 x5] 107)) := HL.bsl_of (vs := [.agg #[.int .i64 x0, .string x1, .int .i64 x2], .agg #[.int .i64 x3, .string x4, .int .i64 x5]]) T.elem69 T.size107 T.zero107 (Nat.le_of_ble_eq_true rfl) rfl rfl
@[go_sem] theorem T.bs69_3 {H : HL.Heap} {x0 : Int} {x1 : ByteArray} {x2 : Int} {x3 : Int} {x4 : ByteArray} {x5 : Int} {x6 : Int} {x7 : ByteArray} {x8 : Int} : HL.buildSliceV Try.prog H 69 3 [(0, .agg #[.int .i64 x0, .string x1, .int .i64 x2]), (1, .agg #[.int .i64 x3, .string x4, .int .i64 x5]), (2, .agg #[.int .i64 x6, .string x7, .int .i64 x8])] = some (.slice (some ⟨H.size, 0, none⟩) 3 3, H.push (.cells #[.int .i64 x0, .string x1, .int .i64 x2, .int .i64 x3, .string x4, .int .i64 x5, .int .i64 x6, .string x7, .int .i64 x8] 107)) := HL.bsl_of (vs := [.agg #[.int .i64 x0, .string x1, .int .i64 x2], .agg #[.int .i64 x3, .string x4, .int .i64 x5], .agg #[.int .i64 x6, .string x7, .int .i64 x8]]) T.elem69 T.size107 T.zero107 (Nat.le_of_ble_eq_true rfl) rfl rfl
@[go_sem] theorem T.bs69_4 {H : HL.Heap} {x0 : Int} {x1 : ByteArray} {x2 : Int} {x3 : Int} {x4 : ByteArray} {x5 : Int} {x6 : Int} {x7 : ByteArray} {x8 : Int} {x9 : Int} {x10 : ByteArray} {x11 : Int} : HL.buildSliceV Try.prog H 69 4 [(0, .agg #[.int .i64 x0, .string x1, .int .i64 x2]), (1, .agg #[.int .i64 x3, .string x4, .int .i64 x5]), (2, .agg #[.int .i64 x6, .string x7, .int .i64 x8]), (3, .agg #[.int .i64 x9, .string x10, .int .i64 x11])] = some (.slice (some ⟨H.size, 0, none⟩) 4 4, H.push (.cells #[.int .i64 x0, .string x1, .int .i64 x2, .int .i64 x3, .string x4, .int .i64 x5, .int .i64 x6, .string x7, .int .i64 x8, .int .i64 x9, .string x10, .int .i64 x11] 107)) := HL.bsl_of (vs := [.agg #[.int .i64 x0, .string x1, .int .i64 x2], .agg #[.int .i64 x3, .string x4, .int .i64 x5], .agg #[.int .i64 x6, .string x7, .int .i64 x8], .agg #[.int .i64 x9, .string x10, .int .i64 x11]]) T.elem69 T.size107 T.zero107 (Nat.le_of_ble_eq_true rfl) rfl rfl
@[go_sem] theorem T.bs75_1 {H : HL.Heap} {x0 : Int} {a1 : Option Addr} {l1 c1 : Nat} {a2 : Option Addr} {l2 c2 : Nat} {a3 : Option Addr} {l3 c3 : Nat} {x4 : Int} {a5 : Option Addr} {l5 c5 : Nat} : HL.buildSliceV Try.prog H 75 1 [(0, .agg #[.int .i64 x0, .slice a1 l1 c1, .slice a2 l2 c2, .slice a3 l3 c3, .int .i64 x4, .slice a5 l5 c5])] = some (.slice (some ⟨H.size, 0, none⟩) 1 1, H.push (.cells #[.int .i64 x0, .slice a1 l1 c1, .slice a2 l2 c2, .slice a3 l3 c3, .int .i64 x4, .slice a5 l5 c5] 77)) := HL.bsl_of (vs := [.agg #[.int .i64 x0, .slice a1 l1 c1, .slice a2 l2 c2, .slice a3 l3 c3, .int .i64 x4, .slice a5 l5 c5]]) T.elem75 T.size77 T.zero77 (Nat.le_of_ble_eq_true rfl) rfl rfl
@[go_sem] theorem T.bs75_2 {H : HL.Heap} {x0 : Int} {a1 : Option Addr} {l1 c1 : Nat} {a2 : Option Addr} {l2 c2 : Nat} {a3 : Option Addr} {l3 c3 : Nat} {x4 : Int} {a5 : Option Addr} {l5 c5 : Nat} {x6 : Int} {a7 : Option Addr} {l7 c7 : Nat} {a8 : Option Addr} {l8 c8 : Nat} {a9 : Option Addr} {l9 c9 : Nat} {x10 : Int} {a11 : Option Addr} {l11 c11 : Nat} : HL.buildSliceV Try.prog H 75 2 [(0, .agg #[.int .i64 x0, .slice a1 l1 c1, .slice a2 l2 c2, .slice a3 l3 c3, .int .i64 x4, .slice a5 l5 c5]), (1, .agg #[.int .i64 x6, .slice a7 l7 c7, .slice a8 l8 c8, .slice a9 l9 c9, .int .i64 x10, .slice a11 l11 c11])] = some (.slice (some ⟨H.size, 0, none⟩) 2 2, H.push (.cells #[.int .i64 x0, .slice a1 l1 c1, .slice a2 l2 c2, .slice a3 l3 c3, .int .i64 x4, .slice a5 l5 c5, .int .i64 x6, .slice a7 l7 c7, .slice a8 l8 c8, .slice a9 l9 c9, .int .i64 x10, .slice a11 l11 c11] 77)) := HL.bsl_of (vs := [.agg #[.int .i64 x0, .slice a1 l1 c1, .slice a2 l2 c2, .slice a3 l3 c3, .int .i64 x4, .slice a5 l5 c5], .agg #[.int .i64 x6, .slice a7 l7 c7, .slice a8 l8 c8, .slice a9 l9 c9, .int .i64 x10, .slice a11 l11 c11]]) T.elem75 T.size77 T.zero77 (Nat.le_of_ble_eq_true rfl) rfl rfl
@[go_sem] theorem T.bs153_1 {H : HL.Heap} {x0 : Int} {x1 : Int} : HL.buildSliceV Try.prog H 153 1 [(0, .agg #[.int .i64 x0, .int .i64 x1])] = some (.slice (some ⟨H.size, 0, none⟩) 1 1, H.push (.cells #[.int .i64 x0, .int .i64 x1] 139)) := HL.bsl_of (vs := [.agg #[.int .i64 x0, .int .i64 x1]]) T.elem153 T.size139 T.zero139 (Nat.le_of_ble_eq_true rfl) rfl rfl
@[go_sem] theorem T.bs153_2 {H : HL.Heap} {x0 : Int} {x1 : Int} {x2 : Int} {x3 : Int} : HL.buildSliceV Try.prog H 153 2 [(0, .agg #[.int .i64 x0, .int .i64 x1]), (1, .agg #[.int .i64 x2, .int .i64 x3])] = some (.slice (some ⟨H.size, 0, none⟩) 2 2, H.push (.cells #[.int .i64 x0, .int .i64 x1, .int .i64 x2, .int .i64 x3] 139)) := HL.bsl_of (vs := [.agg #[.int .i64 x0, .int .i64 x1], .agg #[.int .i64 x2, .int .i64 x3]]) T.elem153 T.size139 T.zero139 (Nat.le_of_ble_eq_true rfl) rfl rfl
@[go_sem] theorem T.bs153_3 {H : HL.Heap} {x0 : Int} {x1 : Int} {x2 : Int} {x3 : Int} {x4 : Int} {x5 : Int} : HL.buildSliceV Try.prog H 153 3 [(0, .agg #[.int .i64 x0, .int .i64 x1]), (1, .agg #[.int .i64 x2, .int .i64 x3]), (2, .agg #[.int .i64 x4, .int .i64 x5])] = some (.slice (some ⟨H.size, 0, none⟩) 3 3, H.push (.cells #[.int .i64 x0, .int .i64 x1, .int .i64 x2, .int .i64 x3, .int .i64 x4, .int .i64 x5] 139)) := HL.bsl_of (vs := [.agg #[.int .i64 x0, .int .i64 x1], .agg #[.int .i64 x2, .int .i64 x3], .agg #[.int .i64 x4, .int .i64 x5]]) T.elem153 T.size139 T.zero139 (Nat.le_of_ble_eq_true rfl) rfl rfl
@[go_sem] theorem T.bs153_4 {H : HL.Heap} {x0 : Int} {x1 : Int} {x2 : Int} {x3 : Int} {x4 : Int} {x5 : Int} {x6 : Int} {x7 : Int} : HL.buildSliceV Try.prog H 153 4 [(0, .agg #[.int .i64 x0, .int .i64 x1]), (1, .agg #[.int .i64 x2, .int .i64 x3]), (2, .agg #[.int .i64 x4, .int .i64 x5]), (3, .agg #[.int .i64 x6, .int .i64 x7])] = some (.slice (some ⟨H.size, 0, none⟩) 4 4, H.push (.cells #[.int .i64 x0, .int .i64 x1, .int .i64 x2, .int .i64 x3, .int .i64 x4, .int .i64 x5, .int .i64 x6, .int .i64 x7] 139)) := HL.bsl_of (vs := [.agg #[.int .i64 x0, .int .i64 x1], .agg #[.int .i64 x2, .int .i64 x3], .agg #[.int .i64 x4, .int .i64 x5], .agg #[.int .i64 x6, .int .i64 x7]]) T.elem153 T.size139 T.zero139 (Nat.le_of_ble_eq_true rfl) rfl rfl
@[go_sem] theorem T.stn27 {H : HL.Heap} {z0 z1 : Value} {x0 : Int} {x1 : Int} : HL.storeA Try.prog (H.push (.cells #[z0, z1] 27)) 27 ⟨H.size, 0, none⟩ (.agg #[.int .i64 x0, .int .i64 x1]) = some (H.push (.cells #[.int .i64 x0, .int .i64 x1] 27)) := HL.store_new (z := [z0, z1]) (vs := [.int .i64 x0, .int .i64 x1]) T.size27 rfl (HL.one_all rfl)
@[go_sem] theorem T.ln27 {H : HL.Heap} {z0 z1 : Value} : HL.cellsH (HL.cellH (H.push (.cells #[z0, z1] 27))) ⟨H.size, 0, none⟩ 0 2 = some [z0, z1] := HL.Blk.cells0 (new := [z0, z1]) (HL.Blk.new rfl)
@[go_sem] theorem T.stn40 {H : HL.Heap} {z0 z1 z2 z3 : Value} {x0 : Int} {x1 : Int} {x2 : Int} {x3 : Int} : HL.storeA Try.prog (H.push (.cells #[z0, z1, z2, z3] 40)) 40 ⟨H.size, 0, none⟩ (.agg #[.int .i64 x0, .int .i64 x1, .int .i64 x2, .int .i64 x3]) = some (H.push (.cells #[.int .i64 x0, .int .i64 x1, .int .i64 x2, .int .i64 x3] 40)) := HL.store_new (z := [z0, z1, z2, z3]) (vs := [.int .i64 x0, .int .i64 x1, .int .i64 x2, .int .i64 x3]) T.size40 rfl (HL.one_all rfl)
@[go_sem] theorem T.ln40 {H : HL.Heap} {z0 z1 z2 z3 : Value} : HL.cellsH (HL.cellH (H.push (.cells #[z0, z1, z2, z3] 40))) ⟨H.size, 0, none⟩ 0 4 = some [z0, z1, z2, z3] := HL.Blk.cells0 (new := [z0, z1, z2, z3]) (HL.Blk.new rfl)
@[go_sem] theorem T.stn50 {H : HL.Heap} {z0 z1 z2 z3 z4 z5 z6 : Value} {a0 : Option Addr} {l0 c0 : Nat} {x1 : Int} {a2 : Option Addr} {l2 c2 : Nat} {a3 : Option Addr} {l3 c3 : Nat} {a4 : Option Addr} {l4 c4 : Nat} {a5 : Option Addr} {l5 c5 : Nat} {x6 : Bool} : HL.storeA Try.prog (H.push (.cells #[z0, z1, z2, z3, z4, z5, z6] 50)) 50 ⟨H.size, 0, none⟩ (.agg #[.slice a0 l0 c0, .int .i64 x1, .slice a2 l2 c2, .slice a3 l3 c3, .slice a4 l4 c4, .slice a5 l5 c5, .bool x6]) = some (H.push (.cells #[.slice a0 l0 c0, .int .i64 x1, .slice a2 l2 c2, .slice a3 l3 c3, .slice a4 l4 c4, .slice a5 l5 c5, .bool x6] 50)) := HL.store_new (z := [z0, z1, z2, z3, z4, z5, z6]) (vs := [.slice a0 l0 c0, .int .i64 x1, .slice a2 l2 c2, .slice a3 l3 c3, .slice a4 l4 c4, .slice a5 l5 c5, .bool x6]) T.size50 rfl (HL.one_all rfl)
@[go_sem] theorem T.ln50 {H : HL.Heap} {z0 z1 z2 z3 z4 z5 z6 : Value} : HL.cellsH (HL.cellH (H.push (.cells #[z0, z1, z2, z3, z4, z5, z6] 50))) ⟨H.size, 0, none⟩ 0 7 = some [z0, z1, z2, z3, z4, z5, z6] := HL.Blk.cells0 (new := [z0, z1, z2, z3, z4, z5, z6]) (HL.Blk.new rfl)
@[go_sem] theorem T.stn56 {H : HL.Heap} {z0 z1 z2 z3 z4 z5 z6 z7 : Value} {x0 : ByteArray} {x1 : Int} {a2 : Option Addr} {l2 c2 : Nat} {x3 : Int} {a4 : Option Addr} {l4 c4 : Nat} {a5 : Option Addr} {l5 c5 : Nat} {a6 : Option Addr} {l6 c6 : Nat} {a7 : Option Addr} {l7 c7 : Nat} : HL.storeA Try.prog (H.push (.cells #[z0, z1, z2, z3, z4, z5, z6, z7] 56)) 56 ⟨H.size, 0, none⟩ (.agg #[.string x0, .int .i64 x1, .slice a2 l2 c2, .int .i64 x3, .slice a4 l4 c4, .slice a5 l5 c5, .slice a6 l6 c6, .slice a7 l7 c7]) = some (H.push (.cells #[.string x0, .int .i64 x1, .slice a2 l2 c2, .int .i64 x3, .slice a4 l4 c4, .slice a5 l5 c5, .slice a6 l6 c6, .slice a7 l7 c7] 56)) := HL.store_new (z := [z0, z1, z2, z3, z4, z5, z6, z7]) (vs := [.string x0, .int .i64 x1, .slice a2 l2 c2, .int .i64 x3, .slice a4 l4 c4, .slice a5 l5 c5, .slice a6 l6 c6, .slice a7 l7 c7]) T.size56 rfl (HL.one_all rfl)
@[go_sem] theorem T.ln56 {H : HL.Heap} {z0 z1 z2 z3 z4 z5 z6 z7 : Value} : HL.cellsH (HL.cellH (H.push (.cells #[z0, z1, z2, z3, z4, z5, z6, z7] 56))) ⟨H.size, 0, none⟩ 0 8 = some [z0, z1, z2, z3, z4, z5, z6, z7] := HL.Blk.cells0 (new := [z0, z1, z2, z3, z4, z5, z6, z7]) (HL.Blk.new rfl)
@[go_sem] theorem T.stn58 {H : HL.Heap} {z0 z1 z2 z3 z4 z5 z6 z7 : Value} {x0 : Int} {x1 : Int} {x2 : Int} {x3 : Int} {x4 : Int} {x5 : Int} {x6 : Bool} {x7 : Int} : HL.storeA Try.prog (H.push (.cells #[z0, z1, z2, z3, z4, z5, z6, z7] 58)) 58 ⟨H.size, 0, none⟩ (.agg #[.int .i64 x0, .int .i64 x1, .int .i64 x2, .int .i64 x3, .int .i64 x4, .int .i64 x5, .bool x6, .int .i64 x7]) = some (H.push (.cells #[.int .i64 x0, .int .i64 x1, .int .i64 x2, .int .i64 x3, .int .i64 x4, .int .i64 x5, .bool x6, .int .i64 x7] 58)) := HL.store_new (z := [z0, z1, z2, z3, z4, z5, z6, z7]) (vs := [.int .i64 x0, .int .i64 x1, .int .i64 x2, .int .i64 x3, .int .i64 x4, .int .i64 x5, .bool x6, .int .i64 x7]) T.size58 rfl (HL.one_all rfl)
@[go_sem] theorem T.ln58 {H : HL.Heap} {z0 z1 z2 z3 z4 z5 z6 z7 : Value} : HL.cellsH (HL.cellH (H.push (.cells #[z0, z1, z2, z3, z4, z5, z6, z7] 58))) ⟨H.size, 0, none⟩ 0 8 = some [z0, z1, z2, z3, z4, z5, z6, z7] := HL.Blk.cells0 (new := [z0, z1, z2, z3, z4, z5, z6, z7]) (HL.Blk.new rfl)
@[go_sem] theorem T.stn60 {H : HL.Heap} {z0 z1 z2 z3 z4 : Value} {x0 : Int} {a1 : Option Addr} {l1 c1 : Nat} {a2 : Option Addr} {l2 c2 : Nat} {a3 : Option Addr} {l3 c3 : Nat} {x4 : Int} : HL.storeA Try.prog (H.push (.cells #[z0, z1, z2, z3, z4] 60)) 60 ⟨H.size, 0, none⟩ (.agg #[.int .i64 x0, .slice a1 l1 c1, .slice a2 l2 c2, .slice a3 l3 c3, .int .i64 x4]) = some (H.push (.cells #[.int .i64 x0, .slice a1 l1 c1, .slice a2 l2 c2, .slice a3 l3 c3, .int .i64 x4] 60)) := HL.store_new (z := [z0, z1, z2, z3, z4]) (vs := [.int .i64 x0, .slice a1 l1 c1, .slice a2 l2 c2, .slice a3 l3 c3, .int .i64 x4]) T.size60 rfl (HL.one_all rfl)
@[go_sem] theorem T.ln60 {H : HL.Heap} {z0 z1 z2 z3 z4 : Value} : HL.cellsH (HL.cellH (H.push (.cells #[z0, z1, z2, z3, z4] 60))) ⟨H.size, 0, none⟩ 0 5 = some [z0, z1, z2, z3, z4] := HL.Blk.cells0 (new := [z0, z1, z2, z3, z4]) (HL.Blk.new rfl)
@[go_sem] theorem T.stn74 {H : HL.Heap} {z0 z1 z2 z3 z4 : Value} {a0 : Option Addr} {l0 c0 : Nat} {x1 : Int} {x2 : Int} {x3 : Int} {x4 : Int} : HL.storeA Try.prog (H.push (.cells #[z0, z1, z2, z3, z4] 74)) 74 ⟨H.size, 0, none⟩ (.agg #[.slice a0 l0 c0, .int .i64 x1, .int .i64 x2, .int .i64 x3, .int .i64 x4]) = some (H.push (.cells #[.slice a0 l0 c0, .int .i64 x1, .int .i64 x2, .int .i64 x3, .int .i64 x4] 74)) := HL.store_new (z := [z0, z1, z2, z3, z4]) (vs := [.slice a0 l0 c0, .int .i64 x1, .int .i64 x2, .int .i64 x3, .int .i64 x4]) T.size74 rfl (HL.one_all rfl)
@[go_sem] theorem T.ln74 {H : HL.Heap} {z0 z1 z2 z3 z4 : Value} : HL.cellsH (HL.cellH (H.push (.cells #[z0, z1, z2, z3, z4] 74))) ⟨H.size, 0, none⟩ 0 5 = some [z0, z1, z2, z3, z4] := HL.Blk.cells0 (new := [z0, z1, z2, z3, z4]) (HL.Blk.new rfl)
@[go_sem] theorem T.stn77 {H : HL.Heap} {z0 z1 z2 z3 z4 z5 : Value} {x0 : Int} {a1 : Option Addr} {l1 c1 : Nat} {a2 : Option Addr} {l2 c2 : Nat} {a3 : Option Addr} {l3 c3 : Nat} {x4 : Int} {a5 : Option Addr} {l5 c5 : Nat} : HL.storeA Try.prog (H.push (.cells #[z0, z1, z2, z3, z4, z5] 77)) 77 ⟨H.size, 0, none⟩ (.agg #[.int .i64 x0, .slice a1 l1 c1, .slice a2 l2 c2, .slice a3 l3 c3, .int .i64 x4, .slice a5 l5 c5]) = some (H.push (.cells #[.int .i64 x0, .slice a1 l1 c1, .slice a2 l2 c2, .slice a3 l3 c3, .int .i64 x4, .slice a5 l5 c5] 77)) := HL.store_new (z := [z0, z1, z2, z3, z4, z5]) (vs := [.int .i64 x0, .slice a1 l1 c1, .slice a2 l2 c2, .slice a3 l3 c3, .int .i64 x4, .slice a5 l5 c5]) T.size77 rfl (HL.one_all rfl)
@[go_sem] theorem T.ln77 {H : HL.Heap} {z0 z1 z2 z3 z4 z5 : Value} : HL.cellsH (HL.cellH (H.push (.cells #[z0, z1, z2, z3, z4, z5] 77))) ⟨H.size, 0, none⟩ 0 6 = some [z0, z1, z2, z3, z4, z5] := HL.Blk.cells0 (new := [z0, z1, z2, z3, z4, z5]) (HL.Blk.new rfl)
@[go_sem] theorem T.stn83 {H : HL.Heap} {z0 z1 z2 z3 z4 : Value} {a0 : Option Addr} {l0 c0 : Nat} {a1 : Option Addr} {l1 c1 : Nat} {a2 : Option Addr} {l2 c2 : Nat} {a3 : Option Addr} {l3 c3 : Nat} {x4 : Bool} : HL.storeA Try.prog (H.push (.cells #[z0, z1, z2, z3, z4] 83)) 83 ⟨H.size, 0, none⟩ (.agg #[.slice a0 l0 c0, .slice a1 l1 c1, .slice a2 l2 c2, .slice a3 l3 c3, .bool x4]) = some (H.push (.cells #[.slice a0 l0 c0, .slice a1 l1 c1, .slice a2 l2 c2, .slice a3 l3 c3, .bool x4] 83)) := HL.store_new (z := [z0, z1, z2, z3, z4]) (vs := [.slice a0 l0 c0, .slice a1 l1 c1, .slice a2 l2 c2, .slice a3 l3 c3, .bool x4]) T.size83 rfl (HL.one_all rfl)
@[go_sem] theorem T.ln83 {H : HL.Heap} {z0 z1 z2 z3 z4 : Value} : HL.cellsH (HL.cellH (H.push (.cells #[z0, z1, z2, z3, z4] 83))) ⟨H.size, 0, none⟩ 0 5 = some [z0, z1, z2, z3, z4] := HL.Blk.cells0 (new := [z0, z1, z2, z3, z4]) (HL.Blk.new rfl)
@[go_sem] theorem T.stn90 {H : HL.Heap} {z0 z1 z2 z3 : Value} {a0 : Option Addr} {l0 c0 : Nat} {x1 : Int} {x2 : Int} {x3 : Int} : HL.storeA Try.prog (H.push (.cells #[z0, z1, z2, z3] 90)) 90 ⟨H.size, 0, none⟩ (.agg #[.slice a0 l0 c0, .int .i64 x1, .int .i64 x2, .int .i64 x3]) = some (H.push (.cells #[.slice a0 l0 c0, .int .i64 x1, .int .i64 x2, .int .i64 x3] 90)) := HL.store_new (z := [z0, z1, z2, z3]) (vs := [.slice a0 l0 c0, .int .i64 x1, .int .i64 x2, .int .i64 x3]) T.size90 rfl (HL.one_all rfl)
@[go_sem] theorem T.ln90 {H : HL.Heap} {z0 z1 z2 z3 : Value} : HL.cellsH (HL.cellH (H.push (.cells #[z0, z1, z2, z3] 90))) ⟨H.size, 0, none⟩ 0 4 = some [z0, z1, z2, z3] := HL.Blk.cells0 (new := [z0, z1, z2, z3]) (HL.Blk.new rfl)
@[go_sem] theorem T.stn94 {H : HL.Heap} {z0 z1 z2 z3 z4 z5 z6 : Value} {a0 : Option Addr} {l0 c0 : Nat} {x1 : Int} {a2 : Option Addr} {l2 c2 : Nat} {a3 : Option Addr} {l3 c3 : Nat} {a4 : Option Addr} {l4 c4 : Nat} {a5 : Option Addr} {l5 c5 : Nat} {x6 : Bool} : HL.storeA Try.prog (H.push (.cells #[z0, z1, z2, z3, z4, z5, z6] 94)) 94 ⟨H.size, 0, none⟩ (.agg #[.slice a0 l0 c0, .int .i64 x1, .slice a2 l2 c2, .slice a3 l3 c3, .slice a4 l4 c4, .slice a5 l5 c5, .bool x6]) = some (H.push (.cells #[.slice a0 l0 c0, .int .i64 x1, .slice a2 l2 c2, .slice a3 l3 c3, .slice a4 l4 c4, .slice a5 l5 c5, .bool x6] 94)) := HL.store_new (z := [z0, z1, z2, z3, z4, z5, z6]) (vs := [.slice a0 l0 c0, .int .i64 x1, .slice a2 l2 c2, .slice a3 l3 c3, .slice a4 l4 c4, .slice a5 l5 c5, .bool x6]) T.size94 rfl (HL.one_all rfl)
@[go_sem] theorem T.ln94 {H : HL.Heap} {z0 z1 z2 z3 z4 z5 z6 : Value} : HL.cellsH (HL.cellH (H.push (.cells #[z0, z1, z2, z3, z4, z5, z6] 94))) ⟨H.size, 0, none⟩ 0 7 = some [z0, z1, z2, z3, z4, z5, z6] := HL.Blk.cells0 (new := [z0, z1, z2, z3, z4, z5, z6]) (HL.Blk.new rfl)
@[go_sem] theorem T.stn107 {H : HL.Heap} {z0 z1 z2 : Value} {x0 : Int} {x1 : ByteArray} {x2 : Int} : HL.storeA Try.prog (H.push (.cells #[z0, z1, z2] 107)) 107 ⟨H.size, 0, none⟩ (.agg #[.int .i64 x0, .string x1, .int .i64 x2]) = some (H.push (.cells #[.int .i64 x0, .string x1, .int .i64 x2] 107)) := HL.store_new (z := [z0, z1, z2]) (vs := [.int .i64 x0, .string x1, .int .i64 x2]) T.size107 rfl (HL.one_all rfl)
@[go_sem] theorem T.ln107 {H : HL.Heap} {z0 z1 z2 : Value} : HL.cellsH (HL.cellH (H.push (.cells #[z0, z1, z2] 107))) ⟨H.size, 0, none⟩ 0 3 = some [z0, z1, z2] := HL.Blk.cells0 (new := [z0, z1, z2]) (HL.Blk.new rfl)
@[go_sem] theorem T.stn120 {H : HL.Heap} {z0 z1 z2 z3 z4 : Value} {x0 : ByteArray} {x1 : Int} {x2 : Int} {x3 : Bool} {x4 : Bool} : HL.storeA Try.prog (H.push (.cells #[z0, z1, z2, z3, z4] 120)) 120 ⟨H.size, 0, none⟩ (.agg #[.string x0, .int .i64 x1, .int .i64 x2, .bool x3, .bool x4]) = some (H.push (.cells #[.string x0, .int .i64 x1, .int .i64 x2, .bool x3, .bool x4] 120)) := HL.store_new (z := [z0, z1, z2, z3, z4]) (vs := [.string x0, .int .i64 x1, .int .i64 x2, .bool x3, .bool x4]) T.size120 rfl (HL.one_all rfl)
@[go_sem] theorem T.ln120 {H : HL.Heap} {z0 z1 z2 z3 z4 : Value} : HL.cellsH (HL.cellH (H.push (.cells #[z0, z1, z2, z3, z4] 120))) ⟨H.size, 0, none⟩ 0 5 = some [z0, z1, z2, z3, z4] := HL.Blk.cells0 (new := [z0, z1, z2, z3, z4]) (HL.Blk.new rfl)
@[go_sem] theorem T.stn123 {H : HL.Heap} {z0 z1 z2 z3 z4 z5 z6 z7 z8 z9 : Value} {x0 : ByteArray} {x1 : Int} {a2 : Option Addr} {l2 c2 : Nat} {x3 : Int} {a4 : Option Addr} {l4 c4 : Nat} {a5 : Option Addr} {l5 c5 : Nat} {a6 : Option Addr} {l6 c6 : Nat} {a7 : Option Addr} {l7 c7 : Nat} {a8 : Option Addr} {l8 c8 : Nat} {a9 : Option Addr} {l9 c9 : Nat} : HL.storeA Try.prog (H.push (.cells #[z0, z1, z2, z3, z4, z5, z6, z7, z8, z9] 123)) 123 ⟨H.size, 0, none⟩ (.agg #[.string x0, .int .i64 x1, .slice a2 l2 c2, .int .i64 x3, .slice a4 l4 c4, .slice a5 l5 c5, .slice a6 l6 c6, .slice a7 l7 c7, .slice a8 l8 c8, .slice a9 l9 c9]) = some (H.push (.cells #[.string x0, .int .i64 x1, .slice a2 l2 c2, .int .i64 x3, .slice a4 l4 c4, .slice a5 l5 c5, .slice a6 l6 c6, .slice a7 l7 c7, .slice a8 l8 c8, .slice a9 l9 c9] 123)) := HL.store_new (z := [z0, z1, z2, z3, z4, z5, z6, z7, z8, z9]) (vs := [.string x0, .int .i64 x1, .slice a2 l2 c2, .int .i64 x3, .slice a4 l4 c4, .slice a5 l5 c5, .slice a6 l6 c6, .slice a7 l7 c7, .slice a8 l8 c8, .slice a9 l9 c9]) T.size123 rfl (HL.one_all rfl)
@[go_sem] theorem T.ln123 {H : HL.Heap} {z0 z1 z2 z3 z4 z5 z6 z7 z8 z9 : Value} : HL.cellsH (HL.cellH (H.push (.cells #[z0, z1, z2, z3, z4, z5, z6, z7, z8, z9] 123))) ⟨H.size, 0, none⟩ 0 10 = some [z0, z1, z2, z3, z4, z5, z6, z7, z8, z9] := HL.Blk.cells0 (new := [z0, z1, z2, z3, z4, z5, z6, z7, z8, z9]) (HL.Blk.new rfl)
@[go_sem] theorem T.stn125 {H : HL.Heap} {z0 z1 z2 : Value} {x0 : ByteArray} {x1 : Int} {x2 : Int} : HL.storeA Try.prog (H.push (.cells #[z0, z1, z2] 125)) 125 ⟨H.size, 0, none⟩ (.agg #[.string x0, .int .i64 x1, .int .i64 x2]) = some (H.push (.cells #[.string x0, .int .i64 x1, .int .i64 x2] 125)) := HL.store_new (z := [z0, z1, z2]) (vs := [.string x0, .int .i64 x1, .int .i64 x2]) T.size125 rfl (HL.one_all rfl)
@[go_sem] theorem T.ln125 {H : HL.Heap} {z0 z1 z2 : Value} : HL.cellsH (HL.cellH (H.push (.cells #[z0, z1, z2] 125))) ⟨H.size, 0, none⟩ 0 3 = some [z0, z1, z2] := HL.Blk.cells0 (new := [z0, z1, z2]) (HL.Blk.new rfl)
@[go_sem] theorem T.stn139 {H : HL.Heap} {z0 z1 : Value} {x0 : Int} {x1 : Int} : HL.storeA Try.prog (H.push (.cells #[z0, z1] 139)) 139 ⟨H.size, 0, none⟩ (.agg #[.int .i64 x0, .int .i64 x1]) = some (H.push (.cells #[.int .i64 x0, .int .i64 x1] 139)) := HL.store_new (z := [z0, z1]) (vs := [.int .i64 x0, .int .i64 x1]) T.size139 rfl (HL.one_all rfl)
@[go_sem] theorem T.ln139 {H : HL.Heap} {z0 z1 : Value} : HL.cellsH (HL.cellH (H.push (.cells #[z0, z1] 139))) ⟨H.size, 0, none⟩ 0 2 = some [z0, z1] := HL.Blk.cells0 (new := [z0, z1]) (HL.Blk.new rfl)
@[go_sem] theorem T.sl9 {H : HL.Heap} {a : HL.Str} : HL.lenV Try.prog (HL.full H) 9 (.string (HL.bs a)) = some (.int .i64 a.length) := HL.str_len Try.underlying9
@[go_sem] theorem T.si9 {a : HL.Str} {k : IntKind} {n : Int} : HL.indexV Try.prog 9 (.string (HL.bs a)) (.int k n) = HL.chk (0 ≤ n ∧ n < a.length) (some (HL.u8v (HL.bt8 a n.toNat))) := HL.str_index Try.underlying9
@[go_sem] theorem T.ss9 {a : HL.Str} {k k2 : IntKind} {x y : Int} : HL.sliceV Try.prog 9 (.string (HL.bs a)) (some (.int k x)) (some (.int k2 y)) none = HL.chk (0 ≤ y ∧ y ≤ a.length) (HL.chk (0 ≤ x ∧ x ≤ y.toNat) (some (.string (HL.bs ((a.take y.toNat).drop x.toNat))))) := HL.str_sub Try.underlying9
@[go_sem] theorem T.so9 {a : HL.Str} {k : IntKind} {x : Int} : HL.sliceV Try.prog 9 (.string (HL.bs a)) (some (.int k x)) none none = HL.chk (0 ≤ x ∧ x ≤ a.length) (some (.string (HL.bs (a.drop x.toNat)))) := HL.str_lo Try.underlying9
@[go_sem] theorem T.sh9 {a : HL.Str} {k : IntKind} {y : Int} : HL.sliceV Try.prog 9 (.string (HL.bs a)) none (some (.int k y)) none = HL.chk (0 ≤ y ∧ y ≤ a.length) (some (.string (HL.bs (a.take y.toNat)))) := HL.str_hi Try.underlying9
@[go_sem] theorem T.sl10 {H : HL.Heap} {a : HL.Str} : HL.lenV Try.prog (HL.full H) 10 (.string (HL.bs a)) = some (.int .i64 a.length) := HL.str_len Try.underlying10
@[go_sem] theorem T.si10 {a : HL.Str} {k : IntKind} {n : Int} : HL.indexV Try.prog 10 (.string (HL.bs a)) (.int k n) = HL.chk (0 ≤ n ∧ n < a.length) (some (HL.u8v (HL.bt8 a n.toNat))) := HL.str_index Try.underlying10
@[go_sem] theorem T.ss10 {a : HL.Str} {k k2 : IntKind} {x y : Int} : HL.sliceV Try.prog 10 (.string (HL.bs a)) (some (.int k x)) (some (.int k2 y)) none = HL.chk (0 ≤ y ∧ y ≤ a.length) (HL.chk (0 ≤ x ∧ x ≤ y.toNat) (some (.string (HL.bs ((a.take y.toNat).drop x.toNat))))) := HL.str_sub Try.underlying10
@[go_sem] theorem T.so10 {a : HL.Str} {k : IntKind} {x : Int} : HL.sliceV Try.prog 10 (.string (HL.bs a)) (some (.int k x)) none none = HL.chk (0 ≤ x ∧ x ≤ a.length) (some (.string (HL.bs (a.drop x.toNat)))) := HL.str_lo Try.underlying10
@[go_sem] theorem T.sh10 {a : HL.Str} {k : IntKind} {y : Int} : HL.sliceV Try.prog 10 (.string (HL.bs a)) none (some (.int k y)) none = HL.chk (0 ≤ y ∧ y ≤ a.length) (some (.string (HL.bs (a.take y.toNat)))) := HL.str_hi Try.underlying10
@[go_sem] theorem T.sl11 {H : HL.Heap} {a : HL.Str} : HL.lenV Try.prog (HL.full H) 11 (.string (HL.bs a)) = some (.int .i64 a.length) := HL.str_len Try.underlying11
@[go_sem] theorem T.si11 {a : HL.Str} {k : IntKind} {n : Int} : HL.indexV Try.prog 11 (.string (HL.bs a)) (.int k n) = HL.chk (0 ≤ n ∧ n < a.length) (some (HL.u8v (HL.bt8 a n.toNat))) := HL.str_index Try.underlying11
@[go_sem] theorem T.ss11 {a : HL.Str} {k k2 : IntKind} {x y : Int} : HL.sliceV Try.prog 11 (.string (HL.bs a)) (some (.int k x)) (some (.int k2 y)) none = HL.chk (0 ≤ y ∧ y ≤ a.length) (HL.chk (0 ≤ x ∧ x ≤ y.toNat) (some (.string (HL.bs ((a.take y.toNat).drop x.toNat))))) := HL.str_sub Try.underlying11
@[go_sem] theorem T.so11 {a : HL.Str} {k : IntKind} {x : Int} : HL.sliceV Try.prog 11 (.string (HL.bs a)) (some (.int k x)) none none = HL.chk (0 ≤ x ∧ x ≤ a.length) (some (.string (HL.bs (a.drop x.toNat)))) := HL.str_lo Try.underlying11
@[go_sem] theorem T.sh11 {a : HL.Str} {k : IntKind} {y : Int} : HL.sliceV Try.prog 11 (.string (HL.bs a)) none (some (.int k y)) none = HL.chk (0 ≤ y ∧ y ≤ a.length) (some (.string (HL.bs (a.take y.toNat)))) := HL.str_hi Try.underlying11
end Go.Proofs
