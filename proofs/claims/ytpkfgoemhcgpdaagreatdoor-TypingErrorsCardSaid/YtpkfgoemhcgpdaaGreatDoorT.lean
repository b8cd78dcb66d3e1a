/- Closed facts on the types of the program. -/
import Derived.Test.YtpkfgoemhcgpdaaGreatDoorProg
import Derived.Test.YtpkfgoemhcgpdaaGreatDoorL06
namespace Go.Proofs
theorem T.mixed : Tryz.prog.follows .mixedOrders = true := by kernel_rfl
@[go_sem] theorem T.agg1 : HL.aggN Tryz.prog 1 = some none := by kernel_rfl
@[go_sem] theorem T.size1 : HL.sizeT Tryz.prog 1 = some 1 := by kernel_rfl
@[go_sem] theorem T.bytes1 : HL.bytesT Tryz.prog 1 = some 8 := by kernel_rfl
@[go_sem] theorem T.zero1 : HL.zeroT Tryz.prog 1 = some (.nilFunc) := by kernel_rfl
@[go_sem] theorem T.agg2 : HL.aggN Tryz.prog 2 = some none := by kernel_rfl
@[go_sem] theorem T.size2 : HL.sizeT Tryz.prog 2 = some 1 := by kernel_rfl
@[go_sem] theorem T.bytes2 : HL.bytesT Tryz.prog 2 = some 8 := by kernel_rfl
@[go_sem] theorem T.zero2 : HL.zeroT Tryz.prog 2 = some (.int .i64 0) := by kernel_rfl
@[go_sem] theorem T.agg3 : HL.aggN Tryz.prog 3 = some none := by kernel_rfl
@[go_sem] theorem T.size3 : HL.sizeT Tryz.prog 3 = some 1 := by kernel_rfl
@[go_sem] theorem T.bytes3 : HL.bytesT Tryz.prog 3 = some 8 := by kernel_rfl
@[go_sem] theorem T.zero3 : HL.zeroT Tryz.prog 3 = some (.int .i64 0) := by kernel_rfl
@[go_sem] theorem T.agg4 : HL.aggN Tryz.prog 4 = some none := by kernel_rfl
@[go_sem] theorem T.size4 : HL.sizeT Tryz.prog 4 = some 1 := by kernel_rfl
@[go_sem] theorem T.bytes4 : HL.bytesT Tryz.prog 4 = some 1 := by kernel_rfl
@[go_sem] theorem T.zero4 : HL.zeroT Tryz.prog 4 = some (.bool false) := by kernel_rfl
@[go_sem] theorem T.agg5 : HL.aggN Tryz.prog 5 = some none := by kernel_rfl
@[go_sem] theorem T.size5 : HL.sizeT Tryz.prog 5 = some 1 := by kernel_rfl
@[go_sem] theorem T.bytes5 : HL.bytesT Tryz.prog 5 = some 1 := by kernel_rfl
@[go_sem] theorem T.zero5 : HL.zeroT Tryz.prog 5 = some (.int .u8 0) := by kernel_rfl
@[go_sem] theorem T.agg6 : HL.aggN Tryz.prog 6 = some none := by kernel_rfl
@[go_sem] theorem T.size6 : HL.sizeT Tryz.prog 6 = some 1 := by kernel_rfl
@[go_sem] theorem T.bytes6 : HL.bytesT Tryz.prog 6 = some 1 := by kernel_rfl
@[go_sem] theorem T.zero6 : HL.zeroT Tryz.prog 6 = some (.int .u8 0) := by kernel_rfl
@[go_sem] theorem T.agg7 : HL.aggN Tryz.prog 7 = some (some 4) := by kernel_rfl
@[go_sem] theorem T.size7 : HL.sizeT Tryz.prog 7 = some 4 := by kernel_rfl
@[go_sem] theorem T.bytes7 : HL.bytesT Tryz.prog 7 = some 24 := by kernel_rfl
@[go_sem] theorem T.zero7 : HL.zeroT Tryz.prog 7 = some (.agg #[.int .i64 0, .int .i64 0, .bool false, .int .u8 0]) := by kernel_rfl
@[go_sem] theorem T.places7 : HL.placesT Tryz.prog 7 = some [(0, 1), (1, 1), (2, 1), (3, 1)] := by kernel_rfl
@[go_sem] theorem T.field7_0 : HL.fieldT Tryz.prog 7 0 = some (0, 2) := by kernel_rfl
@[go_sem] theorem T.fieldO7_0 : HL.fieldO Tryz.prog 7 0 = some 0 := by kernel_rfl
@[go_sem] theorem T.field7_1 : HL.fieldT Tryz.prog 7 1 = some (1, 3) := by kernel_rfl
@[go_sem] theorem T.fieldO7_1 : HL.fieldO Tryz.prog 7 1 = some 1 := by kernel_rfl
@[go_sem] theorem T.field7_2 : HL.fieldT Tryz.prog 7 2 = some (2, 4) := by kernel_rfl
@[go_sem] theorem T.fieldO7_2 : HL.fieldO Tryz.prog 7 2 = some 2 := by kernel_rfl
@[go_sem] theorem T.field7_3 : HL.fieldT Tryz.prog 7 3 = some (3, 6) := by kernel_rfl
@[go_sem] theorem T.fieldO7_3 : HL.fieldO Tryz.prog 7 3 = some 3 := by kernel_rfl
@[go_sem] theorem T.agg8 : HL.aggN Tryz.prog 8 = some (some 4) := by kernel_rfl
@[go_sem] theorem T.size8 : HL.sizeT Tryz.prog 8 = some 4 := by kernel_rfl
@[go_sem] theorem T.bytes8 : HL.bytesT Tryz.prog 8 = some 24 := by kernel_rfl
@[go_sem] theorem T.zero8 : HL.zeroT Tryz.prog 8 = some (.agg #[.int .i64 0, .int .i64 0, .bool false, .int .u8 0]) := by kernel_rfl
@[go_sem] theorem T.places8 : HL.placesT Tryz.prog 8 = some [(0, 1), (1, 1), (2, 1), (3, 1)] := by kernel_rfl
@[go_sem] theorem T.field8_0 : HL.fieldT Tryz.prog 8 0 = some (0, 2) := by kernel_rfl
@[go_sem] theorem T.fieldO8_0 : HL.fieldO Tryz.prog 8 0 = some 0 := by kernel_rfl
@[go_sem] theorem T.field8_1 : HL.fieldT Tryz.prog 8 1 = some (1, 3) := by kernel_rfl
@[go_sem] theorem T.fieldO8_1 : HL.fieldO Tryz.prog 8 1 = some 1 := by kernel_rfl
@[go_sem] theorem T.field8_2 : HL.fieldT Tryz.prog 8 2 = some (2, 4) := by kernel_rfl
@[go_sem] theorem T.fieldO8_2 : HL.fieldO Tryz.prog 8 2 = some 2 := by kernel_rfl
@[go_sem] theorem T.field8_3 : HL.fieldT Tryz.prog 8 3 = some (3, 6) := by kernel_rfl
@[go_sem] theorem T.fieldO8_3 : HL.fieldO Tryz.prog 8 3 = some 3 := by kernel_rfl
@[go_sem] theorem T.agg9 : HL.aggN Tryz.prog 9 = some none := by kernel_rfl
@[go_sem] theorem T.size9 : HL.sizeT Tryz.prog 9 = some 1 := by kernel_rfl
@[go_sem] theorem T.bytes9 : HL.bytesT Tryz.prog 9 = some 16 := by kernel_rfl
@[go_sem] theorem T.zero9 : HL.zeroT Tryz.prog 9 = some (.string ⟨#[]⟩) := by kernel_rfl
@[go_sem] theorem T.agg10 : HL.aggN Tryz.prog 10 = some none := by kernel_rfl
@[go_sem] theorem T.size10 : HL.sizeT Tryz.prog 10 = some 1 := by kernel_rfl
@[go_sem] theorem T.bytes10 : HL.bytesT Tryz.prog 10 = some 16 := by kernel_rfl
@[go_sem] theorem T.zero10 : HL.zeroT Tryz.prog 10 = some (.string ⟨#[]⟩) := by kernel_rfl
@[go_sem] theorem T.agg11 : HL.aggN Tryz.prog 11 = some none := by kernel_rfl
@[go_sem] theorem T.size11 : HL.sizeT Tryz.prog 11 = some 1 := by kernel_rfl
@[go_sem] theorem T.bytes11 : HL.bytesT Tryz.prog 11 = some 16 := by kernel_rfl
@[go_sem] theorem T.zero11 : HL.zeroT Tryz.prog 11 = some (.string ⟨#[]⟩) := by kernel_rfl
@[go_sem] theorem T.agg12 : HL.aggN Tryz.prog 12 = some none := by kernel_rfl
@[go_sem] theorem T.size12 : HL.sizeT Tryz.prog 12 = some 1 := by kernel_rfl
@[go_sem] theorem T.bytes12 : HL.bytesT Tryz.prog 12 = some 8 := by kernel_rfl
@[go_sem] theorem T.zero12 : HL.zeroT Tryz.prog 12 = some (.int .u64 0) := by kernel_rfl
@[go_sem] theorem T.agg13 : HL.aggN Tryz.prog 13 = some (some 2) := by kernel_rfl
@[go_sem] theorem T.size13 : HL.sizeT Tryz.prog 13 = some 2 := by kernel_rfl
@[go_sem] theorem T.bytes13 : HL.bytesT Tryz.prog 13 = some 24 := by kernel_rfl
@[go_sem] theorem T.zero13 : HL.zeroT Tryz.prog 13 = some (.agg #[.string ⟨#[]⟩, .int .u64 0]) := by kernel_rfl
@[go_sem] theorem T.places13 : HL.placesT Tryz.prog 13 = some [(0, 1), (1, 1)] := by kernel_rfl
@[go_sem] theorem T.field13_0 : HL.fieldT Tryz.prog 13 0 = some (0, 9) := by kernel_rfl
@[go_sem] theorem T.fieldO13_0 : HL.fieldO Tryz.prog 13 0 = some 0 := by kernel_rfl
@[go_sem] theorem T.field13_1 : HL.fieldT Tryz.prog 13 1 = some (1, 12) := by kernel_rfl
@[go_sem] theorem T.fieldO13_1 : HL.fieldO Tryz.prog 13 1 = some 1 := by kernel_rfl
@[go_sem] theorem T.agg14 : HL.aggN Tryz.prog 14 = some (some 2) := by kernel_rfl
@[go_sem] theorem T.size14 : HL.sizeT Tryz.prog 14 = some 2 := by kernel_rfl
@[go_sem] theorem T.bytes14 : HL.bytesT Tryz.prog 14 = some 24 := by kernel_rfl
@[go_sem] theorem T.zero14 : HL.zeroT Tryz.prog 14 = some (.agg #[.string ⟨#[]⟩, .int .u64 0]) := by kernel_rfl
@[go_sem] theorem T.places14 : HL.placesT Tryz.prog 14 = some [(0, 1), (1, 1)] := by kernel_rfl
@[go_sem] theorem T.field14_0 : HL.fieldT Tryz.prog 14 0 = some (0, 9) := by kernel_rfl
@[go_sem] theorem T.fieldO14_0 : HL.fieldO Tryz.prog 14 0 = some 0 := by kernel_rfl
@[go_sem] theorem T.field14_1 : HL.fieldT Tryz.prog 14 1 = some (1, 12) := by kernel_rfl
@[go_sem] theorem T.fieldO14_1 : HL.fieldO Tryz.prog 14 1 = some 1 := by kernel_rfl
@[go_sem] theorem T.agg15 : HL.aggN Tryz.prog 15 = some none := by kernel_rfl
@[go_sem] theorem T.size15 : HL.sizeT Tryz.prog 15 = some 1 := by kernel_rfl
@[go_sem] theorem T.bytes15 : HL.bytesT Tryz.prog 15 = some 8 := by kernel_rfl
@[go_sem] theorem T.zero15 : HL.zeroT Tryz.prog 15 = some (.pointer none) := by kernel_rfl
@[go_sem] theorem T.agg16 : HL.aggN Tryz.prog 16 = some none := by kernel_rfl
@[go_sem] theorem T.size16 : HL.sizeT Tryz.prog 16 = some 1 := by kernel_rfl
@[go_sem] theorem T.bytes16 : HL.bytesT Tryz.prog 16 = some 8 := by kernel_rfl
@[go_sem] theorem T.zero16 : HL.zeroT Tryz.prog 16 = some (.pointer none) := by kernel_rfl
@[go_sem] theorem T.agg17 : HL.aggN Tryz.prog 17 = some none := by kernel_rfl
@[go_sem] theorem T.size17 : HL.sizeT Tryz.prog 17 = some 1 := by kernel_rfl
@[go_sem] theorem T.bytes17 : HL.bytesT Tryz.prog 17 = some 8 := by kernel_rfl
@[go_sem] theorem T.zero17 : HL.zeroT Tryz.prog 17 = some (.pointer none) := by kernel_rfl
@[go_sem] theorem T.agg18 : HL.aggN Tryz.prog 18 = some (some 1) := by kernel_rfl
@[go_sem] theorem T.size18 : HL.sizeT Tryz.prog 18 = some 1 := by kernel_rfl
@[go_sem] theorem T.bytes18 : HL.bytesT Tryz.prog 18 = some 8 := by kernel_rfl
@[go_sem] theorem T.zero18 : HL.zeroT Tryz.prog 18 = some (.agg #[.pointer none]) := by kernel_rfl
@[go_sem] theorem T.places18 : HL.placesT Tryz.prog 18 = some [(0, 1)] := by kernel_rfl
@[go_sem] theorem T.field18_0 : HL.fieldT Tryz.prog 18 0 = some (0, 17) := by kernel_rfl
@[go_sem] theorem T.fieldO18_0 : HL.fieldO Tryz.prog 18 0 = some 0 := by kernel_rfl
@[go_sem] theorem T.agg19 : HL.aggN Tryz.prog 19 = some (some 1) := by kernel_rfl
@[go_sem] theorem T.size19 : HL.sizeT Tryz.prog 19 = some 1 := by kernel_rfl
@[go_sem] theorem T.bytes19 : HL.bytesT Tryz.prog 19 = some 8 := by kernel_rfl
@[go_sem] theorem T.zero19 : HL.zeroT Tryz.prog 19 = some (.agg #[.pointer none]) := by kernel_rfl
@[go_sem] theorem T.places19 : HL.placesT Tryz.prog 19 = some [(0, 1)] := by kernel_rfl
@[go_sem] theorem T.field19_0 : HL.fieldT Tryz.prog 19 0 = some (0, 17) := by kernel_rfl
@[go_sem] theorem T.fieldO19_0 : HL.fieldO Tryz.prog 19 0 = some 0 := by kernel_rfl
@[go_sem] theorem T.agg20 : HL.aggN Tryz.prog 20 = some none := by kernel_rfl
@[go_sem] theorem T.size20 : HL.sizeT Tryz.prog 20 = some 1 := by kernel_rfl
@[go_sem] theorem T.bytes20 : HL.bytesT Tryz.prog 20 = some 16 := by kernel_rfl
@[go_sem] theorem T.zero20 : HL.zeroT Tryz.prog 20 = some (.nilIface) := by kernel_rfl
@[go_sem] theorem T.agg21 : HL.aggN Tryz.prog 21 = some none := by kernel_rfl
@[go_sem] theorem T.size21 : HL.sizeT Tryz.prog 21 = some 1 := by kernel_rfl
@[go_sem] theorem T.bytes21 : HL.bytesT Tryz.prog 21 = some 4 := by kernel_rfl
@[go_sem] theorem T.zero21 : HL.zeroT Tryz.prog 21 = some (.int .i32 0) := by kernel_rfl
@[go_sem] theorem T.agg22 : HL.aggN Tryz.prog 22 = some none := by kernel_rfl
@[go_sem] theorem T.size22 : HL.sizeT Tryz.prog 22 = some 1 := by kernel_rfl
@[go_sem] theorem T.bytes22 : HL.bytesT Tryz.prog 22 = some 8 := by kernel_rfl
@[go_sem] theorem T.zero22 : HL.zeroT Tryz.prog 22 = some (.nilFunc) := by kernel_rfl
@[go_sem] theorem T.agg23 : HL.aggN Tryz.prog 23 = some none := by kernel_rfl
@[go_sem] theorem T.size23 : HL.sizeT Tryz.prog 23 = some 1 := by kernel_rfl
@[go_sem] theorem T.bytes23 : HL.bytesT Tryz.prog 23 = some 8 := by kernel_rfl
@[go_sem] theorem T.zero23 : HL.zeroT Tryz.prog 23 = some (.int .i64 0) := by kernel_rfl
@[go_sem] theorem T.agg24 : HL.aggN Tryz.prog 24 = some (some 2) := by kernel_rfl
@[go_sem] theorem T.size24 : HL.sizeT Tryz.prog 24 = some 2 := by kernel_rfl
@[go_sem] theorem T.bytes24 : HL.bytesT Tryz.prog 24 = some 16 := by kernel_rfl
@[go_sem] theorem T.zero24 : HL.zeroT Tryz.prog 24 = some (.agg #[.int .i64 0, .int .i64 0]) := by kernel_rfl
@[go_sem] theorem T.places24 : HL.placesT Tryz.prog 24 = some [(0, 1), (1, 1)] := by kernel_rfl
@[go_sem] theorem T.field24_0 : HL.fieldT Tryz.prog 24 0 = some (0, 23) := by kernel_rfl
@[go_sem] theorem T.fieldO24_0 : HL.fieldO Tryz.prog 24 0 = some 0 := by kernel_rfl
@[go_sem] theorem T.field24_1 : HL.fieldT Tryz.prog 24 1 = some (1, 3) := by kernel_rfl
@[go_sem] theorem T.fieldO24_1 : HL.fieldO Tryz.prog 24 1 = some 1 := by kernel_rfl
@[go_sem] theorem T.agg25 : HL.aggN Tryz.prog 25 = some (some 2) := by kernel_rfl
@[go_sem] theorem T.size25 : HL.sizeT Tryz.prog 25 = some 2 := by kernel_rfl
@[go_sem] theorem T.bytes25 : HL.bytesT Tryz.prog 25 = some 16 := by kernel_rfl
@[go_sem] theorem T.zero25 : HL.zeroT Tryz.prog 25 = some (.agg #[.int .i64 0, .int .i64 0]) := by kernel_rfl
@[go_sem] theorem T.places25 : HL.placesT Tryz.prog 25 = some [(0, 1), (1, 1)] := by kernel_rfl
@[go_sem] theorem T.field25_0 : HL.fieldT Tryz.prog 25 0 = some (0, 23) := by kernel_rfl
@[go_sem] theorem T.fieldO25_0 : HL.fieldO Tryz.prog 25 0 = some 0 := by kernel_rfl
@[go_sem] theorem T.field25_1 : HL.fieldT Tryz.prog 25 1 = some (1, 3) := by kernel_rfl
@[go_sem] theorem T.fieldO25_1 : HL.fieldO Tryz.prog 25 1 = some 1 := by kernel_rfl
@[go_sem] theorem T.agg26 : HL.aggN Tryz.prog 26 = some none := by kernel_rfl
@[go_sem] theorem T.size26 : HL.sizeT Tryz.prog 26 = some 1 := by kernel_rfl
@[go_sem] theorem T.bytes26 : HL.bytesT Tryz.prog 26 = some 16 := by kernel_rfl
@[go_sem] theorem T.zero26 : HL.zeroT Tryz.prog 26 = some (.nilIface) := by kernel_rfl
@[go_sem] theorem T.agg27 : HL.aggN Tryz.prog 27 = some none := by kernel_rfl
@[go_sem] theorem T.size27 : HL.sizeT Tryz.prog 27 = some 1 := by kernel_rfl
@[go_sem] theorem T.bytes27 : HL.bytesT Tryz.prog 27 = some 16 := by kernel_rfl
@[go_sem] theorem T.zero27 : HL.zeroT Tryz.prog 27 = some (.nilIface) := by kernel_rfl
@[go_sem] theorem T.agg28 : HL.aggN Tryz.prog 28 = some none := by kernel_rfl
@[go_sem] theorem T.size28 : HL.sizeT Tryz.prog 28 = some 1 := by kernel_rfl
@[go_sem] theorem T.bytes28 : HL.bytesT Tryz.prog 28 = some 8 := by kernel_rfl
@[go_sem] theorem T.zero28 : HL.zeroT Tryz.prog 28 = some (.nilFunc) := by kernel_rfl
@[go_sem] theorem T.agg29 : HL.aggN Tryz.prog 29 = some none := by kernel_rfl
@[go_sem] theorem T.size29 : HL.sizeT Tryz.prog 29 = some 1 := by kernel_rfl
@[go_sem] theorem T.bytes29 : HL.bytesT Tryz.prog 29 = some 8 := by kernel_rfl
@[go_sem] theorem T.zero29 : HL.zeroT Tryz.prog 29 = some (.pointer none) := by kernel_rfl
@[go_sem] theorem T.agg30 : HL.aggN Tryz.prog 30 = some none := by kernel_rfl
@[go_sem] theorem T.size30 : HL.sizeT Tryz.prog 30 = some 1 := by kernel_rfl
@[go_sem] theorem T.bytes30 : HL.bytesT Tryz.prog 30 = some 8 := by kernel_rfl
@[go_sem] theorem T.zero30 : HL.zeroT Tryz.prog 30 = some (.nilFunc) := by kernel_rfl
@[go_sem] theorem T.agg31 : HL.aggN Tryz.prog 31 = some none := by kernel_rfl
@[go_sem] theorem T.size31 : HL.sizeT Tryz.prog 31 = some 1 := by kernel_rfl
@[go_sem] theorem T.bytes31 : HL.bytesT Tryz.prog 31 = some 8 := by kernel_rfl
@[go_sem] theorem T.zero31 : HL.zeroT Tryz.prog 31 = some (.pointer none) := by kernel_rfl
@[go_sem] theorem T.agg32 : HL.aggN Tryz.prog 32 = some none := by kernel_rfl
@[go_sem] theorem T.size32 : HL.sizeT Tryz.prog 32 = some 1 := by kernel_rfl
@[go_sem] theorem T.bytes32 : HL.bytesT Tryz.prog 32 = some 8 := by kernel_rfl
@[go_sem] theorem T.zero32 : HL.zeroT Tryz.prog 32 = some (.nilFunc) := by kernel_rfl
@[go_sem] theorem T.agg33 : HL.aggN Tryz.prog 33 = some none := by kernel_rfl
@[go_sem] theorem T.size33 : HL.sizeT Tryz.prog 33 = some 1 := by kernel_rfl
@[go_sem] theorem T.bytes33 : HL.bytesT Tryz.prog 33 = some 8 := by kernel_rfl
@[go_sem] theorem T.zero33 : HL.zeroT Tryz.prog 33 = some (.nilFunc) := by kernel_rfl
@[go_sem] theorem T.agg34 : HL.aggN Tryz.prog 34 = some none := by kernel_rfl
@[go_sem] theorem T.size34 : HL.sizeT Tryz.prog 34 = some 1 := by kernel_rfl
@[go_sem] theorem T.bytes34 : HL.bytesT Tryz.prog 34 = some 8 := by kernel_rfl
@[go_sem] theorem T.zero34 : HL.zeroT Tryz.prog 34 = some (.nilFunc) := by kernel_rfl
@[go_sem] theorem T.agg35 : HL.aggN Tryz.prog 35 = some none := by kernel_rfl
@[go_sem] theorem T.size35 : HL.sizeT Tryz.prog 35 = some 1 := by kernel_rfl
@[go_sem] theorem T.bytes35 : HL.bytesT Tryz.prog 35 = some 8 := by kernel_rfl
@[go_sem] theorem T.zero35 : HL.zeroT Tryz.prog 35 = some (.nilFunc) := by kernel_rfl
@[go_sem] theorem T.agg36 : HL.aggN Tryz.prog 36 = some (some 3) := by kernel_rfl
@[go_sem] theorem T.size36 : HL.sizeT Tryz.prog 36 = some 3 := by kernel_rfl
@[go_sem] theorem T.bytes36 : HL.bytesT Tryz.prog 36 = some 32 := by kernel_rfl
@[go_sem] theorem T.zero36 : HL.zeroT Tryz.prog 36 = some (.agg #[.int .i64 0, .int .i64 0, .nilIface]) := by kernel_rfl
@[go_sem] theorem T.places36 : HL.placesT Tryz.prog 36 = some [(0, 1), (1, 1), (2, 1)] := by kernel_rfl
@[go_sem] theorem T.field36_0 : HL.fieldT Tryz.prog 36 0 = some (0, 3) := by kernel_rfl
@[go_sem] theorem T.fieldO36_0 : HL.fieldO Tryz.prog 36 0 = some 0 := by kernel_rfl
@[go_sem] theorem T.field36_1 : HL.fieldT Tryz.prog 36 1 = some (1, 3) := by kernel_rfl
@[go_sem] theorem T.fieldO36_1 : HL.fieldO Tryz.prog 36 1 = some 1 := by kernel_rfl
@[go_sem] theorem T.field36_2 : HL.fieldT Tryz.prog 36 2 = some (2, 27) := by kernel_rfl
@[go_sem] theorem T.fieldO36_2 : HL.fieldO Tryz.prog 36 2 = some 2 := by kernel_rfl
@[go_sem] theorem T.agg37 : HL.aggN Tryz.prog 37 = some (some 3) := by kernel_rfl
@[go_sem] theorem T.size37 : HL.sizeT Tryz.prog 37 = some 3 := by kernel_rfl
@[go_sem] theorem T.bytes37 : HL.bytesT Tryz.prog 37 = some 32 := by kernel_rfl
@[go_sem] theorem T.zero37 : HL.zeroT Tryz.prog 37 = some (.agg #[.int .i64 0, .int .i64 0, .nilIface]) := by kernel_rfl
@[go_sem] theorem T.places37 : HL.placesT Tryz.prog 37 = some [(0, 1), (1, 1), (2, 1)] := by kernel_rfl
@[go_sem] theorem T.field37_0 : HL.fieldT Tryz.prog 37 0 = some (0, 3) := by kernel_rfl
@[go_sem] theorem T.fieldO37_0 : HL.fieldO Tryz.prog 37 0 = some 0 := by kernel_rfl
@[go_sem] theorem T.field37_1 : HL.fieldT Tryz.prog 37 1 = some (1, 3) := by kernel_rfl
@[go_sem] theorem T.fieldO37_1 : HL.fieldO Tryz.prog 37 1 = some 1 := by kernel_rfl
@[go_sem] theorem T.field37_2 : HL.fieldT Tryz.prog 37 2 = some (2, 27) := by kernel_rfl
@[go_sem] theorem T.fieldO37_2 : HL.fieldO Tryz.prog 37 2 = some 2 := by kernel_rfl
@[go_sem] theorem T.agg38 : HL.aggN Tryz.prog 38 = some none := by kernel_rfl
@[go_sem] theorem T.size38 : HL.sizeT Tryz.prog 38 = some 1 := by kernel_rfl
@[go_sem] theorem T.bytes38 : HL.bytesT Tryz.prog 38 = some 8 := by kernel_rfl
@[go_sem] theorem T.zero38 : HL.zeroT Tryz.prog 38 = some (.nilFunc) := by kernel_rfl
@[go_sem] theorem T.agg39 : HL.aggN Tryz.prog 39 = some none := by kernel_rfl
@[go_sem] theorem T.size39 : HL.sizeT Tryz.prog 39 = some 1 := by kernel_rfl
@[go_sem] theorem T.bytes39 : HL.bytesT Tryz.prog 39 = some 24 := by kernel_rfl
@[go_sem] theorem T.zero39 : HL.zeroT Tryz.prog 39 = some (.slice none 0 0) := by kernel_rfl
@[go_sem] theorem T.elem39 : HL.elemT Tryz.prog 39 = some 69 := by kernel_rfl
@[go_sem] theorem T.elemS39 : HL.elemS Tryz.prog 39 = some 5 := by kernel_rfl
@[go_sem] theorem T.agg41 : HL.aggN Tryz.prog 41 = some none := by kernel_rfl
@[go_sem] theorem T.size41 : HL.sizeT Tryz.prog 41 = some 1 := by kernel_rfl
@[go_sem] theorem T.bytes41 : HL.bytesT Tryz.prog 41 = some 8 := by kernel_rfl
@[go_sem] theorem T.zero41 : HL.zeroT Tryz.prog 41 = some (.nilFunc) := by kernel_rfl
@[go_sem] theorem T.agg42 : HL.aggN Tryz.prog 42 = some none := by kernel_rfl
@[go_sem] theorem T.size42 : HL.sizeT Tryz.prog 42 = some 1 := by kernel_rfl
@[go_sem] theorem T.bytes42 : HL.bytesT Tryz.prog 42 = some 8 := by kernel_rfl
@[go_sem] theorem T.zero42 : HL.zeroT Tryz.prog 42 = some (.nilFunc) := by kernel_rfl
@[go_sem] theorem T.agg44 : HL.aggN Tryz.prog 44 = some none := by kernel_rfl
@[go_sem] theorem T.size44 : HL.sizeT Tryz.prog 44 = some 1 := by kernel_rfl
@[go_sem] theorem T.bytes44 : HL.bytesT Tryz.prog 44 = some 8 := by kernel_rfl
@[go_sem] theorem T.zero44 : HL.zeroT Tryz.prog 44 = some (.nilFunc) := by kernel_rfl
@[go_sem] theorem T.agg45 : HL.aggN Tryz.prog 45 = some none := by kernel_rfl
@[go_sem] theorem T.size45 : HL.sizeT Tryz.prog 45 = some 1 := by kernel_rfl
@[go_sem] theorem T.bytes45 : HL.bytesT Tryz.prog 45 = some 8 := by kernel_rfl
@[go_sem] theorem T.zero45 : HL.zeroT Tryz.prog 45 = some (.pointer none) := by kernel_rfl
@[go_sem] theorem T.agg46 : HL.aggN Tryz.prog 46 = some none := by kernel_rfl
@[go_sem] theorem T.size46 : HL.sizeT Tryz.prog 46 = some 1 := by kernel_rfl
@[go_sem] theorem T.bytes46 : HL.bytesT Tryz.prog 46 = some 8 := by kernel_rfl
@[go_sem] theorem T.zero46 : HL.zeroT Tryz.prog 46 = some (.int .u64 0) := by kernel_rfl
@[go_sem] theorem T.agg47 : HL.aggN Tryz.prog 47 = some (some 3) := by kernel_rfl
@[go_sem] theorem T.size47 : HL.sizeT Tryz.prog 47 = some 3 := by kernel_rfl
@[go_sem] theorem T.bytes47 : HL.bytesT Tryz.prog 47 = some 24 := by kernel_rfl
@[go_sem] theorem T.zero47 : HL.zeroT Tryz.prog 47 = some (.agg #[.pointer none, .pointer none, .int .u64 0]) := by kernel_rfl
@[go_sem] theorem T.places47 : HL.placesT Tryz.prog 47 = some [(0, 1), (1, 1), (2, 1)] := by kernel_rfl
@[go_sem] theorem T.field47_0 : HL.fieldT Tryz.prog 47 0 = some (0, 17) := by kernel_rfl
@[go_sem] theorem T.fieldO47_0 : HL.fieldO Tryz.prog 47 0 = some 0 := by kernel_rfl
@[go_sem] theorem T.field47_1 : HL.fieldT Tryz.prog 47 1 = some (1, 45) := by kernel_rfl
@[go_sem] theorem T.fieldO47_1 : HL.fieldO Tryz.prog 47 1 = some 1 := by kernel_rfl
@[go_sem] theorem T.field47_2 : HL.fieldT Tryz.prog 47 2 = some (2, 46) := by kernel_rfl
@[go_sem] theorem T.fieldO47_2 : HL.fieldO Tryz.prog 47 2 = some 2 := by kernel_rfl
@[go_sem] theorem T.agg48 : HL.aggN Tryz.prog 48 = some (some 3) := by kernel_rfl
@[go_sem] theorem T.size48 : HL.sizeT Tryz.prog 48 = some 3 := by kernel_rfl
@[go_sem] theorem T.bytes48 : HL.bytesT Tryz.prog 48 = some 24 := by kernel_rfl
@[go_sem] theorem T.zero48 : HL.zeroT Tryz.prog 48 = some (.agg #[.pointer none, .pointer none, .int .u64 0]) := by kernel_rfl
@[go_sem] theorem T.places48 : HL.placesT Tryz.prog 48 = some [(0, 1), (1, 1), (2, 1)] := by kernel_rfl
@[go_sem] theorem T.field48_0 : HL.fieldT Tryz.prog 48 0 = some (0, 17) := by kernel_rfl
@[go_sem] theorem T.fieldO48_0 : HL.fieldO Tryz.prog 48 0 = some 0 := by kernel_rfl
@[go_sem] theorem T.field48_1 : HL.fieldT Tryz.prog 48 1 = some (1, 45) := by kernel_rfl
@[go_sem] theorem T.fieldO48_1 : HL.fieldO Tryz.prog 48 1 = some 1 := by kernel_rfl
@[go_sem] theorem T.field48_2 : HL.fieldT Tryz.prog 48 2 = some (2, 46) := by kernel_rfl
@[go_sem] theorem T.fieldO48_2 : HL.fieldO Tryz.prog 48 2 = some 2 := by kernel_rfl
@[go_sem] theorem T.agg49 : HL.aggN Tryz.prog 49 = some none := by kernel_rfl
@[go_sem] theorem T.size49 : HL.sizeT Tryz.prog 49 = some 1 := by kernel_rfl
@[go_sem] theorem T.bytes49 : HL.bytesT Tryz.prog 49 = some 8 := by kernel_rfl
@[go_sem] theorem T.zero49 : HL.zeroT Tryz.prog 49 = some (.nilFunc) := by kernel_rfl
@[go_sem] theorem T.agg50 : HL.aggN Tryz.prog 50 = some none := by kernel_rfl
@[go_sem] theorem T.size50 : HL.sizeT Tryz.prog 50 = some 1 := by kernel_rfl
@[go_sem] theorem T.bytes50 : HL.bytesT Tryz.prog 50 = some 16 := by kernel_rfl
@[go_sem] theorem T.zero50 : HL.zeroT Tryz.prog 50 = some (.nilIface) := by kernel_rfl
@[go_sem] theorem T.agg51 : HL.aggN Tryz.prog 51 = some none := by kernel_rfl
@[go_sem] theorem T.size51 : HL.sizeT Tryz.prog 51 = some 1 := by kernel_rfl
@[go_sem] theorem T.bytes51 : HL.bytesT Tryz.prog 51 = some 16 := by kernel_rfl
@[go_sem] theorem T.zero51 : HL.zeroT Tryz.prog 51 = some (.nilIface) := by kernel_rfl
@[go_sem] theorem T.agg52 : HL.aggN Tryz.prog 52 = some none := by kernel_rfl
@[go_sem] theorem T.size52 : HL.sizeT Tryz.prog 52 = some 1 := by kernel_rfl
@[go_sem] theorem T.bytes52 : HL.bytesT Tryz.prog 52 = some 8 := by kernel_rfl
@[go_sem] theorem T.zero52 : HL.zeroT Tryz.prog 52 = some (.nilFunc) := by kernel_rfl
@[go_sem] theorem T.agg53 : HL.aggN Tryz.prog 53 = some none := by kernel_rfl
@[go_sem] theorem T.size53 : HL.sizeT Tryz.prog 53 = some 1 := by kernel_rfl
@[go_sem] theorem T.bytes53 : HL.bytesT Tryz.prog 53 = some 1 := by kernel_rfl
@[go_sem] theorem T.zero53 : HL.zeroT Tryz.prog 53 = some (.int .u8 0) := by kernel_rfl
@[go_sem] theorem T.agg54 : HL.aggN Tryz.prog 54 = some none := by kernel_rfl
@[go_sem] theorem T.size54 : HL.sizeT Tryz.prog 54 = some 1 := by kernel_rfl
@[go_sem] theorem T.bytes54 : HL.bytesT Tryz.prog 54 = some 8 := by kernel_rfl
@[go_sem] theorem T.zero54 : HL.zeroT Tryz.prog 54 = some (.nilFunc) := by kernel_rfl
@[go_sem] theorem T.agg55 : HL.aggN Tryz.prog 55 = some none := by kernel_rfl
@[go_sem] theorem T.size55 : HL.sizeT Tryz.prog 55 = some 1 := by kernel_rfl
@[go_sem] theorem T.bytes55 : HL.bytesT Tryz.prog 55 = some 8 := by kernel_rfl
@[go_sem] theorem T.zero55 : HL.zeroT Tryz.prog 55 = some (.nilFunc) := by kernel_rfl
@[go_sem] theorem T.agg56 : HL.aggN Tryz.prog 56 = some none := by kernel_rfl
@[go_sem] theorem T.size56 : HL.sizeT Tryz.prog 56 = some 1 := by kernel_rfl
@[go_sem] theorem T.bytes56 : HL.bytesT Tryz.prog 56 = some 8 := by kernel_rfl
@[go_sem] theorem T.zero56 : HL.zeroT Tryz.prog 56 = some (.nilFunc) := by kernel_rfl
@[go_sem] theorem T.agg57 : HL.aggN Tryz.prog 57 = some none := by kernel_rfl
@[go_sem] theorem T.size57 : HL.sizeT Tryz.prog 57 = some 1 := by kernel_rfl
@[go_sem] theorem T.bytes57 : HL.bytesT Tryz.prog 57 = some 8 := by kernel_rfl
@[go_sem] theorem T.zero57 : HL.zeroT Tryz.prog 57 = some (.nilFunc) := by kernel_rfl
@[go_sem] theorem T.agg58 : HL.aggN Tryz.prog 58 = some none := by kernel_rfl
@[go_sem] theorem T.size58 : HL.sizeT Tryz.prog 58 = some 1 := by kernel_rfl
@[go_sem] theorem T.bytes58 : HL.bytesT Tryz.prog 58 = some 8 := by kernel_rfl
@[go_sem] theorem T.zero58 : HL.zeroT Tryz.prog 58 = some (.nilFunc) := by kernel_rfl
@[go_sem] theorem T.agg59 : HL.aggN Tryz.prog 59 = some none := by kernel_rfl
@[go_sem] theorem T.size59 : HL.sizeT Tryz.prog 59 = some 1 := by kernel_rfl
@[go_sem] theorem T.bytes59 : HL.bytesT Tryz.prog 59 = some 8 := by kernel_rfl
@[go_sem] theorem T.zero59 : HL.zeroT Tryz.prog 59 = some (.nilFunc) := by kernel_rfl
@[go_sem] theorem T.agg60 : HL.aggN Tryz.prog 60 = some none := by kernel_rfl
@[go_sem] theorem T.size60 : HL.sizeT Tryz.prog 60 = some 1 := by kernel_rfl
@[go_sem] theorem T.bytes60 : HL.bytesT Tryz.prog 60 = some 24 := by kernel_rfl
@[go_sem] theorem T.zero60 : HL.zeroT Tryz.prog 60 = some (.slice none 0 0) := by kernel_rfl
@[go_sem] theorem T.elem60 : HL.elemT Tryz.prog 60 = some 101 := by kernel_rfl
@[go_sem] theorem T.elemS60 : HL.elemS Tryz.prog 60 = some 3 := by kernel_rfl
@[go_sem] theorem T.agg62 : HL.aggN Tryz.prog 62 = some none := by kernel_rfl
@[go_sem] theorem T.size62 : HL.sizeT Tryz.prog 62 = some 1 := by kernel_rfl
@[go_sem] theorem T.bytes62 : HL.bytesT Tryz.prog 62 = some 8 := by kernel_rfl
@[go_sem] theorem T.zero62 : HL.zeroT Tryz.prog 62 = some (.nilFunc) := by kernel_rfl
@[go_sem] theorem T.agg63 : HL.aggN Tryz.prog 63 = some none := by kernel_rfl
@[go_sem] theorem T.size63 : HL.sizeT Tryz.prog 63 = some 1 := by kernel_rfl
@[go_sem] theorem T.bytes63 : HL.bytesT Tryz.prog 63 = some 8 := by kernel_rfl
@[go_sem] theorem T.zero63 : HL.zeroT Tryz.prog 63 = some (.pointer none) := by kernel_rfl
@[go_sem] theorem T.agg64 : HL.aggN Tryz.prog 64 = some (some 5) := by kernel_rfl
@[go_sem] theorem T.size64 : HL.sizeT Tryz.prog 64 = some 5 := by kernel_rfl
@[go_sem] theorem T.bytes64 : HL.bytesT Tryz.prog 64 = some 56 := by kernel_rfl
@[go_sem] theorem T.zero64 : HL.zeroT Tryz.prog 64 = some (.agg #[.slice none 0 0, .int .i64 0, .int .i64 0, .int .i64 0, .int .i64 0]) := by kernel_rfl
@[go_sem] theorem T.places64 : HL.placesT Tryz.prog 64 = some [(0, 1), (1, 1), (2, 1), (3, 2)] := by kernel_rfl
@[go_sem] theorem T.field64_0 : HL.fieldT Tryz.prog 64 0 = some (0, 60) := by kernel_rfl
@[go_sem] theorem T.fieldO64_0 : HL.fieldO Tryz.prog 64 0 = some 0 := by kernel_rfl
@[go_sem] theorem T.field64_1 : HL.fieldT Tryz.prog 64 1 = some (1, 3) := by kernel_rfl
@[go_sem] theorem T.fieldO64_1 : HL.fieldO Tryz.prog 64 1 = some 1 := by kernel_rfl
@[go_sem] theorem T.field64_2 : HL.fieldT Tryz.prog 64 2 = some (2, 3) := by kernel_rfl
@[go_sem] theorem T.fieldO64_2 : HL.fieldO Tryz.prog 64 2 = some 2 := by kernel_rfl
@[go_sem] theorem T.field64_3 : HL.fieldT Tryz.prog 64 3 = some (3, 25) := by kernel_rfl
@[go_sem] theorem T.fieldO64_3 : HL.fieldO Tryz.prog 64 3 = some 3 := by kernel_rfl
@[go_sem] theorem T.agg65 : HL.aggN Tryz.prog 65 = some (some 5) := by kernel_rfl
@[go_sem] theorem T.size65 : HL.sizeT Tryz.prog 65 = some 5 := by kernel_rfl
@[go_sem] theorem T.bytes65 : HL.bytesT Tryz.prog 65 = some 56 := by kernel_rfl
@[go_sem] theorem T.zero65 : HL.zeroT Tryz.prog 65 = some (.agg #[.slice none 0 0, .int .i64 0, .int .i64 0, .int .i64 0, .int .i64 0]) := by kernel_rfl
@[go_sem] theorem T.places65 : HL.placesT Tryz.prog 65 = some [(0, 1), (1, 1), (2, 1), (3, 2)] := by kernel_rfl
@[go_sem] theorem T.field65_0 : HL.fieldT Tryz.prog 65 0 = some (0, 60) := by kernel_rfl
@[go_sem] theorem T.fieldO65_0 : HL.fieldO Tryz.prog 65 0 = some 0 := by kernel_rfl
@[go_sem] theorem T.field65_1 : HL.fieldT Tryz.prog 65 1 = some (1, 3) := by kernel_rfl
@[go_sem] theorem T.fieldO65_1 : HL.fieldO Tryz.prog 65 1 = some 1 := by kernel_rfl
@[go_sem] theorem T.field65_2 : HL.fieldT Tryz.prog 65 2 = some (2, 3) := by kernel_rfl
@[go_sem] theorem T.fieldO65_2 : HL.fieldO Tryz.prog 65 2 = some 2 := by kernel_rfl
@[go_sem] theorem T.field65_3 : HL.fieldT Tryz.prog 65 3 = some (3, 25) := by kernel_rfl
@[go_sem] theorem T.fieldO65_3 : HL.fieldO Tryz.prog 65 3 = some 3 := by kernel_rfl
@[go_sem] theorem T.agg66 : HL.aggN Tryz.prog 66 = some none := by kernel_rfl
@[go_sem] theorem T.size66 : HL.sizeT Tryz.prog 66 = some 1 := by kernel_rfl
@[go_sem] theorem T.bytes66 : HL.bytesT Tryz.prog 66 = some 24 := by kernel_rfl
@[go_sem] theorem T.zero66 : HL.zeroT Tryz.prog 66 = some (.slice none 0 0) := by kernel_rfl
@[go_sem] theorem T.elem66 : HL.elemT Tryz.prog 66 = some 9 := by kernel_rfl
@[go_sem] theorem T.elemS66 : HL.elemS Tryz.prog 66 = some 1 := by kernel_rfl
@[go_sem] theorem T.agg67 : HL.aggN Tryz.prog 67 = some none := by kernel_rfl
@[go_sem] theorem T.size67 : HL.sizeT Tryz.prog 67 = some 1 := by kernel_rfl
@[go_sem] theorem T.bytes67 : HL.bytesT Tryz.prog 67 = some 24 := by kernel_rfl
@[go_sem] theorem T.zero67 : HL.zeroT Tryz.prog 67 = some (.slice none 0 0) := by kernel_rfl
@[go_sem] theorem T.elem67 : HL.elemT Tryz.prog 67 = some 3 := by kernel_rfl
@[go_sem] theorem T.elemS67 : HL.elemS Tryz.prog 67 = some 1 := by kernel_rfl
@[go_sem] theorem T.agg68 : HL.aggN Tryz.prog 68 = some (some 5) := by kernel_rfl
@[go_sem] theorem T.size68 : HL.sizeT Tryz.prog 68 = some 5 := by kernel_rfl
@[go_sem] theorem T.bytes68 : HL.bytesT Tryz.prog 68 = some 88 := by kernel_rfl
@[go_sem] theorem T.zero68 : HL.zeroT Tryz.prog 68 = some (.agg #[.int .i64 0, .slice none 0 0, .slice none 0 0, .slice none 0 0, .int .i64 0]) := by kernel_rfl
@[go_sem] theorem T.places68 : HL.placesT Tryz.prog 68 = some [(0, 1), (1, 1), (2, 1), (3, 1), (4, 1)] := by kernel_rfl
@[go_sem] theorem T.field68_0 : HL.fieldT Tryz.prog 68 0 = some (0, 3) := by kernel_rfl
@[go_sem] theorem T.fieldO68_0 : HL.fieldO Tryz.prog 68 0 = some 0 := by kernel_rfl
@[go_sem] theorem T.field68_1 : HL.fieldT Tryz.prog 68 1 = some (1, 66) := by kernel_rfl
@[go_sem] theorem T.fieldO68_1 : HL.fieldO Tryz.prog 68 1 = some 1 := by kernel_rfl
@[go_sem] theorem T.field68_2 : HL.fieldT Tryz.prog 68 2 = some (2, 67) := by kernel_rfl
@[go_sem] theorem T.fieldO68_2 : HL.fieldO Tryz.prog 68 2 = some 2 := by kernel_rfl
@[go_sem] theorem T.field68_3 : HL.fieldT Tryz.prog 68 3 = some (3, 67) := by kernel_rfl
@[go_sem] theorem T.fieldO68_3 : HL.fieldO Tryz.prog 68 3 = some 3 := by kernel_rfl
@[go_sem] theorem T.field68_4 : HL.fieldT Tryz.prog 68 4 = some (4, 3) := by kernel_rfl
@[go_sem] theorem T.fieldO68_4 : HL.fieldO Tryz.prog 68 4 = some 4 := by kernel_rfl
@[go_sem] theorem T.agg69 : HL.aggN Tryz.prog 69 = some (some 5) := by kernel_rfl
@[go_sem] theorem T.size69 : HL.sizeT Tryz.prog 69 = some 5 := by kernel_rfl
@[go_sem] theorem T.bytes69 : HL.bytesT Tryz.prog 69 = some 88 := by kernel_rfl
@[go_sem] theorem T.zero69 : HL.zeroT Tryz.prog 69 = some (.agg #[.int .i64 0, .slice none 0 0, .slice none 0 0, .slice none 0 0, .int .i64 0]) := by kernel_rfl
@[go_sem] theorem T.places69 : HL.placesT Tryz.prog 69 = some [(0, 1), (1, 1), (2, 1), (3, 1), (4, 1)] := by kernel_rfl
@[go_sem] theorem T.field69_0 : HL.fieldT Tryz.prog 69 0 = some (0, 3) := by kernel_rfl
@[go_sem] theorem T.fieldO69_0 : HL.fieldO Tryz.prog 69 0 = some 0 := by kernel_rfl
@[go_sem] theorem T.field69_1 : HL.fieldT Tryz.prog 69 1 = some (1, 66) := by kernel_rfl
@[go_sem] theorem T.fieldO69_1 : HL.fieldO Tryz.prog 69 1 = some 1 := by kernel_rfl
@[go_sem] theorem T.field69_2 : HL.fieldT Tryz.prog 69 2 = some (2, 67) := by kernel_rfl
@[go_sem] theorem T.fieldO69_2 : HL.fieldO Tryz.prog 69 2 = some 2 := by kernel_rfl
@[go_sem] theorem T.field69_3 : HL.fieldT Tryz.prog 69 3 = some (3, 67) := by kernel_rfl
@[go_sem] theorem T.fieldO69_3 : HL.fieldO Tryz.prog 69 3 = some 3 := by kernel_rfl
@[go_sem] theorem T.field69_4 : HL.fieldT Tryz.prog 69 4 = some (4, 3) := by kernel_rfl
@[go_sem] theorem T.fieldO69_4 : HL.fieldO Tryz.prog 69 4 = some 4 := by kernel_rfl
@[go_sem] theorem T.agg70 : HL.aggN Tryz.prog 70 = some none := by kernel_rfl
@[go_sem] theorem T.size70 : HL.sizeT Tryz.prog 70 = some 1 := by kernel_rfl
@[go_sem] theorem T.bytes70 : HL.bytesT Tryz.prog 70 = some 24 := by kernel_rfl
@[go_sem] theorem T.zero70 : HL.zeroT Tryz.prog 70 = some (.slice none 0 0) := by kernel_rfl
@[go_sem] theorem T.elem70 : HL.elemT Tryz.prog 70 = some 72 := by kernel_rfl
@[go_sem] theorem T.elemS70 : HL.elemS Tryz.prog 70 = some 6 := by kernel_rfl
@[go_sem] theorem T.agg71 : HL.aggN Tryz.prog 71 = some (some 6) := by kernel_rfl
@[go_sem] theorem T.size71 : HL.sizeT Tryz.prog 71 = some 6 := by kernel_rfl
@[go_sem] theorem T.bytes71 : HL.bytesT Tryz.prog 71 = some 112 := by kernel_rfl
@[go_sem] theorem T.zero71 : HL.zeroT Tryz.prog 71 = some (.agg #[.int .i64 0, .slice none 0 0, .slice none 0 0, .slice none 0 0, .int .i64 0, .slice none 0 0]) := by kernel_rfl
@[go_sem] theorem T.places71 : HL.placesT Tryz.prog 71 = some [(0, 5), (5, 1)] := by kernel_rfl
@[go_sem] theorem T.field71_0 : HL.fieldT Tryz.prog 71 0 = some (0, 69) := by kernel_rfl
@[go_sem] theorem T.fieldO71_0 : HL.fieldO Tryz.prog 71 0 = some 0 := by kernel_rfl
@[go_sem] theorem T.field71_1 : HL.fieldT Tryz.prog 71 1 = some (5, 70) := by kernel_rfl
@[go_sem] theorem T.fieldO71_1 : HL.fieldO Tryz.prog 71 1 = some 5 := by kernel_rfl
@[go_sem] theorem T.agg72 : HL.aggN Tryz.prog 72 = some (some 6) := by kernel_rfl
@[go_sem] theorem T.size72 : HL.sizeT Tryz.prog 72 = some 6 := by kernel_rfl
@[go_sem] theorem T.bytes72 : HL.bytesT Tryz.prog 72 = some 112 := by kernel_rfl
@[go_sem] theorem T.zero72 : HL.zeroT Tryz.prog 72 = some (.agg #[.int .i64 0, .slice none 0 0, .slice none 0 0, .slice none 0 0, .int .i64 0, .slice none 0 0]) := by kernel_rfl
@[go_sem] theorem T.places72 : HL.placesT Tryz.prog 72 = some [(0, 5), (5, 1)] := by kernel_rfl
@[go_sem] theorem T.field72_0 : HL.fieldT Tryz.prog 72 0 = some (0, 69) := by kernel_rfl
@[go_sem] theorem T.fieldO72_0 : HL.fieldO Tryz.prog 72 0 = some 0 := by kernel_rfl
@[go_sem] theorem T.field72_1 : HL.fieldT Tryz.prog 72 1 = some (5, 70) := by kernel_rfl
@[go_sem] theorem T.fieldO72_1 : HL.fieldO Tryz.prog 72 1 = some 5 := by kernel_rfl
@[go_sem] theorem T.agg73 : HL.aggN Tryz.prog 73 = some none := by kernel_rfl
@[go_sem] theorem T.size73 : HL.sizeT Tryz.prog 73 = some 1 := by kernel_rfl
@[go_sem] theorem T.bytes73 : HL.bytesT Tryz.prog 73 = some 8 := by kernel_rfl
@[go_sem] theorem T.zero73 : HL.zeroT Tryz.prog 73 = some (.nilFunc) := by kernel_rfl
@[go_sem] theorem T.agg74 : HL.aggN Tryz.prog 74 = some none := by kernel_rfl
@[go_sem] theorem T.size74 : HL.sizeT Tryz.prog 74 = some 1 := by kernel_rfl
@[go_sem] theorem T.bytes74 : HL.bytesT Tryz.prog 74 = some 8 := by kernel_rfl
@[go_sem] theorem T.zero74 : HL.zeroT Tryz.prog 74 = some (.nilFunc) := by kernel_rfl
@[go_sem] theorem T.agg75 : HL.aggN Tryz.prog 75 = some none := by kernel_rfl
@[go_sem] theorem T.size75 : HL.sizeT Tryz.prog 75 = some 1 := by kernel_rfl
@[go_sem] theorem T.bytes75 : HL.bytesT Tryz.prog 75 = some 8 := by kernel_rfl
@[go_sem] theorem T.zero75 : HL.zeroT Tryz.prog 75 = some (.nilFunc) := by kernel_rfl
@[go_sem] theorem T.agg76 : HL.aggN Tryz.prog 76 = some (some 4) := by kernel_rfl
@[go_sem] theorem T.size76 : HL.sizeT Tryz.prog 76 = some 4 := by kernel_rfl
@[go_sem] theorem T.bytes76 : HL.bytesT Tryz.prog 76 = some 48 := by kernel_rfl
@[go_sem] theorem T.zero76 : HL.zeroT Tryz.prog 76 = some (.agg #[.slice none 0 0, .int .i64 0, .int .i64 0, .int .i64 0]) := by kernel_rfl
@[go_sem] theorem T.places76 : HL.placesT Tryz.prog 76 = some [(0, 1), (1, 1), (2, 1), (3, 1)] := by kernel_rfl
@[go_sem] theorem T.field76_0 : HL.fieldT Tryz.prog 76 0 = some (0, 39) := by kernel_rfl
@[go_sem] theorem T.fieldO76_0 : HL.fieldO Tryz.prog 76 0 = some 0 := by kernel_rfl
@[go_sem] theorem T.field76_1 : HL.fieldT Tryz.prog 76 1 = some (1, 3) := by kernel_rfl
@[go_sem] theorem T.fieldO76_1 : HL.fieldO Tryz.prog 76 1 = some 1 := by kernel_rfl
@[go_sem] theorem T.field76_2 : HL.fieldT Tryz.prog 76 2 = some (2, 3) := by kernel_rfl
@[go_sem] theorem T.fieldO76_2 : HL.fieldO Tryz.prog 76 2 = some 2 := by kernel_rfl
@[go_sem] theorem T.field76_3 : HL.fieldT Tryz.prog 76 3 = some (3, 3) := by kernel_rfl
@[go_sem] theorem T.fieldO76_3 : HL.fieldO Tryz.prog 76 3 = some 3 := by kernel_rfl
@[go_sem] theorem T.agg77 : HL.aggN Tryz.prog 77 = some (some 4) := by kernel_rfl
@[go_sem] theorem T.size77 : HL.sizeT Tryz.prog 77 = some 4 := by kernel_rfl
@[go_sem] theorem T.bytes77 : HL.bytesT Tryz.prog 77 = some 48 := by kernel_rfl
@[go_sem] theorem T.zero77 : HL.zeroT Tryz.prog 77 = some (.agg #[.slice none 0 0, .int .i64 0, .int .i64 0, .int .i64 0]) := by kernel_rfl
@[go_sem] theorem T.places77 : HL.placesT Tryz.prog 77 = some [(0, 1), (1, 1), (2, 1), (3, 1)] := by kernel_rfl
@[go_sem] theorem T.field77_0 : HL.fieldT Tryz.prog 77 0 = some (0, 39) := by kernel_rfl
@[go_sem] theorem T.fieldO77_0 : HL.fieldO Tryz.prog 77 0 = some 0 := by kernel_rfl
@[go_sem] theorem T.field77_1 : HL.fieldT Tryz.prog 77 1 = some (1, 3) := by kernel_rfl
@[go_sem] theorem T.fieldO77_1 : HL.fieldO Tryz.prog 77 1 = some 1 := by kernel_rfl
@[go_sem] theorem T.field77_2 : HL.fieldT Tryz.prog 77 2 = some (2, 3) := by kernel_rfl
@[go_sem] theorem T.fieldO77_2 : HL.fieldO Tryz.prog 77 2 = some 2 := by kernel_rfl
@[go_sem] theorem T.field77_3 : HL.fieldT Tryz.prog 77 3 = some (3, 3) := by kernel_rfl
@[go_sem] theorem T.fieldO77_3 : HL.fieldO Tryz.prog 77 3 = some 3 := by kernel_rfl
@[go_sem] theorem T.agg78 : HL.aggN Tryz.prog 78 = some none := by kernel_rfl
@[go_sem] theorem T.size78 : HL.sizeT Tryz.prog 78 = some 1 := by kernel_rfl
@[go_sem] theorem T.bytes78 : HL.bytesT Tryz.prog 78 = some 8 := by kernel_rfl
@[go_sem] theorem T.zero78 : HL.zeroT Tryz.prog 78 = some (.nilFunc) := by kernel_rfl
@[go_sem] theorem T.agg79 : HL.aggN Tryz.prog 79 = some none := by kernel_rfl
@[go_sem] theorem T.size79 : HL.sizeT Tryz.prog 79 = some 1 := by kernel_rfl
@[go_sem] theorem T.bytes79 : HL.bytesT Tryz.prog 79 = some 8 := by kernel_rfl
@[go_sem] theorem T.zero79 : HL.zeroT Tryz.prog 79 = some (.nilFunc) := by kernel_rfl
@[go_sem] theorem T.agg80 : HL.aggN Tryz.prog 80 = some none := by kernel_rfl
@[go_sem] theorem T.size80 : HL.sizeT Tryz.prog 80 = some 1 := by kernel_rfl
@[go_sem] theorem T.bytes80 : HL.bytesT Tryz.prog 80 = some 8 := by kernel_rfl
@[go_sem] theorem T.zero80 : HL.zeroT Tryz.prog 80 = some (.nilFunc) := by kernel_rfl
@[go_sem] theorem T.agg81 : HL.aggN Tryz.prog 81 = some (some 1) := by kernel_rfl
@[go_sem] theorem T.size81 : HL.sizeT Tryz.prog 81 = some 1 := by kernel_rfl
@[go_sem] theorem T.bytes81 : HL.bytesT Tryz.prog 81 = some 8 := by kernel_rfl
@[go_sem] theorem T.zero81 : HL.zeroT Tryz.prog 81 = some (.agg #[.pointer none]) := by kernel_rfl
@[go_sem] theorem T.places81 : HL.placesT Tryz.prog 81 = some [(0, 1)] := by kernel_rfl
@[go_sem] theorem T.field81_0 : HL.fieldT Tryz.prog 81 0 = some (0, 17) := by kernel_rfl
@[go_sem] theorem T.fieldO81_0 : HL.fieldO Tryz.prog 81 0 = some 0 := by kernel_rfl
@[go_sem] theorem T.agg82 : HL.aggN Tryz.prog 82 = some (some 1) := by kernel_rfl
@[go_sem] theorem T.size82 : HL.sizeT Tryz.prog 82 = some 1 := by kernel_rfl
@[go_sem] theorem T.bytes82 : HL.bytesT Tryz.prog 82 = some 8 := by kernel_rfl
@[go_sem] theorem T.zero82 : HL.zeroT Tryz.prog 82 = some (.agg #[.pointer none]) := by kernel_rfl
@[go_sem] theorem T.places82 : HL.placesT Tryz.prog 82 = some [(0, 1)] := by kernel_rfl
@[go_sem] theorem T.field82_0 : HL.fieldT Tryz.prog 82 0 = some (0, 17) := by kernel_rfl
@[go_sem] theorem T.fieldO82_0 : HL.fieldO Tryz.prog 82 0 = some 0 := by kernel_rfl
@[go_sem] theorem T.agg83 : HL.aggN Tryz.prog 83 = some none := by kernel_rfl
@[go_sem] theorem T.size83 : HL.sizeT Tryz.prog 83 = some 1 := by kernel_rfl
@[go_sem] theorem T.bytes83 : HL.bytesT Tryz.prog 83 = some 8 := by kernel_rfl
@[go_sem] theorem T.zero83 : HL.zeroT Tryz.prog 83 = some (.pointer none) := by kernel_rfl
@[go_sem] theorem T.agg84 : HL.aggN Tryz.prog 84 = some none := by kernel_rfl
@[go_sem] theorem T.size84 : HL.sizeT Tryz.prog 84 = some 1 := by kernel_rfl
@[go_sem] theorem T.bytes84 : HL.bytesT Tryz.prog 84 = some 8 := by kernel_rfl
@[go_sem] theorem T.zero84 : HL.zeroT Tryz.prog 84 = some (.nilFunc) := by kernel_rfl
@[go_sem] theorem T.agg85 : HL.aggN Tryz.prog 85 = some none := by kernel_rfl
@[go_sem] theorem T.size85 : HL.sizeT Tryz.prog 85 = some 1 := by kernel_rfl
@[go_sem] theorem T.bytes85 : HL.bytesT Tryz.prog 85 = some 8 := by kernel_rfl
@[go_sem] theorem T.zero85 : HL.zeroT Tryz.prog 85 = some (.nilFunc) := by kernel_rfl
@[go_sem] theorem T.agg86 : HL.aggN Tryz.prog 86 = some none := by kernel_rfl
@[go_sem] theorem T.size86 : HL.sizeT Tryz.prog 86 = some 1 := by kernel_rfl
@[go_sem] theorem T.bytes86 : HL.bytesT Tryz.prog 86 = some 16 := by kernel_rfl
@[go_sem] theorem T.zero86 : HL.zeroT Tryz.prog 86 = some (.nilIface) := by kernel_rfl
@[go_sem] theorem T.agg88 : HL.aggN Tryz.prog 88 = some none := by kernel_rfl
@[go_sem] theorem T.size88 : HL.sizeT Tryz.prog 88 = some 1 := by kernel_rfl
@[go_sem] theorem T.bytes88 : HL.bytesT Tryz.prog 88 = some 8 := by kernel_rfl
@[go_sem] theorem T.zero88 : HL.zeroT Tryz.prog 88 = some (.nilFunc) := by kernel_rfl
@[go_sem] theorem T.agg89 : HL.aggN Tryz.prog 89 = some none := by kernel_rfl
@[go_sem] theorem T.size89 : HL.sizeT Tryz.prog 89 = some 1 := by kernel_rfl
@[go_sem] theorem T.bytes89 : HL.bytesT Tryz.prog 89 = some 16 := by kernel_rfl
@[go_sem] theorem T.zero89 : HL.zeroT Tryz.prog 89 = some (.nilIface) := by kernel_rfl
@[go_sem] theorem T.agg90 : HL.aggN Tryz.prog 90 = some none := by kernel_rfl
@[go_sem] theorem T.size90 : HL.sizeT Tryz.prog 90 = some 1 := by kernel_rfl
@[go_sem] theorem T.bytes90 : HL.bytesT Tryz.prog 90 = some 16 := by kernel_rfl
@[go_sem] theorem T.zero90 : HL.zeroT Tryz.prog 90 = some (.nilIface) := by kernel_rfl
@[go_sem] theorem T.agg91 : HL.aggN Tryz.prog 91 = some none := by kernel_rfl
@[go_sem] theorem T.size91 : HL.sizeT Tryz.prog 91 = some 1 := by kernel_rfl
@[go_sem] theorem T.bytes91 : HL.bytesT Tryz.prog 91 = some 24 := by kernel_rfl
@[go_sem] theorem T.zero91 : HL.zeroT Tryz.prog 91 = some (.slice none 0 0) := by kernel_rfl
@[go_sem] theorem T.elem91 : HL.elemT Tryz.prog 91 = some 27 := by kernel_rfl
@[go_sem] theorem T.elemS91 : HL.elemS Tryz.prog 91 = some 1 := by kernel_rfl
@[go_sem] theorem T.agg92 : HL.aggN Tryz.prog 92 = some none := by kernel_rfl
@[go_sem] theorem T.size92 : HL.sizeT Tryz.prog 92 = some 1 := by kernel_rfl
@[go_sem] theorem T.bytes92 : HL.bytesT Tryz.prog 92 = some 8 := by kernel_rfl
@[go_sem] theorem T.zero92 : HL.zeroT Tryz.prog 92 = some (.nilFunc) := by kernel_rfl
@[go_sem] theorem T.agg93 : HL.aggN Tryz.prog 93 = some none := by kernel_rfl
@[go_sem] theorem T.size93 : HL.sizeT Tryz.prog 93 = some 1 := by kernel_rfl
@[go_sem] theorem T.bytes93 : HL.bytesT Tryz.prog 93 = some 16 := by kernel_rfl
@[go_sem] theorem T.zero93 : HL.zeroT Tryz.prog 93 = some (.nilIface) := by kernel_rfl
@[go_sem] theorem T.agg95 : HL.aggN Tryz.prog 95 = some none := by kernel_rfl
@[go_sem] theorem T.size95 : HL.sizeT Tryz.prog 95 = some 1 := by kernel_rfl
@[go_sem] theorem T.bytes95 : HL.bytesT Tryz.prog 95 = some 8 := by kernel_rfl
@[go_sem] theorem T.zero95 : HL.zeroT Tryz.prog 95 = some (.nilFunc) := by kernel_rfl
@[go_sem] theorem T.agg96 : HL.aggN Tryz.prog 96 = some none := by kernel_rfl
@[go_sem] theorem T.size96 : HL.sizeT Tryz.prog 96 = some 1 := by kernel_rfl
@[go_sem] theorem T.bytes96 : HL.bytesT Tryz.prog 96 = some 24 := by kernel_rfl
@[go_sem] theorem T.zero96 : HL.zeroT Tryz.prog 96 = some (.slice none 0 0) := by kernel_rfl
@[go_sem] theorem T.elem96 : HL.elemT Tryz.prog 96 = some 5 := by kernel_rfl
@[go_sem] theorem T.elemS96 : HL.elemS Tryz.prog 96 = some 1 := by kernel_rfl
@[go_sem] theorem T.agg97 : HL.aggN Tryz.prog 97 = some none := by kernel_rfl
@[go_sem] theorem T.size97 : HL.sizeT Tryz.prog 97 = some 1 := by kernel_rfl
@[go_sem] theorem T.bytes97 : HL.bytesT Tryz.prog 97 = some 8 := by kernel_rfl
@[go_sem] theorem T.zero97 : HL.zeroT Tryz.prog 97 = some (.nilFunc) := by kernel_rfl
@[go_sem] theorem T.agg98 : HL.aggN Tryz.prog 98 = some none := by kernel_rfl
@[go_sem] theorem T.size98 : HL.sizeT Tryz.prog 98 = some 1 := by kernel_rfl
@[go_sem] theorem T.bytes98 : HL.bytesT Tryz.prog 98 = some 8 := by kernel_rfl
@[go_sem] theorem T.zero98 : HL.zeroT Tryz.prog 98 = some (.nilFunc) := by kernel_rfl
@[go_sem] theorem T.agg99 : HL.aggN Tryz.prog 99 = some none := by kernel_rfl
@[go_sem] theorem T.size99 : HL.sizeT Tryz.prog 99 = some 1 := by kernel_rfl
@[go_sem] theorem T.bytes99 : HL.bytesT Tryz.prog 99 = some 8 := by kernel_rfl
@[go_sem] theorem T.zero99 : HL.zeroT Tryz.prog 99 = some (.nilFunc) := by kernel_rfl
@[go_sem] theorem T.agg100 : HL.aggN Tryz.prog 100 = some (some 3) := by kernel_rfl
@[go_sem] theorem T.size100 : HL.sizeT Tryz.prog 100 = some 3 := by kernel_rfl
@[go_sem] theorem T.bytes100 : HL.bytesT Tryz.prog 100 = some 32 := by kernel_rfl
@[go_sem] theorem T.zero100 : HL.zeroT Tryz.prog 100 = some (.agg #[.int .i64 0, .string ⟨#[]⟩, .int .i64 0]) := by kernel_rfl
@[go_sem] theorem T.places100 : HL.placesT Tryz.prog 100 = some [(0, 1), (1, 1), (2, 1)] := by kernel_rfl
@[go_sem] theorem T.field100_0 : HL.fieldT Tryz.prog 100 0 = some (0, 3) := by kernel_rfl
@[go_sem] theorem T.fieldO100_0 : HL.fieldO Tryz.prog 100 0 = some 0 := by kernel_rfl
@[go_sem] theorem T.field100_1 : HL.fieldT Tryz.prog 100 1 = some (1, 9) := by kernel_rfl
@[go_sem] theorem T.fieldO100_1 : HL.fieldO Tryz.prog 100 1 = some 1 := by kernel_rfl
@[go_sem] theorem T.field100_2 : HL.fieldT Tryz.prog 100 2 = some (2, 3) := by kernel_rfl
@[go_sem] theorem T.fieldO100_2 : HL.fieldO Tryz.prog 100 2 = some 2 := by kernel_rfl
@[go_sem] theorem T.agg101 : HL.aggN Tryz.prog 101 = some (some 3) := by kernel_rfl
@[go_sem] theorem T.size101 : HL.sizeT Tryz.prog 101 = some 3 := by kernel_rfl
@[go_sem] theorem T.bytes101 : HL.bytesT Tryz.prog 101 = some 32 := by kernel_rfl
@[go_sem] theorem T.zero101 : HL.zeroT Tryz.prog 101 = some (.agg #[.int .i64 0, .string ⟨#[]⟩, .int .i64 0]) := by kernel_rfl
@[go_sem] theorem T.places101 : HL.placesT Tryz.prog 101 = some [(0, 1), (1, 1), (2, 1)] := by kernel_rfl
@[go_sem] theorem T.field101_0 : HL.fieldT Tryz.prog 101 0 = some (0, 3) := by kernel_rfl
@[go_sem] theorem T.fieldO101_0 : HL.fieldO Tryz.prog 101 0 = some 0 := by kernel_rfl
@[go_sem] theorem T.field101_1 : HL.fieldT Tryz.prog 101 1 = some (1, 9) := by kernel_rfl
@[go_sem] theorem T.fieldO101_1 : HL.fieldO Tryz.prog 101 1 = some 1 := by kernel_rfl
@[go_sem] theorem T.field101_2 : HL.fieldT Tryz.prog 101 2 = some (2, 3) := by kernel_rfl
@[go_sem] theorem T.fieldO101_2 : HL.fieldO Tryz.prog 101 2 = some 2 := by kernel_rfl
@[go_sem] theorem T.agg102 : HL.aggN Tryz.prog 102 = some none := by kernel_rfl
@[go_sem] theorem T.size102 : HL.sizeT Tryz.prog 102 = some 1 := by kernel_rfl
@[go_sem] theorem T.bytes102 : HL.bytesT Tryz.prog 102 = some 8 := by kernel_rfl
@[go_sem] theorem T.zero102 : HL.zeroT Tryz.prog 102 = some (.nilFunc) := by kernel_rfl
@[go_sem] theorem T.agg103 : HL.aggN Tryz.prog 103 = some none := by kernel_rfl
@[go_sem] theorem T.size103 : HL.sizeT Tryz.prog 103 = some 1 := by kernel_rfl
@[go_sem] theorem T.bytes103 : HL.bytesT Tryz.prog 103 = some 8 := by kernel_rfl
@[go_sem] theorem T.zero103 : HL.zeroT Tryz.prog 103 = some (.nilFunc) := by kernel_rfl
@[go_sem] theorem T.agg104 : HL.aggN Tryz.prog 104 = some none := by kernel_rfl
@[go_sem] theorem T.size104 : HL.sizeT Tryz.prog 104 = some 1 := by kernel_rfl
@[go_sem] theorem T.bytes104 : HL.bytesT Tryz.prog 104 = some 8 := by kernel_rfl
@[go_sem] theorem T.zero104 : HL.zeroT Tryz.prog 104 = some (.nilFunc) := by kernel_rfl
@[go_sem] theorem T.agg105 : HL.aggN Tryz.prog 105 = some none := by kernel_rfl
@[go_sem] theorem T.size105 : HL.sizeT Tryz.prog 105 = some 1 := by kernel_rfl
@[go_sem] theorem T.bytes105 : HL.bytesT Tryz.prog 105 = some 8 := by kernel_rfl
@[go_sem] theorem T.zero105 : HL.zeroT Tryz.prog 105 = some (.pointer none) := by kernel_rfl
@[go_sem] theorem T.agg106 : HL.aggN Tryz.prog 106 = some none := by kernel_rfl
@[go_sem] theorem T.size106 : HL.sizeT Tryz.prog 106 = some 1 := by kernel_rfl
@[go_sem] theorem T.bytes106 : HL.bytesT Tryz.prog 106 = some 8 := by kernel_rfl
@[go_sem] theorem T.zero106 : HL.zeroT Tryz.prog 106 = some (.nilFunc) := by kernel_rfl
@[go_sem] theorem T.agg107 : HL.aggN Tryz.prog 107 = some none := by kernel_rfl
@[go_sem] theorem T.size107 : HL.sizeT Tryz.prog 107 = some 1 := by kernel_rfl
@[go_sem] theorem T.bytes107 : HL.bytesT Tryz.prog 107 = some 8 := by kernel_rfl
@[go_sem] theorem T.zero107 : HL.zeroT Tryz.prog 107 = some (.nilFunc) := by kernel_rfl
@[go_sem] theorem T.agg108 : HL.aggN Tryz.prog 108 = some (some 2) := by kernel_rfl
@[go_sem] theorem T.size108 : HL.sizeT Tryz.prog 108 = some 2 := by kernel_rfl
@[go_sem] theorem T.bytes108 : HL.bytesT Tryz.prog 108 = some 32 := by kernel_rfl
@[go_sem] theorem T.zero108 : HL.zeroT Tryz.prog 108 = some (.agg #[.slice none 0 0, .nilFunc]) := by kernel_rfl
@[go_sem] theorem T.places108 : HL.placesT Tryz.prog 108 = some [(0, 1), (1, 1)] := by kernel_rfl
@[go_sem] theorem T.field108_0 : HL.fieldT Tryz.prog 108 0 = some (0, 39) := by kernel_rfl
@[go_sem] theorem T.fieldO108_0 : HL.fieldO Tryz.prog 108 0 = some 0 := by kernel_rfl
@[go_sem] theorem T.field108_1 : HL.fieldT Tryz.prog 108 1 = some (1, 107) := by kernel_rfl
@[go_sem] theorem T.fieldO108_1 : HL.fieldO Tryz.prog 108 1 = some 1 := by kernel_rfl
@[go_sem] theorem T.agg109 : HL.aggN Tryz.prog 109 = some (some 2) := by kernel_rfl
@[go_sem] theorem T.size109 : HL.sizeT Tryz.prog 109 = some 2 := by kernel_rfl
@[go_sem] theorem T.bytes109 : HL.bytesT Tryz.prog 109 = some 32 := by kernel_rfl
@[go_sem] theorem T.zero109 : HL.zeroT Tryz.prog 109 = some (.agg #[.slice none 0 0, .nilFunc]) := by kernel_rfl
@[go_sem] theorem T.places109 : HL.placesT Tryz.prog 109 = some [(0, 1), (1, 1)] := by kernel_rfl
@[go_sem] theorem T.field109_0 : HL.fieldT Tryz.prog 109 0 = some (0, 39) := by kernel_rfl
@[go_sem] theorem T.fieldO109_0 : HL.fieldO Tryz.prog 109 0 = some 0 := by kernel_rfl
@[go_sem] theorem T.field109_1 : HL.fieldT Tryz.prog 109 1 = some (1, 107) := by kernel_rfl
@[go_sem] theorem T.fieldO109_1 : HL.fieldO Tryz.prog 109 1 = some 1 := by kernel_rfl
@[go_sem] theorem T.agg110 : HL.aggN Tryz.prog 110 = some none := by kernel_rfl
@[go_sem] theorem T.size110 : HL.sizeT Tryz.prog 110 = some 1 := by kernel_rfl
@[go_sem] theorem T.bytes110 : HL.bytesT Tryz.prog 110 = some 8 := by kernel_rfl
@[go_sem] theorem T.zero110 : HL.zeroT Tryz.prog 110 = some (.pointer none) := by kernel_rfl
@[go_sem] theorem T.agg111 : HL.aggN Tryz.prog 111 = some none := by kernel_rfl
@[go_sem] theorem T.size111 : HL.sizeT Tryz.prog 111 = some 1 := by kernel_rfl
@[go_sem] theorem T.bytes111 : HL.bytesT Tryz.prog 111 = some 8 := by kernel_rfl
@[go_sem] theorem T.zero111 : HL.zeroT Tryz.prog 111 = some (.nilFunc) := by kernel_rfl
@[go_sem] theorem T.agg112 : HL.aggN Tryz.prog 112 = some none := by kernel_rfl
@[go_sem] theorem T.size112 : HL.sizeT Tryz.prog 112 = some 1 := by kernel_rfl
@[go_sem] theorem T.bytes112 : HL.bytesT Tryz.prog 112 = some 8 := by kernel_rfl
@[go_sem] theorem T.zero112 : HL.zeroT Tryz.prog 112 = some (.nilFunc) := by kernel_rfl
@[go_sem] theorem T.agg113 : HL.aggN Tryz.prog 113 = some none := by kernel_rfl
@[go_sem] theorem T.size113 : HL.sizeT Tryz.prog 113 = some 1 := by kernel_rfl
@[go_sem] theorem T.bytes113 : HL.bytesT Tryz.prog 113 = some 8 := by kernel_rfl
@[go_sem] theorem T.zero113 : HL.zeroT Tryz.prog 113 = some (.nilFunc) := by kernel_rfl
@[go_sem] theorem T.agg114 : HL.aggN Tryz.prog 114 = some none := by kernel_rfl
@[go_sem] theorem T.size114 : HL.sizeT Tryz.prog 114 = some 1 := by kernel_rfl
@[go_sem] theorem T.bytes114 : HL.bytesT Tryz.prog 114 = some 8 := by kernel_rfl
@[go_sem] theorem T.zero114 : HL.zeroT Tryz.prog 114 = some (.nilFunc) := by kernel_rfl
@[go_sem] theorem T.agg115 : HL.aggN Tryz.prog 115 = some none := by kernel_rfl
@[go_sem] theorem T.size115 : HL.sizeT Tryz.prog 115 = some 1 := by kernel_rfl
@[go_sem] theorem T.bytes115 : HL.bytesT Tryz.prog 115 = some 8 := by kernel_rfl
@[go_sem] theorem T.zero115 : HL.zeroT Tryz.prog 115 = some (.nilFunc) := by kernel_rfl
@[go_sem] theorem T.agg116 : HL.aggN Tryz.prog 116 = some none := by kernel_rfl
@[go_sem] theorem T.size116 : HL.sizeT Tryz.prog 116 = some 1 := by kernel_rfl
@[go_sem] theorem T.bytes116 : HL.bytesT Tryz.prog 116 = some 8 := by kernel_rfl
@[go_sem] theorem T.zero116 : HL.zeroT Tryz.prog 116 = some (.nilFunc) := by kernel_rfl
@[go_sem] theorem T.agg118 : HL.aggN Tryz.prog 118 = some none := by kernel_rfl
@[go_sem] theorem T.size118 : HL.sizeT Tryz.prog 118 = some 1 := by kernel_rfl
@[go_sem] theorem T.bytes118 : HL.bytesT Tryz.prog 118 = some 8 := by kernel_rfl
@[go_sem] theorem T.zero118 : HL.zeroT Tryz.prog 118 = some (.nilFunc) := by kernel_rfl
@[go_sem] theorem T.agg119 : HL.aggN Tryz.prog 119 = some none := by kernel_rfl
@[go_sem] theorem T.size119 : HL.sizeT Tryz.prog 119 = some 1 := by kernel_rfl
@[go_sem] theorem T.bytes119 : HL.bytesT Tryz.prog 119 = some 8 := by kernel_rfl
@[go_sem] theorem T.zero119 : HL.zeroT Tryz.prog 119 = some (.nilFunc) := by kernel_rfl
@[go_sem] theorem T.agg120 : HL.aggN Tryz.prog 120 = some (some 5) := by kernel_rfl
@[go_sem] theorem T.size120 : HL.sizeT Tryz.prog 120 = some 5 := by kernel_rfl
@[go_sem] theorem T.bytes120 : HL.bytesT Tryz.prog 120 = some 104 := by kernel_rfl
@[go_sem] theorem T.zero120 : HL.zeroT Tryz.prog 120 = some (.agg #[.slice none 0 0, .slice none 0 0, .slice none 0 0, .slice none 0 0, .bool false]) := by kernel_rfl
@[go_sem] theorem T.places120 : HL.placesT Tryz.prog 120 = some [(0, 1), (1, 1), (2, 1), (3, 1), (4, 1)] := by kernel_rfl
@[go_sem] theorem T.field120_0 : HL.fieldT Tryz.prog 120 0 = some (0, 66) := by kernel_rfl
@[go_sem] theorem T.fieldO120_0 : HL.fieldO Tryz.prog 120 0 = some 0 := by kernel_rfl
@[go_sem] theorem T.field120_1 : HL.fieldT Tryz.prog 120 1 = some (1, 66) := by kernel_rfl
@[go_sem] theorem T.fieldO120_1 : HL.fieldO Tryz.prog 120 1 = some 1 := by kernel_rfl
@[go_sem] theorem T.field120_2 : HL.fieldT Tryz.prog 120 2 = some (2, 66) := by kernel_rfl
@[go_sem] theorem T.fieldO120_2 : HL.fieldO Tryz.prog 120 2 = some 2 := by kernel_rfl
@[go_sem] theorem T.field120_3 : HL.fieldT Tryz.prog 120 3 = some (3, 66) := by kernel_rfl
@[go_sem] theorem T.fieldO120_3 : HL.fieldO Tryz.prog 120 3 = some 3 := by kernel_rfl
@[go_sem] theorem T.field120_4 : HL.fieldT Tryz.prog 120 4 = some (4, 4) := by kernel_rfl
@[go_sem] theorem T.fieldO120_4 : HL.fieldO Tryz.prog 120 4 = some 4 := by kernel_rfl
@[go_sem] theorem T.agg121 : HL.aggN Tryz.prog 121 = some (some 5) := by kernel_rfl
@[go_sem] theorem T.size121 : HL.sizeT Tryz.prog 121 = some 5 := by kernel_rfl
@[go_sem] theorem T.bytes121 : HL.bytesT Tryz.prog 121 = some 104 := by kernel_rfl
@[go_sem] theorem T.zero121 : HL.zeroT Tryz.prog 121 = some (.agg #[.slice none 0 0, .slice none 0 0, .slice none 0 0, .slice none 0 0, .bool false]) := by kernel_rfl
@[go_sem] theorem T.places121 : HL.placesT Tryz.prog 121 = some [(0, 1), (1, 1), (2, 1), (3, 1), (4, 1)] := by kernel_rfl
@[go_sem] theorem T.field121_0 : HL.fieldT Tryz.prog 121 0 = some (0, 66) := by kernel_rfl
@[go_sem] theorem T.fieldO121_0 : HL.fieldO Tryz.prog 121 0 = some 0 := by kernel_rfl
@[go_sem] theorem T.field121_1 : HL.fieldT Tryz.prog 121 1 = some (1, 66) := by kernel_rfl
@[go_sem] theorem T.fieldO121_1 : HL.fieldO Tryz.prog 121 1 = some 1 := by kernel_rfl
@[go_sem] theorem T.field121_2 : HL.fieldT Tryz.prog 121 2 = some (2, 66) := by kernel_rfl
@[go_sem] theorem T.fieldO121_2 : HL.fieldO Tryz.prog 121 2 = some 2 := by kernel_rfl
@[go_sem] theorem T.field121_3 : HL.fieldT Tryz.prog 121 3 = some (3, 66) := by kernel_rfl
@[go_sem] theorem T.fieldO121_3 : HL.fieldO Tryz.prog 121 3 = some 3 := by kernel_rfl
@[go_sem] theorem T.field121_4 : HL.fieldT Tryz.prog 121 4 = some (4, 4) := by kernel_rfl
@[go_sem] theorem T.fieldO121_4 : HL.fieldO Tryz.prog 121 4 = some 4 := by kernel_rfl
@[go_sem] theorem T.agg122 : HL.aggN Tryz.prog 122 = some none := by kernel_rfl
@[go_sem] theorem T.size122 : HL.sizeT Tryz.prog 122 = some 1 := by kernel_rfl
@[go_sem] theorem T.bytes122 : HL.bytesT Tryz.prog 122 = some 8 := by kernel_rfl
@[go_sem] theorem T.zero122 : HL.zeroT Tryz.prog 122 = some (.nilFunc) := by kernel_rfl
@[go_sem] theorem T.agg123 : HL.aggN Tryz.prog 123 = some none := by kernel_rfl
@[go_sem] theorem T.size123 : HL.sizeT Tryz.prog 123 = some 1 := by kernel_rfl
@[go_sem] theorem T.bytes123 : HL.bytesT Tryz.prog 123 = some 8 := by kernel_rfl
@[go_sem] theorem T.zero123 : HL.zeroT Tryz.prog 123 = some (.nilFunc) := by kernel_rfl
@[go_sem] theorem T.agg124 : HL.aggN Tryz.prog 124 = some none := by kernel_rfl
@[go_sem] theorem T.size124 : HL.sizeT Tryz.prog 124 = some 1 := by kernel_rfl
@[go_sem] theorem T.bytes124 : HL.bytesT Tryz.prog 124 = some 8 := by kernel_rfl
@[go_sem] theorem T.zero124 : HL.zeroT Tryz.prog 124 = some (.nilFunc) := by kernel_rfl
@[go_sem] theorem T.agg125 : HL.aggN Tryz.prog 125 = some (some 24) := by kernel_rfl
@[go_sem] theorem T.size125 : HL.sizeT Tryz.prog 125 = some 24 := by kernel_rfl
@[go_sem] theorem T.bytes125 : HL.bytesT Tryz.prog 125 = some 24 := by kernel_rfl
@[go_sem] theorem T.zero125 : HL.zeroT Tryz.prog 125 = some (.agg #[.int .u8 0, .int .u8 0, .int .u8 0, .int .u8 0, .int .u8 0, .int .u8 0, .int .u8 0, .int .u8 0, .int .u8 0, .int .u8 0, .int .u8 0, .int .u8 0, .int .u8 0, .int .u8 0, .int .u8 0, .int .u8 0, .int .u8 0, .int .u8 0, .int .u8 0, .int .u8 0, .int .u8 0, .int .u8 0, .int .u8 0, .int .u8 0]) := by kernel_rfl
@[go_sem] theorem T.places125 : HL.placesT Tryz.prog 125 = none := by kernel_rfl
@[go_sem] theorem T.arr125 : HL.arrT Tryz.prog 125 = some (24, 5) := by kernel_rfl
@[go_sem] theorem T.arrS125 : HL.arrS Tryz.prog 125 = some (24, 1) := by kernel_rfl
@[go_sem] theorem T.agg126 : HL.aggN Tryz.prog 126 = some none := by kernel_rfl
@[go_sem] theorem T.size126 : HL.sizeT Tryz.prog 126 = some 1 := by kernel_rfl
@[go_sem] theorem T.bytes126 : HL.bytesT Tryz.prog 126 = some 8 := by kernel_rfl
@[go_sem] theorem T.zero126 : HL.zeroT Tryz.prog 126 = some (.int .u64 0) := by kernel_rfl
@[go_sem] theorem T.agg127 : HL.aggN Tryz.prog 127 = some none := by kernel_rfl
@[go_sem] theorem T.size127 : HL.sizeT Tryz.prog 127 = some 1 := by kernel_rfl
@[go_sem] theorem T.bytes127 : HL.bytesT Tryz.prog 127 = some 8 := by kernel_rfl
@[go_sem] theorem T.zero127 : HL.zeroT Tryz.prog 127 = some (.nilFunc) := by kernel_rfl
@[go_sem] theorem T.agg128 : HL.aggN Tryz.prog 128 = some none := by kernel_rfl
@[go_sem] theorem T.size128 : HL.sizeT Tryz.prog 128 = some 1 := by kernel_rfl
@[go_sem] theorem T.bytes128 : HL.bytesT Tryz.prog 128 = some 8 := by kernel_rfl
@[go_sem] theorem T.zero128 : HL.zeroT Tryz.prog 128 = some (.nilFunc) := by kernel_rfl
@[go_sem] theorem T.agg130 : HL.aggN Tryz.prog 130 = some none := by kernel_rfl
@[go_sem] theorem T.size130 : HL.sizeT Tryz.prog 130 = some 1 := by kernel_rfl
@[go_sem] theorem T.bytes130 : HL.bytesT Tryz.prog 130 = some 8 := by kernel_rfl
@[go_sem] theorem T.zero130 : HL.zeroT Tryz.prog 130 = some (.nilFunc) := by kernel_rfl
@[go_sem] theorem T.agg131 : HL.aggN Tryz.prog 131 = some none := by kernel_rfl
@[go_sem] theorem T.size131 : HL.sizeT Tryz.prog 131 = some 1 := by kernel_rfl
@[go_sem] theorem T.bytes131 : HL.bytesT Tryz.prog 131 = some 8 := by kernel_rfl
@[go_sem] theorem T.zero131 : HL.zeroT Tryz.prog 131 = some (.nilFunc) := by kernel_rfl
@[go_sem] theorem T.agg132 : HL.aggN Tryz.prog 132 = some none := by kernel_rfl
@[go_sem] theorem T.size132 : HL.sizeT Tryz.prog 132 = some 1 := by kernel_rfl
@[go_sem] theorem T.bytes132 : HL.bytesT Tryz.prog 132 = some 8 := by kernel_rfl
@[go_sem] theorem T.zero132 : HL.zeroT Tryz.prog 132 = some (.pointer none) := by kernel_rfl
@[go_sem] theorem T.agg133 : HL.aggN Tryz.prog 133 = some none := by kernel_rfl
@[go_sem] theorem T.size133 : HL.sizeT Tryz.prog 133 = some 1 := by kernel_rfl
@[go_sem] theorem T.bytes133 : HL.bytesT Tryz.prog 133 = some 8 := by kernel_rfl
@[go_sem] theorem T.zero133 : HL.zeroT Tryz.prog 133 = some (.nilFunc) := by kernel_rfl
@[go_sem] theorem T.agg134 : HL.aggN Tryz.prog 134 = some none := by kernel_rfl
@[go_sem] theorem T.size134 : HL.sizeT Tryz.prog 134 = some 1 := by kernel_rfl
@[go_sem] theorem T.bytes134 : HL.bytesT Tryz.prog 134 = some 8 := by kernel_rfl
@[go_sem] theorem T.zero134 : HL.zeroT Tryz.prog 134 = some (.nilFunc) := by kernel_rfl
@[go_sem] theorem T.agg135 : HL.aggN Tryz.prog 135 = some none := by kernel_rfl
@[go_sem] theorem T.size135 : HL.sizeT Tryz.prog 135 = some 1 := by kernel_rfl
@[go_sem] theorem T.bytes135 : HL.bytesT Tryz.prog 135 = some 8 := by kernel_rfl
@[go_sem] theorem T.zero135 : HL.zeroT Tryz.prog 135 = some (.nilFunc) := by kernel_rfl
@[go_sem] theorem T.agg136 : HL.aggN Tryz.prog 136 = some none := by kernel_rfl
@[go_sem] theorem T.size136 : HL.sizeT Tryz.prog 136 = some 1 := by kernel_rfl
@[go_sem] theorem T.bytes136 : HL.bytesT Tryz.prog 136 = some 8 := by kernel_rfl
@[go_sem] theorem T.zero136 : HL.zeroT Tryz.prog 136 = some (.nilFunc) := by kernel_rfl
@[go_sem] theorem T.agg137 : HL.aggN Tryz.prog 137 = some none := by kernel_rfl
@[go_sem] theorem T.size137 : HL.sizeT Tryz.prog 137 = some 1 := by kernel_rfl
@[go_sem] theorem T.bytes137 : HL.bytesT Tryz.prog 137 = some 8 := by kernel_rfl
@[go_sem] theorem T.zero137 : HL.zeroT Tryz.prog 137 = some (.nilFunc) := by kernel_rfl
@[go_sem] theorem T.agg138 : HL.aggN Tryz.prog 138 = some none := by kernel_rfl
@[go_sem] theorem T.size138 : HL.sizeT Tryz.prog 138 = some 1 := by kernel_rfl
@[go_sem] theorem T.bytes138 : HL.bytesT Tryz.prog 138 = some 8 := by kernel_rfl
@[go_sem] theorem T.zero138 : HL.zeroT Tryz.prog 138 = some (.int .u64 0) := by kernel_rfl
@[go_sem] theorem T.agg139 : HL.aggN Tryz.prog 139 = some none := by kernel_rfl
@[go_sem] theorem T.size139 : HL.sizeT Tryz.prog 139 = some 1 := by kernel_rfl
@[go_sem] theorem T.bytes139 : HL.bytesT Tryz.prog 139 = some 8 := by kernel_rfl
@[go_sem] theorem T.zero139 : HL.zeroT Tryz.prog 139 = some (.nilFunc) := by kernel_rfl
@[go_sem] theorem T.agg140 : HL.aggN Tryz.prog 140 = some (some 20) := by kernel_rfl
@[go_sem] theorem T.size140 : HL.sizeT Tryz.prog 140 = some 20 := by kernel_rfl
@[go_sem] theorem T.bytes140 : HL.bytesT Tryz.prog 140 = some 160 := by kernel_rfl
@[go_sem] theorem T.zero140 : HL.zeroT Tryz.prog 140 = some (.agg #[.int .u64 0, .int .u64 0, .int .u64 0, .int .u64 0, .int .u64 0, .int .u64 0, .int .u64 0, .int .u64 0, .int .u64 0, .int .u64 0, .int .u64 0, .int .u64 0, .int .u64 0, .int .u64 0, .int .u64 0, .int .u64 0, .int .u64 0, .int .u64 0, .int .u64 0, .int .u64 0]) := by kernel_rfl
@[go_sem] theorem T.places140 : HL.placesT Tryz.prog 140 = none := by kernel_rfl
@[go_sem] theorem T.arr140 : HL.arrT Tryz.prog 140 = some (20, 126) := by kernel_rfl
@[go_sem] theorem T.arrS140 : HL.arrS Tryz.prog 140 = some (20, 1) := by kernel_rfl
@[go_sem] theorem T.agg141 : HL.aggN Tryz.prog 141 = some none := by kernel_rfl
@[go_sem] theorem T.size141 : HL.sizeT Tryz.prog 141 = some 1 := by kernel_rfl
@[go_sem] theorem T.bytes141 : HL.bytesT Tryz.prog 141 = some 4 := by kernel_rfl
@[go_sem] theorem T.zero141 : HL.zeroT Tryz.prog 141 = some (.int .u32 0) := by kernel_rfl
@[go_sem] theorem T.agg143 : HL.aggN Tryz.prog 143 = some none := by kernel_rfl
@[go_sem] theorem T.size143 : HL.sizeT Tryz.prog 143 = some 1 := by kernel_rfl
@[go_sem] theorem T.bytes143 : HL.bytesT Tryz.prog 143 = some 8 := by kernel_rfl
@[go_sem] theorem T.zero143 : HL.zeroT Tryz.prog 143 = some (.nilFunc) := by kernel_rfl
@[go_sem] theorem T.agg144 : HL.aggN Tryz.prog 144 = some none := by kernel_rfl
@[go_sem] theorem T.size144 : HL.sizeT Tryz.prog 144 = some 1 := by kernel_rfl
@[go_sem] theorem T.bytes144 : HL.bytesT Tryz.prog 144 = some 8 := by kernel_rfl
@[go_sem] theorem T.zero144 : HL.zeroT Tryz.prog 144 = some (.nilFunc) := by kernel_rfl
@[go_sem] theorem T.agg145 : HL.aggN Tryz.prog 145 = some (some 2) := by kernel_rfl
@[go_sem] theorem T.size145 : HL.sizeT Tryz.prog 145 = some 2 := by kernel_rfl
@[go_sem] theorem T.bytes145 : HL.bytesT Tryz.prog 145 = some 16 := by kernel_rfl
@[go_sem] theorem T.zero145 : HL.zeroT Tryz.prog 145 = some (.agg #[.int .i64 0, .int .i64 0]) := by kernel_rfl
@[go_sem] theorem T.places145 : HL.placesT Tryz.prog 145 = none := by kernel_rfl
@[go_sem] theorem T.arr145 : HL.arrT Tryz.prog 145 = some (2, 3) := by kernel_rfl
@[go_sem] theorem T.arrS145 : HL.arrS Tryz.prog 145 = some (2, 1) := by kernel_rfl
@[go_sem] theorem T.agg146 : HL.aggN Tryz.prog 146 = some none := by kernel_rfl
@[go_sem] theorem T.size146 : HL.sizeT Tryz.prog 146 = some 1 := by kernel_rfl
@[go_sem] theorem T.bytes146 : HL.bytesT Tryz.prog 146 = some 8 := by kernel_rfl
@[go_sem] theorem T.zero146 : HL.zeroT Tryz.prog 146 = some (.nilFunc) := by kernel_rfl
@[go_sem] theorem T.agg147 : HL.aggN Tryz.prog 147 = some none := by kernel_rfl
@[go_sem] theorem T.size147 : HL.sizeT Tryz.prog 147 = some 1 := by kernel_rfl
@[go_sem] theorem T.bytes147 : HL.bytesT Tryz.prog 147 = some 8 := by kernel_rfl
@[go_sem] theorem T.zero147 : HL.zeroT Tryz.prog 147 = some (.nilFunc) := by kernel_rfl
@[go_sem] theorem T.agg148 : HL.aggN Tryz.prog 148 = some none := by kernel_rfl
@[go_sem] theorem T.size148 : HL.sizeT Tryz.prog 148 = some 1 := by kernel_rfl
@[go_sem] theorem T.bytes148 : HL.bytesT Tryz.prog 148 = some 8 := by kernel_rfl
@[go_sem] theorem T.zero148 : HL.zeroT Tryz.prog 148 = some (.nilFunc) := by kernel_rfl
@[go_sem] theorem T.agg150 : HL.aggN Tryz.prog 150 = some none := by kernel_rfl
@[go_sem] theorem T.size150 : HL.sizeT Tryz.prog 150 = some 1 := by kernel_rfl
@[go_sem] theorem T.bytes150 : HL.bytesT Tryz.prog 150 = some 8 := by kernel_rfl
@[go_sem] theorem T.zero150 : HL.zeroT Tryz.prog 150 = some (.nilFunc) := by kernel_rfl
@[go_sem] theorem T.agg151 : HL.aggN Tryz.prog 151 = some none := by kernel_rfl
@[go_sem] theorem T.size151 : HL.sizeT Tryz.prog 151 = some 1 := by kernel_rfl
@[go_sem] theorem T.bytes151 : HL.bytesT Tryz.prog 151 = some 8 := by kernel_rfl
@[go_sem] theorem T.zero151 : HL.zeroT Tryz.prog 151 = some (.nilFunc) := by kernel_rfl
@[go_sem] theorem T.agg152 : HL.aggN Tryz.prog 152 = some none := by kernel_rfl
@[go_sem] theorem T.size152 : HL.sizeT Tryz.prog 152 = some 1 := by kernel_rfl
@[go_sem] theorem T.bytes152 : HL.bytesT Tryz.prog 152 = some 8 := by kernel_rfl
@[go_sem] theorem T.zero152 : HL.zeroT Tryz.prog 152 = some (.nilFunc) := by kernel_rfl
@[go_sem] theorem T.agg153 : HL.aggN Tryz.prog 153 = some none := by kernel_rfl
@[go_sem] theorem T.size153 : HL.sizeT Tryz.prog 153 = some 1 := by kernel_rfl
@[go_sem] theorem T.bytes153 : HL.bytesT Tryz.prog 153 = some 8 := by kernel_rfl
@[go_sem] theorem T.zero153 : HL.zeroT Tryz.prog 153 = some (.nilFunc) := by kernel_rfl
@[go_sem] theorem T.agg154 : HL.aggN Tryz.prog 154 = some none := by kernel_rfl
@[go_sem] theorem T.size154 : HL.sizeT Tryz.prog 154 = some 1 := by kernel_rfl
@[go_sem] theorem T.bytes154 : HL.bytesT Tryz.prog 154 = some 24 := by kernel_rfl
@[go_sem] theorem T.zero154 : HL.zeroT Tryz.prog 154 = some (.slice none 0 0) := by kernel_rfl
@[go_sem] theorem T.elem154 : HL.elemT Tryz.prog 154 = some 145 := by kernel_rfl
@[go_sem] theorem T.elemS154 : HL.elemS Tryz.prog 154 = some 2 := by kernel_rfl
@[go_sem] theorem T.agg155 : HL.aggN Tryz.prog 155 = some (some 32) := by kernel_rfl
@[go_sem] theorem T.size155 : HL.sizeT Tryz.prog 155 = some 32 := by kernel_rfl
@[go_sem] theorem T.bytes155 : HL.bytesT Tryz.prog 155 = some 32 := by kernel_rfl
@[go_sem] theorem T.zero155 : HL.zeroT Tryz.prog 155 = some (.agg #[.int .u8 0, .int .u8 0, .int .u8 0, .int .u8 0, .int .u8 0, .int .u8 0, .int .u8 0, .int .u8 0, .int .u8 0, .int .u8 0, .int .u8 0, .int .u8 0, .int .u8 0, .int .u8 0, .int .u8 0, .int .u8 0, .int .u8 0, .int .u8 0, .int .u8 0, .int .u8 0, .int .u8 0, .int .u8 0, .int .u8 0, .int .u8 0, .int .u8 0, .int .u8 0, .int .u8 0, .int .u8 0, .int .u8 0, .int .u8 0, .int .u8 0, .int .u8 0]) := by kernel_rfl
@[go_sem] theorem T.places155 : HL.placesT Tryz.prog 155 = none := by kernel_rfl
@[go_sem] theorem T.arr155 : HL.arrT Tryz.prog 155 = some (32, 5) := by kernel_rfl
@[go_sem] theorem T.arrS155 : HL.arrS Tryz.prog 155 = some (32, 1) := by kernel_rfl
@[go_sem] theorem T.agg156 : HL.aggN Tryz.prog 156 = some (some 64) := by kernel_rfl
@[go_sem] theorem T.size156 : HL.sizeT Tryz.prog 156 = some 64 := by kernel_rfl
@[go_sem] theorem T.bytes156 : HL.bytesT Tryz.prog 156 = some 64 := by kernel_rfl
@[go_sem] theorem T.zero156 : HL.zeroT Tryz.prog 156 = some (.agg #[.int .u8 0, .int .u8 0, .int .u8 0, .int .u8 0, .int .u8 0, .int .u8 0, .int .u8 0, .int .u8 0, .int .u8 0, .int .u8 0, .int .u8 0, .int .u8 0, .int .u8 0, .int .u8 0, .int .u8 0, .int .u8 0, .int .u8 0, .int .u8 0, .int .u8 0, .int .u8 0, .int .u8 0, .int .u8 0, .int .u8 0, .int .u8 0, .int .u8 0, .int .u8 0, .int .u8 0, .int .u8 0, .int .u8 0, .int .u8 0, .int .u8 0, .int .u8 0, .int .u8 0, .int .u8 0, .int .u8 0, .int .u8 0, .int .u8 0, .int .u8 0, .int .u8 0, .int .u8 0, .int .u8 0, .int .u8 0, .int .u8 0, .int .u8 0, .int .u8 0, .int .u8 0, .int .u8 0, .int .u8 0, .int .u8 0, .int .u8 0, .int .u8 0, .int .u8 0, .int .u8 0, .int .u8 0, .int .u8 0, .int .u8 0, .int .u8 0, .int .u8 0, .int .u8 0, .int .u8 0, .int .u8 0, .int .u8 0, .int .u8 0, .int .u8 0]) := by kernel_rfl
@[go_sem] theorem T.places156 : HL.placesT Tryz.prog 156 = none := by kernel_rfl
@[go_sem] theorem T.arr156 : HL.arrT Tryz.prog 156 = some (64, 5) := by kernel_rfl
@[go_sem] theorem T.arrS156 : HL.arrS Tryz.prog 156 = some (64, 1) := by kernel_rfl
@[go_sem] theorem T.agg157 : HL.aggN Tryz.prog 157 = some (some 4) := by kernel_rfl
@[go_sem] theorem T.size157 : HL.sizeT Tryz.prog 157 = some 4 := by kernel_rfl
@[go_sem] theorem T.bytes157 : HL.bytesT Tryz.prog 157 = some 40 := by kernel_rfl
@[go_sem] theorem T.zero157 : HL.zeroT Tryz.prog 157 = some (.agg #[.pointer none, .pointer none, .pointer none, .string ⟨#[]⟩]) := by kernel_rfl
@[go_sem] theorem T.places157 : HL.placesT Tryz.prog 157 = some [(0, 1), (1, 1), (2, 1), (3, 1)] := by kernel_rfl
@[go_sem] theorem T.field157_0 : HL.fieldT Tryz.prog 157 0 = some (0, 17) := by kernel_rfl
@[go_sem] theorem T.fieldO157_0 : HL.fieldO Tryz.prog 157 0 = some 0 := by kernel_rfl
@[go_sem] theorem T.field157_1 : HL.fieldT Tryz.prog 157 1 = some (1, 17) := by kernel_rfl
@[go_sem] theorem T.fieldO157_1 : HL.fieldO Tryz.prog 157 1 = some 1 := by kernel_rfl
@[go_sem] theorem T.field157_2 : HL.fieldT Tryz.prog 157 2 = some (2, 17) := by kernel_rfl
@[go_sem] theorem T.fieldO157_2 : HL.fieldO Tryz.prog 157 2 = some 2 := by kernel_rfl
@[go_sem] theorem T.field157_3 : HL.fieldT Tryz.prog 157 3 = some (3, 9) := by kernel_rfl
@[go_sem] theorem T.fieldO157_3 : HL.fieldO Tryz.prog 157 3 = some 3 := by kernel_rfl
@[go_sem] theorem T.agg158 : HL.aggN Tryz.prog 158 = some (some 4) := by kernel_rfl
@[go_sem] theorem T.size158 : HL.sizeT Tryz.prog 158 = some 4 := by kernel_rfl
@[go_sem] theorem T.bytes158 : HL.bytesT Tryz.prog 158 = some 40 := by kernel_rfl
@[go_sem] theorem T.zero158 : HL.zeroT Tryz.prog 158 = some (.agg #[.pointer none, .pointer none, .pointer none, .string ⟨#[]⟩]) := by kernel_rfl
@[go_sem] theorem T.places158 : HL.placesT Tryz.prog 158 = some [(0, 1), (1, 1), (2, 1), (3, 1)] := by kernel_rfl
@[go_sem] theorem T.field158_0 : HL.fieldT Tryz.prog 158 0 = some (0, 17) := by kernel_rfl
@[go_sem] theorem T.fieldO158_0 : HL.fieldO Tryz.prog 158 0 = some 0 := by kernel_rfl
@[go_sem] theorem T.field158_1 : HL.fieldT Tryz.prog 158 1 = some (1, 17) := by kernel_rfl
@[go_sem] theorem T.fieldO158_1 : HL.fieldO Tryz.prog 158 1 = some 1 := by kernel_rfl
@[go_sem] theorem T.field158_2 : HL.fieldT Tryz.prog 158 2 = some (2, 17) := by kernel_rfl
@[go_sem] theorem T.fieldO158_2 : HL.fieldO Tryz.prog 158 2 = some 2 := by kernel_rfl
@[go_sem] theorem T.field158_3 : HL.fieldT Tryz.prog 158 3 = some (3, 9) := by kernel_rfl
@[go_sem] theorem T.fieldO158_3 : HL.fieldO Tryz.prog 158 3 = some 3 := by kernel_rfl
@[go_sem] theorem T.agg159 : HL.aggN Tryz.prog 159 = some (some 0) := by kernel_rfl
@[go_sem] theorem T.size159 : HL.sizeT Tryz.prog 159 = some 0 := by kernel_rfl
@[go_sem] theorem T.bytes159 : HL.bytesT Tryz.prog 159 = some 0 := by kernel_rfl
@[go_sem] theorem T.zero159 : HL.zeroT Tryz.prog 159 = some (.agg #[]) := by kernel_rfl
@[go_sem] theorem T.places159 : HL.placesT Tryz.prog 159 = none := by kernel_rfl
@[go_sem] theorem T.arr159 : HL.arrT Tryz.prog 159 = some (0, 16) := by kernel_rfl
@[go_sem] theorem T.arrS159 : HL.arrS Tryz.prog 159 = some (0, 1) := by kernel_rfl
@[go_sem] theorem T.agg160 : HL.aggN Tryz.prog 160 = some (some 0) := by kernel_rfl
@[go_sem] theorem T.size160 : HL.sizeT Tryz.prog 160 = some 0 := by kernel_rfl
@[go_sem] theorem T.bytes160 : HL.bytesT Tryz.prog 160 = some 0 := by kernel_rfl
@[go_sem] theorem T.zero160 : HL.zeroT Tryz.prog 160 = some (.agg #[]) := by kernel_rfl
@[go_sem] theorem T.places160 : HL.placesT Tryz.prog 160 = some [(0, 0)] := by kernel_rfl
@[go_sem] theorem T.field160_0 : HL.fieldT Tryz.prog 160 0 = some (0, 159) := by kernel_rfl
@[go_sem] theorem T.agg161 : HL.aggN Tryz.prog 161 = some (some 0) := by kernel_rfl
@[go_sem] theorem T.size161 : HL.sizeT Tryz.prog 161 = some 0 := by kernel_rfl
@[go_sem] theorem T.bytes161 : HL.bytesT Tryz.prog 161 = some 0 := by kernel_rfl
@[go_sem] theorem T.zero161 : HL.zeroT Tryz.prog 161 = some (.agg #[]) := by kernel_rfl
@[go_sem] theorem T.places161 : HL.placesT Tryz.prog 161 = some [(0, 0)] := by kernel_rfl
@[go_sem] theorem T.field161_0 : HL.fieldT Tryz.prog 161 0 = some (0, 159) := by kernel_rfl
@[go_sem] theorem T.agg162 : HL.aggN Tryz.prog 162 = some none := by kernel_rfl
@[go_sem] theorem T.size162 : HL.sizeT Tryz.prog 162 = some 1 := by kernel_rfl
@[go_sem] theorem T.bytes162 : HL.bytesT Tryz.prog 162 = some 8 := by kernel_rfl
@[go_sem] theorem T.zero162 : HL.zeroT Tryz.prog 162 = some (.nilFunc) := by kernel_rfl
@[go_sem] theorem T.agg163 : HL.aggN Tryz.prog 163 = some none := by kernel_rfl
@[go_sem] theorem T.size163 : HL.sizeT Tryz.prog 163 = some 1 := by kernel_rfl
@[go_sem] theorem T.bytes163 : HL.bytesT Tryz.prog 163 = some 1 := by kernel_rfl
@[go_sem] theorem T.zero163 : HL.zeroT Tryz.prog 163 = some (.int .u8 0) := by kernel_rfl
@[go_sem] theorem T.agg164 : HL.aggN Tryz.prog 164 = some none := by kernel_rfl
@[go_sem] theorem T.size164 : HL.sizeT Tryz.prog 164 = some 1 := by kernel_rfl
@[go_sem] theorem T.bytes164 : HL.bytesT Tryz.prog 164 = some 8 := by kernel_rfl
@[go_sem] theorem T.zero164 : HL.zeroT Tryz.prog 164 = some (.nilFunc) := by kernel_rfl
@[go_sem] theorem T.agg165 : HL.aggN Tryz.prog 165 = some none := by kernel_rfl
@[go_sem] theorem T.size165 : HL.sizeT Tryz.prog 165 = some 1 := by kernel_rfl
@[go_sem] theorem T.bytes165 : HL.bytesT Tryz.prog 165 = some 8 := by kernel_rfl
@[go_sem] theorem T.zero165 : HL.zeroT Tryz.prog 165 = some (.pointer none) := by kernel_rfl
@[go_sem] theorem T.agg166 : HL.aggN Tryz.prog 166 = some none := by kernel_rfl
@[go_sem] theorem T.size166 : HL.sizeT Tryz.prog 166 = some 1 := by kernel_rfl
@[go_sem] theorem T.bytes166 : HL.bytesT Tryz.prog 166 = some 4 := by kernel_rfl
@[go_sem] theorem T.zero166 : HL.zeroT Tryz.prog 166 = some (.int .i32 0) := by kernel_rfl
@[go_sem] theorem T.agg167 : HL.aggN Tryz.prog 167 = some none := by kernel_rfl
@[go_sem] theorem T.size167 : HL.sizeT Tryz.prog 167 = some 1 := by kernel_rfl
@[go_sem] theorem T.bytes167 : HL.bytesT Tryz.prog 167 = some 4 := by kernel_rfl
@[go_sem] theorem T.zero167 : HL.zeroT Tryz.prog 167 = some (.int .i32 0) := by kernel_rfl
@[go_sem] theorem T.agg168 : HL.aggN Tryz.prog 168 = some (some 11) := by kernel_rfl
@[go_sem] theorem T.size168 : HL.sizeT Tryz.prog 168 = some 11 := by kernel_rfl
@[go_sem] theorem T.bytes168 : HL.bytesT Tryz.prog 168 = some 48 := by kernel_rfl
@[go_sem] theorem T.zero168 : HL.zeroT Tryz.prog 168 = some (.agg #[.int .u64 0, .int .u64 0, .int .u32 0, .int .u8 0, .int .u8 0, .int .u8 0, .int .u8 0, .nilFunc, .pointer none, .int .i32 0, .int .i32 0]) := by kernel_rfl
@[go_sem] theorem T.places168 : HL.placesT Tryz.prog 168 = some [(0, 1), (1, 1), (2, 1), (3, 1), (4, 1), (5, 1), (6, 1), (7, 1), (8, 1), (9, 1), (10, 1)] := by kernel_rfl
@[go_sem] theorem T.field168_0 : HL.fieldT Tryz.prog 168 0 = some (0, 12) := by kernel_rfl
@[go_sem] theorem T.fieldO168_0 : HL.fieldO Tryz.prog 168 0 = some 0 := by kernel_rfl
@[go_sem] theorem T.field168_1 : HL.fieldT Tryz.prog 168 1 = some (1, 12) := by kernel_rfl
@[go_sem] theorem T.fieldO168_1 : HL.fieldO Tryz.prog 168 1 = some 1 := by kernel_rfl
@[go_sem] theorem T.field168_2 : HL.fieldT Tryz.prog 168 2 = some (2, 141) := by kernel_rfl
@[go_sem] theorem T.fieldO168_2 : HL.fieldO Tryz.prog 168 2 = some 2 := by kernel_rfl
@[go_sem] theorem T.field168_3 : HL.fieldT Tryz.prog 168 3 = some (3, 163) := by kernel_rfl
@[go_sem] theorem T.fieldO168_3 : HL.fieldO Tryz.prog 168 3 = some 3 := by kernel_rfl
@[go_sem] theorem T.field168_4 : HL.fieldT Tryz.prog 168 4 = some (4, 5) := by kernel_rfl
@[go_sem] theorem T.fieldO168_4 : HL.fieldO Tryz.prog 168 4 = some 4 := by kernel_rfl
@[go_sem] theorem T.field168_5 : HL.fieldT Tryz.prog 168 5 = some (5, 5) := by kernel_rfl
@[go_sem] theorem T.fieldO168_5 : HL.fieldO Tryz.prog 168 5 = some 5 := by kernel_rfl
@[go_sem] theorem T.field168_6 : HL.fieldT Tryz.prog 168 6 = some (6, 53) := by kernel_rfl
@[go_sem] theorem T.fieldO168_6 : HL.fieldO Tryz.prog 168 6 = some 6 := by kernel_rfl
@[go_sem] theorem T.field168_7 : HL.fieldT Tryz.prog 168 7 = some (7, 164) := by kernel_rfl
@[go_sem] theorem T.fieldO168_7 : HL.fieldO Tryz.prog 168 7 = some 7 := by kernel_rfl
@[go_sem] theorem T.field168_8 : HL.fieldT Tryz.prog 168 8 = some (8, 165) := by kernel_rfl
@[go_sem] theorem T.fieldO168_8 : HL.fieldO Tryz.prog 168 8 = some 8 := by kernel_rfl
@[go_sem] theorem T.field168_9 : HL.fieldT Tryz.prog 168 9 = some (9, 166) := by kernel_rfl
@[go_sem] theorem T.fieldO168_9 : HL.fieldO Tryz.prog 168 9 = some 9 := by kernel_rfl
@[go_sem] theorem T.field168_10 : HL.fieldT Tryz.prog 168 10 = some (10, 167) := by kernel_rfl
@[go_sem] theorem T.fieldO168_10 : HL.fieldO Tryz.prog 168 10 = some 10 := by kernel_rfl
@[go_sem] theorem T.agg169 : HL.aggN Tryz.prog 169 = some (some 11) := by kernel_rfl
@[go_sem] theorem T.size169 : HL.sizeT Tryz.prog 169 = some 11 := by kernel_rfl
@[go_sem] theorem T.bytes169 : HL.bytesT Tryz.prog 169 = some 48 := by kernel_rfl
@[go_sem] theorem T.zero169 : HL.zeroT Tryz.prog 169 = some (.agg #[.int .u64 0, .int .u64 0, .int .u32 0, .int .u8 0, .int .u8 0, .int .u8 0, .int .u8 0, .nilFunc, .pointer none, .int .i32 0, .int .i32 0]) := by kernel_rfl
@[go_sem] theorem T.places169 : HL.placesT Tryz.prog 169 = some [(0, 1), (1, 1), (2, 1), (3, 1), (4, 1), (5, 1), (6, 1), (7, 1), (8, 1), (9, 1), (10, 1)] := by kernel_rfl
@[go_sem] theorem T.field169_0 : HL.fieldT Tryz.prog 169 0 = some (0, 12) := by kernel_rfl
@[go_sem] theorem T.fieldO169_0 : HL.fieldO Tryz.prog 169 0 = some 0 := by kernel_rfl
@[go_sem] theorem T.field169_1 : HL.fieldT Tryz.prog 169 1 = some (1, 12) := by kernel_rfl
@[go_sem] theorem T.fieldO169_1 : HL.fieldO Tryz.prog 169 1 = some 1 := by kernel_rfl
@[go_sem] theorem T.field169_2 : HL.fieldT Tryz.prog 169 2 = some (2, 141) := by kernel_rfl
@[go_sem] theorem T.fieldO169_2 : HL.fieldO Tryz.prog 169 2 = some 2 := by kernel_rfl
@[go_sem] theorem T.field169_3 : HL.fieldT Tryz.prog 169 3 = some (3, 163) := by kernel_rfl
@[go_sem] theorem T.fieldO169_3 : HL.fieldO Tryz.prog 169 3 = some 3 := by kernel_rfl
@[go_sem] theorem T.field169_4 : HL.fieldT Tryz.prog 169 4 = some (4, 5) := by kernel_rfl
@[go_sem] theorem T.fieldO169_4 : HL.fieldO Tryz.prog 169 4 = some 4 := by kernel_rfl
@[go_sem] theorem T.field169_5 : HL.fieldT Tryz.prog 169 5 = some (5, 5) := by kernel_rfl
@[go_sem] theorem T.fieldO169_5 : HL.fieldO Tryz.prog 169 5 = some 5 := by kernel_rfl
@[go_sem] theorem T.field169_6 : HL.fieldT Tryz.prog 169 6 = some (6, 53) := by kernel_rfl
@[go_sem] theorem T.fieldO169_6 : HL.fieldO Tryz.prog 169 6 = some 6 := by kernel_rfl
@[go_sem] theorem T.field169_7 : HL.fieldT Tryz.prog 169 7 = some (7, 164) := by kernel_rfl
@[go_sem] theorem T.fieldO169_7 : HL.fieldO Tryz.prog 169 7 = some 7 := by kernel_rfl
@[go_sem] theorem T.field169_8 : HL.fieldT Tryz.prog 169 8 = some (8, 165) := by kernel_rfl
@[go_sem] theorem T.fieldO169_8 : HL.fieldO Tryz.prog 169 8 = some 8 := by kernel_rfl
@[go_sem] theorem T.field169_9 : HL.fieldT Tryz.prog 169 9 = some (9, 166) := by kernel_rfl
@[go_sem] theorem T.fieldO169_9 : HL.fieldO Tryz.prog 169 9 = some 9 := by kernel_rfl
@[go_sem] theorem T.field169_10 : HL.fieldT Tryz.prog 169 10 = some (10, 167) := by kernel_rfl
@[go_sem] theorem T.fieldO169_10 : HL.fieldO Tryz.prog 169 10 = some 10 := by kernel_rfl
@[go_sem] theorem T.agg170 : HL.aggN Tryz.prog 170 = some none := by kernel_rfl
@[go_sem] theorem T.size170 : HL.sizeT Tryz.prog 170 = some 1 := by kernel_rfl
@[go_sem] theorem T.bytes170 : HL.bytesT Tryz.prog 170 = some 8 := by kernel_rfl
@[go_sem] theorem T.zero170 : HL.zeroT Tryz.prog 170 = some (.nilFunc) := by kernel_rfl
@[go_sem] theorem T.agg171 : HL.aggN Tryz.prog 171 = some none := by kernel_rfl
@[go_sem] theorem T.size171 : HL.sizeT Tryz.prog 171 = some 1 := by kernel_rfl
@[go_sem] theorem T.bytes171 : HL.bytesT Tryz.prog 171 = some 8 := by kernel_rfl
@[go_sem] theorem T.zero171 : HL.zeroT Tryz.prog 171 = some (.nilFunc) := by kernel_rfl
@[go_sem] theorem T.agg172 : HL.aggN Tryz.prog 172 = some (some 2) := by kernel_rfl
@[go_sem] theorem T.size172 : HL.sizeT Tryz.prog 172 = some 2 := by kernel_rfl
@[go_sem] theorem T.bytes172 : HL.bytesT Tryz.prog 172 = some 24 := by kernel_rfl
@[go_sem] theorem T.zero172 : HL.zeroT Tryz.prog 172 = some (.agg #[.string ⟨#[]⟩, .int .u8 0]) := by kernel_rfl
@[go_sem] theorem T.places172 : HL.placesT Tryz.prog 172 = some [(0, 1), (1, 1)] := by kernel_rfl
@[go_sem] theorem T.field172_0 : HL.fieldT Tryz.prog 172 0 = some (0, 9) := by kernel_rfl
@[go_sem] theorem T.fieldO172_0 : HL.fieldO Tryz.prog 172 0 = some 0 := by kernel_rfl
@[go_sem] theorem T.field172_1 : HL.fieldT Tryz.prog 172 1 = some (1, 53) := by kernel_rfl
@[go_sem] theorem T.fieldO172_1 : HL.fieldO Tryz.prog 172 1 = some 1 := by kernel_rfl
@[go_sem] theorem T.agg173 : HL.aggN Tryz.prog 173 = some (some 2) := by kernel_rfl
@[go_sem] theorem T.size173 : HL.sizeT Tryz.prog 173 = some 2 := by kernel_rfl
@[go_sem] theorem T.bytes173 : HL.bytesT Tryz.prog 173 = some 24 := by kernel_rfl
@[go_sem] theorem T.zero173 : HL.zeroT Tryz.prog 173 = some (.agg #[.string ⟨#[]⟩, .int .u8 0]) := by kernel_rfl
@[go_sem] theorem T.places173 : HL.placesT Tryz.prog 173 = some [(0, 1), (1, 1)] := by kernel_rfl
@[go_sem] theorem T.field173_0 : HL.fieldT Tryz.prog 173 0 = some (0, 9) := by kernel_rfl
@[go_sem] theorem T.fieldO173_0 : HL.fieldO Tryz.prog 173 0 = some 0 := by kernel_rfl
@[go_sem] theorem T.field173_1 : HL.fieldT Tryz.prog 173 1 = some (1, 53) := by kernel_rfl
@[go_sem] theorem T.fieldO173_1 : HL.fieldO Tryz.prog 173 1 = some 1 := by kernel_rfl
@[go_sem] theorem T.agg174 : HL.aggN Tryz.prog 174 = some none := by kernel_rfl
@[go_sem] theorem T.size174 : HL.sizeT Tryz.prog 174 = some 1 := by kernel_rfl
@[go_sem] theorem T.bytes174 : HL.bytesT Tryz.prog 174 = some 8 := by kernel_rfl
@[go_sem] theorem T.zero174 : HL.zeroT Tryz.prog 174 = some (.pointer none) := by kernel_rfl
@[go_sem] theorem T.agg175 : HL.aggN Tryz.prog 175 = some none := by kernel_rfl
@[go_sem] theorem T.size175 : HL.sizeT Tryz.prog 175 = some 1 := by kernel_rfl
@[go_sem] theorem T.bytes175 : HL.bytesT Tryz.prog 175 = some 8 := by kernel_rfl
@[go_sem] theorem T.zero175 : HL.zeroT Tryz.prog 175 = some (.nilFunc) := by kernel_rfl
@[go_sem] theorem T.agg176 : HL.aggN Tryz.prog 176 = some none := by kernel_rfl
@[go_sem] theorem T.size176 : HL.sizeT Tryz.prog 176 = some 1 := by kernel_rfl
@[go_sem] theorem T.bytes176 : HL.bytesT Tryz.prog 176 = some 2 := by kernel_rfl
@[go_sem] theorem T.zero176 : HL.zeroT Tryz.prog 176 = some (.int .u16 0) := by kernel_rfl
@[go_sem] theorem T.agg177 : HL.aggN Tryz.prog 177 = some (some 5) := by kernel_rfl
@[go_sem] theorem T.size177 : HL.sizeT Tryz.prog 177 = some 5 := by kernel_rfl
@[go_sem] theorem T.bytes177 : HL.bytesT Tryz.prog 177 = some 16 := by kernel_rfl
@[go_sem] theorem T.zero177 : HL.zeroT Tryz.prog 177 = some (.agg #[.int .i32 0, .int .u16 0, .int .u16 0, .int .u32 0, .int .u32 0]) := by kernel_rfl
@[go_sem] theorem T.places177 : HL.placesT Tryz.prog 177 = some [(0, 1), (1, 1), (2, 1), (3, 1), (4, 1)] := by kernel_rfl
@[go_sem] theorem T.field177_0 : HL.fieldT Tryz.prog 177 0 = some (0, 166) := by kernel_rfl
@[go_sem] theorem T.fieldO177_0 : HL.fieldO Tryz.prog 177 0 = some 0 := by kernel_rfl
@[go_sem] theorem T.field177_1 : HL.fieldT Tryz.prog 177 1 = some (1, 176) := by kernel_rfl
@[go_sem] theorem T.fieldO177_1 : HL.fieldO Tryz.prog 177 1 = some 1 := by kernel_rfl
@[go_sem] theorem T.field177_2 : HL.fieldT Tryz.prog 177 2 = some (2, 176) := by kernel_rfl
@[go_sem] theorem T.fieldO177_2 : HL.fieldO Tryz.prog 177 2 = some 2 := by kernel_rfl
@[go_sem] theorem T.field177_3 : HL.fieldT Tryz.prog 177 3 = some (3, 141) := by kernel_rfl
@[go_sem] theorem T.fieldO177_3 : HL.fieldO Tryz.prog 177 3 = some 3 := by kernel_rfl
@[go_sem] theorem T.field177_4 : HL.fieldT Tryz.prog 177 4 = some (4, 141) := by kernel_rfl
@[go_sem] theorem T.fieldO177_4 : HL.fieldO Tryz.prog 177 4 = some 4 := by kernel_rfl
@[go_sem] theorem T.agg178 : HL.aggN Tryz.prog 178 = some (some 5) := by kernel_rfl
@[go_sem] theorem T.size178 : HL.sizeT Tryz.prog 178 = some 5 := by kernel_rfl
@[go_sem] theorem T.bytes178 : HL.bytesT Tryz.prog 178 = some 16 := by kernel_rfl
@[go_sem] theorem T.zero178 : HL.zeroT Tryz.prog 178 = some (.agg #[.int .i32 0, .int .u16 0, .int .u16 0, .int .u32 0, .int .u32 0]) := by kernel_rfl
@[go_sem] theorem T.places178 : HL.placesT Tryz.prog 178 = some [(0, 1), (1, 1), (2, 1), (3, 1), (4, 1)] := by kernel_rfl
@[go_sem] theorem T.field178_0 : HL.fieldT Tryz.prog 178 0 = some (0, 166) := by kernel_rfl
@[go_sem] theorem T.fieldO178_0 : HL.fieldO Tryz.prog 178 0 = some 0 := by kernel_rfl
@[go_sem] theorem T.field178_1 : HL.fieldT Tryz.prog 178 1 = some (1, 176) := by kernel_rfl
@[go_sem] theorem T.fieldO178_1 : HL.fieldO Tryz.prog 178 1 = some 1 := by kernel_rfl
@[go_sem] theorem T.field178_2 : HL.fieldT Tryz.prog 178 2 = some (2, 176) := by kernel_rfl
@[go_sem] theorem T.fieldO178_2 : HL.fieldO Tryz.prog 178 2 = some 2 := by kernel_rfl
@[go_sem] theorem T.field178_3 : HL.fieldT Tryz.prog 178 3 = some (3, 141) := by kernel_rfl
@[go_sem] theorem T.fieldO178_3 : HL.fieldO Tryz.prog 178 3 = some 3 := by kernel_rfl
@[go_sem] theorem T.field178_4 : HL.fieldT Tryz.prog 178 4 = some (4, 141) := by kernel_rfl
@[go_sem] theorem T.fieldO178_4 : HL.fieldO Tryz.prog 178 4 = some 4 := by kernel_rfl
@[go_sem] theorem T.agg179 : HL.aggN Tryz.prog 179 = some none := by kernel_rfl
@[go_sem] theorem T.size179 : HL.sizeT Tryz.prog 179 = some 1 := by kernel_rfl
@[go_sem] theorem T.bytes179 : HL.bytesT Tryz.prog 179 = some 24 := by kernel_rfl
@[go_sem] theorem T.zero179 : HL.zeroT Tryz.prog 179 = some (.slice none 0 0) := by kernel_rfl
@[go_sem] theorem T.elem179 : HL.elemT Tryz.prog 179 = some 182 := by kernel_rfl
@[go_sem] theorem T.elemS179 : HL.elemS Tryz.prog 179 = some 4 := by kernel_rfl
@[go_sem] theorem T.agg180 : HL.aggN Tryz.prog 180 = some none := by kernel_rfl
@[go_sem] theorem T.size180 : HL.sizeT Tryz.prog 180 = some 1 := by kernel_rfl
@[go_sem] theorem T.bytes180 : HL.bytesT Tryz.prog 180 = some 4 := by kernel_rfl
@[go_sem] theorem T.zero180 : HL.zeroT Tryz.prog 180 = some (.int .i32 0) := by kernel_rfl
@[go_sem] theorem T.agg181 : HL.aggN Tryz.prog 181 = some (some 4) := by kernel_rfl
@[go_sem] theorem T.size181 : HL.sizeT Tryz.prog 181 = some 4 := by kernel_rfl
@[go_sem] theorem T.bytes181 : HL.bytesT Tryz.prog 181 = some 16 := by kernel_rfl
@[go_sem] theorem T.zero181 : HL.zeroT Tryz.prog 181 = some (.agg #[.int .i32 0, .int .i32 0, .int .i32 0, .int .i32 0]) := by kernel_rfl
@[go_sem] theorem T.places181 : HL.placesT Tryz.prog 181 = some [(0, 1), (1, 1), (2, 1), (3, 1)] := by kernel_rfl
@[go_sem] theorem T.field181_0 : HL.fieldT Tryz.prog 181 0 = some (0, 166) := by kernel_rfl
@[go_sem] theorem T.fieldO181_0 : HL.fieldO Tryz.prog 181 0 = some 0 := by kernel_rfl
@[go_sem] theorem T.field181_1 : HL.fieldT Tryz.prog 181 1 = some (1, 167) := by kernel_rfl
@[go_sem] theorem T.fieldO181_1 : HL.fieldO Tryz.prog 181 1 = some 1 := by kernel_rfl
@[go_sem] theorem T.field181_2 : HL.fieldT Tryz.prog 181 2 = some (2, 180) := by kernel_rfl
@[go_sem] theorem T.fieldO181_2 : HL.fieldO Tryz.prog 181 2 = some 2 := by kernel_rfl
@[go_sem] theorem T.field181_3 : HL.fieldT Tryz.prog 181 3 = some (3, 180) := by kernel_rfl
@[go_sem] theorem T.fieldO181_3 : HL.fieldO Tryz.prog 181 3 = some 3 := by kernel_rfl
@[go_sem] theorem T.agg182 : HL.aggN Tryz.prog 182 = some (some 4) := by kernel_rfl
@[go_sem] theorem T.size182 : HL.sizeT Tryz.prog 182 = some 4 := by kernel_rfl
@[go_sem] theorem T.bytes182 : HL.bytesT Tryz.prog 182 = some 16 := by kernel_rfl
@[go_sem] theorem T.zero182 : HL.zeroT Tryz.prog 182 = some (.agg #[.int .i32 0, .int .i32 0, .int .i32 0, .int .i32 0]) := by kernel_rfl
@[go_sem] theorem T.places182 : HL.placesT Tryz.prog 182 = some [(0, 1), (1, 1), (2, 1), (3, 1)] := by kernel_rfl
@[go_sem] theorem T.field182_0 : HL.fieldT Tryz.prog 182 0 = some (0, 166) := by kernel_rfl
@[go_sem] theorem T.fieldO182_0 : HL.fieldO Tryz.prog 182 0 = some 0 := by kernel_rfl
@[go_sem] theorem T.field182_1 : HL.fieldT Tryz.prog 182 1 = some (1, 167) := by kernel_rfl
@[go_sem] theorem T.fieldO182_1 : HL.fieldO Tryz.prog 182 1 = some 1 := by kernel_rfl
@[go_sem] theorem T.field182_2 : HL.fieldT Tryz.prog 182 2 = some (2, 180) := by kernel_rfl
@[go_sem] theorem T.fieldO182_2 : HL.fieldO Tryz.prog 182 2 = some 2 := by kernel_rfl
@[go_sem] theorem T.field182_3 : HL.fieldT Tryz.prog 182 3 = some (3, 180) := by kernel_rfl
@[go_sem] theorem T.fieldO182_3 : HL.fieldO Tryz.prog 182 3 = some 3 := by kernel_rfl
@[go_sem] theorem T.agg183 : HL.aggN Tryz.prog 183 = some none := by kernel_rfl
@[go_sem] theorem T.size183 : HL.sizeT Tryz.prog 183 = some 1 := by kernel_rfl
@[go_sem] theorem T.bytes183 : HL.bytesT Tryz.prog 183 = some 8 := by kernel_rfl
@[go_sem] theorem T.zero183 : HL.zeroT Tryz.prog 183 = some (.pointer none) := by kernel_rfl
theorem T.el39 : HL.ElT Tryz.prog 39 69 5 88 (.agg #[.int .i64 0, .slice none 0 0, .slice none 0 0, .slice none 0 0, .int .i64 0]) := ⟨T.elem39, T.size69, T.bytes69, T.zero69⟩
@[go_sem] theorem T.bs39_0 {H : HL.Heap} : HL.buildSliceV Tryz.prog H 39 0 [] = some (.slice (some ⟨H.size, 0, none⟩) 0 0, H.push (.cells #[] 69)) := HL.bs_zero T.elem39 T.size69 T.zero69
theorem T.el60 : HL.ElT Tryz.prog 60 101 3 32 (.agg #[.int .i64 0, .string ⟨#[]⟩, .int .i64 0]) := ⟨T.elem60, T.size101, T.bytes101, T.zero101⟩
@[go_sem] theorem T.bs60_0 {H : HL.Heap} : HL.buildSliceV Tryz.prog H 60 0 [] = some (.slice (some ⟨H.size, 0, none⟩) 0 0, H.push (.cells #[] 101)) := HL.bs_zero T.elem60 T.size101 T.zero101
theorem T.el66 : HL.ElT Tryz.prog 66 9 1 16 (.string ⟨#[]⟩) := ⟨T.elem66, T.size9, T.bytes9, T.zero9⟩
@[go_sem] theorem T.bs66_1 {H : HL.Heap} {n0 : ByteArray} : HL.buildSliceV Tryz.prog H 66 1 [(0, .string n0)] = some (.slice (some ⟨H.size, 0, none⟩) 1 1, H.push (.cells #[.string n0] 9)) := HL.bs_one T.elem66 T.size9 T.zero9 rfl
@[go_sem] theorem T.bs66_2 {H : HL.Heap} {n0 : ByteArray} {n1 : ByteArray} : HL.buildSliceV Tryz.prog H 66 2 [(0, .string n0), (1, .string n1)] = some (.slice (some ⟨H.size, 0, none⟩) 2 2, H.push (.cells #[.string n0, .string n1] 9)) := HL.bs_two T.elem66 T.size9 T.zero9 rfl rfl
@[go_sem] theorem T.bs66_3 {H : HL.Heap} {n0 : ByteArray} {n1 : ByteArray} {n2 : ByteArray} : HL.buildSliceV Tryz.prog H 66 3 [(0, .string n0), (1, .string n1), (2, .string n2)] = some (.slice (some ⟨H.size, 0, none⟩) 3 3, H.push (.cells #[.string n0, .string n1, .string n2] 9)) := HL.bs_three T.elem66 T.size9 T.zero9 rfl rfl rfl
@[go_sem] theorem T.bs66_4 {H : HL.Heap} {n0 : ByteArray} {n1 : ByteArray} {n2 : ByteArray} {n3 : ByteArray} : HL.buildSliceV Tryz.prog H 66 4 [(0, .string n0), (1, .string n1), (2, .string n2), (3, .string n3)] = some (.slice (some ⟨H.size, 0, none⟩) 4 4, H.push (.cells #[.string n0, .string n1, .string n2, .string n3] 9)) := HL.bs_four T.elem66 T.size9 T.zero9 rfl rfl rfl rfl
@[go_sem] theorem T.bs66_0 {H : HL.Heap} : HL.buildSliceV Tryz.prog H 66 0 [] = some (.slice (some ⟨H.size, 0, none⟩) 0 0, H.push (.cells #[] 9)) := HL.bs_zero T.elem66 T.size9 T.zero9
theorem T.el67 : HL.ElT Tryz.prog 67 3 1 8 (.int .i64 0) := ⟨T.elem67, T.size3, T.bytes3, T.zero3⟩
@[go_sem] theorem T.bs67_1 {H : HL.Heap} {k0 : IntKind} {n0 : Int} : HL.buildSliceV Tryz.prog H 67 1 [(0, .int k0 n0)] = some (.slice (some ⟨H.size, 0, none⟩) 1 1, H.push (.cells #[.int k0 n0] 3)) := HL.bs_one T.elem67 T.size3 T.zero3 rfl
@[go_sem] theorem T.bs67_2 {H : HL.Heap} {k0 : IntKind} {n0 : Int} {k1 : IntKind} {n1 : Int} : HL.buildSliceV Tryz.prog H 67 2 [(0, .int k0 n0), (1, .int k1 n1)] = some (.slice (some ⟨H.size, 0, none⟩) 2 2, H.push (.cells #[.int k0 n0, .int k1 n1] 3)) := HL.bs_two T.elem67 T.size3 T.zero3 rfl rfl
@[go_sem] theorem T.bs67_3 {H : HL.Heap} {k0 : IntKind} {n0 : Int} {k1 : IntKind} {n1 : Int} {k2 : IntKind} {n2 : Int} : HL.buildSliceV Tryz.prog H 67 3 [(0, .int k0 n0), (1, .int k1 n1), (2, .int k2 n2)] = some (.slice (some ⟨H.size, 0, none⟩) 3 3, H.push (.cells #[.int k0 n0, .int k1 n1, .int k2 n2] 3)) := HL.bs_three T.elem67 T.size3 T.zero3 rfl rfl rfl
@[go_sem] theorem T.bs67_4 {H : HL.Heap} {k0 : IntKind} {n0 : Int} {k1 : IntKind} {n1 : Int} {k2 : IntKind} {n2 : Int} {k3 : IntKind} {n3 : Int} : HL.buildSliceV Tryz.prog H 67 4 [(0, .int k0 n0), (1, .int k1 n1), (2, .int k2 n2), (3, .int k3 n3)] = some (.slice (some ⟨H.size, 0, none⟩) 4 4, H.push (.cells #[.int k0 n0, .int k1 n1, .int k2 n2, .int k3 n3] 3)) := HL.bs_four T.elem67 T.size3 T.zero3 rfl rfl rfl rfl
@[go_sem] theorem T.bs67_0 {H : HL.Heap} : HL.buildSliceV Tryz.prog H 67 0 [] = some (.slice (some ⟨H.size, 0, none⟩) 0 0, H.push (.cells #[] 3)) := HL.bs_zero T.elem67 T.size3 T.zero3
theorem T.el70 : HL.ElT Tryz.prog 70 72 6 112 (.agg #[.int .i64 0, .slice none 0 0, .slice none 0 0, .slice none 0 0, .int .i64 0, .slice none 0 0]) := ⟨T.elem70, T.size72, T.bytes72, T.zero72⟩
@[go_sem] theorem T.bs70_0 {H : HL.Heap} : HL.buildSliceV Tryz.prog H 70 0 [] = some (.slice (some ⟨H.size, 0, none⟩) 0 0, H.push (.cells #[] 72)) := HL.bs_zero T.elem70 T.size72 T.zero72
theorem T.el91 : HL.ElT Tryz.prog 91 27 1 16 (.nilIface) := ⟨T.elem91, T.size27, T.bytes27, T.zero27⟩
@[go_sem] theorem T.bs91_0 {H : HL.Heap} : HL.buildSliceV Tryz.prog H 91 0 [] = some (.slice (some ⟨H.size, 0, none⟩) 0 0, H.push (.cells #[] 27)) := HL.bs_zero T.elem91 T.size27 T.zero27
theorem T.el96 : HL.ElT Tryz.prog 96 5 1 1 (.int .u8 0) := ⟨T.elem96, T.size5, T.bytes5, T.zero5⟩
@[go_sem] theorem T.bs96_1 {H : HL.Heap} {k0 : IntKind} {n0 : Int} : HL.buildSliceV Tryz.prog H 96 1 [(0, .int k0 n0)] = some (.slice (some ⟨H.size, 0, none⟩) 1 1, H.push (.cells #[.int k0 n0] 5)) := HL.bs_one T.elem96 T.size5 T.zero5 rfl
@[go_sem] theorem T.bs96_2 {H : HL.Heap} {k0 : IntKind} {n0 : Int} {k1 : IntKind} {n1 : Int} : HL.buildSliceV Tryz.prog H 96 2 [(0, .int k0 n0), (1, .int k1 n1)] = some (.slice (some ⟨H.size, 0, none⟩) 2 2, H.push (.cells #[.int k0 n0, .int k1 n1] 5)) := HL.bs_two T.elem96 T.size5 T.zero5 rfl rfl
@[go_sem] theorem T.bs96_3 {H : HL.Heap} {k0 : IntKind} {n0 : Int} {k1 : IntKind} {n1 : Int} {k2 : IntKind} {n2 : Int} : HL.buildSliceV Tryz.prog H 96 3 [(0, .int k0 n0), (1, .int k1 n1), (2, .int k2 n2)] = some (.slice (some ⟨H.size, 0, none⟩) 3 3, H.push (.cells #[.int k0 n0, .int k1 n1, .int k2 n2] 5)) := HL.bs_three T.elem96 T.size5 T.zero5 rfl rfl rfl
@[go_sem] theorem T.bs96_4 {H : HL.Heap} {k0 : IntKind} {n0 : Int} {k1 : IntKind} {n1 : Int} {k2 : IntKind} {n2 : Int} {k3 : IntKind} {n3 : Int} : HL.buildSliceV Tryz.prog H 96 4 [(0, .int k0 n0), (1, .int k1 n1), (2, .int k2 n2), (3, .int k3 n3)] = some (.slice (some ⟨H.size, 0, none⟩) 4 4, H.push (.cells #[.int k0 n0, .int k1 n1, .int k2 n2, .int k3 n3] 5)) := HL.bs_four T.elem96 T.size5 T.zero5 rfl rfl rfl rfl
@[go_sem] theorem T.bs96_0 {H : HL.Heap} : HL.buildSliceV Tryz.prog H 96 0 [] = some (.slice (some ⟨H.size, 0, none⟩) 0 0, H.push (.cells #[] 5)) := HL.bs_zero T.elem96 T.size5 T.zero5
theorem T.el154 : HL.ElT Tryz.prog 154 145 2 16 (.agg #[.int .i64 0, .int .i64 0]) := ⟨T.elem154, T.size145, T.bytes145, T.zero145⟩
@[go_sem] theorem T.bs154_0 {H : HL.Heap} : HL.buildSliceV Tryz.prog H 154 0 [] = some (.slice (some ⟨H.size, 0, none⟩) 0 0, H.push (.cells #[] 145)) := HL.bs_zero T.elem154 T.size145 T.zero145
theorem T.el179 : HL.ElT Tryz.prog 179 182 4 16 (.agg #[.int .i32 0, .int .i32 0, .int .i32 0, .int .i32 0]) := ⟨T.elem179, T.size182, T.bytes182, T.zero182⟩
@[go_sem] theorem T.bs179_0 {H : HL.Heap} : HL.buildSliceV Tryz.prog H 179 0 [] = some (.slice (some ⟨H.size, 0, none⟩) 0 0, H.push (.cells #[] 182)) := HL.bs_zero T.elem179 T.size182 T.zero182
@[go_sem] theorem T.pe15 {H : HL.Heap} {xo yo : Operand} {a : Addr} : HL.binV Tryz.prog (HL.full H) .eql 15 xo yo (.pointer (some a)) (.pointer none) = some (.bool false) := HL.bin_ptr_eql Tryz.underlying15
@[go_sem] theorem T.pn15 {H : HL.Heap} {xo yo : Operand} {a : Addr} : HL.binV Tryz.prog (HL.full H) .neq 15 xo yo (.pointer (some a)) (.pointer none) = some (.bool true) := HL.bin_ptr_neq Tryz.underlying15
@[go_sem] theorem T.ne15 {H : HL.Heap} {xo yo : Operand} : HL.binV Tryz.prog (HL.full H) .eql 15 xo yo (.pointer none) (.pointer none) = some (.bool true) := HL.bin_nil_eql Tryz.underlying15
@[go_sem] theorem T.nn15 {H : HL.Heap} {xo yo : Operand} : HL.binV Tryz.prog (HL.full H) .neq 15 xo yo (.pointer none) (.pointer none) = some (.bool false) := HL.bin_nil_neq Tryz.underlying15
@[go_sem] theorem T.pe16 {H : HL.Heap} {xo yo : Operand} {a : Addr} : HL.binV Tryz.prog (HL.full H) .eql 16 xo yo (.pointer (some a)) (.pointer none) = some (.bool false) := HL.bin_ptr_eql Tryz.underlying16
@[go_sem] theorem T.pn16 {H : HL.Heap} {xo yo : Operand} {a : Addr} : HL.binV Tryz.prog (HL.full H) .neq 16 xo yo (.pointer (some a)) (.pointer none) = some (.bool true) := HL.bin_ptr_neq Tryz.underlying16
@[go_sem] theorem T.ne16 {H : HL.Heap} {xo yo : Operand} : HL.binV Tryz.prog (HL.full H) .eql 16 xo yo (.pointer none) (.pointer none) = some (.bool true) := HL.bin_nil_eql Tryz.underlying16
@[go_sem] theorem T.nn16 {H : HL.Heap} {xo yo : Operand} : HL.binV Tryz.prog (HL.full H) .neq 16 xo yo (.pointer none) (.pointer none) = some (.bool false) := HL.bin_nil_neq Tryz.underlying16
@[go_sem] theorem T.pe17 {H : HL.Heap} {xo yo : Operand} {a : Addr} : HL.binV Tryz.prog (HL.full H) .eql 17 xo yo (.pointer (some a)) (.pointer none) = some (.bool false) := HL.bin_ptr_eql Tryz.underlying17
@[go_sem] theorem T.pn17 {H : HL.Heap} {xo yo : Operand} {a : Addr} : HL.binV Tryz.prog (HL.full H) .neq 17 xo yo (.pointer (some a)) (.pointer none) = some (.bool true) := HL.bin_ptr_neq Tryz.underlying17
@[go_sem] theorem T.ne17 {H : HL.Heap} {xo yo : Operand} : HL.binV Tryz.prog (HL.full H) .eql 17 xo yo (.pointer none) (.pointer none) = some (.bool true) := HL.bin_nil_eql Tryz.underlying17
@[go_sem] theorem T.nn17 {H : HL.Heap} {xo yo : Operand} : HL.binV Tryz.prog (HL.full H) .neq 17 xo yo (.pointer none) (.pointer none) = some (.bool false) := HL.bin_nil_neq Tryz.underlying17
@[go_sem] theorem T.pe29 {H : HL.Heap} {xo yo : Operand} {a : Addr} : HL.binV Tryz.prog (HL.full H) .eql 29 xo yo (.pointer (some a)) (.pointer none) = some (.bool false) := HL.bin_ptr_eql Tryz.underlying29
@[go_sem] theorem T.pn29 {H : HL.Heap} {xo yo : Operand} {a : Addr} : HL.binV Tryz.prog (HL.full H) .neq 29 xo yo (.pointer (some a)) (.pointer none) = some (.bool true) := HL.bin_ptr_neq Tryz.underlying29
@[go_sem] theorem T.ne29 {H : HL.Heap} {xo yo : Operand} : HL.binV Tryz.prog (HL.full H) .eql 29 xo yo (.pointer none) (.pointer none) = some (.bool true) := HL.bin_nil_eql Tryz.underlying29
@[go_sem] theorem T.nn29 {H : HL.Heap} {xo yo : Operand} : HL.binV Tryz.prog (HL.full H) .neq 29 xo yo (.pointer none) (.pointer none) = some (.bool false) := HL.bin_nil_neq Tryz.underlying29
@[go_sem] theorem T.pe31 {H : HL.Heap} {xo yo : Operand} {a : Addr} : HL.binV Tryz.prog (HL.full H) .eql 31 xo yo (.pointer (some a)) (.pointer none) = some (.bool false) := HL.bin_ptr_eql Tryz.underlying31
@[go_sem] theorem T.pn31 {H : HL.Heap} {xo yo : Operand} {a : Addr} : HL.binV Tryz.prog (HL.full H) .neq 31 xo yo (.pointer (some a)) (.pointer none) = some (.bool true) := HL.bin_ptr_neq Tryz.underlying31
@[go_sem] theorem T.ne31 {H : HL.Heap} {xo yo : Operand} : HL.binV Tryz.prog (HL.full H) .eql 31 xo yo (.pointer none) (.pointer none) = some (.bool true) := HL.bin_nil_eql Tryz.underlying31
@[go_sem] theorem T.nn31 {H : HL.Heap} {xo yo : Operand} : HL.binV Tryz.prog (HL.full H) .neq 31 xo yo (.pointer none) (.pointer none) = some (.bool false) := HL.bin_nil_neq Tryz.underlying31
@[go_sem] theorem T.pe63 {H : HL.Heap} {xo yo : Operand} {a : Addr} : HL.binV Tryz.prog (HL.full H) .eql 63 xo yo (.pointer (some a)) (.pointer none) = some (.bool false) := HL.bin_ptr_eql Tryz.underlying63
@[go_sem] theorem T.pn63 {H : HL.Heap} {xo yo : Operand} {a : Addr} : HL.binV Tryz.prog (HL.full H) .neq 63 xo yo (.pointer (some a)) (.pointer none) = some (.bool true) := HL.bin_ptr_neq Tryz.underlying63
@[go_sem] theorem T.ne63 {H : HL.Heap} {xo yo : Operand} : HL.binV Tryz.prog (HL.full H) .eql 63 xo yo (.pointer none) (.pointer none) = some (.bool true) := HL.bin_nil_eql Tryz.underlying63
@[go_sem] theorem T.nn63 {H : HL.Heap} {xo yo : Operand} : HL.binV Tryz.prog (HL.full H) .neq 63 xo yo (.pointer none) (.pointer none) = some (.bool false) := HL.bin_nil_neq Tryz.underlying63
@[go_sem] theorem T.pe83 {H : HL.Heap} {xo yo : Operand} {a : Addr} : HL.binV Tryz.prog (HL.full H) .eql 83 xo yo (.pointer (some a)) (.pointer none) = some (.bool false) := HL.bin_ptr_eql Tryz.underlying83
@[go_sem] theorem T.pn83 {H : HL.Heap} {xo yo : Operand} {a : Addr} : HL.binV Tryz.prog (HL.full H) .neq 83 xo yo (.pointer (some a)) (.pointer none) = some (.bool true) := HL.bin_ptr_neq Tryz.underlying83
@[go_sem] theorem T.ne83 {H : HL.Heap} {xo yo : Operand} : HL.binV Tryz.prog (HL.full H) .eql 83 xo yo (.pointer none) (.pointer none) = some (.bool true) := HL.bin_nil_eql Tryz.underlying83
@[go_sem] theorem T.nn83 {H : HL.Heap} {xo yo : Operand} : HL.binV Tryz.prog (HL.full H) .neq 83 xo yo (.pointer none) (.pointer none) = some (.bool false) := HL.bin_nil_neq Tryz.underlying83
@[go_sem] theorem T.pe105 {H : HL.Heap} {xo yo : Operand} {a : Addr} : HL.binV Tryz.prog (HL.full H) .eql 105 xo yo (.pointer (some a)) (.pointer none) = some (.bool false) := HL.bin_ptr_eql Tryz.underlying105
@[go_sem] theorem T.pn105 {H : HL.Heap} {xo yo : Operand} {a : Addr} : HL.binV Tryz.prog (HL.full H) .neq 105 xo yo (.pointer (some a)) (.pointer none) = some (.bool true) := HL.bin_ptr_neq Tryz.underlying105
@[go_sem] theorem T.ne105 {H : HL.Heap} {xo yo : Operand} : HL.binV Tryz.prog (HL.full H) .eql 105 xo yo (.pointer none) (.pointer none) = some (.bool true) := HL.bin_nil_eql Tryz.underlying105
@[go_sem] theorem T.nn105 {H : HL.Heap} {xo yo : Operand} : HL.binV Tryz.prog (HL.full H) .neq 105 xo yo (.pointer none) (.pointer none) = some (.bool false) := HL.bin_nil_neq Tryz.underlying105
@[go_sem] theorem T.pe110 {H : HL.Heap} {xo yo : Operand} {a : Addr} : HL.binV Tryz.prog (HL.full H) .eql 110 xo yo (.pointer (some a)) (.pointer none) = some (.bool false) := HL.bin_ptr_eql Tryz.underlying110
@[go_sem] theorem T.pn110 {H : HL.Heap} {xo yo : Operand} {a : Addr} : HL.binV Tryz.prog (HL.full H) .neq 110 xo yo (.pointer (some a)) (.pointer none) = some (.bool true) := HL.bin_ptr_neq Tryz.underlying110
@[go_sem] theorem T.ne110 {H : HL.Heap} {xo yo : Operand} : HL.binV Tryz.prog (HL.full H) .eql 110 xo yo (.pointer none) (.pointer none) = some (.bool true) := HL.bin_nil_eql Tryz.underlying110
@[go_sem] theorem T.nn110 {H : HL.Heap} {xo yo : Operand} : HL.binV Tryz.prog (HL.full H) .neq 110 xo yo (.pointer none) (.pointer none) = some (.bool false) := HL.bin_nil_neq Tryz.underlying110
@[go_sem] theorem T.pe132 {H : HL.Heap} {xo yo : Operand} {a : Addr} : HL.binV Tryz.prog (HL.full H) .eql 132 xo yo (.pointer (some a)) (.pointer none) = some (.bool false) := HL.bin_ptr_eql Tryz.underlying132
@[go_sem] theorem T.pn132 {H : HL.Heap} {xo yo : Operand} {a : Addr} : HL.binV Tryz.prog (HL.full H) .neq 132 xo yo (.pointer (some a)) (.pointer none) = some (.bool true) := HL.bin_ptr_neq Tryz.underlying132
@[go_sem] theorem T.ne132 {H : HL.Heap} {xo yo : Operand} : HL.binV Tryz.prog (HL.full H) .eql 132 xo yo (.pointer none) (.pointer none) = some (.bool true) := HL.bin_nil_eql Tryz.underlying132
@[go_sem] theorem T.nn132 {H : HL.Heap} {xo yo : Operand} : HL.binV Tryz.prog (HL.full H) .neq 132 xo yo (.pointer none) (.pointer none) = some (.bool false) := HL.bin_nil_neq Tryz.underlying132
@[go_sem] theorem T.pe165 {H : HL.Heap} {xo yo : Operand} {a : Addr} : HL.binV Tryz.prog (HL.full H) .eql 165 xo yo (.pointer (some a)) (.pointer none) = some (.bool false) := HL.bin_ptr_eql Tryz.underlying165
@[go_sem] theorem T.pn165 {H : HL.Heap} {xo yo : Operand} {a : Addr} : HL.binV Tryz.prog (HL.full H) .neq 165 xo yo (.pointer (some a)) (.pointer none) = some (.bool true) := HL.bin_ptr_neq Tryz.underlying165
@[go_sem] theorem T.ne165 {H : HL.Heap} {xo yo : Operand} : HL.binV Tryz.prog (HL.full H) .eql 165 xo yo (.pointer none) (.pointer none) = some (.bool true) := HL.bin_nil_eql Tryz.underlying165
@[go_sem] theorem T.nn165 {H : HL.Heap} {xo yo : Operand} : HL.binV Tryz.prog (HL.full H) .neq 165 xo yo (.pointer none) (.pointer none) = some (.bool false) := HL.bin_nil_neq Tryz.underlying165
@[go_sem] theorem T.pe174 {H : HL.Heap} {xo yo : Operand} {a : Addr} : HL.binV Tryz.prog (HL.full H) .eql 174 xo yo (.pointer (some a)) (.pointer none) = some (.bool false) := HL.bin_ptr_eql Tryz.underlying174
@[go_sem] theorem T.pn174 {H : HL.Heap} {xo yo : Operand} {a : Addr} : HL.binV Tryz.prog (HL.full H) .neq 174 xo yo (.pointer (some a)) (.pointer none) = some (.bool true) := HL.bin_ptr_neq Tryz.underlying174
@[go_sem] theorem T.ne174 {H : HL.Heap} {xo yo : Operand} : HL.binV Tryz.prog (HL.full H) .eql 174 xo yo (.pointer none) (.pointer none) = some (.bool true) := HL.bin_nil_eql Tryz.underlying174
@[go_sem] theorem T.nn174 {H : HL.Heap} {xo yo : Operand} : HL.binV Tryz.prog (HL.full H) .neq 174 xo yo (.pointer none) (.pointer none) = some (.bool false) := HL.bin_nil_neq Tryz.underlying174
@[go_sem] theorem T.pe183 {H : HL.Heap} {xo yo : Operand} {a : Addr} : HL.binV Tryz.prog (HL.full H) .eql 183 xo yo (.pointer (some a)) (.pointer none) = some (.bool false) := HL.bin_ptr_eql Tryz.underlying183
@[go_sem] theorem T.pn183 {H : HL.Heap} {xo yo : Operand} {a : Addr} : HL.binV Tryz.prog (HL.full H) .neq 183 xo yo (.pointer (some a)) (.pointer none) = some (.bool true) := HL.bin_ptr_neq Tryz.underlying183
@[go_sem] theorem T.ne183 {H : HL.Heap} {xo yo : Operand} : HL.binV Tryz.prog (HL.full H) .eql 183 xo yo (.pointer none) (.pointer none) = some (.bool true) := HL.bin_nil_eql Tryz.underlying183
@[go_sem] theorem T.nn183 {H : HL.Heap} {xo yo : Operand} : HL.binV Tryz.prog (HL.full H) .neq 183 xo yo (.pointer none) (.pointer none) = some (.bool false) := HL.bin_nil_neq Tryz.underlying183
@[go_sem] theorem T.be4 {H : HL.Heap} {xo yo : Operand} {x y : Bool} : HL.binV Tryz.prog (HL.full H) .eql 4 xo yo (.bool x) (.bool y) = some (.bool (x == y)) := HL.bin_bool_eql Tryz.underlying4
@[go_sem] theorem T.bn4 {H : HL.Heap} {xo yo : Operand} {x y : Bool} : HL.binV Tryz.prog (HL.full H) .neq 4 xo yo (.bool x) (.bool y) = some (.bool (!(x == y))) := HL.bin_bool_neq Tryz.underlying4
@[go_sem] theorem T.se25 {H : HL.Heap} {xo yo : Operand} {a0 b0 : Int} {a1 b1 : Int} : HL.binV Tryz.prog (HL.full H) .eql 25 xo yo (.agg #[.int .i64 a0, .int .i64 a1]) (.agg #[.int .i64 b0, .int .i64 b1]) = some (.bool ((decide (a0 = b0 ∧ a1 = b1 ∧ True)))) := (HL.bin_struct (xs := [.int .i64 a0, .int .i64 a1]) (ys := [.int .i64 b0, .int .i64 b1]) Tryz.underlying25 (by kernel_rfl) (by kernel_rfl) (HL.eqF_int (by decide) Tryz.underlying23 rfl rfl (HL.eqF_int (by decide) Tryz.underlying3 rfl rfl HL.eqF_nil))).1
@[go_sem] theorem T.sn25 {H : HL.Heap} {xo yo : Operand} {a0 b0 : Int} {a1 b1 : Int} : HL.binV Tryz.prog (HL.full H) .neq 25 xo yo (.agg #[.int .i64 a0, .int .i64 a1]) (.agg #[.int .i64 b0, .int .i64 b1]) = some (.bool (!(decide (a0 = b0 ∧ a1 = b1 ∧ True)))) := (HL.bin_struct (xs := [.int .i64 a0, .int .i64 a1]) (ys := [.int .i64 b0, .int .i64 b1]) Tryz.underlying25 (by kernel_rfl) (by kernel_rfl) (HL.eqF_int (by decide) Tryz.underlying23 rfl rfl (HL.eqF_int (by decide) Tryz.underlying3 rfl rfl HL.eqF_nil))).2
@[go_sem] theorem T.se101 {H : HL.Heap} {xo yo : Operand} {a0 b0 : Int} {a1 b1 : ByteArray} {a2 b2 : Int} : HL.binV Tryz.prog (HL.full H) .eql 101 xo yo (.agg #[.int .i64 a0, .string a1, .int .i64 a2]) (.agg #[.int .i64 b0, .string b1, .int .i64 b2]) = some (.bool ((decide (a0 = b0 ∧ a1 = b1 ∧ a2 = b2 ∧ True)))) := (HL.bin_struct (xs := [.int .i64 a0, .string a1, .int .i64 a2]) (ys := [.int .i64 b0, .string b1, .int .i64 b2]) Tryz.underlying101 (by kernel_rfl) (by kernel_rfl) (HL.eqF_int (by decide) Tryz.underlying3 rfl rfl (HL.eqF_str (by decide) Tryz.underlying9 rfl rfl (HL.eqF_int (by decide) Tryz.underlying3 rfl rfl HL.eqF_nil)))).1
@[go_sem] theorem T.sn101 {H : HL.Heap} {xo yo : Operand} {a0 b0 : Int} {a1 b1 : ByteArray} {a2 b2 : Int} : HL.binV Tryz.prog (HL.full H) .neq 101 xo yo (.agg #[.int .i64 a0, .string a1, .int .i64 a2]) (.agg #[.int .i64 b0, .string b1, .int .i64 b2]) = some (.bool (!(decide (a0 = b0 ∧ a1 = b1 ∧ a2 = b2 ∧ True)))) := (HL.bin_struct (xs := [.int .i64 a0, .string a1, .int .i64 a2]) (ys := [.int .i64 b0, .string b1, .int .i64 b2]) Tryz.underlying101 (by kernel_rfl) (by kernel_rfl) (HL.eqF_int (by decide) Tryz.underlying3 rfl rfl (HL.eqF_str (by decide) Tryz.underlying9 rfl rfl (HL.eqF_int (by decide) Tryz.underlying3 rfl rfl HL.eqF_nil)))).2
@[go_sem] theorem T.cv2_2 {V : HL.HV} {k : IntKind} {n : Int} : HL.convV Tryz.prog V 2 2 (.int k n) = some (.int .i64 (IntKind.i64.wrap n)) := HL.conv_int Tryz.underlying2 Tryz.underlying2
@[go_sem] theorem T.cv2_3 {V : HL.HV} {k : IntKind} {n : Int} : HL.convV Tryz.prog V 2 3 (.int k n) = some (.int .i64 (IntKind.i64.wrap n)) := HL.conv_int Tryz.underlying2 Tryz.underlying3
@[go_sem] theorem T.cv2_5 {V : HL.HV} {k : IntKind} {n : Int} : HL.convV Tryz.prog V 2 5 (.int k n) = some (.int .u8 (IntKind.u8.wrap n)) := HL.conv_int Tryz.underlying2 Tryz.underlying5
@[go_sem] theorem T.cv2_6 {V : HL.HV} {k : IntKind} {n : Int} : HL.convV Tryz.prog V 2 6 (.int k n) = some (.int .u8 (IntKind.u8.wrap n)) := HL.conv_int Tryz.underlying2 Tryz.underlying6
@[go_sem] theorem T.cv2_12 {V : HL.HV} {k : IntKind} {n : Int} : HL.convV Tryz.prog V 2 12 (.int k n) = some (.int .u64 (IntKind.u64.wrap n)) := HL.conv_int Tryz.underlying2 Tryz.underlying12
@[go_sem] theorem T.cv2_21 {V : HL.HV} {k : IntKind} {n : Int} : HL.convV Tryz.prog V 2 21 (.int k n) = some (.int .i32 (IntKind.i32.wrap n)) := HL.conv_int Tryz.underlying2 Tryz.underlying21
@[go_sem] theorem T.cv2_23 {V : HL.HV} {k : IntKind} {n : Int} : HL.convV Tryz.prog V 2 23 (.int k n) = some (.int .i64 (IntKind.i64.wrap n)) := HL.conv_int Tryz.underlying2 Tryz.underlying23
@[go_sem] theorem T.cv2_46 {V : HL.HV} {k : IntKind} {n : Int} : HL.convV Tryz.prog V 2 46 (.int k n) = some (.int .u64 (IntKind.u64.wrap n)) := HL.conv_int Tryz.underlying2 Tryz.underlying46
@[go_sem] theorem T.cv2_53 {V : HL.HV} {k : IntKind} {n : Int} : HL.convV Tryz.prog V 2 53 (.int k n) = some (.int .u8 (IntKind.u8.wrap n)) := HL.conv_int Tryz.underlying2 Tryz.underlying53
@[go_sem] theorem T.cv2_126 {V : HL.HV} {k : IntKind} {n : Int} : HL.convV Tryz.prog V 2 126 (.int k n) = some (.int .u64 (IntKind.u64.wrap n)) := HL.conv_int Tryz.underlying2 Tryz.underlying126
@[go_sem] theorem T.cv2_138 {V : HL.HV} {k : IntKind} {n : Int} : HL.convV Tryz.prog V 2 138 (.int k n) = some (.int .u64 (IntKind.u64.wrap n)) := HL.conv_int Tryz.underlying2 Tryz.underlying138
@[go_sem] theorem T.cv2_141 {V : HL.HV} {k : IntKind} {n : Int} : HL.convV Tryz.prog V 2 141 (.int k n) = some (.int .u32 (IntKind.u32.wrap n)) := HL.conv_int Tryz.underlying2 Tryz.underlying141
@[go_sem] theorem T.cv2_163 {V : HL.HV} {k : IntKind} {n : Int} : HL.convV Tryz.prog V 2 163 (.int k n) = some (.int .u8 (IntKind.u8.wrap n)) := HL.conv_int Tryz.underlying2 Tryz.underlying163
@[go_sem] theorem T.cv2_166 {V : HL.HV} {k : IntKind} {n : Int} : HL.convV Tryz.prog V 2 166 (.int k n) = some (.int .i32 (IntKind.i32.wrap n)) := HL.conv_int Tryz.underlying2 Tryz.underlying166
@[go_sem] theorem T.cv2_167 {V : HL.HV} {k : IntKind} {n : Int} : HL.convV Tryz.prog V 2 167 (.int k n) = some (.int .i32 (IntKind.i32.wrap n)) := HL.conv_int Tryz.underlying2 Tryz.underlying167
@[go_sem] theorem T.cv2_176 {V : HL.HV} {k : IntKind} {n : Int} : HL.convV Tryz.prog V 2 176 (.int k n) = some (.int .u16 (IntKind.u16.wrap n)) := HL.conv_int Tryz.underlying2 Tryz.underlying176
@[go_sem] theorem T.cv2_180 {V : HL.HV} {k : IntKind} {n : Int} : HL.convV Tryz.prog V 2 180 (.int k n) = some (.int .i32 (IntKind.i32.wrap n)) := HL.conv_int Tryz.underlying2 Tryz.underlying180
@[go_sem] theorem T.cv3_2 {V : HL.HV} {k : IntKind} {n : Int} : HL.convV Tryz.prog V 3 2 (.int k n) = some (.int .i64 (IntKind.i64.wrap n)) := HL.conv_int Tryz.underlying3 Tryz.underlying2
@[go_sem] theorem T.cv3_3 {V : HL.HV} {k : IntKind} {n : Int} : HL.convV Tryz.prog V 3 3 (.int k n) = some (.int .i64 (IntKind.i64.wrap n)) := HL.conv_int Tryz.underlying3 Tryz.underlying3
@[go_sem] theorem T.cv3_5 {V : HL.HV} {k : IntKind} {n : Int} : HL.convV Tryz.prog V 3 5 (.int k n) = some (.int .u8 (IntKind.u8.wrap n)) := HL.conv_int Tryz.underlying3 Tryz.underlying5
@[go_sem] theorem T.cv3_6 {V : HL.HV} {k : IntKind} {n : Int} : HL.convV Tryz.prog V 3 6 (.int k n) = some (.int .u8 (IntKind.u8.wrap n)) := HL.conv_int Tryz.underlying3 Tryz.underlying6
@[go_sem] theorem T.cv3_12 {V : HL.HV} {k : IntKind} {n : Int} : HL.convV Tryz.prog V 3 12 (.int k n) = some (.int .u64 (IntKind.u64.wrap n)) := HL.conv_int Tryz.underlying3 Tryz.underlying12
@[go_sem] theorem T.cv3_21 {V : HL.HV} {k : IntKind} {n : Int} : HL.convV Tryz.prog V 3 21 (.int k n) = some (.int .i32 (IntKind.i32.wrap n)) := HL.conv_int Tryz.underlying3 Tryz.underlying21
@[go_sem] theorem T.cv3_23 {V : HL.HV} {k : IntKind} {n : Int} : HL.convV Tryz.prog V 3 23 (.int k n) = some (.int .i64 (IntKind.i64.wrap n)) := HL.conv_int Tryz.underlying3 Tryz.underlying23
@[go_sem] theorem T.cv3_46 {V : HL.HV} {k : IntKind} {n : Int} : HL.convV Tryz.prog V 3 46 (.int k n) = some (.int .u64 (IntKind.u64.wrap n)) := HL.conv_int Tryz.underlying3 Tryz.underlying46
@[go_sem] theorem T.cv3_53 {V : HL.HV} {k : IntKind} {n : Int} : HL.convV Tryz.prog V 3 53 (.int k n) = some (.int .u8 (IntKind.u8.wrap n)) := HL.conv_int Tryz.underlying3 Tryz.underlying53
@[go_sem] theorem T.cv3_126 {V : HL.HV} {k : IntKind} {n : Int} : HL.convV Tryz.prog V 3 126 (.int k n) = some (.int .u64 (IntKind.u64.wrap n)) := HL.conv_int Tryz.underlying3 Tryz.underlying126
@[go_sem] theorem T.cv3_138 {V : HL.HV} {k : IntKind} {n : Int} : HL.convV Tryz.prog V 3 138 (.int k n) = some (.int .u64 (IntKind.u64.wrap n)) := HL.conv_int Tryz.underlying3 Tryz.underlying138
@[go_sem] theorem T.cv3_141 {V : HL.HV} {k : IntKind} {n : Int} : HL.convV Tryz.prog V 3 141 (.int k n) = some (.int .u32 (IntKind.u32.wrap n)) := HL.conv_int Tryz.underlying3 Tryz.underlying141
@[go_sem] theorem T.cv3_163 {V : HL.HV} {k : IntKind} {n : Int} : HL.convV Tryz.prog V 3 163 (.int k n) = some (.int .u8 (IntKind.u8.wrap n)) := HL.conv_int Tryz.underlying3 Tryz.underlying163
@[go_sem] theorem T.cv3_166 {V : HL.HV} {k : IntKind} {n : Int} : HL.convV Tryz.prog V 3 166 (.int k n) = some (.int .i32 (IntKind.i32.wrap n)) := HL.conv_int Tryz.underlying3 Tryz.underlying166
@[go_sem] theorem T.cv3_167 {V : HL.HV} {k : IntKind} {n : Int} : HL.convV Tryz.prog V 3 167 (.int k n) = some (.int .i32 (IntKind.i32.wrap n)) := HL.conv_int Tryz.underlying3 Tryz.underlying167
@[go_sem] theorem T.cv3_176 {V : HL.HV} {k : IntKind} {n : Int} : HL.convV Tryz.prog V 3 176 (.int k n) = some (.int .u16 (IntKind.u16.wrap n)) := HL.conv_int Tryz.underlying3 Tryz.underlying176
@[go_sem] theorem T.cv3_180 {V : HL.HV} {k : IntKind} {n : Int} : HL.convV Tryz.prog V 3 180 (.int k n) = some (.int .i32 (IntKind.i32.wrap n)) := HL.conv_int Tryz.underlying3 Tryz.underlying180
@[go_sem] theorem T.cv5_2 {V : HL.HV} {k : IntKind} {n : Int} : HL.convV Tryz.prog V 5 2 (.int k n) = some (.int .i64 (IntKind.i64.wrap n)) := HL.conv_int Tryz.underlying5 Tryz.underlying2
@[go_sem] theorem T.cv5_3 {V : HL.HV} {k : IntKind} {n : Int} : HL.convV Tryz.prog V 5 3 (.int k n) = some (.int .i64 (IntKind.i64.wrap n)) := HL.conv_int Tryz.underlying5 Tryz.underlying3
@[go_sem] theorem T.cv5_5 {V : HL.HV} {k : IntKind} {n : Int} : HL.convV Tryz.prog V 5 5 (.int k n) = some (.int .u8 (IntKind.u8.wrap n)) := HL.conv_int Tryz.underlying5 Tryz.underlying5
@[go_sem] theorem T.cv5_6 {V : HL.HV} {k : IntKind} {n : Int} : HL.convV Tryz.prog V 5 6 (.int k n) = some (.int .u8 (IntKind.u8.wrap n)) := HL.conv_int Tryz.underlying5 Tryz.underlying6
@[go_sem] theorem T.cv5_12 {V : HL.HV} {k : IntKind} {n : Int} : HL.convV Tryz.prog V 5 12 (.int k n) = some (.int .u64 (IntKind.u64.wrap n)) := HL.conv_int Tryz.underlying5 Tryz.underlying12
@[go_sem] theorem T.cv5_21 {V : HL.HV} {k : IntKind} {n : Int} : HL.convV Tryz.prog V 5 21 (.int k n) = some (.int .i32 (IntKind.i32.wrap n)) := HL.conv_int Tryz.underlying5 Tryz.underlying21
@[go_sem] theorem T.cv5_23 {V : HL.HV} {k : IntKind} {n : Int} : HL.convV Tryz.prog V 5 23 (.int k n) = some (.int .i64 (IntKind.i64.wrap n)) := HL.conv_int Tryz.underlying5 Tryz.underlying23
@[go_sem] theorem T.cv5_46 {V : HL.HV} {k : IntKind} {n : Int} : HL.convV Tryz.prog V 5 46 (.int k n) = some (.int .u64 (IntKind.u64.wrap n)) := HL.conv_int Tryz.underlying5 Tryz.underlying46
@[go_sem] theorem T.cv5_53 {V : HL.HV} {k : IntKind} {n : Int} : HL.convV Tryz.prog V 5 53 (.int k n) = some (.int .u8 (IntKind.u8.wrap n)) := HL.conv_int Tryz.underlying5 Tryz.underlying53
@[go_sem] theorem T.cv5_126 {V : HL.HV} {k : IntKind} {n : Int} : HL.convV Tryz.prog V 5 126 (.int k n) = some (.int .u64 (IntKind.u64.wrap n)) := HL.conv_int Tryz.underlying5 Tryz.underlying126
@[go_sem] theorem T.cv5_138 {V : HL.HV} {k : IntKind} {n : Int} : HL.convV Tryz.prog V 5 138 (.int k n) = some (.int .u64 (IntKind.u64.wrap n)) := HL.conv_int Tryz.underlying5 Tryz.underlying138
@[go_sem] theorem T.cv5_141 {V : HL.HV} {k : IntKind} {n : Int} : HL.convV Tryz.prog V 5 141 (.int k n) = some (.int .u32 (IntKind.u32.wrap n)) := HL.conv_int Tryz.underlying5 Tryz.underlying141
@[go_sem] theorem T.cv5_163 {V : HL.HV} {k : IntKind} {n : Int} : HL.convV Tryz.prog V 5 163 (.int k n) = some (.int .u8 (IntKind.u8.wrap n)) := HL.conv_int Tryz.underlying5 Tryz.underlying163
@[go_sem] theorem T.cv5_166 {V : HL.HV} {k : IntKind} {n : Int} : HL.convV Tryz.prog V 5 166 (.int k n) = some (.int .i32 (IntKind.i32.wrap n)) := HL.conv_int Tryz.underlying5 Tryz.underlying166
@[go_sem] theorem T.cv5_167 {V : HL.HV} {k : IntKind} {n : Int} : HL.convV Tryz.prog V 5 167 (.int k n) = some (.int .i32 (IntKind.i32.wrap n)) := HL.conv_int Tryz.underlying5 Tryz.underlying167
@[go_sem] theorem T.cv5_176 {V : HL.HV} {k : IntKind} {n : Int} : HL.convV Tryz.prog V 5 176 (.int k n) = some (.int .u16 (IntKind.u16.wrap n)) := HL.conv_int Tryz.underlying5 Tryz.underlying176
@[go_sem] theorem T.cv5_180 {V : HL.HV} {k : IntKind} {n : Int} : HL.convV Tryz.prog V 5 180 (.int k n) = some (.int .i32 (IntKind.i32.wrap n)) := HL.conv_int Tryz.underlying5 Tryz.underlying180
@[go_sem] theorem T.cv6_2 {V : HL.HV} {k : IntKind} {n : Int} : HL.convV Tryz.prog V 6 2 (.int k n) = some (.int .i64 (IntKind.i64.wrap n)) := HL.conv_int Tryz.underlying6 Tryz.underlying2
@[go_sem] theorem T.cv6_3 {V : HL.HV} {k : IntKind} {n : Int} : HL.convV Tryz.prog V 6 3 (.int k n) = some (.int .i64 (IntKind.i64.wrap n)) := HL.conv_int Tryz.underlying6 Tryz.underlying3
@[go_sem] theorem T.cv6_5 {V : HL.HV} {k : IntKind} {n : Int} : HL.convV Tryz.prog V 6 5 (.int k n) = some (.int .u8 (IntKind.u8.wrap n)) := HL.conv_int Tryz.underlying6 Tryz.underlying5
@[go_sem] theorem T.cv6_6 {V : HL.HV} {k : IntKind} {n : Int} : HL.convV Tryz.prog V 6 6 (.int k n) = some (.int .u8 (IntKind.u8.wrap n)) := HL.conv_int Tryz.underlying6 Tryz.underlying6
@[go_sem] theorem T.cv6_12 {V : HL.HV} {k : IntKind} {n : Int} : HL.convV Tryz.prog V 6 12 (.int k n) = some (.int .u64 (IntKind.u64.wrap n)) := HL.conv_int Tryz.underlying6 Tryz.underlying12
@[go_sem] theorem T.cv6_21 {V : HL.HV} {k : IntKind} {n : Int} : HL.convV Tryz.prog V 6 21 (.int k n) = some (.int .i32 (IntKind.i32.wrap n)) := HL.conv_int Tryz.underlying6 Tryz.underlying21
@[go_sem] theorem T.cv6_23 {V : HL.HV} {k : IntKind} {n : Int} : HL.convV Tryz.prog V 6 23 (.int k n) = some (.int .i64 (IntKind.i64.wrap n)) := HL.conv_int Tryz.underlying6 Tryz.underlying23
@[go_sem] theorem T.cv6_46 {V : HL.HV} {k : IntKind} {n : Int} : HL.convV Tryz.prog V 6 46 (.int k n) = some (.int .u64 (IntKind.u64.wrap n)) := HL.conv_int Tryz.underlying6 Tryz.underlying46
@[go_sem] theorem T.cv6_53 {V : HL.HV} {k : IntKind} {n : Int} : HL.convV Tryz.prog V 6 53 (.int k n) = some (.int .u8 (IntKind.u8.wrap n)) := HL.conv_int Tryz.underlying6 Tryz.underlying53
@[go_sem] theorem T.cv6_126 {V : HL.HV} {k : IntKind} {n : Int} : HL.convV Tryz.prog V 6 126 (.int k n) = some (.int .u64 (IntKind.u64.wrap n)) := HL.conv_int Tryz.underlying6 Tryz.underlying126
@[go_sem] theorem T.cv6_138 {V : HL.HV} {k : IntKind} {n : Int} : HL.convV Tryz.prog V 6 138 (.int k n) = some (.int .u64 (IntKind.u64.wrap n)) := HL.conv_int Tryz.underlying6 Tryz.underlying138
@[go_sem] theorem T.cv6_141 {V : HL.HV} {k : IntKind} {n : Int} : HL.convV Tryz.prog V 6 141 (.int k n) = some (.int .u32 (IntKind.u32.wrap n)) := HL.conv_int Tryz.underlying6 Tryz.underlying141
@[go_sem] theorem T.cv6_163 {V : HL.HV} {k : IntKind} {n : Int} : HL.convV Tryz.prog V 6 163 (.int k n) = some (.int .u8 (IntKind.u8.wrap n)) := HL.conv_int Tryz.underlying6 Tryz.underlying163
@[go_sem] theorem T.cv6_166 {V : HL.HV} {k : IntKind} {n : Int} : HL.convV Tryz.prog V 6 166 (.int k n) = some (.int .i32 (IntKind.i32.wrap n)) := HL.conv_int Tryz.underlying6 Tryz.underlying166
@[go_sem] theorem T.cv6_167 {V : HL.HV} {k : IntKind} {n : Int} : HL.convV Tryz.prog V 6 167 (.int k n) = some (.int .i32 (IntKind.i32.wrap n)) := HL.conv_int Tryz.underlying6 Tryz.underlying167
@[go_sem] theorem T.cv6_176 {V : HL.HV} {k : IntKind} {n : Int} : HL.convV Tryz.prog V 6 176 (.int k n) = some (.int .u16 (IntKind.u16.wrap n)) := HL.conv_int Tryz.underlying6 Tryz.underlying176
@[go_sem] theorem T.cv6_180 {V : HL.HV} {k : IntKind} {n : Int} : HL.convV Tryz.prog V 6 180 (.int k n) = some (.int .i32 (IntKind.i32.wrap n)) := HL.conv_int Tryz.underlying6 Tryz.underlying180
@[go_sem] theorem T.cv12_2 {V : HL.HV} {k : IntKind} {n : Int} : HL.convV Tryz.prog V 12 2 (.int k n) = some (.int .i64 (IntKind.i64.wrap n)) := HL.conv_int Tryz.underlying12 Tryz.underlying2
@[go_sem] theorem T.cv12_3 {V : HL.HV} {k : IntKind} {n : Int} : HL.convV Tryz.prog V 12 3 (.int k n) = some (.int .i64 (IntKind.i64.wrap n)) := HL.conv_int Tryz.underlying12 Tryz.underlying3
@[go_sem] theorem T.cv12_5 {V : HL.HV} {k : IntKind} {n : Int} : HL.convV Tryz.prog V 12 5 (.int k n) = some (.int .u8 (IntKind.u8.wrap n)) := HL.conv_int Tryz.underlying12 Tryz.underlying5
@[go_sem] theorem T.cv12_6 {V : HL.HV} {k : IntKind} {n : Int} : HL.convV Tryz.prog V 12 6 (.int k n) = some (.int .u8 (IntKind.u8.wrap n)) := HL.conv_int Tryz.underlying12 Tryz.underlying6
@[go_sem] theorem T.cv12_12 {V : HL.HV} {k : IntKind} {n : Int} : HL.convV Tryz.prog V 12 12 (.int k n) = some (.int .u64 (IntKind.u64.wrap n)) := HL.conv_int Tryz.underlying12 Tryz.underlying12
@[go_sem] theorem T.cv12_21 {V : HL.HV} {k : IntKind} {n : Int} : HL.convV Tryz.prog V 12 21 (.int k n) = some (.int .i32 (IntKind.i32.wrap n)) := HL.conv_int Tryz.underlying12 Tryz.underlying21
@[go_sem] theorem T.cv12_23 {V : HL.HV} {k : IntKind} {n : Int} : HL.convV Tryz.prog V 12 23 (.int k n) = some (.int .i64 (IntKind.i64.wrap n)) := HL.conv_int Tryz.underlying12 Tryz.underlying23
@[go_sem] theorem T.cv12_46 {V : HL.HV} {k : IntKind} {n : Int} : HL.convV Tryz.prog V 12 46 (.int k n) = some (.int .u64 (IntKind.u64.wrap n)) := HL.conv_int Tryz.underlying12 Tryz.underlying46
@[go_sem] theorem T.cv12_53 {V : HL.HV} {k : IntKind} {n : Int} : HL.convV Tryz.prog V 12 53 (.int k n) = some (.int .u8 (IntKind.u8.wrap n)) := HL.conv_int Tryz.underlying12 Tryz.underlying53
@[go_sem] theorem T.cv12_126 {V : HL.HV} {k : IntKind} {n : Int} : HL.convV Tryz.prog V 12 126 (.int k n) = some (.int .u64 (IntKind.u64.wrap n)) := HL.conv_int Tryz.underlying12 Tryz.underlying126
@[go_sem] theorem T.cv12_138 {V : HL.HV} {k : IntKind} {n : Int} : HL.convV Tryz.prog V 12 138 (.int k n) = some (.int .u64 (IntKind.u64.wrap n)) := HL.conv_int Tryz.underlying12 Tryz.underlying138
@[go_sem] theorem T.cv12_141 {V : HL.HV} {k : IntKind} {n : Int} : HL.convV Tryz.prog V 12 141 (.int k n) = some (.int .u32 (IntKind.u32.wrap n)) := HL.conv_int Tryz.underlying12 Tryz.underlying141
@[go_sem] theorem T.cv12_163 {V : HL.HV} {k : IntKind} {n : Int} : HL.convV Tryz.prog V 12 163 (.int k n) = some (.int .u8 (IntKind.u8.wrap n)) := HL.conv_int Tryz.underlying12 Tryz.underlying163
@[go_sem] theorem T.cv12_166 {V : HL.HV} {k : IntKind} {n : Int} : HL.convV Tryz.prog V 12 166 (.int k n) = some (.int .i32 (IntKind.i32.wrap n)) := HL.conv_int Tryz.underlying12 Tryz.underlying166
@[go_sem] theorem T.cv12_167 {V : HL.HV} {k : IntKind} {n : Int} : HL.convV Tryz.prog V 12 167 (.int k n) = some (.int .i32 (IntKind.i32.wrap n)) := HL.conv_int Tryz.underlying12 Tryz.underlying167
@[go_sem] theorem T.cv12_176 {V : HL.HV} {k : IntKind} {n : Int} : HL.convV Tryz.prog V 12 176 (.int k n) = some (.int .u16 (IntKind.u16.wrap n)) := HL.conv_int Tryz.underlying12 Tryz.underlying176
@[go_sem] theorem T.cv12_180 {V : HL.HV} {k : IntKind} {n : Int} : HL.convV Tryz.prog V 12 180 (.int k n) = some (.int .i32 (IntKind.i32.wrap n)) := HL.conv_int Tryz.underlying12 Tryz.underlying180
@[go_sem] theorem T.cv21_2 {V : HL.HV} {k : IntKind} {n : Int} : HL.convV Tryz.prog V 21 2 (.int k n) = some (.int .i64 (IntKind.i64.wrap n)) := HL.conv_int Tryz.underlying21 Tryz.underlying2
@[go_sem] theorem T.cv21_3 {V : HL.HV} {k : IntKind} {n : Int} : HL.convV Tryz.prog V 21 3 (.int k n) = some (.int .i64 (IntKind.i64.wrap n)) := HL.conv_int Tryz.underlying21 Tryz.underlying3
@[go_sem] theorem T.cv21_5 {V : HL.HV} {k : IntKind} {n : Int} : HL.convV Tryz.prog V 21 5 (.int k n) = some (.int .u8 (IntKind.u8.wrap n)) := HL.conv_int Tryz.underlying21 Tryz.underlying5
@[go_sem] theorem T.cv21_6 {V : HL.HV} {k : IntKind} {n : Int} : HL.convV Tryz.prog V 21 6 (.int k n) = some (.int .u8 (IntKind.u8.wrap n)) := HL.conv_int Tryz.underlying21 Tryz.underlying6
@[go_sem] theorem T.cv21_12 {V : HL.HV} {k : IntKind} {n : Int} : HL.convV Tryz.prog V 21 12 (.int k n) = some (.int .u64 (IntKind.u64.wrap n)) := HL.conv_int Tryz.underlying21 Tryz.underlying12
@[go_sem] theorem T.cv21_21 {V : HL.HV} {k : IntKind} {n : Int} : HL.convV Tryz.prog V 21 21 (.int k n) = some (.int .i32 (IntKind.i32.wrap n)) := HL.conv_int Tryz.underlying21 Tryz.underlying21
@[go_sem] theorem T.cv21_23 {V : HL.HV} {k : IntKind} {n : Int} : HL.convV Tryz.prog V 21 23 (.int k n) = some (.int .i64 (IntKind.i64.wrap n)) := HL.conv_int Tryz.underlying21 Tryz.underlying23
@[go_sem] theorem T.cv21_46 {V : HL.HV} {k : IntKind} {n : Int} : HL.convV Tryz.prog V 21 46 (.int k n) = some (.int .u64 (IntKind.u64.wrap n)) := HL.conv_int Tryz.underlying21 Tryz.underlying46
@[go_sem] theorem T.cv21_53 {V : HL.HV} {k : IntKind} {n : Int} : HL.convV Tryz.prog V 21 53 (.int k n) = some (.int .u8 (IntKind.u8.wrap n)) := HL.conv_int Tryz.underlying21 Tryz.underlying53
@[go_sem] theorem T.cv21_126 {V : HL.HV} {k : IntKind} {n : Int} : HL.convV Tryz.prog V 21 126 (.int k n) = some (.int .u64 (IntKind.u64.wrap n)) := HL.conv_int Tryz.underlying21 Tryz.underlying126
@[go_sem] theorem T.cv21_138 {V : HL.HV} {k : IntKind} {n : Int} : HL.convV Tryz.prog V 21 138 (.int k n) = some (.int .u64 (IntKind.u64.wrap n)) := HL.conv_int Tryz.underlying21 Tryz.underlying138
@[go_sem] theorem T.cv21_141 {V : HL.HV} {k : IntKind} {n : Int} : HL.convV Tryz.prog V 21 141 (.int k n) = some (.int .u32 (IntKind.u32.wrap n)) := HL.conv_int Tryz.underlying21 Tryz.underlying141
@[go_sem] theorem T.cv21_163 {V : HL.HV} {k : IntKind} {n : Int} : HL.convV Tryz.prog V 21 163 (.int k n) = some (.int .u8 (IntKind.u8.wrap n)) := HL.conv_int Tryz.underlying21 Tryz.underlying163
@[go_sem] theorem T.cv21_166 {V : HL.HV} {k : IntKind} {n : Int} : HL.convV Tryz.prog V 21 166 (.int k n) = some (.int .i32 (IntKind.i32.wrap n)) := HL.conv_int Tryz.underlying21 Tryz.underlying166
@[go_sem] theorem T.cv21_167 {V : HL.HV} {k : IntKind} {n : Int} : HL.convV Tryz.prog V 21 167 (.int k n) = some (.int .i32 (IntKind.i32.wrap n)) := HL.conv_int Tryz.underlying21 Tryz.underlying167
@[go_sem] theorem T.cv21_176 {V : HL.HV} {k : IntKind} {n : Int} : HL.convV Tryz.prog V 21 176 (.int k n) = some (.int .u16 (IntKind.u16.wrap n)) := HL.conv_int Tryz.underlying21 Tryz.underlying176
@[go_sem] theorem T.cv21_180 {V : HL.HV} {k : IntKind} {n : Int} : HL.convV Tryz.prog V 21 180 (.int k n) = some (.int .i32 (IntKind.i32.wrap n)) := HL.conv_int Tryz.underlying21 Tryz.underlying180
@[go_sem] theorem T.cv23_2 {V : HL.HV} {k : IntKind} {n : Int} : HL.convV Tryz.prog V 23 2 (.int k n) = some (.int .i64 (IntKind.i64.wrap n)) := HL.conv_int Tryz.underlying23 Tryz.underlying2
@[go_sem] theorem T.cv23_3 {V : HL.HV} {k : IntKind} {n : Int} : HL.convV Tryz.prog V 23 3 (.int k n) = some (.int .i64 (IntKind.i64.wrap n)) := HL.conv_int Tryz.underlying23 Tryz.underlying3
@[go_sem] theorem T.cv23_5 {V : HL.HV} {k : IntKind} {n : Int} : HL.convV Tryz.prog V 23 5 (.int k n) = some (.int .u8 (IntKind.u8.wrap n)) := HL.conv_int Tryz.underlying23 Tryz.underlying5
@[go_sem] theorem T.cv23_6 {V : HL.HV} {k : IntKind} {n : Int} : HL.convV Tryz.prog V 23 6 (.int k n) = some (.int .u8 (IntKind.u8.wrap n)) := HL.conv_int Tryz.underlying23 Tryz.underlying6
@[go_sem] theorem T.cv23_12 {V : HL.HV} {k : IntKind} {n : Int} : HL.convV Tryz.prog V 23 12 (.int k n) = some (.int .u64 (IntKind.u64.wrap n)) := HL.conv_int Tryz.underlying23 Tryz.underlying12
@[go_sem] theorem T.cv23_21 {V : HL.HV} {k : IntKind} {n : Int} : HL.convV Tryz.prog V 23 21 (.int k n) = some (.int .i32 (IntKind.i32.wrap n)) := HL.conv_int Tryz.underlying23 Tryz.underlying21
@[go_sem] theorem T.cv23_23 {V : HL.HV} {k : IntKind} {n : Int} : HL.convV Tryz.prog V 23 23 (.int k n) = some (.int .i64 (IntKind.i64.wrap n)) := HL.conv_int Tryz.underlying23 Tryz.underlying23
@[go_sem] theorem T.cv23_46 {V : HL.HV} {k : IntKind} {n : Int} : HL.convV Tryz.prog V 23 46 (.int k n) = some (.int .u64 (IntKind.u64.wrap n)) := HL.conv_int Tryz.underlying23 Tryz.underlying46
@[go_sem] theorem T.cv23_53 {V : HL.HV} {k : IntKind} {n : Int} : HL.convV Tryz.prog V 23 53 (.int k n) = some (.int .u8 (IntKind.u8.wrap n)) := HL.conv_int Tryz.underlying23 Tryz.underlying53
@[go_sem] theorem T.cv23_126 {V : HL.HV} {k : IntKind} {n : Int} : HL.convV Tryz.prog V 23 126 (.int k n) = some (.int .u64 (IntKind.u64.wrap n)) := HL.conv_int Tryz.underlying23 Tryz.underlying126
@[go_sem] theorem T.cv23_138 {V : HL.HV} {k : IntKind} {n : Int} : HL.convV Tryz.prog V 23 138 (.int k n) = some (.int .u64 (IntKind.u64.wrap n)) := HL.conv_int Tryz.underlying23 Tryz.underlying138
@[go_sem] theorem T.cv23_141 {V : HL.HV} {k : IntKind} {n : Int} : HL.convV Tryz.prog V 23 141 (.int k n) = some (.int .u32 (IntKind.u32.wrap n)) := HL.conv_int Tryz.underlying23 Tryz.underlying141
@[go_sem] theorem T.cv23_163 {V : HL.HV} {k : IntKind} {n : Int} : HL.convV Tryz.prog V 23 163 (.int k n) = some (.int .u8 (IntKind.u8.wrap n)) := HL.conv_int Tryz.underlying23 Tryz.underlying163
@[go_sem] theorem T.cv23_166 {V : HL.HV} {k : IntKind} {n : Int} : HL.convV Tryz.prog V 23 166 (.int k n) = some (.int .i32 (IntKind.i32.wrap n)) := HL.conv_int Tryz.underlying23 Tryz.underlying166
@[go_sem] theorem T.cv23_167 {V : HL.HV} {k : IntKind} {n : Int} : HL.convV Tryz.prog V 23 167 (.int k n) = some (.int .i32 (IntKind.i32.wrap n)) := HL.conv_int Tryz.underlying23 Tryz.underlying167
@[go_sem] theorem T.cv23_176 {V : HL.HV} {k : IntKind} {n : Int} : HL.convV Tryz.prog V 23 176 (.int k n) = some (.int .u16 (IntKind.u16.wrap n)) := HL.conv_int Tryz.underlying23 Tryz.underlying176
@[go_sem] theorem T.cv23_180 {V : HL.HV} {k : IntKind} {n : Int} : HL.convV Tryz.prog V 23 180 (.int k n) = some (.int .i32 (IntKind.i32.wrap n)) := HL.conv_int Tryz.underlying23 Tryz.underlying180
@[go_sem] theorem T.cv46_2 {V : HL.HV} {k : IntKind} {n : Int} : HL.convV Tryz.prog V 46 2 (.int k n) = some (.int .i64 (IntKind.i64.wrap n)) := HL.conv_int Tryz.underlying46 Tryz.underlying2
@[go_sem] theorem T.cv46_3 {V : HL.HV} {k : IntKind} {n : Int} : HL.convV Tryz.prog V 46 3 (.int k n) = some (.int .i64 (IntKind.i64.wrap n)) := HL.conv_int Tryz.underlying46 Tryz.underlying3
@[go_sem] theorem T.cv46_5 {V : HL.HV} {k : IntKind} {n : Int} : HL.convV Tryz.prog V 46 5 (.int k n) = some (.int .u8 (IntKind.u8.wrap n)) := HL.conv_int Tryz.underlying46 Tryz.underlying5
@[go_sem] theorem T.cv46_6 {V : HL.HV} {k : IntKind} {n : Int} : HL.convV Tryz.prog V 46 6 (.int k n) = some (.int .u8 (IntKind.u8.wrap n)) := HL.conv_int Tryz.underlying46 Tryz.underlying6
@[go_sem] theorem T.cv46_12 {V : HL.HV} {k : IntKind} {n : Int} : HL.convV Tryz.prog V 46 12 (.int k n) = some (.int .u64 (IntKind.u64.wrap n)) := HL.conv_int Tryz.underlying46 Tryz.underlying12
@[go_sem] theorem T.cv46_21 {V : HL.HV} {k : IntKind} {n : Int} : HL.convV Tryz.prog V 46 21 (.int k n) = some (.int .i32 (IntKind.i32.wrap n)) := HL.conv_int Tryz.underlying46 Tryz.underlying21
@[go_sem] theorem T.cv46_23 {V : HL.HV} {k : IntKind} {n : Int} : HL.convV Tryz.prog V 46 23 (.int k n) = some (.int .i64 (IntKind.i64.wrap n)) := HL.conv_int Tryz.underlying46 Tryz.underlying23
@[go_sem] theorem T.cv46_46 {V : HL.HV} {k : IntKind} {n : Int} : HL.convV Tryz.prog V 46 46 (.int k n) = some (.int .u64 (IntKind.u64.wrap n)) := HL.conv_int Tryz.underlying46 Tryz.underlying46
@[go_sem] theorem T.cv46_53 {V : HL.HV} {k : IntKind} {n : Int} : HL.convV Tryz.prog V 46 53 (.int k n) = some (.int .u8 (IntKind.u8.wrap n)) := HL.conv_int Tryz.underlying46 Tryz.underlying53
@[go_sem] theorem T.cv46_126 {V : HL.HV} {k : IntKind} {n : Int} : HL.convV Tryz.prog V 46 126 (.int k n) = some (.int .u64 (IntKind.u64.wrap n)) := HL.conv_int Tryz.underlying46 Tryz.underlying126
@[go_sem] theorem T.cv46_138 {V : HL.HV} {k : IntKind} {n : Int} : HL.convV Tryz.prog V 46 138 (.int k n) = some (.int .u64 (IntKind.u64.wrap n)) := HL.conv_int Tryz.underlying46 Tryz.underlying138
@[go_sem] theorem T.cv46_141 {V : HL.HV} {k : IntKind} {n : Int} : HL.convV Tryz.prog V 46 141 (.int k n) = some (.int .u32 (IntKind.u32.wrap n)) := HL.conv_int Tryz.underlying46 Tryz.underlying141
@[go_sem] theorem T.cv46_163 {V : HL.HV} {k : IntKind} {n : Int} : HL.convV Tryz.prog V 46 163 (.int k n) = some (.int .u8 (IntKind.u8.wrap n)) := HL.conv_int Tryz.underlying46 Tryz.underlying163
@[go_sem] theorem T.cv46_166 {V : HL.HV} {k : IntKind} {n : Int} : HL.convV Tryz.prog V 46 166 (.int k n) = some (.int .i32 (IntKind.i32.wrap n)) := HL.conv_int Tryz.underlying46 Tryz.underlying166
@[go_sem] theorem T.cv46_167 {V : HL.HV} {k : IntKind} {n : Int} : HL.convV Tryz.prog V 46 167 (.int k n) = some (.int .i32 (IntKind.i32.wrap n)) := HL.conv_int Tryz.underlying46 Tryz.underlying167
@[go_sem] theorem T.cv46_176 {V : HL.HV} {k : IntKind} {n : Int} : HL.convV Tryz.prog V 46 176 (.int k n) = some (.int .u16 (IntKind.u16.wrap n)) := HL.conv_int Tryz.underlying46 Tryz.underlying176
@[go_sem] theorem T.cv46_180 {V : HL.HV} {k : IntKind} {n : Int} : HL.convV Tryz.prog V 46 180 (.int k n) = some (.int .i32 (IntKind.i32.wrap n)) := HL.conv_int Tryz.underlying46 Tryz.underlying180
@[go_sem] theorem T.cv53_2 {V : HL.HV} {k : IntKind} {n : Int} : HL.convV Tryz.prog V 53 2 (.int k n) = some (.int .i64 (IntKind.i64.wrap n)) := HL.conv_int Tryz.underlying53 Tryz.underlying2
@[go_sem] theorem T.cv53_3 {V : HL.HV} {k : IntKind} {n : Int} : HL.convV Tryz.prog V 53 3 (.int k n) = some (.int .i64 (IntKind.i64.wrap n)) := HL.conv_int Tryz.underlying53 Tryz.underlying3
@[go_sem] theorem T.cv53_5 {V : HL.HV} {k : IntKind} {n : Int} : HL.convV Tryz.prog V 53 5 (.int k n) = some (.int .u8 (IntKind.u8.wrap n)) := HL.conv_int Tryz.underlying53 Tryz.underlying5
@[go_sem] theorem T.cv53_6 {V : HL.HV} {k : IntKind} {n : Int} : HL.convV Tryz.prog V 53 6 (.int k n) = some (.int .u8 (IntKind.u8.wrap n)) := HL.conv_int Tryz.underlying53 Tryz.underlying6
@[go_sem] theorem T.cv53_12 {V : HL.HV} {k : IntKind} {n : Int} : HL.convV Tryz.prog V 53 12 (.int k n) = some (.int .u64 (IntKind.u64.wrap n)) := HL.conv_int Tryz.underlying53 Tryz.underlying12
@[go_sem] theorem T.cv53_21 {V : HL.HV} {k : IntKind} {n : Int} : HL.convV Tryz.prog V 53 21 (.int k n) = some (.int .i32 (IntKind.i32.wrap n)) := HL.conv_int Tryz.underlying53 Tryz.underlying21
@[go_sem] theorem T.cv53_23 {V : HL.HV} {k : IntKind} {n : Int} : HL.convV Tryz.prog V 53 23 (.int k n) = some (.int .i64 (IntKind.i64.wrap n)) := HL.conv_int Tryz.underlying53 Tryz.underlying23
@[go_sem] theorem T.cv53_46 {V : HL.HV} {k : IntKind} {n : Int} : HL.convV Tryz.prog V 53 46 (.int k n) = some (.int .u64 (IntKind.u64.wrap n)) := HL.conv_int Tryz.underlying53 Tryz.underlying46
@[go_sem] theorem T.cv53_53 {V : HL.HV} {k : IntKind} {n : Int} : HL.convV Tryz.prog V 53 53 (.int k n) = some (.int .u8 (IntKind.u8.wrap n)) := HL.conv_int Tryz.underlying53 Tryz.underlying53
@[go_sem] theorem T.cv53_126 {V : HL.HV} {k : IntKind} {n : Int} : HL.convV Tryz.prog V 53 126 (.int k n) = some (.int .u64 (IntKind.u64.wrap n)) := HL.conv_int Tryz.underlying53 Tryz.underlying126
@[go_sem] theorem T.cv53_138 {V : HL.HV} {k : IntKind} {n : Int} : HL.convV Tryz.prog V 53 138 (.int k n) = some (.int .u64 (IntKind.u64.wrap n)) := HL.conv_int Tryz.underlying53 Tryz.underlying138
@[go_sem] theorem T.cv53_141 {V : HL.HV} {k : IntKind} {n : Int} : HL.convV Tryz.prog V 53 141 (.int k n) = some (.int .u32 (IntKind.u32.wrap n)) := HL.conv_int Tryz.underlying53 Tryz.underlying141
@[go_sem] theorem T.cv53_163 {V : HL.HV} {k : IntKind} {n : Int} : HL.convV Tryz.prog V 53 163 (.int k n) = some (.int .u8 (IntKind.u8.wrap n)) := HL.conv_int Tryz.underlying53 Tryz.underlying163
@[go_sem] theorem T.cv53_166 {V : HL.HV} {k : IntKind} {n : Int} : HL.convV Tryz.prog V 53 166 (.int k n) = some (.int .i32 (IntKind.i32.wrap n)) := HL.conv_int Tryz.underlying53 Tryz.underlying166
@[go_sem] theorem T.cv53_167 {V : HL.HV} {k : IntKind} {n : Int} : HL.convV Tryz.prog V 53 167 (.int k n) = some (.int .i32 (IntKind.i32.wrap n)) := HL.conv_int Tryz.underlying53 Tryz.underlying167
@[go_sem] theorem T.cv53_176 {V : HL.HV} {k : IntKind} {n : Int} : HL.convV Tryz.prog V 53 176 (.int k n) = some (.int .u16 (IntKind.u16.wrap n)) := HL.conv_int Tryz.underlying53 Tryz.underlying176
@[go_sem] theorem T.cv53_180 {V : HL.HV} {k : IntKind} {n : Int} : HL.convV Tryz.prog V 53 180 (.int k n) = some (.int .i32 (IntKind.i32.wrap n)) := HL.conv_int Tryz.underlying53 Tryz.underlying180
@[go_sem] theorem T.cv126_2 {V : HL.HV} {k : IntKind} {n : Int} : HL.convV Tryz.prog V 126 2 (.int k n) = some (.int .i64 (IntKind.i64.wrap n)) := HL.conv_int Tryz.underlying126 Tryz.underlying2
@[go_sem] theorem T.cv126_3 {V : HL.HV} {k : IntKind} {n : Int} : HL.convV Tryz.prog V 126 3 (.int k n) = some (.int .i64 (IntKind.i64.wrap n)) := HL.conv_int Tryz.underlying126 Tryz.underlying3
@[go_sem] theorem T.cv126_5 {V : HL.HV} {k : IntKind} {n : Int} : HL.convV Tryz.prog V 126 5 (.int k n) = some (.int .u8 (IntKind.u8.wrap n)) := HL.conv_int Tryz.underlying126 Tryz.underlying5
@[go_sem] theorem T.cv126_6 {V : HL.HV} {k : IntKind} {n : Int} : HL.convV Tryz.prog V 126 6 (.int k n) = some (.int .u8 (IntKind.u8.wrap n)) := HL.conv_int Tryz.underlying126 Tryz.underlying6
@[go_sem] theorem T.cv126_12 {V : HL.HV} {k : IntKind} {n : Int} : HL.convV Tryz.prog V 126 12 (.int k n) = some (.int .u64 (IntKind.u64.wrap n)) := HL.conv_int Tryz.underlying126 Tryz.underlying12
@[go_sem] theorem T.cv126_21 {V : HL.HV} {k : IntKind} {n : Int} : HL.convV Tryz.prog V 126 21 (.int k n) = some (.int .i32 (IntKind.i32.wrap n)) := HL.conv_int Tryz.underlying126 Tryz.underlying21
@[go_sem] theorem T.cv126_23 {V : HL.HV} {k : IntKind} {n : Int} : HL.convV Tryz.prog V 126 23 (.int k n) = some (.int .i64 (IntKind.i64.wrap n)) := HL.conv_int Tryz.underlying126 Tryz.underlying23
@[go_sem] theorem T.cv126_46 {V : HL.HV} {k : IntKind} {n : Int} : HL.convV Tryz.prog V 126 46 (.int k n) = some (.int .u64 (IntKind.u64.wrap n)) := HL.conv_int Tryz.underlying126 Tryz.underlying46
@[go_sem] theorem T.cv126_53 {V : HL.HV} {k : IntKind} {n : Int} : HL.convV Tryz.prog V 126 53 (.int k n) = some (.int .u8 (IntKind.u8.wrap n)) := HL.conv_int Tryz.underlying126 Tryz.underlying53
@[go_sem] theorem T.cv126_126 {V : HL.HV} {k : IntKind} {n : Int} : HL.convV Tryz.prog V 126 126 (.int k n) = some (.int .u64 (IntKind.u64.wrap n)) := HL.conv_int Tryz.underlying126 Tryz.underlying126
@[go_sem] theorem T.cv126_138 {V : HL.HV} {k : IntKind} {n : Int} : HL.convV Tryz.prog V 126 138 (.int k n) = some (.int .u64 (IntKind.u64.wrap n)) := HL.conv_int Tryz.underlying126 Tryz.underlying138
@[go_sem] theorem T.cv126_141 {V : HL.HV} {k : IntKind} {n : Int} : HL.convV Tryz.prog V 126 141 (.int k n) = some (.int .u32 (IntKind.u32.wrap n)) := HL.conv_int Tryz.underlying126 Tryz.underlying141
@[go_sem] theorem T.cv126_163 {V : HL.HV} {k : IntKind} {n : Int} : HL.convV Tryz.prog V 126 163 (.int k n) = some (.int .u8 (IntKind.u8.wrap n)) := HL.conv_int Tryz.underlying126 Tryz.underlying163
@[go_sem] theorem T.cv126_166 {V : HL.HV} {k : IntKind} {n : Int} : HL.convV Tryz.prog V 126 166 (.int k n) = some (.int .i32 (IntKind.i32.wrap n)) := HL.conv_int Tryz.underlying126 Tryz.underlying166
@[go_sem] theorem T.cv126_167 {V : HL.HV} {k : IntKind} {n : Int} : HL.convV Tryz.prog V 126 167 (.int k n) = some (.int .i32 (IntKind.i32.wrap n)) := HL.conv_int Tryz.underlying126 Tryz.underlying167
@[go_sem] theorem T.cv126_176 {V : HL.HV} {k : IntKind} {n : Int} : HL.convV Tryz.prog V 126 176 (.int k n) = some (.int .u16 (IntKind.u16.wrap n)) := HL.conv_int Tryz.underlying126 Tryz.underlying176
@[go_sem] theorem T.cv126_180 {V : HL.HV} {k : IntKind} {n : Int} : HL.convV Tryz.prog V 126 180 (.int k n) = some (.int .i32 (IntKind.i32.wrap n)) := HL.conv_int Tryz.underlying126 Tryz.underlying180
@[go_sem] theorem T.cv138_2 {V : HL.HV} {k : IntKind} {n : Int} : HL.convV Tryz.prog V 138 2 (.int k n) = some (.int .i64 (IntKind.i64.wrap n)) := HL.conv_int Tryz.underlying138 Tryz.underlying2
@[go_sem] theorem T.cv138_3 {V : HL.HV} {k : IntKind} {n : Int} : HL.convV Tryz.prog V 138 3 (.int k n) = some (.int .i64 (IntKind.i64.wrap n)) := HL.conv_int Tryz.underlying138 Tryz.underlying3
@[go_sem] theorem T.cv138_5 {V : HL.HV} {k : IntKind} {n : Int} : HL.convV Tryz.prog V 138 5 (.int k n) = some (.int .u8 (IntKind.u8.wrap n)) := HL.conv_int Tryz.underlying138 Tryz.underlying5
@[go_sem] theorem T.cv138_6 {V : HL.HV} {k : IntKind} {n : Int} : HL.convV Tryz.prog V 138 6 (.int k n) = some (.int .u8 (IntKind.u8.wrap n)) := HL.conv_int Tryz.underlying138 Tryz.underlying6
@[go_sem] theorem T.cv138_12 {V : HL.HV} {k : IntKind} {n : Int} : HL.convV Tryz.prog V 138 12 (.int k n) = some (.int .u64 (IntKind.u64.wrap n)) := HL.conv_int Tryz.underlying138 Tryz.underlying12
@[go_sem] theorem T.cv138_21 {V : HL.HV} {k : IntKind} {n : Int} : HL.convV Tryz.prog V 138 21 (.int k n) = some (.int .i32 (IntKind.i32.wrap n)) := HL.conv_int Tryz.underlying138 Tryz.underlying21
@[go_sem] theorem T.cv138_23 {V : HL.HV} {k : IntKind} {n : Int} : HL.convV Tryz.prog V 138 23 (.int k n) = some (.int .i64 (IntKind.i64.wrap n)) := HL.conv_int Tryz.underlying138 Tryz.underlying23
@[go_sem] theorem T.cv138_46 {V : HL.HV} {k : IntKind} {n : Int} : HL.convV Tryz.prog V 138 46 (.int k n) = some (.int .u64 (IntKind.u64.wrap n)) := HL.conv_int Tryz.underlying138 Tryz.underlying46
@[go_sem] theorem T.cv138_53 {V : HL.HV} {k : IntKind} {n : Int} : HL.convV Tryz.prog V 138 53 (.int k n) = some (.int .u8 (IntKind.u8.wrap n)) := HL.conv_int Tryz.underlying138 Tryz.underlying53
@[go_sem] theorem T.cv138_126 {V : HL.HV} {k : IntKind} {n : Int} : HL.convV Tryz.prog V 138 126 (.int k n) = some (.int .u64 (IntKind.u64.wrap n)) := HL.conv_int Tryz.underlying138 Tryz.underlying126
@[go_sem] theorem T.cv138_138 {V : HL.HV} {k : IntKind} {n : Int} : HL.convV Tryz.prog V 138 138 (.int k n) = some (.int .u64 (IntKind.u64.wrap n)) := HL.conv_int Tryz.underlying138 Tryz.underlying138
@[go_sem] theorem T.cv138_141 {V : HL.HV} {k : IntKind} {n : Int} : HL.convV Tryz.prog V 138 141 (.int k n) = some (.int .u32 (IntKind.u32.wrap n)) := HL.conv_int Tryz.underlying138 Tryz.underlying141
@[go_sem] theorem T.cv138_163 {V : HL.HV} {k : IntKind} {n : Int} : HL.convV Tryz.prog V 138 163 (.int k n) = some (.int .u8 (IntKind.u8.wrap n)) := HL.conv_int Tryz.underlying138 Tryz.underlying163
@[go_sem] theorem T.cv138_166 {V : HL.HV} {k : IntKind} {n : Int} : HL.convV Tryz.prog V 138 166 (.int k n) = some (.int .i32 (IntKind.i32.wrap n)) := HL.conv_int Tryz.underlying138 Tryz.underlying166
@[go_sem] theorem T.cv138_167 {V : HL.HV} {k : IntKind} {n : Int} : HL.convV Tryz.prog V 138 167 (.int k n) = some (.int .i32 (IntKind.i32.wrap n)) := HL.conv_int Tryz.underlying138 Tryz.underlying167
@[go_sem] theorem T.cv138_176 {V : HL.HV} {k : IntKind} {n : Int} : HL.convV Tryz.prog V 138 176 (.int k n) = some (.int .u16 (IntKind.u16.wrap n)) := HL.conv_int Tryz.underlying138 Tryz.underlying176
@[go_sem] theorem T.cv138_180 {V : HL.HV} {k : IntKind} {n : Int} : HL.convV Tryz.prog V 138 180 (.int k n) = some (.int .i32 (IntKind.i32.wrap n)) := HL.conv_int Tryz.underlying138 Tryz.underlying180
@[go_sem] theorem T.cv141_2 {V : HL.HV} {k : IntKind} {n : Int} : HL.convV Tryz.prog V 141 2 (.int k n) = some (.int .i64 (IntKind.i64.wrap n)) := HL.conv_int Tryz.underlying141 Tryz.underlying2
@[go_sem] theorem T.cv141_3 {V : HL.HV} {k : IntKind} {n : Int} : HL.convV Tryz.prog V 141 3 (.int k n) = some (.int .i64 (IntKind.i64.wrap n)) := HL.conv_int Tryz.underlying141 Tryz.underlying3
@[go_sem] theorem T.cv141_5 {V : HL.HV} {k : IntKind} {n : Int} : HL.convV Tryz.prog V 141 5 (.int k n) = some (.int .u8 (IntKind.u8.wrap n)) := HL.conv_int Tryz.underlying141 Tryz.underlying5
@[go_sem] theorem T.cv141_6 {V : HL.HV} {k : IntKind} {n : Int} : HL.convV Tryz.prog V 141 6 (.int k n) = some (.int .u8 (IntKind.u8.wrap n)) := HL.conv_int Tryz.underlying141 Tryz.underlying6
@[go_sem] theorem T.cv141_12 {V : HL.HV} {k : IntKind} {n : Int} : HL.convV Tryz.prog V 141 12 (.int k n) = some (.int .u64 (IntKind.u64.wrap n)) := HL.conv_int Tryz.underlying141 Tryz.underlying12
@[go_sem] theorem T.cv141_21 {V : HL.HV} {k : IntKind} {n : Int} : HL.convV Tryz.prog V 141 21 (.int k n) = some (.int .i32 (IntKind.i32.wrap n)) := HL.conv_int Tryz.underlying141 Tryz.underlying21
@[go_sem] theorem T.cv141_23 {V : HL.HV} {k : IntKind} {n : Int} : HL.convV Tryz.prog V 141 23 (.int k n) = some (.int .i64 (IntKind.i64.wrap n)) := HL.conv_int Tryz.underlying141 Tryz.underlying23
@[go_sem] theorem T.cv141_46 {V : HL.HV} {k : IntKind} {n : Int} : HL.convV Tryz.prog V 141 46 (.int k n) = some (.int .u64 (IntKind.u64.wrap n)) := HL.conv_int Tryz.underlying141 Tryz.underlying46
@[go_sem] theorem T.cv141_53 {V : HL.HV} {k : IntKind} {n : Int} : HL.convV Tryz.prog V 141 53 (.int k n) = some (.int .u8 (IntKind.u8.wrap n)) := HL.conv_int Tryz.underlying141 Tryz.underlying53
@[go_sem] theorem T.cv141_126 {V : HL.HV} {k : IntKind} {n : Int} : HL.convV Tryz.prog V 141 126 (.int k n) = some (.int .u64 (IntKind.u64.wrap n)) := HL.conv_int Tryz.underlying141 Tryz.underlying126
@[go_sem] theorem T.cv141_138 {V : HL.HV} {k : IntKind} {n : Int} : HL.convV Tryz.prog V 141 138 (.int k n) = some (.int .u64 (IntKind.u64.wrap n)) := HL.conv_int Tryz.underlying141 Tryz.underlying138
@[go_sem] theorem T.cv141_141 {V : HL.HV} {k : IntKind} {n : Int} : HL.convV Tryz.prog V 141 141 (.int k n) = some (.int .u32 (IntKind.u32.wrap n)) := HL.conv_int Tryz.underlying141 Tryz.underlying141
@[go_sem] theorem T.cv141_163 {V : HL.HV} {k : IntKind} {n : Int} : HL.convV Tryz.prog V 141 163 (.int k n) = some (.int .u8 (IntKind.u8.wrap n)) := HL.conv_int Tryz.underlying141 Tryz.underlying163
@[go_sem] theorem T.cv141_166 {V : HL.HV} {k : IntKind} {n : Int} : HL.convV Tryz.prog V 141 166 (.int k n) = some (.int .i32 (IntKind.i32.wrap n)) := HL.conv_int Tryz.underlying141 Tryz.underlying166
@[go_sem] theorem T.cv141_167 {V : HL.HV} {k : IntKind} {n : Int} : HL.convV Tryz.prog V 141 167 (.int k n) = some (.int .i32 (IntKind.i32.wrap n)) := HL.conv_int Tryz.underlying141 Tryz.underlying167
@[go_sem] theorem T.cv141_176 {V : HL.HV} {k : IntKind} {n : Int} : HL.convV Tryz.prog V 141 176 (.int k n) = some (.int .u16 (IntKind.u16.wrap n)) := HL.conv_int Tryz.underlying141 Tryz.underlying176
@[go_sem] theorem T.cv141_180 {V : HL.HV} {k : IntKind} {n : Int} : HL.convV Tryz.prog V 141 180 (.int k n) = some (.int .i32 (IntKind.i32.wrap n)) := HL.conv_int Tryz.underlying141 Tryz.underlying180
@[go_sem] theorem T.cv163_2 {V : HL.HV} {k : IntKind} {n : Int} : HL.convV Tryz.prog V 163 2 (.int k n) = some (.int .i64 (IntKind.i64.wrap n)) := HL.conv_int Tryz.underlying163 Tryz.underlying2
@[go_sem] theorem T.cv163_3 {V : HL.HV} {k : IntKind} {n : Int} : HL.convV Tryz.prog V 163 3 (.int k n) = some (.int .i64 (IntKind.i64.wrap n)) := HL.conv_int Tryz.underlying163 Tryz.underlying3
@[go_sem] theorem T.cv163_5 {V : HL.HV} {k : IntKind} {n : Int} : HL.convV Tryz.prog V 163 5 (.int k n) = some (.int .u8 (IntKind.u8.wrap n)) := HL.conv_int Tryz.underlying163 Tryz.underlying5
@[go_sem] theorem T.cv163_6 {V : HL.HV} {k : IntKind} {n : Int} : HL.convV Tryz.prog V 163 6 (.int k n) = some (.int .u8 (IntKind.u8.wrap n)) := HL.conv_int Tryz.underlying163 Tryz.underlying6
@[go_sem] theorem T.cv163_12 {V : HL.HV} {k : IntKind} {n : Int} : HL.convV Tryz.prog V 163 12 (.int k n) = some (.int .u64 (IntKind.u64.wrap n)) := HL.conv_int Tryz.underlying163 Tryz.underlying12
@[go_sem] theorem T.cv163_21 {V : HL.HV} {k : IntKind} {n : Int} : HL.convV Tryz.prog V 163 21 (.int k n) = some (.int .i32 (IntKind.i32.wrap n)) := HL.conv_int Tryz.underlying163 Tryz.underlying21
@[go_sem] theorem T.cv163_23 {V : HL.HV} {k : IntKind} {n : Int} : HL.convV Tryz.prog V 163 23 (.int k n) = some (.int .i64 (IntKind.i64.wrap n)) := HL.conv_int Tryz.underlying163 Tryz.underlying23
@[go_sem] theorem T.cv163_46 {V : HL.HV} {k : IntKind} {n : Int} : HL.convV Tryz.prog V 163 46 (.int k n) = some (.int .u64 (IntKind.u64.wrap n)) := HL.conv_int Tryz.underlying163 Tryz.underlying46
@[go_sem] theorem T.cv163_53 {V : HL.HV} {k : IntKind} {n : Int} : HL.convV Tryz.prog V 163 53 (.int k n) = some (.int .u8 (IntKind.u8.wrap n)) := HL.conv_int Tryz.underlying163 Tryz.underlying53
@[go_sem] theorem T.cv163_126 {V : HL.HV} {k : IntKind} {n : Int} : HL.convV Tryz.prog V 163 126 (.int k n) = some (.int .u64 (IntKind.u64.wrap n)) := HL.conv_int Tryz.underlying163 Tryz.underlying126
@[go_sem] theorem T.cv163_138 {V : HL.HV} {k : IntKind} {n : Int} : HL.convV Tryz.prog V 163 138 (.int k n) = some (.int .u64 (IntKind.u64.wrap n)) := HL.conv_int Tryz.underlying163 Tryz.underlying138
@[go_sem] theorem T.cv163_141 {V : HL.HV} {k : IntKind} {n : Int} : HL.convV Tryz.prog V 163 141 (.int k n) = some (.int .u32 (IntKind.u32.wrap n)) := HL.conv_int Tryz.underlying163 Tryz.underlying141
@[go_sem] theorem T.cv163_163 {V : HL.HV} {k : IntKind} {n : Int} : HL.convV Tryz.prog V 163 163 (.int k n) = some (.int .u8 (IntKind.u8.wrap n)) := HL.conv_int Tryz.underlying163 Tryz.underlying163
@[go_sem] theorem T.cv163_166 {V : HL.HV} {k : IntKind} {n : Int} : HL.convV Tryz.prog V 163 166 (.int k n) = some (.int .i32 (IntKind.i32.wrap n)) := HL.conv_int Tryz.underlying163 Tryz.underlying166
@[go_sem] theorem T.cv163_167 {V : HL.HV} {k : IntKind} {n : Int} : HL.convV Tryz.prog V 163 167 (.int k n) = some (.int .i32 (IntKind.i32.wrap n)) := HL.conv_int Tryz.underlying163 Tryz.underlying167
@[go_sem] theorem T.cv163_176 {V : HL.HV} {k : IntKind} {n : Int} : HL.convV Tryz.prog V 163 176 (.int k n) = some (.int .u16 (IntKind.u16.wrap n)) := HL.conv_int Tryz.underlying163 Tryz.underlying176
@[go_sem] theorem T.cv163_180 {V : HL.HV} {k : IntKind} {n : Int} : HL.convV Tryz.prog V 163 180 (.int k n) = some (.int .i32 (IntKind.i32.wrap n)) := HL.conv_int Tryz.underlying163 Tryz.underlying180
@[go_sem] theorem T.cv166_2 {V : HL.HV} {k : IntKind} {n : Int} : HL.convV Tryz.prog V 166 2 (.int k n) = some (.int .i64 (IntKind.i64.wrap n)) := HL.conv_int Tryz.underlying166 Tryz.underlying2
@[go_sem] theorem T.cv166_3 {V : HL.HV} {k : IntKind} {n : Int} : HL.convV Tryz.prog V 166 3 (.int k n) = some (.int .i64 (IntKind.i64.wrap n)) := HL.conv_int Tryz.underlying166 Tryz.underlying3
@[go_sem] theorem T.cv166_5 {V : HL.HV} {k : IntKind} {n : Int} : HL.convV Tryz.prog V 166 5 (.int k n) = some (.int .u8 (IntKind.u8.wrap n)) := HL.conv_int Tryz.underlying166 Tryz.underlying5
@[go_sem] theorem T.cv166_6 {V : HL.HV} {k : IntKind} {n : Int} : HL.convV Tryz.prog V 166 6 (.int k n) = some (.int .u8 (IntKind.u8.wrap n)) := HL.conv_int Tryz.underlying166 Tryz.underlying6
@[go_sem] theorem T.cv166_12 {V : HL.HV} {k : IntKind} {n : Int} : HL.convV Tryz.prog V 166 12 (.int k n) = some (.int .u64 (IntKind.u64.wrap n)) := HL.conv_int Tryz.underlying166 Tryz.underlying12
@[go_sem] theorem T.cv166_21 {V : HL.HV} {k : IntKind} {n : Int} : HL.convV Tryz.prog V 166 21 (.int k n) = some (.int .i32 (IntKind.i32.wrap n)) := HL.conv_int Tryz.underlying166 Tryz.underlying21
@[go_sem] theorem T.cv166_23 {V : HL.HV} {k : IntKind} {n : Int} : HL.convV Tryz.prog V 166 23 (.int k n) = some (.int .i64 (IntKind.i64.wrap n)) := HL.conv_int Tryz.underlying166 Tryz.underlying23
@[go_sem] theorem T.cv166_46 {V : HL.HV} {k : IntKind} {n : Int} : HL.convV Tryz.prog V 166 46 (.int k n) = some (.int .u64 (IntKind.u64.wrap n)) := HL.conv_int Tryz.underlying166 Tryz.underlying46
@[go_sem] theorem T.cv166_53 {V : HL.HV} {k : IntKind} {n : Int} : HL.convV Tryz.prog V 166 53 (.int k n) = some (.int .u8 (IntKind.u8.wrap n)) := HL.conv_int Tryz.underlying166 Tryz.underlying53
@[go_sem] theorem T.cv166_126 {V : HL.HV} {k : IntKind} {n : Int} : HL.convV Tryz.prog V 166 126 (.int k n) = some (.int .u64 (IntKind.u64.wrap n)) := HL.conv_int Tryz.underlying166 Tryz.underlying126
@[go_sem] theorem T.cv166_138 {V : HL.HV} {k : IntKind} {n : Int} : HL.convV Tryz.prog V 166 138 (.int k n) = some (.int .u64 (IntKind.u64.wrap n)) := HL.conv_int Tryz.underlying166 Tryz.underlying138
@[go_sem] theorem T.cv166_141 {V : HL.HV} {k : IntKind} {n : Int} : HL.convV Tryz.prog V 166 141 (.int k n) = some (.int .u32 (IntKind.u32.wrap n)) := HL.conv_int Tryz.underlying166 Tryz.underlying141
@[go_sem] theorem T.cv166_163 {V : HL.HV} {k : IntKind} {n : Int} : HL.convV Tryz.prog V 166 163 (.int k n) = some (.int .u8 (IntKind.u8.wrap n)) := HL.conv_int Tryz.underlying166 Tryz.underlying163
@[go_sem] theorem T.cv166_166 {V : HL.HV} {k : IntKind} {n : Int} : HL.convV Tryz.prog V 166 166 (.int k n) = some (.int .i32 (IntKind.i32.wrap n)) := HL.conv_int Tryz.underlying166 Tryz.underlying166
@[go_sem] theorem T.cv166_167 {V : HL.HV} {k : IntKind} {n : Int} : HL.convV Tryz.prog V 166 167 (.int k n) = some (.int .i32 (IntKind.i32.wrap n)) := HL.conv_int Tryz.underlying166 Tryz.underlying167
@[go_sem] theorem T.cv166_176 {V : HL.HV} {k : IntKind} {n : Int} : HL.convV Tryz.prog V 166 176 (.int k n) = some (.int .u16 (IntKind.u16.wrap n)) := HL.conv_int Tryz.underlying166 Tryz.underlying176
@[go_sem] theorem T.cv166_180 {V : HL.HV} {k : IntKind} {n : Int} : HL.convV Tryz.prog V 166 180 (.int k n) = some (.int .i32 (IntKind.i32.wrap n)) := HL.conv_int Tryz.underlying166 Tryz.underlying180
@[go_sem] theorem T.cv167_2 {V : HL.HV} {k : IntKind} {n : Int} : HL.convV Tryz.prog V 167 2 (.int k n) = some (.int .i64 (IntKind.i64.wrap n)) := HL.conv_int Tryz.underlying167 Tryz.underlying2
@[go_sem] theorem T.cv167_3 {V : HL.HV} {k : IntKind} {n : Int} : HL.convV Tryz.prog V 167 3 (.int k n) = some (.int .i64 (IntKind.i64.wrap n)) := HL.conv_int Tryz.underlying167 Tryz.underlying3
@[go_sem] theorem T.cv167_5 {V : HL.HV} {k : IntKind} {n : Int} : HL.convV Tryz.prog V 167 5 (.int k n) = some (.int .u8 (IntKind.u8.wrap n)) := HL.conv_int Tryz.underlying167 Tryz.underlying5
@[go_sem] theorem T.cv167_6 {V : HL.HV} {k : IntKind} {n : Int} : HL.convV Tryz.prog V 167 6 (.int k n) = some (.int .u8 (IntKind.u8.wrap n)) := HL.conv_int Tryz.underlying167 Tryz.underlying6
@[go_sem] theorem T.cv167_12 {V : HL.HV} {k : IntKind} {n : Int} : HL.convV Tryz.prog V 167 12 (.int k n) = some (.int .u64 (IntKind.u64.wrap n)) := HL.conv_int Tryz.underlying167 Tryz.underlying12
@[go_sem] theorem T.cv167_21 {V : HL.HV} {k : IntKind} {n : Int} : HL.convV Tryz.prog V 167 21 (.int k n) = some (.int .i32 (IntKind.i32.wrap n)) := HL.conv_int Tryz.underlying167 Tryz.underlying21
@[go_sem] theorem T.cv167_23 {V : HL.HV} {k : IntKind} {n : Int} : HL.convV Tryz.prog V 167 23 (.int k n) = some (.int .i64 (IntKind.i64.wrap n)) := HL.conv_int Tryz.underlying167 Tryz.underlying23
@[go_sem] theorem T.cv167_46 {V : HL.HV} {k : IntKind} {n : Int} : HL.convV Tryz.prog V 167 46 (.int k n) = some (.int .u64 (IntKind.u64.wrap n)) := HL.conv_int Tryz.underlying167 Tryz.underlying46
@[go_sem] theorem T.cv167_53 {V : HL.HV} {k : IntKind} {n : Int} : HL.convV Tryz.prog V 167 53 (.int k n) = some (.int .u8 (IntKind.u8.wrap n)) := HL.conv_int Tryz.underlying167 Tryz.underlying53
@[go_sem] theorem T.cv167_126 {V : HL.HV} {k : IntKind} {n : Int} : HL.convV Tryz.prog V 167 126 (.int k n) = some (.int .u64 (IntKind.u64.wrap n)) := HL.conv_int Tryz.underlying167 Tryz.underlying126
@[go_sem] theorem T.cv167_138 {V : HL.HV} {k : IntKind} {n : Int} : HL.convV Tryz.prog V 167 138 (.int k n) = some (.int .u64 (IntKind.u64.wrap n)) := HL.conv_int Tryz.underlying167 Tryz.underlying138
@[go_sem] theorem T.cv167_141 {V : HL.HV} {k : IntKind} {n : Int} : HL.convV Tryz.prog V 167 141 (.int k n) = some (.int .u32 (IntKind.u32.wrap n)) := HL.conv_int Tryz.underlying167 Tryz.underlying141
@[go_sem] theorem T.cv167_163 {V : HL.HV} {k : IntKind} {n : Int} : HL.convV Tryz.prog V 167 163 (.int k n) = some (.int .u8 (IntKind.u8.wrap n)) := HL.conv_int Tryz.underlying167 Tryz.underlying163
@[go_sem] theorem T.cv167_166 {V : HL.HV} {k : IntKind} {n : Int} : HL.convV Tryz.prog V 167 166 (.int k n) = some (.int .i32 (IntKind.i32.wrap n)) := HL.conv_int Tryz.underlying167 Tryz.underlying166
@[go_sem] theorem T.cv167_167 {V : HL.HV} {k : IntKind} {n : Int} : HL.convV Tryz.prog V 167 167 (.int k n) = some (.int .i32 (IntKind.i32.wrap n)) := HL.conv_int Tryz.underlying167 Tryz.underlying167
@[go_sem] theorem T.cv167_176 {V : HL.HV} {k : IntKind} {n : Int} : HL.convV Tryz.prog V 167 176 (.int k n) = some (.int .u16 (IntKind.u16.wrap n)) := HL.conv_int Tryz.underlying167 Tryz.underlying176
@[go_sem] theorem T.cv167_180 {V : HL.HV} {k : IntKind} {n : Int} : HL.convV Tryz.prog V 167 180 (.int k n) = some (.int .i32 (IntKind.i32.wrap n)) := HL.conv_int Tryz.underlying167 Tryz.underlying180
@[go_sem] theorem T.cv176_2 {V : HL.HV} {k : IntKind} {n : Int} : HL.convV Tryz.prog V 176 2 (.int k n) = some (.int .i64 (IntKind.i64.wrap n)) := HL.conv_int Tryz.underlying176 Tryz.underlying2
@[go_sem] theorem T.cv176_3 {V : HL.HV} {k : IntKind} {n : Int} : HL.convV Tryz.prog V 176 3 (.int k n) = some (.int .i64 (IntKind.i64.wrap n)) := HL.conv_int Tryz.underlying176 Tryz.underlying3
@[go_sem] theorem T.cv176_5 {V : HL.HV} {k : IntKind} {n : Int} : HL.convV Tryz.prog V 176 5 (.int k n) = some (.int .u8 (IntKind.u8.wrap n)) := HL.conv_int Tryz.underlying176 Tryz.underlying5
@[go_sem] theorem T.cv176_6 {V : HL.HV} {k : IntKind} {n : Int} : HL.convV Tryz.prog V 176 6 (.int k n) = some (.int .u8 (IntKind.u8.wrap n)) := HL.conv_int Tryz.underlying176 Tryz.underlying6
@[go_sem] theorem T.cv176_12 {V : HL.HV} {k : IntKind} {n : Int} : HL.convV Tryz.prog V 176 12 (.int k n) = some (.int .u64 (IntKind.u64.wrap n)) := HL.conv_int Tryz.underlying176 Tryz.underlying12
@[go_sem] theorem T.cv176_21 {V : HL.HV} {k : IntKind} {n : Int} : HL.convV Tryz.prog V 176 21 (.int k n) = some (.int .i32 (IntKind.i32.wrap n)) := HL.conv_int Tryz.underlying176 Tryz.underlying21
@[go_sem] theorem T.cv176_23 {V : HL.HV} {k : IntKind} {n : Int} : HL.convV Tryz.prog V 176 23 (.int k n) = some (.int .i64 (IntKind.i64.wrap n)) := HL.conv_int Tryz.underlying176 Tryz.underlying23
@[go_sem] theorem T.cv176_46 {V : HL.HV} {k : IntKind} {n : Int} : HL.convV Tryz.prog V 176 46 (.int k n) = some (.int .u64 (IntKind.u64.wrap n)) := HL.conv_int Tryz.underlying176 Tryz.underlying46
@[go_sem] theorem T.cv176_53 {V : HL.HV} {k : IntKind} {n : Int} : HL.convV Tryz.prog V 176 53 (.int k n) = some (.int .u8 (IntKind.u8.wrap n)) := HL.conv_int Tryz.underlying176 Tryz.underlying53
@[go_sem] theorem T.cv176_126 {V : HL.HV} {k : IntKind} {n : Int} : HL.convV Tryz.prog V 176 126 (.int k n) = some (.int .u64 (IntKind.u64.wrap n)) := HL.conv_int Tryz.underlying176 Tryz.underlying126
@[go_sem] theorem T.cv176_138 {V : HL.HV} {k : IntKind} {n : Int} : HL.convV Tryz.prog V 176 138 (.int k n) = some (.int .u64 (IntKind.u64.wrap n)) := HL.conv_int Tryz.underlying176 Tryz.underlying138
@[go_sem] theorem T.cv176_141 {V : HL.HV} {k : IntKind} {n : Int} : HL.convV Tryz.prog V 176 141 (.int k n) = some (.int .u32 (IntKind.u32.wrap n)) := HL.conv_int Tryz.underlying176 Tryz.underlying141
@[go_sem] theorem T.cv176_163 {V : HL.HV} {k : IntKind} {n : Int} : HL.convV Tryz.prog V 176 163 (.int k n) = some (.int .u8 (IntKind.u8.wrap n)) := HL.conv_int Tryz.underlying176 Tryz.underlying163
@[go_sem] theorem T.cv176_166 {V : HL.HV} {k : IntKind} {n : Int} : HL.convV Tryz.prog V 176 166 (.int k n) = some (.int .i32 (IntKind.i32.wrap n)) := HL.conv_int Tryz.underlying176 Tryz.underlying166
@[go_sem] theorem T.cv176_167 {V : HL.HV} {k : IntKind} {n : Int} : HL.convV Tryz.prog V 176 167 (.int k n) = some (.int .i32 (IntKind.i32.wrap n)) := HL.conv_int Tryz.underlying176 Tryz.underlying167
@[go_sem] theorem T.cv176_176 {V : HL.HV} {k : IntKind} {n : Int} : HL.convV Tryz.prog V 176 176 (.int k n) = some (.int .u16 (IntKind.u16.wrap n)) := HL.conv_int Tryz.underlying176 Tryz.underlying176
@[go_sem] theorem T.cv176_180 {V : HL.HV} {k : IntKind} {n : Int} : HL.convV Tryz.prog V 176 180 (.int k n) = some (.int .i32 (IntKind.i32.wrap n)) := HL.conv_int Tryz.underlying176 Tryz.underlying180
@[go_sem] theorem T.cv180_2 {V : HL.HV} {k : IntKind} {n : Int} : HL.convV Tryz.prog V 180 2 (.int k n) = some (.int .i64 (IntKind.i64.wrap n)) := HL.conv_int Tryz.underlying180 Tryz.underlying2
@[go_sem] theorem T.cv180_3 {V : HL.HV} {k : IntKind} {n : Int} : HL.convV Tryz.prog V 180 3 (.int k n) = some (.int .i64 (IntKind.i64.wrap n)) := HL.conv_int Tryz.underlying180 Tryz.underlying3
@[go_sem] theorem T.cv180_5 {V : HL.HV} {k : IntKind} {n : Int} : HL.convV Tryz.prog V 180 5 (.int k n) = some (.int .u8 (IntKind.u8.wrap n)) := HL.conv_int Tryz.underlying180 Tryz.underlying5
@[go_sem] theorem T.cv180_6 {V : HL.HV} {k : IntKind} {n : Int} : HL.convV Tryz.prog V 180 6 (.int k n) = some (.int .u8 (IntKind.u8.wrap n)) := HL.conv_int Tryz.underlying180 Tryz.underlying6
@[go_sem] theorem T.cv180_12 {V : HL.HV} {k : IntKind} {n : Int} : HL.convV Tryz.prog V 180 12 (.int k n) = some (.int .u64 (IntKind.u64.wrap n)) := HL.conv_int Tryz.underlying180 Tryz.underlying12
@[go_sem] theorem T.cv180_21 {V : HL.HV} {k : IntKind} {n : Int} : HL.convV Tryz.prog V 180 21 (.int k n) = some (.int .i32 (IntKind.i32.wrap n)) := HL.conv_int Tryz.underlying180 Tryz.underlying21
@[go_sem] theorem T.cv180_23 {V : HL.HV} {k : IntKind} {n : Int} : HL.convV Tryz.prog V 180 23 (.int k n) = some (.int .i64 (IntKind.i64.wrap n)) := HL.conv_int Tryz.underlying180 Tryz.underlying23
@[go_sem] theorem T.cv180_46 {V : HL.HV} {k : IntKind} {n : Int} : HL.convV Tryz.prog V 180 46 (.int k n) = some (.int .u64 (IntKind.u64.wrap n)) := HL.conv_int Tryz.underlying180 Tryz.underlying46
@[go_sem] theorem T.cv180_53 {V : HL.HV} {k : IntKind} {n : Int} : HL.convV Tryz.prog V 180 53 (.int k n) = some (.int .u8 (IntKind.u8.wrap n)) := HL.conv_int Tryz.underlying180 Tryz.underlying53
@[go_sem] theorem T.cv180_126 {V : HL.HV} {k : IntKind} {n : Int} : HL.convV Tryz.prog V 180 126 (.int k n) = some (.int .u64 (IntKind.u64.wrap n)) := HL.conv_int Tryz.underlying180 Tryz.underlying126
@[go_sem] theorem T.cv180_138 {V : HL.HV} {k : IntKind} {n : Int} : HL.convV Tryz.prog V 180 138 (.int k n) = some (.int .u64 (IntKind.u64.wrap n)) := HL.conv_int Tryz.underlying180 Tryz.underlying138
@[go_sem] theorem T.cv180_141 {V : HL.HV} {k : IntKind} {n : Int} : HL.convV Tryz.prog V 180 141 (.int k n) = some (.int .u32 (IntKind.u32.wrap n)) := HL.conv_int Tryz.underlying180 Tryz.underlying141
@[go_sem] theorem T.cv180_163 {V : HL.HV} {k : IntKind} {n : Int} : HL.convV Tryz.prog V 180 163 (.int k n) = some (.int .u8 (IntKind.u8.wrap n)) := HL.conv_int Tryz.underlying180 Tryz.underlying163
@[go_sem] theorem T.cv180_166 {V : HL.HV} {k : IntKind} {n : Int} : HL.convV Tryz.prog V 180 166 (.int k n) = some (.int .i32 (IntKind.i32.wrap n)) := HL.conv_int Tryz.underlying180 Tryz.underlying166
@[go_sem] theorem T.cv180_167 {V : HL.HV} {k : IntKind} {n : Int} : HL.convV Tryz.prog V 180 167 (.int k n) = some (.int .i32 (IntKind.i32.wrap n)) := HL.conv_int Tryz.underlying180 Tryz.underlying167
@[go_sem] theorem T.cv180_176 {V : HL.HV} {k : IntKind} {n : Int} : HL.convV Tryz.prog V 180 176 (.int k n) = some (.int .u16 (IntKind.u16.wrap n)) := HL.conv_int Tryz.underlying180 Tryz.underlying176
@[go_sem] theorem T.cv180_180 {V : HL.HV} {k : IntKind} {n : Int} : HL.convV Tryz.prog V 180 180 (.int k n) = some (.int .i32 (IntKind.i32.wrap n)) := HL.conv_int Tryz.underlying180 Tryz.underlying180
@[go_sem] theorem T.bs39_1 {H : HL.Heap} {x0 : Int} {a1 : Option Addr} {l1 c1 : Nat} {a2 : Option Addr} {l2 c2 : Nat} {a3 : Option Addr} {l3 c3 : Nat} {x4 : Int} : HL.buildSliceV Tryz.prog H 39 1 [(0, .agg #[.int .i64 x0, .slice a1 l1 c1, .slice a2 l2 c2, .slice a3 l3 c3, .int .i64 x4])] = some (.slice (some ⟨H.size, 0, none⟩) 1 1, H.push (.cells #[.int .i64 x0, .slice a1 l1 c1, .slice a2 l2 c2, .slice a3 l3 c3, .int .i64 x4] 69)) := HL.bsl_of (vs := [.agg #[.int .i64 x0, .slice a1 l1 c1, .slice a2 l2 c2, .slice a3 l3 c3, .int .i64 x4]]) T.elem39 T.size69 T.zero69 (Nat.le_of_ble_eq_true rfl) rfl rfl
@[go_sem] theorem T.bs39_2 {H : HL.Heap} {x0 : Int} {a1 : Option Addr} {l1 c1 : Nat} {a2 : Option Addr} {l2 c2 : Nat} {a3 : Option Addr} {l3 c3 : Nat} {x4 : Int} {x5 : Int} {a6 : Option Addr} {l6 c6 : Nat} {a7 : Option Addr} {l7 c7 : Nat} {a8 : Option Addr} {l8 c8 : Nat} {x9 : Int} : HL.buildSliceV Tryz.prog H 39 2 [(0, .agg #[.int .i64 x0, .slice a1 l1 c1, .slice a2 l2 c2, .slice a3 l3 c3, .int .i64 x4]), (1, .agg #[.int .i64 x5, .slice a6 l6 c6, .slice a7 l7 c7, .slice a8 l8 c8, .int .i64 x9])] = some (.slice (some ⟨H.size, 0, none⟩) 2 2, H.push (.cells #[.int .i64 x0, .slice a1 l1 c1, .slice a2 l2 c2, .slice a3 l3 c3, .int .i64 x4, .int .i64 x5, .slice a6 l6 c6, .slice a7 l7 c7, .slice a8 l8 c8, .int .i64 x9] 69)) := HL.bsl_of (vs := [.agg #[.int .i64 x0, .slice a1 l1 c1, .slice a2 l2 c2, .slice a3 l3 c3, .int .i64 x4], .agg #[.int .i64 x5, .slice a6 l6 c6, .slice a7 l7 c7, .slice a8 l8 c8, .int .i64 x9]]) T.elem39 T.size69 T.zero69 (Nat.le_of_ble_eq_true rfl) rfl rfl
@[go_sem] theorem T.bs39_3 {H : HL.Heap} {x0 : Int} {a1 : Option Addr} {l1 c1 : Nat} {a2 : Option Addr} {l2 c2 : Nat} {a3 : Option Addr} {l3 c3 : Nat} {x4 : Int} {x5 : Int} {a6 : Option Addr} {l6 c6 : Nat} {a7 : Option Addr} {l7 c7 : Nat} {a8 : Option Addr} {l8 c8 : Nat} {x9 : Int} {x10 : Int} {a11 : Option Addr} {l11 c11 : Nat} {a12 : Option Addr} {l12 c12 : Nat} {a13 : Option Addr} {l13 c13 : Nat} {x14 : Int} : HL.buildSliceV Tryz.prog H 39 3 [(0, .agg #[.int .i64 x0, .slice a1 l1 c1, .slice a2 l2 c2, .slice a3 l3 c3, .int .i64 x4]), (1, .agg #[.int .i64 x5, .slice a6 l6 c6, .slice a7 l7 c7, .slice a8 l8 c8, .int .i64 x9]), (2, .agg #[.int .i64 x10, .slice a11 l11 c11, .slice a12 l12 c12, .slice a13 l13 c13, .int .i64 x14])] = some (.slice (some ⟨H.size, 0, none⟩) 3 3, H.push (.cells #[.int .i64 x0, .slice a1 l1 c1, .slice a2 l2 c2, .slice a3 l3 c3, .int .i64 x4, .int .i64 x5, .slice a6 l6 c6, .slice a7 l7 c7, .slice a8 l8 c8, .int .i64 x9, .int .i64 x10, .slice a11 l11 c11, .slice a12 l12 c12, .slice a13 l13 c13, .int .i64 x14] 69)) := HL.bsl_of (vs := [.agg #[.int .i64 x0, .slice a1 l1 c1, .slice a2 l2 c2, .slice a3 l3 c3, .int .i64 x4], .agg #[.int .i64 x5, .slice a6 l6 c6, .slice a7 l7 c7, .slice a8 l8 c8, .int .i64 x9], .agg #[.int .i64 x10, .slice a11 l11 c11, .slice a12 l12 c12, .slice a13 l13 c13, .int .i64 x14]]) T.elem39 T.size69 T.zero69 (Nat.le_of_ble_eq_true rfl) rfl rfl
@[go_sem] theorem T.bs60_1 {H : HL.Heap} {x0 : Int} {x1 : ByteArray} {x2 : Int} : HL.buildSliceV Tryz.prog H 60 1 [(0, .agg #[.int .i64 x0, .string x1, .int .i64 x2])] = some (.slice (some ⟨H.size, 0, none⟩) 1 1, H.push (.cells #[.int .i64 x0, .string x1, .int .i64 x2] 101)) := HL.bsl_of (vs := [.agg #[.int .i64 x0, .string x1, .int .i64 x2]]) T.elem60 T.size101 T.zero101 (Nat.le_of_ble_eq_true rfl) rfl rfl
@[go_sem] theorem T.bs60_2 {H : HL.Heap} {x0 : Int} {x1 : ByteArray} {x2 : Int} {x3 : Int} {x4 : ByteArray} {x5 : Int} : HL.buildSliceV Tryz.prog H 60 2 [(0, .agg #[.int .i64 x0, .string x1, .int .i64 x2]), (1, .agg #[.int .i64 x3, .string x4, .int .i64 x5])] = some (.slice (some ⟨H.size, 0, none⟩) 2 2, H.push (.cells #[.int .i64 x0, .string x1, .int .i64 x2, .int .i64 x3, .string x4, .int .i64 x5] 101)) := HL.bsl_of (vs := [.agg #[.int .i64 x0, .string x1, .int .i64 x2], .agg #[.int .i64 x3, .string x4, .int .i64 x5]]) T.elem60 T.size101 T.zero101 (Nat.le_of_ble_eq_true rfl) rfl rfl
@[go_sem] theorem T.bs60_3 {H : HL.Heap} {x0 : Int} {x1 : ByteArray} {x2 : Int} {x3 : Int} {x4 : ByteArray} {x5 : Int} {x6 : Int} {x7 : ByteArray} {x8 : Int} : HL.buildSliceV Tryz.prog H 60 3 [(0, .agg #[.int .i64 x0, .string x1, .int .i64 x2]), (1, .agg #[.int .i64 x3, .string x4, .int .i64 x5]), (2, .agg #[.int .i64 x6, .string x7, .int .i64 x8])] = some (.slice (some ⟨H.size, 0, none⟩) 3 3, H.push (.cells #[.int .i64 x0, .string x1, .int .i64 x2, .int .i64 x3, .string x4, .int .i64 x5, .int .i64 x6, .string x7, .int .i64 x8] 101)) := HL.bsl_of (vs := [.agg #[.int .i64 x0, .string x1, .int .i64 x2], .agg #[.int .i64 x3, .string x4, .int .i64 x5], .agg #[.int .i64 x6, .string x7, .int .i64 x8]]) T.elem60 T.size101 T.zero101 (Nat.le_of_ble_eq_true rfl) rfl rfl
@[go_sem] theorem T.bs60_4 {H : HL.Heap} {x0 : Int} {x1 : ByteArray} {x2 : Int} {x3 : Int} {x4 : ByteArray} {x5 : Int} {x6 : Int} {x7 : ByteArray} {x8 : Int} {x9 : Int} {x10 : ByteArray} {x11 : Int} : HL.buildSliceV Tryz.prog H 60 4 [(0, .agg #[.int .i64 x0, .string x1, .int .i64 x2]), (1, .agg #[.int .i64 x3, .string x4, .int .i64 x5]), (2, .agg #[.int .i64 x6, .string x7, .int .i64 x8]), (3, .agg #[.int .i64 x9, .string x10, .int .i64 x11])] = some (.slice (some ⟨H.size, 0, none⟩) 4 4, H.push (.cells #[.int .i64 x0, .string x1, .int .i64 x2, .int .i64 x3, .string x4, .int .i64 x5, .int .i64 x6, .string x7, .int .i64 x8, .int .i64 x9, .string x10, .int .i64 x11] 101)) := HL.bsl_of (vs := [.agg #[.int .i64 x0, .string x1, .int .i64 x2], .agg #[.int .i64 x3, .string x4, .int .i64 x5], .agg #[.int .i64 x6, .string x7, .int .i64 x8], .agg #[.int .i64 x9, .string x10, .int .i64 x11]]) T.elem60 T.size101 T.zero101 (Nat.le_of_ble_eq_true rfl) rfl rfl
@[go_sem] theorem T.bs70_1 {H : HL.Heap} {x0 : Int} {a1 : Option Addr} {l1 c1 : Nat} {a2 : Option Addr} {l2 c2 : Nat} {a3 : Option Addr} {l3 c3 : Nat} {x4 : Int} {a5 : Option Addr} {l5 c5 : Nat} : HL.buildSliceV Tryz.prog H 70 1 [(0, .agg #[.int .i64 x0, .slice a1 l1 c1, .slice a2 l2 c2, .slice a3 l3 c3, .int .i64 x4, .slice a5 l5 c5])] = some (.slice (some ⟨H.size, 0, none⟩) 1 1, H.push (.cells #[.int .i64 x0, .slice a1 l1 c1, .slice a2 l2 c2, .slice a3 l3 c3, .int .i64 x4, .slice a5 l5 c5] 72)) := HL.bsl_of (vs := [.agg #[.int .i64 x0, .slice a1 l1 c1, .slice a2 l2 c2, .slice a3 l3 c3, .int .i64 x4, .slice a5 l5 c5]]) T.elem70 T.size72 T.zero72 (Nat.le_of_ble_eq_true rfl) rfl rfl
@[go_sem] theorem T.bs70_2 {H : HL.Heap} {x0 : Int} {a1 : Option Addr} {l1 c1 : Nat} {a2 : Option Addr} {l2 c2 : Nat} {a3 : Option Addr} {l3 c3 : Nat} {x4 : Int} {a5 : Option Addr} {l5 c5 : Nat} {x6 : Int} {a7 : Option Addr} {l7 c7 : Nat} {a8 : Option Addr} {l8 c8 : Nat} {a9 : Option Addr} {l9 c9 : Nat} {x10 : Int} {a11 : Option Addr} {l11 c11 : Nat} : HL.buildSliceV Tryz.prog H 70 2 [(0, .agg #[.int .i64 x0, .slice a1 l1 c1, .slice a2 l2 c2, .slice a3 l3 c3, .int .i64 x4, .slice a5 l5 c5]), (1, .agg #[.int .i64 x6, .slice a7 l7 c7, .slice a8 l8 c8, .slice a9 l9 c9, .int .i64 x10, .slice a11 l11 c11])] = some (.slice (some ⟨H.size, 0, none⟩) 2 2, H.push (.cells #[.int .i64 x0, .slice a1 l1 c1, .slice a2 l2 c2, .slice a3 l3 c3, .int .i64 x4, .slice a5 l5 c5, .int .i64 x6, .slice a7 l7 c7, .slice a8 l8 c8, .slice a9 l9 c9, .int .i64 x10, .slice a11 l11 c11] 72)) := HL.bsl_of (vs := [.agg #[.int .i64 x0, .slice a1 l1 c1, .slice a2 l2 c2, .slice a3 l3 c3, .int .i64 x4, .slice a5 l5 c5], .agg #[.int .i64 x6, .slice a7 l7 c7, .slice a8 l8 c8, .slice a9 l9 c9, .int .i64 x10, .slice a11 l11 c11]]) T.elem70 T.size72 T.zero72 (Nat.le_of_ble_eq_true rfl) rfl rfl
@[go_sem] theorem T.bs154_1 {H : HL.Heap} {x0 : Int} {x1 : Int} : HL.buildSliceV Tryz.prog H 154 1 [(0, .agg #[.int .i64 x0, .int .i64 x1])] = some (.slice (some ⟨H.size, 0, none⟩) 1 1, H.push (.cells #[.int .i64 x0, .int .i64 x1] 145)) := HL.bsl_of (vs := [.agg #[.int .i64 x0, .int .i64 x1]]) T.elem154 T.size145 T.zero145 (Nat.le_of_ble_eq_true rfl) rfl rfl
@[go_sem] theorem T.bs154_2 {H : HL.Heap} {x0 : Int} {x1 : Int} {x2 : Int} {x3 : Int} : HL.buildSliceV Tryz.prog H 154 2 [(0, .agg #[.int .i64 x0, .int .i64 x1]), (1, .agg #[.int .i64 x2, .int .i64 x3])] = some (.slice (some ⟨H.size, 0, none⟩) 2 2, H.push (.cells #[.int .i64 x0, .int .i64 x1, .int .i64 x2, .int .i64 x3] 145)) := HL.bsl_of (vs := [.agg #[.int .i64 x0, .int .i64 x1], .agg #[.int .i64 x2, .int .i64 x3]]) T.elem154 T.size145 T.zero145 (Nat.le_of_ble_eq_true rfl) rfl rfl
@[go_sem] theorem T.bs154_3 {H : HL.Heap} {x0 : Int} {x1 : Int} {x2 : Int} {x3 : Int} {x4 : Int} {x5 : Int} : HL.buildSliceV Tryz.prog H 154 3 [(0, .agg #[.int .i64 x0, .int .i64 x1]), (1, .agg #[.int .i64 x2, .int .i64 x3]), (2, .agg #[.int .i64 x4, .int .i64 x5])] = some (.slice (some ⟨H.size, 0, none⟩) 3 3, H.push (.cells #[.int .i64 x0, .int .i64 x1, .int .i64 x2, .int .i64 x3, .int .i64 x4, .int .i64 x5] 145)) := HL.bsl_of (vs := [.agg #[.int .i64 x0, .int .i64 x1], .agg #[.int .i64 x2, .int .i64 x3], .agg #[.int .i64 x4, .int .i64 x5]]) T.elem154 T.size145 T.zero145 (Nat.le_of_ble_eq_true rfl) rfl rfl
@[go_sem] theorem T.bs154_4 {H : HL.Heap} {x0 : Int} {x1 : Int} {x2 : Int} {x3 : Int} {x4 : Int} {x5 : Int} {x6 : Int} {x7 : Int} : HL.buildSliceV Tryz.prog H 154 4 [(0, .agg #[.int .i64 x0, .int .i64 x1]), (1, .agg #[.int .i64 x2, .int .i64 x3]), (2, .agg #[.int .i64 x4, .int .i64 x5]), (3, .agg #[.int .i64 x6, .int .i64 x7])] = some (.slice (some ⟨H.size, 0, none⟩) 4 4, H.push (.cells #[.int .i64 x0, .int .i64 x1, .int .i64 x2, .int .i64 x3, .int .i64 x4, .int .i64 x5, .int .i64 x6, .int .i64 x7] 145)) := HL.bsl_of (vs := [.agg #[.int .i64 x0, .int .i64 x1], .agg #[.int .i64 x2, .int .i64 x3], .agg #[.int .i64 x4, .int .i64 x5], .agg #[.int .i64 x6, .int .i64 x7]]) T.elem154 T.size145 T.zero145 (Nat.le_of_ble_eq_true rfl) rfl rfl
@[go_sem] theorem T.bs179_1 {H : HL.Heap} {x0 : Int} {x1 : Int} {x2 : Int} {x3 : Int} : HL.buildSliceV Tryz.prog H 179 1 [(0, .agg #[.int .i32 x0, .int .i32 x1, .int .i32 x2, .int .i32 x3])] = some (.slice (some ⟨H.size, 0, none⟩) 1 1, H.push (.cells #[.int .i32 x0, .int .i32 x1, .int .i32 x2, .int .i32 x3] 182)) := HL.bsl_of (vs := [.agg #[.int .i32 x0, .int .i32 x1, .int .i32 x2, .int .i32 x3]]) T.elem179 T.size182 T.zero182 (Nat.le_of_ble_eq_true rfl) rfl rfl
@[go_sem] theorem T.bs179_2 {H : HL.Heap} {x0 : Int} {x1 : Int} {x2 : Int} {x3 : Int} {x4 : Int} {x5 : Int} {x6 : Int} {x7 : Int} : HL.buildSliceV Tryz.prog H 179 2 [(0, .agg #[.int .i32 x0, .int .i32 x1, .int .i32 x2, .int .i32 x3]), (1, .agg #[.int .i32 x4, .int .i32 x5, .int .i32 x6, .int .i32 x7])] = some (.slice (some ⟨H.size, 0, none⟩) 2 2, H.push (.cells #[.int .i32 x0, .int .i32 x1, .int .i32 x2, .int .i32 x3, .int .i32 x4, .int .i32 x5, .int .i32 x6, .int .i32 x7] 182)) := HL.bsl_of (vs := [.agg #[.int .i32 x0, .int .i32 x1, .int .i32 x2, .int .i32 x3], .agg #[.int .i32 x4, .int .i32 x5, .int .i32 x6, .int .i32 x7]]) T.elem179 T.size182 T.zero182 (Nat.le_of_ble_eq_true rfl) rfl rfl
@[go_sem] theorem T.bs179_3 {H : HL.Heap} {x0 : Int} {x1 : Int} {x2 : Int} {x3 : Int} {x4 : Int} {x5 : Int} {x6 : Int} {x7 : Int} {x8 : Int} {x9 : Int} {x10 : Int} {x11 : Int} : HL.buildSliceV Tryz.prog H 179 3 [(0, .agg #[.int .i32 x0, .int .i32 x1, .int .i32 x2, .int .i32 x3]), (1, .agg #[.int .i32 x4, .int .i32 x5, .int .i32 x6, .int .i32 x7]), (2, .agg #[.int .i32 x8, .int .i32 x9, .int .i32 x10, .int .i32 x11])] = some (.slice (some ⟨H.size, 0, none⟩) 3 3, H.push (.cells #[.int .i32 x0, .int .i32 x1, .int .i32 x2, .int .i32 x3, .int .i32 x4, .int .i32 x5, .int .i32 x6, .int .i32 x7, .int .i32 x8, .int .i32 x9, .int .i32 x10, .int .i32 x11] 182)) := HL.bsl_of (vs := [.agg #[.int .i32 x0, .int .i32 x1, .int .i32 x2, .int .i32 x3], .agg #[.int .i32 x4, .int .i32 x5, .int .i32 x6, .int .i32 x7], .agg #[.int .i32 x8, .int .i32 x9, .int .i32 x10, .int .i32 x11]]) T.elem179 T.size182 T.zero182 (Nat.le_of_ble_eq_true rfl) rfl rfl
@[go_sem] theorem T.bs179_4 {H : HL.Heap} {x0 : Int} {x1 : Int} {x2 : Int} {x3 : Int} {x4 : Int} {x5 : Int} {x6 : Int} {x7 : Int} {x8 : Int} {x9 : Int} {x10 : Int} {x11 : Int} {x12 : Int} {x13 : Int} {x14 : Int} {x15 : Int} : HL.buildSliceV Tryz.prog H 179 4 [(0, .agg #[.int .i32 x0, .int .i32 x1, .int .i32 x2, .int .i32 x3]), (1, .agg #[.int .i32 x4, .int .i32 x5, .int .i32 x6, .int .i32 x7]), (2, .agg #[.int .i32 x8, .int .i32 x9, .int .i32 x10, .int .i32 x11]), (3, .agg #[.int .i32 x12, .int .i32 x13, .int .i32 x14, .int .i32 x15])] = some (.slice (some ⟨H.size, 0, none⟩) 4 4, H.push (.cells #[.int .i32 x0, .int .i32 x1, .int .i32 x2, .int .i32 x3, .int .i32 x4, .int .i32 x5, .int .i32 x6, .int .i32 x7, .int .i32 x8, .int .i32 x9, .int .i32 x10, .int .i32 x11, .int .i32 x12, .int .i32 x13, .int .i32 x14, .int .i32 x15] 182)) := HL.bsl_of (vs := [.agg #[.int .i32 x0, .int .i32 x1, .int .i32 x2, .int .i32 x3], .agg #[.int .i32 x4, .int .i32 x5, .int .i32 x6, .int .i32 x7], .agg #[.int .i32 x8, .int .i32 x9, .int .i32 x10, .int .i32 x11], .agg #[.int .i32 x12, .int .i32 x13, .int .i32 x14, .int .i32 x15]]) T.elem179 T.size182 T.zero182 (Nat.le_of_ble_eq_true rfl) rfl rfl
@[go_sem] theorem T.stn25 {H : HL.Heap} {z0 z1 : Value} {x0 : Int} {x1 : Int} : HL.storeA Tryz.prog (H.push (.cells #[z0, z1] 25)) 25 ⟨H.size, 0, none⟩ (.agg #[.int .i64 x0, .int .i64 x1]) = some (H.push (.cells #[.int .i64 x0, .int .i64 x1] 25)) := HL.store_new (z := [z0, z1]) (vs := [.int .i64 x0, .int .i64 x1]) T.size25 rfl (HL.one_all rfl)
@[go_sem] theorem T.ln25 {H : HL.Heap} {z0 z1 : Value} : HL.cellsH (HL.cellH (H.push (.cells #[z0, z1] 25))) ⟨H.size, 0, none⟩ 0 2 = some [z0, z1] := HL.Blk.cells0 (new := [z0, z1]) (HL.Blk.new rfl)
@[go_sem] theorem T.stn65 {H : HL.Heap} {z0 z1 z2 z3 z4 : Value} {a0 : Option Addr} {l0 c0 : Nat} {x1 : Int} {x2 : Int} {x3 : Int} {x4 : Int} : HL.storeA Tryz.prog (H.push (.cells #[z0, z1, z2, z3, z4] 65)) 65 ⟨H.size, 0, none⟩ (.agg #[.slice a0 l0 c0, .int .i64 x1, .int .i64 x2, .int .i64 x3, .int .i64 x4]) = some (H.push (.cells #[.slice a0 l0 c0, .int .i64 x1, .int .i64 x2, .int .i64 x3, .int .i64 x4] 65)) := HL.store_new (z := [z0, z1, z2, z3, z4]) (vs := [.slice a0 l0 c0, .int .i64 x1, .int .i64 x2, .int .i64 x3, .int .i64 x4]) T.size65 rfl (HL.one_all rfl)
@[go_sem] theorem T.ln65 {H : HL.Heap} {z0 z1 z2 z3 z4 : Value} : HL.cellsH (HL.cellH (H.push (.cells #[z0, z1, z2, z3, z4] 65))) ⟨H.size, 0, none⟩ 0 5 = some [z0, z1, z2, z3, z4] := HL.Blk.cells0 (new := [z0, z1, z2, z3, z4]) (HL.Blk.new rfl)
@[go_sem] theorem T.stn69 {H : HL.Heap} {z0 z1 z2 z3 z4 : Value} {x0 : Int} {a1 : Option Addr} {l1 c1 : Nat} {a2 : Option Addr} {l2 c2 : Nat} {a3 : Option Addr} {l3 c3 : Nat} {x4 : Int} : HL.storeA Tryz.prog (H.push (.cells #[z0, z1, z2, z3, z4] 69)) 69 ⟨H.size, 0, none⟩ (.agg #[.int .i64 x0, .slice a1 l1 c1, .slice a2 l2 c2, .slice a3 l3 c3, .int .i64 x4]) = some (H.push (.cells #[.int .i64 x0, .slice a1 l1 c1, .slice a2 l2 c2, .slice a3 l3 c3, .int .i64 x4] 69)) := HL.store_new (z := [z0, z1, z2, z3, z4]) (vs := [.int .i64 x0, .slice a1 l1 c1, .slice a2 l2 c2, .slice a3 l3 c3, .int .i64 x4]) T.size69 rfl (HL.one_all rfl)
@[go_sem] theorem T.ln69 {H : HL.Heap} {z0 z1 z2 z3 z4 : Value} : HL.cellsH (HL.cellH (H.push (.cells #[z0, z1, z2, z3, z4] 69))) ⟨H.size, 0, none⟩ 0 5 = some [z0, z1, z2, z3, z4] := HL.Blk.cells0 (new := [z0, z1, z2, z3, z4]) (HL.Blk.new rfl)
@[go_sem] theorem T.stn72 {H : HL.Heap} {z0 z1 z2 z3 z4 z5 : Value} {x0 : Int} {a1 : Option Addr} {l1 c1 : Nat} {a2 : Option Addr} {l2 c2 : Nat} {a3 : Option Addr} {l3 c3 : Nat} {x4 : Int} {a5 : Option Addr} {l5 c5 : Nat} : HL.storeA Tryz.prog (H.push (.cells #[z0, z1, z2, z3, z4, z5] 72)) 72 ⟨H.size, 0, none⟩ (.agg #[.int .i64 x0, .slice a1 l1 c1, .slice a2 l2 c2, .slice a3 l3 c3, .int .i64 x4, .slice a5 l5 c5]) = some (H.push (.cells #[.int .i64 x0, .slice a1 l1 c1, .slice a2 l2 c2, .slice a3 l3 c3, .int .i64 x4, .slice a5 l5 c5] 72)) := HL.store_new (z := [z0, z1, z2, z3, z4, z5]) (vs := [.int .i64 x0, .slice a1 l1 c1, .slice a2 l2 c2, .slice a3 l3 c3, .int .i64 x4, .slice a5 l5 c5]) T.size72 rfl (HL.one_all rfl)
@[go_sem] theorem T.ln72 {H : HL.Heap} {z0 z1 z2 z3 z4 z5 : Value} : HL.cellsH (HL.cellH (H.push (.cells #[z0, z1, z2, z3, z4, z5] 72))) ⟨H.size, 0, none⟩ 0 6 = some [z0, z1, z2, z3, z4, z5] := HL.Blk.cells0 (new := [z0, z1, z2, z3, z4, z5]) (HL.Blk.new rfl)
@[go_sem] theorem T.stn77 {H : HL.Heap} {z0 z1 z2 z3 : Value} {a0 : Option Addr} {l0 c0 : Nat} {x1 : Int} {x2 : Int} {x3 : Int} : HL.storeA Tryz.prog (H.push (.cells #[z0, z1, z2, z3] 77)) 77 ⟨H.size, 0, none⟩ (.agg #[.slice a0 l0 c0, .int .i64 x1, .int .i64 x2, .int .i64 x3]) = some (H.push (.cells #[.slice a0 l0 c0, .int .i64 x1, .int .i64 x2, .int .i64 x3] 77)) := HL.store_new (z := [z0, z1, z2, z3]) (vs := [.slice a0 l0 c0, .int .i64 x1, .int .i64 x2, .int .i64 x3]) T.size77 rfl (HL.one_all rfl)
@[go_sem] theorem T.ln77 {H : HL.Heap} {z0 z1 z2 z3 : Value} : HL.cellsH (HL.cellH (H.push (.cells #[z0, z1, z2, z3] 77))) ⟨H.size, 0, none⟩ 0 4 = some [z0, z1, z2, z3] := HL.Blk.cells0 (new := [z0, z1, z2, z3]) (HL.Blk.new rfl)
@[go_sem] theorem T.stn101 {H : HL.Heap} {z0 z1 z2 : Value} {x0 : Int} {x1 : ByteArray} {x2 : Int} : HL.storeA Tryz.prog (H.push (.cells #[z0, z1, z2] 101)) 101 ⟨H.size, 0, none⟩ (.agg #[.int .i64 x0, .string x1, .int .i64 x2]) = some (H.push (.cells #[.int .i64 x0, .string x1, .int .i64 x2] 101)) := HL.store_new (z := [z0, z1, z2]) (vs := [.int .i64 x0, .string x1, .int .i64 x2]) T.size101 rfl (HL.one_all rfl)
@[go_sem] theorem T.ln101 {H : HL.Heap} {z0 z1 z2 : Value} : HL.cellsH (HL.cellH (H.push (.cells #[z0, z1, z2] 101))) ⟨H.size, 0, none⟩ 0 3 = some [z0, z1, z2] := HL.Blk.cells0 (new := [z0, z1, z2]) (HL.Blk.new rfl)
@[go_sem] theorem T.stn121 {H : HL.Heap} {z0 z1 z2 z3 z4 : Value} {a0 : Option Addr} {l0 c0 : Nat} {a1 : Option Addr} {l1 c1 : Nat} {a2 : Option Addr} {l2 c2 : Nat} {a3 : Option Addr} {l3 c3 : Nat} {x4 : Bool} : HL.storeA Tryz.prog (H.push (.cells #[z0, z1, z2, z3, z4] 121)) 121 ⟨H.size, 0, none⟩ (.agg #[.slice a0 l0 c0, .slice a1 l1 c1, .slice a2 l2 c2, .slice a3 l3 c3, .bool x4]) = some (H.push (.cells #[.slice a0 l0 c0, .slice a1 l1 c1, .slice a2 l2 c2, .slice a3 l3 c3, .bool x4] 121)) := HL.store_new (z := [z0, z1, z2, z3, z4]) (vs := [.slice a0 l0 c0, .slice a1 l1 c1, .slice a2 l2 c2, .slice a3 l3 c3, .bool x4]) T.size121 rfl (HL.one_all rfl)
@[go_sem] theorem T.ln121 {H : HL.Heap} {z0 z1 z2 z3 z4 : Value} : HL.cellsH (HL.cellH (H.push (.cells #[z0, z1, z2, z3, z4] 121))) ⟨H.size, 0, none⟩ 0 5 = some [z0, z1, z2, z3, z4] := HL.Blk.cells0 (new := [z0, z1, z2, z3, z4]) (HL.Blk.new rfl)
@[go_sem] theorem T.stn145 {H : HL.Heap} {z0 z1 : Value} {x0 : Int} {x1 : Int} : HL.storeA Tryz.prog (H.push (.cells #[z0, z1] 145)) 145 ⟨H.size, 0, none⟩ (.agg #[.int .i64 x0, .int .i64 x1]) = some (H.push (.cells #[.int .i64 x0, .int .i64 x1] 145)) := HL.store_new (z := [z0, z1]) (vs := [.int .i64 x0, .int .i64 x1]) T.size145 rfl (HL.one_all rfl)
@[go_sem] theorem T.ln145 {H : HL.Heap} {z0 z1 : Value} : HL.cellsH (HL.cellH (H.push (.cells #[z0, z1] 145))) ⟨H.size, 0, none⟩ 0 2 = some [z0, z1] := HL.Blk.cells0 (new := [z0, z1]) (HL.Blk.new rfl)
@[go_sem] theorem T.sl9 {H : HL.Heap} {a : HL.Str} : HL.lenV Tryz.prog (HL.full H) 9 (.string (HL.bs a)) = some (.int .i64 a.length) := HL.str_len Tryz.underlying9
@[go_sem] theorem T.si9 {a : HL.Str} {k : IntKind} {n : Int} : HL.indexV Tryz.prog 9 (.string (HL.bs a)) (.int k n) = HL.chk (0 ≤ n ∧ n < a.length) (some (HL.u8v (HL.bt8 a n.toNat))) := HL.str_index Tryz.underlying9
@[go_sem] theorem T.ss9 {a : HL.Str} {k k2 : IntKind} {x y : Int} : HL.sliceV Tryz.prog 9 (.string (HL.bs a)) (some (.int k x)) (some (.int k2 y)) none = HL.chk (0 ≤ y ∧ y ≤ a.length) (HL.chk (0 ≤ x ∧ x ≤ y.toNat) (some (.string (HL.bs ((a.take y.toNat).drop x.toNat))))) := HL.str_sub Tryz.underlying9
@[go_sem] theorem T.so9 {a : HL.Str} {k : IntKind} {x : Int} : HL.sliceV Tryz.prog 9 (.string (HL.bs a)) (some (.int k x)) none none = HL.chk (0 ≤ x ∧ x ≤ a.length) (some (.string (HL.bs (a.drop x.toNat)))) := HL.str_lo Tryz.underlying9
@[go_sem] theorem T.sh9 {a : HL.Str} {k : IntKind} {y : Int} : HL.sliceV Tryz.prog 9 (.string (HL.bs a)) none (some (.int k y)) none = HL.chk (0 ≤ y ∧ y ≤ a.length) (some (.string (HL.bs (a.take y.toNat)))) := HL.str_hi Tryz.underlying9
@[go_sem] theorem T.sl10 {H : HL.Heap} {a : HL.Str} : HL.lenV Tryz.prog (HL.full H) 10 (.string (HL.bs a)) = some (.int .i64 a.length) := HL.str_len Tryz.underlying10
@[go_sem] theorem T.si10 {a : HL.Str} {k : IntKind} {n : Int} : HL.indexV Tryz.prog 10 (.string (HL.bs a)) (.int k n) = HL.chk (0 ≤ n ∧ n < a.length) (some (HL.u8v (HL.bt8 a n.toNat))) := HL.str_index Tryz.underlying10
@[go_sem] theorem T.ss10 {a : HL.Str} {k k2 : IntKind} {x y : Int} : HL.sliceV Tryz.prog 10 (.string (HL.bs a)) (some (.int k x)) (some (.int k2 y)) none = HL.chk (0 ≤ y ∧ y ≤ a.length) (HL.chk (0 ≤ x ∧ x ≤ y.toNat) (some (.string (HL.bs ((a.take y.toNat).drop x.toNat))))) := HL.str_sub Tryz.underlying10
@[go_sem] theorem T.so10 {a : HL.Str} {k : IntKind} {x : Int} : HL.sliceV Tryz.prog 10 (.string (HL.bs a)) (some (.int k x)) none none = HL.chk (0 ≤ x ∧ x ≤ a.length) (some (.string (HL.bs (a.drop x.toNat)))) := HL.str_lo Tryz.underlying10
@[go_sem] theorem T.sh10 {a : HL.Str} {k : IntKind} {y : Int} : HL.sliceV Tryz.prog 10 (.string (HL.bs a)) none (some (.int k y)) none = HL.chk (0 ≤ y ∧ y ≤ a.length) (some (.string (HL.bs (a.take y.toNat)))) := HL.str_hi Tryz.underlying10
@[go_sem] theorem T.sl11 {H : HL.Heap} {a : HL.Str} : HL.lenV Tryz.prog (HL.full H) 11 (.string (HL.bs a)) = some (.int .i64 a.length) := HL.str_len Tryz.underlying11
@[go_sem] theorem T.si11 {a : HL.Str} {k : IntKind} {n : Int} : HL.indexV Tryz.prog 11 (.string (HL.bs a)) (.int k n) = HL.chk (0 ≤ n ∧ n < a.length) (some (HL.u8v (HL.bt8 a n.toNat))) := HL.str_index Tryz.underlying11
@[go_sem] theorem T.ss11 {a : HL.Str} {k k2 : IntKind} {x y : Int} : HL.sliceV Tryz.prog 11 (.string (HL.bs a)) (some (.int k x)) (some (.int k2 y)) none = HL.chk (0 ≤ y ∧ y ≤ a.length) (HL.chk (0 ≤ x ∧ x ≤ y.toNat) (some (.string (HL.bs ((a.take y.toNat).drop x.toNat))))) := HL.str_sub Tryz.underlying11
@[go_sem] theorem T.so11 {a : HL.Str} {k : IntKind} {x : Int} : HL.sliceV Tryz.prog 11 (.string (HL.bs a)) (some (.int k x)) none none = HL.chk (0 ≤ x ∧ x ≤ a.length) (some (.string (HL.bs (a.drop x.toNat)))) := HL.str_lo Tryz.underlying11
@[go_sem] theorem T.sh11 {a : HL.Str} {k : IntKind} {y : Int} : HL.sliceV Tryz.prog 11 (.string (HL.bs a)) none (some (.int k y)) none = HL.chk (0 ≤ y ∧ y ≤ a.length) (some (.string (HL.bs (a.take y.toNat)))) := HL.str_hi Tryz.underlying11
end Go.Proofs
