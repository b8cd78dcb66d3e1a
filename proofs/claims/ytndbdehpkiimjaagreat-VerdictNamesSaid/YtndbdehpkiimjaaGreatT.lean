/- Closed facts on the types of the program. -/
import Derived.Test.YtndbdehpkiimjaaGreatProg
import Derived.Test.YtndbdehpkiimjaaGreatHLStr
namespace Go.Proofs
theorem T.mixed : Tryz.prog.follows .mixedOrders = true := by kernel_rfl
@[go_sem] theorem T.agg3 : HL.aggN Tryz.prog 3 = some none := by kernel_rfl
@[go_sem] theorem T.size3 : HL.sizeT Tryz.prog 3 = some 1 := by kernel_rfl
@[go_sem] theorem T.bytes3 : HL.bytesT Tryz.prog 3 = some 8 := by kernel_rfl
@[go_sem] theorem T.zero3 : HL.zeroT Tryz.prog 3 = some (.int .i64 0) := by kernel_rfl
@[go_sem] theorem T.agg4 : HL.aggN Tryz.prog 4 = some none := by kernel_rfl
@[go_sem] theorem T.size4 : HL.sizeT Tryz.prog 4 = some 1 := by kernel_rfl
@[go_sem] theorem T.bytes4 : HL.bytesT Tryz.prog 4 = some 1 := by kernel_rfl
@[go_sem] theorem T.zero4 : HL.zeroT Tryz.prog 4 = some (.bool false) := by kernel_rfl
@[go_sem] theorem T.agg9 : HL.aggN Tryz.prog 9 = some none := by kernel_rfl
@[go_sem] theorem T.size9 : HL.sizeT Tryz.prog 9 = some 1 := by kernel_rfl
@[go_sem] theorem T.bytes9 : HL.bytesT Tryz.prog 9 = some 16 := by kernel_rfl
@[go_sem] theorem T.zero9 : HL.zeroT Tryz.prog 9 = some (.string ⟨#[]⟩) := by kernel_rfl
@[go_sem] theorem T.agg20 : HL.aggN Tryz.prog 20 = some none := by kernel_rfl
@[go_sem] theorem T.size20 : HL.sizeT Tryz.prog 20 = some 1 := by kernel_rfl
@[go_sem] theorem T.bytes20 : HL.bytesT Tryz.prog 20 = some 16 := by kernel_rfl
@[go_sem] theorem T.zero20 : HL.zeroT Tryz.prog 20 = some (.nilIface) := by kernel_rfl
@[go_sem] theorem T.agg25 : HL.aggN Tryz.prog 25 = some none := by kernel_rfl
@[go_sem] theorem T.size25 : HL.sizeT Tryz.prog 25 = some 1 := by kernel_rfl
@[go_sem] theorem T.bytes25 : HL.bytesT Tryz.prog 25 = some 8 := by kernel_rfl
@[go_sem] theorem T.zero25 : HL.zeroT Tryz.prog 25 = some (.int .i64 0) := by kernel_rfl
@[go_sem] theorem T.agg27 : HL.aggN Tryz.prog 27 = some (some 2) := by kernel_rfl
@[go_sem] theorem T.size27 : HL.sizeT Tryz.prog 27 = some 2 := by kernel_rfl
@[go_sem] theorem T.bytes27 : HL.bytesT Tryz.prog 27 = some 16 := by kernel_rfl
@[go_sem] theorem T.zero27 : HL.zeroT Tryz.prog 27 = some (.agg #[.int .i64 0, .int .i64 0]) := by kernel_rfl
@[go_sem] theorem T.places27 : HL.placesT Tryz.prog 27 = some [(0, 1), (1, 1)] := by kernel_rfl
@[go_sem] theorem T.field27_0 : HL.fieldT Tryz.prog 27 0 = some (0, 25) := by kernel_rfl
@[go_sem] theorem T.fieldO27_0 : HL.fieldO Tryz.prog 27 0 = some 0 := by kernel_rfl
@[go_sem] theorem T.field27_1 : HL.fieldT Tryz.prog 27 1 = some (1, 3) := by kernel_rfl
@[go_sem] theorem T.fieldO27_1 : HL.fieldO Tryz.prog 27 1 = some 1 := by kernel_rfl
@[go_sem] theorem T.agg28 : HL.aggN Tryz.prog 28 = some none := by kernel_rfl
@[go_sem] theorem T.size28 : HL.sizeT Tryz.prog 28 = some 1 := by kernel_rfl
@[go_sem] theorem T.bytes28 : HL.bytesT Tryz.prog 28 = some 24 := by kernel_rfl
@[go_sem] theorem T.zero28 : HL.zeroT Tryz.prog 28 = some (.slice none 0 0) := by kernel_rfl
@[go_sem] theorem T.elem28 : HL.elemT Tryz.prog 28 = some 196 := by kernel_rfl
@[go_sem] theorem T.elemS28 : HL.elemS Tryz.prog 28 = some 4 := by kernel_rfl
@[go_sem] theorem T.agg30 : HL.aggN Tryz.prog 30 = some (some 5) := by kernel_rfl
@[go_sem] theorem T.size30 : HL.sizeT Tryz.prog 30 = some 5 := by kernel_rfl
@[go_sem] theorem T.bytes30 : HL.bytesT Tryz.prog 30 = some 56 := by kernel_rfl
@[go_sem] theorem T.zero30 : HL.zeroT Tryz.prog 30 = some (.agg #[.int .i64 0, .int .i64 0, .int .i64 0, .slice none 0 0, .int .i64 0]) := by kernel_rfl
@[go_sem] theorem T.places30 : HL.placesT Tryz.prog 30 = some [(0, 1), (1, 2), (3, 1), (4, 1)] := by kernel_rfl
@[go_sem] theorem T.field30_0 : HL.fieldT Tryz.prog 30 0 = some (0, 3) := by kernel_rfl
@[go_sem] theorem T.fieldO30_0 : HL.fieldO Tryz.prog 30 0 = some 0 := by kernel_rfl
@[go_sem] theorem T.field30_1 : HL.fieldT Tryz.prog 30 1 = some (1, 27) := by kernel_rfl
@[go_sem] theorem T.fieldO30_1 : HL.fieldO Tryz.prog 30 1 = some 1 := by kernel_rfl
@[go_sem] theorem T.field30_2 : HL.fieldT Tryz.prog 30 2 = some (3, 28) := by kernel_rfl
@[go_sem] theorem T.fieldO30_2 : HL.fieldO Tryz.prog 30 2 = some 3 := by kernel_rfl
@[go_sem] theorem T.field30_3 : HL.fieldT Tryz.prog 30 3 = some (4, 3) := by kernel_rfl
@[go_sem] theorem T.fieldO30_3 : HL.fieldO Tryz.prog 30 3 = some 4 := by kernel_rfl
@[go_sem] theorem T.agg34 : HL.aggN Tryz.prog 34 = some (some 4) := by kernel_rfl
@[go_sem] theorem T.size34 : HL.sizeT Tryz.prog 34 = some 4 := by kernel_rfl
@[go_sem] theorem T.bytes34 : HL.bytesT Tryz.prog 34 = some 24 := by kernel_rfl
@[go_sem] theorem T.zero34 : HL.zeroT Tryz.prog 34 = some (.agg #[.int .i64 0, .int .i64 0, .bool false, .bool false]) := by kernel_rfl
@[go_sem] theorem T.places34 : HL.placesT Tryz.prog 34 = some [(0, 1), (1, 1), (2, 1), (3, 1)] := by kernel_rfl
@[go_sem] theorem T.field34_0 : HL.fieldT Tryz.prog 34 0 = some (0, 3) := by kernel_rfl
@[go_sem] theorem T.fieldO34_0 : HL.fieldO Tryz.prog 34 0 = some 0 := by kernel_rfl
@[go_sem] theorem T.field34_1 : HL.fieldT Tryz.prog 34 1 = some (1, 3) := by kernel_rfl
@[go_sem] theorem T.fieldO34_1 : HL.fieldO Tryz.prog 34 1 = some 1 := by kernel_rfl
@[go_sem] theorem T.field34_2 : HL.fieldT Tryz.prog 34 2 = some (2, 4) := by kernel_rfl
@[go_sem] theorem T.fieldO34_2 : HL.fieldO Tryz.prog 34 2 = some 2 := by kernel_rfl
@[go_sem] theorem T.field34_3 : HL.fieldT Tryz.prog 34 3 = some (3, 4) := by kernel_rfl
@[go_sem] theorem T.fieldO34_3 : HL.fieldO Tryz.prog 34 3 = some 3 := by kernel_rfl
@[go_sem] theorem T.agg36 : HL.aggN Tryz.prog 36 = some none := by kernel_rfl
@[go_sem] theorem T.size36 : HL.sizeT Tryz.prog 36 = some 1 := by kernel_rfl
@[go_sem] theorem T.bytes36 : HL.bytesT Tryz.prog 36 = some 24 := by kernel_rfl
@[go_sem] theorem T.zero36 : HL.zeroT Tryz.prog 36 = some (.slice none 0 0) := by kernel_rfl
@[go_sem] theorem T.elem36 : HL.elemT Tryz.prog 36 = some 69 := by kernel_rfl
@[go_sem] theorem T.elemS36 : HL.elemS Tryz.prog 36 = some 5 := by kernel_rfl
@[go_sem] theorem T.agg43 : HL.aggN Tryz.prog 43 = some none := by kernel_rfl
@[go_sem] theorem T.size43 : HL.sizeT Tryz.prog 43 = some 1 := by kernel_rfl
@[go_sem] theorem T.bytes43 : HL.bytesT Tryz.prog 43 = some 24 := by kernel_rfl
@[go_sem] theorem T.zero43 : HL.zeroT Tryz.prog 43 = some (.slice none 0 0) := by kernel_rfl
@[go_sem] theorem T.elem43 : HL.elemT Tryz.prog 43 = some 3 := by kernel_rfl
@[go_sem] theorem T.elemS43 : HL.elemS Tryz.prog 43 = some 1 := by kernel_rfl
@[go_sem] theorem T.agg45 : HL.aggN Tryz.prog 45 = some (some 7) := by kernel_rfl
@[go_sem] theorem T.size45 : HL.sizeT Tryz.prog 45 = some 7 := by kernel_rfl
@[go_sem] theorem T.bytes45 : HL.bytesT Tryz.prog 45 = some 136 := by kernel_rfl
@[go_sem] theorem T.zero45 : HL.zeroT Tryz.prog 45 = some (.agg #[.slice none 0 0, .int .i64 0, .slice none 0 0, .slice none 0 0, .slice none 0 0, .slice none 0 0, .bool false]) := by kernel_rfl
@[go_sem] theorem T.places45 : HL.placesT Tryz.prog 45 = some [(0, 1), (1, 1), (2, 1), (3, 1), (4, 1), (5, 1), (6, 1)] := by kernel_rfl
@[go_sem] theorem T.field45_0 : HL.fieldT Tryz.prog 45 0 = some (0, 36) := by kernel_rfl
@[go_sem] theorem T.fieldO45_0 : HL.fieldO Tryz.prog 45 0 = some 0 := by kernel_rfl
@[go_sem] theorem T.field45_1 : HL.fieldT Tryz.prog 45 1 = some (1, 3) := by kernel_rfl
@[go_sem] theorem T.fieldO45_1 : HL.fieldO Tryz.prog 45 1 = some 1 := by kernel_rfl
@[go_sem] theorem T.field45_2 : HL.fieldT Tryz.prog 45 2 = some (2, 40) := by kernel_rfl
@[go_sem] theorem T.fieldO45_2 : HL.fieldO Tryz.prog 45 2 = some 2 := by kernel_rfl
@[go_sem] theorem T.field45_3 : HL.fieldT Tryz.prog 45 3 = some (3, 41) := by kernel_rfl
@[go_sem] theorem T.fieldO45_3 : HL.fieldO Tryz.prog 45 3 = some 3 := by kernel_rfl
@[go_sem] theorem T.field45_4 : HL.fieldT Tryz.prog 45 4 = some (4, 42) := by kernel_rfl
@[go_sem] theorem T.fieldO45_4 : HL.fieldO Tryz.prog 45 4 = some 4 := by kernel_rfl
@[go_sem] theorem T.field45_5 : HL.fieldT Tryz.prog 45 5 = some (5, 43) := by kernel_rfl
@[go_sem] theorem T.fieldO45_5 : HL.fieldO Tryz.prog 45 5 = some 5 := by kernel_rfl
@[go_sem] theorem T.field45_6 : HL.fieldT Tryz.prog 45 6 = some (6, 4) := by kernel_rfl
@[go_sem] theorem T.fieldO45_6 : HL.fieldO Tryz.prog 45 6 = some 6 := by kernel_rfl
@[go_sem] theorem T.agg49 : HL.aggN Tryz.prog 49 = some (some 4) := by kernel_rfl
@[go_sem] theorem T.size49 : HL.sizeT Tryz.prog 49 = some 4 := by kernel_rfl
@[go_sem] theorem T.bytes49 : HL.bytesT Tryz.prog 49 = some 48 := by kernel_rfl
@[go_sem] theorem T.zero49 : HL.zeroT Tryz.prog 49 = some (.agg #[.int .i64 0, .int .i64 0, .int .i64 0, .slice none 0 0]) := by kernel_rfl
@[go_sem] theorem T.places49 : HL.placesT Tryz.prog 49 = some [(0, 1), (1, 1), (2, 1), (3, 1)] := by kernel_rfl
@[go_sem] theorem T.field49_0 : HL.fieldT Tryz.prog 49 0 = some (0, 3) := by kernel_rfl
@[go_sem] theorem T.fieldO49_0 : HL.fieldO Tryz.prog 49 0 = some 0 := by kernel_rfl
@[go_sem] theorem T.field49_1 : HL.fieldT Tryz.prog 49 1 = some (1, 3) := by kernel_rfl
@[go_sem] theorem T.fieldO49_1 : HL.fieldO Tryz.prog 49 1 = some 1 := by kernel_rfl
@[go_sem] theorem T.field49_2 : HL.fieldT Tryz.prog 49 2 = some (2, 3) := by kernel_rfl
@[go_sem] theorem T.fieldO49_2 : HL.fieldO Tryz.prog 49 2 = some 2 := by kernel_rfl
@[go_sem] theorem T.field49_3 : HL.fieldT Tryz.prog 49 3 = some (3, 28) := by kernel_rfl
@[go_sem] theorem T.fieldO49_3 : HL.fieldO Tryz.prog 49 3 = some 3 := by kernel_rfl
@[go_sem] theorem T.agg51 : HL.aggN Tryz.prog 51 = some none := by kernel_rfl
@[go_sem] theorem T.size51 : HL.sizeT Tryz.prog 51 = some 1 := by kernel_rfl
@[go_sem] theorem T.bytes51 : HL.bytesT Tryz.prog 51 = some 24 := by kernel_rfl
@[go_sem] theorem T.zero51 : HL.zeroT Tryz.prog 51 = some (.slice none 0 0) := by kernel_rfl
@[go_sem] theorem T.elem51 : HL.elemT Tryz.prog 51 = some 87 := by kernel_rfl
@[go_sem] theorem T.elemS51 : HL.elemS Tryz.prog 51 = some 3 := by kernel_rfl
@[go_sem] theorem T.agg55 : HL.aggN Tryz.prog 55 = some none := by kernel_rfl
@[go_sem] theorem T.size55 : HL.sizeT Tryz.prog 55 = some 1 := by kernel_rfl
@[go_sem] theorem T.bytes55 : HL.bytesT Tryz.prog 55 = some 8 := by kernel_rfl
@[go_sem] theorem T.zero55 : HL.zeroT Tryz.prog 55 = some (.pointer none) := by kernel_rfl
@[go_sem] theorem T.agg57 : HL.aggN Tryz.prog 57 = some (some 2) := by kernel_rfl
@[go_sem] theorem T.size57 : HL.sizeT Tryz.prog 57 = some 2 := by kernel_rfl
@[go_sem] theorem T.bytes57 : HL.bytesT Tryz.prog 57 = some 32 := by kernel_rfl
@[go_sem] theorem T.zero57 : HL.zeroT Tryz.prog 57 = some (.agg #[.slice none 0 0, .int .i64 0]) := by kernel_rfl
@[go_sem] theorem T.places57 : HL.placesT Tryz.prog 57 = some [(0, 1), (1, 1)] := by kernel_rfl
@[go_sem] theorem T.field57_0 : HL.fieldT Tryz.prog 57 0 = some (0, 51) := by kernel_rfl
@[go_sem] theorem T.fieldO57_0 : HL.fieldO Tryz.prog 57 0 = some 0 := by kernel_rfl
@[go_sem] theorem T.field57_1 : HL.fieldT Tryz.prog 57 1 = some (1, 3) := by kernel_rfl
@[go_sem] theorem T.fieldO57_1 : HL.fieldO Tryz.prog 57 1 = some 1 := by kernel_rfl
@[go_sem] theorem T.agg59 : HL.aggN Tryz.prog 59 = some (some 3) := by kernel_rfl
@[go_sem] theorem T.size59 : HL.sizeT Tryz.prog 59 = some 3 := by kernel_rfl
@[go_sem] theorem T.bytes59 : HL.bytesT Tryz.prog 59 = some 40 := by kernel_rfl
@[go_sem] theorem T.zero59 : HL.zeroT Tryz.prog 59 = some (.agg #[.slice none 0 0, .int .i64 0, .int .i64 0]) := by kernel_rfl
@[go_sem] theorem T.places59 : HL.placesT Tryz.prog 59 = some [(0, 2), (2, 1)] := by kernel_rfl
@[go_sem] theorem T.field59_0 : HL.fieldT Tryz.prog 59 0 = some (0, 57) := by kernel_rfl
@[go_sem] theorem T.fieldO59_0 : HL.fieldO Tryz.prog 59 0 = some 0 := by kernel_rfl
@[go_sem] theorem T.field59_1 : HL.fieldT Tryz.prog 59 1 = some (2, 3) := by kernel_rfl
@[go_sem] theorem T.fieldO59_1 : HL.fieldO Tryz.prog 59 1 = some 2 := by kernel_rfl
@[go_sem] theorem T.agg61 : HL.aggN Tryz.prog 61 = some none := by kernel_rfl
@[go_sem] theorem T.size61 : HL.sizeT Tryz.prog 61 = some 1 := by kernel_rfl
@[go_sem] theorem T.bytes61 : HL.bytesT Tryz.prog 61 = some 8 := by kernel_rfl
@[go_sem] theorem T.zero61 : HL.zeroT Tryz.prog 61 = some (.pointer none) := by kernel_rfl
@[go_sem] theorem T.agg67 : HL.aggN Tryz.prog 67 = some none := by kernel_rfl
@[go_sem] theorem T.size67 : HL.sizeT Tryz.prog 67 = some 1 := by kernel_rfl
@[go_sem] theorem T.bytes67 : HL.bytesT Tryz.prog 67 = some 24 := by kernel_rfl
@[go_sem] theorem T.zero67 : HL.zeroT Tryz.prog 67 = some (.slice none 0 0) := by kernel_rfl
@[go_sem] theorem T.elem67 : HL.elemT Tryz.prog 67 = some 9 := by kernel_rfl
@[go_sem] theorem T.elemS67 : HL.elemS Tryz.prog 67 = some 1 := by kernel_rfl
@[go_sem] theorem T.agg69 : HL.aggN Tryz.prog 69 = some (some 5) := by kernel_rfl
@[go_sem] theorem T.size69 : HL.sizeT Tryz.prog 69 = some 5 := by kernel_rfl
@[go_sem] theorem T.bytes69 : HL.bytesT Tryz.prog 69 = some 88 := by kernel_rfl
@[go_sem] theorem T.zero69 : HL.zeroT Tryz.prog 69 = some (.agg #[.int .i64 0, .slice none 0 0, .slice none 0 0, .slice none 0 0, .int .i64 0]) := by kernel_rfl
@[go_sem] theorem T.places69 : HL.placesT Tryz.prog 69 = some [(0, 1), (1, 1), (2, 1), (3, 1), (4, 1)] := by kernel_rfl
@[go_sem] theorem T.field69_0 : HL.fieldT Tryz.prog 69 0 = some (0, 3) := by kernel_rfl
@[go_sem] theorem T.fieldO69_0 : HL.fieldO Tryz.prog 69 0 = some 0 := by kernel_rfl
@[go_sem] theorem T.field69_1 : HL.fieldT Tryz.prog 69 1 = some (1, 67) := by kernel_rfl
@[go_sem] theorem T.fieldO69_1 : HL.fieldO Tryz.prog 69 1 = some 1 := by kernel_rfl
@[go_sem] theorem T.field69_2 : HL.fieldT Tryz.prog 69 2 = some (2, 43) := by kernel_rfl
@[go_sem] theorem T.fieldO69_2 : HL.fieldO Tryz.prog 69 2 = some 2 := by kernel_rfl
@[go_sem] theorem T.field69_3 : HL.fieldT Tryz.prog 69 3 = some (3, 43) := by kernel_rfl
@[go_sem] theorem T.fieldO69_3 : HL.fieldO Tryz.prog 69 3 = some 3 := by kernel_rfl
@[go_sem] theorem T.field69_4 : HL.fieldT Tryz.prog 69 4 = some (4, 3) := by kernel_rfl
@[go_sem] theorem T.fieldO69_4 : HL.fieldO Tryz.prog 69 4 = some 4 := by kernel_rfl
@[go_sem] theorem T.agg87 : HL.aggN Tryz.prog 87 = some (some 3) := by kernel_rfl
@[go_sem] theorem T.size87 : HL.sizeT Tryz.prog 87 = some 3 := by kernel_rfl
@[go_sem] theorem T.bytes87 : HL.bytesT Tryz.prog 87 = some 32 := by kernel_rfl
@[go_sem] theorem T.zero87 : HL.zeroT Tryz.prog 87 = some (.agg #[.int .i64 0, .string ⟨#[]⟩, .int .i64 0]) := by kernel_rfl
@[go_sem] theorem T.places87 : HL.placesT Tryz.prog 87 = some [(0, 1), (1, 1), (2, 1)] := by kernel_rfl
@[go_sem] theorem T.field87_0 : HL.fieldT Tryz.prog 87 0 = some (0, 3) := by kernel_rfl
@[go_sem] theorem T.fieldO87_0 : HL.fieldO Tryz.prog 87 0 = some 0 := by kernel_rfl
@[go_sem] theorem T.field87_1 : HL.fieldT Tryz.prog 87 1 = some (1, 9) := by kernel_rfl
@[go_sem] theorem T.fieldO87_1 : HL.fieldO Tryz.prog 87 1 = some 1 := by kernel_rfl
@[go_sem] theorem T.field87_2 : HL.fieldT Tryz.prog 87 2 = some (2, 3) := by kernel_rfl
@[go_sem] theorem T.fieldO87_2 : HL.fieldO Tryz.prog 87 2 = some 2 := by kernel_rfl
@[go_sem] theorem T.agg89 : HL.aggN Tryz.prog 89 = some none := by kernel_rfl
@[go_sem] theorem T.size89 : HL.sizeT Tryz.prog 89 = some 1 := by kernel_rfl
@[go_sem] theorem T.bytes89 : HL.bytesT Tryz.prog 89 = some 24 := by kernel_rfl
@[go_sem] theorem T.zero89 : HL.zeroT Tryz.prog 89 = some (.slice none 0 0) := by kernel_rfl
@[go_sem] theorem T.elem89 : HL.elemT Tryz.prog 89 = some 61 := by kernel_rfl
@[go_sem] theorem T.elemS89 : HL.elemS Tryz.prog 89 = some 1 := by kernel_rfl
@[go_sem] theorem T.agg91 : HL.aggN Tryz.prog 91 = some (some 6) := by kernel_rfl
@[go_sem] theorem T.size91 : HL.sizeT Tryz.prog 91 = some 6 := by kernel_rfl
@[go_sem] theorem T.bytes91 : HL.bytesT Tryz.prog 91 = some 112 := by kernel_rfl
@[go_sem] theorem T.zero91 : HL.zeroT Tryz.prog 91 = some (.agg #[.int .i64 0, .slice none 0 0, .slice none 0 0, .slice none 0 0, .int .i64 0, .slice none 0 0]) := by kernel_rfl
@[go_sem] theorem T.places91 : HL.placesT Tryz.prog 91 = some [(0, 5), (5, 1)] := by kernel_rfl
@[go_sem] theorem T.field91_0 : HL.fieldT Tryz.prog 91 0 = some (0, 69) := by kernel_rfl
@[go_sem] theorem T.fieldO91_0 : HL.fieldO Tryz.prog 91 0 = some 0 := by kernel_rfl
@[go_sem] theorem T.field91_1 : HL.fieldT Tryz.prog 91 1 = some (5, 89) := by kernel_rfl
@[go_sem] theorem T.fieldO91_1 : HL.fieldO Tryz.prog 91 1 = some 5 := by kernel_rfl
@[go_sem] theorem T.agg145 : HL.aggN Tryz.prog 145 = some none := by kernel_rfl
@[go_sem] theorem T.size145 : HL.sizeT Tryz.prog 145 = some 1 := by kernel_rfl
@[go_sem] theorem T.bytes145 : HL.bytesT Tryz.prog 145 = some 8 := by kernel_rfl
@[go_sem] theorem T.zero145 : HL.zeroT Tryz.prog 145 = some (.pointer none) := by kernel_rfl
@[go_sem] theorem T.agg196 : HL.aggN Tryz.prog 196 = some (some 4) := by kernel_rfl
@[go_sem] theorem T.size196 : HL.sizeT Tryz.prog 196 = some 4 := by kernel_rfl
@[go_sem] theorem T.bytes196 : HL.bytesT Tryz.prog 196 = some 32 := by kernel_rfl
@[go_sem] theorem T.zero196 : HL.zeroT Tryz.prog 196 = some (.agg #[.int .i64 0, .int .i64 0, .int .i64 0, .int .i64 0]) := by kernel_rfl
@[go_sem] theorem T.places196 : HL.placesT Tryz.prog 196 = some [(0, 1), (1, 1), (2, 1), (3, 1)] := by kernel_rfl
@[go_sem] theorem T.field196_0 : HL.fieldT Tryz.prog 196 0 = some (0, 3) := by kernel_rfl
@[go_sem] theorem T.fieldO196_0 : HL.fieldO Tryz.prog 196 0 = some 0 := by kernel_rfl
@[go_sem] theorem T.field196_1 : HL.fieldT Tryz.prog 196 1 = some (1, 3) := by kernel_rfl
@[go_sem] theorem T.fieldO196_1 : HL.fieldO Tryz.prog 196 1 = some 1 := by kernel_rfl
@[go_sem] theorem T.field196_2 : HL.fieldT Tryz.prog 196 2 = some (2, 3) := by kernel_rfl
@[go_sem] theorem T.fieldO196_2 : HL.fieldO Tryz.prog 196 2 = some 2 := by kernel_rfl
@[go_sem] theorem T.field196_3 : HL.fieldT Tryz.prog 196 3 = some (3, 3) := by kernel_rfl
@[go_sem] theorem T.fieldO196_3 : HL.fieldO Tryz.prog 196 3 = some 3 := by kernel_rfl
theorem T.el28 : HL.ElT Tryz.prog 28 196 4 32 (.agg #[.int .i64 0, .int .i64 0, .int .i64 0, .int .i64 0]) := ⟨T.elem28, T.size196, T.bytes196, T.zero196⟩
@[go_sem] theorem T.bs28_0 {H : HL.Heap} : HL.buildSliceV Tryz.prog H 28 0 [] = some (.slice (some ⟨H.size, 0, none⟩) 0 0, H.push (.cells #[] 196)) := HL.bs_zero T.elem28 T.size196 T.zero196
theorem T.el36 : HL.ElT Tryz.prog 36 69 5 88 (.agg #[.int .i64 0, .slice none 0 0, .slice none 0 0, .slice none 0 0, .int .i64 0]) := ⟨T.elem36, T.size69, T.bytes69, T.zero69⟩
@[go_sem] theorem T.bs36_0 {H : HL.Heap} : HL.buildSliceV Tryz.prog H 36 0 [] = some (.slice (some ⟨H.size, 0, none⟩) 0 0, H.push (.cells #[] 69)) := HL.bs_zero T.elem36 T.size69 T.zero69
theorem T.el43 : HL.ElT Tryz.prog 43 3 1 8 (.int .i64 0) := ⟨T.elem43, T.size3, T.bytes3, T.zero3⟩
@[go_sem] theorem T.bs43_1 {H : HL.Heap} {k0 : IntKind} {n0 : Int} : HL.buildSliceV Tryz.prog H 43 1 [(0, .int k0 n0)] = some (.slice (some ⟨H.size, 0, none⟩) 1 1, H.push (.cells #[.int k0 n0] 3)) := HL.bs_one T.elem43 T.size3 T.zero3 rfl
@[go_sem] theorem T.bs43_2 {H : HL.Heap} {k0 : IntKind} {n0 : Int} {k1 : IntKind} {n1 : Int} : HL.buildSliceV Tryz.prog H 43 2 [(0, .int k0 n0), (1, .int k1 n1)] = some (.slice (some ⟨H.size, 0, none⟩) 2 2, H.push (.cells #[.int k0 n0, .int k1 n1] 3)) := HL.bs_two T.elem43 T.size3 T.zero3 rfl rfl
@[go_sem] theorem T.bs43_3 {H : HL.Heap} {k0 : IntKind} {n0 : Int} {k1 : IntKind} {n1 : Int} {k2 : IntKind} {n2 : Int} : HL.buildSliceV Tryz.prog H 43 3 [(0, .int k0 n0), (1, .int k1 n1), (2, .int k2 n2)] = some (.slice (some ⟨H.size, 0, none⟩) 3 3, H.push (.cells #[.int k0 n0, .int k1 n1, .int k2 n2] 3)) := HL.bs_three T.elem43 T.size3 T.zero3 rfl rfl rfl
@[go_sem] theorem T.bs43_4 {H : HL.Heap} {k0 : IntKind} {n0 : Int} {k1 : IntKind} {n1 : Int} {k2 : IntKind} {n2 : Int} {k3 : IntKind} {n3 : Int} : HL.buildSliceV Tryz.prog H 43 4 [(0, .int k0 n0), (1, .int k1 n1), (2, .int k2 n2), (3, .int k3 n3)] = some (.slice (some ⟨H.size, 0, none⟩) 4 4, H.push (.cells #[.int k0 n0, .int k1 n1, .int k2 n2, .int k3 n3] 3)) := HL.bs_four T.elem43 T.size3 T.zero3 rfl rfl rfl rfl
@[go_sem] theorem T.bs43_0 {H : HL.Heap} : HL.buildSliceV Tryz.prog H 43 0 [] = some (.slice (some ⟨H.size, 0, none⟩) 0 0, H.push (.cells #[] 3)) := HL.bs_zero T.elem43 T.size3 T.zero3
theorem T.el51 : HL.ElT Tryz.prog 51 87 3 32 (.agg #[.int .i64 0, .string ⟨#[]⟩, .int .i64 0]) := ⟨T.elem51, T.size87, T.bytes87, T.zero87⟩
@[go_sem] theorem T.bs51_0 {H : HL.Heap} : HL.buildSliceV Tryz.prog H 51 0 [] = some (.slice (some ⟨H.size, 0, none⟩) 0 0, H.push (.cells #[] 87)) := HL.bs_zero T.elem51 T.size87 T.zero87
theorem T.el67 : HL.ElT Tryz.prog 67 9 1 16 (.string ⟨#[]⟩) := ⟨T.elem67, T.size9, T.bytes9, T.zero9⟩
@[go_sem] theorem T.bs67_1 {H : HL.Heap} {n0 : ByteArray} : HL.buildSliceV Tryz.prog H 67 1 [(0, .string n0)] = some (.slice (some ⟨H.size, 0, none⟩) 1 1, H.push (.cells #[.string n0] 9)) := HL.bs_one T.elem67 T.size9 T.zero9 rfl
@[go_sem] theorem T.bs67_2 {H : HL.Heap} {n0 : ByteArray} {n1 : ByteArray} : HL.buildSliceV Tryz.prog H 67 2 [(0, .string n0), (1, .string n1)] = some (.slice (some ⟨H.size, 0, none⟩) 2 2, H.push (.cells #[.string n0, .string n1] 9)) := HL.bs_two T.elem67 T.size9 T.zero9 rfl rfl
@[go_sem] theorem T.bs67_3 {H : HL.Heap} {n0 : ByteArray} {n1 : ByteArray} {n2 : ByteArray} : HL.buildSliceV Tryz.prog H 67 3 [(0, .string n0), (1, .string n1), (2, .string n2)] = some (.slice (some ⟨H.size, 0, none⟩) 3 3, H.push (.cells #[.string n0, .string n1, .string n2] 9)) := HL.bs_three T.elem67 T.size9 T.zero9 rfl rfl rfl
@[go_sem] theorem T.bs67_4 {H : HL.Heap} {n0 : ByteArray} {n1 : ByteArray} {n2 : ByteArray} {n3 : ByteArray} : HL.buildSliceV Tryz.prog H 67 4 [(0, .string n0), (1, .string n1), (2, .string n2), (3, .string n3)] = some (.slice (some ⟨H.size, 0, none⟩) 4 4, H.push (.cells #[.string n0, .string n1, .string n2, .string n3] 9)) := HL.bs_four T.elem67 T.size9 T.zero9 rfl rfl rfl rfl
@[go_sem] theorem T.bs67_0 {H : HL.Heap} : HL.buildSliceV Tryz.prog H 67 0 [] = some (.slice (some ⟨H.size, 0, none⟩) 0 0, H.push (.cells #[] 9)) := HL.bs_zero T.elem67 T.size9 T.zero9
theorem T.el89 : HL.ElT Tryz.prog 89 61 1 8 (.pointer none) := ⟨T.elem89, T.size61, T.bytes61, T.zero61⟩
@[go_sem] theorem T.bs89_1 {H : HL.Heap} {a0 : Option Addr} : HL.buildSliceV Tryz.prog H 89 1 [(0, .pointer a0)] = some (.slice (some ⟨H.size, 0, none⟩) 1 1, H.push (.cells #[.pointer a0] 61)) := HL.bs_one T.elem89 T.size61 T.zero61 rfl
@[go_sem] theorem T.bs89_2 {H : HL.Heap} {a0 : Option Addr} {a1 : Option Addr} : HL.buildSliceV Tryz.prog H 89 2 [(0, .pointer a0), (1, .pointer a1)] = some (.slice (some ⟨H.size, 0, none⟩) 2 2, H.push (.cells #[.pointer a0, .pointer a1] 61)) := HL.bs_two T.elem89 T.size61 T.zero61 rfl rfl
@[go_sem] theorem T.bs89_3 {H : HL.Heap} {a0 : Option Addr} {a1 : Option Addr} {a2 : Option Addr} : HL.buildSliceV Tryz.prog H 89 3 [(0, .pointer a0), (1, .pointer a1), (2, .pointer a2)] = some (.slice (some ⟨H.size, 0, none⟩) 3 3, H.push (.cells #[.pointer a0, .pointer a1, .pointer a2] 61)) := HL.bs_three T.elem89 T.size61 T.zero61 rfl rfl rfl
@[go_sem] theorem T.bs89_4 {H : HL.Heap} {a0 : Option Addr} {a1 : Option Addr} {a2 : Option Addr} {a3 : Option Addr} : HL.buildSliceV Tryz.prog H 89 4 [(0, .pointer a0), (1, .pointer a1), (2, .pointer a2), (3, .pointer a3)] = some (.slice (some ⟨H.size, 0, none⟩) 4 4, H.push (.cells #[.pointer a0, .pointer a1, .pointer a2, .pointer a3] 61)) := HL.bs_four T.elem89 T.size61 T.zero61 rfl rfl rfl rfl
@[go_sem] theorem T.bs89_0 {H : HL.Heap} : HL.buildSliceV Tryz.prog H 89 0 [] = some (.slice (some ⟨H.size, 0, none⟩) 0 0, H.push (.cells #[] 61)) := HL.bs_zero T.elem89 T.size61 T.zero61
@[go_sem] theorem T.pe55 {H : HL.Heap} {xo yo : Operand} {a : Addr} : HL.binV Tryz.prog (HL.full H) .eql 55 xo yo (.pointer (some a)) (.pointer none) = some (.bool false) := HL.bin_ptr_eql Tryz.underlying55
@[go_sem] theorem T.pn55 {H : HL.Heap} {xo yo : Operand} {a : Addr} : HL.binV Tryz.prog (HL.full H) .neq 55 xo yo (.pointer (some a)) (.pointer none) = some (.bool true) := HL.bin_ptr_neq Tryz.underlying55
@[go_sem] theorem T.ne55 {H : HL.Heap} {xo yo : Operand} : HL.binV Tryz.prog (HL.full H) .eql 55 xo yo (.pointer none) (.pointer none) = some (.bool true) := HL.bin_nil_eql Tryz.underlying55
@[go_sem] theorem T.nn55 {H : HL.Heap} {xo yo : Operand} : HL.binV Tryz.prog (HL.full H) .neq 55 xo yo (.pointer none) (.pointer none) = some (.bool false) := HL.bin_nil_neq Tryz.underlying55
@[go_sem] theorem T.pe61 {H : HL.Heap} {xo yo : Operand} {a : Addr} : HL.binV Tryz.prog (HL.full H) .eql 61 xo yo (.pointer (some a)) (.pointer none) = some (.bool false) := HL.bin_ptr_eql Tryz.underlying61
@[go_sem] theorem T.pn61 {H : HL.Heap} {xo yo : Operand} {a : Addr} : HL.binV Tryz.prog (HL.full H) .neq 61 xo yo (.pointer (some a)) (.pointer none) = some (.bool true) := HL.bin_ptr_neq Tryz.underlying61
@[go_sem] theorem T.ne61 {H : HL.Heap} {xo yo : Operand} : HL.binV Tryz.prog (HL.full H) .eql 61 xo yo (.pointer none) (.pointer none) = some (.bool true) := HL.bin_nil_eql Tryz.underlying61
@[go_sem] theorem T.nn61 {H : HL.Heap} {xo yo : Operand} : HL.binV Tryz.prog (HL.full H) .neq 61 xo yo (.pointer none) (.pointer none) = some (.bool false) := HL.bin_nil_neq Tryz.underlying61
@[go_sem] theorem T.pe145 {H : HL.Heap} {xo yo : Operand} {a : Addr} : HL.binV Tryz.prog (HL.full H) .eql 145 xo yo (.pointer (some a)) (.pointer none) = some (.bool false) := HL.bin_ptr_eql Tryz.underlying145
@[go_sem] theorem T.pn145 {H : HL.Heap} {xo yo : Operand} {a : Addr} : HL.binV Tryz.prog (HL.full H) .neq 145 xo yo (.pointer (some a)) (.pointer none) = some (.bool true) := HL.bin_ptr_neq Tryz.underlying145
@[go_sem] theorem T.ne145 {H : HL.Heap} {xo yo : Operand} : HL.binV Tryz.prog (HL.full H) .eql 145 xo yo (.pointer none) (.pointer none) = some (.bool true) := HL.bin_nil_eql Tryz.underlying145
@[go_sem] theorem T.nn145 {H : HL.Heap} {xo yo : Operand} : HL.binV Tryz.prog (HL.full H) .neq 145 xo yo (.pointer none) (.pointer none) = some (.bool false) := HL.bin_nil_neq Tryz.underlying145
@[go_sem] theorem T.be4 {H : HL.Heap} {xo yo : Operand} {x y : Bool} : HL.binV Tryz.prog (HL.full H) .eql 4 xo yo (.bool x) (.bool y) = some (.bool (x == y)) := HL.bin_bool_eql Tryz.underlying4
@[go_sem] theorem T.bn4 {H : HL.Heap} {xo yo : Operand} {x y : Bool} : HL.binV Tryz.prog (HL.full H) .neq 4 xo yo (.bool x) (.bool y) = some (.bool (!(x == y))) := HL.bin_bool_neq Tryz.underlying4
@[go_sem] theorem T.se27 {H : HL.Heap} {xo yo : Operand} {a0 b0 : Int} {a1 b1 : Int} : HL.binV Tryz.prog (HL.full H) .eql 27 xo yo (.agg #[.int .i64 a0, .int .i64 a1]) (.agg #[.int .i64 b0, .int .i64 b1]) = some (.bool ((decide (a0 = b0 ∧ a1 = b1 ∧ True)))) := (HL.bin_struct (xs := [.int .i64 a0, .int .i64 a1]) (ys := [.int .i64 b0, .int .i64 b1]) Tryz.underlying27 (by kernel_rfl) (by kernel_rfl) (HL.eqF_int (by decide) Tryz.underlying25 rfl rfl (HL.eqF_int (by decide) Tryz.underlying3 rfl rfl HL.eqF_nil))).1
@[go_sem] theorem T.sn27 {H : HL.Heap} {xo yo : Operand} {a0 b0 : Int} {a1 b1 : Int} : HL.binV Tryz.prog (HL.full H) .neq 27 xo yo (.agg #[.int .i64 a0, .int .i64 a1]) (.agg #[.int .i64 b0, .int .i64 b1]) = some (.bool (!(decide (a0 = b0 ∧ a1 = b1 ∧ True)))) := (HL.bin_struct (xs := [.int .i64 a0, .int .i64 a1]) (ys := [.int .i64 b0, .int .i64 b1]) Tryz.underlying27 (by kernel_rfl) (by kernel_rfl) (HL.eqF_int (by decide) Tryz.underlying25 rfl rfl (HL.eqF_int (by decide) Tryz.underlying3 rfl rfl HL.eqF_nil))).2
@[go_sem] theorem T.se34 {H : HL.Heap} {xo yo : Operand} {a0 b0 : Int} {a1 b1 : Int} {a2 b2 : Bool} {a3 b3 : Bool} : HL.binV Tryz.prog (HL.full H) .eql 34 xo yo (.agg #[.int .i64 a0, .int .i64 a1, .bool a2, .bool a3]) (.agg #[.int .i64 b0, .int .i64 b1, .bool b2, .bool b3]) = some (.bool ((decide (a0 = b0 ∧ a1 = b1 ∧ a2 = b2 ∧ a3 = b3 ∧ True)))) := (HL.bin_struct (xs := [.int .i64 a0, .int .i64 a1, .bool a2, .bool a3]) (ys := [.int .i64 b0, .int .i64 b1, .bool b2, .bool b3]) Tryz.underlying34 (by kernel_rfl) (by kernel_rfl) (HL.eqF_int (by decide) Tryz.underlying3 rfl rfl (HL.eqF_int (by decide) Tryz.underlying3 rfl rfl (HL.eqF_bool (by decide) Tryz.underlying4 rfl rfl (HL.eqF_bool (by decide) Tryz.underlying4 rfl rfl HL.eqF_nil))))).1
@[go_sem] theorem T.sn34 {H : HL.Heap} {xo yo : Operand} {a0 b0 : Int} {a1 b1 : Int} {a2 b2 : Bool} {a3 b3 : Bool} : HL.binV Tryz.prog (HL.full H) .neq 34 xo yo (.agg #[.int .i64 a0, .int .i64 a1, .bool a2, .bool a3]) (.agg #[.int .i64 b0, .int .i64 b1, .bool b2, .bool b3]) = some (.bool (!(decide (a0 = b0 ∧ a1 = b1 ∧ a2 = b2 ∧ a3 = b3 ∧ True)))) := (HL.bin_struct (xs := [.int .i64 a0, .int .i64 a1, .bool a2, .bool a3]) (ys := [.int .i64 b0, .int .i64 b1, .bool b2, .bool b3]) Tryz.underlying34 (by kernel_rfl) (by kernel_rfl) (HL.eqF_int (by decide) Tryz.underlying3 rfl rfl (HL.eqF_int (by decide) Tryz.underlying3 rfl rfl (HL.eqF_bool (by decide) Tryz.underlying4 rfl rfl (HL.eqF_bool (by decide) Tryz.underlying4 rfl rfl HL.eqF_nil))))).2
@[go_sem] theorem T.se87 {H : HL.Heap} {xo yo : Operand} {a0 b0 : Int} {a1 b1 : ByteArray} {a2 b2 : Int} : HL.binV Tryz.prog (HL.full H) .eql 87 xo yo (.agg #[.int .i64 a0, .string a1, .int .i64 a2]) (.agg #[.int .i64 b0, .string b1, .int .i64 b2]) = some (.bool ((decide (a0 = b0 ∧ a1 = b1 ∧ a2 = b2 ∧ True)))) := (HL.bin_struct (xs := [.int .i64 a0, .string a1, .int .i64 a2]) (ys := [.int .i64 b0, .string b1, .int .i64 b2]) Tryz.underlying87 (by kernel_rfl) (by kernel_rfl) (HL.eqF_int (by decide) Tryz.underlying3 rfl rfl (HL.eqF_str (by decide) Tryz.underlying9 rfl rfl (HL.eqF_int (by decide) Tryz.underlying3 rfl rfl HL.eqF_nil)))).1
@[go_sem] theorem T.sn87 {H : HL.Heap} {xo yo : Operand} {a0 b0 : Int} {a1 b1 : ByteArray} {a2 b2 : Int} : HL.binV Tryz.prog (HL.full H) .neq 87 xo yo (.agg #[.int .i64 a0, .string a1, .int .i64 a2]) (.agg #[.int .i64 b0, .string b1, .int .i64 b2]) = some (.bool (!(decide (a0 = b0 ∧ a1 = b1 ∧ a2 = b2 ∧ True)))) := (HL.bin_struct (xs := [.int .i64 a0, .string a1, .int .i64 a2]) (ys := [.int .i64 b0, .string b1, .int .i64 b2]) Tryz.underlying87 (by kernel_rfl) (by kernel_rfl) (HL.eqF_int (by decide) Tryz.underlying3 rfl rfl (HL.eqF_str (by decide) Tryz.underlying9 rfl rfl (HL.eqF_int (by decide) Tryz.underlying3 rfl rfl HL.eqF_nil)))).2
@[go_sem] theorem T.se196 {H : HL.Heap} {xo yo : Operand} {a0 b0 : Int} {a1 b1 : Int} {a2 b2 : Int} {a3 b3 : Int} : HL.binV Tryz.prog (HL.full H) .eql 196 xo yo (.agg #[.int .i64 a0, .int .i64 a1, .int .i64 a2, .int .i64 a3]) (.agg #[.int .i64 b0, .int .i64 b1, .int .i64 b2, .int .i64 b3]) = some (.bool ((decide (a0 = b0 ∧ a1 = b1 ∧ a2 = b2 ∧ a3 = b3 ∧ True)))) := (HL.bin_struct (xs := [.int .i64 a0, .int .i64 a1, .int .i64 a2, .int .i64 a3]) (ys := [.int .i64 b0, .int .i64 b1, .int .i64 b2, .int .i64 b3]) Tryz.underlying196 (by kernel_rfl) (by kernel_rfl) (HL.eqF_int (by decide) Tryz.underlying3 rfl rfl (HL.eqF_int (by decide) Tryz.underlying3 rfl rfl (HL.eqF_int (by decide) Tryz.underlying3 rfl rfl (HL.eqF_int (by decide) Tryz.underlying3 rfl rfl HL.eqF_nil))))).1
@[go_sem] theorem T.sn196 {H : HL.Heap} {xo yo : Operand} {a0 b0 : Int} {a1 b1 : Int} {a2 b2 : Int} {a3 b3 : Int} : HL.binV Tryz.prog (HL.full H) .neq 196 xo yo (.agg #[.int .i64 a0, .int .i64 a1, .int .i64 a2, .int .i64 a3]) (.agg #[.int .i64 b0, .int .i64 b1, .int .i64 b2, .int .i64 b3]) = some (.bool (!(decide (a0 = b0 ∧ a1 = b1 ∧ a2 = b2 ∧ a3 = b3 ∧ True)))) := (HL.bin_struct (xs := [.int .i64 a0, .int .i64 a1, .int .i64 a2, .int .i64 a3]) (ys := [.int .i64 b0, .int .i64 b1, .int .i64 b2, .int .i64 b3]) Tryz.underlying196 (by kernel_rfl) (by kernel_rfl) (HL.eqF_int (by decide) Tryz.underlying3 rfl rfl (HL.eqF_int (by decide) Tryz.underlying3 rfl rfl (HL.eqF_int (by decide) Tryz.underlying3 rfl rfl (HL.eqF_int (by decide) Tryz.underlying3 rfl rfl HL.eqF_nil))))).2
@[go_sem] theorem T.cv3_3 {V : HL.HV} {k : IntKind} {n : Int} : HL.convV Tryz.prog V 3 3 (.int k n) = some (.int .i64 (IntKind.i64.wrap n)) := HL.conv_int Tryz.underlying3 Tryz.underlying3
@[go_sem] theorem T.cv3_25 {V : HL.HV} {k : IntKind} {n : Int} : HL.convV Tryz.prog V 3 25 (.int k n) = some (.int .i64 (IntKind.i64.wrap n)) := HL.conv_int Tryz.underlying3 Tryz.underlying25
@[go_sem] theorem T.cv25_3 {V : HL.HV} {k : IntKind} {n : Int} : HL.convV Tryz.prog V 25 3 (.int k n) = some (.int .i64 (IntKind.i64.wrap n)) := HL.conv_int Tryz.underlying25 Tryz.underlying3
@[go_sem] theorem T.cv25_25 {V : HL.HV} {k : IntKind} {n : Int} : HL.convV Tryz.prog V 25 25 (.int k n) = some (.int .i64 (IntKind.i64.wrap n)) := HL.conv_int Tryz.underlying25 Tryz.underlying25
@[go_sem] theorem T.bs28_1 {H : HL.Heap} {x0 : Int} {x1 : Int} {x2 : Int} {x3 : Int} : HL.buildSliceV Tryz.prog H 28 1 [(0, .agg #[.int .i64 x0, .int .i64 x1, .int .i64 x2, .int .i64 x3])] = some (.slice (some ⟨H.size, 0, none⟩) 1 1, H.push (.cells #[.int .i64 x0, .int .i64 x1, .int .i64 x2, .int .i64 x3] 196)) := HL.bsl_of (vs := [.agg #[.int .i64 x0, .int .i64 x1, .int .i64 x2, .int .i64 x3]]) T.elem28 T.size196 T.zero196 (Nat.le_of_ble_eq_true rfl) rfl rfl
@[go_sem] theorem T.bs28_2 {H : HL.Heap} {x0 : Int} {x1 : Int} {x2 : Int} {x3 : Int} {x4 : Int} {x5 : Int} {x6 : Int} {x7 : Int} : HL.buildSliceV Tryz.prog H 28 2 [(0, .agg #[.int .i64 x0, .int .i64 x1, .int .i64 x2, .int .i64 x3]), (1, .agg #[.int .i64 x4, .int .i64 x5, .int .i64 x6, .int .i64 x7])] = some (.slice (some ⟨H.size, 0, none⟩) 2 2, H.push (.cells #[.int .i64 x0, .int .i64 x1, .int .i64 x2, .int .i64 x3, .int .i64 x4, .int .i64 x5, .int .i64 x6, .int .i64 x7] 196)) := HL.bsl_of (vs := [.agg #[.int .i64 x0, .int .i64 x1, .int .i64 x2, .int .i64 x3], .agg #[.int .i64 x4, .int .i64 x5, .int .i64 x6, .int .i64 x7]]) T.elem28 T.size196 T.zero196 (Nat.le_of_ble_eq_true rfl) rfl rfl
@[go_sem] theorem T.bs28_3 {H : HL.Heap} {x0 : Int} {x1 : Int} {x2 : Int} {x3 : Int} {x4 : Int} {x5 : Int} {x6 : Int} {x7 : Int} {x8 : Int} {x9 : Int} {x10 : Int} {x11 : Int} : HL.buildSliceV Tryz.prog H 28 3 [(0, .agg #[.int .i64 x0, .int .i64 x1, .int .i64 x2, .int .i64 x3]), (1, .agg #[.int .i64 x4, .int .i64 x5, .int .i64 x6, .int .i64 x7]), (2, .agg #[.int .i64 x8, .int .i64 x9, .int .i64 x10, .int .i64 x11])] = some (.slice (some ⟨H.size, 0, none⟩) 3 3, H.push (.cells #[.int .i64 x0, .int .i64 x1, .int .i64 x2, .int .i64 x3, .int .i64 x4, .int .i64 x5, .int .i64 x6, .int .i64 x7, .int .i64 x8, .int .i64 x9, .int .i64 x10, .int .i64 x11] 196)) := HL.bsl_of (vs := [.agg #[.int .i64 x0, .int .i64 x1, .int .i64 x2, .int .i64 x3], .agg #[.int .i64 x4, .int .i64 x5, .int .i64 x6, .int .i64 x7], .agg #[.int .i64 x8, .int .i64 x9, .int .i64 x10, .int .i64 x11]]) T.elem28 T.size196 T.zero196 (Nat.le_of_ble_eq_true rfl) rfl rfl
@[go_sem] theorem T.bs28_4 {H : HL.Heap} {x0 : Int} {x1 : Int} {x2 : Int} {x3 : Int} {x4 : Int} {x5 : Int} {x6 : Int} {x7 : Int} {x8 : Int} {x9 : Int} {x10 : Int} {x11 : Int} {x12 : Int} {x13 : Int} {x14 : Int} {x15 : Int} : HL.buildSliceV Tryz.prog H 28 4 [(0, .agg #[.int .i64 x0, .int .i64 x1, .int .i64 x2, .int .i64 x3]), (1, .agg #[.int .i64 x4, .int .i64 x5, .int .i64 x6, .int .i64 x7]), (2, .agg #[.int .i64 x8, .int .i64 x9, .int .i64 x10, .int .i64 x11]), (3, .agg #[.int .i64 x12, .int .i64 x13, .int .i64 x14, .int .i64 x15])] = some (.slice (some ⟨H.size, 0, none⟩) 4 4, H.push (.cells #[.int .i64 x0, .int .i64 x1, .int .i64 x2, .int .i64 x3, .int .i64 x4, .int .i64 x5, .int .i64 x6, .int .i64 x7, .int .i64 x8, .int .i64 x9, .int .i64 x10, .int .i64 x11, .int .i64 x12, .int .i64 x13, .int .i64 x14, .int .i64 x15] 196)) := HL.bsl_of (vs := [.agg #[.int .i64 x0, .int .i64 x1, .int .i64 x2, .int .i64 x3], .agg #[.int .i64 x4, .int .i64 x5, .int .i64 x6, .int .i64 x7], .agg #[.int .i64 x8, .int .i64 x9, .int .i64 x10, .int .i64 x11], .agg #[.int .i64 x12, .int .i64 x13, .int .i64 x14, .int .i64 x15]]) T.elem28 T.size196 T.zero196 (Nat.le_of_ble_eq_true rfl) rfl rfl
@[go_sem] theorem T.bs36_1 {H : HL.Heap} {x0 : Int} {a1 : Option Addr} {l1 c1 : Nat} {a2 : Option Addr} {l2 c2 : Nat} {a3 : Option Addr} {l3 c3 : Nat} {x4 : Int} : HL.buildSliceV Tryz.prog H 36 1 [(0, .agg #[.int .i64 x0, .slice a1 l1 c1, .slice a2 l2 c2, .slice a3 l3 c3, .int .i64 x4])] = some (.slice (some ⟨H.size, 0, none⟩) 1 1, H.push (.cells #[.int .i64 x0, .slice a1 l1 c1, .slice a2 l2 c2, .slice a3 l3 c3, .int .i64 x4] 69)) := HL.bsl_of (vs := [.agg #[.int .i64 x0, .slice a1 l1 c1, .slice a2 l2 c2, .slice a3 l3 c3, .int .i64 x4]]) T.elem36 T.size69 T.zero69 (Nat.le_of_ble_eq_true rfl) rfl rfl
@[go_sem] theorem T.bs36_2 {H : HL.Heap} {x0 : Int} {a1 : Option Addr} {l1 c1 : Nat} {a2 : Option Addr} {l2 c2 : Nat} {a3 : Option Addr} {l3 c3 : Nat} {x4 : Int} {x5 : Int} {a6 : Option Addr} {l6 c6 : Nat} {a7 : Option Addr} {l7 c7 : Nat} {a8 : Option Addr} {l8 c8 : Nat} {x9 : Int} : HL.buildSliceV Tryz.prog H 36 2 [(0, .agg #[.int .i64 x0, .slice a1 l1 c1, .slice a2 l2 c2, .slice a3 l3 c3, .int .i64 x4]), (1, .agg #[.int .i64 x5, .slice a6 l6 c6, .slice a7 l7 c7, .slice a8 l8 c8, .int .i64 x9])] = some (.slice (some ⟨H.size, 0, none⟩) 2 2, H.push (.cells #[.int .i64 x0, .slice a1 l1 c1, .slice a2 l2 c2, .slice a3 l3 c3, .int .i64 x4, .int .i64 x5, .slice a6 l6 c6, .slice a7 l7 c7, .slice a8 l8 c8, .int .i64 x9] 69)) := HL.bsl_of (vs := [.agg #[.int .i64 x0, .slice a1 l1 c1, .slice a2 l2 c2, .slice a3 l3 c3, .int .i64 x4], .agg #[.int .i64 x5, .slice a6 l6 c6, .slice a7 l7 c7, .slice a8 l8 c8, .int .i64 x9]]) T.elem36 T.size69 T.zero69 (Nat.le_of_ble_eq_true rfl) rfl rfl
@[go_sem] theorem T.bs36_3 {H : HL.Heap} {x0 : Int} {a1 : Option Addr} {l1 c1 : Nat} {a2 : Option Addr} {l2 c2 : Nat} {a3 : Option Addr} {l3 c3 : Nat} {x4 : Int} {x5 : Int} {a6 : Option Addr} {l6 c6 : Nat} {a7 : Option Addr} {l7 c7 : Nat} {a8 : Option Addr} {l8 c8 : Nat} {x9 : Int} {x10 : Int} {a11 : Option Addr} {l11 c11 : Nat} {a12 : Option Addr} {l12 c12 : Nat} {a13 : Option Addr} {l13 c13 : Nat} {x14 : Int} : HL.buildSliceV Tryz.prog H 36 3 [(0, .agg #[.int .i64 x0, .slice a1 l1 c1, .slice a2 l2 c2, .slice a3 l3 c3, .int .i64 x4]), (1, .agg #[.int .i64 x5, .slice a6 l6 c6, .slice a7 l7 c7, .slice a8 l8 c8, .int .i64 x9]), (2, .agg #[.int .i64 x10, .slice a11 l11 c11, .slice a12 l12 c12, .slice a13 l13 c13, .int .i64 x14])] = some (.slice (some ⟨H.size, 0, none⟩) 3 3, H.push (.cells #[.int .i64 x0, .slice a1 l1 c1, .slice a2 l2 c2, .slice a3 l3 c3, .int .i64 x4, .int .i64 x5, .slice a6 l6 c6, .slice a7 l7 c7, .slice a8 l8 c8, .int .i64 x9, .int .i64 x10, .slice a11 l11 c11, .slice a12 l12 c12, .slice a13 l13 c13, .int .i64 x14] 69)) := HL.bsl_of (vs := [.agg #[.int .i64 x0, .slice a1 l1 c1, .slice a2 l2 c2, .slice a3 l3 c3, .int .i64 x4], .agg #[.int .i64 x5, .slice a6 l6 c6, .slice a7 l7 c7, .slice a8 l8 c8, .int .i64 x9], .agg #[.int .i64 x10, .slice a11 l11 c11, .slice a12 l12 c12, .slice a13 l13 c13, .int .i64 x14]]) T.elem36 T.size69 T.zero69 (Nat.le_of_ble_eq_true rfl) rfl rfl
@[go_sem] theorem T.bs51_1 {H : HL.Heap} {x0 : Int} {x1 : ByteArray} {x2 : Int} : HL.buildSliceV Tryz.prog H 51 1 [(0, .agg #[.int .i64 x0, .string x1, .int .i64 x2])] = some (.slice (some ⟨H.size, 0, none⟩) 1 1, H.push (.cells #[.int .i64 x0, .string x1, .int .i64 x2] 87)) := HL.bsl_of (vs := [.agg #[.int .i64 x0, .string x1, .int .i64 x2]]) T.elem51 T.size87 T.zero87 (Nat.le_of_ble_eq_true rfl) rfl rfl
@[go_sem] theorem T.bs51_2 {H : HL.Heap} {x0 : Int} {x1 : ByteArray} {x2 : Int} {x3 : Int} {x4 : ByteArray} {x5 : Int} : HL.buildSliceV Tryz.prog H 51 2 [(0, .agg #[.int .i64 x0, .string x1, .int .i64 x2]), (1, .agg #[.int .i64 x3, .string x4, .int .i64 x5])] = some (.slice (some ⟨H.size, 0, none⟩) 2 2, H.push (.cells #[.int .i64 x0, .string x1, .int .i64 x2, .int .i64 x3, .string x4, .int .i64 x5] 87)) := HL.bsl_of (vs := [.agg #[.int .i64 x0, .string x1, .int .i64 x2], .agg #[.int .i64 x3, .string x4, .int .i64 x5]]) T.elem51 T.size87 T.zero87 (Nat.le_of_ble_eq_true rfl) rfl rfl
@[go_sem] theorem T.bs51_3 {H : HL.Heap} {x0 : Int} {x1 : ByteArray} {x2 : Int} {x3 : Int} {x4 : ByteArray} {x5 : Int} {x6 : Int} {x7 : ByteArray} {x8 : Int} : HL.buildSliceV Tryz.prog H 51 3 [(0, .agg #[.int .i64 x0, .string x1, .int .i64 x2]), (1, .agg #[.int .i64 x3, .string x4, .int .i64 x5]), (2, .agg #[.int .i64 x6, .string x7, .int .i64 x8])] = some (.slice (some ⟨H.size, 0, none⟩) 3 3, H.push (.cells #[.int .i64 x0, .string x1, .int .i64 x2, .int .i64 x3, .string x4, .int .i64 x5, .int .i64 x6, .string x7, .int .i64 x8] 87)) := HL.bsl_of (vs := [.agg #[.int .i64 x0, .string x1, .int .i64 x2], .agg #[.int .i64 x3, .string x4, .int .i64 x5], .agg #[.int .i64 x6, .string x7, .int .i64 x8]]) T.elem51 T.size87 T.zero87 (Nat.le_of_ble_eq_true rfl) rfl rfl
@[go_sem] theorem T.bs51_4 {H : HL.Heap} {x0 : Int} {x1 : ByteArray} {x2 : Int} {x3 : Int} {x4 : ByteArray} {x5 : Int} {x6 : Int} {x7 : ByteArray} {x8 : Int} {x9 : Int} {x10 : ByteArray} {x11 : Int} : HL.buildSliceV Tryz.prog H 51 4 [(0, .agg #[.int .i64 x0, .string x1, .int .i64 x2]), (1, .agg #[.int .i64 x3, .string x4, .int .i64 x5]), (2, .agg #[.int .i64 x6, .string x7, .int .i64 x8]), (3, .agg #[.int .i64 x9, .string x10, .int .i64 x11])] = some (.slice (some ⟨H.size, 0, none⟩) 4 4, H.push (.cells #[.int .i64 x0, .string x1, .int .i64 x2, .int .i64 x3, .string x4, .int .i64 x5, .int .i64 x6, .string x7, .int .i64 x8, .int .i64 x9, .string x10, .int .i64 x11] 87)) := HL.bsl_of (vs := [.agg #[.int .i64 x0, .string x1, .int .i64 x2], .agg #[.int .i64 x3, .string x4, .int .i64 x5], .agg #[.int .i64 x6, .string x7, .int .i64 x8], .agg #[.int .i64 x9, .string x10, .int .i64 x11]]) T.elem51 T.size87 T.zero87 (Nat.le_of_ble_eq_true rfl) rfl rfl
@[go_sem] theorem T.stn27 {H : HL.Heap} {z0 z1 : Value} {x0 : Int} {x1 : Int} : HL.storeA Tryz.prog (H.push (.cells #[z0, z1] 27)) 27 ⟨H.size, 0, none⟩ (.agg #[.int .i64 x0, .int .i64 x1]) = some (H.push (.cells #[.int .i64 x0, .int .i64 x1] 27)) := HL.store_new (z := [z0, z1]) (vs := [.int .i64 x0, .int .i64 x1]) T.size27 rfl (HL.one_all rfl)
@[go_sem] theorem T.ln27 {H : HL.Heap} {z0 z1 : Value} : HL.cellsH (HL.cellH (H.push (.cells #[z0, z1] 27))) ⟨H.size, 0, none⟩ 0 2 = some [z0, z1] := HL.Blk.cells0 (new := [z0, z1]) (HL.Blk.new rfl)
@[go_sem] theorem T.stn30 {H : HL.Heap} {z0 z1 z2 z3 z4 : Value} {x0 : Int} {x1 : Int} {x2 : Int} {a3 : Option Addr} {l3 c3 : Nat} {x4 : Int} : HL.storeA Tryz.prog (H.push (.cells #[z0, z1, z2, z3, z4] 30)) 30 ⟨H.size, 0, none⟩ (.agg #[.int .i64 x0, .int .i64 x1, .int .i64 x2, .slice a3 l3 c3, .int .i64 x4]) = some (H.push (.cells #[.int .i64 x0, .int .i64 x1, .int .i64 x2, .slice a3 l3 c3, .int .i64 x4] 30)) := HL.store_new (z := [z0, z1, z2, z3, z4]) (vs := [.int .i64 x0, .int .i64 x1, .int .i64 x2, .slice a3 l3 c3, .int .i64 x4]) T.size30 rfl (HL.one_all rfl)
@[go_sem] theorem T.ln30 {H : HL.Heap} {z0 z1 z2 z3 z4 : Value} : HL.cellsH (HL.cellH (H.push (.cells #[z0, z1, z2, z3, z4] 30))) ⟨H.size, 0, none⟩ 0 5 = some [z0, z1, z2, z3, z4] := HL.Blk.cells0 (new := [z0, z1, z2, z3, z4]) (HL.Blk.new rfl)
@[go_sem] theorem T.stn34 {H : HL.Heap} {z0 z1 z2 z3 : Value} {x0 : Int} {x1 : Int} {x2 : Bool} {x3 : Bool} : HL.storeA Tryz.prog (H.push (.cells #[z0, z1, z2, z3] 34)) 34 ⟨H.size, 0, none⟩ (.agg #[.int .i64 x0, .int .i64 x1, .bool x2, .bool x3]) = some (H.push (.cells #[.int .i64 x0, .int .i64 x1, .bool x2, .bool x3] 34)) := HL.store_new (z := [z0, z1, z2, z3]) (vs := [.int .i64 x0, .int .i64 x1, .bool x2, .bool x3]) T.size34 rfl (HL.one_all rfl)
@[go_sem] theorem T.ln34 {H : HL.Heap} {z0 z1 z2 z3 : Value} : HL.cellsH (HL.cellH (H.push (.cells #[z0, z1, z2, z3] 34))) ⟨H.size, 0, none⟩ 0 4 = some [z0, z1, z2, z3] := HL.Blk.cells0 (new := [z0, z1, z2, z3]) (HL.Blk.new rfl)
@[go_sem] theorem T.stn45 {H : HL.Heap} {z0 z1 z2 z3 z4 z5 z6 : Value} {a0 : Option Addr} {l0 c0 : Nat} {x1 : Int} {a2 : Option Addr} {l2 c2 : Nat} {a3 : Option Addr} {l3 c3 : Nat} {a4 : Option Addr} {l4 c4 : Nat} {a5 : Option Addr} {l5 c5 : Nat} {x6 : Bool} : HL.storeA Tryz.prog (H.push (.cells #[z0, z1, z2, z3, z4, z5, z6] 45)) 45 ⟨H.size, 0, none⟩ (.agg #[.slice a0 l0 c0, .int .i64 x1, .slice a2 l2 c2, .slice a3 l3 c3, .slice a4 l4 c4, .slice a5 l5 c5, .bool x6]) = some (H.push (.cells #[.slice a0 l0 c0, .int .i64 x1, .slice a2 l2 c2, .slice a3 l3 c3, .slice a4 l4 c4, .slice a5 l5 c5, .bool x6] 45)) := HL.store_new (z := [z0, z1, z2, z3, z4, z5, z6]) (vs := [.slice a0 l0 c0, .int .i64 x1, .slice a2 l2 c2, .slice a3 l3 c3, .slice a4 l4 c4, .slice a5 l5 c5, .bool x6]) T.size45 rfl (HL.one_all rfl)
@[go_sem] theorem T.ln45 {H : HL.Heap} {z0 z1 z2 z3 z4 z5 z6 : Value} : HL.cellsH (HL.cellH (H.push (.cells #[z0, z1, z2, z3, z4, z5, z6] 45))) ⟨H.size, 0, none⟩ 0 7 = some [z0, z1, z2, z3, z4, z5, z6] := HL.Blk.cells0 (new := [z0, z1, z2, z3, z4, z5, z6]) (HL.Blk.new rfl)
@[go_sem] theorem T.stn49 {H : HL.Heap} {z0 z1 z2 z3 : Value} {x0 : Int} {x1 : Int} {x2 : Int} {a3 : Option Addr} {l3 c3 : Nat} : HL.storeA Tryz.prog (H.push (.cells #[z0, z1, z2, z3] 49)) 49 ⟨H.size, 0, none⟩ (.agg #[.int .i64 x0, .int .i64 x1, .int .i64 x2, .slice a3 l3 c3]) = some (H.push (.cells #[.int .i64 x0, .int .i64 x1, .int .i64 x2, .slice a3 l3 c3] 49)) := HL.store_new (z := [z0, z1, z2, z3]) (vs := [.int .i64 x0, .int .i64 x1, .int .i64 x2, .slice a3 l3 c3]) T.size49 rfl (HL.one_all rfl)
@[go_sem] theorem T.ln49 {H : HL.Heap} {z0 z1 z2 z3 : Value} : HL.cellsH (HL.cellH (H.push (.cells #[z0, z1, z2, z3] 49))) ⟨H.size, 0, none⟩ 0 4 = some [z0, z1, z2, z3] := HL.Blk.cells0 (new := [z0, z1, z2, z3]) (HL.Blk.new rfl)
@[go_sem] theorem T.stn57 {H : HL.Heap} {z0 z1 : Value} {a0 : Option Addr} {l0 c0 : Nat} {x1 : Int} : HL.storeA Tryz.prog (H.push (.cells #[z0, z1] 57)) 57 ⟨H.size, 0, none⟩ (.agg #[.slice a0 l0 c0, .int .i64 x1]) = some (H.push (.cells #[.slice a0 l0 c0, .int .i64 x1] 57)) := HL.store_new (z := [z0, z1]) (vs := [.slice a0 l0 c0, .int .i64 x1]) T.size57 rfl (HL.one_all rfl)
@[go_sem] theorem T.ln57 {H : HL.Heap} {z0 z1 : Value} : HL.cellsH (HL.cellH (H.push (.cells #[z0, z1] 57))) ⟨H.size, 0, none⟩ 0 2 = some [z0, z1] := HL.Blk.cells0 (new := [z0, z1]) (HL.Blk.new rfl)
@[go_sem] theorem T.stn59 {H : HL.Heap} {z0 z1 z2 : Value} {a0 : Option Addr} {l0 c0 : Nat} {x1 : Int} {x2 : Int} : HL.storeA Tryz.prog (H.push (.cells #[z0, z1, z2] 59)) 59 ⟨H.size, 0, none⟩ (.agg #[.slice a0 l0 c0, .int .i64 x1, .int .i64 x2]) = some (H.push (.cells #[.slice a0 l0 c0, .int .i64 x1, .int .i64 x2] 59)) := HL.store_new (z := [z0, z1, z2]) (vs := [.slice a0 l0 c0, .int .i64 x1, .int .i64 x2]) T.size59 rfl (HL.one_all rfl)
@[go_sem] theorem T.ln59 {H : HL.Heap} {z0 z1 z2 : Value} : HL.cellsH (HL.cellH (H.push (.cells #[z0, z1, z2] 59))) ⟨H.size, 0, none⟩ 0 3 = some [z0, z1, z2] := HL.Blk.cells0 (new := [z0, z1, z2]) (HL.Blk.new rfl)
@[go_sem] theorem T.stn69 {H : HL.Heap} {z0 z1 z2 z3 z4 : Value} {x0 : Int} {a1 : Option Addr} {l1 c1 : Nat} {a2 : Option Addr} {l2 c2 : Nat} {a3 : Option Addr} {l3 c3 : Nat} {x4 : Int} : HL.storeA Tryz.prog (H.push (.cells #[z0, z1, z2, z3, z4] 69)) 69 ⟨H.size, 0, none⟩ (.agg #[.int .i64 x0, .slice a1 l1 c1, .slice a2 l2 c2, .slice a3 l3 c3, .int .i64 x4]) = some (H.push (.cells #[.int .i64 x0, .slice a1 l1 c1, .slice a2 l2 c2, .slice a3 l3 c3, .int .i64 x4] 69)) := HL.store_new (z := [z0, z1, z2, z3, z4]) (vs := [.int .i64 x0, .slice a1 l1 c1, .slice a2 l2 c2, .slice a3 l3 c3, .int .i64 x4]) T.size69 rfl (HL.one_all rfl)
@[go_sem] theorem T.ln69 {H : HL.Heap} {z0 z1 z2 z3 z4 : Value} : HL.cellsH (HL.cellH (H.push (.cells #[z0, z1, z2, z3, z4] 69))) ⟨H.size, 0, none⟩ 0 5 = some [z0, z1, z2, z3, z4] := HL.Blk.cells0 (new := [z0, z1, z2, z3, z4]) (HL.Blk.new rfl)
@[go_sem] theorem T.stn87 {H : HL.Heap} {z0 z1 z2 : Value} {x0 : Int} {x1 : ByteArray} {x2 : Int} : HL.storeA Tryz.prog (H.push (.cells #[z0, z1, z2] 87)) 87 ⟨H.size, 0, none⟩ (.agg #[.int .i64 x0, .string x1, .int .i64 x2]) = some (H.push (.cells #[.int .i64 x0, .string x1, .int .i64 x2] 87)) := HL.store_new (z := [z0, z1, z2]) (vs := [.int .i64 x0, .string x1, .int .i64 x2]) T.size87 rfl (HL.one_all rfl)
@[go_sem] theorem T.ln87 {H : HL.Heap} {z0 z1 z2 : Value} : HL.cellsH (HL.cellH (H.push (.cells #[z0, z1, z2] 87))) ⟨H.size, 0, none⟩ 0 3 = some [z0, z1, z2] := HL.Blk.cells0 (new := [z0, z1, z2]) (HL.Blk.new rfl)
@[go_sem] theorem T.stn91 {H : HL.Heap} {z0 z1 z2 z3 z4 z5 : Value} {x0 : Int} {a1 : Option Addr} {l1 c1 : Nat} {a2 : Option Addr} {l2 c2 : Nat} {a3 : Option Addr} {l3 c3 : Nat} {x4 : Int} {a5 : Option Addr} {l5 c5 : Nat} : HL.storeA Tryz.prog (H.push (.cells #[z0, z1, z2, z3, z4, z5] 91)) 91 ⟨H.size, 0, none⟩ (.agg #[.int .i64 x0, .slice a1 l1 c1, .slice a2 l2 c2, .slice a3 l3 c3, .int .i64 x4, .slice a5 l5 c5]) = some (H.push (.cells #[.int .i64 x0, .slice a1 l1 c1, .slice a2 l2 c2, .slice a3 l3 c3, .int .i64 x4, .slice a5 l5 c5] 91)) := HL.store_new (z := [z0, z1, z2, z3, z4, z5]) (vs := [.int .i64 x0, .slice a1 l1 c1, .slice a2 l2 c2, .slice a3 l3 c3, .int .i64 x4, .slice a5 l5 c5]) T.size91 rfl (HL.one_all rfl)
@[go_sem] theorem T.ln91 {H : HL.Heap} {z0 z1 z2 z3 z4 z5 : Value} : HL.cellsH (HL.cellH (H.push (.cells #[z0, z1, z2, z3, z4, z5] 91))) ⟨H.size, 0, none⟩ 0 6 = some [z0, z1, z2, z3, z4, z5] := HL.Blk.cells0 (new := [z0, z1, z2, z3, z4, z5]) (HL.Blk.new rfl)
@[go_sem] theorem T.stn196 {H : HL.Heap} {z0 z1 z2 z3 : Value} {x0 : Int} {x1 : Int} {x2 : Int} {x3 : Int} : HL.storeA Tryz.prog (H.push (.cells #[z0, z1, z2, z3] 196)) 196 ⟨H.size, 0, none⟩ (.agg #[.int .i64 x0, .int .i64 x1, .int .i64 x2, .int .i64 x3]) = some (H.push (.cells #[.int .i64 x0, .int .i64 x1, .int .i64 x2, .int .i64 x3] 196)) := HL.store_new (z := [z0, z1, z2, z3]) (vs := [.int .i64 x0, .int .i64 x1, .int .i64 x2, .int .i64 x3]) T.size196 rfl (HL.one_all rfl)
@[go_sem] theorem T.ln196 {H : HL.Heap} {z0 z1 z2 z3 : Value} : HL.cellsH (HL.cellH (H.push (.cells #[z0, z1, z2, z3] 196))) ⟨H.size, 0, none⟩ 0 4 = some [z0, z1, z2, z3] := HL.Blk.cells0 (new := [z0, z1, z2, z3]) (HL.Blk.new rfl)
@[go_sem] theorem T.sl9 {H : HL.Heap} {a : HL.Str} : HL.lenV Tryz.prog (HL.full H) 9 (.string (HL.bs a)) = some (.int .i64 a.length) := HL.str_len Tryz.underlying9
@[go_sem] theorem T.si9 {a : HL.Str} {k : IntKind} {n : Int} : HL.indexV Tryz.prog 9 (.string (HL.bs a)) (.int k n) = HL.chk (0 ≤ n ∧ n < a.length) (some (HL.u8v (HL.bt8 a n.toNat))) := HL.str_index Tryz.underlying9
@[go_sem] theorem T.ss9 {a : HL.Str} {k k2 : IntKind} {x y : Int} : HL.sliceV Tryz.prog 9 (.string (HL.bs a)) (some (.int k x)) (some (.int k2 y)) none = HL.chk (0 ≤ y ∧ y ≤ a.length) (HL.chk (0 ≤ x ∧ x ≤ y.toNat) (some (.string (HL.bs ((a.take y.toNat).drop x.toNat))))) := HL.str_sub Tryz.underlying9
@[go_sem] theorem T.so9 {a : HL.Str} {k : IntKind} {x : Int} : HL.sliceV Tryz.prog 9 (.string (HL.bs a)) (some (.int k x)) none none = HL.chk (0 ≤ x ∧ x ≤ a.length) (some (.string (HL.bs (a.drop x.toNat)))) := HL.str_lo Tryz.underlying9
@[go_sem] theorem T.sh9 {a : HL.Str} {k : IntKind} {y : Int} : HL.sliceV Tryz.prog 9 (.string (HL.bs a)) none (some (.int k y)) none = HL.chk (0 ≤ y ∧ y ≤ a.length) (some (.string (HL.bs (a.take y.toNat)))) := HL.str_hi Tryz.underlying9
end Go.Proofs
