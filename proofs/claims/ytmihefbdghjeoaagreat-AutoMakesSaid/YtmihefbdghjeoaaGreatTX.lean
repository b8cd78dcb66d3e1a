/- Texts of this proof, put together: T. The conditions of each theorem stand in it. -/
import Derived.Test.YtmihefbdghjeoaaGreatProg
import Derived.Test.YtmihefbdghjeoaaGreatMX2
set_option linter.unusedSimpArgs false
set_option linter.unusedVariables false
namespace Go.Proofs
theorem T.mixed:Tryz.prog.follows .mixedOrders=true:=by kernel_rfl
@[go_sem] theorem T.agg3:HL.aggN Tryz.prog 3=some none:=by kernel_rfl
@[go_sem] theorem T.size3:HL.sizeT Tryz.prog 3=some 1:=by kernel_rfl
@[go_sem] theorem T.bytes3:HL.bytesT Tryz.prog 3=some 8:=by kernel_rfl
@[go_sem] theorem T.zero3:HL.zeroT Tryz.prog 3=some (.int .i64 0):=by kernel_rfl
@[go_sem] theorem T.agg4:HL.aggN Tryz.prog 4=some none:=by kernel_rfl
@[go_sem] theorem T.size4:HL.sizeT Tryz.prog 4=some 1:=by kernel_rfl
@[go_sem] theorem T.bytes4:HL.bytesT Tryz.prog 4=some 1:=by kernel_rfl
@[go_sem] theorem T.zero4:HL.zeroT Tryz.prog 4=some (.bool false):=by kernel_rfl
@[go_sem] theorem T.agg9:HL.aggN Tryz.prog 9=some none:=by kernel_rfl
@[go_sem] theorem T.size9:HL.sizeT Tryz.prog 9=some 1:=by kernel_rfl
@[go_sem] theorem T.bytes9:HL.bytesT Tryz.prog 9=some 16:=by kernel_rfl
@[go_sem] theorem T.zero9:HL.zeroT Tryz.prog 9=some (.string ⟨#[]⟩):=by kernel_rfl
@[go_sem] theorem T.agg22:HL.aggN Tryz.prog 22=some none:=by kernel_rfl
@[go_sem] theorem T.elem22:HL.elemT Tryz.prog 22=some 47:=by kernel_rfl
@[go_sem] theorem T.elemS22:HL.elemS Tryz.prog 22=some 5:=by kernel_rfl
@[go_sem] theorem T.agg25:HL.aggN Tryz.prog 25=some none:=by kernel_rfl
@[go_sem] theorem T.size25:HL.sizeT Tryz.prog 25=some 1:=by kernel_rfl
@[go_sem] theorem T.elem25:HL.elemT Tryz.prog 25=some 59:=by kernel_rfl
@[go_sem] theorem T.elemS25:HL.elemS Tryz.prog 25=some 5:=by kernel_rfl
@[go_sem] theorem T.agg26:HL.aggN Tryz.prog 26=some none:=by kernel_rfl
@[go_sem] theorem T.size26:HL.sizeT Tryz.prog 26=some 1:=by kernel_rfl
@[go_sem] theorem T.elem26:HL.elemT Tryz.prog 26=some 61:=by kernel_rfl
@[go_sem] theorem T.elemS26:HL.elemS Tryz.prog 26=some 3:=by kernel_rfl
@[go_sem] theorem T.agg27:HL.aggN Tryz.prog 27=some none:=by kernel_rfl
@[go_sem] theorem T.size27:HL.sizeT Tryz.prog 27=some 1:=by kernel_rfl
@[go_sem] theorem T.elem27:HL.elemT Tryz.prog 27=some 43:=by kernel_rfl
@[go_sem] theorem T.elemS27:HL.elemS Tryz.prog 27=some 8:=by kernel_rfl
@[go_sem] theorem T.agg28:HL.aggN Tryz.prog 28=some none:=by kernel_rfl
@[go_sem] theorem T.size28:HL.sizeT Tryz.prog 28=some 1:=by kernel_rfl
@[go_sem] theorem T.elem28:HL.elemT Tryz.prog 28=some 3:=by kernel_rfl
@[go_sem] theorem T.elemS28:HL.elemS Tryz.prog 28=some 1:=by kernel_rfl
@[go_sem] theorem T.agg30:HL.aggN Tryz.prog 30=some (some 7):=by kernel_rfl
@[go_sem] theorem T.size30:HL.sizeT Tryz.prog 30=some 7:=by kernel_rfl
@[go_sem] theorem T.zero30:HL.zeroT Tryz.prog 30=some (.agg #[.slice none 0 0,.int .i64 0,.slice none 0 0,.slice none 0 0,.slice none 0 0,.slice none 0 0,.bool false]):=by kernel_rfl
@[go_sem] theorem T.places30:HL.placesT Tryz.prog 30=some [(0,1),(1,1),(2,1),(3,1),(4,1),(5,1),(6,1)]:=by kernel_rfl
@[go_sem] theorem T.fieldO30_0:HL.fieldO Tryz.prog 30 0=some 0:=by kernel_rfl
@[go_sem] theorem T.fieldO30_1:HL.fieldO Tryz.prog 30 1=some 1:=by kernel_rfl
@[go_sem] theorem T.fieldO30_2:HL.fieldO Tryz.prog 30 2=some 2:=by kernel_rfl
@[go_sem] theorem T.fieldO30_3:HL.fieldO Tryz.prog 30 3=some 3:=by kernel_rfl
@[go_sem] theorem T.fieldO30_4:HL.fieldO Tryz.prog 30 4=some 4:=by kernel_rfl
@[go_sem] theorem T.fieldO30_5:HL.fieldO Tryz.prog 30 5=some 5:=by kernel_rfl
@[go_sem] theorem T.fieldO30_6:HL.fieldO Tryz.prog 30 6=some 6:=by kernel_rfl
@[go_sem] theorem T.agg34:HL.aggN Tryz.prog 34=some none:=by kernel_rfl
@[go_sem] theorem T.agg36:HL.aggN Tryz.prog 36=some (some 2):=by kernel_rfl
@[go_sem] theorem T.size36:HL.sizeT Tryz.prog 36=some 2:=by kernel_rfl
@[go_sem] theorem T.zero36:HL.zeroT Tryz.prog 36=some (.agg #[.int .i64 0,.int .i64 0]):=by kernel_rfl
@[go_sem] theorem T.places36:HL.placesT Tryz.prog 36=some [(0,1),(1,1)]:=by kernel_rfl
@[go_sem] theorem T.fieldO36_0:HL.fieldO Tryz.prog 36 0=some 0:=by kernel_rfl
@[go_sem] theorem T.agg39:HL.aggN Tryz.prog 39=some none:=by kernel_rfl
@[go_sem] theorem T.size39:HL.sizeT Tryz.prog 39=some 1:=by kernel_rfl
@[go_sem] theorem T.elem39:HL.elemT Tryz.prog 39=some 4:=by kernel_rfl
@[go_sem] theorem T.elemS39:HL.elemS Tryz.prog 39=some 1:=by kernel_rfl
@[go_sem] theorem T.agg40:HL.aggN Tryz.prog 40=some none:=by kernel_rfl
@[go_sem] theorem T.size40:HL.sizeT Tryz.prog 40=some 1:=by kernel_rfl
@[go_sem] theorem T.elem40:HL.elemT Tryz.prog 40=some 45:=by kernel_rfl
@[go_sem] theorem T.elemS40:HL.elemS Tryz.prog 40=some 8:=by kernel_rfl
@[go_sem] theorem T.agg41:HL.aggN Tryz.prog 41=some none:=by kernel_rfl
@[go_sem] theorem T.size41:HL.sizeT Tryz.prog 41=some 1:=by kernel_rfl
@[go_sem] theorem T.elem41:HL.elemT Tryz.prog 41=some 9:=by kernel_rfl
@[go_sem] theorem T.elemS41:HL.elemS Tryz.prog 41=some 1:=by kernel_rfl
@[go_sem] theorem T.agg43:HL.aggN Tryz.prog 43=some (some 8):=by kernel_rfl
@[go_sem] theorem T.size43:HL.sizeT Tryz.prog 43=some 8:=by kernel_rfl
@[go_sem] theorem T.bytes43:HL.bytesT Tryz.prog 43=some 152:=by kernel_rfl
@[go_sem] theorem T.zero43:HL.zeroT Tryz.prog 43=some (.agg #[.string ⟨#[]⟩,.int .i64 0,.slice none 0 0,.int .i64 0,.slice none 0 0,.slice none 0 0,.slice none 0 0,.slice none 0 0]):=by kernel_rfl
@[go_sem] theorem T.places43:HL.placesT Tryz.prog 43=some [(0,1),(1,1),(2,1),(3,1),(4,1),(5,1),(6,1),(7,1)]:=by kernel_rfl
@[go_sem] theorem T.fieldO43_0:HL.fieldO Tryz.prog 43 0=some 0:=by kernel_rfl
@[go_sem] theorem T.fieldO43_1:HL.fieldO Tryz.prog 43 1=some 1:=by kernel_rfl
@[go_sem] theorem T.fieldO43_2:HL.fieldO Tryz.prog 43 2=some 2:=by kernel_rfl
@[go_sem] theorem T.fieldO43_3:HL.fieldO Tryz.prog 43 3=some 3:=by kernel_rfl
@[go_sem] theorem T.fieldO43_4:HL.fieldO Tryz.prog 43 4=some 4:=by kernel_rfl
@[go_sem] theorem T.fieldO43_5:HL.fieldO Tryz.prog 43 5=some 5:=by kernel_rfl
@[go_sem] theorem T.fieldO43_6:HL.fieldO Tryz.prog 43 6=some 6:=by kernel_rfl
@[go_sem] theorem T.fieldO43_7:HL.fieldO Tryz.prog 43 7=some 7:=by kernel_rfl
@[go_sem] theorem T.agg45:HL.aggN Tryz.prog 45=some (some 8):=by kernel_rfl
@[go_sem] theorem T.size45:HL.sizeT Tryz.prog 45=some 8:=by kernel_rfl
@[go_sem] theorem T.bytes45:HL.bytesT Tryz.prog 45=some 64:=by kernel_rfl
@[go_sem] theorem T.zero45:HL.zeroT Tryz.prog 45=some (.agg #[.int .i64 0,.int .i64 0,.int .i64 0,.int .i64 0,.int .i64 0,.int .i64 0,.bool false,.int .i64 0]):=by kernel_rfl
@[go_sem] theorem T.places45:HL.placesT Tryz.prog 45=some [(0,1),(1,1),(2,1),(3,1),(4,1),(5,1),(6,1),(7,1)]:=by kernel_rfl
@[go_sem] theorem T.fieldO45_1:HL.fieldO Tryz.prog 45 1=some 1:=by kernel_rfl
@[go_sem] theorem T.fieldO45_3:HL.fieldO Tryz.prog 45 3=some 3:=by kernel_rfl
@[go_sem] theorem T.fieldO45_4:HL.fieldO Tryz.prog 45 4=some 4:=by kernel_rfl
@[go_sem] theorem T.fieldO45_5:HL.fieldO Tryz.prog 45 5=some 5:=by kernel_rfl
@[go_sem] theorem T.fieldO45_6:HL.fieldO Tryz.prog 45 6=some 6:=by kernel_rfl
@[go_sem] theorem T.agg47:HL.aggN Tryz.prog 47=some (some 5):=by kernel_rfl
@[go_sem] theorem T.size47:HL.sizeT Tryz.prog 47=some 5:=by kernel_rfl
@[go_sem] theorem T.bytes47:HL.bytesT Tryz.prog 47=some 88:=by kernel_rfl
@[go_sem] theorem T.zero47:HL.zeroT Tryz.prog 47=some (.agg #[.int .i64 0,.slice none 0 0,.slice none 0 0,.slice none 0 0,.int .i64 0]):=by kernel_rfl
@[go_sem] theorem T.places47:HL.placesT Tryz.prog 47=some [(0,1),(1,1),(2,1),(3,1),(4,1)]:=by kernel_rfl
@[go_sem] theorem T.fieldO47_0:HL.fieldO Tryz.prog 47 0=some 0:=by kernel_rfl
@[go_sem] theorem T.fieldO47_1:HL.fieldO Tryz.prog 47 1=some 1:=by kernel_rfl
@[go_sem] theorem T.fieldO47_2:HL.fieldO Tryz.prog 47 2=some 2:=by kernel_rfl
@[go_sem] theorem T.fieldO47_3:HL.fieldO Tryz.prog 47 3=some 3:=by kernel_rfl
@[go_sem] theorem T.fieldO47_4:HL.fieldO Tryz.prog 47 4=some 4:=by kernel_rfl
@[go_sem] theorem T.size51:HL.sizeT Tryz.prog 51=some 7:=by kernel_rfl
@[go_sem] theorem T.zero51:HL.zeroT Tryz.prog 51=some (.agg #[.slice none 0 0,.int .i64 0,.slice none 0 0,.slice none 0 0,.slice none 0 0,.slice none 0 0,.bool false]):=by kernel_rfl
@[go_sem] theorem T.places51:HL.placesT Tryz.prog 51=some [(0,7)]:=by kernel_rfl
@[go_sem] theorem T.fieldO51_0:HL.fieldO Tryz.prog 51 0=some 0:=by kernel_rfl
@[go_sem] theorem T.agg59:HL.aggN Tryz.prog 59=some (some 5):=by kernel_rfl
@[go_sem] theorem T.size59:HL.sizeT Tryz.prog 59=some 5:=by kernel_rfl
@[go_sem] theorem T.bytes59:HL.bytesT Tryz.prog 59=some 40:=by kernel_rfl
@[go_sem] theorem T.zero59:HL.zeroT Tryz.prog 59=some (.agg #[.string ⟨#[]⟩,.int .i64 0,.int .i64 0,.bool false,.bool false]):=by kernel_rfl
@[go_sem] theorem T.places59:HL.placesT Tryz.prog 59=some [(0,1),(1,1),(2,1),(3,1),(4,1)]:=by kernel_rfl
@[go_sem] theorem T.fieldO59_0:HL.fieldO Tryz.prog 59 0=some 0:=by kernel_rfl
@[go_sem] theorem T.agg61:HL.aggN Tryz.prog 61=some (some 3):=by kernel_rfl
@[go_sem] theorem T.size61:HL.sizeT Tryz.prog 61=some 3:=by kernel_rfl
@[go_sem] theorem T.bytes61:HL.bytesT Tryz.prog 61=some 32:=by kernel_rfl
@[go_sem] theorem T.zero61:HL.zeroT Tryz.prog 61=some (.agg #[.string ⟨#[]⟩,.int .i64 0,.int .i64 0]):=by kernel_rfl
@[go_sem] theorem T.places61:HL.placesT Tryz.prog 61=some [(0,1),(1,1),(2,1)]:=by kernel_rfl
@[go_sem] theorem T.fieldO61_0:HL.fieldO Tryz.prog 61 0=some 0:=by kernel_rfl
@[go_sem] theorem T.agg64:HL.aggN Tryz.prog 64=some none:=by kernel_rfl
@[go_sem] theorem T.elem64:HL.elemT Tryz.prog 64=some 100:=by kernel_rfl
@[go_sem] theorem T.elemS64:HL.elemS Tryz.prog 64=some 3:=by kernel_rfl
@[go_sem] theorem T.zero69:HL.zeroT Tryz.prog 69=some (.agg #[.slice none 0 0,.int .i64 0,.int .i64 0,.int .i64 0,.int .i64 0]):=by kernel_rfl
@[go_sem] theorem T.places69:HL.placesT Tryz.prog 69=some [(0,1),(1,1),(2,1),(3,2)]:=by kernel_rfl
@[go_sem] theorem T.fieldO69_0:HL.fieldO Tryz.prog 69 0=some 0:=by kernel_rfl
@[go_sem] theorem T.fieldO69_1:HL.fieldO Tryz.prog 69 1=some 1:=by kernel_rfl
@[go_sem] theorem T.fieldO69_2:HL.fieldO Tryz.prog 69 2=some 2:=by kernel_rfl
@[go_sem] theorem T.fieldO69_3:HL.fieldO Tryz.prog 69 3=some 3:=by kernel_rfl
@[go_sem] theorem T.agg70:HL.aggN Tryz.prog 70=some none:=by kernel_rfl
@[go_sem] theorem T.size70:HL.sizeT Tryz.prog 70=some 1:=by kernel_rfl
@[go_sem] theorem T.elem70:HL.elemT Tryz.prog 70=some 72:=by kernel_rfl
@[go_sem] theorem T.elemS70:HL.elemS Tryz.prog 70=some 6:=by kernel_rfl
@[go_sem] theorem T.agg72:HL.aggN Tryz.prog 72=some (some 6):=by kernel_rfl
@[go_sem] theorem T.size72:HL.sizeT Tryz.prog 72=some 6:=by kernel_rfl
@[go_sem] theorem T.bytes72:HL.bytesT Tryz.prog 72=some 112:=by kernel_rfl
@[go_sem] theorem T.zero72:HL.zeroT Tryz.prog 72=some (.agg #[.int .i64 0,.slice none 0 0,.slice none 0 0,.slice none 0 0,.int .i64 0,.slice none 0 0]):=by kernel_rfl
@[go_sem] theorem T.places72:HL.placesT Tryz.prog 72=some [(0,5),(5,1)]:=by kernel_rfl
@[go_sem] theorem T.fieldO72_0:HL.fieldO Tryz.prog 72 0=some 0:=by kernel_rfl
@[go_sem] theorem T.fieldO72_1:HL.fieldO Tryz.prog 72 1=some 5:=by kernel_rfl
@[go_sem] theorem T.size77:HL.sizeT Tryz.prog 77=some 4:=by kernel_rfl
@[go_sem] theorem T.zero77:HL.zeroT Tryz.prog 77=some (.agg #[.slice none 0 0,.int .i64 0,.int .i64 0,.int .i64 0]):=by kernel_rfl
@[go_sem] theorem T.places77:HL.placesT Tryz.prog 77=some [(0,1),(1,1),(2,1),(3,1)]:=by kernel_rfl
@[go_sem] theorem T.fieldO77_0:HL.fieldO Tryz.prog 77 0=some 0:=by kernel_rfl
@[go_sem] theorem T.fieldO77_1:HL.fieldO Tryz.prog 77 1=some 1:=by kernel_rfl
@[go_sem] theorem T.fieldO77_2:HL.fieldO Tryz.prog 77 2=some 2:=by kernel_rfl
@[go_sem] theorem T.fieldO77_3:HL.fieldO Tryz.prog 77 3=some 3:=by kernel_rfl
@[go_sem] theorem T.size82:HL.sizeT Tryz.prog 82=some 10:=by kernel_rfl
@[go_sem] theorem T.zero82:HL.zeroT Tryz.prog 82=some (.agg #[.string ⟨#[]⟩,.int .i64 0,.slice none 0 0,.int .i64 0,.slice none 0 0,.slice none 0 0,.slice none 0 0,.slice none 0 0,.slice none 0 0,.slice none 0 0]):=by kernel_rfl
@[go_sem] theorem T.places82:HL.placesT Tryz.prog 82=some [(0,8),(8,1),(9,1)]:=by kernel_rfl
@[go_sem] theorem T.fieldO82_0:HL.fieldO Tryz.prog 82 0=some 0:=by kernel_rfl
@[go_sem] theorem T.fieldO82_1:HL.fieldO Tryz.prog 82 1=some 8:=by kernel_rfl
@[go_sem] theorem T.fieldO82_2:HL.fieldO Tryz.prog 82 2=some 9:=by kernel_rfl
@[go_sem] theorem T.agg100:HL.aggN Tryz.prog 100=some (some 3):=by kernel_rfl
@[go_sem] theorem T.size100:HL.sizeT Tryz.prog 100=some 3:=by kernel_rfl
@[go_sem] theorem T.bytes100:HL.bytesT Tryz.prog 100=some 32:=by kernel_rfl
@[go_sem] theorem T.zero100:HL.zeroT Tryz.prog 100=some (.agg #[.int .i64 0,.string ⟨#[]⟩,.int .i64 0]):=by kernel_rfl
@[go_sem] theorem T.places100:HL.placesT Tryz.prog 100=some [(0,1),(1,1),(2,1)]:=by kernel_rfl
@[go_sem] theorem T.field100_0:HL.fieldT Tryz.prog 100 0=some (0,3):=by kernel_rfl
@[go_sem] theorem T.fieldO100_0:HL.fieldO Tryz.prog 100 0=some 0:=by kernel_rfl
@[go_sem] theorem T.fieldO100_1:HL.fieldO Tryz.prog 100 1=some 1:=by kernel_rfl
@[go_sem] theorem T.field100_2:HL.fieldT Tryz.prog 100 2=some (2,3):=by kernel_rfl
@[go_sem] theorem T.agg105:HL.aggN Tryz.prog 105=some none:=by kernel_rfl
@[go_sem] theorem T.agg107:HL.aggN Tryz.prog 107=some (some 2):=by kernel_rfl
@[go_sem] theorem T.size107:HL.sizeT Tryz.prog 107=some 2:=by kernel_rfl
@[go_sem] theorem T.zero107:HL.zeroT Tryz.prog 107=some (.agg #[.slice none 0 0,.nilFunc]):=by kernel_rfl
@[go_sem] theorem T.places107:HL.placesT Tryz.prog 107=some [(0,1),(1,1)]:=by kernel_rfl
@[go_sem] theorem T.fieldO107_0:HL.fieldO Tryz.prog 107 0=some 0:=by kernel_rfl
@[go_sem] theorem T.fieldO107_1:HL.fieldO Tryz.prog 107 1=some 1:=by kernel_rfl
@[go_sem] theorem T.zero126:HL.zeroT Tryz.prog 126=some (.agg #[.slice none 0 0,.slice none 0 0,.slice none 0 0,.slice none 0 0,.bool false]):=by kernel_rfl
@[go_sem] theorem T.places126:HL.placesT Tryz.prog 126=some [(0,1),(1,1),(2,1),(3,1),(4,1)]:=by kernel_rfl
@[go_sem] theorem T.fieldO126_0:HL.fieldO Tryz.prog 126 0=some 0:=by kernel_rfl
@[go_sem] theorem T.fieldO126_1:HL.fieldO Tryz.prog 126 1=some 1:=by kernel_rfl
@[go_sem] theorem T.fieldO126_2:HL.fieldO Tryz.prog 126 2=some 2:=by kernel_rfl
@[go_sem] theorem T.fieldO126_3:HL.fieldO Tryz.prog 126 3=some 3:=by kernel_rfl
@[go_sem] theorem T.fieldO126_4:HL.fieldO Tryz.prog 126 4=some 4:=by kernel_rfl
@[go_sem] theorem T.agg141:HL.aggN Tryz.prog 141=some (some 2):=by kernel_rfl
@[go_sem] theorem T.size141:HL.sizeT Tryz.prog 141=some 2:=by kernel_rfl
@[go_sem] theorem T.zero141:HL.zeroT Tryz.prog 141=some (.agg #[.int .i64 0,.int .i64 0]):=by kernel_rfl
@[go_sem] theorem T.places141:HL.placesT Tryz.prog 141=none:=by kernel_rfl
@[go_sem] theorem T.arrS141:HL.arrS Tryz.prog 141=some (2,1):=by kernel_rfl
@[go_sem] theorem T.elem147:HL.elemT Tryz.prog 147=some 141:=by kernel_rfl
@[go_sem] theorem T.elemS147:HL.elemS Tryz.prog 147=some 2:=by kernel_rfl
theorem T.el22:HL.ElT Tryz.prog 22 47 5 88 (.agg #[.int .i64 0,.slice none 0 0,.slice none 0 0,.slice none 0 0,.int .i64 0]):=⟨T.elem22,T.size47,T.bytes47,T.zero47⟩
@[go_sem] theorem T.bs22_0 {H:HL.Heap}:HL.buildSliceV Tryz.prog H 22 0 []=some (.slice (some ⟨H.size,0,none⟩) 0 0,H.push (.cells #[] 47)):=HL.bs_zero T.elem22 T.size47 T.zero47
theorem T.el25:HL.ElT Tryz.prog 25 59 5 40 (.agg #[.string ⟨#[]⟩,.int .i64 0,.int .i64 0,.bool false,.bool false]):=⟨T.elem25,T.size59,T.bytes59,T.zero59⟩
theorem T.el26:HL.ElT Tryz.prog 26 61 3 32 (.agg #[.string ⟨#[]⟩,.int .i64 0,.int .i64 0]):=⟨T.elem26,T.size61,T.bytes61,T.zero61⟩
theorem T.el27:HL.ElT Tryz.prog 27 43 8 152 (.agg #[.string ⟨#[]⟩,.int .i64 0,.slice none 0 0,.int .i64 0,.slice none 0 0,.slice none 0 0,.slice none 0 0,.slice none 0 0]):=⟨T.elem27,T.size43,T.bytes43,T.zero43⟩
theorem T.el28:HL.ElT Tryz.prog 28 3 1 8 (.int .i64 0):=⟨T.elem28,T.size3,T.bytes3,T.zero3⟩
@[go_sem] theorem T.bs28_1 {H:HL.Heap} {k0:IntKind} {n0:Int}:HL.buildSliceV Tryz.prog H 28 1 [(0,.int k0 n0)]=some (.slice (some ⟨H.size,0,none⟩) 1 1,H.push (.cells #[.int k0 n0] 3)):=HL.bs_one T.elem28 T.size3 T.zero3 rfl
@[go_sem] theorem T.bs28_2 {H:HL.Heap} {k0:IntKind} {n0:Int} {k1:IntKind} {n1:Int}:HL.buildSliceV Tryz.prog H 28 2 [(0,.int k0 n0),(1,.int k1 n1)]=some (.slice (some ⟨H.size,0,none⟩) 2 2,H.push (.cells #[.int k0 n0,.int k1 n1] 3)):=HL.bs_two T.elem28 T.size3 T.zero3 rfl rfl
@[go_sem] theorem T.bs28_3 {H:HL.Heap} {k0:IntKind} {n0:Int} {k1:IntKind} {n1:Int} {k2:IntKind} {n2:Int}:HL.buildSliceV Tryz.prog H 28 3 [(0,.int k0 n0),(1,.int k1 n1),(2,.int k2 n2)]=some (.slice (some ⟨H.size,0,none⟩) 3 3,H.push (.cells #[.int k0 n0,.int k1 n1,.int k2 n2] 3)):=HL.bs_three T.elem28 T.size3 T.zero3 rfl rfl rfl
@[go_sem] theorem T.bs28_0 {H:HL.Heap}:HL.buildSliceV Tryz.prog H 28 0 []=some (.slice (some ⟨H.size,0,none⟩) 0 0,H.push (.cells #[] 3)):=HL.bs_zero T.elem28 T.size3 T.zero3
theorem T.el39:HL.ElT Tryz.prog 39 4 1 1 (.bool false):=⟨T.elem39,T.size4,T.bytes4,T.zero4⟩
@[go_sem] theorem T.bs39_1 {H:HL.Heap} {n0:Bool}:HL.buildSliceV Tryz.prog H 39 1 [(0,.bool n0)]=some (.slice (some ⟨H.size,0,none⟩) 1 1,H.push (.cells #[.bool n0] 4)):=HL.bs_one T.elem39 T.size4 T.zero4 rfl
@[go_sem] theorem T.bs39_2 {H:HL.Heap} {n0:Bool} {n1:Bool}:HL.buildSliceV Tryz.prog H 39 2 [(0,.bool n0),(1,.bool n1)]=some (.slice (some ⟨H.size,0,none⟩) 2 2,H.push (.cells #[.bool n0,.bool n1] 4)):=HL.bs_two T.elem39 T.size4 T.zero4 rfl rfl
@[go_sem] theorem T.bs39_0 {H:HL.Heap}:HL.buildSliceV Tryz.prog H 39 0 []=some (.slice (some ⟨H.size,0,none⟩) 0 0,H.push (.cells #[] 4)):=HL.bs_zero T.elem39 T.size4 T.zero4
theorem T.el40:HL.ElT Tryz.prog 40 45 8 64 (.agg #[.int .i64 0,.int .i64 0,.int .i64 0,.int .i64 0,.int .i64 0,.int .i64 0,.bool false,.int .i64 0]):=⟨T.elem40,T.size45,T.bytes45,T.zero45⟩
@[go_sem] theorem T.bs40_0 {H:HL.Heap}:HL.buildSliceV Tryz.prog H 40 0 []=some (.slice (some ⟨H.size,0,none⟩) 0 0,H.push (.cells #[] 45)):=HL.bs_zero T.elem40 T.size45 T.zero45
theorem T.el41:HL.ElT Tryz.prog 41 9 1 16 (.string ⟨#[]⟩):=⟨T.elem41,T.size9,T.bytes9,T.zero9⟩
@[go_sem] theorem T.bs41_1 {H:HL.Heap} {n0:ByteArray}:HL.buildSliceV Tryz.prog H 41 1 [(0,.string n0)]=some (.slice (some ⟨H.size,0,none⟩) 1 1,H.push (.cells #[.string n0] 9)):=HL.bs_one T.elem41 T.size9 T.zero9 rfl
theorem T.el64:HL.ElT Tryz.prog 64 100 3 32 (.agg #[.int .i64 0,.string ⟨#[]⟩,.int .i64 0]):=⟨T.elem64,T.size100,T.bytes100,T.zero100⟩
theorem T.el70:HL.ElT Tryz.prog 70 72 6 112 (.agg #[.int .i64 0,.slice none 0 0,.slice none 0 0,.slice none 0 0,.int .i64 0,.slice none 0 0]):=⟨T.elem70,T.size72,T.bytes72,T.zero72⟩
@[go_sem] theorem T.be4 {H:HL.Heap} {xo yo:Operand} {x y:Bool}:HL.binV Tryz.prog (HL.full H) .eql 4 xo yo (.bool x) (.bool y)=some (.bool (x == y)):=HL.bin_bool_eql Tryz.underlying4
@[go_sem] theorem T.bn4 {H:HL.Heap} {xo yo:Operand} {x y:Bool}:HL.binV Tryz.prog (HL.full H) .neq 4 xo yo (.bool x) (.bool y)=some (.bool (!(x == y))):=HL.bin_bool_neq Tryz.underlying4
@[go_sem] theorem T.sn36 {H:HL.Heap} {xo yo:Operand} {a0 b0:Int} {a1 b1:Int}:HL.binV Tryz.prog (HL.full H) .neq 36 xo yo (.agg #[.int .i64 a0,.int .i64 a1]) (.agg #[.int .i64 b0,.int .i64 b1])=some (.bool (!(decide (a0=b0∧a1=b1∧True)))):=(HL.bin_struct (xs:=[.int .i64 a0,.int .i64 a1]) (ys:=[.int .i64 b0,.int .i64 b1]) Tryz.underlying36 (by kernel_rfl) (by kernel_rfl) (HL.eqF_int (by decide) Tryz.underlying34 rfl rfl (HL.eqF_int (by decide) Tryz.underlying3 rfl rfl HL.eqF_nil))).2
@[go_sem] theorem T.cv5_3 {V:HL.HV} {k:IntKind} {n:Int}:HL.convV Tryz.prog V 5 3 (.int k n)=some (.int .i64 (IntKind.i64.wrap n)):=HL.conv_int Tryz.underlying5 Tryz.underlying3
@[go_sem] theorem T.bs22_1 {H:HL.Heap} {x0:Int} {a1:Option Addr} {l1 c1:Nat} {a2:Option Addr} {l2 c2:Nat} {a3:Option Addr} {l3 c3:Nat} {x4:Int}:HL.buildSliceV Tryz.prog H 22 1 [(0,.agg #[.int .i64 x0,.slice a1 l1 c1,.slice a2 l2 c2,.slice a3 l3 c3,.int .i64 x4])]=some (.slice (some ⟨H.size,0,none⟩) 1 1,H.push (.cells #[.int .i64 x0,.slice a1 l1 c1,.slice a2 l2 c2,.slice a3 l3 c3,.int .i64 x4] 47)):=HL.bsl_of (vs:=[.agg #[.int .i64 x0,.slice a1 l1 c1,.slice a2 l2 c2,.slice a3 l3 c3,.int .i64 x4]]) T.elem22 T.size47 T.zero47 (Nat.le_of_ble_eq_true rfl) rfl rfl
@[go_sem] theorem T.bs25_1 {H:HL.Heap} {x0:ByteArray} {x1:Int} {x2:Int} {x3:Bool} {x4:Bool}:HL.buildSliceV Tryz.prog H 25 1 [(0,.agg #[.string x0,.int .i64 x1,.int .i64 x2,.bool x3,.bool x4])]=some (.slice (some ⟨H.size,0,none⟩) 1 1,H.push (.cells #[.string x0,.int .i64 x1,.int .i64 x2,.bool x3,.bool x4] 59)):=HL.bsl_of (vs:=[.agg #[.string x0,.int .i64 x1,.int .i64 x2,.bool x3,.bool x4]]) T.elem25 T.size59 T.zero59 (Nat.le_of_ble_eq_true rfl) rfl rfl
@[go_sem] theorem T.bs26_1 {H:HL.Heap} {x0:ByteArray} {x1:Int} {x2:Int}:HL.buildSliceV Tryz.prog H 26 1 [(0,.agg #[.string x0,.int .i64 x1,.int .i64 x2])]=some (.slice (some ⟨H.size,0,none⟩) 1 1,H.push (.cells #[.string x0,.int .i64 x1,.int .i64 x2] 61)):=HL.bsl_of (vs:=[.agg #[.string x0,.int .i64 x1,.int .i64 x2]]) T.elem26 T.size61 T.zero61 (Nat.le_of_ble_eq_true rfl) rfl rfl
@[go_sem] theorem T.bs27_1 {H:HL.Heap} {x0:ByteArray} {x1:Int} {a2:Option Addr} {l2 c2:Nat} {x3:Int} {a4:Option Addr} {l4 c4:Nat} {a5:Option Addr} {l5 c5:Nat} {a6:Option Addr} {l6 c6:Nat} {a7:Option Addr} {l7 c7:Nat}:HL.buildSliceV Tryz.prog H 27 1 [(0,.agg #[.string x0,.int .i64 x1,.slice a2 l2 c2,.int .i64 x3,.slice a4 l4 c4,.slice a5 l5 c5,.slice a6 l6 c6,.slice a7 l7 c7])]=some (.slice (some ⟨H.size,0,none⟩) 1 1,H.push (.cells #[.string x0,.int .i64 x1,.slice a2 l2 c2,.int .i64 x3,.slice a4 l4 c4,.slice a5 l5 c5,.slice a6 l6 c6,.slice a7 l7 c7] 43)):=HL.bsl_of (vs:=[.agg #[.string x0,.int .i64 x1,.slice a2 l2 c2,.int .i64 x3,.slice a4 l4 c4,.slice a5 l5 c5,.slice a6 l6 c6,.slice a7 l7 c7]]) T.elem27 T.size43 T.zero43 (Nat.le_of_ble_eq_true rfl) rfl rfl
@[go_sem] theorem T.bs40_1 {H:HL.Heap} {x0:Int} {x1:Int} {x2:Int} {x3:Int} {x4:Int} {x5:Int} {x6:Bool} {x7:Int}:HL.buildSliceV Tryz.prog H 40 1 [(0,.agg #[.int .i64 x0,.int .i64 x1,.int .i64 x2,.int .i64 x3,.int .i64 x4,.int .i64 x5,.bool x6,.int .i64 x7])]=some (.slice (some ⟨H.size,0,none⟩) 1 1,H.push (.cells #[.int .i64 x0,.int .i64 x1,.int .i64 x2,.int .i64 x3,.int .i64 x4,.int .i64 x5,.bool x6,.int .i64 x7] 45)):=HL.bsl_of (vs:=[.agg #[.int .i64 x0,.int .i64 x1,.int .i64 x2,.int .i64 x3,.int .i64 x4,.int .i64 x5,.bool x6,.int .i64 x7]]) T.elem40 T.size45 T.zero45 (Nat.le_of_ble_eq_true rfl) rfl rfl
@[go_sem] theorem T.bs64_1 {H:HL.Heap} {x0:Int} {x1:ByteArray} {x2:Int}:HL.buildSliceV Tryz.prog H 64 1 [(0,.agg #[.int .i64 x0,.string x1,.int .i64 x2])]=some (.slice (some ⟨H.size,0,none⟩) 1 1,H.push (.cells #[.int .i64 x0,.string x1,.int .i64 x2] 100)):=HL.bsl_of (vs:=[.agg #[.int .i64 x0,.string x1,.int .i64 x2]]) T.elem64 T.size100 T.zero100 (Nat.le_of_ble_eq_true rfl) rfl rfl
@[go_sem] theorem T.bs70_1 {H:HL.Heap} {x0:Int} {a1:Option Addr} {l1 c1:Nat} {a2:Option Addr} {l2 c2:Nat} {a3:Option Addr} {l3 c3:Nat} {x4:Int} {a5:Option Addr} {l5 c5:Nat}:HL.buildSliceV Tryz.prog H 70 1 [(0,.agg #[.int .i64 x0,.slice a1 l1 c1,.slice a2 l2 c2,.slice a3 l3 c3,.int .i64 x4,.slice a5 l5 c5])]=some (.slice (some ⟨H.size,0,none⟩) 1 1,H.push (.cells #[.int .i64 x0,.slice a1 l1 c1,.slice a2 l2 c2,.slice a3 l3 c3,.int .i64 x4,.slice a5 l5 c5] 72)):=HL.bsl_of (vs:=[.agg #[.int .i64 x0,.slice a1 l1 c1,.slice a2 l2 c2,.slice a3 l3 c3,.int .i64 x4,.slice a5 l5 c5]]) T.elem70 T.size72 T.zero72 (Nat.le_of_ble_eq_true rfl) rfl rfl
@[go_sem] theorem T.bs70_2 {H:HL.Heap} {x0:Int} {a1:Option Addr} {l1 c1:Nat} {a2:Option Addr} {l2 c2:Nat} {a3:Option Addr} {l3 c3:Nat} {x4:Int} {a5:Option Addr} {l5 c5:Nat} {x6:Int} {a7:Option Addr} {l7 c7:Nat} {a8:Option Addr} {l8 c8:Nat} {a9:Option Addr} {l9 c9:Nat} {x10:Int} {a11:Option Addr} {l11 c11:Nat}:HL.buildSliceV Tryz.prog H 70 2 [(0,.agg #[.int .i64 x0,.slice a1 l1 c1,.slice a2 l2 c2,.slice a3 l3 c3,.int .i64 x4,.slice a5 l5 c5]),(1,.agg #[.int .i64 x6,.slice a7 l7 c7,.slice a8 l8 c8,.slice a9 l9 c9,.int .i64 x10,.slice a11 l11 c11])]=some (.slice (some ⟨H.size,0,none⟩) 2 2,H.push (.cells #[.int .i64 x0,.slice a1 l1 c1,.slice a2 l2 c2,.slice a3 l3 c3,.int .i64 x4,.slice a5 l5 c5,.int .i64 x6,.slice a7 l7 c7,.slice a8 l8 c8,.slice a9 l9 c9,.int .i64 x10,.slice a11 l11 c11] 72)):=HL.bsl_of (vs:=[.agg #[.int .i64 x0,.slice a1 l1 c1,.slice a2 l2 c2,.slice a3 l3 c3,.int .i64 x4,.slice a5 l5 c5],.agg #[.int .i64 x6,.slice a7 l7 c7,.slice a8 l8 c8,.slice a9 l9 c9,.int .i64 x10,.slice a11 l11 c11]]) T.elem70 T.size72 T.zero72 (Nat.le_of_ble_eq_true rfl) rfl rfl
@[go_sem] theorem T.bs147_1 {H:HL.Heap} {x0:Int} {x1:Int}:HL.buildSliceV Tryz.prog H 147 1 [(0,.agg #[.int .i64 x0,.int .i64 x1])]=some (.slice (some ⟨H.size,0,none⟩) 1 1,H.push (.cells #[.int .i64 x0,.int .i64 x1] 141)):=HL.bsl_of (vs:=[.agg #[.int .i64 x0,.int .i64 x1]]) T.elem147 T.size141 T.zero141 (Nat.le_of_ble_eq_true rfl) rfl rfl
@[go_sem] theorem T.bs147_2 {H:HL.Heap} {x0:Int} {x1:Int} {x2:Int} {x3:Int}:HL.buildSliceV Tryz.prog H 147 2 [(0,.agg #[.int .i64 x0,.int .i64 x1]),(1,.agg #[.int .i64 x2,.int .i64 x3])]=some (.slice (some ⟨H.size,0,none⟩) 2 2,H.push (.cells #[.int .i64 x0,.int .i64 x1,.int .i64 x2,.int .i64 x3] 141)):=HL.bsl_of (vs:=[.agg #[.int .i64 x0,.int .i64 x1],.agg #[.int .i64 x2,.int .i64 x3]]) T.elem147 T.size141 T.zero141 (Nat.le_of_ble_eq_true rfl) rfl rfl
@[go_sem] theorem T.bs147_4 {H:HL.Heap} {x0:Int} {x1:Int} {x2:Int} {x3:Int} {x4:Int} {x5:Int} {x6:Int} {x7:Int}:HL.buildSliceV Tryz.prog H 147 4 [(0,.agg #[.int .i64 x0,.int .i64 x1]),(1,.agg #[.int .i64 x2,.int .i64 x3]),(2,.agg #[.int .i64 x4,.int .i64 x5]),(3,.agg #[.int .i64 x6,.int .i64 x7])]=some (.slice (some ⟨H.size,0,none⟩) 4 4,H.push (.cells #[.int .i64 x0,.int .i64 x1,.int .i64 x2,.int .i64 x3,.int .i64 x4,.int .i64 x5,.int .i64 x6,.int .i64 x7] 141)):=HL.bsl_of (vs:=[.agg #[.int .i64 x0,.int .i64 x1],.agg #[.int .i64 x2,.int .i64 x3],.agg #[.int .i64 x4,.int .i64 x5],.agg #[.int .i64 x6,.int .i64 x7]]) T.elem147 T.size141 T.zero141 (Nat.le_of_ble_eq_true rfl) rfl rfl
@[go_sem] theorem T.stn30 {H:HL.Heap} {z0 z1 z2 z3 z4 z5 z6:Value} {a0:Option Addr} {l0 c0:Nat} {x1:Int} {a2:Option Addr} {l2 c2:Nat} {a3:Option Addr} {l3 c3:Nat} {a4:Option Addr} {l4 c4:Nat} {a5:Option Addr} {l5 c5:Nat} {x6:Bool}:HL.storeA Tryz.prog (H.push (.cells #[z0,z1,z2,z3,z4,z5,z6] 30)) 30 ⟨H.size,0,none⟩ (.agg #[.slice a0 l0 c0,.int .i64 x1,.slice a2 l2 c2,.slice a3 l3 c3,.slice a4 l4 c4,.slice a5 l5 c5,.bool x6])=some (H.push (.cells #[.slice a0 l0 c0,.int .i64 x1,.slice a2 l2 c2,.slice a3 l3 c3,.slice a4 l4 c4,.slice a5 l5 c5,.bool x6] 30)):=HL.store_new (z:=[z0,z1,z2,z3,z4,z5,z6]) (vs:=[.slice a0 l0 c0,.int .i64 x1,.slice a2 l2 c2,.slice a3 l3 c3,.slice a4 l4 c4,.slice a5 l5 c5,.bool x6]) T.size30 rfl (HL.one_all rfl)
@[go_sem] theorem T.stn36 {H:HL.Heap} {z0 z1:Value} {x0:Int} {x1:Int}:HL.storeA Tryz.prog (H.push (.cells #[z0,z1] 36)) 36 ⟨H.size,0,none⟩ (.agg #[.int .i64 x0,.int .i64 x1])=some (H.push (.cells #[.int .i64 x0,.int .i64 x1] 36)):=HL.store_new (z:=[z0,z1]) (vs:=[.int .i64 x0,.int .i64 x1]) T.size36 rfl (HL.one_all rfl)
@[go_sem] theorem T.ln36 {H:HL.Heap} {z0 z1:Value}:HL.cellsH (HL.cellH (H.push (.cells #[z0,z1] 36))) ⟨H.size,0,none⟩ 0 2=some [z0,z1]:=HL.Blk.cells0 (new:=[z0,z1]) (HL.Blk.new rfl)
@[go_sem] theorem T.stn43 {H:HL.Heap} {z0 z1 z2 z3 z4 z5 z6 z7:Value} {x0:ByteArray} {x1:Int} {a2:Option Addr} {l2 c2:Nat} {x3:Int} {a4:Option Addr} {l4 c4:Nat} {a5:Option Addr} {l5 c5:Nat} {a6:Option Addr} {l6 c6:Nat} {a7:Option Addr} {l7 c7:Nat}:HL.storeA Tryz.prog (H.push (.cells #[z0,z1,z2,z3,z4,z5,z6,z7] 43)) 43 ⟨H.size,0,none⟩ (.agg #[.string x0,.int .i64 x1,.slice a2 l2 c2,.int .i64 x3,.slice a4 l4 c4,.slice a5 l5 c5,.slice a6 l6 c6,.slice a7 l7 c7])=some (H.push (.cells #[.string x0,.int .i64 x1,.slice a2 l2 c2,.int .i64 x3,.slice a4 l4 c4,.slice a5 l5 c5,.slice a6 l6 c6,.slice a7 l7 c7] 43)):=HL.store_new (z:=[z0,z1,z2,z3,z4,z5,z6,z7]) (vs:=[.string x0,.int .i64 x1,.slice a2 l2 c2,.int .i64 x3,.slice a4 l4 c4,.slice a5 l5 c5,.slice a6 l6 c6,.slice a7 l7 c7]) T.size43 rfl (HL.one_all rfl)
@[go_sem] theorem T.stn47 {H:HL.Heap} {z0 z1 z2 z3 z4:Value} {x0:Int} {a1:Option Addr} {l1 c1:Nat} {a2:Option Addr} {l2 c2:Nat} {a3:Option Addr} {l3 c3:Nat} {x4:Int}:HL.storeA Tryz.prog (H.push (.cells #[z0,z1,z2,z3,z4] 47)) 47 ⟨H.size,0,none⟩ (.agg #[.int .i64 x0,.slice a1 l1 c1,.slice a2 l2 c2,.slice a3 l3 c3,.int .i64 x4])=some (H.push (.cells #[.int .i64 x0,.slice a1 l1 c1,.slice a2 l2 c2,.slice a3 l3 c3,.int .i64 x4] 47)):=HL.store_new (z:=[z0,z1,z2,z3,z4]) (vs:=[.int .i64 x0,.slice a1 l1 c1,.slice a2 l2 c2,.slice a3 l3 c3,.int .i64 x4]) T.size47 rfl (HL.one_all rfl)
@[go_sem] theorem T.ln47 {H:HL.Heap} {z0 z1 z2 z3 z4:Value}:HL.cellsH (HL.cellH (H.push (.cells #[z0,z1,z2,z3,z4] 47))) ⟨H.size,0,none⟩ 0 5=some [z0,z1,z2,z3,z4]:=HL.Blk.cells0 (new:=[z0,z1,z2,z3,z4]) (HL.Blk.new rfl)
@[go_sem] theorem T.stn51 {H:HL.Heap} {z0 z1 z2 z3 z4 z5 z6:Value} {a0:Option Addr} {l0 c0:Nat} {x1:Int} {a2:Option Addr} {l2 c2:Nat} {a3:Option Addr} {l3 c3:Nat} {a4:Option Addr} {l4 c4:Nat} {a5:Option Addr} {l5 c5:Nat} {x6:Bool}:HL.storeA Tryz.prog (H.push (.cells #[z0,z1,z2,z3,z4,z5,z6] 51)) 51 ⟨H.size,0,none⟩ (.agg #[.slice a0 l0 c0,.int .i64 x1,.slice a2 l2 c2,.slice a3 l3 c3,.slice a4 l4 c4,.slice a5 l5 c5,.bool x6])=some (H.push (.cells #[.slice a0 l0 c0,.int .i64 x1,.slice a2 l2 c2,.slice a3 l3 c3,.slice a4 l4 c4,.slice a5 l5 c5,.bool x6] 51)):=HL.store_new (z:=[z0,z1,z2,z3,z4,z5,z6]) (vs:=[.slice a0 l0 c0,.int .i64 x1,.slice a2 l2 c2,.slice a3 l3 c3,.slice a4 l4 c4,.slice a5 l5 c5,.bool x6]) T.size51 rfl (HL.one_all rfl)
@[go_sem] theorem T.stn72 {H:HL.Heap} {z0 z1 z2 z3 z4 z5:Value} {x0:Int} {a1:Option Addr} {l1 c1:Nat} {a2:Option Addr} {l2 c2:Nat} {a3:Option Addr} {l3 c3:Nat} {x4:Int} {a5:Option Addr} {l5 c5:Nat}:HL.storeA Tryz.prog (H.push (.cells #[z0,z1,z2,z3,z4,z5] 72)) 72 ⟨H.size,0,none⟩ (.agg #[.int .i64 x0,.slice a1 l1 c1,.slice a2 l2 c2,.slice a3 l3 c3,.int .i64 x4,.slice a5 l5 c5])=some (H.push (.cells #[.int .i64 x0,.slice a1 l1 c1,.slice a2 l2 c2,.slice a3 l3 c3,.int .i64 x4,.slice a5 l5 c5] 72)):=HL.store_new (z:=[z0,z1,z2,z3,z4,z5]) (vs:=[.int .i64 x0,.slice a1 l1 c1,.slice a2 l2 c2,.slice a3 l3 c3,.int .i64 x4,.slice a5 l5 c5]) T.size72 rfl (HL.one_all rfl)
@[go_sem] theorem T.stn77 {H:HL.Heap} {z0 z1 z2 z3:Value} {a0:Option Addr} {l0 c0:Nat} {x1:Int} {x2:Int} {x3:Int}:HL.storeA Tryz.prog (H.push (.cells #[z0,z1,z2,z3] 77)) 77 ⟨H.size,0,none⟩ (.agg #[.slice a0 l0 c0,.int .i64 x1,.int .i64 x2,.int .i64 x3])=some (H.push (.cells #[.slice a0 l0 c0,.int .i64 x1,.int .i64 x2,.int .i64 x3] 77)):=HL.store_new (z:=[z0,z1,z2,z3]) (vs:=[.slice a0 l0 c0,.int .i64 x1,.int .i64 x2,.int .i64 x3]) T.size77 rfl (HL.one_all rfl)
@[go_sem] theorem T.stn100 {H:HL.Heap} {z0 z1 z2:Value} {x0:Int} {x1:ByteArray} {x2:Int}:HL.storeA Tryz.prog (H.push (.cells #[z0,z1,z2] 100)) 100 ⟨H.size,0,none⟩ (.agg #[.int .i64 x0,.string x1,.int .i64 x2])=some (H.push (.cells #[.int .i64 x0,.string x1,.int .i64 x2] 100)):=HL.store_new (z:=[z0,z1,z2]) (vs:=[.int .i64 x0,.string x1,.int .i64 x2]) T.size100 rfl (HL.one_all rfl)
@[go_sem] theorem T.ln100 {H:HL.Heap} {z0 z1 z2:Value}:HL.cellsH (HL.cellH (H.push (.cells #[z0,z1,z2] 100))) ⟨H.size,0,none⟩ 0 3=some [z0,z1,z2]:=HL.Blk.cells0 (new:=[z0,z1,z2]) (HL.Blk.new rfl)
@[go_sem] theorem T.stn141 {H:HL.Heap} {z0 z1:Value} {x0:Int} {x1:Int}:HL.storeA Tryz.prog (H.push (.cells #[z0,z1] 141)) 141 ⟨H.size,0,none⟩ (.agg #[.int .i64 x0,.int .i64 x1])=some (H.push (.cells #[.int .i64 x0,.int .i64 x1] 141)):=HL.store_new (z:=[z0,z1]) (vs:=[.int .i64 x0,.int .i64 x1]) T.size141 rfl (HL.one_all rfl)
@[go_sem] theorem T.sl9 {H:HL.Heap} {a:HL.Str}:HL.lenV Tryz.prog (HL.full H) 9 (.string (HL.bs a))=some (.int .i64 a.length):=HL.str_len Tryz.underlying9
@[go_sem] theorem T.si9 {a:HL.Str} {k:IntKind} {n:Int}:HL.indexV Tryz.prog 9 (.string (HL.bs a)) (.int k n)=HL.chk (0≤n∧n < a.length) (some (HL.u8v (HL.bt8 a n.toNat))):=HL.str_index Tryz.underlying9
@[go_sem] theorem T.ss9 {a:HL.Str} {k k2:IntKind} {x y:Int}:HL.sliceV Tryz.prog 9 (.string (HL.bs a)) (some (.int k x)) (some (.int k2 y)) none=HL.chk (0≤y∧y≤a.length) (HL.chk (0≤x∧x≤y.toNat) (some (.string (HL.bs ((a.take y.toNat).drop x.toNat))))):=HL.str_sub Tryz.underlying9
end Go.Proofs
