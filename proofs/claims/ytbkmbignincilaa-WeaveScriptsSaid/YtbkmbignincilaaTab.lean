/- The type table of the seat, and that it is so; printed by a program of this session (tools/tab.py) off the loaded program. -/
import Derived.Test.YtbkmbignincilaaVC
import Derived.Test.YtbkmbignincilaaProg
namespace Go.Proofs.Ytbkmbignincilaa
open Go Go.VC
set_option linter.unusedVariables false
abbrev ty3 : Ty := ⟨(TypeDesc.int IntKind.i64), 1, some (Value.int IntKind.i64 0)⟩
theorem ty3_ok : TyOK Try.prog 3 ty3 := ⟨Try.runUnderlying3, Try.sizeOf3, Try.isAgg3, fun z h => by cases h; exact Try.zeroValue3⟩
abbrev ty24 : Ty := ⟨(TypeDesc.struct #[{ name := "Time", type := 3, offset := 0, embedded := false, tag := "", pkgPath := "", byteOffset := 0 }, { name := "Site", type := 3, offset := 1, embedded := false, tag := "", pkgPath := "", byteOffset := 8 }]), 2, some (Value.agg #[Value.int IntKind.i64 0, Value.int IntKind.i64 0])⟩
theorem ty24_ok : TyOK Try.prog 24 ty24 := ⟨Try.runUnderlying24, Try.sizeOf24, Try.isAgg24, fun z h => by cases h; exact Try.zeroValue24⟩
abbrev ty41 : Ty := ⟨(TypeDesc.slice 24), 1, some (Value.slice none 0 0)⟩
theorem ty41_ok : TyOK Try.prog 41 ty41 := ⟨Try.runUnderlying41, Try.sizeOf41, Try.isAgg41, fun z h => by cases h; exact Try.zeroValue41⟩
abbrev ty28 : Ty := ⟨(TypeDesc.slice 49), 1, some (Value.slice none 0 0)⟩
theorem ty28_ok : TyOK Try.prog 28 ty28 := ⟨Try.runUnderlying28, Try.sizeOf28, Try.isAgg28, fun z h => by cases h; exact Try.zeroValue28⟩
abbrev ty25 : Ty := ⟨(TypeDesc.pointer 76), 1, some (Value.pointer none)⟩
theorem ty25_ok : TyOK Try.prog 25 ty25 := ⟨Try.runUnderlying25, Try.sizeOf25, Try.isAgg25, fun z h => by cases h; exact Try.zeroValue25⟩
abbrev ty49 : Ty := ⟨(TypeDesc.struct #[{ name := "Id", type := 24, offset := 0, embedded := false, tag := "", pkgPath := "", byteOffset := 0 }, { name := "Ref", type := 24, offset := 2, embedded := false, tag := "", pkgPath := "", byteOffset := 16 }, { name := "Rune", type := 3, offset := 4, embedded := false, tag := "", pkgPath := "", byteOffset := 32 }, { name := "Users", type := 47, offset := 5, embedded := false, tag := "", pkgPath := "", byteOffset := 40 }]), 6, some (Value.agg #[Value.int IntKind.i64 0, Value.int IntKind.i64 0, Value.int IntKind.i64 0, Value.int IntKind.i64 0, Value.int IntKind.i64 0, Value.slice none 0 0])⟩
theorem ty49_ok : TyOK Try.prog 49 ty49 := ⟨Try.runUnderlying49, Try.sizeOf49, Try.isAgg49, fun z h => by cases h; exact Try.zeroValue49⟩
abbrev ty57 : Ty := ⟨(TypeDesc.struct #[{ name := "Kind", type := 3, offset := 0, embedded := false, tag := "", pkgPath := "", byteOffset := 0 }, { name := "Epoch", type := 3, offset := 1, embedded := false, tag := "", pkgPath := "", byteOffset := 8 }, { name := "Id", type := 24, offset := 2, embedded := false, tag := "", pkgPath := "", byteOffset := 16 }, { name := "Ref", type := 24, offset := 4, embedded := false, tag := "", pkgPath := "", byteOffset := 32 }, { name := "Rune", type := 3, offset := 6, embedded := false, tag := "", pkgPath := "", byteOffset := 48 }]), 7, some (Value.agg #[Value.int IntKind.i64 0, Value.int IntKind.i64 0, Value.int IntKind.i64 0, Value.int IntKind.i64 0, Value.int IntKind.i64 0, Value.int IntKind.i64 0, Value.int IntKind.i64 0])⟩
theorem ty57_ok : TyOK Try.prog 57 ty57 := ⟨Try.runUnderlying57, Try.sizeOf57, Try.isAgg57, fun z h => by cases h; exact Try.zeroValue57⟩
abbrev ty59 : Ty := ⟨(TypeDesc.struct #[{ name := "Site", type := 3, offset := 0, embedded := false, tag := "", pkgPath := "", byteOffset := 0 }, { name := "Op", type := 57, offset := 1, embedded := false, tag := "", pkgPath := "", byteOffset := 8 }]), 8, some (Value.agg #[Value.int IntKind.i64 0, Value.int IntKind.i64 0, Value.int IntKind.i64 0, Value.int IntKind.i64 0, Value.int IntKind.i64 0, Value.int IntKind.i64 0, Value.int IntKind.i64 0, Value.int IntKind.i64 0])⟩
theorem ty59_ok : TyOK Try.prog 59 ty59 := ⟨Try.runUnderlying59, Try.sizeOf59, Try.isAgg59, fun z h => by cases h; exact Try.zeroValue59⟩
abbrev ty32 : Ty := ⟨(TypeDesc.struct #[{ name := "Drop", type := 4, offset := 0, embedded := false, tag := "", pkgPath := "", byteOffset := 0 }, { name := "Id", type := 24, offset := 1, embedded := false, tag := "", pkgPath := "", byteOffset := 8 }, { name := "Ref", type := 24, offset := 3, embedded := false, tag := "", pkgPath := "", byteOffset := 24 }, { name := "Rune", type := 3, offset := 5, embedded := false, tag := "", pkgPath := "", byteOffset := 40 }]), 6, some (Value.agg #[Value.bool false, Value.int IntKind.i64 0, Value.int IntKind.i64 0, Value.int IntKind.i64 0, Value.int IntKind.i64 0, Value.int IntKind.i64 0])⟩
theorem ty32_ok : TyOK Try.prog 32 ty32 := ⟨Try.runUnderlying32, Try.sizeOf32, Try.isAgg32, fun z h => by cases h; exact Try.zeroValue32⟩
abbrev ty47 : Ty := ⟨(TypeDesc.slice 3), 1, some (Value.slice none 0 0)⟩
theorem ty47_ok : TyOK Try.prog 47 ty47 := ⟨Try.runUnderlying47, Try.sizeOf47, Try.isAgg47, fun z h => by cases h; exact Try.zeroValue47⟩
abbrev ty60 : Ty := ⟨(TypeDesc.pointer 93), 1, some (Value.pointer none)⟩
theorem ty60_ok : TyOK Try.prog 60 ty60 := ⟨Try.runUnderlying60, Try.sizeOf60, Try.isAgg60, fun z h => by cases h; exact Try.zeroValue60⟩
abbrev ty33 : Ty := ⟨(TypeDesc.int IntKind.i64), 1, some (Value.int IntKind.i64 0)⟩
theorem ty33_ok : TyOK Try.prog 33 ty33 := ⟨Try.runUnderlying33, Try.sizeOf33, Try.isAgg33, fun z h => by cases h; exact Try.zeroValue33⟩
abbrev ty64 : Ty := ⟨(TypeDesc.slice 59), 1, some (Value.slice none 0 0)⟩
theorem ty64_ok : TyOK Try.prog 64 ty64 := ⟨Try.runUnderlying64, Try.sizeOf64, Try.isAgg64, fun z h => by cases h; exact Try.zeroValue64⟩
abbrev ty74 : Ty := ⟨(TypeDesc.map 24 71), 1, some (Value.map none)⟩
theorem ty74_ok : TyOK Try.prog 74 ty74 := ⟨Try.runUnderlying74, Try.sizeOf74, Try.isAgg74, fun z h => by cases h; exact Try.zeroValue74⟩
abbrev ty95 : Ty := ⟨(TypeDesc.struct #[{ name := "id", type := 24, offset := 0, embedded := false, tag := "", pkgPath := "duet/undo", byteOffset := 0 }, { name := "site", type := 3, offset := 2, embedded := false, tag := "", pkgPath := "duet/undo", byteOffset := 16 }]), 3, some (Value.agg #[Value.int IntKind.i64 0, Value.int IntKind.i64 0, Value.int IntKind.i64 0])⟩
theorem ty95_ok : TyOK Try.prog 95 ty95 := ⟨Try.runUnderlying95, Try.sizeOf95, Try.isAgg95, fun z h => by cases h; exact Try.zeroValue95⟩
abbrev ty22 : Ty := ⟨(TypeDesc.slice 32), 1, some (Value.slice none 0 0)⟩
theorem ty22_ok : TyOK Try.prog 22 ty22 := ⟨Try.runUnderlying22, Try.sizeOf22, Try.isAgg22, fun z h => by cases h; exact Try.zeroValue22⟩
abbrev ty27 : Ty := ⟨(TypeDesc.pointer 30), 1, some (Value.pointer none)⟩
theorem ty27_ok : TyOK Try.prog 27 ty27 := ⟨Try.runUnderlying27, Try.sizeOf27, Try.isAgg27, fun z h => by cases h; exact Try.zeroValue27⟩
abbrev ty30 : Ty := ⟨(TypeDesc.struct #[{ name := "L", type := 28, offset := 0, embedded := false, tag := "", pkgPath := "", byteOffset := 0 }]), 1, some (Value.agg #[Value.slice none 0 0])⟩
theorem ty30_ok : TyOK Try.prog 30 ty30 := ⟨Try.runUnderlying30, Try.sizeOf30, Try.isAgg30, fun z h => by cases h; exact Try.zeroValue30⟩
abbrev ty73 : Ty := ⟨(TypeDesc.struct #[{ name := "element", type := 49, offset := 0, embedded := false, tag := "", pkgPath := "duet/weave", byteOffset := 0 }, { name := "kids", type := 41, offset := 6, embedded := false, tag := "", pkgPath := "duet/weave", byteOffset := 64 }]), 7, some (Value.agg #[Value.int IntKind.i64 0, Value.int IntKind.i64 0, Value.int IntKind.i64 0, Value.int IntKind.i64 0, Value.int IntKind.i64 0, Value.slice none 0 0, Value.slice none 0 0])⟩
theorem ty73_ok : TyOK Try.prog 73 ty73 := ⟨Try.runUnderlying73, Try.sizeOf73, Try.isAgg73, fun z h => by cases h; exact Try.zeroValue73⟩
abbrev ty76 : Ty := ⟨(TypeDesc.struct #[{ name := "nodes", type := 74, offset := 0, embedded := false, tag := "", pkgPath := "duet/weave", byteOffset := 0 }]), 1, some (Value.agg #[Value.map none])⟩
theorem ty76_ok : TyOK Try.prog 76 ty76 := ⟨Try.runUnderlying76, Try.sizeOf76, Try.isAgg76, fun z h => by cases h; exact Try.zeroValue76⟩
abbrev ty4 : Ty := ⟨TypeDesc.bool, 1, some (Value.bool false)⟩
theorem ty4_ok : TyOK Try.prog 4 ty4 := ⟨Try.runUnderlying4, Try.sizeOf4, Try.isAgg4, fun z h => by cases h; exact Try.zeroValue4⟩
abbrev ty93 : Ty := ⟨(TypeDesc.struct #[{ name := "line", type := 25, offset := 0, embedded := false, tag := "", pkgPath := "duet/undo", byteOffset := 0 }, { name := "flags", type := 91, offset := 1, embedded := false, tag := "", pkgPath := "duet/undo", byteOffset := 8 }]), 2, some (Value.agg #[Value.pointer none, Value.map none])⟩
theorem ty93_ok : TyOK Try.prog 93 ty93 := ⟨Try.runUnderlying93, Try.sizeOf93, Try.isAgg93, fun z h => by cases h; exact Try.zeroValue93⟩
abbrev ty101 : Ty := ⟨(TypeDesc.slice 21), 1, some (Value.slice none 0 0)⟩
theorem ty101_ok : TyOK Try.prog 101 ty101 := ⟨Try.runUnderlying101, Try.sizeOf101, Try.isAgg101, fun z h => by cases h; exact Try.zeroValue101⟩
abbrev ty91 : Ty := ⟨(TypeDesc.map 95 3), 1, some (Value.map none)⟩
theorem ty91_ok : TyOK Try.prog 91 ty91 := ⟨Try.runUnderlying91, Try.sizeOf91, Try.isAgg91, fun z h => by cases h; exact Try.zeroValue91⟩
abbrev ty9 : Ty := ⟨TypeDesc.string, 1, some (Value.string { data := #[] })⟩
theorem ty9_ok : TyOK Try.prog 9 ty9 := ⟨Try.runUnderlying9, Try.sizeOf9, Try.isAgg9, fun z h => by cases h; exact Try.zeroValue9⟩
abbrev ty112 : Ty := ⟨(TypeDesc.map 3 111), 1, some (Value.map none)⟩
theorem ty112_ok : TyOK Try.prog 112 ty112 := ⟨Try.runUnderlying112, Try.sizeOf112, Try.isAgg112, fun z h => by cases h; exact Try.zeroValue112⟩
abbrev ty100 : Ty := ⟨(TypeDesc.slice 33), 1, some (Value.slice none 0 0)⟩
theorem ty100_ok : TyOK Try.prog 100 ty100 := ⟨Try.runUnderlying100, Try.sizeOf100, Try.isAgg100, fun z h => by cases h; exact Try.zeroValue100⟩
abbrev ty105 : Ty := ⟨(TypeDesc.int IntKind.u64), 1, some (Value.int IntKind.u64 0)⟩
theorem ty105_ok : TyOK Try.prog 105 ty105 := ⟨Try.runUnderlying105, Try.sizeOf105, Try.isAgg105, fun z h => by cases h; exact Try.zeroValue105⟩
abbrev ty107 : Ty := ⟨(TypeDesc.func #[49] #[4] false), 1, some (Value.nilFunc)⟩
theorem ty107_ok : TyOK Try.prog 107 ty107 := ⟨Try.runUnderlying107, Try.sizeOf107, Try.isAgg107, fun z h => by cases h; exact Try.zeroValue107⟩
abbrev ty21 : Ty := ⟨(TypeDesc.int IntKind.i32), 1, some (Value.int IntKind.i32 0)⟩
theorem ty21_ok : TyOK Try.prog 21 ty21 := ⟨Try.runUnderlying21, Try.sizeOf21, Try.isAgg21, fun z h => by cases h; exact Try.zeroValue21⟩
abbrev ty71 : Ty := ⟨(TypeDesc.pointer 73), 1, some (Value.pointer none)⟩
theorem ty71_ok : TyOK Try.prog 71 ty71 := ⟨Try.runUnderlying71, Try.sizeOf71, Try.isAgg71, fun z h => by cases h; exact Try.zeroValue71⟩
abbrev ty79 : Ty := ⟨(TypeDesc.func #[24, 24] #[3] false), 1, some (Value.nilFunc)⟩
theorem ty79_ok : TyOK Try.prog 79 ty79 := ⟨Try.runUnderlying79, Try.sizeOf79, Try.isAgg79, fun z h => by cases h; exact Try.zeroValue79⟩
abbrev ty85 : Ty := ⟨(TypeDesc.func #[107] #[] false), 1, some (Value.nilFunc)⟩
theorem ty85_ok : TyOK Try.prog 85 ty85 := ⟨Try.runUnderlying85, Try.sizeOf85, Try.isAgg85, fun z h => by cases h; exact Try.zeroValue85⟩
abbrev ty111 : Ty := ⟨(TypeDesc.func #[3, 4] #[3, 33] false), 1, some (Value.nilFunc)⟩
theorem ty111_ok : TyOK Try.prog 111 ty111 := ⟨Try.runUnderlying111, Try.sizeOf111, Try.isAgg111, fun z h => by cases h; exact Try.zeroValue111⟩
theorem info3 : (Try.prog.info? 3).map (fun i => (i.zero, i.size, i.bytes)) = some (some (Value.int IntKind.i64 0), 1, (Try.prog.info? 3).elim 0 (·.bytes)) := by kernel_rfl
theorem info24 : (Try.prog.info? 24).map (fun i => (i.zero, i.size, i.bytes)) = some (some (Value.agg #[Value.int IntKind.i64 0, Value.int IntKind.i64 0]), 2, (Try.prog.info? 24).elim 0 (·.bytes)) := by kernel_rfl
theorem info41 : (Try.prog.info? 41).map (fun i => (i.zero, i.size, i.bytes)) = some (some (Value.slice none 0 0), 1, (Try.prog.info? 41).elim 0 (·.bytes)) := by kernel_rfl
theorem info28 : (Try.prog.info? 28).map (fun i => (i.zero, i.size, i.bytes)) = some (some (Value.slice none 0 0), 1, (Try.prog.info? 28).elim 0 (·.bytes)) := by kernel_rfl
theorem info25 : (Try.prog.info? 25).map (fun i => (i.zero, i.size, i.bytes)) = some (some (Value.pointer none), 1, (Try.prog.info? 25).elim 0 (·.bytes)) := by kernel_rfl
theorem info49 : (Try.prog.info? 49).map (fun i => (i.zero, i.size, i.bytes)) = some (some (Value.agg #[Value.int IntKind.i64 0, Value.int IntKind.i64 0, Value.int IntKind.i64 0, Value.int IntKind.i64 0, Value.int IntKind.i64 0, Value.slice none 0 0]), 6, (Try.prog.info? 49).elim 0 (·.bytes)) := by kernel_rfl
theorem info57 : (Try.prog.info? 57).map (fun i => (i.zero, i.size, i.bytes)) = some (some (Value.agg #[Value.int IntKind.i64 0, Value.int IntKind.i64 0, Value.int IntKind.i64 0, Value.int IntKind.i64 0, Value.int IntKind.i64 0, Value.int IntKind.i64 0, Value.int IntKind.i64 0]), 7, (Try.prog.info? 57).elim 0 (·.bytes)) := by kernel_rfl
theorem info59 : (Try.prog.info? 59).map (fun i => (i.zero, i.size, i.bytes)) = some (some (Value.agg #[Value.int IntKind.i64 0, Value.int IntKind.i64 0, Value.int IntKind.i64 0, Value.int IntKind.i64 0, Value.int IntKind.i64 0, Value.int IntKind.i64 0, Value.int IntKind.i64 0, Value.int IntKind.i64 0]), 8, (Try.prog.info? 59).elim 0 (·.bytes)) := by kernel_rfl
theorem info32 : (Try.prog.info? 32).map (fun i => (i.zero, i.size, i.bytes)) = some (some (Value.agg #[Value.bool false, Value.int IntKind.i64 0, Value.int IntKind.i64 0, Value.int IntKind.i64 0, Value.int IntKind.i64 0, Value.int IntKind.i64 0]), 6, (Try.prog.info? 32).elim 0 (·.bytes)) := by kernel_rfl
theorem info47 : (Try.prog.info? 47).map (fun i => (i.zero, i.size, i.bytes)) = some (some (Value.slice none 0 0), 1, (Try.prog.info? 47).elim 0 (·.bytes)) := by kernel_rfl
theorem info60 : (Try.prog.info? 60).map (fun i => (i.zero, i.size, i.bytes)) = some (some (Value.pointer none), 1, (Try.prog.info? 60).elim 0 (·.bytes)) := by kernel_rfl
theorem info33 : (Try.prog.info? 33).map (fun i => (i.zero, i.size, i.bytes)) = some (some (Value.int IntKind.i64 0), 1, (Try.prog.info? 33).elim 0 (·.bytes)) := by kernel_rfl
theorem info64 : (Try.prog.info? 64).map (fun i => (i.zero, i.size, i.bytes)) = some (some (Value.slice none 0 0), 1, (Try.prog.info? 64).elim 0 (·.bytes)) := by kernel_rfl
theorem info74 : (Try.prog.info? 74).map (fun i => (i.zero, i.size, i.bytes)) = some (some (Value.map none), 1, (Try.prog.info? 74).elim 0 (·.bytes)) := by kernel_rfl
theorem info95 : (Try.prog.info? 95).map (fun i => (i.zero, i.size, i.bytes)) = some (some (Value.agg #[Value.int IntKind.i64 0, Value.int IntKind.i64 0, Value.int IntKind.i64 0]), 3, (Try.prog.info? 95).elim 0 (·.bytes)) := by kernel_rfl
theorem info22 : (Try.prog.info? 22).map (fun i => (i.zero, i.size, i.bytes)) = some (some (Value.slice none 0 0), 1, (Try.prog.info? 22).elim 0 (·.bytes)) := by kernel_rfl
theorem info27 : (Try.prog.info? 27).map (fun i => (i.zero, i.size, i.bytes)) = some (some (Value.pointer none), 1, (Try.prog.info? 27).elim 0 (·.bytes)) := by kernel_rfl
theorem info30 : (Try.prog.info? 30).map (fun i => (i.zero, i.size, i.bytes)) = some (some (Value.agg #[Value.slice none 0 0]), 1, (Try.prog.info? 30).elim 0 (·.bytes)) := by kernel_rfl
theorem info73 : (Try.prog.info? 73).map (fun i => (i.zero, i.size, i.bytes)) = some (some (Value.agg #[Value.int IntKind.i64 0, Value.int IntKind.i64 0, Value.int IntKind.i64 0, Value.int IntKind.i64 0, Value.int IntKind.i64 0, Value.slice none 0 0, Value.slice none 0 0]), 7, (Try.prog.info? 73).elim 0 (·.bytes)) := by kernel_rfl
theorem info76 : (Try.prog.info? 76).map (fun i => (i.zero, i.size, i.bytes)) = some (some (Value.agg #[Value.map none]), 1, (Try.prog.info? 76).elim 0 (·.bytes)) := by kernel_rfl
theorem info4 : (Try.prog.info? 4).map (fun i => (i.zero, i.size, i.bytes)) = some (some (Value.bool false), 1, (Try.prog.info? 4).elim 0 (·.bytes)) := by kernel_rfl
theorem info93 : (Try.prog.info? 93).map (fun i => (i.zero, i.size, i.bytes)) = some (some (Value.agg #[Value.pointer none, Value.map none]), 2, (Try.prog.info? 93).elim 0 (·.bytes)) := by kernel_rfl
theorem info101 : (Try.prog.info? 101).map (fun i => (i.zero, i.size, i.bytes)) = some (some (Value.slice none 0 0), 1, (Try.prog.info? 101).elim 0 (·.bytes)) := by kernel_rfl
theorem info91 : (Try.prog.info? 91).map (fun i => (i.zero, i.size, i.bytes)) = some (some (Value.map none), 1, (Try.prog.info? 91).elim 0 (·.bytes)) := by kernel_rfl
theorem info9 : (Try.prog.info? 9).map (fun i => (i.zero, i.size, i.bytes)) = some (some (Value.string { data := #[] }), 1, (Try.prog.info? 9).elim 0 (·.bytes)) := by kernel_rfl
theorem info112 : (Try.prog.info? 112).map (fun i => (i.zero, i.size, i.bytes)) = some (some (Value.map none), 1, (Try.prog.info? 112).elim 0 (·.bytes)) := by kernel_rfl
theorem info100 : (Try.prog.info? 100).map (fun i => (i.zero, i.size, i.bytes)) = some (some (Value.slice none 0 0), 1, (Try.prog.info? 100).elim 0 (·.bytes)) := by kernel_rfl
theorem info105 : (Try.prog.info? 105).map (fun i => (i.zero, i.size, i.bytes)) = some (some (Value.int IntKind.u64 0), 1, (Try.prog.info? 105).elim 0 (·.bytes)) := by kernel_rfl
theorem info107 : (Try.prog.info? 107).map (fun i => (i.zero, i.size, i.bytes)) = some (some (Value.nilFunc), 1, (Try.prog.info? 107).elim 0 (·.bytes)) := by kernel_rfl
theorem info21 : (Try.prog.info? 21).map (fun i => (i.zero, i.size, i.bytes)) = some (some (Value.int IntKind.i32 0), 1, (Try.prog.info? 21).elim 0 (·.bytes)) := by kernel_rfl
theorem info71 : (Try.prog.info? 71).map (fun i => (i.zero, i.size, i.bytes)) = some (some (Value.pointer none), 1, (Try.prog.info? 71).elim 0 (·.bytes)) := by kernel_rfl
theorem info79 : (Try.prog.info? 79).map (fun i => (i.zero, i.size, i.bytes)) = some (some (Value.nilFunc), 1, (Try.prog.info? 79).elim 0 (·.bytes)) := by kernel_rfl
theorem info85 : (Try.prog.info? 85).map (fun i => (i.zero, i.size, i.bytes)) = some (some (Value.nilFunc), 1, (Try.prog.info? 85).elim 0 (·.bytes)) := by kernel_rfl
theorem info111 : (Try.prog.info? 111).map (fun i => (i.zero, i.size, i.bytes)) = some (some (Value.nilFunc), 1, (Try.prog.info? 111).elim 0 (·.bytes)) := by kernel_rfl
abbrev tab : Tab := [(3, ty3), (24, ty24), (41, ty41), (28, ty28), (25, ty25), (49, ty49), (57, ty57), (59, ty59), (32, ty32), (47, ty47), (60, ty60), (33, ty33), (64, ty64), (74, ty74), (95, ty95), (22, ty22), (27, ty27), (30, ty30), (73, ty73), (76, ty76), (4, ty4), (93, ty93), (101, ty101), (91, ty91), (9, ty9), (112, ty112), (100, ty100), (105, ty105), (107, ty107), (21, ty21), (71, ty71), (79, ty79), (85, ty85), (111, ty111)]
theorem tab_ok : TabOK Try.prog tab := by
  intro p hp
  simp only [tab, List.mem_cons, List.not_mem_nil, or_false] at hp
  rcases hp with rfl | rfl | rfl | rfl | rfl | rfl | rfl | rfl | rfl | rfl | rfl | rfl | rfl | rfl | rfl | rfl | rfl | rfl | rfl | rfl | rfl | rfl | rfl | rfl | rfl | rfl | rfl | rfl | rfl | rfl | rfl | rfl | rfl | rfl
  · exact ty3_ok
  · exact ty24_ok
  · exact ty41_ok
  · exact ty28_ok
  · exact ty25_ok
  · exact ty49_ok
  · exact ty57_ok
  · exact ty59_ok
  · exact ty32_ok
  · exact ty47_ok
  · exact ty60_ok
  · exact ty33_ok
  · exact ty64_ok
  · exact ty74_ok
  · exact ty95_ok
  · exact ty22_ok
  · exact ty27_ok
  · exact ty30_ok
  · exact ty73_ok
  · exact ty76_ok
  · exact ty4_ok
  · exact ty93_ok
  · exact ty101_ok
  · exact ty91_ok
  · exact ty9_ok
  · exact ty112_ok
  · exact ty100_ok
  · exact ty105_ok
  · exact ty107_ok
  · exact ty21_ok
  · exact ty71_ok
  · exact ty79_ok
  · exact ty85_ok
  · exact ty111_ok
end Go.Proofs.Ytbkmbignincilaa
