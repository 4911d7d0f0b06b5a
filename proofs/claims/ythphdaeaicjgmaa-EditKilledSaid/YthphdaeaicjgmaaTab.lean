/- The type table of the seat, and that it is so; printed by a program of this session (tools/tab.py) off the loaded program. -/
import Derived.Test.YthphdaeaicjgmaaVC
import Derived.Test.YthphdaeaicjgmaaProg
import Derived.KernelRfl
namespace Go.Proofs.Ythphdaeaicjgmaa
open Go Go.VC
set_option linter.unusedVariables false
abbrev ty3 : Ty := ⟨(TypeDesc.int IntKind.i64), 1, some (Value.int IntKind.i64 0)⟩
theorem ty3_ok : TyOK Try.prog 3 ty3 := ⟨Try.runUnderlying3, Try.sizeOf3, Try.isAgg3, fun z h => by cases h; exact Try.zeroValue3⟩
abbrev ty22 : Ty := ⟨(TypeDesc.slice 3), 1, some (Value.slice none 0 0)⟩
theorem ty22_ok : TyOK Try.prog 22 ty22 := ⟨Try.runUnderlying22, Try.sizeOf22, Try.isAgg22, fun z h => by cases h; exact Try.zeroValue22⟩
abbrev ty29 : Ty := ⟨(TypeDesc.struct #[{ name := "Line", type := 22, offset := 0, embedded := false, tag := "", pkgPath := "", byteOffset := 0 }, { name := "At", type := 3, offset := 1, embedded := false, tag := "", pkgPath := "", byteOffset := 24 }, { name := "Kill", type := 22, offset := 2, embedded := false, tag := "", pkgPath := "", byteOffset := 32 }]), 3, some (Value.agg #[Value.slice none 0 0, Value.int IntKind.i64 0, Value.slice none 0 0])⟩
theorem ty29_ok : TyOK Try.prog 29 ty29 := ⟨Try.runUnderlying29, Try.sizeOf29, Try.isAgg29, fun z h => by cases h; exact Try.zeroValue29⟩
abbrev ty24 : Ty := ⟨(TypeDesc.struct #[{ name := "Line", type := 22, offset := 0, embedded := false, tag := "", pkgPath := "", byteOffset := 0 }, { name := "At", type := 3, offset := 1, embedded := false, tag := "", pkgPath := "", byteOffset := 24 }, { name := "Kill", type := 22, offset := 2, embedded := false, tag := "", pkgPath := "", byteOffset := 32 }]), 3, some (Value.agg #[Value.slice none 0 0, Value.int IntKind.i64 0, Value.slice none 0 0])⟩
theorem ty24_ok : TyOK Try.prog 24 ty24 := ⟨Try.runUnderlying24, Try.sizeOf24, Try.isAgg24, fun z h => by cases h; exact Try.zeroValue24⟩
abbrev ty60 : Ty := ⟨(TypeDesc.struct #[{ name := "State", type := 29, offset := 0, embedded := true, tag := "", pkgPath := "", byteOffset := 0 }, { name := "acts", type := 30, offset := 3, embedded := false, tag := "", pkgPath := "duet/edit", byteOffset := 56 }]), 4, some (Value.agg #[Value.slice none 0 0, Value.int IntKind.i64 0, Value.slice none 0 0, Value.slice none 0 0])⟩
theorem ty60_ok : TyOK Try.prog 60 ty60 := ⟨Try.runUnderlying60, Try.sizeOf60, Try.isAgg60, fun z h => by cases h; exact Try.zeroValue60⟩
abbrev ty33 : Ty := ⟨(TypeDesc.struct #[{ name := "Kind", type := 3, offset := 0, embedded := false, tag := "", pkgPath := "", byteOffset := 0 }, { name := "Rune", type := 3, offset := 1, embedded := false, tag := "", pkgPath := "", byteOffset := 8 }]), 2, some (Value.agg #[Value.int IntKind.i64 0, Value.int IntKind.i64 0])⟩
theorem ty33_ok : TyOK Try.prog 33 ty33 := ⟨Try.runUnderlying33, Try.sizeOf33, Try.isAgg33, fun z h => by cases h; exact Try.zeroValue33⟩
abbrev ty68 : Ty := ⟨(TypeDesc.struct #[{ name := "s", type := 24, offset := 0, embedded := false, tag := "", pkgPath := "duet/duetref18", byteOffset := 0 }, { name := "l", type := 35, offset := 3, embedded := false, tag := "", pkgPath := "duet/duetref18", byteOffset := 56 }]), 4, some (Value.agg #[Value.slice none 0 0, Value.int IntKind.i64 0, Value.slice none 0 0, Value.slice none 0 0])⟩
theorem ty68_ok : TyOK Try.prog 68 ty68 := ⟨Try.runUnderlying68, Try.sizeOf68, Try.isAgg68, fun z h => by cases h; exact Try.zeroValue68⟩
abbrev ty35 : Ty := ⟨(TypeDesc.slice 72), 1, some (Value.slice none 0 0)⟩
theorem ty35_ok : TyOK Try.prog 35 ty35 := ⟨Try.runUnderlying35, Try.sizeOf35, Try.isAgg35, fun z h => by cases h; exact Try.zeroValue35⟩
abbrev ty72 : Ty := ⟨(TypeDesc.struct #[{ name := "Kind", type := 3, offset := 0, embedded := false, tag := "", pkgPath := "", byteOffset := 0 }, { name := "At", type := 3, offset := 1, embedded := false, tag := "", pkgPath := "", byteOffset := 8 }, { name := "Rune", type := 3, offset := 2, embedded := false, tag := "", pkgPath := "", byteOffset := 16 }]), 3, some (Value.agg #[Value.int IntKind.i64 0, Value.int IntKind.i64 0, Value.int IntKind.i64 0])⟩
theorem ty72_ok : TyOK Try.prog 72 ty72 := ⟨Try.runUnderlying72, Try.sizeOf72, Try.isAgg72, fun z h => by cases h; exact Try.zeroValue72⟩
abbrev ty30 : Ty := ⟨(TypeDesc.slice 73), 1, some (Value.slice none 0 0)⟩
theorem ty30_ok : TyOK Try.prog 30 ty30 := ⟨Try.runUnderlying30, Try.sizeOf30, Try.isAgg30, fun z h => by cases h; exact Try.zeroValue30⟩
abbrev ty4 : Ty := ⟨TypeDesc.bool, 1, some (Value.bool false)⟩
theorem ty4_ok : TyOK Try.prog 4 ty4 := ⟨Try.runUnderlying4, Try.sizeOf4, Try.isAgg4, fun z h => by cases h; exact Try.zeroValue4⟩
abbrev ty64 : Ty := ⟨(TypeDesc.map 33 62), 1, some (Value.map none)⟩
theorem ty64_ok : TyOK Try.prog 64 ty64 := ⟨Try.runUnderlying64, Try.sizeOf64, Try.isAgg64, fun z h => by cases h; exact Try.zeroValue64⟩
abbrev ty66 : Ty := ⟨(TypeDesc.pointer 68), 1, some (Value.pointer none)⟩
theorem ty66_ok : TyOK Try.prog 66 ty66 := ⟨Try.runUnderlying66, Try.sizeOf66, Try.isAgg66, fun z h => by cases h; exact Try.zeroValue66⟩
abbrev ty73 : Ty := ⟨(TypeDesc.struct #[{ name := "Kind", type := 3, offset := 0, embedded := false, tag := "", pkgPath := "", byteOffset := 0 }, { name := "At", type := 3, offset := 1, embedded := false, tag := "", pkgPath := "", byteOffset := 8 }, { name := "Rune", type := 3, offset := 2, embedded := false, tag := "", pkgPath := "", byteOffset := 16 }]), 3, some (Value.agg #[Value.int IntKind.i64 0, Value.int IntKind.i64 0, Value.int IntKind.i64 0])⟩
theorem ty73_ok : TyOK Try.prog 73 ty73 := ⟨Try.runUnderlying73, Try.sizeOf73, Try.isAgg73, fun z h => by cases h; exact Try.zeroValue73⟩
abbrev ty21 : Ty := ⟨(TypeDesc.int IntKind.i32), 1, some (Value.int IntKind.i32 0)⟩
theorem ty21_ok : TyOK Try.prog 21 ty21 := ⟨Try.runUnderlying21, Try.sizeOf21, Try.isAgg21, fun z h => by cases h; exact Try.zeroValue21⟩
abbrev ty26 : Ty := ⟨(TypeDesc.struct #[{ name := "Kind", type := 3, offset := 0, embedded := false, tag := "", pkgPath := "", byteOffset := 0 }, { name := "Rune", type := 3, offset := 1, embedded := false, tag := "", pkgPath := "", byteOffset := 8 }]), 2, some (Value.agg #[Value.int IntKind.i64 0, Value.int IntKind.i64 0])⟩
theorem ty26_ok : TyOK Try.prog 26 ty26 := ⟨Try.runUnderlying26, Try.sizeOf26, Try.isAgg26, fun z h => by cases h; exact Try.zeroValue26⟩
abbrev ty56 : Ty := ⟨(TypeDesc.pointer 60), 1, some (Value.pointer none)⟩
theorem ty56_ok : TyOK Try.prog 56 ty56 := ⟨Try.runUnderlying56, Try.sizeOf56, Try.isAgg56, fun z h => by cases h; exact Try.zeroValue56⟩
abbrev ty51 : Ty := ⟨(TypeDesc.slice 33), 1, some (Value.slice none 0 0)⟩
theorem ty51_ok : TyOK Try.prog 51 ty51 := ⟨Try.runUnderlying51, Try.sizeOf51, Try.isAgg51, fun z h => by cases h; exact Try.zeroValue51⟩
abbrev ty9 : Ty := ⟨TypeDesc.string, 1, some (Value.string { data := #[] })⟩
theorem ty9_ok : TyOK Try.prog 9 ty9 := ⟨Try.runUnderlying9, Try.sizeOf9, Try.isAgg9, fun z h => by cases h; exact Try.zeroValue9⟩
abbrev ty43 : Ty := ⟨(TypeDesc.struct #[{ name := "L", type := 22, offset := 0, embedded := false, tag := "", pkgPath := "", byteOffset := 0 }, { name := "Acts", type := 35, offset := 1, embedded := false, tag := "", pkgPath := "", byteOffset := 24 }, { name := "At", type := 3, offset := 2, embedded := false, tag := "", pkgPath := "", byteOffset := 48 }, { name := "Back", type := 4, offset := 3, embedded := false, tag := "", pkgPath := "", byteOffset := 56 }]), 4, some (Value.agg #[Value.slice none 0 0, Value.slice none 0 0, Value.int IntKind.i64 0, Value.bool false])⟩
theorem ty43_ok : TyOK Try.prog 43 ty43 := ⟨Try.runUnderlying43, Try.sizeOf43, Try.isAgg43, fun z h => by cases h; exact Try.zeroValue43⟩
abbrev ty77 : Ty := ⟨(TypeDesc.slice 4), 1, some (Value.slice none 0 0)⟩
theorem ty77_ok : TyOK Try.prog 77 ty77 := ⟨Try.runUnderlying77, Try.sizeOf77, Try.isAgg77, fun z h => by cases h; exact Try.zeroValue77⟩
abbrev ty5 : Ty := ⟨(TypeDesc.int IntKind.u8), 1, some (Value.int IntKind.u8 0)⟩
theorem ty5_ok : TyOK Try.prog 5 ty5 := ⟨Try.runUnderlying5, Try.sizeOf5, Try.isAgg5, fun z h => by cases h; exact Try.zeroValue5⟩
abbrev ty61 : Ty := ⟨(TypeDesc.func #[3] #[4] false), 1, some (Value.nilFunc)⟩
theorem ty61_ok : TyOK Try.prog 61 ty61 := ⟨Try.runUnderlying61, Try.sizeOf61, Try.isAgg61, fun z h => by cases h; exact Try.zeroValue61⟩
abbrev ty62 : Ty := ⟨(TypeDesc.func #[56] #[] false), 1, some (Value.nilFunc)⟩
theorem ty62_ok : TyOK Try.prog 62 ty62 := ⟨Try.runUnderlying62, Try.sizeOf62, Try.isAgg62, fun z h => by cases h; exact Try.zeroValue62⟩
theorem info3 : (Try.prog.info? 3).map (fun i => (i.zero, i.size, i.bytes)) = some (some (Value.int IntKind.i64 0), 1, (Try.prog.info? 3).elim 0 (·.bytes)) := by kernel_rfl
theorem info22 : (Try.prog.info? 22).map (fun i => (i.zero, i.size, i.bytes)) = some (some (Value.slice none 0 0), 1, (Try.prog.info? 22).elim 0 (·.bytes)) := by kernel_rfl
theorem info29 : (Try.prog.info? 29).map (fun i => (i.zero, i.size, i.bytes)) = some (some (Value.agg #[Value.slice none 0 0, Value.int IntKind.i64 0, Value.slice none 0 0]), 3, (Try.prog.info? 29).elim 0 (·.bytes)) := by kernel_rfl
theorem info24 : (Try.prog.info? 24).map (fun i => (i.zero, i.size, i.bytes)) = some (some (Value.agg #[Value.slice none 0 0, Value.int IntKind.i64 0, Value.slice none 0 0]), 3, (Try.prog.info? 24).elim 0 (·.bytes)) := by kernel_rfl
theorem info60 : (Try.prog.info? 60).map (fun i => (i.zero, i.size, i.bytes)) = some (some (Value.agg #[Value.slice none 0 0, Value.int IntKind.i64 0, Value.slice none 0 0, Value.slice none 0 0]), 4, (Try.prog.info? 60).elim 0 (·.bytes)) := by kernel_rfl
theorem info33 : (Try.prog.info? 33).map (fun i => (i.zero, i.size, i.bytes)) = some (some (Value.agg #[Value.int IntKind.i64 0, Value.int IntKind.i64 0]), 2, (Try.prog.info? 33).elim 0 (·.bytes)) := by kernel_rfl
theorem info68 : (Try.prog.info? 68).map (fun i => (i.zero, i.size, i.bytes)) = some (some (Value.agg #[Value.slice none 0 0, Value.int IntKind.i64 0, Value.slice none 0 0, Value.slice none 0 0]), 4, (Try.prog.info? 68).elim 0 (·.bytes)) := by kernel_rfl
theorem info35 : (Try.prog.info? 35).map (fun i => (i.zero, i.size, i.bytes)) = some (some (Value.slice none 0 0), 1, (Try.prog.info? 35).elim 0 (·.bytes)) := by kernel_rfl
theorem info72 : (Try.prog.info? 72).map (fun i => (i.zero, i.size, i.bytes)) = some (some (Value.agg #[Value.int IntKind.i64 0, Value.int IntKind.i64 0, Value.int IntKind.i64 0]), 3, (Try.prog.info? 72).elim 0 (·.bytes)) := by kernel_rfl
theorem info30 : (Try.prog.info? 30).map (fun i => (i.zero, i.size, i.bytes)) = some (some (Value.slice none 0 0), 1, (Try.prog.info? 30).elim 0 (·.bytes)) := by kernel_rfl
theorem info4 : (Try.prog.info? 4).map (fun i => (i.zero, i.size, i.bytes)) = some (some (Value.bool false), 1, (Try.prog.info? 4).elim 0 (·.bytes)) := by kernel_rfl
theorem info64 : (Try.prog.info? 64).map (fun i => (i.zero, i.size, i.bytes)) = some (some (Value.map none), 1, (Try.prog.info? 64).elim 0 (·.bytes)) := by kernel_rfl
theorem info66 : (Try.prog.info? 66).map (fun i => (i.zero, i.size, i.bytes)) = some (some (Value.pointer none), 1, (Try.prog.info? 66).elim 0 (·.bytes)) := by kernel_rfl
theorem info73 : (Try.prog.info? 73).map (fun i => (i.zero, i.size, i.bytes)) = some (some (Value.agg #[Value.int IntKind.i64 0, Value.int IntKind.i64 0, Value.int IntKind.i64 0]), 3, (Try.prog.info? 73).elim 0 (·.bytes)) := by kernel_rfl
theorem info21 : (Try.prog.info? 21).map (fun i => (i.zero, i.size, i.bytes)) = some (some (Value.int IntKind.i32 0), 1, (Try.prog.info? 21).elim 0 (·.bytes)) := by kernel_rfl
theorem info26 : (Try.prog.info? 26).map (fun i => (i.zero, i.size, i.bytes)) = some (some (Value.agg #[Value.int IntKind.i64 0, Value.int IntKind.i64 0]), 2, (Try.prog.info? 26).elim 0 (·.bytes)) := by kernel_rfl
theorem info56 : (Try.prog.info? 56).map (fun i => (i.zero, i.size, i.bytes)) = some (some (Value.pointer none), 1, (Try.prog.info? 56).elim 0 (·.bytes)) := by kernel_rfl
theorem info51 : (Try.prog.info? 51).map (fun i => (i.zero, i.size, i.bytes)) = some (some (Value.slice none 0 0), 1, (Try.prog.info? 51).elim 0 (·.bytes)) := by kernel_rfl
theorem info9 : (Try.prog.info? 9).map (fun i => (i.zero, i.size, i.bytes)) = some (some (Value.string { data := #[] }), 1, (Try.prog.info? 9).elim 0 (·.bytes)) := by kernel_rfl
theorem info43 : (Try.prog.info? 43).map (fun i => (i.zero, i.size, i.bytes)) = some (some (Value.agg #[Value.slice none 0 0, Value.slice none 0 0, Value.int IntKind.i64 0, Value.bool false]), 4, (Try.prog.info? 43).elim 0 (·.bytes)) := by kernel_rfl
theorem info77 : (Try.prog.info? 77).map (fun i => (i.zero, i.size, i.bytes)) = some (some (Value.slice none 0 0), 1, (Try.prog.info? 77).elim 0 (·.bytes)) := by kernel_rfl
theorem info5 : (Try.prog.info? 5).map (fun i => (i.zero, i.size, i.bytes)) = some (some (Value.int IntKind.u8 0), 1, (Try.prog.info? 5).elim 0 (·.bytes)) := by kernel_rfl
theorem info61 : (Try.prog.info? 61).map (fun i => (i.zero, i.size, i.bytes)) = some (some (Value.nilFunc), 1, (Try.prog.info? 61).elim 0 (·.bytes)) := by kernel_rfl
theorem info62 : (Try.prog.info? 62).map (fun i => (i.zero, i.size, i.bytes)) = some (some (Value.nilFunc), 1, (Try.prog.info? 62).elim 0 (·.bytes)) := by kernel_rfl
abbrev tab : Tab := [(3, ty3), (22, ty22), (29, ty29), (24, ty24), (60, ty60), (33, ty33), (68, ty68), (35, ty35), (72, ty72), (30, ty30), (4, ty4), (64, ty64), (66, ty66), (73, ty73), (21, ty21), (26, ty26), (56, ty56), (51, ty51), (9, ty9), (43, ty43), (77, ty77), (5, ty5), (61, ty61), (62, ty62)]
theorem tab_ok : TabOK Try.prog tab := by
  intro p hp
  simp only [tab, List.mem_cons, List.not_mem_nil, or_false] at hp
  rcases hp with rfl | rfl | rfl | rfl | rfl | rfl | rfl | rfl | rfl | rfl | rfl | rfl | rfl | rfl | rfl | rfl | rfl | rfl | rfl | rfl | rfl | rfl | rfl | rfl
  · exact ty3_ok
  · exact ty22_ok
  · exact ty29_ok
  · exact ty24_ok
  · exact ty60_ok
  · exact ty33_ok
  · exact ty68_ok
  · exact ty35_ok
  · exact ty72_ok
  · exact ty30_ok
  · exact ty4_ok
  · exact ty64_ok
  · exact ty66_ok
  · exact ty73_ok
  · exact ty21_ok
  · exact ty26_ok
  · exact ty56_ok
  · exact ty51_ok
  · exact ty9_ok
  · exact ty43_ok
  · exact ty77_ok
  · exact ty5_ok
  · exact ty61_ok
  · exact ty62_ok
end Go.Proofs.Ythphdaeaicjgmaa
