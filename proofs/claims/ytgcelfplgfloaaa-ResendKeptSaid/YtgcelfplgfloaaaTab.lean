/- The type table of the seat, and that it is so; printed by a program of this session (tools/tab.py) off the loaded program. -/
import Derived.Test.YtgcelfplgfloaaaVC
import Derived.Test.YtgcelfplgfloaaaProg
import Derived.KernelRfl
namespace Go.Proofs.Ytgcelfplgfloaaa
open Go Go.VC
set_option linter.unusedVariables false
abbrev ty3 : Ty := ⟨(TypeDesc.int IntKind.i64), 1, some (Value.int IntKind.i64 0)⟩
theorem ty3_ok : TyOK Try.prog 3 ty3 := ⟨Try.runUnderlying3, Try.sizeOf3, Try.isAgg3, fun z h => by cases h; exact Try.zeroValue3⟩
abbrev ty41 : Ty := ⟨(TypeDesc.struct #[{ name := "Site", type := 3, offset := 0, embedded := false, tag := "", pkgPath := "", byteOffset := 0 }, { name := "Seq", type := 3, offset := 1, embedded := false, tag := "", pkgPath := "", byteOffset := 8 }, { name := "Know", type := 22, offset := 2, embedded := false, tag := "", pkgPath := "", byteOffset := 16 }, { name := "Op", type := 39, offset := 3, embedded := false, tag := "", pkgPath := "", byteOffset := 40 }]), 10, some (Value.agg #[Value.int IntKind.i64 0, Value.int IntKind.i64 0, Value.slice none 0 0, Value.int IntKind.i64 0, Value.int IntKind.i64 0, Value.int IntKind.i64 0, Value.int IntKind.i64 0, Value.int IntKind.i64 0, Value.int IntKind.i64 0, Value.int IntKind.i64 0])⟩
theorem ty41_ok : TyOK Try.prog 41 ty41 := ⟨Try.runUnderlying41, Try.sizeOf41, Try.isAgg41, fun z h => by cases h; exact Try.zeroValue41⟩
abbrev ty22 : Ty := ⟨(TypeDesc.slice 3), 1, some (Value.slice none 0 0)⟩
theorem ty22_ok : TyOK Try.prog 22 ty22 := ⟨Try.runUnderlying22, Try.sizeOf22, Try.isAgg22, fun z h => by cases h; exact Try.zeroValue22⟩
abbrev ty54 : Ty := ⟨(TypeDesc.slice 41), 1, some (Value.slice none 0 0)⟩
theorem ty54_ok : TyOK Try.prog 54 ty54 := ⟨Try.runUnderlying54, Try.sizeOf54, Try.isAgg54, fun z h => by cases h; exact Try.zeroValue54⟩
abbrev ty48 : Ty := ⟨(TypeDesc.slice 3), 1, some (Value.slice none 0 0)⟩
theorem ty48_ok : TyOK Try.prog 48 ty48 := ⟨Try.runUnderlying48, Try.sizeOf48, Try.isAgg48, fun z h => by cases h; exact Try.zeroValue48⟩
abbrev ty37 : Ty := ⟨(TypeDesc.struct #[{ name := "Time", type := 3, offset := 0, embedded := false, tag := "", pkgPath := "", byteOffset := 0 }, { name := "Site", type := 3, offset := 1, embedded := false, tag := "", pkgPath := "", byteOffset := 8 }]), 2, some (Value.agg #[Value.int IntKind.i64 0, Value.int IntKind.i64 0])⟩
theorem ty37_ok : TyOK Try.prog 37 ty37 := ⟨Try.runUnderlying37, Try.sizeOf37, Try.isAgg37, fun z h => by cases h; exact Try.zeroValue37⟩
abbrev ty39 : Ty := ⟨(TypeDesc.struct #[{ name := "Kind", type := 3, offset := 0, embedded := false, tag := "", pkgPath := "", byteOffset := 0 }, { name := "Epoch", type := 3, offset := 1, embedded := false, tag := "", pkgPath := "", byteOffset := 8 }, { name := "Id", type := 37, offset := 2, embedded := false, tag := "", pkgPath := "", byteOffset := 16 }, { name := "Ref", type := 37, offset := 4, embedded := false, tag := "", pkgPath := "", byteOffset := 32 }, { name := "Rune", type := 3, offset := 6, embedded := false, tag := "", pkgPath := "", byteOffset := 48 }]), 7, some (Value.agg #[Value.int IntKind.i64 0, Value.int IntKind.i64 0, Value.int IntKind.i64 0, Value.int IntKind.i64 0, Value.int IntKind.i64 0, Value.int IntKind.i64 0, Value.int IntKind.i64 0])⟩
theorem ty39_ok : TyOK Try.prog 39 ty39 := ⟨Try.runUnderlying39, Try.sizeOf39, Try.isAgg39, fun z h => by cases h; exact Try.zeroValue39⟩
abbrev ty56 : Ty := ⟨(TypeDesc.pointer 88), 1, some (Value.pointer none)⟩
theorem ty56_ok : TyOK Try.prog 56 ty56 := ⟨Try.runUnderlying56, Try.sizeOf56, Try.isAgg56, fun z h => by cases h; exact Try.zeroValue56⟩
abbrev ty25 : Ty := ⟨(TypeDesc.int IntKind.i64), 1, some (Value.int IntKind.i64 0)⟩
theorem ty25_ok : TyOK Try.prog 25 ty25 := ⟨Try.runUnderlying25, Try.sizeOf25, Try.isAgg25, fun z h => by cases h; exact Try.zeroValue25⟩
abbrev ty32 : Ty := ⟨(TypeDesc.struct #[{ name := "Site", type := 3, offset := 0, embedded := false, tag := "", pkgPath := "", byteOffset := 0 }, { name := "Seq", type := 3, offset := 1, embedded := false, tag := "", pkgPath := "", byteOffset := 8 }]), 2, some (Value.agg #[Value.int IntKind.i64 0, Value.int IntKind.i64 0])⟩
theorem ty32_ok : TyOK Try.prog 32 ty32 := ⟨Try.runUnderlying32, Try.sizeOf32, Try.isAgg32, fun z h => by cases h; exact Try.zeroValue32⟩
abbrev ty67 : Ty := ⟨(TypeDesc.struct #[{ name := "Clock", type := 22, offset := 0, embedded := false, tag := "", pkgPath := "", byteOffset := 0 }, { name := "Room", type := 3, offset := 1, embedded := false, tag := "", pkgPath := "", byteOffset := 24 }, { name := "L", type := 54, offset := 2, embedded := false, tag := "", pkgPath := "", byteOffset := 32 }]), 3, some (Value.agg #[Value.slice none 0 0, Value.int IntKind.i64 0, Value.slice none 0 0])⟩
theorem ty67_ok : TyOK Try.prog 67 ty67 := ⟨Try.runUnderlying67, Try.sizeOf67, Try.isAgg67, fun z h => by cases h; exact Try.zeroValue67⟩
abbrev ty43 : Ty := ⟨(TypeDesc.pointer 80), 1, some (Value.pointer none)⟩
theorem ty43_ok : TyOK Try.prog 43 ty43 := ⟨Try.runUnderlying43, Try.sizeOf43, Try.isAgg43, fun z h => by cases h; exact Try.zeroValue43⟩
abbrev ty88 : Ty := ⟨(TypeDesc.struct #[{ name := "clock", type := 48, offset := 0, embedded := false, tag := "", pkgPath := "duet/hold", byteOffset := 0 }, { name := "room", type := 3, offset := 1, embedded := false, tag := "", pkgPath := "duet/hold", byteOffset := 24 }, { name := "waits", type := 86, offset := 2, embedded := false, tag := "", pkgPath := "duet/hold", byteOffset := 32 }, { name := "count", type := 3, offset := 3, embedded := false, tag := "", pkgPath := "duet/hold", byteOffset := 56 }]), 4, some (Value.agg #[Value.slice none 0 0, Value.int IntKind.i64 0, Value.slice none 0 0, Value.int IntKind.i64 0])⟩
theorem ty88_ok : TyOK Try.prog 88 ty88 := ⟨Try.runUnderlying88, Try.sizeOf88, Try.isAgg88, fun z h => by cases h; exact Try.zeroValue88⟩
abbrev ty78 : Ty := ⟨(TypeDesc.map 32 41), 1, some (Value.map none)⟩
theorem ty78_ok : TyOK Try.prog 78 ty78 := ⟨Try.runUnderlying78, Try.sizeOf78, Try.isAgg78, fun z h => by cases h; exact Try.zeroValue78⟩
abbrev ty28 : Ty := ⟨(TypeDesc.slice 33), 1, some (Value.slice none 0 0)⟩
theorem ty28_ok : TyOK Try.prog 28 ty28 := ⟨Try.runUnderlying28, Try.sizeOf28, Try.isAgg28, fun z h => by cases h; exact Try.zeroValue28⟩
abbrev ty80 : Ty := ⟨(TypeDesc.struct #[{ name := "sites", type := 3, offset := 0, embedded := false, tag := "", pkgPath := "duet/resend", byteOffset := 0 }, { name := "room", type := 3, offset := 1, embedded := false, tag := "", pkgPath := "duet/resend", byteOffset := 8 }, { name := "kept", type := 78, offset := 2, embedded := false, tag := "", pkgPath := "duet/resend", byteOffset := 16 }]), 3, some (Value.agg #[Value.int IntKind.i64 0, Value.int IntKind.i64 0, Value.map none])⟩
theorem ty80_ok : TyOK Try.prog 80 ty80 := ⟨Try.runUnderlying80, Try.sizeOf80, Try.isAgg80, fun z h => by cases h; exact Try.zeroValue80⟩
abbrev ty24 : Ty := ⟨(TypeDesc.slice 32), 1, some (Value.slice none 0 0)⟩
theorem ty24_ok : TyOK Try.prog 24 ty24 := ⟨Try.runUnderlying24, Try.sizeOf24, Try.isAgg24, fun z h => by cases h; exact Try.zeroValue24⟩
abbrev ty86 : Ty := ⟨(TypeDesc.slice 54), 1, some (Value.slice none 0 0)⟩
theorem ty86_ok : TyOK Try.prog 86 ty86 := ⟨Try.runUnderlying86, Try.sizeOf86, Try.isAgg86, fun z h => by cases h; exact Try.zeroValue86⟩
abbrev ty33 : Ty := ⟨(TypeDesc.struct #[{ name := "Site", type := 3, offset := 0, embedded := false, tag := "", pkgPath := "", byteOffset := 0 }, { name := "Seq", type := 3, offset := 1, embedded := false, tag := "", pkgPath := "", byteOffset := 8 }]), 2, some (Value.agg #[Value.int IntKind.i64 0, Value.int IntKind.i64 0])⟩
theorem ty33_ok : TyOK Try.prog 33 ty33 := ⟨Try.runUnderlying33, Try.sizeOf33, Try.isAgg33, fun z h => by cases h; exact Try.zeroValue33⟩
abbrev ty59 : Ty := ⟨(TypeDesc.pointer 67), 1, some (Value.pointer none)⟩
theorem ty59_ok : TyOK Try.prog 59 ty59 := ⟨Try.runUnderlying59, Try.sizeOf59, Try.isAgg59, fun z h => by cases h; exact Try.zeroValue59⟩
abbrev ty105 : Ty := ⟨(TypeDesc.int IntKind.u64), 1, some (Value.int IntKind.u64 0)⟩
theorem ty105_ok : TyOK Try.prog 105 ty105 := ⟨Try.runUnderlying105, Try.sizeOf105, Try.isAgg105, fun z h => by cases h; exact Try.zeroValue105⟩
abbrev ty9 : Ty := ⟨TypeDesc.string, 1, some (Value.string { data := #[] })⟩
theorem ty9_ok : TyOK Try.prog 9 ty9 := ⟨Try.runUnderlying9, Try.sizeOf9, Try.isAgg9, fun z h => by cases h; exact Try.zeroValue9⟩
abbrev ty76 : Ty := ⟨(TypeDesc.func #[3] #[4] false), 1, some (Value.nilFunc)⟩
theorem ty76_ok : TyOK Try.prog 76 ty76 := ⟨Try.runUnderlying76, Try.sizeOf76, Try.isAgg76, fun z h => by cases h; exact Try.zeroValue76⟩
abbrev ty4 : Ty := ⟨TypeDesc.bool, 1, some (Value.bool false)⟩
theorem ty4_ok : TyOK Try.prog 4 ty4 := ⟨Try.runUnderlying4, Try.sizeOf4, Try.isAgg4, fun z h => by cases h; exact Try.zeroValue4⟩
abbrev ty91 : Ty := ⟨(TypeDesc.func #[41, 3] #[3] false), 1, some (Value.nilFunc)⟩
theorem ty91_ok : TyOK Try.prog 91 ty91 := ⟨Try.runUnderlying91, Try.sizeOf91, Try.isAgg91, fun z h => by cases h; exact Try.zeroValue91⟩
abbrev ty108 : Ty := ⟨(TypeDesc.func #[3, 3] #[3] false), 1, some (Value.nilFunc)⟩
theorem ty108_ok : TyOK Try.prog 108 ty108 := ⟨Try.runUnderlying108, Try.sizeOf108, Try.isAgg108, fun z h => by cases h; exact Try.zeroValue108⟩
theorem info3 : (Try.prog.info? 3).map (fun i => (i.zero, i.size, i.bytes)) = some (some (Value.int IntKind.i64 0), 1, (Try.prog.info? 3).elim 0 (·.bytes)) := by kernel_rfl
theorem info41 : (Try.prog.info? 41).map (fun i => (i.zero, i.size, i.bytes)) = some (some (Value.agg #[Value.int IntKind.i64 0, Value.int IntKind.i64 0, Value.slice none 0 0, Value.int IntKind.i64 0, Value.int IntKind.i64 0, Value.int IntKind.i64 0, Value.int IntKind.i64 0, Value.int IntKind.i64 0, Value.int IntKind.i64 0, Value.int IntKind.i64 0]), 10, (Try.prog.info? 41).elim 0 (·.bytes)) := by kernel_rfl
theorem info22 : (Try.prog.info? 22).map (fun i => (i.zero, i.size, i.bytes)) = some (some (Value.slice none 0 0), 1, (Try.prog.info? 22).elim 0 (·.bytes)) := by kernel_rfl
theorem info54 : (Try.prog.info? 54).map (fun i => (i.zero, i.size, i.bytes)) = some (some (Value.slice none 0 0), 1, (Try.prog.info? 54).elim 0 (·.bytes)) := by kernel_rfl
theorem info48 : (Try.prog.info? 48).map (fun i => (i.zero, i.size, i.bytes)) = some (some (Value.slice none 0 0), 1, (Try.prog.info? 48).elim 0 (·.bytes)) := by kernel_rfl
theorem info37 : (Try.prog.info? 37).map (fun i => (i.zero, i.size, i.bytes)) = some (some (Value.agg #[Value.int IntKind.i64 0, Value.int IntKind.i64 0]), 2, (Try.prog.info? 37).elim 0 (·.bytes)) := by kernel_rfl
theorem info39 : (Try.prog.info? 39).map (fun i => (i.zero, i.size, i.bytes)) = some (some (Value.agg #[Value.int IntKind.i64 0, Value.int IntKind.i64 0, Value.int IntKind.i64 0, Value.int IntKind.i64 0, Value.int IntKind.i64 0, Value.int IntKind.i64 0, Value.int IntKind.i64 0]), 7, (Try.prog.info? 39).elim 0 (·.bytes)) := by kernel_rfl
theorem info56 : (Try.prog.info? 56).map (fun i => (i.zero, i.size, i.bytes)) = some (some (Value.pointer none), 1, (Try.prog.info? 56).elim 0 (·.bytes)) := by kernel_rfl
theorem info25 : (Try.prog.info? 25).map (fun i => (i.zero, i.size, i.bytes)) = some (some (Value.int IntKind.i64 0), 1, (Try.prog.info? 25).elim 0 (·.bytes)) := by kernel_rfl
theorem info32 : (Try.prog.info? 32).map (fun i => (i.zero, i.size, i.bytes)) = some (some (Value.agg #[Value.int IntKind.i64 0, Value.int IntKind.i64 0]), 2, (Try.prog.info? 32).elim 0 (·.bytes)) := by kernel_rfl
theorem info67 : (Try.prog.info? 67).map (fun i => (i.zero, i.size, i.bytes)) = some (some (Value.agg #[Value.slice none 0 0, Value.int IntKind.i64 0, Value.slice none 0 0]), 3, (Try.prog.info? 67).elim 0 (·.bytes)) := by kernel_rfl
theorem info43 : (Try.prog.info? 43).map (fun i => (i.zero, i.size, i.bytes)) = some (some (Value.pointer none), 1, (Try.prog.info? 43).elim 0 (·.bytes)) := by kernel_rfl
theorem info88 : (Try.prog.info? 88).map (fun i => (i.zero, i.size, i.bytes)) = some (some (Value.agg #[Value.slice none 0 0, Value.int IntKind.i64 0, Value.slice none 0 0, Value.int IntKind.i64 0]), 4, (Try.prog.info? 88).elim 0 (·.bytes)) := by kernel_rfl
theorem info78 : (Try.prog.info? 78).map (fun i => (i.zero, i.size, i.bytes)) = some (some (Value.map none), 1, (Try.prog.info? 78).elim 0 (·.bytes)) := by kernel_rfl
theorem info28 : (Try.prog.info? 28).map (fun i => (i.zero, i.size, i.bytes)) = some (some (Value.slice none 0 0), 1, (Try.prog.info? 28).elim 0 (·.bytes)) := by kernel_rfl
theorem info80 : (Try.prog.info? 80).map (fun i => (i.zero, i.size, i.bytes)) = some (some (Value.agg #[Value.int IntKind.i64 0, Value.int IntKind.i64 0, Value.map none]), 3, (Try.prog.info? 80).elim 0 (·.bytes)) := by kernel_rfl
theorem info24 : (Try.prog.info? 24).map (fun i => (i.zero, i.size, i.bytes)) = some (some (Value.slice none 0 0), 1, (Try.prog.info? 24).elim 0 (·.bytes)) := by kernel_rfl
theorem info86 : (Try.prog.info? 86).map (fun i => (i.zero, i.size, i.bytes)) = some (some (Value.slice none 0 0), 1, (Try.prog.info? 86).elim 0 (·.bytes)) := by kernel_rfl
theorem info33 : (Try.prog.info? 33).map (fun i => (i.zero, i.size, i.bytes)) = some (some (Value.agg #[Value.int IntKind.i64 0, Value.int IntKind.i64 0]), 2, (Try.prog.info? 33).elim 0 (·.bytes)) := by kernel_rfl
theorem info59 : (Try.prog.info? 59).map (fun i => (i.zero, i.size, i.bytes)) = some (some (Value.pointer none), 1, (Try.prog.info? 59).elim 0 (·.bytes)) := by kernel_rfl
theorem info105 : (Try.prog.info? 105).map (fun i => (i.zero, i.size, i.bytes)) = some (some (Value.int IntKind.u64 0), 1, (Try.prog.info? 105).elim 0 (·.bytes)) := by kernel_rfl
theorem info9 : (Try.prog.info? 9).map (fun i => (i.zero, i.size, i.bytes)) = some (some (Value.string { data := #[] }), 1, (Try.prog.info? 9).elim 0 (·.bytes)) := by kernel_rfl
theorem info76 : (Try.prog.info? 76).map (fun i => (i.zero, i.size, i.bytes)) = some (some (Value.nilFunc), 1, (Try.prog.info? 76).elim 0 (·.bytes)) := by kernel_rfl
theorem info4 : (Try.prog.info? 4).map (fun i => (i.zero, i.size, i.bytes)) = some (some (Value.bool false), 1, (Try.prog.info? 4).elim 0 (·.bytes)) := by kernel_rfl
theorem info91 : (Try.prog.info? 91).map (fun i => (i.zero, i.size, i.bytes)) = some (some (Value.nilFunc), 1, (Try.prog.info? 91).elim 0 (·.bytes)) := by kernel_rfl
theorem info108 : (Try.prog.info? 108).map (fun i => (i.zero, i.size, i.bytes)) = some (some (Value.nilFunc), 1, (Try.prog.info? 108).elim 0 (·.bytes)) := by kernel_rfl
abbrev tab : Tab := [(3, ty3), (41, ty41), (22, ty22), (54, ty54), (48, ty48), (37, ty37), (39, ty39), (56, ty56), (25, ty25), (32, ty32), (67, ty67), (43, ty43), (88, ty88), (78, ty78), (28, ty28), (80, ty80), (24, ty24), (86, ty86), (33, ty33), (59, ty59), (105, ty105), (9, ty9), (76, ty76), (4, ty4), (91, ty91), (108, ty108)]
theorem tab_ok : TabOK Try.prog tab := by
  intro p hp
  simp only [tab, List.mem_cons, List.not_mem_nil, or_false] at hp
  rcases hp with rfl | rfl | rfl | rfl | rfl | rfl | rfl | rfl | rfl | rfl | rfl | rfl | rfl | rfl | rfl | rfl | rfl | rfl | rfl | rfl | rfl | rfl | rfl | rfl | rfl | rfl
  · exact ty3_ok
  · exact ty41_ok
  · exact ty22_ok
  · exact ty54_ok
  · exact ty48_ok
  · exact ty37_ok
  · exact ty39_ok
  · exact ty56_ok
  · exact ty25_ok
  · exact ty32_ok
  · exact ty67_ok
  · exact ty43_ok
  · exact ty88_ok
  · exact ty78_ok
  · exact ty28_ok
  · exact ty80_ok
  · exact ty24_ok
  · exact ty86_ok
  · exact ty33_ok
  · exact ty59_ok
  · exact ty105_ok
  · exact ty9_ok
  · exact ty76_ok
  · exact ty4_ok
  · exact ty91_ok
  · exact ty108_ok
end Go.Proofs.Ytgcelfplgfloaaa
