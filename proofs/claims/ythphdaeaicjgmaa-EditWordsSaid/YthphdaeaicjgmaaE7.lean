/- Laws of append of zeros, copy, clear, overlaps. -/
import Derived.Test.YthphdaeaicjgmaaE6
import Derived.Lib.Overlaps
import Derived.Lib.AppendZeros
namespace Go.Proofs.Ythphdaeaicjgmaa
open Go Go.VC Go.RowKit
set_option linter.unusedVariables false
set_option linter.unusedSimpArgs false
set_option maxRecDepth 100000

theorem zero_cells (n : Nat) : Builtin.zeroCells (Value.int .i64 0).cells n = (ints (List.replicate n 0)).toArray := by
  apply Array.toList_inj.1
  simp only [Builtin.zeroCells, Array.toList_map]
  apply List.ext_getElem
  · simp [ints, Value.cells]
  · intro i h1 h2
    simp [ints, Value.cells, Nat.mod_one]
theorem ints_app (a b : List Int) : ints (a ++ b) = ints a ++ ints b := by simp [ints]
theorem run_append_zeros (w : World) (ty : TypeId) {A : Option Addr} {i k cap : Nat} {xs : List Int} (h : Ints w A i xs) (hcap : cap < i + k) (hk : 0 < k) (hsm : (i + k) * 8 ≤ 140737488355328) :
    ∃ c', (Builtin.append_ #[22, 3] ty #[.slice A i cap, .int .i64 k]).run Try.prog w = .ok (.slice (some ⟨w.heap.size, 0, none⟩) (i + k) c') (w.drew.alloc (.cells (ints (xs ++ List.replicate (c' - i) 0)).toArray 3)) ∧ i + k ≤ c' ∧ c' ≤ maxLen := by
  have hl := h.len
  refine ⟨grownCap w (i + k) cap 3, ?_, grownCap_ge w _ _ _, grownCap_le_maxLen w _ _ _ (by simp only [maxLen]; omega)⟩
  have hge := grownCap_ge w (i + k) cap 3
  cases hi : Try.prog.info? 3 with
  | none => have := inf3; rw [hi] at this; cases this
  | some inf =>
    have h3 := inf3
    rw [hi] at h3
    simp only [Option.map_some, Option.some.injEq, Prod.mk.injEq] at h3
    obtain ⟨hz, hs, hb⟩ := h3
    have hn : ¬ (i + k ≤ cap) := by omega
    have hw : IntKind.i64.wrap (k : Int) = k := by rw [IntKind.wrap_i64]; omega
    have hneg : ¬ ((k : Int) < 0) := by omega
    have h48i : ¬ (281474976710656 < (k : Int) * 8) := by omega
    have h63' : ¬ (9223372036854775807 < ((i : Int) + (k : Int))) := by omega
    have h48' : ¬ (281474976710656 < Builtin.nextslicecap (i + k) cap * 8) := by have := growslice_fits (bytes := 8) hcap hsm; omega
    have hk0 : k ≠ 0 := by omega
    have hfo : (Builtin.firstCells 1 i (.slice A i cap)).run Try.prog w.drew = .ok (ints xs).toArray w.drew := by
      cases A with
      | none =>
        have hx : xs = [] := by
          cases xs with
          | nil => rfl
          | cons x xs => obtain ⟨a, e, _⟩ := h.get 0 x rfl; cases e
        subst hx
        simp [Builtin.firstCells, ints]
      | some a =>
        refine run_firstCells_some (P := Try.prog) w.drew 1 i a i cap (ints xs) (by simp [ints, hl]) ?_
        intro j v hj
        simp only [ints, List.getElem?_map, Option.map_eq_some_iff] at hj
        obtain ⟨x, hx, rfl⟩ := hj
        obtain ⟨a', e, hc⟩ := h.get j x hx
        cases e
        exact hc
    have e1 : (ints (xs ++ List.replicate (grownCap w (i + k) cap 3 - i) 0)).toArray = (ints xs).toArray ++ (ints (List.replicate k 0)).toArray ++ (ints (List.replicate (grownCap w (i + k) cap 3 - (i + k)) 0)).toArray := by
      rw [show grownCap w (i + k) cap 3 - i = k + (grownCap w (i + k) cap 3 - (i + k)) by omega, ← List.replicate_append_replicate, ints_app, ints_app]
      simp
    rw [e1]
    simp [Builtin.append_, run_underlying Try.underlying22, run_underlying Try.underlying3, sizeOf, typeInfo, zeroValue, hi, hz, hs, hb, asInt, asIntOf, hw, hneg, hk0, hn, h48i, h63', h48', Question.forced, hfo, newRow, grownCap, zero_cells]

/-- copy into a row. -/
theorem run_copy_row (w : World) (ty : TypeId) {g o dLen dCap sLen sCap k : Nat} {cs : Array Value} {A : Option Addr} {xs : List Int} (hg : w.heap[g]? = some (.cells cs 3 (0, 0)))
    (h : Ints w A k xs) (hk : k = min sLen dLen) (hfit : o + k ≤ cs.size) :
    (Builtin.copy_ #[22, 22] ty #[.slice (some ⟨g, o, none⟩) dLen dCap, .slice A sLen sCap]).run Try.prog w = .ok (goInt k) (World.putObj w g (.cells (splice cs o (ints xs)) 3 (0, 0))) := by
  have hl := h.len
  cases hi : Try.prog.info? 3 with
  | none => have := inf3; rw [hi] at this; cases this
  | some inf =>
    have h3 := inf3
    rw [hi] at h3
    simp only [Option.map_some, Option.some.injEq, Prod.mk.injEq] at h3
    obtain ⟨hz, hs, hb⟩ := h3
    have hf : (Builtin.firstCells 1 k (.slice A sLen sCap)).run Try.prog w = .ok (ints xs).toArray w := by
      cases A with
      | none =>
        have hx : xs = [] := by
          cases xs with
          | nil => rfl
          | cons x xs => obtain ⟨a, e, _⟩ := h.get 0 x rfl; cases e
        subst hx
        simp [Builtin.firstCells, ints]
      | some a =>
        refine run_firstCells_some (P := Try.prog) w 1 k a sLen sCap (ints xs) (by simp [ints, hl]) ?_
        intro j v hj
        simp only [ints, List.getElem?_map, Option.map_eq_some_iff] at hj
        obtain ⟨x, hx, rfl⟩ := hj
        obtain ⟨a', e, hc⟩ := h.get j x hx
        cases e
        exact hc
    have hone : ((ints xs).all one) = true := by simp [ints, one]
    have hst := storeCells_run (P := Try.prog) g 3 (ints xs) w cs o 0 hg (by simp [ints, hl]; omega) hone
    simp [Builtin.copy_, run_underlying Try.underlying22, Builtin.lenOf, sizeOf, typeInfo, hi, hs, ← hk, hf, hst]
theorem run_clear_row (w : World) (ty : TypeId) {g o k c : Nat} {cs : Array Value} (hg : w.heap[g]? = some (.cells cs 3 (0, 0))) (hfit : o + k ≤ cs.size) :
    ∃ W, (Builtin.clear_ #[22] ty #[.slice (some ⟨g, o, none⟩) k c]).run Try.prog w = .ok (.tuple #[]) W ∧ Put w g (.cells (splice cs o (ints (List.replicate k 0))) 3 (0, 0)) W := by
  cases k with
  | zero =>
    refine ⟨w, by simp [Builtin.clear_, run_underlying Try.underlying22], ⟨rfl, rfl, rfl, rfl, ?_, fun _ _ => rfl⟩⟩
    simp only [List.replicate_zero, ints, List.map_nil, splice_nil]
    exact hg
  | succ k =>
    have hone : ((ints (List.replicate (k + 1) 0)).all one) = true := by simp [ints, one]
    have hst := storeCells_run (P := Try.prog) g 3 (ints (List.replicate (k + 1) 0)) w cs o 0 hg (by simp [ints]; omega) hone
    cases hi : Try.prog.info? 3 with
    | none => have := inf3; rw [hi] at this; cases this
    | some inf =>
      have h3 := inf3
      rw [hi] at h3
      simp only [Option.map_some, Option.some.injEq, Prod.mk.injEq] at h3
      obtain ⟨hz, hs, hb⟩ := h3
      refine ⟨_, ?_, Put.mk' hg _⟩
      simp only [Nat.add_zero] at hst
      simp [Builtin.clear_, run_underlying Try.underlying22, zeroValue, typeInfo, hi, hz, zero_cells, hst]

/-- slices.overlaps of two blocks. -/
theorem fn60 (w : World) {g v o lb cb la ca : Nat} {cs ds : Array Value} (hne : v ≠ g) (hg : w.heap[g]? = some (.cells cs 3 (0, 0))) (hv : w.heap[v]? = some (.cells ds 3 (0, 0))) (hcs : cs.size ≠ 0) :
    Ret Try.prog 60 #[.slice (some ⟨v, 0, none⟩) la ca, .slice (some ⟨g, o, none⟩) lb cb] w fun u W => w = W ∧ u = .bool false := by
  refine ⟨.inr ⟨.bool false, w, ?_, rfl, rfl⟩⟩
  rw [run_callFunc_extern Try.func60 (by kernel_rfl) (by kernel_rfl) (by kernel_rfl) (e := Extern.SlicesOverlaps.overlaps #[22, 22] #[4]) (by kernel_rfl),
      Lib.run_overlaps_apart w 22 4 3 Try.underlying22 1 Try.sizeOf3 ⟨v, 0, none⟩ ⟨g, o, none⟩ la ca lb cb hne 3 3 ds.size cs.size ?_ ?_ hcs ?_ ?_]
  · rfl
  · simp only [World.shape?, hv]
  · simp only [World.shape?, hg]
  · simp only [World.frozen?, hv]; simp
  · simp only [World.frozen?, hv]; simp
end Go.Proofs.Ythphdaeaicjgmaa
