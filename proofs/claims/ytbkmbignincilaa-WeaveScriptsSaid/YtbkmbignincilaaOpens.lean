/- A slice of structs that came in, opened to a list. No program in it. -/
import Derived.Test.YtbkmbignincilaaMem
import Derived.WalkKit
import Derived.ProofKit
import Derived.OpenShut
import Derived.ShutString
import Derived.ChangeOld
import Derived.Below
import Derived.ChangeArms
namespace Go.VC
open Go.ChangeShapes Go.WideShapes Go.ChangeAt Go.RowKit
set_option linter.unusedVariables false
section
variable {H : Type} {enc : TypeId × Value → H} {P : Program} {w : World} {base : Nat} {spare : Nat → Bool} {held : Bool}
theorem slice_of_trod {α : Type} [Inhabited α] (cf : α → List Value) {t e size : Nat} (ht : P.underlying t = some (.slice e)) (hc : P.cellsOf e = size) (Q : α → Prop)
    (hel : ∀ fuel cs x, DataW.trod enc P w base spare held fuel e cs = some x → ∃ a, cs = cf a ∧ Q a) {fuel : Nat} {cs : List Value} {x : DataW H × List MemPlace} (h : DataW.trod enc P w base spare held fuel t cs = some x) :
    ∃ A n c, ∃ zs : List α, cs = [.slice A n c] ∧ zs.length = n ∧ n ≤ c ∧ c ≤ maxLen ∧ (∀ z ∈ zs, Q z) ∧ ∀ i z, zs[i]? = some z → ∃ a, A = some a ∧ Cells w (a.add (i * size)) (cf z) := by
  rcases DataW.trod_slice ht h with ⟨hcs, _⟩ | ⟨a, len, cap, elems, rest, n, _, hcs, hx, _, hl, hm, hlen, hel2, _⟩
  · exact ⟨none, 0, 0, [], hcs, rfl, Nat.le_refl _, Nat.zero_le _, fun z hz => by simp at hz, fun i z hz => by simp at hz⟩
  · have each : ∀ i, i < len → ∃ z, Q z ∧ Cells w (a.add (i * size)) (cf z) := by
      intro i hi
      have h1 := hel2 i hi
      rw [hc] at h1
      cases hy : elems[i]? with
      | none => rw [List.getElem?_eq_none_iff] at hy; omega
      | some y =>
        rw [hy] at h1
        simp only [Option.bind_eq_some_iff] at h1
        obtain ⟨c1, hc1, hy1⟩ := h1
        obtain ⟨z, rfl, hq⟩ := hel _ _ _ hy1
        obtain ⟨_, hl1, hg⟩ := World.cells?_some hc1
        refine ⟨z, hq, fun k hk => ?_⟩
        rw [hg k (by omega), List.getElem?_eq_getElem hk]
        simp [List.getElem?_eq_getElem hk]
    let f : Nat → α := fun i => if h : i < len then Classical.choose (each i h) else default
    refine ⟨some a, len, cap, (List.range len).map f, hcs, by simp, hl, hm, fun z hz => ?_, fun i z hz => ?_⟩
    · obtain ⟨i, hi, rfl⟩ := List.mem_map.1 hz
      have hi' := List.mem_range.1 hi
      show Q (f i)
      simp only [f, dif_pos hi']
      exact (Classical.choose_spec (each i hi')).1
    · have hi : i < len := by have := (List.getElem?_eq_some_iff.1 hz).1; simpa using this
      rw [List.getElem?_map, List.getElem?_range hi] at hz
      simp only [Option.map_some, Option.some.injEq] at hz
      subst hz
      refine ⟨a, rfl, ?_⟩
      simp only [f, dif_pos hi]
      exact (Classical.choose_spec (each i hi)).2
end
end Go.VC
