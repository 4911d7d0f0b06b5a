/- Word: the program's is the document's. -/
import Derived.Test.YthphdaeaicjgmaaE5
namespace Go.Proofs.Ythphdaeaicjgmaa
open Go Go.VC Go.RowKit
set_option linter.unusedVariables false
set_option linter.unusedSimpArgs false

theorem tw_le (p : Int → Bool) (l : List Int) : (l.takeWhile p).length ≤ l.length := (List.takeWhile_sublist p).length_le
def wfL (l : List Int) : Prop := ∀ x ∈ l, wfI x
theorem getD_mem {l : List Int} {i : Nat} (h : i < l.length) : l.getD i 0 ∈ l := by
  rw [List.getD_eq_getElem?_getD, List.getElem?_eq_getElem h]
  exact List.getElem_mem _
theorem idx_tw {p q : Int → Bool} {xs : List Int} (h : ∀ x ∈ xs, q x = !p x) : (xs.takeWhile q).length = (xs.findIdx? p).getD xs.length := by
  cases hf : xs.findIdx? p with
  | none =>
    rw [List.findIdx?_eq_none_iff] at hf
    exact tw_len q xs xs.length (Nat.le_refl _) (fun i hi => by rw [h _ (getD_mem hi), hf _ (getD_mem hi)]; rfl) (.inl rfl)
  | some k =>
    obtain ⟨hk, h1, h2⟩ := List.findIdx?_eq_some_iff_getElem.1 hf
    have g : ∀ i (hi : i < xs.length), xs.getD i 0 = xs[i] := fun i hi => by rw [List.getD_eq_getElem?_getD, List.getElem?_eq_getElem hi]; rfl
    refine tw_len q xs k (by omega) (fun i hi => ?_) (.inr ?_)
    · rw [h _ (getD_mem (by omega)), g i (by omega)]
      have := h2 i hi
      simpa using this
    · rw [h _ (getD_mem hk), g k hk, h1]; rfl
theorem wfL_drop {l : List Int} (h : wfL l) (a : Nat) : wfL (l.drop a) := fun x hx => h x (List.mem_of_mem_drop hx)
theorem wfL_take {l : List Int} (h : wfL l) (a : Nat) : wfL (l.take a) := fun x hx => h x (List.mem_of_mem_take hx)
theorem wordOn_ref {l : List Int} (h : wfL l) {a : Nat} (ha : a ≤ l.length) : wordOn l a = refOn l a := by
  unfold wordOn refOn fwd
  have h1 : ((l.drop a).takeWhile (fun c => !letterV c)).length = ((l.drop a).findIdx? (fun c => letterE c != false)).getD (l.drop a).length := idx_tw fun x hx => by
    rw [letterE_eq (wfL_drop h a x hx)]; cases letterV x <;> rfl
  rw [h1]
  cases hf : (l.drop a).findIdx? (fun c => letterE c != false) with
  | none =>
    simp only [Option.getD_none, List.length_drop]
    rw [show a + (l.length - a) = l.length by omega, List.drop_length]
    simp
  | some k =>
    simp only [Option.getD_some]
    have h2 : ((l.drop (a + k)).takeWhile letterV).length = ((l.drop (a + k)).findIdx? (fun c => letterE c != true)).getD (l.drop (a + k)).length := idx_tw fun x hx => by
      rw [letterE_eq (wfL_drop h _ x hx)]; cases letterV x <;> rfl
    rw [h2]
    have hk := (List.findIdx?_eq_some_iff_getElem.1 hf).1
    rw [List.length_drop] at hk
    cases hg : (l.drop (a + k)).findIdx? (fun c => letterE c != true) with
    | none => simp only [Option.getD_none, List.length_drop]; omega
    | some m => simp only [Option.getD_some]
theorem wordBack_ref {l : List Int} (h : wfL l) {a : Nat} (ha : a ≤ l.length) : wordBack l a = refBack l a := by
  have hw : wfL (l.take a).reverse := fun x hx => wfL_take h a x (List.mem_reverse.1 hx)
  unfold wordBack
  rw [wordOn_ref hw (Nat.zero_le _)]
  unfold refOn refBack fwd bwd
  simp only [Nat.zero_add, List.drop_zero]
  have hlen : (l.take a).reverse.length = a := by rw [List.length_reverse, List.length_take]; omega
  have hk : ((l.take a).reverse.takeWhile (fun c => !letterV c)).length ≤ a := by
    have := tw_le (fun c => !letterV c) (l.take a).reverse
    omega
  generalize ((l.take a).reverse.takeWhile (fun c => !letterV c)).length = k at hk
  have e : (l.take (a - k)).reverse = (l.take a).reverse.drop k := by
    rw [List.drop_reverse]
    congr 1
    rw [List.length_take, List.take_take]
    congr 1
    omega
  rw [e]
  omega
theorem refOn_le (l : List Int) {a : Nat} (ha : a ≤ l.length) : a ≤ refOn l a ∧ refOn l a ≤ l.length := by
  have h : ∀ (p : Int → Bool) b, b ≤ l.length → b ≤ fwd p l b ∧ fwd p l b ≤ l.length := fun p b hb => by
    unfold fwd
    have := tw_le p (l.drop b)
    rw [List.length_drop] at this
    omega
  unfold refOn
  have h1 := h (fun c => !letterV c) a ha
  have h2 := h letterV _ h1.2
  omega
theorem refBack_le (l : List Int) (a : Nat) : refBack l a ≤ a := by
  unfold refBack bwd
  omega
end Go.Proofs.Ythphdaeaicjgmaa
