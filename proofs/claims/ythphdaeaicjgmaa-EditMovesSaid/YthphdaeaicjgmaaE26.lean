/- The plain law of EditActs: what was done makes the line. -/
import Derived.Test.YthphdaeaicjgmaaE24
namespace Go.Proofs.Ythphdaeaicjgmaa
open Go Go.VC Go.RowKit
set_option linter.unusedVariables false
set_option linter.unusedSimpArgs false

theorem applyAll_app (zs bs : List Act3) : ∀ l, applyAll l (zs ++ bs) = match applyAll l zs with | none => none | some l' => applyAll l' bs := by
  induction zs with
  | nil => intro l; rfl
  | cons a zs ih =>
    intro l
    simp only [List.cons_append, applyAll]
    cases apply1 l a with
    | none => rfl
    | some l' => exact ih l'
/-- What was done makes the line; the caret stands in it; it is not too long. -/
structure Good (l0 : List Int) (s : St) : Prop where
  acts : applyAll l0 s.acts = some s.line
  le : s.at_ ≤ s.line.length
  few : s.line.length ≤ max 1000 l0.length
theorem Good.put {l0 : List Int} {s : St} (h : Good l0 s) (c : Int) : Good l0 (s.put c).1 := by
  unfold St.put
  split
  · exact h
  · rename_i hc
    refine ⟨?_, ?_, ?_⟩
    · dsimp only
      rw [applyAll_app, h.acts]
      simp only [applyAll]
      rw [apply1_ins h.le]
    · have := h.le; simp; omega
    · have := h.le; simp; omega
theorem cut_acts (l : List Int) (f : Nat) : ∀ (n t : Nat), f + n = t → t ≤ l.length → applyAll l (((l.take t).drop f).map fun c => (2, (f : Int), c)) = some (l.take f ++ l.drop t) := by
  intro n
  induction n generalizing l with
  | zero =>
    intro t ht hl
    subst ht
    have : (l.take (f + 0)).drop f = [] := by apply List.eq_nil_of_length_eq_zero; rw [List.length_drop, List.length_take]; omega
    rw [this]
    simp [applyAll]
  | succ n ih =>
    intro t ht hl
    have hd : (l.take t).drop f = l.getD f 0 :: ((l.take f ++ l.drop (f + 1)).take (t - 1)).drop f := by
      rw [List.drop_eq_getElem_cons (by simp; omega)]
      congr 1
      · simp [List.getD_eq_getElem?_getD, List.getElem?_eq_getElem (show f < l.length by omega)]
      · apply List.ext_getElem
        · simp; omega
        · intro i h1 h2
          simp only [List.getElem_drop, List.getElem_take]
          rw [List.getElem_append_right (by simp; omega)]
          simp only [List.getElem_drop, List.length_take]
          congr 1
          omega
    rw [hd]
    simp only [List.map_cons, applyAll]
    rw [apply1_del (by omega)]
    dsimp only
    rw [ih (l.take f ++ l.drop (f + 1)) (t - 1) (by omega) (by simp; omega)]
    congr 1
    rw [List.take_left' (by simp; omega), List.drop_append]
    have : (l.take f).length = f := by simp; omega
    rw [this, List.drop_of_length_le (by omega), List.nil_append, List.drop_drop]
    congr 2
    omega
theorem Good.cut {l0 : List Int} {s : St} (h : Good l0 s) {f t : Nat} (ht : t ≤ s.line.length) : Good l0 (s.cut f t) := by
  unfold St.cut
  split
  · rename_i hf
    refine ⟨?_, ?_, ?_⟩
    · dsimp only
      rw [applyAll_app, h.acts]
      exact cut_acts s.line f (t - f) t (by omega) ht
    · simp; omega
    · have := h.few; simp; omega
  · exact h
theorem Good.killed {l0 : List Int} {s : St} (h : Good l0 s) {f t : Nat} (ht : t ≤ s.line.length) : Good l0 (s.killed f t) := by
  unfold St.killed
  split
  · have := h.cut (f := f) ht
    exact ⟨this.acts, this.le, this.few⟩
  · exact h
theorem Good.at' {l0 : List Int} {s : St} (h : Good l0 s) {a : Nat} (ha : a ≤ s.line.length) : Good l0 { s with at_ := a } := ⟨h.acts, ha, h.few⟩
theorem Good.puts {l0 : List Int} : ∀ (l : List Int) {s : St}, Good l0 s → Good l0 (s.puts l)
  | [], s, h => h
  | c :: l, s, h => by
    simp only [St.puts]
    split
    · exact Good.puts l (h.put c)
    · exact h
theorem Good.swap {l0 : List Int} {s : St} (h : Good l0 s) : Good l0 s.swap := by
  unfold St.swap
  split
  · exact h
  · split
    · exact h
    · rename_i h1 h2
      refine Good.put ?_ _
      refine (h.cut (by omega)).at' ?_
      have := (s.cut_len (f := min s.at_ (s.line.length - 1) - 1) (t := min s.at_ (s.line.length - 1)) (by omega) (by omega)).1
      omega
theorem Good.way {l0 : List Int} {s : St} (h : Good l0 s) (f : Nat) : Good l0 (wayG f s) := by
  have hle := h.le
  unfold wayG
  split
  · exact h.at' (Nat.zero_le _)
  · exact h.at' (Nat.le_refl _)
  · exact h.at' (by omega)
  · exact h.at' (by omega)
  · exact h.cut hle
  · exact h.cut (by omega)
  · exact h.killed (by omega)
  · exact h.killed (by omega)
  · exact h.killed (by omega)
  · exact h.puts _
  · exact h.swap
  · exact h.at' (Nat.le_trans (wordBack_le _ _) hle)
  · exact h.at' (wordOn_le _ _ hle)
  · exact h.killed (wordOn_le _ _ hle)
  · exact h
theorem Good.do {l0 : List Int} {s : St} (h : Good l0 s) (kind rune : Int) : Good l0 (doS s kind rune) := by
  unfold doS
  split
  · exact h.put _
  · split
    · exact h.way _
    · exact h
theorem good0 (xs : List Int) (at_ : Int) (ks : List Int) : Good xs (st0 xs at_ ks) := ⟨rfl, st0_le _ _ _, by simp only [st0]; omega⟩
end Go.Proofs.Ythphdaeaicjgmaa
