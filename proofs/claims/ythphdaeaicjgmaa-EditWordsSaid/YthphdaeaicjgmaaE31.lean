/- duetlaw18.EditWords. -/
import Derived.Test.YthphdaeaicjgmaaE24
namespace Go.Proofs.Ythphdaeaicjgmaa
open Go Go.VC Go.RowKit
set_option linter.unusedVariables false
set_option linter.unusedSimpArgs false
set_option maxRecDepth 100000

/-! ### The plain law -/
theorem getD_get {l : List Int} {i : Nat} (h : i < l.length) : l.getD i 0 = l[i] := by rw [List.getD_eq_getElem?_getD, List.getElem?_eq_getElem h]; rfl
/-- Where Word on ends, ahead of the line's end, a word ends. -/
theorem on_edge {l : List Int} {a : Nat} (h : wordOn l a < l.length) : a < wordOn l a ∧ letterE (l.getD (wordOn l a - 1) 0) = true ∧ letterE (l.getD (wordOn l a) 0) = false := by
  unfold wordOn at h ⊢
  cases hf : (l.drop a).findIdx? (fun c => letterE c != false) with
  | none => rw [hf] at h; exact absurd h (Nat.lt_irrefl _)
  | some k =>
    rw [hf] at h
    dsimp only at h ⊢
    cases hg : (l.drop (a + k)).findIdx? (fun c => letterE c != true) with
    | none => rw [hg] at h; exact absurd h (Nat.lt_irrefl _)
    | some m =>
      rw [hg] at h
      dsimp only at h ⊢
      obtain ⟨k1, k2, _⟩ := List.findIdx?_eq_some_iff_getElem.1 hf
      obtain ⟨m1, m2, m3⟩ := List.findIdx?_eq_some_iff_getElem.1 hg
      simp only [List.length_drop] at k1 m1
      simp only [List.getElem_drop] at k2 m2 m3
      have hk : letterE (l.getD (a + k) 0) = true := by rw [getD_get (by omega)]; simpa using k2
      have hm0 : m ≠ 0 := fun e => by
        subst e
        rw [getD_get (by omega)] at hk
        simp only [Nat.add_zero, hk] at m2
        exact absurd m2 (by decide)
      refine ⟨by omega, ?_, ?_⟩
      · have := m3 (m - 1) (by omega)
        rw [getD_get (by omega)]
        simp only [bne_iff_ne, ne_eq, Classical.not_not] at this
        rw [← this]
        congr 2; omega
      · rw [getD_get (by omega)]
        simpa using m2
/-- From a letter just ahead of what is none, Word on goes one on. -/
theorem on_step {l : List Int} {b : Nat} (hb : b + 1 < l.length) (h1 : letterE (l.getD b 0) = true) (h2 : letterE (l.getD (b + 1) 0) = false) : wordOn l b = b + 1 := by
  rw [getD_get (by omega)] at h1
  rw [getD_get hb] at h2
  have hf : (l.drop b).findIdx? (fun c => letterE c != false) = some 0 := by
    rw [List.findIdx?_eq_some_iff_getElem]
    exact ⟨by simp; omega, by simp [h1], fun j hj => by omega⟩
  have hg : (l.drop (b + 0)).findIdx? (fun c => letterE c != true) = some 1 := by
    rw [List.findIdx?_eq_some_iff_getElem]
    refine ⟨by simp; omega, by simp [h2], fun j hj => ?_⟩
    obtain rfl : j = 0 := by omega
    simp [h1]
  unfold wordOn
  rw [hf]
  dsimp only
  rw [hg]
theorem on_one {l : List Int} (h0 : 1 ≤ l.length) (h1 : letterE (l.getD 0 0) = true) (h2 : l.length = 1 ∨ letterE (l.getD 1 0) = false) : wordOn l 0 = 1 := by
  rcases Nat.lt_or_ge 1 l.length with h | h
  · rcases h2 with h2 | h2
    · omega
    · exact on_step (b := 0) h h1 h2
  · rw [getD_get (by omega)] at h1
    have hf : (l.drop 0).findIdx? (fun c => letterE c != false) = some 0 := by
      rw [List.findIdx?_eq_some_iff_getElem]
      exact ⟨by simp; omega, by simp [h1], fun j hj => by omega⟩
    have hg : (l.drop (0 + 0)).findIdx? (fun c => letterE c != true) = none := by
      rw [List.findIdx?_eq_none_iff]
      intro x hx
      obtain ⟨i, hi, rfl⟩ := List.getElem_of_mem hx
      simp only [List.length_drop] at hi
      obtain rfl : i = 0 := by omega
      simp [h1]
    unfold wordOn
    rw [hf]
    dsimp only
    rw [hg]
    dsimp only
    omega
theorem back_step {l : List Int} {a : Nat} (ha : a ≤ l.length) (h : 0 < wordBack l a) : wordBack l a < a ∧ wordBack l (wordBack l a + 1) = wordBack l a := by
  have hlen : (l.take a).reverse.length = a := by rw [List.length_reverse, List.length_take]; omega
  have hw : wordOn (l.take a).reverse 0 < (l.take a).reverse.length := by unfold wordBack at h; omega
  obtain ⟨e1, e2, e3⟩ := on_edge hw
  generalize hp : wordOn (l.take a).reverse 0 = p at hw e1 e2 e3
  have hb : wordBack l a = a - p := by unfold wordBack; rw [hp]
  rw [hb]
  rw [getD_rev l a _ (by omega) ha] at e2 e3
  refine ⟨by omega, ?_⟩
  unfold wordBack
  have hl2 : (l.take (a - p + 1)).reverse.length = a - p + 1 := by rw [List.length_reverse, List.length_take]; omega
  rw [on_one (by omega) (by rw [getD_rev l _ _ (by omega) (by omega), show a - p + 1 - 1 - 0 = a - 1 - (p - 1) by omega]; exact e2) (.inr (by rw [getD_rev l _ _ (by omega) (by omega), show a - p + 1 - 1 - 1 = a - 1 - p by omega]; exact e3))]
  omega

/-! ### The walk -/
set_option maxHeartbeats 8000000
theorem fn9 (w : World) (A : Option Addr) (n c : Nat) (xs : List Int) (at_ : Int) (h : InRow w A n c xs) :
    Ret Try.prog 9 #[.slice A n c, .int .i64 at_] w fun v W => Ext w W ∧ v = .bool true := by
  have hl := h.ints.len
  have hsm := h.ints.small
  have he := Ext.refl w
  refine Ret.of_vc tab_ok Try.func9 rfl Try.ntmps9 rfl (Nat.le_of_ble_eq_true rfl) Try.call9 ?_
  conv => whnf
  intro t ht1
  cases t <;> simp only [VB] at ht1 <;> (conv => whnf)
  case true =>
    refine (fn11 _).mono ?_
    rintro _ V9 ⟨e, rfl⟩
    conv => whnf
    exact ⟨he.tr e, rfl⟩
  intro t ht2
  cases t <;> simp only [VB] at ht2 <;> (conv => whnf)
  case true =>
    refine (fn11 _).mono ?_
    rintro _ V9 ⟨e, rfl⟩
    conv => whnf
    exact ⟨he.tr e, rfl⟩
  intro t ht3
  cases t <;> simp only [VB] at ht3 <;> (conv => whnf)
  case true =>
    refine (fn11 _).mono ?_
    rintro _ V9 ⟨e, rfl⟩
    conv => whnf
    exact ⟨he.tr e, rfl⟩
  obtain ⟨a, rfl⟩ : ∃ a : Nat, at_ = a := ⟨at_.toNat, by omega⟩
  have ha : a ≤ n := by omega
  clear ht2 ht3
  refine (fn22on w A n c xs a h.ints h.le h.cap).mono ?_
  rintro _ W1 ⟨e, rfl⟩
  replace he := he.tr e
  clear e
  conv => whnf
  refine (fn22back W1 A n c xs a (h.ints.ext he) h.le (by omega)).mono ?_
  rintro _ W2 ⟨e, rfl⟩
  replace he := he.tr e
  clear e
  rw [heldV_id ha]
  have g1 := wordOn_ge xs a (by omega)
  have g2 := wordOn_le xs a (by omega)
  have g3 := wordBack_le xs a
  have s1 := @on_edge xs a
  have s2 := @back_step xs a (by omega)
  generalize hon : wordOn xs a = on at g1 g2 s1 ⊢
  generalize hbk : wordBack xs a = bk at g3 s2 ⊢
  conv => whnf
  intro t ht2
  obtain rfl : t = false := ht2.no (by omega)
  conv => whnf
  intro t ht3
  obtain rfl : t = false := ht3.no (by omega)
  conv => whnf
  intro t ht4
  obtain rfl : t = false := ht4.no (by omega)
  conv => whnf
  intro t ht5
  obtain rfl : t = false := ht5.no (by omega)
  conv => whnf
  clear ht2 ht3 ht4 ht5
  intro t ht2
  cases t <;> simp only [VB] at ht2 <;> (conv => whnf)
  case' true =>
    intro t ht3
    obtain rfl : t = true := ht3.yes (by have := s1 (by omega); omega)
    conv => whnf
    intro r hr
    rw [wrap_id (by omega) (by omega)] at hr
    obtain rfl : r = ((on - 1 : Nat) : Int) := by have := s1 (by omega); omega
    conv => whnf
    refine (fn22on W2 A n c xs ((on - 1 : Nat) : Int) (h.ints.ext he) h.le h.cap).mono ?_
    rintro _ W3 ⟨e, rfl⟩
    have hst : wordOn xs (heldV n ((on - 1 : Nat) : Int)) = on := by
      obtain ⟨q1, q2, q3⟩ := s1 (by omega)
      rw [heldV_id (by omega)]
      have := on_step (l := xs) (b := on - 1) (by omega) q2 (by rw [show on - 1 + 1 = on by omega]; exact q3)
      omega
    rw [hst]
    replace he := he.tr e
    clear e hr
    conv => whnf
    intro t ht4
    obtain rfl : t = true := ht4.yes rfl
    clear ht4 ht3
    conv => whnf
  all_goals
    intro t ht5
    cases t <;> simp only [VB] at ht5 <;> (conv => whnf)
    case' true =>
      intro r hr
      rw [wrap_id (by omega) (by omega)] at hr
      obtain rfl : r = ((bk + 1 : Nat) : Int) := by omega
      conv => whnf
      obtain ⟨q1, q2⟩ := s2 (by omega)
      refine (fn22back _ A n c xs ((bk + 1 : Nat) : Int) (h.ints.ext he) h.le (by omega)).mono ?_
      rintro _ W4 ⟨e, rfl⟩
      have hst : wordBack xs (heldV n ((bk + 1 : Nat) : Int)) = bk := by rw [heldV_id (by omega)]; exact q2
      rw [hst]
      replace he := he.tr e
      clear e
      conv => whnf
      intro t ht6
      obtain rfl : t = false := ht6.no (by simp)
      conv => whnf
    all_goals
      refine (fn22back _ A n c xs (on : Int) (h.ints.ext he) h.le (by omega)).mono ?_
      rintro _ W5 ⟨e, rfl⟩
      rw [show heldV n (on : Int) = on from heldV_id (by omega)]
      have g4 := wordBack_le xs on
      replace he := he.tr e
      clear e
      conv => whnf
      intro t ht7
      obtain rfl : t = true := ht7.yes (by omega)
      conv => whnf
      refine (fn11 _).mono ?_
      rintro _ V9 ⟨e, rfl⟩
      conv => whnf
      exact ⟨he.tr e, rfl⟩
end Go.Proofs.Ythphdaeaicjgmaa
