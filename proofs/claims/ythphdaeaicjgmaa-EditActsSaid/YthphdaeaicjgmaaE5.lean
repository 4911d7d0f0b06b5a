/- The document's Word; the two are the same. -/
import Derived.Test.YthphdaeaicjgmaaE4
namespace Go.Proofs.Ythphdaeaicjgmaa
open Go Go.VC Go.RowKit
set_option linter.unusedVariables false
set_option linter.unusedSimpArgs false
set_option maxRecDepth 100000

theorem tw_len (p : Int → Bool) : ∀ (xs : List Int) (k : Nat), k ≤ xs.length → (∀ i, i < k → p (xs.getD i 0) = true) → (k = xs.length ∨ p (xs.getD k 0) = false) → (xs.takeWhile p).length = k
  | [], k, h, _, _ => by simp at h ⊢; omega
  | x :: xs, 0, _, _, h => by
    have : p x = false := by simpa using h
    simp [List.takeWhile_cons, this]
  | x :: xs, k + 1, h, h1, h2 => by
    have h0 : p x = true := by simpa using h1 0 (by omega)
    rw [List.takeWhile_cons, if_pos h0, List.length_cons]
    rw [tw_len p xs k (by simpa using h) (fun i hi => by simpa using h1 (i + 1) (by omega)) (by simpa using h2)]
def fwd (p : Int → Bool) (l : List Int) (a : Nat) : Nat := a + ((l.drop a).takeWhile p).length
def bwd (p : Int → Bool) (l : List Int) (a : Nat) : Nat := a - ((l.take a).reverse.takeWhile p).length
theorem getD_drop (l : List Int) (a i : Nat) : (l.drop a).getD i 0 = l.getD (a + i) 0 := by
  rw [List.getD_eq_getElem?_getD, List.getElem?_drop, ← List.getD_eq_getElem?_getD]
theorem fwd_eq {p : Int → Bool} {l : List Int} {a b : Nat} (h1 : a ≤ b) (h2 : b ≤ l.length) (h3 : ∀ i, a ≤ i → i < b → p (l.getD i 0) = true) (h4 : b = l.length ∨ p (l.getD b 0) = false) : fwd p l a = b := by
  unfold fwd
  rw [tw_len p (l.drop a) (b - a) (by rw [List.length_drop]; omega) (fun i hi => by rw [getD_drop]; exact h3 _ (by omega) (by omega))]
  · omega
  · rcases h4 with h4 | h4
    · left; rw [List.length_drop]; omega
    · right; rw [getD_drop, show a + (b - a) = b by omega]; exact h4
theorem getD_rev (l : List Int) (a i : Nat) (hi : i < a) (ha : a ≤ l.length) : (l.take a).reverse.getD i 0 = l.getD (a - 1 - i) 0 := by
  rw [List.getD_eq_getElem?_getD, List.getElem?_reverse (by rw [List.length_take]; omega), List.length_take, List.getElem?_take, if_pos (by omega), ← List.getD_eq_getElem?_getD]
  congr 1; omega
theorem bwd_eq {p : Int → Bool} {l : List Int} {a b : Nat} (h1 : b ≤ a) (h2 : a ≤ l.length) (h3 : ∀ i, b ≤ i → i < a → p (l.getD i 0) = true) (h4 : b = 0 ∨ p (l.getD (b - 1) 0) = false) : bwd p l a = b := by
  unfold bwd
  have hlen : (l.take a).reverse.length = a := by rw [List.length_reverse, List.length_take]; omega
  rw [tw_len p (l.take a).reverse (a - b) (by omega) (fun i hi => by rw [getD_rev l a i (by omega) h2]; exact h3 _ (by omega) (by omega))]
  · omega
  · by_cases hb : b = 0
    · left; omega
    · right
      rw [getD_rev l a _ (by omega) h2, show a - 1 - (a - b) = b - 1 by omega]
      rcases h4 with h4 | h4
      · exact absurd h4 hb
      · exact h4

def refOn (l : List Int) (a : Nat) : Nat := fwd letterV l (fwd (fun c => !letterV c) l a)
def refBack (l : List Int) (a : Nat) : Nat := bwd letterV l (bwd (fun c => !letterV c) l a)

set_option maxHeartbeats 4000000
theorem fn23on (w : World) (A : Option Addr) (n c : Nat) (xs : List Int) (a : Int) (h : Ints w A n xs) :
    Ret Try.prog 23 #[.slice A n c, .int .i64 a, .bool false] w fun v w' => w = w' ∧ v = .int .i64 (refOn xs (heldV n a)) := by
  have hl := h.len
  have hm := h.small
  have hat : heldV n a ≤ n := by simp only [heldV]; omega
  refine Ret.of_vc tab_ok Try.func23 rfl Try.ntmps23 rfl (Nat.le_of_ble_eq_true rfl) Try.call23 ?_
  conv => whnf
  refine (fn29 A n c a w).mono ?_
  rintro _ _ ⟨rfl, rfl⟩
  generalize heldV n a = at0 at hat
  conv => whnf
  refine VLoop.cut (X := Nat) (fun b => [(0, .slice A n c), (1, .int .i64 b)]) (fun b W => w = W ∧ b ≤ n ∧ fwd (fun c => !letterV c) xs at0 = b) 4 ?_ ?_
  · refine VLoop.mk' tab_ok (X := Nat) (fun k => [(0, .slice A n c), (1, .int .i64 k)])
      (fun k W => w = W ∧ at0 ≤ k ∧ k ≤ n ∧ ∀ i, at0 ≤ i → i < k → (!letterV (xs.getD i 0)) = true) (fun k _ => n - k) at0 ⟨rfl, rfl, trivial⟩ ⟨rfl, Nat.le_refl _, hat, fun i h1 h2 => by omega⟩ ?_
    rintro k j _ ⟨rfl, h1, h2, h3⟩
    conv => whnf
    intro t ht
    cases t <;> simp only [VB] at ht <;> (conv => whnf)
    · exact .inl ⟨rfl, k, ⟨rfl, rfl, trivial⟩, rfl, h2, fwd_eq (p := fun c => !letterV c) h1 (by omega) h3 (.inl (by omega))⟩
    obtain ⟨ad, hA, hck⟩ := h.at_ (k := k) (by omega)
    refine ⟨by omega, ht, ad, hA, ?_⟩
    conv => whnf
    refine ⟨.int .i64 (xs.getD k 0), by simpa using hck, ?_⟩
    conv => whnf
    refine (fn39 _ _).mono ?_
    rintro _ _ ⟨rfl, rfl⟩
    cases hp : letterV (xs.getD k 0) <;> (conv => whnf)
    · intro r hr
      have hr3 : r = ((k + 1 : Nat) : Int) := by rw [hr]; exact wrap_nat (n := n) (by omega) hm
      subst hr3
      conv => whnf
      refine ⟨k + 1, ⟨rfl, rfl, trivial⟩, ⟨rfl, by omega, by omega, fun i hi1 hi2 => ?_⟩, by omega⟩
      by_cases e : i = k
      · subst e; rw [hp]; rfl
      · exact h3 i hi1 (by omega)
    · exact .inl ⟨rfl, k, ⟨rfl, rfl, trivial⟩, rfl, h2, fwd_eq (p := fun c => !letterV c) h1 (by omega) h3 (.inr (by simp only [hp]; rfl))⟩
  rintro b j _ ⟨rfl, hb, hb2⟩
  unfold refOn
  rw [hb2]
  clear hb2
  conv => whnf
  refine VLoop.mk' tab_ok (X := Nat) (fun k => [(0, .slice A n c), (1, .int .i64 k)])
      (fun k W => w = W ∧ b ≤ k ∧ k ≤ n ∧ ∀ i, b ≤ i → i < k → letterV (xs.getD i 0) = true) (fun k _ => n - k) b ⟨rfl, rfl, trivial⟩ ⟨rfl, Nat.le_refl _, hb, fun i h1 h2 => by omega⟩ ?_
  rintro k j _ ⟨rfl, h1, h2, h3⟩
  conv => whnf
  intro t ht
  cases t <;> simp only [VB] at ht <;> (conv => whnf)
  · exact ⟨rfl, by rw [fwd_eq h1 (by omega) h3 (.inl (by omega))]⟩
  obtain ⟨ad, hA, hck⟩ := h.at_ (k := k) (by omega)
  refine ⟨by omega, ht, ad, hA, ?_⟩
  conv => whnf
  refine ⟨.int .i64 (xs.getD k 0), by simpa using hck, ?_⟩
  conv => whnf
  refine (fn39 _ _).mono ?_
  rintro _ _ ⟨rfl, rfl⟩
  cases hp : letterV (xs.getD k 0) <;> (conv => whnf)
  · exact ⟨rfl, by rw [fwd_eq h1 (by omega) h3 (.inr hp)]⟩
  · intro r hr
    have hr3 : r = ((k + 1 : Nat) : Int) := by rw [hr]; exact wrap_nat (n := n) (by omega) hm
    subst hr3
    conv => whnf
    refine ⟨k + 1, ⟨rfl, rfl, trivial⟩, ⟨rfl, by omega, by omega, fun i hi1 hi2 => ?_⟩, by omega⟩
    by_cases e : i = k
    · subst e; exact hp
    · exact h3 i hi1 (by omega)

theorem fn23back (w : World) (A : Option Addr) (n c : Nat) (xs : List Int) (a : Int) (h : Ints w A n xs) :
    Ret Try.prog 23 #[.slice A n c, .int .i64 a, .bool true] w fun v w' => w = w' ∧ v = .int .i64 (refBack xs (heldV n a)) := by
  have hl := h.len
  have hm := h.small
  have hat : heldV n a ≤ n := by simp only [heldV]; omega
  refine Ret.of_vc tab_ok Try.func23 rfl Try.ntmps23 rfl (Nat.le_of_ble_eq_true rfl) Try.call23 ?_
  conv => whnf
  refine (fn29 A n c a w).mono ?_
  rintro _ _ ⟨rfl, rfl⟩
  generalize heldV n a = at0 at hat
  conv => whnf
  refine VLoop.cut (X := Nat) (fun b => [(0, .slice A n c), (1, .int .i64 b)]) (fun b W => w = W ∧ b ≤ n ∧ bwd (fun c => !letterV c) xs at0 = b) 0 ?_ ?_
  · refine VLoop.mk' tab_ok (X := Nat) (fun k => [(0, .slice A n c), (1, .int .i64 k)])
      (fun k W => w = W ∧ k ≤ at0 ∧ ∀ i, k ≤ i → i < at0 → (!letterV (xs.getD i 0)) = true) (fun k _ => k) at0 ⟨rfl, rfl, trivial⟩ ⟨rfl, Nat.le_refl _, fun i h1 h2 => by omega⟩ ?_
    rintro k j _ ⟨rfl, h1, h3⟩
    conv => whnf
    intro t ht
    cases t <;> simp only [VB] at ht <;> (conv => whnf)
    · exact .inl ⟨rfl, k, ⟨rfl, rfl, trivial⟩, rfl, by omega, bwd_eq (p := fun c => !letterV c) h1 (by omega) h3 (.inl (by omega))⟩
    intro r hr
    have hr3 : r = ((k - 1 : Nat) : Int) := by rw [hr, wrap_id (by omega) (by omega)]; omega
    subst hr3
    obtain ⟨ad, hA, hck⟩ := h.at_ (k := k - 1) (by omega)
    conv => whnf
    refine ⟨by omega, by omega, ad, hA, ?_⟩
    conv => whnf
    refine ⟨.int .i64 (xs.getD (k - 1) 0), by simpa using hck, ?_⟩
    conv => whnf
    refine (fn39 _ _).mono ?_
    rintro _ _ ⟨rfl, rfl⟩
    cases hp : letterV (xs.getD (k - 1) 0) <;> (conv => whnf)
    · intro r hr
      have hr3 : r = ((k - 1 : Nat) : Int) := by rw [hr, wrap_id (by omega) (by omega)]; omega
      subst hr3
      conv => whnf
      refine ⟨k - 1, ⟨rfl, rfl, trivial⟩, ⟨rfl, by omega, fun i hi1 hi2 => ?_⟩, by omega⟩
      by_cases e : i = k - 1
      · subst e; rw [hp]; rfl
      · exact h3 i (by omega) hi2
    · exact .inl ⟨rfl, k, ⟨rfl, rfl, trivial⟩, rfl, by omega, bwd_eq (p := fun c => !letterV c) h1 (by omega) h3 (.inr (by simp only [hp]; rfl))⟩
  rintro b j _ ⟨rfl, hb, hb2⟩
  unfold refBack
  rw [hb2]
  clear hb2
  conv => whnf
  refine VLoop.mk' tab_ok (X := Nat) (fun k => [(0, .slice A n c), (1, .int .i64 k)])
      (fun k W => w = W ∧ k ≤ b ∧ ∀ i, k ≤ i → i < b → letterV (xs.getD i 0) = true) (fun k _ => k) b ⟨rfl, rfl, trivial⟩ ⟨rfl, Nat.le_refl _, fun i h1 h2 => by omega⟩ ?_
  rintro k j _ ⟨rfl, h1, h3⟩
  conv => whnf
  intro t ht
  cases t <;> simp only [VB] at ht <;> (conv => whnf)
  · exact ⟨rfl, by rw [bwd_eq h1 (by omega) h3 (.inl (by omega))]⟩
  intro r hr
  have hr3 : r = ((k - 1 : Nat) : Int) := by rw [hr, wrap_id (by omega) (by omega)]; omega
  subst hr3
  obtain ⟨ad, hA, hck⟩ := h.at_ (k := k - 1) (by omega)
  conv => whnf
  refine ⟨by omega, by omega, ad, hA, ?_⟩
  conv => whnf
  refine ⟨.int .i64 (xs.getD (k - 1) 0), by simpa using hck, ?_⟩
  conv => whnf
  refine (fn39 _ _).mono ?_
  rintro _ _ ⟨rfl, rfl⟩
  cases hp : letterV (xs.getD (k - 1) 0) <;> (conv => whnf)
  · exact ⟨rfl, by rw [bwd_eq h1 (by omega) h3 (.inr hp)]⟩
  · intro r hr
    have hr3 : r = ((k - 1 : Nat) : Int) := by rw [hr, wrap_id (by omega) (by omega)]; omega
    subst hr3
    conv => whnf
    refine ⟨k - 1, ⟨rfl, rfl, trivial⟩, ⟨rfl, by omega, fun i hi1 hi2 => ?_⟩, by omega⟩
    by_cases e : i = k - 1
    · subst e; exact hp
    · exact h3 i (by omega) hi2
end Go.Proofs.Ythphdaeaicjgmaa
