/- Word on. -/
import Derived.Test.YthphdaeaicjgmaaE2
namespace Go.Proofs.Ythphdaeaicjgmaa
open Go Go.VC Go.RowKit
set_option linter.unusedVariables false
set_option linter.unusedSimpArgs false
set_option maxRecDepth 100000

theorem fn37 (c : Int) (b : Nat) (i : Bool) (w : World) (hb : w.heap[b]? = some (.cells #[.bool i] 4 (0, 0))) :
    Ret Try.prog 37 #[.int .i64 c, .pointer (some ⟨b, 0, none⟩)] w fun v w' => Ext w w' ∧ v = .bool (letterE c != i) := by
  refine Ret.of_vc tab_ok Try.func37 rfl Try.ntmps37 rfl (Nat.le_of_ble_eq_true rfl) Try.call37 ?_
  conv => whnf
  refine VDraw.mk' tab_ok (Ext w) [] (.take 0 <| .take 2 <| .one 1 <| .take 3 <| .take 4 <| .done) mixed (by kernel_rfl) (by kernel_rfl) (Ext.drew _) ?_
  conv => whnf
  refine ⟨_, fun w' hs => hs.cell (ld hb rfl rfl), ?_⟩
  conv => whnf
  refine (fn38 _ _).mono ?_
  rintro _ _ ⟨rfl, rfl⟩
  conv => whnf
  refine ⟨Ext.drew w, ?_⟩
  generalize letterE c = u
  cases u <;> cases i <;> (conv => whnf) <;> intro t ht <;> cases t <;> simp only [VB] at ht <;>
    first | exact absurd rfl ht | exact absurd ht (by decide) | exact ⟨Ext.drew w, rfl⟩

/-- slices.IndexFunc of a function that tells p. -/
theorem fn36 (p : Int → Bool) (g : Value) (w : World) (A : Option Addr) (n c : Nat) (xs : List Int) (h : Ints w A n xs)
    (b : Nat) (hg : ∀ x W, Ext w W → Ret Try.prog 37 #[.int .i64 x, .pointer (some ⟨b, 0, none⟩)] W fun v w' => Ext W w' ∧ v = .bool (p x)) :
    Ret Try.prog 36 #[.slice A n c, .func (.func 37) #[] #[.pointer (some ⟨b, 0, none⟩)]] w fun v w' => Ext w w' ∧ v = .int .i64 (match xs.findIdx? p with | some k => (k : Int) | none => -1) := by
  have hl := h.len
  have hm := h.small
  refine Ret.of_vc tab_ok Try.func36 rfl Try.ntmps36 rfl (Nat.le_of_ble_eq_true rfl) Try.call36 ?_
  conv => whnf
  refine VLoop.mk' tab_ok (X := Nat) (fun k => [(0, .slice A n c), (1, .func (.func 37) #[] #[.pointer (some ⟨b, 0, none⟩)]), (7, .int .i64 n), (8, .int .i64 k)])
    (fun k W => Ext w W ∧ k ≤ n ∧ ∀ i, i < k → p (xs.getD i 0) = false) (fun k _ => n - k) 0 ⟨rfl, rfl, rfl, rfl, trivial⟩ ⟨Ext.refl _, by omega, fun i hi => by omega⟩ ?_
  rintro k j W ⟨he, h1, h2⟩
  conv => whnf
  intro t ht1
  cases t <;> simp only [VB] at ht1 <;> (conv => whnf)
  · refine ⟨he, ?_⟩
    have : xs.findIdx? p = none := by
      rw [List.findIdx?_eq_none_iff]
      intro x hx
      obtain ⟨i, hi, rfl⟩ := List.getElem_of_mem hx
      have := h2 i (by omega)
      rwa [List.getD_eq_getElem?_getD, List.getElem?_eq_getElem hi] at this
    rw [this]
  obtain ⟨a, hA, hck⟩ := (h.ext he).at_ (k := k) (by omega)
  refine ⟨by omega, ht1, a, hA, ?_⟩
  conv => whnf
  refine ⟨.int .i64 (xs.getD k 0), by simpa using hck, ?_⟩
  conv => whnf
  refine (hg (xs.getD k 0) W he).mono ?_
  rintro _ W2 ⟨he2, rfl⟩
  cases hp : p (xs.getD k 0) <;> (conv => whnf)
  · intro r hr
    have hr3 : r = ((k + 1 : Nat) : Int) := by rw [hr]; exact wrap_nat (n := n) (by omega) hm
    subst hr3
    conv => whnf
    refine ⟨k + 1, ⟨rfl, rfl, rfl, rfl, trivial⟩, ⟨he.tr he2, by omega, fun i hi => ?_⟩, by omega⟩
    by_cases e : i = k
    · subst e; exact hp
    · exact h2 i (by omega)
  · refine ⟨he.tr he2, ?_⟩
    have : xs.findIdx? p = some k := by
      rw [List.findIdx?_eq_some_iff_getElem]
      refine ⟨by omega, ?_, fun j hj => ?_⟩
      · rw [List.getD_eq_getElem?_getD, List.getElem?_eq_getElem (by omega)] at hp; exact hp
      · have := h2 j hj
        rw [List.getD_eq_getElem?_getD, List.getElem?_eq_getElem (by omega)] at this
        simpa using this
    rw [this]

theorem add_add' (a : Addr) (m n : Nat) : (a.add m).add n = a.add (m + n) := by
  unfold Addr.add
  by_cases h : m = 0
  · simp [h]
  · by_cases h2 : n = 0
    · simp [h, h2]
    · have : m + n ≠ 0 := by omega
      simp [h, h2, this, Nat.add_assoc]
/-- A slice from a place on. -/
theorem ints_drop {w : World} {A : Option Addr} {n c : Nat} {xs : List Int} (h : Ints w A n xs) (hc : n ≤ c) (k : Nat) (hk : k ≤ n) :
    Ints w (if c = k then A else A.map (·.add (k * 1))) (n - k) (xs.drop k) := by
  have hl := h.len
  refine ⟨by rw [List.length_drop]; omega, by have := h.small; omega, fun i x hx => ?_⟩
  rw [List.getElem?_drop] at hx
  obtain ⟨a, rfl, hcl⟩ := h.get _ _ hx
  have : k + i < xs.length := (List.getElem?_eq_some_iff.1 hx).1
  rw [if_neg (by omega)]
  refine ⟨_, rfl, ?_⟩
  simp only [Nat.mul_one]
  rw [add_add']
  exact hcl
theorem ints_take {w : World} {A : Option Addr} {n : Nat} {xs : List Int} (h : Ints w A n xs) (k : Nat) (hk : k ≤ n) : Ints w A k (xs.take k) := by
  have hl := h.len
  refine ⟨by rw [List.length_take]; omega, by have := h.small; omega, fun i x hx => ?_⟩
  rw [List.getElem?_take] at hx
  split at hx
  · exact h.get _ _ hx
  · cases hx

/-- The place behind the next word. -/
def wordOn (l : List Int) (a : Nat) : Nat := match (l.drop a).findIdx? (fun c => letterE c != false) with
  | none => l.length
  | some k => match (l.drop (a + k)).findIdx? (fun c => letterE c != true) with
    | none => l.length
    | some m => a + k + m
theorem slice77 (w : World) : (Instr.buildSlice 77 2 #[(0, .bool false), (1, .bool true)]).run Try.prog w = .ok (.slice (some ⟨w.heap.size, 0, none⟩) 2 2) (w.alloc (.cells #[.bool false, .bool true] 4)) := by kernel_rfl

set_option maxHeartbeats 4000000
theorem fn22on (w : World) (A : Option Addr) (n c : Nat) (xs : List Int) (a : Int) (h : Ints w A n xs) (hc : n ≤ c) (hcs : c ≤ 9223372036854775807) :
    Ret Try.prog 22 #[.slice A n c, .int .i64 a, .bool false] w fun v w' => Ext w w' ∧ v = .int .i64 (wordOn xs (heldV n a)) := by
  have hl := h.len
  have hm := h.small
  have hat : heldV n a ≤ n := by simp only [heldV]; omega
  refine Ret.of_vc tab_ok Try.func22 rfl Try.ntmps22 rfl (Nat.le_of_ble_eq_true rfl) Try.call22 ?_
  conv => whnf
  refine (fn26 A n c a w).mono ?_
  rintro _ _ ⟨rfl, rfl⟩
  generalize heldV n a = at0 at hat
  conv => whnf
  refine Run.mk' _ _ (slice77 w) ?_
  have hN := New.mk' w (.cells #[.bool false, .bool true] 4)
  generalize w.alloc (.cells #[.bool false, .bool true] 4) = W1 at hN ⊢
  have hb := hN.at_
  have he1 := hN.e
  generalize w.heap.size = b at hb ⊢
  clear hN
  conv => whnf
  refine VLoop.mk' tab_ok (X := Nat × Nat) (fun x => [(0, .slice A n c), (25, .slice (some ⟨b, 0, none⟩) 2 2), (26, .int .i64 2), (27, .int .i64 x.1), (1, .int .i64 x.2)])
    (fun x W => Ext w W ∧ W.heap[b]? = some (.cells #[.bool false, .bool true] 4 (0, 0)) ∧ x.1 ≤ 2 ∧ x.2 ≤ n ∧ (x.1 = 0 → x.2 = at0) ∧ (x.1 = 1 → ∃ k, (xs.drop at0).findIdx? (fun c => letterE c != false) = some k ∧ x.2 = at0 + k) ∧ (x.1 = 2 → x.2 = wordOn xs at0))
    (fun x _ => 2 - x.1) (0, at0) ⟨rfl, rfl, rfl, rfl, rfl, trivial⟩ ⟨he1, hb, Nat.zero_le _, hat, fun _ => rfl, fun h => (by cases h), fun h => (by cases h)⟩ ?_
  clear hb he1
  rintro ⟨k, a⟩ j W ⟨hE, hb, hk, ha, i0, i1, i2⟩
  dsimp only at hk ha i0 i1 i2
  conv => whnf
  intro t ht
  cases t <;> simp only [VB] at ht <;> (conv => whnf)
  · exact ⟨hE, by rw [i2 (by omega)]⟩
  obtain ⟨i, hi, hci⟩ : ∃ i : Bool, i = decide (k = 1) ∧ W.cell? ((⟨b, 0, none⟩ : Addr).add k) = some (.bool i) := by
    refine ⟨_, rfl, ?_⟩
    rw [add_plain_, cell_of_at hb]
    match k, ht with
    | 0, _ => rfl
    | 1, _ => rfl
    | k + 2, h => omega
  refine ⟨by omega, by omega, ⟨b, 0, none⟩, rfl, ?_⟩
  conv => whnf
  refine ⟨.bool i, by simpa using hci, ?_⟩
  conv => whnf
  intro W2 hW2
  conv => whnf
  refine ⟨W.heap.size, 0, _, _, rfl, hW2.at_, Nat.le_of_ble_eq_true rfl, rfl, rfl, fun W3 hW3 => ?_⟩
  have he23 : Ext W W3 := hW3.e hW2.e (Nat.le_refl _)
  have hb3 : W3.heap[W.heap.size]? = some (.cells #[.bool i] 4 (0, 0)) := hW3.at_
  generalize W.heap.size = b9 at hb3 ⊢
  replace hE := hE.tr he23
  replace hb := he23.at_ hb
  clear hW2 hW3 he23
  conv => whnf
  refine ⟨by omega, by omega, fun a' ha' => ?_⟩
  obtain rfl : a' = a := by omega
  conv => whnf
  refine (fn36 (fun c => letterE c != i) .nilFunc W3 _ (n - a') (c - a') _ (ints_drop (h.ext hE) hc a' ha) b9 (fun x V hV => fn37 x b9 i V (hV.at_ hb3))).mono ?_
  rintro _ W4 ⟨he4, rfl⟩
  replace hE := hE.tr he4
  replace hb := he4.at_ hb
  clear he4 hb3
  conv => whnf
  cases hf : (xs.drop a').findIdx? (fun c => letterE c != i) with
  | none =>
    conv => whnf
    intro t ht2
    obtain rfl : t = true := ht2.yes (by decide)
    conv => whnf
    refine ⟨hE, ?_⟩
    congr 1
    have hk2 : k = 0 ∨ k = 1 := by omega
    rcases hk2 with rfl | rfl
    · obtain rfl := i0 rfl
      have hi' : i = false := hi
      subst hi'
      simp only [wordOn, hf, hl]
    · obtain ⟨k1, h1, rfl⟩ := i1 rfl
      have hi' : i = true := hi
      subst hi'
      simp only [wordOn, h1, hf, hl]
  | some m =>
    have hm2 : m < (xs.drop a').length := (List.findIdx?_eq_some_iff_getElem.1 hf).1
    rw [List.length_drop] at hm2
    conv => whnf
    intro t ht2
    obtain rfl : t = false := ht2.no (by simp only []; omega)
    conv => whnf
    intro r hr
    have hr1 : r = ((a' + m : Nat) : Int) := by rw [hr]; rw [wrap_id (by simp only []; omega) (by simp only []; omega)]; simp
    subst hr1
    conv => whnf
    intro r2 hr2
    have hr3 : r2 = ((k + 1 : Nat) : Int) := by rw [hr2]; exact wrap_nat (n := 2) (by omega) (by omega)
    subst hr3
    conv => whnf
    refine ⟨(k + 1, a' + m), ⟨rfl, rfl, rfl, rfl, rfl, trivial⟩, ⟨hE, hb, by dsimp only; omega, by dsimp only; omega, fun h => by simp at h, fun h => ?_, fun h => ?_⟩, by dsimp only; omega⟩
    · have hk0 : k = 0 := by simpa using h
      subst hk0
      obtain rfl := i0 rfl
      have hi' : i = false := hi
      subst hi'
      exact ⟨m, hf, rfl⟩
    · have hk0 : k = 1 := by simpa using h
      subst hk0
      obtain ⟨k1, h1, rfl⟩ := i1 rfl
      have hi' : i = true := hi
      subst hi'
      simp only [wordOn, h1, hf]
end Go.Proofs.Ythphdaeaicjgmaa
