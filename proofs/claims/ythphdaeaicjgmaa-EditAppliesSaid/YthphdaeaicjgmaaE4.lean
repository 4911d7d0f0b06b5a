/- Reverse; Word back. -/
import Derived.Test.YthphdaeaicjgmaaE3
namespace Go.Proofs.Ythphdaeaicjgmaa
open Go Go.VC Go.RowKit
set_option linter.unusedVariables false
set_option linter.unusedSimpArgs false
set_option maxRecDepth 100000

/-- A place of an owned row of whole numbers. -/
theorem own_place {w : World} {base e n c : Nat} {A : Option Addr} {xs : List Int} (h : w.ownsRow base e 1 (.slice A n c) n (ints xs)) {k : Nat} (hk : k < n) :
    ∃ g cur, A = some ⟨g, 0, none⟩ ∧ base ≤ g ∧ w.heap[g]? = some (.cells cur e (0, 0)) ∧ k < cur.size ∧
      ∀ q W, Put w g (.cells (splice cur k [.int .i64 q]) e (0, 0)) W → W.ownsRow base e 1 (.slice A n c) n (ints (xs.set k q)) := by
  obtain ⟨h1, h2⟩ := h
  rcases h2 with ⟨h2, h3⟩ | ⟨g, cap, cur, h3, hb, hg, hn, hm, hs, ht⟩
  · omega
  · injection h3 with h3 h4 h5
    subst h3 h5
    refine ⟨g, cur, rfl, hb, hg, by omega, fun q W hW => ⟨?_, .inr ⟨g, _, _, rfl, hb, hW.at_, hn, hm, ?_, ?_⟩⟩⟩
    · simpa [ints] using h1
    · simpa [splice, setL] using hs
    · rw [splice_cons, splice_nil, Array.toList_setIfInBounds, List.take_set, ht]
      simp [ints, List.map_set]

def revTo (xs : List Int) (i : Nat) : List Int := (List.range xs.length).map fun k => if k < i ∨ xs.length - i ≤ k then xs.getD (xs.length - 1 - k) 0 else xs.getD k 0
theorem revTo_get (xs : List Int) (i k : Nat) (hk : k < xs.length) : (revTo xs i).getD k 0 = if k < i ∨ xs.length - i ≤ k then xs.getD (xs.length - 1 - k) 0 else xs.getD k 0 := by
  simp only [revTo]
  rw [List.getD_eq_getElem?_getD, List.getElem?_map, List.getElem?_range hk]
  rfl
theorem revTo_len (xs : List Int) (i : Nat) : (revTo xs i).length = xs.length := by simp [revTo]
theorem revTo_zero (xs : List Int) : revTo xs 0 = xs := by
  apply List.ext_getElem (by simp [revTo])
  intro k h1 h2
  simp only [revTo, List.getElem_map, List.getElem_range]
  rw [if_neg (by omega), List.getD_eq_getElem?_getD, List.getElem?_eq_getElem h2]
  rfl
theorem revTo_end (xs : List Int) (i : Nat) (h : xs.length ≤ 2 * i + 1) : revTo xs i = xs.reverse := by
  apply List.ext_getElem (by simp [revTo])
  intro k h1 h2
  simp only [List.length_reverse] at h2
  simp only [revTo, List.getElem_map, List.getElem_range, List.getElem_reverse]
  by_cases h3 : k < i ∨ xs.length - i ≤ k
  · rw [if_pos h3, List.getD_eq_getElem?_getD, List.getElem?_eq_getElem (by omega)]
    rfl
  · rw [if_neg h3, List.getD_eq_getElem?_getD, List.getElem?_eq_getElem (by omega)]
    have : xs.length - 1 - k = k := by omega
    simp [this]
theorem revTo_succ (xs : List Int) (i : Nat) (h : 2 * i + 1 < xs.length) :
    ((revTo xs i).set i ((revTo xs i).getD (xs.length - 1 - i) 0)).set (xs.length - 1 - i) ((revTo xs i).getD i 0) = revTo xs (i + 1) := by
  apply List.ext_getElem (by simp [revTo])
  intro k h1 h2
  simp only [List.length_set, revTo_len] at h1
  have e1 : ((revTo xs i).set i ((revTo xs i).getD (xs.length - 1 - i) 0)).set (xs.length - 1 - i) ((revTo xs i).getD i 0) = ((revTo xs i).set i ((revTo xs i).getD (xs.length - 1 - i) 0)).set (xs.length - 1 - i) ((revTo xs i).getD i 0) := rfl
  have g : ∀ (l : List Int) (hl : k < l.length), l[k] = l.getD k 0 := fun l hl => by rw [List.getD_eq_getElem?_getD, List.getElem?_eq_getElem hl]; rfl
  rw [g, g, revTo_get _ _ _ h1, List.getD_eq_getElem?_getD, List.getElem?_set]
  by_cases c1 : xs.length - 1 - i = k
  · rw [if_pos c1, if_pos (by simp [revTo_len]; omega), if_pos (by omega), Option.getD_some, revTo_get _ _ _ (by omega), if_neg (by omega)]
    congr 1; omega
  · rw [if_neg c1, List.getElem?_set]
    by_cases c2 : i = k
    · rw [if_pos c2, if_pos (by rw [revTo_len]; omega), Option.getD_some, revTo_get _ _ _ (by omega), if_neg (by omega), if_pos (by omega)]
      congr 1; omega
    · rw [if_neg c2, ← List.getD_eq_getElem?_getD, revTo_get _ _ _ h1]
      by_cases c3 : k < i ∨ xs.length - i ≤ k
      · rw [if_pos c3, if_pos (by omega)]
      · rw [if_neg c3, if_neg (by omega)]

/-- slices.Reverse of an own row. -/
theorem fn35 {w0 w : World} {base n c : Nat} {A : Option Addr} {xs : List Int} (h : w.ownsRow base 3 1 (.slice A n c) n (ints xs)) (h0 : Ext w0 w) (hb0 : w0.heap.size ≤ base) :
    Ret Try.prog 35 #[.slice A n c] w fun v W => Ext w0 W ∧ W.ownsRow base 3 1 (.slice A n c) n (ints xs.reverse) := by
  have hi := own_ints h
  have hl := hi.len
  have hm := hi.small
  refine Ret.of_vc tab_ok Try.func35 rfl Try.ntmps35 rfl (Nat.le_of_ble_eq_true rfl) Try.call35 ?_
  conv => whnf
  intro r hr
  rw [wrap_id (by omega) (by omega)] at hr
  conv => whnf
  refine VLoop.mk' tab_ok (X := Nat) (fun k => [(0, .slice A n c), (2, .int .i64 k), (3, .int .i64 ((n : Int) - 1 - k))])
    (fun k W => Ext w0 W ∧ (k = 0 ∨ 2 * k ≤ n) ∧ W.ownsRow base 3 1 (.slice A n c) n (ints (revTo xs k))) (fun k _ => n - k) 0 ⟨rfl, rfl, by rw [hr]; show Value.int _ ((n : Int) - 1) = Value.int _ ((n : Int) - 1 - (0 : Nat)); simp, trivial⟩ ⟨h0, .inl rfl, by rw [revTo_zero]; exact h⟩ ?_
  clear h h0 hi
  rintro k j W ⟨hE, hk, hown⟩
  conv => whnf
  intro t ht
  cases t <;> simp only [VB] at ht <;> (conv => whnf)
  · refine ⟨hE, ?_⟩
    rw [revTo_end _ _ (by omega)] at hown
    exact hown
  have hi := own_ints hown
  refine VDraw.mk' tab_ok (Ext W) [13, 15] (.take 0 <| .take 1 <| .take 2 <| .take 3 <| .take 4 <| .take 5 <| .take 6 <| .take 7 <| .take 8 <| .take 9 <| .take 10 <| .take 11 <| .take 12 <| .one 13 <| .take 14 <| .one 15 <| .done) mixed (by kernel_rfl) (by kernel_rfl) (Ext.drew _) ?_
  have hd := Ext.drew W
  replace hown := own_ext hown hd
  replace hE := hE.tr hd
  generalize W.drew = W1 at hown hE ⊢
  obtain ⟨g, cur, rfl, hg, hgb, hsz, hset⟩ := own_place hown (k := k) (by omega)
  obtain ⟨a1, ha1, hc1⟩ := hi.at_ (k := n - 1 - k) (by omega)
  obtain ⟨a2, ha2, hc2⟩ := hi.at_ (k := k) (by omega)
  cases ha1; cases ha2
  have e1 : ((n : Int) - 1 - (k : Int)).toNat = n - 1 - k := by omega
  conv => whnf
  refine ⟨by omega, by omega, _, rfl, ?_⟩
  conv => whnf
  refine ⟨.int .i64 ((revTo xs k).getD (n - 1 - k) 0), fun w' hs => hs.cell (by simpa [e1] using hc1), ?_⟩
  conv => whnf
  refine ⟨by omega, by omega, _, rfl, ?_⟩
  conv => whnf
  refine ⟨.int .i64 ((revTo xs k).getD k 0), fun w' hs => hs.cell (by simpa using hc2), ?_⟩
  conv => whnf
  refine ⟨by omega, by omega, _, rfl, ?_⟩
  conv => whnf
  refine ⟨g, k, _, _, by rw [add_plain_]; simp [show ty3.size = 1 from rfl], hgb, hsz, rfl, rfl, fun W2 hW2 => ?_⟩
  have hown2 := hset _ W2 hW2
  have hE2 := hW2.e hE (by omega)
  clear hset hgb hsz hW2
  obtain ⟨g', cur2, hgg, _, hgb, hsz, hset⟩ := own_place hown2 (k := n - 1 - k) (by omega)
  cases hgg
  conv => whnf
  refine ⟨by omega, by omega, _, rfl, ?_⟩
  conv => whnf
  refine ⟨g, n - 1 - k, _, _, by rw [add_plain_, e1]; simp [show ty3.size = 1 from rfl], hgb, hsz, rfl, rfl, fun W3 hW3 => ?_⟩
  have hown3 := hset _ W3 hW3
  have hE3 := hW3.e hE2 (by omega)
  conv => whnf
  intro r1 hr1
  conv => whnf
  intro r2 hr2
  rw [wrap_id (by omega) (by omega)] at hr1 hr2
  obtain rfl : r1 = ((k + 1 : Nat) : Int) := by omega
  obtain rfl : r2 = (n : Int) - 1 - ((k + 1 : Nat) : Int) := by omega
  conv => whnf
  refine ⟨k + 1, ⟨rfl, rfl, rfl, trivial⟩, ⟨hE3, .inr (by omega), ?_⟩, by omega⟩
  have := revTo_succ xs k (by omega)
  rw [hl] at this
  rw [← this]
  exact hown3

/-- The begin of the last word. -/
def wordBack (l : List Int) (a : Nat) : Nat := a - wordOn (l.take a).reverse 0
theorem wordOn_le (l : List Int) (a : Nat) (h : a ≤ l.length) : wordOn l a ≤ l.length := by
  unfold wordOn
  split
  · omega
  · rename_i k hk
    have h1 := (List.findIdx?_eq_some_iff_getElem.1 hk).1
    rw [List.length_drop] at h1
    split
    · omega
    · rename_i m hm
      have h2 := (List.findIdx?_eq_some_iff_getElem.1 hm).1
      rw [List.length_drop] at h2
      omega
theorem fn22back (w : World) (A : Option Addr) (n c : Nat) (xs : List Int) (a : Int) (h : Ints w A n xs) (hc : n ≤ c) (hcs : n * 8 ≤ 140737488355328) :
    Ret Try.prog 22 #[.slice A n c, .int .i64 a, .bool true] w fun v w' => Ext w w' ∧ v = .int .i64 (wordBack xs (heldV n a)) := by
  have hl := h.len
  have hm := h.small
  have hat : heldV n a ≤ n := by simp only [heldV]; omega
  refine Ret.of_vc tab_ok Try.func22 rfl Try.ntmps22 rfl (Nat.le_of_ble_eq_true rfl) Try.call22 ?_
  conv => whnf
  refine (fn26 A n c a w).mono ?_
  rintro _ _ ⟨rfl, rfl⟩
  generalize heldV n a = at0 at hat
  conv => whnf
  refine ⟨by omega, by omega, fun a' ha' => ?_⟩
  obtain rfl : a' = at0 := by omega
  conv => whnf
  refine (fn25 w A a' c _ (ints_take h a' hat) (by omega)).mono ?_
  rintro _ W1 ⟨A1, c1, rfl, he1, hown, _⟩
  conv => whnf
  refine (fn35 hown he1 (Nat.le_refl _)).mono ?_
  rintro _ W2 ⟨he2, hown2⟩
  have hi2 := own_ints hown2
  have hcc : a' ≤ c1 ∧ c1 ≤ 9223372036854775807 := by
    rcases hown2.2 with ⟨h1, h2⟩ | ⟨g, cap, cur, h1, _, _, h2, h3, _⟩
    · injection h1 with h3 h4 h5; omega
    · injection h1 with h4 h5 h6; simp only [maxLen] at h3; omega
  conv => whnf
  refine (fn22on W2 A1 a' c1 _ 0 hi2 hcc.1 hcc.2).mono ?_
  rintro _ W3 ⟨he3, rfl⟩
  have h0 : heldV a' 0 = 0 := by simp only [heldV]; omega
  rw [h0]
  have hle := wordOn_le (xs.take a').reverse 0 (Nat.zero_le _)
  rw [List.length_reverse, List.length_take] at hle
  conv => whnf
  intro r hr
  rw [wrap_id (by omega) (by omega)] at hr
  conv => whnf
  refine ⟨he2.tr he3, ?_⟩
  congr 1
  rw [hr]
  simp only [wordBack]
  omega
end Go.Proofs.Ythphdaeaicjgmaa
