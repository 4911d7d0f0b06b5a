/- Apply: the program's and the document's. -/
import Derived.Test.YthphdaeaicjgmaaE15
namespace Go.Proofs.Ythphdaeaicjgmaa
open Go Go.VC Go.RowKit
set_option linter.unusedVariables false
set_option linter.unusedSimpArgs false
set_option maxRecDepth 100000

abbrev Act3 := Int × Int × Int
def apply1 (l : List Int) (a : Act3) : Option (List Int) :=
  if a.2.1 < 0 ∨ (l.length : Int) < a.2.1 then none
  else if a.1 = 1 then some (l.take a.2.1.toNat ++ a.2.2 :: l.drop a.2.1.toNat)
  else if a.1 = 2 ∧ a.2.1 < l.length then some (l.take a.2.1.toNat ++ l.drop (a.2.1.toNat + 1))
  else none
def applyAll : List Int → List Act3 → Option (List Int)
  | l, [] => some l
  | l, a :: zs => match apply1 l a with
    | none => none
    | some l' => applyAll l' zs
theorem apply1_len {l l' : List Int} {a : Act3} (h : apply1 l a = some l') : l'.length ≤ l.length + 1 := by
  unfold apply1 at h
  split at h
  · cases h
  · split at h
    · injection h with h; subst h; simp; omega
    · split at h
      · injection h with h; subst h; simp; omega
      · cases h

theorem acells_get (l : List Act3) : ∀ (k i : Nat) (hk : k < l.length), i < 3 → (acells l)[k * 3 + i]? = [Value.int .i64 (l.getD k (0, 0, 0)).1, .int .i64 (l.getD k (0, 0, 0)).2.1, .int .i64 (l.getD k (0, 0, 0)).2.2][i]? := by
  induction l with
  | nil => intro k i hk; simp at hk
  | cons a l ih =>
    intro k i hk hi
    have e : acells (a :: l) = [.int .i64 a.1, .int .i64 a.2.1, .int .i64 a.2.2] ++ acells l := by simp [acells]
    rw [e]
    cases k with
    | zero =>
      rw [List.getElem?_append_left (by simp; omega)]
      simp
    | succ k =>
      rw [List.getElem?_append_right (by simp; omega)]
      have := ih k i (by simpa using hk) hi
      rw [show (k + 1) * 3 + i - [Value.int IntKind.i64 a.1, .int .i64 a.2.1, .int .i64 a.2.2].length = k * 3 + i by simp; omega, this]
      rfl
theorem acells_len (l : List Act3) : (acells l).length = l.length * 3 := by
  induction l with
  | nil => rfl
  | cons a l ih =>
    have e : acells (a :: l) = [.int .i64 a.1, .int .i64 a.2.1, .int .i64 a.2.2] ++ acells l := by simp [acells]
    rw [e]; simp [ih]; omega
/-- An act of a row. -/
theorem act_at {w : World} {A : Option Addr} {m : Nat} {l : List Act3} (h : Rd w 3 A m (acells l)) {k : Nat} (hk : k < m) :
    ∃ a, A = some a ∧ Cells w (a.add (k * 3)) [.int .i64 (l.getD k (0, 0, 0)).1, .int .i64 (l.getD k (0, 0, 0)).2.1, .int .i64 (l.getD k (0, 0, 0)).2.2] := by
  have hl : l.length = m := by have := h.1; rw [acells_len] at this; omega
  obtain ⟨a, e, _⟩ := h.2 (k * 3) _ ((acells_get l k 0 (by omega) (by omega)).trans rfl)
  refine ⟨a, e, fun i hi => ?_⟩
  have hi3 : i < 3 := by simpa using hi
  have h1 := acells_get l k i (by omega) hi3
  have h2 : ∃ u, [Value.int IntKind.i64 (l.getD k (0, 0, 0)).1, .int .i64 (l.getD k (0, 0, 0)).2.1, .int .i64 (l.getD k (0, 0, 0)).2.2][i]? = some u ∧ [Value.int IntKind.i64 (l.getD k (0, 0, 0)).1, .int .i64 (l.getD k (0, 0, 0)).2.1, .int .i64 (l.getD k (0, 0, 0)).2.2].getD i undef = u := by
    match i, hi3 with
    | 0, _ => exact ⟨_, rfl, rfl⟩
    | 1, _ => exact ⟨_, rfl, rfl⟩
    | 2, _ => exact ⟨_, rfl, rfl⟩
  obtain ⟨u, h2, h3⟩ := h2
  rw [h2] at h1
  obtain ⟨a', e', hc⟩ := h.2 _ _ h1
  rw [e] at e'; cases e'
  rw [add_add', hc, h3]
theorem rd_len3 {w : World} {A : Option Addr} {m : Nat} {l : List Act3} (h : Rd w 3 A m (acells l)) : l.length = m := by
  have := h.1; rw [acells_len] at this; omega
theorem drop_getD {l : List Act3} {k : Nat} (h : k < l.length) : l.drop k = l.getD k (0, 0, 0) :: l.drop (k + 1) := by
  rw [List.drop_eq_getElem_cons h]
  congr 1
  rw [List.getD_eq_getElem?_getD, List.getElem?_eq_getElem h]
  rfl

/-- What an Apply hands back. -/
def Applied (w : World) (base : Nat) (r : Option (List Int)) (v : Value) : Prop :=
  match r with
  | none => v = .tuple #[.slice none 0 0, .bool false]
  | some l => ∃ L, v = .tuple #[L, .bool true] ∧ w.ownsRow base 3 1 L l.length (ints l)

set_option maxHeartbeats 8000000
theorem fn18 (w : World) (A TA : Option Addr) (n c m tc : Nat) (xs : List Int) (zs : List Act3) (h : Ints w A n xs) (ha : Rd w 3 TA m (acells zs)) (hn : n ≤ 10000) (hm : m ≤ 100000) :
    Ret Try.prog 18 #[.slice A n c, .slice TA m tc] w fun v W => Ext w W ∧ Applied W w.heap.size (applyAll xs zs) v := by
  have hl := h.len
  have hal := rd_len3 ha
  refine Ret.of_vc tab_ok Try.func18 rfl Try.ntmps18 rfl (Nat.le_of_ble_eq_true rfl) Try.call18 ?_
  conv => whnf
  refine (fn25 w A n c xs h (by omega)).mono ?_
  rintro _ W1 ⟨A1, c1, rfl, he1, hown1, _⟩
  conv => whnf
  refine VLoop.mk' tab_ok (X := Nat × Value × List Int) (fun x => [(0, x.2.1), (10, .slice TA m tc), (11, .int .i64 m), (12, .int .i64 x.1)])
    (fun x W => Ext w W ∧ x.1 ≤ m ∧ x.2.2.length ≤ n + x.1 ∧ W.ownsRow w.heap.size 3 1 x.2.1 x.2.2.length (ints x.2.2) ∧ applyAll xs zs = applyAll x.2.2 (zs.drop x.1)) (fun x _ => m - x.1) (0, .slice A1 n c1, xs)
    ⟨rfl, rfl, rfl, rfl, trivial⟩ ⟨he1, Nat.zero_le _, by dsimp only; omega, by dsimp only; rw [hl]; exact hown1, rfl⟩ ?_
  clear hown1 he1
  rintro ⟨k, L, l⟩ j W ⟨hE, hk, hll, hown, hap⟩
  dsimp only at hk hll hown hap
  obtain ⟨LA, lc, rfl⟩ := own_form hown
  conv => whnf
  intro t ht
  cases t <;> simp only [VB] at ht <;> (conv => whnf)
  case false =>
    rw [List.drop_of_length_le (by omega)] at hap
    rw [hap]
    exact ⟨hE, _, rfl, hown⟩
  rw [drop_getD (by omega)] at hap
  obtain ⟨a, rfl, hc⟩ := act_at (ha.ext hE) (k := k) (by omega)
  generalize zs.getD k (0, 0, 0) = p at hap hc
  obtain ⟨kind, at_, rune⟩ := p
  dsimp only at hc
  refine ⟨by omega, ht, a, rfl, ?_⟩
  conv => whnf
  refine ⟨[.int .i64 kind, .int .i64 at_, .int .i64 rune], rfl, hc, ?_⟩
  conv => whnf
  intro W2 hW2
  conv => whnf
  refine ⟨W.heap.size, 0, _, _, rfl, hW2.at_, Nat.le_of_ble_eq_true rfl, rfl, rfl, fun W3 hW3 => ?_⟩
  have hE3 := hW3.e (hE.tr hW2.e) hE.le
  have h7 := hW3.at_
  have hown3 : W3.ownsRow w.heap.size 3 1 _ l.length (ints l) := own_ext hown (hW3.e hW2.e (Nat.le_refl _))
  have hsz3 : W3.heap.size = W.heap.size + 1 := by rw [hW3.size, hW2.size]
  have hlt := hE.le
  have hne : (Value.slice LA l.length lc).ownBlock ≠ some W.heap.size := fun e => by have := (hown.lt _ e).2; omega
  generalize hb7 : W.heap.size = b7 at h7 hsz3 hlt hne ⊢
  clear hW2 hW3 hc hown hE
  conv => whnf
  refine ⟨_, ld h7 rfl rfl, ?_⟩
  simp only [applyAll] at hap
  unfold apply1 at hap
  dsimp only at hap
  conv => whnf
  intro t ht1
  cases t <;> simp only [VB] at ht1 <;> (conv => whnf)
  case true =>
    rw [if_pos (.inl ht1)] at hap
    rw [hap]
    exact ⟨hE3, rfl⟩
  refine ⟨_, ld h7 rfl rfl, ?_⟩
  conv => whnf
  intro t ht2
  cases t <;> simp only [VB] at ht2 <;> (conv => whnf)
  case true =>
    rw [if_pos (.inr (by omega))] at hap
    rw [hap]
    exact ⟨hE3, rfl⟩
  rw [if_neg (by omega)] at hap
  refine ⟨_, ld h7 rfl rfl, ?_⟩
  conv => whnf
  intro t ht3
  cases t <;> simp only [VB] at ht3 <;> (conv => whnf)
  case true =>
    rw [if_pos ht3] at hap
    refine ⟨_, ld h7 rfl rfl, ?_⟩
    conv => whnf
    refine ⟨_, ld h7 rfl rfl, ?_⟩
    conv => whnf
    refine Run.mk' _ _ (slice22_1 _ _) ?_
    have hN := New.mk' W3 (.cells #[.int .i64 rune] 3)
    generalize W3.alloc (.cells #[.int .i64 rune] 3) = W4 at hN ⊢
    have hat := hN.at_
    have hE4 := hE3.tr hN.e
    have hown4 := own_ext hown3 hN.e
    have hne4 : (Value.slice LA l.length lc).ownBlock ≠ some W3.heap.size := fun e => by have := (hown3.lt _ e).2; omega
    generalize W3.heap.size = g1 at hat hne4 ⊢
    clear hN
    obtain ⟨i, rfl⟩ : ∃ i : Nat, at_ = i := ⟨at_.toNat, by omega⟩
    conv => whnf
    refine (fn33 (w0 := w) (i := i) hown4 hE4.le (by omega) hat hne4 (by omega)).mono ?_
    rintro u W5 ⟨hown5, hgr, _⟩
    have hE5 := ext_row hE4 hgr hown4 (Nat.le_refl _)
    conv => whnf
    intro r hr
    obtain rfl : r = ((k + 1 : Nat) : Int) := by rw [hr]; exact wrap_nat (n := m) (by omega) (by omega)
    conv => whnf
    have el : (l.take i ++ rune :: l.drop i).length = l.length + 1 := by simp; omega
    rw [Int.toNat_natCast] at hap
    exact ⟨(k + 1, u, l.take i ++ rune :: l.drop i), ⟨rfl, rfl, rfl, rfl, trivial⟩, ⟨hE5, by dsimp only; omega, by dsimp only; omega, by dsimp only; rw [el]; exact hown5, hap⟩, by dsimp only; omega⟩
  rw [if_neg ht3] at hap
  refine ⟨_, ld h7 rfl rfl, ?_⟩
  conv => whnf
  intro t ht4
  cases t <;> simp only [VB] at ht4 <;> (conv => whnf)
  case false =>
    rw [if_neg (fun e => ht4 e.1)] at hap
    rw [hap]
    exact ⟨hE3, rfl⟩
  refine ⟨_, ld h7 rfl rfl, ?_⟩
  conv => whnf
  intro t ht5
  cases t <;> simp only [VB] at ht5 <;> (conv => whnf)
  case false =>
    rw [if_neg (fun e => ht5 e.2)] at hap
    rw [hap]
    exact ⟨hE3, rfl⟩
  rw [if_pos ⟨ht4, ht5⟩] at hap
  obtain ⟨i, rfl⟩ : ∃ i : Nat, at_ = i := ⟨at_.toNat, by omega⟩
  rw [Int.toNat_natCast] at hap
  refine ⟨_, ld h7 rfl rfl, ?_⟩
  conv => whnf
  refine ⟨_, ld h7 rfl rfl, ?_⟩
  conv => whnf
  intro r hr
  obtain rfl : r = ((i + 1 : Nat) : Int) := by rw [hr, wrap_id (by omega) (by omega)]; rfl
  conv => whnf
  refine (fn34 (i := i) (j := i + 1) hown3 (by omega) (by omega)).mono ?_
  rintro u W5 ⟨_, hown5, hgr⟩
  have hE5 := ext_row hE3 hgr hown3 (Nat.le_refl _)
  conv => whnf
  intro r hr
  obtain rfl : r = ((k + 1 : Nat) : Int) := by rw [hr]; exact wrap_nat (n := m) (by omega) (by omega)
  conv => whnf
  have el : (l.take i ++ l.drop (i + 1)).length = i + (l.length - (i + 1)) := by simp; omega
  exact ⟨(k + 1, u, l.take i ++ l.drop (i + 1)), ⟨rfl, rfl, rfl, rfl, trivial⟩, ⟨hE5, by dsimp only; omega, by dsimp only; omega, by dsimp only; rw [el]; exact hown5, hap⟩, by dsimp only; omega⟩
end Go.Proofs.Ythphdaeaicjgmaa
