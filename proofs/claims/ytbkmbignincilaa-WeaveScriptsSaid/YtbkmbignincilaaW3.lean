/- The place of an Id among kids. -/
import Derived.Test.YtbkmbignincilaaW2
namespace Go.Proofs.Ytbkmbignincilaa
open Go Go.VC Go.RowKit
set_option linter.unusedVariables false
set_option linter.unusedSimpArgs false
set_option maxRecDepth 100000

theorem lessI_tr {a b c : Idn} (h : lessI a b = true) (k : lessI b c = true) : lessI a c = true := by
  simp only [lessI, decide_eq_true_eq] at *; omega
theorem lessI_irr (a : Idn) : lessI a a = false := by
  simp only [lessI, decide_eq_false_iff_not]; omega
theorem lessI_tot {a b : Idn} (h : a ≠ b) : lessI a b = true ∨ lessI b a = true := by
  simp only [lessI, decide_eq_true_eq]
  by_cases h1 : a.t = b.t
  · by_cases h2 : a.s = b.s
    · exact absurd (by cases a; cases b; simp_all) h
    · omega
  · omega
theorem lessI_asym {a b : Idn} (h : lessI a b = true) : lessI b a = false := by
  simp only [lessI, decide_eq_true_eq, decide_eq_false_iff_not] at *; omega
theorem grI_lt (a b : Idn) : grI a b < 0 ↔ lessI b a = true := by
  unfold grI
  by_cases h : lessI b a = true
  · simp [h]
  · by_cases h2 : lessI a b = true <;> simp [h, h2]
theorem grI_eq (a b : Idn) : grI a b = 0 ↔ a = b := by
  unfold grI
  by_cases e : a = b
  · subst e; simp [lessI_irr]
  · rcases lessI_tot e with h | h
    · simp [h, lessI_asym h, e]
    · simp [h, e]
/-- The greatest first. -/
def Desc (l : List Idn) : Prop := l.Pairwise fun a b => lessI b a = true
/-- How many are greater. -/
def posI (l : List Idn) (x : Idn) : Nat := (l.takeWhile (fun y => lessI x y)).length

theorem posI_of {l : List Idn} {x : Idn} {p : Nat} (hp : p ≤ l.length) (h1 : ∀ i (hi : i < l.length), i < p → lessI x l[i] = true) (h2 : ∀ (hi : p < l.length), lessI x l[p] = false) : p = posI l x := by
  unfold posI
  induction l generalizing p with
  | nil => simp at hp; simp [hp]
  | cons a l ih =>
    cases p with
    | zero =>
      have := h2 (by simp)
      simp only [List.getElem_cons_zero] at this
      simp [List.takeWhile_cons, this]
    | succ p =>
      have h0 := h1 0 (by simp) (by omega)
      simp only [List.getElem_cons_zero] at h0
      simp only [List.takeWhile_cons, h0, if_true, List.length_cons]
      congr 1
      exact ih (by simpa using hp) (fun i hi hip => by have := h1 (i + 1) (by simpa using hi) (by omega); simpa using this) (fun hi => by have := h2 (by simpa using hi); simpa using this)

theorem u64_nat {k : Nat} (h : k < 18446744073709551616) : IntKind.u64.wrap (k : Int) = (k : Int) := by
  rw [IntKind.wrap_u64]; omega
set_option maxHeartbeats 4000000
theorem fn42 {w : World} {A : Option Addr} {n c : Nat} {xs : List Idn} (x : Idn) (h : Row24 w A n xs) (hd : Desc xs) (hn : n ≤ 1000000) :
    Ret Try.prog 42 #[.slice A n c, kI x, .func (.func 43) #[] #[]] w fun v W => Ext w W ∧ v = .tuple #[.int .i64 (posI xs x), .bool (decide (xs[posI xs x]? = some x))] ∧ posI xs x ≤ n := by
  have hl := h.len
  have hm := h.small
  have hgt : ∀ i j (hi : i < xs.length) (hj : j < xs.length), i < j → lessI xs[j] xs[i] = true := fun i j hi hj hij => (List.pairwise_iff_getElem.1 hd) i j hi hj hij
  refine Ret.of_vc tab_ok Try.func42 rfl Try.ntmps42 rfl (Nat.le_of_ble_eq_true rfl) Try.call42 ?_
  conv => whnf
  intro W hW
  have hb := hW.at_
  have hE := hW.e
  generalize w.heap.size = bx at hb
  conv => whnf
  refine VLoop.mk' tab_ok (X := Nat × Nat) (fun p => [(0, .slice A n c), (2, .func (.func 43) #[] #[]), (4, .pointer (some ⟨bx, 0, none⟩)), (8, .int .i64 n), (9, .int .i64 p.1), (10, .int .i64 p.2), (6, .int .i64 0), (7, .bool false)])
    (fun p W' => Ext W W' ∧ p.1 ≤ p.2 ∧ p.2 ≤ n ∧ (∀ i (hi : i < xs.length), i < p.1 → lessI x xs[i] = true) ∧ (∀ i (hi : i < xs.length), p.2 ≤ i → lessI x xs[i] = false)) (fun p _ => p.2 - p.1) (0, n) ⟨rfl, rfl, rfl, rfl, rfl, rfl, rfl, rfl, trivial⟩ ⟨Ext.refl _, by omega, by omega, fun i hi h0 => by omega, fun i hi h0 => by omega⟩ ?_
  rintro ⟨lo, hi⟩ j W1 ⟨hE1, hlh, hhn, hlo, hhi⟩
  dsimp only at hlh hhn hlo hhi
  conv => whnf
  intro t ht
  cases t <;> simp only [VB] at ht <;> (conv => whnf)
  · obtain rfl : lo = hi := by omega
    have hpos := posI_of (x := x) (l := xs) (p := lo) (by omega) hlo (fun hi => hhi lo hi (Nat.le_refl _))
    refine VDraw.mk' tab_ok (Ext W1) [11] (.take 0 <| .take 1 <| .take 2 <| .take 3 <| .take 4 <| .take 5 <| .take 6 <| .take 7 <| .take 8 <| .take 9 <| .take 10 <| .one 11 <| .take 12 <| .take 13 <| .take 14 <| .take 15 <| .done) mixed (by kernel_rfl) (by kernel_rfl) (Ext.drew _) ?_
    have hdr := Ext.drew W1
    generalize W1.drew = W2 at hdr
    conv => whnf
    intro t ht2
    cases t <;> simp only [VB] at ht2 <;> (conv => whnf)
    · refine ⟨hE.tr (hE1.tr hdr), ?_, by omega⟩
      rw [← hpos, List.getElem?_eq_none (by omega)]
      simp
    · have hlt : lo < n := by omega
      obtain ⟨a, hk, rfl, hc⟩ := h.at_ hlt
      refine ⟨by omega, by omega, a, rfl, ?_⟩
      conv => whnf
      refine ⟨cI xs[lo], rfl, fun w' hs => hc.ext ((hE.tr hE1).tr hs), ?_⟩
      conv => whnf
      refine ⟨cI x, rfl, fun w' hs => lds (hs.at_ (hE1.at_ hb)) rfl rfl, ?_⟩
      conv => whnf
      refine (fn43 xs[lo] x _).mono ?_
      rintro _ W3 ⟨he, rfl⟩
      conv => whnf
      intro t ht3
      conv => whnf
      refine ⟨hE.tr (hE1.tr (hdr.tr he)), ?_, by omega⟩
      rw [vbool ht3, ← hpos, List.getElem?_eq_getElem hk]
      simp only [grI_eq, Option.some.injEq]
  · have hlt : lo < hi := by omega
    intro r hr
    obtain rfl : r = ((lo + hi : Nat) : Int) := by rw [hr, wrap_id (by omega) (by omega)]; rfl
    clear hr
    conv => whnf
    intro r hr
    obtain rfl : r = ((lo + hi : Nat) : Int) := by rw [hr]; exact u64_nat (by omega)
    clear hr
    conv => whnf
    refine ⟨by omega, fun r hr => ?_⟩
    have e2 : ((2 : Int) ^ min (1 : Int).toNat IntKind.u64.bits) = 2 := rfl
    obtain rfl : r = (((lo + hi) / 2 : Nat) : Int) := by rw [hr, e2, Int.fdiv_eq_ediv_of_nonneg _ (by omega)]; omega
    clear hr
    conv => whnf
    intro r hr
    obtain rfl : r = (((lo + hi) / 2 : Nat) : Int) := by rw [hr, wrap_id (by omega) (by omega)]
    clear hr
    generalize hmid : (lo + hi) / 2 = mid
    have h1 : lo ≤ mid := by omega
    have h2 : mid < hi := by omega
    clear hmid
    conv => whnf
    refine VDraw.mk' tab_ok (Ext W1) [6] (.take 0 <| .take 1 <| .take 2 <| .take 3 <| .take 4 <| .take 5 <| .one 6 <| .take 7 <| .done) mixed (by kernel_rfl) (by kernel_rfl) (Ext.drew _) ?_
    have hdr := Ext.drew W1
    generalize W1.drew = W2 at hdr
    conv => whnf
    obtain ⟨a, hk, rfl, hc⟩ := h.at_ (show mid < n by omega)
    refine ⟨by omega, by omega, a, rfl, ?_⟩
    conv => whnf
    refine ⟨cI xs[mid], rfl, fun w' hs => hc.ext ((hE.tr hE1).tr hs), ?_⟩
    conv => whnf
    refine ⟨cI x, rfl, fun w' hs => lds (hs.at_ (hE1.at_ hb)) rfl rfl, ?_⟩
    conv => whnf
    refine (fn43 xs[mid] x _).mono ?_
    rintro _ W3 ⟨he, rfl⟩
    conv => whnf
    intro t ht3
    have hless := grI_lt xs[mid] x
    cases t <;> simp only [VB] at ht3 <;> (conv => whnf)
    · have hge : lessI x xs[mid] = false := by
        cases hb : lessI x xs[mid] with
        | false => rfl
        | true => exact absurd (hless.2 hb) ht3
      refine ⟨(lo, mid), ⟨rfl, rfl, rfl, rfl, rfl, rfl, rfl, rfl, trivial⟩, ⟨hE1.tr (hdr.tr he), by dsimp only; omega, by dsimp only; omega, hlo, fun i hi2 hmi => ?_⟩, by dsimp only; omega⟩
      dsimp only at hmi
      rcases Nat.lt_or_ge mid i with h3 | h3
      · have := hgt mid i hk hi2 h3
        cases hb : lessI x xs[i] with
        | false => rfl
        | true => rw [lessI_tr hb this] at hge; cases hge
      · obtain rfl : i = mid := by omega
        exact hge
    · have hg := hless.1 ht3
      intro r hr
      obtain rfl : r = ((mid + 1 : Nat) : Int) := by rw [hr, wrap_id (by omega) (by omega)]; rfl
      clear hr
      conv => whnf
      refine ⟨(mid + 1, hi), ⟨rfl, rfl, rfl, rfl, rfl, rfl, rfl, rfl, trivial⟩, ⟨hE1.tr (hdr.tr he), by dsimp only; omega, by dsimp only; omega, fun i hi2 hmi => ?_, hhi⟩, by dsimp only; omega⟩
      dsimp only at hmi
      rcases Nat.lt_or_ge i mid with h3 | h3
      · exact lessI_tr hg (hgt i mid hi2 hk h3)
      · obtain rfl : i = mid := by omega
        exact hg
end Go.Proofs.Ytbkmbignincilaa
