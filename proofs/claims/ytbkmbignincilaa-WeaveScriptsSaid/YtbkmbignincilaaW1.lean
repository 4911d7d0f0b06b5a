/- Names of elements: their order, their check; runes. -/
import Derived.Test.YtbkmbignincilaaTab
import Derived.Test.YtbkmbignincilaaMaps
namespace Go.Proofs.Ytbkmbignincilaa
open Go Go.VC Go.RowKit
set_option linter.unusedVariables false
set_option linter.unusedSimpArgs false
set_option maxRecDepth 100000

theorem mixed : Try.prog.follows .mixedOrders = true := by kernel_rfl
structure Idn where
  t : Int
  s : Int
deriving DecidableEq
def Idn.z : Idn := ⟨0, 0⟩
abbrev kI (x : Idn) : Value := K2 x.t x.s
abbrev cI (x : Idn) : List Value := [.int .i64 x.t, .int .i64 x.s]
def lessI (a b : Idn) : Bool := decide (a.t < b.t ∨ (a.t = b.t ∧ a.s < b.s))
def okI (x : Idn) : Bool := decide (1 ≤ x.t ∧ x.t ≤ 4294967295 ∧ 0 ≤ x.s ∧ x.s ≤ 15)
def okR (n : Int) : Bool := decide (32 ≤ n ∧ n ≤ 1114111 ∧ ¬ (127 ≤ n ∧ n ≤ 159) ∧ ¬ (55296 ≤ n ∧ n ≤ 57343))

theorem fn46 (n : Int) (w : World) : Ret Try.prog 46 #[.int .i64 n] w fun v W => w = W ∧ v = .bool (okR n) := by
  have key : Ret Try.prog 46 #[.int .i64 n] w fun v W => ∃ t, w = W ∧ VB t (okR n = true) ∧ v = .bool t := by
    refine Ret.of_vc tab_ok Try.func46 rfl Try.ntmps46 rfl (Nat.le_of_ble_eq_true rfl) Try.call46 ?_
    conv => whnf
    repeat' (intro t ht; cases t <;> simp only [VB] at ht <;> (conv => whnf))
    all_goals
      first
        | exact ⟨true, rfl, by simp only [VB, okR, decide_eq_true_eq]; omega, rfl⟩
        | exact ⟨false, rfl, by simp only [VB, okR, decide_eq_true_eq]; omega, rfl⟩
  refine key.mono ?_
  rintro v w' ⟨t, rfl, ht, rfl⟩
  exact ⟨rfl, by rw [vbool ht]; simp⟩
theorem fn49 (n : Int) (w : World) : Ret Try.prog 49 #[.int .i64 n] w fun v W => w = W ∧ v = .bool (okR n) := by
  have key : Ret Try.prog 49 #[.int .i64 n] w fun v W => ∃ t, w = W ∧ VB t (okR n = true) ∧ v = .bool t := by
    refine Ret.of_vc tab_ok Try.func49 rfl Try.ntmps49 rfl (Nat.le_of_ble_eq_true rfl) Try.call49 ?_
    conv => whnf
    repeat' (intro t ht; cases t <;> simp only [VB] at ht <;> (conv => whnf))
    all_goals
      first
        | exact ⟨true, rfl, by simp only [VB, okR, decide_eq_true_eq]; omega, rfl⟩
        | exact ⟨false, rfl, by simp only [VB, okR, decide_eq_true_eq]; omega, rfl⟩
  refine key.mono ?_
  rintro v w' ⟨t, rfl, ht, rfl⟩
  exact ⟨rfl, by rw [vbool ht]; simp⟩

def ckE (b : Bool) : Value := .int .i64 (if b then 0 else 1)
theorem fn29 (x : Idn) (w : World) : Ret Try.prog 29 #[kI x] w fun v W => Ext w W ∧ v = ckE (okI x) := by
  have key : Ret Try.prog 29 #[kI x] w fun v W => ∃ t, Ext w W ∧ VB t (okI x = true) ∧ v = ckE t := by
    refine Ret.of_vc tab_ok Try.func29 rfl Try.ntmps29 rfl (Nat.le_of_ble_eq_true rfl) Try.call29 ?_
    conv => whnf
    intro W hW
    conv => whnf
    repeat' (first
      | (intro t ht; cases t <;> simp only [VB] at ht <;> (conv => whnf))
      | (refine ⟨_, ld hW.at_ rfl rfl, ?_⟩; conv => whnf))
    all_goals
      first
        | exact ⟨true, hW.e, by simp only [VB, okI, decide_eq_true_eq]; omega, rfl⟩
        | exact ⟨false, hW.e, by simp only [VB, okI, decide_eq_true_eq]; omega, rfl⟩
  refine key.mono ?_
  rintro v w' ⟨t, he, ht, rfl⟩
  exact ⟨he, by rw [vbool ht]; simp⟩
theorem fn48 (x : Idn) (w : World) : Ret Try.prog 48 #[kI x] w fun v W => Ext w W ∧ v = ckE (okI x) := by
  have key : Ret Try.prog 48 #[kI x] w fun v W => ∃ t, Ext w W ∧ VB t (okI x = true) ∧ v = ckE t := by
    refine Ret.of_vc tab_ok Try.func48 rfl Try.ntmps48 rfl (Nat.le_of_ble_eq_true rfl) Try.call48 ?_
    conv => whnf
    intro W hW
    conv => whnf
    repeat' (first
      | (intro t ht; cases t <;> simp only [VB] at ht <;> (conv => whnf))
      | (refine ⟨_, ld hW.at_ rfl rfl, ?_⟩; conv => whnf))
    all_goals
      first
        | exact ⟨true, hW.e, by simp only [VB, okI, decide_eq_true_eq]; omega, rfl⟩
        | exact ⟨false, hW.e, by simp only [VB, okI, decide_eq_true_eq]; omega, rfl⟩
  refine key.mono ?_
  rintro v w' ⟨t, he, ht, rfl⟩
  exact ⟨he, by rw [vbool ht]; simp⟩
theorem fn66 (a b : Idn) (w : World) : Ret Try.prog 66 #[kI a, kI b] w fun v W => Ext w W ∧ v = .bool (lessI a b) := by
  have key : Ret Try.prog 66 #[kI a, kI b] w fun v W => ∃ t, Ext w W ∧ VB t (lessI a b = true) ∧ v = .bool t := by
    refine Ret.of_vc tab_ok Try.func66 rfl Try.ntmps66 rfl (Nat.le_of_ble_eq_true rfl) Try.call66 ?_
    conv => whnf
    intro W hW
    conv => whnf
    intro W2 hW2
    have h1 := hW2.e.at_ hW.at_
    have h2 := hW2.at_
    conv => whnf
    repeat' (first
      | (intro t ht; cases t <;> simp only [VB] at ht <;> (conv => whnf))
      | (refine ⟨_, ld h1 rfl rfl, ?_⟩; conv => whnf)
      | (refine ⟨_, ld h2 rfl rfl, ?_⟩; conv => whnf))
    all_goals
      first
        | exact ⟨true, hW.e.tr hW2.e, by simp only [VB, lessI, decide_eq_true_eq]; omega, rfl⟩
        | exact ⟨false, hW.e.tr hW2.e, by simp only [VB, lessI, decide_eq_true_eq]; omega, rfl⟩
  refine key.mono ?_
  rintro v w' ⟨t, he, ht, rfl⟩
  exact ⟨he, by rw [vbool ht]; simp⟩

theorem fn74 (n : Int) (w : World) : Ret Try.prog 74 #[.int .i64 n] w fun v W => w = W ∧ v = .bool false := by
  refine Ret.of_vc tab_ok Try.func74 rfl Try.ntmps74 rfl (Nat.le_of_ble_eq_true rfl) Try.call74 ?_
  conv => whnf
  intro t ht
  obtain rfl : t = false := ht.no (by simp)
  conv => whnf
  exact ⟨rfl, rfl⟩
def cmpN (a b : Int) : Int := if a < b then -1 else if a > b then 1 else 0
theorem fn68 (a b : Int) (w : World) : Ret Try.prog 68 #[.int .i64 a, .int .i64 b] w fun v W => w = W ∧ v = .int .i64 (cmpN a b) := by
  refine Ret.of_vc tab_ok Try.func68 rfl Try.ntmps68 rfl (Nat.le_of_ble_eq_true rfl) Try.call68 ?_
  conv => whnf
  refine (fn74 _ _).mono ?_
  rintro _ _ ⟨rfl, rfl⟩
  conv => whnf
  refine (fn74 _ _).mono ?_
  rintro _ _ ⟨rfl, rfl⟩
  conv => whnf
  intro t ht
  cases t <;> simp only [VB] at ht <;> (conv => whnf)
  · intro t ht2
    cases t <;> simp only [VB] at ht2 <;> (conv => whnf)
    · exact ⟨rfl, by rw [cmpN, if_neg ht, if_neg ht2]⟩
    · exact ⟨rfl, by rw [cmpN, if_neg ht, if_pos ht2]⟩
  · exact ⟨rfl, by rw [cmpN, if_pos ht]⟩
theorem two_ints {w : World} {b : Nat} {x y : Int} {e : Nat} (h : w.heap[b]? = some (.cells #[.int .i64 x, .int .i64 y] e)) : Ints w (some ⟨b, 0, none⟩) 2 [x, y] :=
  ⟨rfl, by decide, fun i u hu => ⟨_, rfl, by
    rw [add_plain_, cell_of_at h]
    match i, hu with
    | 0, hu => cases hu; rfl
    | 1, hu => cases hu; rfl⟩⟩
theorem slice47_2 (a b : Int) (w : World) : (Instr.buildSlice 47 2 #[(0, .int .i64 a), (1, .int .i64 b)]).run Try.prog w = .ok (.slice (some ⟨w.heap.size, 0, none⟩) 2 2) (w.alloc (.cells #[.int .i64 a, .int .i64 b] 3)) := by kernel_rfl
theorem build24 (a b : Int) (w : World) : (Instr.build 24 #[(0, .int .i64 a), (1, .int .i64 b)]).run Try.prog w = .ok (K2 a b) w := by kernel_rfl
theorem build24_0 (w : World) : (Instr.build 24 #[]).run Try.prog w = .ok (K2 0 0) w := by kernel_rfl
theorem keyLaw24 : KeyLaw Try.prog 24 (fun v => ∃ a b, v = K2 a b) := keyLaw_two Try.underlying24 (by kernel_rfl) Try.underlying3 Try.underlying3 (by kernel_rfl) (by kernel_rfl) rfl rfl
theorem fn67 {a b : Int} {A : Option Addr} (w : World) (h : Ints w A 2 [a, b]) : Ret Try.prog 67 #[.slice A 2 2] w fun v W => w = W ∧ v = .int .i64 (if a ≠ 0 then a else b) := by
  refine Ret.of_vc tab_ok Try.func67 rfl Try.ntmps67 rfl (Nat.le_of_ble_eq_true rfl) Try.call67 ?_
  conv => whnf
  have e1 : ∀ r : Int, r = IntKind.i64.wrap (0 + 1) → r = ((1 : Nat) : Int) := fun r h => h
  have e2 : ∀ r : Int, r = IntKind.i64.wrap (((1 : Nat) : Int) + 1) → r = ((2 : Nat) : Int) := fun r h => h
  refine VLoop.mk' tab_ok (X := Nat) (fun k => [(6, .slice A 2 2), (7, .int .i64 2), (8, .int .i64 k), (3, .int .i64 0)]) (fun k W => w = W ∧ k ≤ 2 ∧ (k ≥ 1 → a = 0) ∧ (k = 2 → b = 0)) (fun k _ => 2 - k) 0 ⟨rfl, rfl, rfl, rfl, trivial⟩ ⟨rfl, by omega, by omega, by omega⟩ ?_
  rintro k j _ ⟨rfl, h1, h2, h3⟩
  conv => whnf
  intro t ht
  cases t <;> simp only [VB] at ht <;> (conv => whnf)
  · obtain rfl : k = 2 := by omega
    refine ⟨rfl, ?_⟩
    rw [if_neg (by simp [h2 (by omega)]), h3 rfl]
  · obtain ⟨ad, rfl, hc⟩ := h.at_ (k := k) (by omega)
    refine ⟨by omega, by omega, ad, rfl, ?_⟩
    conv => whnf
    refine ⟨_, by simpa using hc, ?_⟩
    conv => whnf
    intro t ht2
    cases t <;> simp only [VB] at ht2 <;> (conv => whnf)
    · intro r hr
      obtain rfl : r = ((k + 1 : Nat) : Int) := by rw [hr, wrap_id (by omega) (by omega)]; rfl
      clear hr
      have hk : k = 0 ∨ k = 1 := by omega
      refine ⟨k + 1, ⟨rfl, rfl, rfl, rfl, trivial⟩, ⟨rfl, by omega, fun _ => ?_, fun hk2 => ?_⟩, by omega⟩
      · rcases hk with rfl | rfl
        · simpa using ht2
        · exact h2 (by omega)
      · obtain rfl : k = 1 := by omega
        simpa using ht2
    · refine ⟨rfl, ?_⟩
      have hk : k = 0 ∨ k = 1 := by omega
      rcases hk with rfl | rfl
      · have : a ≠ 0 := by simpa using ht2
        rw [if_pos this]; rfl
      · rw [if_neg (by simp [h2 (by omega)])]; rfl
def ordI (a b : Idn) : Int := if cmpN a.t b.t ≠ 0 then cmpN a.t b.t else cmpN a.s b.s
theorem fn56 (a b : Idn) (w : World) : Ret Try.prog 56 #[kI a, kI b] w fun v W => Ext w W ∧ v = .int .i64 (ordI a b) := by
  refine Ret.of_vc tab_ok Try.func56 rfl Try.ntmps56 rfl (Nat.le_of_ble_eq_true rfl) Try.call56 ?_
  conv => whnf
  intro W hW
  conv => whnf
  intro W2 hW2
  have h1 := hW2.e.at_ hW.at_
  have h2 := hW2.at_
  have hE := hW.e.tr hW2.e
  conv => whnf
  refine VDraw.mk' tab_ok (Ext W2) [9, 10, 11] (.take 0 <| .take 1 <| .take 2 <| .take 3 <| .take 5 <| .take 6 <| .take 7 <| .take 8 <| .one 4 <| .one 9 <| .one 10 <| .one 11 <| .take 12 <| .done) mixed (by kernel_rfl) (by kernel_rfl) (Ext.drew _) ?_
  have hd := Ext.drew W2
  generalize W2.drew = W3 at hd
  conv => whnf
  refine ⟨.int .i64 a.t, fun w' hs => hs.cell (ld h1 rfl rfl), ?_⟩
  conv => whnf
  refine ⟨.int .i64 b.t, fun w' hs => hs.cell (ld h2 rfl rfl), ?_⟩
  conv => whnf
  refine ⟨.int .i64 a.s, fun w' hs => hs.cell (ld h1 rfl rfl), ?_⟩
  conv => whnf
  refine ⟨.int .i64 b.s, fun w' hs => hs.cell (ld h2 rfl rfl), ?_⟩
  conv => whnf
  refine (fn68 _ _ _).mono ?_
  rintro _ _ ⟨rfl, rfl⟩
  refine ⟨hd, ?_⟩
  conv => whnf
  refine (fn68 _ _ _).mono ?_
  rintro _ _ ⟨rfl, rfl⟩
  conv => whnf
  refine Run.mk' _ _ (slice47_2 (cmpN a.t b.t) (cmpN a.s b.s) _) ?_
  have hW4 := New.mk' W3 (.cells #[.int .i64 (cmpN a.t b.t), .int .i64 (cmpN a.s b.s)] 3)
  generalize W3.alloc (.cells #[.int .i64 (cmpN a.t b.t), .int .i64 (cmpN a.s b.s)] 3) = W4 at hW4 ⊢
  have h3 := hW4.at_
  conv => whnf
  refine (fn67 W4 (a := cmpN a.t b.t) (b := cmpN a.s b.s) (two_ints h3)).mono ?_
  rintro _ _ ⟨rfl, rfl⟩
  conv => whnf
  exact ⟨hE.tr (hd.tr hW4.e), rfl⟩
theorem ordI_lt (a b : Idn) : ordI a b < 0 ↔ lessI a b = true := by
  unfold ordI lessI cmpN
  rw [decide_eq_true_eq]
  repeat' split
  all_goals omega
theorem fn31 (a b : Idn) (w : World) : Ret Try.prog 31 #[kI a, kI b] w fun v W => Ext w W ∧ v = .bool (lessI a b) := by
  refine Ret.of_vc tab_ok Try.func31 rfl Try.ntmps31 rfl (Nat.le_of_ble_eq_true rfl) Try.call31 ?_
  conv => whnf
  intro W hW
  conv => whnf
  intro W2 hW2
  have h1 := hW2.e.at_ hW.at_
  have h2 := hW2.at_
  have hE := hW.e.tr hW2.e
  conv => whnf
  refine ⟨cI a, rfl, lds h1 rfl rfl, ?_⟩
  conv => whnf
  refine ⟨cI b, rfl, lds h2 rfl rfl, ?_⟩
  conv => whnf
  refine (fn56 a b _).mono ?_
  rintro _ W3 ⟨he, rfl⟩
  conv => whnf
  intro t ht
  conv => whnf
  refine ⟨hE.tr he, ?_⟩
  rw [vbool ht]
  simp only [ordI_lt]
  simp
def grI (a b : Idn) : Int := if lessI b a then -1 else if lessI a b then 1 else 0
theorem fn43 (a b : Idn) (w : World) : Ret Try.prog 43 #[kI a, kI b] w fun v W => Ext w W ∧ v = .int .i64 (grI a b) := by
  refine Ret.of_vc tab_ok Try.func43 rfl Try.ntmps43 rfl (Nat.le_of_ble_eq_true rfl) Try.call43 ?_
  conv => whnf
  intro W hW
  conv => whnf
  intro W2 hW2
  have h1 := hW2.e.at_ hW.at_
  have h2 := hW2.at_
  have hE := hW.e.tr hW2.e
  conv => whnf
  refine ⟨cI b, rfl, lds h2 rfl rfl, ?_⟩
  conv => whnf
  refine ⟨cI a, rfl, lds h1 rfl rfl, ?_⟩
  conv => whnf
  refine (fn31 b a _).mono ?_
  rintro _ W3 ⟨he, rfl⟩
  replace h1 := he.at_ h1
  replace h2 := he.at_ h2
  replace hE := hE.tr he
  clear hW hW2 he
  conv => whnf
  unfold grI
  cases lessI b a <;> (conv => whnf)
  · refine ⟨cI a, rfl, lds h1 rfl rfl, ?_⟩
    conv => whnf
    refine ⟨cI b, rfl, lds h2 rfl rfl, ?_⟩
    conv => whnf
    refine (fn31 a b _).mono ?_
    rintro _ W4 ⟨he, rfl⟩
    conv => whnf
    cases lessI a b <;> (conv => whnf)
    · exact ⟨hE.tr he, rfl⟩
    · exact ⟨hE.tr he, rfl⟩
  · exact ⟨hE, rfl⟩
theorem fn30 (a b : Int) (w : World) : Ret Try.prog 30 #[.int .i64 a, .int .i64 b] w fun v W => Ext w W ∧ v = kI ⟨a, b⟩ := by
  refine Ret.of_vc tab_ok Try.func30 rfl Try.ntmps30 rfl (Nat.le_of_ble_eq_true rfl) Try.call30 ?_
  conv => whnf
  intro W hW
  conv => whnf
  refine Run.mk' _ _ (build24 a b _) ?_
  conv => whnf
  refine ⟨_, 0, _, _, rfl, hW.at_, Nat.le_of_ble_eq_true rfl, rfl, rfl, fun W2 hW2 => ?_⟩
  conv => whnf
  refine ⟨[.int .i64 a, .int .i64 b], rfl, lds hW2.at_ rfl rfl, ?_⟩
  exact ⟨hW2.e hW.e (Nat.le_refl _), rfl⟩
end Go.Proofs.Ytbkmbignincilaa
