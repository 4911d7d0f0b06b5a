/- The small functions: numbers, vectors. -/
import Derived.Test.YtgcelfplgfloaaaTab
import Derived.Test.YtgcelfplgfloaaaMem
namespace Go.Proofs.Ytgcelfplgfloaaa
open Go Go.VC
set_option linter.unusedVariables false
set_option linter.unusedSimpArgs false
set_option maxRecDepth 100000

def isClk (n : Int) : Bool := decide (0 ≤ n ∧ n ≤ 4294967295)
theorem fn63 (n : Int) (w : World) : Ret Try.prog 63 #[.int .i64 n] w fun v w' => w = w' ∧ v = .bool (isClk n) := by
  refine Ret.of_vc tab_ok Try.func63 rfl Try.ntmps63 rfl (Nat.le_of_ble_eq_true rfl) Try.call63 ?_
  conv => whnf
  intro t ht
  cases t
  · conv => whnf
    simp only [VB] at ht
    refine ⟨rfl, ?_⟩
    simp [isClk]; omega
  · conv => whnf
    intro t ht2
    conv => whnf
    refine ⟨rfl, ?_⟩
    rw [vbool ht2]
    simp only [VB] at ht
    simp [isClk]; omega

/-- What parts an op of a kind has. -/
theorem fn64 (n : Int) (w : World) : Ret Try.prog 64 #[.int .i64 n] w fun v w' => w = w' ∧ v = .tuple #[.bool (decide (n = 1 ∨ n = 6)), .bool (decide (n ≠ 6)), .bool (decide (n = 1))] := by
  refine Ret.of_vc tab_ok Try.func64 rfl Try.ntmps64 rfl (Nat.le_of_ble_eq_true rfl) Try.call64 ?_
  conv => whnf
  intro t ht
  cases t
  · conv => whnf
    intro t2 ht2
    conv => whnf
    intro t3 ht3
    conv => whnf
    intro t4 ht4
    conv => whnf
    rw [vbool ht2, vbool ht3, vbool ht4]
    simp only [VB] at ht
    refine ⟨rfl, ?_⟩
    simp [ht]
  · conv => whnf
    intro t3 ht3
    conv => whnf
    intro t4 ht4
    conv => whnf
    rw [vbool ht3, vbool ht4]
    simp only [VB] at ht
    refine ⟨rfl, ?_⟩
    simp [ht]

def minL : Int → List Int → Int
  | m, [] => m
  | m, x :: xs => minL (if x < m then x else m) xs
def maxL : Int → List Int → Int
  | m, [] => m
  | m, x :: xs => maxL (if m < x then x else m) xs
theorem minL_ge (b : Int) : ∀ (xs : List Int) (m : Int), b ≤ minL m xs ↔ b ≤ m ∧ ∀ x ∈ xs, b ≤ x := by
  intro xs
  induction xs with
  | nil => intro m; simp [minL]
  | cons x xs ih =>
    intro m
    simp only [minL, ih, List.forall_mem_cons]
    constructor
    · rintro ⟨h1, h2⟩; split at h1 <;> exact ⟨by omega, by omega, h2⟩
    · rintro ⟨h1, h2, h3⟩; split <;> exact ⟨by omega, h3⟩
theorem maxL_le (b : Int) : ∀ (xs : List Int) (m : Int), maxL m xs ≤ b ↔ m ≤ b ∧ ∀ x ∈ xs, x ≤ b := by
  intro xs
  induction xs with
  | nil => intro m; simp [maxL]
  | cons x xs ih =>
    intro m
    simp only [maxL, ih, List.forall_mem_cons]
    constructor
    · rintro ⟨h1, h2⟩; split at h1 <;> exact ⟨by omega, by omega, h2⟩
    · rintro ⟨h1, h2, h3⟩; split <;> exact ⟨by omega, h3⟩

theorem fn68 (w : World) (A : Option Addr) (n c : Nat) (x : Int) (xs : List Int) (h : Ints w A n (x :: xs)) :
    Ret Try.prog 68 #[.slice A n c] w fun v w' => w = w' ∧ v = .int .i64 (minL x xs) := by
  have hl := h.len
  have hm := h.small
  simp only [List.length_cons] at hl
  refine Ret.of_vc tab_ok Try.func68 rfl Try.ntmps68 rfl (Nat.le_of_ble_eq_true rfl) Try.call68 ?_
  conv => whnf
  intro t ht
  obtain rfl : t = false := ht.no (by omega)
  obtain ⟨a, rfl, hc0⟩ := h.at_ (k := 0) (by omega)
  conv => whnf
  refine ⟨by omega, by omega, a, rfl, ?_⟩
  conv => whnf
  refine ⟨_, hc0, ?_⟩
  conv => whnf
  refine VLoop.mk' tab_ok (X := Nat × Int) (fun p => [(0, .slice (some a) n c), (3, .int .i64 p.2), (4, .int .i64 p.1)])
    (fun p w' => w = w' ∧ 1 ≤ p.1 ∧ p.1 ≤ n ∧ minL p.2 (xs.drop (p.1 - 1)) = minL x xs) (fun p _ => n - p.1) (1, x) ⟨rfl, rfl, rfl, trivial⟩ ⟨rfl, by omega, by omega, rfl⟩ ?_
  rintro ⟨k, m⟩ j _ ⟨rfl, h1, h2, hm'⟩
  dsimp only at h1 h2 hm'
  conv => whnf
  intro t ht
  cases t
  · conv => whnf
    simp only [VB] at ht
    refine ⟨rfl, ?_⟩
    rw [← hm', List.drop_of_length_le (by omega)]
    rfl
  · simp only [VB] at ht
    obtain ⟨a', e, hck⟩ := h.at_ (k := k) (by omega)
    cases e
    conv => whnf
    refine ⟨by omega, ht, a, rfl, ?_⟩
    conv => whnf
    refine ⟨_, by simpa using hck, ?_⟩
    conv => whnf
    intro r hr
    conv => whnf
    intro r2 hr2
    have hr3 : r2 = ((k + 1 : Nat) : Int) := by rw [hr2]; exact wrap_nat (by omega) hm
    subst hr3
    conv => whnf
    refine ⟨(k + 1, r), ⟨rfl, rfl, rfl, trivial⟩, ⟨rfl, by dsimp only; omega, by dsimp only; omega, ?_⟩, by dsimp only; omega⟩
    dsimp only
    rw [← hm']
    have e1 : xs.drop (k - 1) = (x :: xs).getD k 0 :: xs.drop k := by
      obtain ⟨k', rfl⟩ : ∃ k', k = k' + 1 := ⟨k - 1, by omega⟩
      simp only [Nat.add_sub_cancel, List.getD_cons_succ]
      rw [List.drop_eq_getElem_cons (show k' < xs.length by omega)]
      simp [List.getElem?_eq_getElem (show k' < xs.length by omega)]
    rw [e1, hr]
    simp [minL]

theorem fn69 (w : World) (A : Option Addr) (n c : Nat) (x : Int) (xs : List Int) (h : Ints w A n (x :: xs)) :
    Ret Try.prog 69 #[.slice A n c] w fun v w' => w = w' ∧ v = .int .i64 (maxL x xs) := by
  have hl := h.len
  have hm := h.small
  simp only [List.length_cons] at hl
  refine Ret.of_vc tab_ok Try.func69 rfl Try.ntmps69 rfl (Nat.le_of_ble_eq_true rfl) Try.call69 ?_
  conv => whnf
  intro t ht
  obtain rfl : t = false := ht.no (by omega)
  obtain ⟨a, rfl, hc0⟩ := h.at_ (k := 0) (by omega)
  conv => whnf
  refine ⟨by omega, by omega, a, rfl, ?_⟩
  conv => whnf
  refine ⟨_, hc0, ?_⟩
  conv => whnf
  refine VLoop.mk' tab_ok (X := Nat × Int) (fun p => [(0, .slice (some a) n c), (3, .int .i64 p.2), (4, .int .i64 p.1)])
    (fun p w' => w = w' ∧ 1 ≤ p.1 ∧ p.1 ≤ n ∧ maxL p.2 (xs.drop (p.1 - 1)) = maxL x xs) (fun p _ => n - p.1) (1, x) ⟨rfl, rfl, rfl, trivial⟩ ⟨rfl, by omega, by omega, rfl⟩ ?_
  rintro ⟨k, m⟩ j _ ⟨rfl, h1, h2, hm'⟩
  dsimp only at h1 h2 hm'
  conv => whnf
  intro t ht
  cases t
  · conv => whnf
    simp only [VB] at ht
    refine ⟨rfl, ?_⟩
    rw [← hm', List.drop_of_length_le (by omega)]
    rfl
  · simp only [VB] at ht
    obtain ⟨a', e, hck⟩ := h.at_ (k := k) (by omega)
    cases e
    conv => whnf
    refine ⟨by omega, ht, a, rfl, ?_⟩
    conv => whnf
    refine ⟨_, by simpa using hck, ?_⟩
    conv => whnf
    intro r hr
    conv => whnf
    intro r2 hr2
    have hr3 : r2 = ((k + 1 : Nat) : Int) := by rw [hr2]; exact wrap_nat (by omega) hm
    subst hr3
    conv => whnf
    refine ⟨(k + 1, r), ⟨rfl, rfl, rfl, trivial⟩, ⟨rfl, by dsimp only; omega, by dsimp only; omega, ?_⟩, by dsimp only; omega⟩
    dsimp only
    rw [← hm']
    have e1 : xs.drop (k - 1) = (x :: xs).getD k 0 :: xs.drop k := by
      obtain ⟨k', rfl⟩ : ∃ k', k = k' + 1 := ⟨k - 1, by omega⟩
      simp only [Nat.add_sub_cancel, List.getD_cons_succ]
      rw [List.drop_eq_getElem_cons (show k' < xs.length by omega)]
      simp [List.getElem?_eq_getElem (show k' < xs.length by omega)]
    rw [e1, hr]
    simp [maxL]

/-- May it be a vector? -/
def vecOk (xs : List Int) : Bool := decide (1 ≤ xs.length ∧ xs.length ≤ 16 ∧ ∀ x ∈ xs, 0 ≤ x ∧ x ≤ 4294967295)
def errN (b : Bool) : Value := .int .i64 (if b then 0 else 1)

theorem fn42 (w : World) (A : Option Addr) (n c : Nat) (xs : List Int) (h : Ints w A n xs) :
    Ret Try.prog 42 #[.slice A n c] w fun v w' => w = w' ∧ v = errN (vecOk xs) := by
  have hl := h.len
  refine Ret.of_vc tab_ok Try.func42 rfl Try.ntmps42 rfl (Nat.le_of_ble_eq_true rfl) Try.call42 ?_
  conv => whnf
  intro t ht
  cases t
  case true =>
    simp only [VB] at ht
    conv => whnf
    refine ⟨rfl, ?_⟩
    have : vecOk xs = false := by simp [vecOk]; omega
    rw [this]; rfl
  simp only [VB] at ht
  conv => whnf
  intro t ht2
  cases t
  case true =>
    simp only [VB] at ht2
    conv => whnf
    refine ⟨rfl, ?_⟩
    have : vecOk xs = false := by simp [vecOk]; omega
    rw [this]; rfl
  simp only [VB] at ht2
  conv => whnf
  obtain ⟨x, xs, rfl⟩ : ∃ x ys, xs = x :: ys := by cases xs with | nil => simp at hl; omega | cons x ys => exact ⟨x, ys, rfl⟩
  refine (fn68 w A n c x xs h).mono ?_
  rintro _ _ ⟨rfl, rfl⟩
  conv => whnf
  intro t ht3
  cases t
  case true =>
    simp only [VB] at ht3
    conv => whnf
    refine ⟨rfl, ?_⟩
    have : vecOk (x :: xs) = false := by
      simp only [vecOk, decide_eq_false_iff_not]
      rintro ⟨_, _, h3⟩
      have := (minL_ge 0 xs x).2 ⟨(h3 x (by simp)).1, fun y hy => (h3 y (by simp [hy])).1⟩
      omega
    rw [this]; rfl
  simp only [VB] at ht3
  conv => whnf
  refine (fn69 w A n c x xs h).mono ?_
  rintro _ _ ⟨rfl, rfl⟩
  conv => whnf
  intro t ht4
  have hmn := (minL_ge 0 xs x).1 (by omega)
  cases t
  case true =>
    simp only [VB] at ht4
    conv => whnf
    refine ⟨rfl, ?_⟩
    have : vecOk (x :: xs) = false := by
      simp only [vecOk, decide_eq_false_iff_not]
      rintro ⟨_, _, h3⟩
      have := (maxL_le 4294967295 xs x).2 ⟨(h3 x (by simp)).2, fun y hy => (h3 y (by simp [hy])).2⟩
      omega
    rw [this]; rfl
  simp only [VB] at ht4
  conv => whnf
  refine ⟨rfl, ?_⟩
  have hmx := (maxL_le 4294967295 xs x).1 (by omega)
  have : vecOk (x :: xs) = true := by
    simp only [vecOk, decide_eq_true_eq]
    refine ⟨by omega, by omega, fun y hy => ?_⟩
    rcases List.mem_cons.1 hy with rfl | hy
    · exact ⟨hmn.1, hmx.1⟩
    · exact ⟨hmn.2 y hy, hmx.2 y hy⟩
  rw [this]; rfl
end Go.Proofs.Ytgcelfplgfloaaa
