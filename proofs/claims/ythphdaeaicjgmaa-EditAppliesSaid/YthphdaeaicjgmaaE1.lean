/- Small functions: Same, Clone, held, letters, runes. -/
import Derived.Test.YthphdaeaicjgmaaTab
import Derived.Test.YthphdaeaicjgmaaMaps
namespace Go.Proofs.Ythphdaeaicjgmaa
open Go Go.VC Go.RowKit
set_option linter.unusedVariables false
set_option linter.unusedSimpArgs false
set_option maxRecDepth 100000

theorem mixed : Try.prog.follows .mixedOrders = true := by kernel_rfl
theorem vb_eq {t : Bool} {p : Prop} [Decidable p] (h : t = decide p) : VB t p := by subst h; exact VB.mk p
theorem vb_neq {t : Bool} {p : Prop} [Decidable p] (h : t = !decide p) : VB t (¬ p) := by
  subst h
  by_cases hp : p <;> simp [VB, hp]
theorem inf3 : (Try.prog.info? 3).map (fun i => (i.zero, i.size, i.bytes)) = some (some (.int .i64 0), 1, 8) := by kernel_rfl
/-- duetref01.Same. -/
theorem fn21 (w : World) (A B : Option Addr) (n c m d : Nat) (xs ys : List Int) (h : Ints w A n xs) (h' : Ints w B m ys) :
    Ret Try.prog 21 #[.slice A n c, .slice B m d] w fun v W => Ext w W ∧ v = .bool (decide (xs = ys)) := by
  have hl := h.len
  have hl' := h'.len
  have hm := h.small
  refine Ret.of_vc tab_ok Try.func21 rfl Try.ntmps21 rfl (Nat.le_of_ble_eq_true rfl) Try.call21 ?_
  conv => whnf
  intro t ht
  cases t <;> simp only [VB] at ht <;> (conv => whnf)
  case true =>
    refine ⟨Ext.refl _, ?_⟩
    congr 1; symm
    simp only [decide_eq_false_iff_not]
    rintro rfl
    omega
  refine VLoop.mk' tab_ok (X := Nat) (fun k => [(0, .slice A n c), (1, .slice B m d), (5, .int .i64 k)])
    (fun k W => Ext w W ∧ k ≤ n ∧ ∀ i, i < k → xs.getD i 0 = ys.getD i 0) (fun k _ => n - k) 0 ⟨rfl, rfl, rfl, trivial⟩ ⟨Ext.refl _, by omega, fun i hi => by omega⟩ ?_
  rintro k j W ⟨he, h1, h2⟩
  conv => whnf
  intro t ht1
  cases t <;> simp only [VB] at ht1 <;> (conv => whnf)
  · refine ⟨he, ?_⟩
    congr 1; symm
    simp only [decide_eq_true_eq]
    apply List.ext_getElem (by omega)
    intro i hi hi'
    have := h2 i (by omega)
    simpa [List.getElem?_eq_getElem hi, List.getElem?_eq_getElem hi'] using this
  obtain ⟨a, rfl, hck⟩ := (h.ext he).at_ (k := k) (by omega)
  obtain ⟨b, rfl, hck'⟩ := (h'.ext he).at_ (k := k) (by omega)
  refine VDraw.mk' tab_ok (Ext W) [] (.take 0 <| .take 1 <| .take 2 <| .take 3 <| .take 4 <| .take 5 <| .take 6 <| .take 7 <| .take 8 <| .done) mixed (by kernel_rfl) (by kernel_rfl) (Ext.drew _) ?_
  conv => whnf
  refine ⟨by omega, ht1, a, rfl, ?_⟩
  conv => whnf
  refine ⟨.int .i64 (xs.getD k 0), fun w' hs => hs.cell (by simpa using hck), ?_⟩
  conv => whnf
  refine ⟨by omega, by omega, b, rfl, ?_⟩
  conv => whnf
  refine ⟨.int .i64 (ys.getD k 0), fun w' hs => hs.cell (by simpa using hck'), ?_⟩
  conv => whnf
  intro t ht2
  cases t <;> simp only [VB] at ht2 <;> (conv => whnf)
  · intro r hr
    have hr3 : r = ((k + 1 : Nat) : Int) := by rw [hr]; exact wrap_nat (n := n) (by omega) hm
    subst hr3
    conv => whnf
    refine ⟨k + 1, ⟨rfl, rfl, rfl, trivial⟩, ⟨he.then_drew, by omega, fun i hi => ?_⟩, by omega⟩
    by_cases e : i = k
    · subst e; exact Classical.not_not.1 ht2
    · exact h2 i (by omega)
  · refine ⟨he.then_drew, ?_⟩
    congr 1; symm
    simp only [decide_eq_false_iff_not]
    rintro rfl
    exact ht2 rfl

theorem slice22_0 (w : World) : (Instr.buildSlice 22 0 #[]).run Try.prog w = .ok (.slice (some ⟨w.heap.size, 0, none⟩) 0 0) (w.alloc (.cells #[] 3)) := by kernel_rfl

/-- slices.Clone of whole numbers. -/
theorem fn25 (w : World) (A : Option Addr) (n c : Nat) (xs : List Int) (h : Ints w A n xs) (hn : n * 8 ≤ 140737488355328) :
    Ret Try.prog 25 #[.slice A n c] w fun v w' => ∃ A' c', v = .slice A' n c' ∧ Ext w w' ∧ w'.ownsRow w.heap.size 3 1 v n (ints xs) ∧ (A = none → n = 0 → A' = none) := by
  refine Ret.of_vc tab_ok Try.func25 rfl Try.ntmps25 rfl (Nat.le_of_ble_eq_true rfl) Try.call25 ?_
  cases A with
  | none =>
    conv => whnf
    have hxs : xs = [] := by
      cases xs with
      | nil => rfl
      | cons x xs => obtain ⟨a, e, _⟩ := h.get 0 x rfl; cases e
    subst hxs
    have := h.len
    simp at this
    subst this
    exact ⟨none, 0, rfl, Ext.refl _, own_nil_ _ _ _ _, fun _ _ => rfl⟩
  | some a =>
    conv => whnf
    refine Run.mk' _ _ (slice22_0 w) ?_
    conv => whnf
    have he := Ext.alloc w (.cells #[] 3)
    have hown : (w.alloc (.cells #[] 3)).ownsRow w.heap.size 3 1 (.slice (some ⟨w.heap.size, 0, none⟩) 0 0) 0 [] := own_new w 3 1 0 [] rfl (by decide)
    generalize w.alloc (.cells #[] 3) = W at he hown
    refine run_append inf3 Try.underlying22 rfl (by decide) hown (h.ext he).rd (one_ints xs) (by simp only [maxLen]; omega) (by omega) he.le ?_
    intro v w' hown' hg hat
    conv => whnf
    obtain ⟨A', c', rfl⟩ := own_form hown'
    simp only [Nat.zero_add, List.nil_append] at hown' ⊢
    exact ⟨A', c', rfl, ext_row he hg hown (Nat.le_refl _), hown', fun e => by cases e⟩

def runeOk (n : Int) : Bool := decide (32 ≤ n ∧ n ≤ 1114111 ∧ ¬ (127 ≤ n ∧ n ≤ 159) ∧ ¬ (55296 ≤ n ∧ n ≤ 57343))
theorem fn40 (n : Int) (w : World) : Ret Try.prog 40 #[.int .i64 n] w fun v w' => w = w' ∧ v = .bool (runeOk n) := by
  refine Ret.of_vc tab_ok Try.func40 rfl Try.ntmps40 rfl (Nat.le_of_ble_eq_true rfl) Try.call40 ?_
  conv => whnf
  repeat' (first
    | (intro t ht; cases t <;> simp only [VB] at ht <;> (conv => whnf))
    | (intro r hr; conv => whnf))
  all_goals
    refine ⟨rfl, ?_⟩
    congr 1
    first
      | (symm; simp only [runeOk, decide_eq_true_eq]; omega)
      | (symm; simp only [runeOk, decide_eq_false_iff_not]; omega)

theorem fn57 (n : Int) (w : World) : Ret Try.prog 57 #[.int .i64 n] w fun v w' => w = w' ∧ v = .bool (runeOk n) := by
  have key : Ret Try.prog 57 #[.int .i64 n] w fun v w' => ∃ t, w = w' ∧ VB t (runeOk n = true) ∧ v = .bool t := by
    refine Ret.of_vc tab_ok Try.func57 rfl Try.ntmps57 rfl (Nat.le_of_ble_eq_true rfl) Try.call57 ?_
    conv => whnf
    repeat' (first
      | (intro t ht; cases t <;> simp only [VB] at ht <;> (conv => whnf))
      | (intro r hr; conv => whnf))
    all_goals
      first
        | exact ⟨true, rfl, by simp only [VB, runeOk, decide_eq_true_eq]; omega, rfl⟩
        | exact ⟨false, rfl, by simp only [VB, runeOk, decide_eq_true_eq]; omega, rfl⟩
  refine key.mono ?_
  rintro v w' ⟨t, rfl, ht, rfl⟩
  refine ⟨rfl, ?_⟩
  cases t <;> simp only [VB] at ht
  · rw [Bool.not_eq_true] at ht; rw [ht]
  · rw [ht]

/-- A caret, as it is held to be. -/
def heldV (n : Nat) (a : Int) : Nat := (min (max a 0) (n : Int)).toNat
theorem fn26 (A : Option Addr) (n c : Nat) (a : Int) (w : World) : Ret Try.prog 26 #[.slice A n c, .int .i64 a] w fun v w' => w = w' ∧ v = .int .i64 (heldV n a) := by
  refine Ret.of_vc tab_ok Try.func26 rfl Try.ntmps26 rfl (Nat.le_of_ble_eq_true rfl) Try.call26 ?_
  conv => whnf
  intro r1 h1
  conv => whnf
  intro r2 h2
  conv => whnf
  refine ⟨rfl, ?_⟩
  congr 1
  subst h2 h1
  simp only [heldV]
  split <;> split <;> omega
theorem fn29 (A : Option Addr) (n c : Nat) (a : Int) (w : World) : Ret Try.prog 29 #[.slice A n c, .int .i64 a] w fun v w' => w = w' ∧ v = .int .i64 (heldV n a) := by
  refine Ret.of_vc tab_ok Try.func29 rfl Try.ntmps29 rfl (Nat.le_of_ble_eq_true rfl) Try.call29 ?_
  conv => whnf
  intro r1 h1
  conv => whnf
  intro r2 h2
  conv => whnf
  refine ⟨rfl, ?_⟩
  congr 1
  subst h2 h1
  simp only [heldV]
  split <;> split <;> omega

def letterV (c : Int) : Bool := decide ((48 ≤ c ∧ c ≤ 57) ∨ (97 ≤ c ∧ c ≤ 122) ∨ (65 ≤ c ∧ c ≤ 90) ∨ c = 95 ∨ 127 < c)
theorem fn39 (c : Int) (w : World) : Ret Try.prog 39 #[.int .i64 c] w fun v w' => w = w' ∧ v = .bool (letterV c) := by
  refine Ret.of_vc tab_ok Try.func39 rfl Try.ntmps39 rfl (Nat.le_of_ble_eq_true rfl) Try.call39 ?_
  conv => whnf
  repeat' (first
    | (intro t ht; cases t <;> simp only [VB] at ht <;> (conv => whnf))
    | (intro r hr; conv => whnf))
  all_goals
    refine ⟨rfl, ?_⟩
    congr 1
    first
      | (symm; simp only [letterV, decide_eq_true_eq]; omega)
      | (symm; simp only [letterV, decide_eq_false_iff_not]; omega)
end Go.Proofs.Ythphdaeaicjgmaa
