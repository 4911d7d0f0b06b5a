/- Vectors; a slice that is copied; what is to be asked for. -/
import Derived.Test.YtgcelfplgfloaaaA3
namespace Go.Proofs.Ytgcelfplgfloaaa
open Go Go.VC
set_option linter.unusedVariables false
set_option linter.unusedSimpArgs false
set_option maxRecDepth 100000

theorem inf3 : (Try.prog.info? 3).map (fun i => (i.zero, i.size, i.bytes)) = some (some (.int .i64 0), 1, 8) := by kernel_rfl
theorem inf32 : (Try.prog.info? 32).map (fun i => (i.zero, i.size, i.bytes)) = some (some (.agg #[.int .i64 0, .int .i64 0]), 2, 16) := by kernel_rfl

theorem slice22_0 (w : World) : (Instr.buildSlice 22 0 #[]).run Try.prog w = .ok (.slice (some ⟨w.heap.size, 0, none⟩) 0 0) (w.alloc (.cells #[] 3)) := by kernel_rfl

/-- slices.Clone of whole numbers. -/
theorem fn61 (w : World) (A : Option Addr) (n c : Nat) (xs : List Int) (h : Ints w A n xs) (hn : n * 8 ≤ 140737488355328) :
    Ret Try.prog 61 #[.slice A n c] w fun v w' => ∃ A' c', v = .slice A' n c' ∧ Ext w w' ∧ w'.ownsRow w.heap.size 3 1 v n (ints xs) ∧ (A = none → n = 0 → A' = none) := by
  refine Ret.of_vc tab_ok Try.func61 rfl Try.ntmps61 rfl (Nat.le_of_ble_eq_true rfl) Try.call61 ?_
  cases A with
  | none =>
    conv => whnf
    have hxs : xs = [] := by
      cases xs with
      | nil => rfl
      | cons x xs => obtain ⟨a, e, _⟩ := h.get 0 x rfl; cases e
    subst hxs
    have := h.len
    simp at this
    subst this
    exact ⟨none, 0, rfl, Ext.refl _, own_nil_ _ _ _ _, fun _ _ => rfl⟩
  | some a =>
    conv => whnf
    refine Run.mk' _ _ (slice22_0 w) ?_
    conv => whnf
    have he := Ext.alloc w (.cells #[] 3)
    have hown : (w.alloc (.cells #[] 3)).ownsRow w.heap.size 3 1 (.slice (some ⟨w.heap.size, 0, none⟩) 0 0) 0 [] := own_new w 3 1 0 [] rfl (by decide)
    generalize w.alloc (.cells #[] 3) = W at he hown
    refine run_append inf3 Try.underlying22 rfl (by decide) hown (h.ext he).rd (one_ints xs) (by simp only [maxLen]; omega) (by omega) he.le ?_
    intro v w' hown' hg hat
    conv => whnf
    obtain ⟨A', c', rfl⟩ := own_form hown'
    simp only [Nat.zero_add, List.nil_append] at hown' ⊢
    exact ⟨A', c', rfl, ext_row he hg hown (Nat.le_refl _), hown', fun e => by cases e⟩

/-- vec.Covers. -/
def covers (xs : List Int) (s q : Int) : Bool := vecOk xs && decide (0 ≤ s ∧ s < xs.length ∧ 0 < q ∧ q ≤ xs.getD s.toNat 0)
theorem errN_ok (b : Bool) : errN b = .int .i64 0 ↔ b = true := by cases b <;> simp [errN]
theorem fn43 (w : World) (A : Option Addr) (n c : Nat) (xs : List Int) (s q : Int) (h : Ints w A n xs) :
    Ret Try.prog 43 #[.slice A n c, .int .i64 s, .int .i64 q] w fun v w' => w = w' ∧ v = .bool (covers xs s q) := by
  have hl := h.len
  refine Ret.of_vc tab_ok Try.func43 rfl Try.ntmps43 rfl (Nat.le_of_ble_eq_true rfl) Try.call43 ?_
  conv => whnf
  refine (fn42 w A n c xs h).mono ?_
  rintro _ _ ⟨rfl, rfl⟩
  unfold errN
  cases hv : vecOk xs
  · conv => whnf
    intro t ht
    obtain rfl : t = false := ht.no (by decide)
    conv => whnf
    exact ⟨rfl, by simp [covers, hv]⟩
  conv => whnf
  intro t ht
  obtain rfl : t = true := ht.yes (by decide)
  conv => whnf
  intro t ht1
  cases t <;> simp only [VB] at ht1 <;> (conv => whnf)
  · exact ⟨rfl, by congr 1; symm; simp [covers, hv]; omega⟩
  intro t ht2
  cases t <;> simp only [VB] at ht2 <;> (conv => whnf)
  · exact ⟨rfl, by congr 1; symm; simp [covers, hv]; omega⟩
  intro t ht3
  cases t <;> simp only [VB] at ht3 <;> (conv => whnf)
  · exact ⟨rfl, by congr 1; symm; simp [covers, hv]; omega⟩
  obtain ⟨a, rfl, hk⟩ := h.at_ (k := s.toNat) (by omega)
  refine ⟨by omega, by omega, a, rfl, ?_⟩
  conv => whnf
  refine ⟨.int .i64 (xs.getD s.toNat 0), by simpa using hk, ?_⟩
  conv => whnf
  intro t ht4
  conv => whnf
  refine ⟨rfl, ?_⟩
  congr 1
  cases t <;> simp only [VB] at ht4 <;> symm
  · simp only [covers, hv, Bool.true_and, decide_eq_false_iff_not]; omega
  · simp only [covers, hv, Bool.true_and, decide_eq_true_eq]; omega

/-- vec.goes: do two go together? -/
def goes (xs ys : List Int) : Bool := decide (xs.length = ys.length) && vecOk xs && vecOk ys
theorem fn57 (w : World) (A B : Option Addr) (n c m d : Nat) (xs ys : List Int) (h : Ints w A n xs) (h' : Ints w B m ys) :
    Ret Try.prog 57 #[.slice A n c, .slice B m d] w fun v w' => w = w' ∧ v = .bool (goes xs ys) := by
  have hl := h.len
  have hl' := h'.len
  refine Ret.of_vc tab_ok Try.func57 rfl Try.ntmps57 rfl (Nat.le_of_ble_eq_true rfl) Try.call57 ?_
  conv => whnf
  intro t ht
  cases t <;> simp only [VB] at ht <;> (conv => whnf)
  · exact ⟨rfl, by congr 1; symm; simp only [goes, Bool.and_eq_false_iff, decide_eq_false_iff_not]; omega⟩
  have he : xs.length = ys.length := by omega
  refine (fn42 w A n c xs h).mono ?_
  rintro _ _ ⟨rfl, rfl⟩
  unfold errN
  cases hv : vecOk xs
  · conv => whnf
    intro t ht
    obtain rfl : t = false := ht.no (by decide)
    conv => whnf
    exact ⟨rfl, by simp [goes, hv]⟩
  conv => whnf
  intro t ht
  obtain rfl : t = true := ht.yes (by decide)
  conv => whnf
  refine (fn42 w B m d ys h').mono ?_
  rintro _ _ ⟨rfl, rfl⟩
  unfold errN
  cases hv' : vecOk ys
  · conv => whnf
    intro t ht
    obtain rfl : t = false := ht.no (by decide)
    conv => whnf
    exact ⟨rfl, by simp [goes, hv, hv']⟩
  conv => whnf
  intro t ht
  obtain rfl : t = true := ht.yes (by decide)
  conv => whnf
  exact ⟨rfl, by simp [goes, hv, hv', he]⟩

/-- vec.Compare: what is told beside the error is not used here. -/
theorem fn36 (w : World) (A B : Option Addr) (n c m d : Nat) (xs ys : List Int) (h : Ints w A n xs) (h' : Ints w B m ys) :
    Ret Try.prog 36 #[.slice A n c, .slice B m d] w fun v w' => w = w' ∧ ∃ k, v = .tuple #[.int .i64 k, errN (goes xs ys)] := by
  have hl := h.len
  have hl' := h'.len
  have hm := h.small
  refine Ret.of_vc tab_ok Try.func36 rfl Try.ntmps36 rfl (Nat.le_of_ble_eq_true rfl) Try.call36 ?_
  conv => whnf
  refine (fn57 w A B n c m d xs ys h h').mono ?_
  rintro _ _ ⟨rfl, rfl⟩
  cases hg : goes xs ys <;> (conv => whnf)
  · exact ⟨rfl, 0, rfl⟩
  have he : n = m := by simp [goes] at hg; omega
  subst he
  refine VLoop.mk' tab_ok (X := Nat × Int) (fun p => [(0, .slice A n c), (1, .slice B n d), (13, .slice A n c), (14, .int .i64 n), (15, .int .i64 p.1), (6, .int .i64 p.2)])
    (fun p w' => w = w' ∧ p.1 ≤ n) (fun p _ => n - p.1) (0, 0) ⟨rfl, rfl, rfl, rfl, rfl, rfl, trivial⟩ ⟨rfl, by omega⟩ ?_
  rintro ⟨k, kd⟩ j _ ⟨rfl, h1⟩
  dsimp only at h1
  conv => whnf
  intro t ht
  cases t <;> simp only [VB] at ht <;> (conv => whnf)
  · exact ⟨rfl, kd, rfl⟩
  obtain ⟨a, rfl, hk⟩ := h.at_ (k := k) (by omega)
  obtain ⟨b, rfl, hk'⟩ := h'.at_ (k := k) (by omega)
  refine ⟨by omega, ht, a, rfl, ?_⟩
  conv => whnf
  refine ⟨.int .i64 (xs.getD k 0), by simpa using hk, ?_⟩
  conv => whnf
  refine ⟨by omega, ht, b, rfl, ?_⟩
  conv => whnf
  refine ⟨.int .i64 (ys.getD k 0), by simpa using hk', ?_⟩
  conv => whnf
  intro t hx
  cases t <;> (conv => whnf)
  · refine ⟨by omega, ht, b, rfl, ?_⟩
    conv => whnf
    refine ⟨.int .i64 (ys.getD k 0), by simpa using hk', ?_⟩
    conv => whnf
    intro t hx2
    cases t <;> (conv => whnf)
    · intro r hr
      have hr3 : r = ((k + 1 : Nat) : Int) := by rw [hr]; exact wrap_nat (by omega) hm
      subst hr3
      conv => whnf
      exact ⟨(k + 1, kd), ⟨rfl, rfl, rfl, rfl, rfl, rfl, trivial⟩, ⟨rfl, by dsimp only; omega⟩, by dsimp only; omega⟩
    · intro r2 hr2
      conv => whnf
      intro r hr
      have hr3 : r = ((k + 1 : Nat) : Int) := by rw [hr]; exact wrap_nat (by omega) hm
      subst hr3
      conv => whnf
      exact ⟨(k + 1, r2), ⟨rfl, rfl, rfl, rfl, rfl, rfl, trivial⟩, ⟨rfl, by dsimp only; omega⟩, by dsimp only; omega⟩
  · intro r2 hr2
    conv => whnf
    intro r hr
    have hr3 : r = ((k + 1 : Nat) : Int) := by rw [hr]; exact wrap_nat (by omega) hm
    subst hr3
    conv => whnf
    exact ⟨(k + 1, r2), ⟨rfl, rfl, rfl, rfl, rfl, rfl, trivial⟩, ⟨rfl, by dsimp only; omega⟩, by dsimp only; omega⟩
end Go.Proofs.Ytgcelfplgfloaaa
