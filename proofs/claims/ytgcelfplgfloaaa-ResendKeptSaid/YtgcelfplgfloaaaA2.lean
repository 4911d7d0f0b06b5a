/- Messages: what may be one. -/
import Derived.Test.YtgcelfplgfloaaaA1
namespace Go.Proofs.Ytgcelfplgfloaaa
open Go Go.VC
set_option linter.unusedVariables false
set_option linter.unusedSimpArgs false
set_option maxRecDepth 100000

def runeOk (n : Int) : Bool := decide (32 ≤ n ∧ n ≤ 1114111 ∧ ¬ (127 ≤ n ∧ n ≤ 159) ∧ ¬ (55296 ≤ n ∧ n ≤ 57343))
theorem fn67 (n : Int) (w : World) : Ret Try.prog 67 #[.int .i64 n] w fun v w' => w = w' ∧ v = .bool (runeOk n) := by
  refine Ret.of_vc tab_ok Try.func67 rfl Try.ntmps67 rfl (Nat.le_of_ble_eq_true rfl) Try.call67 ?_
  conv => whnf
  repeat' (first
    | (intro t ht; cases t <;> simp only [VB] at ht <;> (conv => whnf))
    | (intro r hr; conv => whnf))
  all_goals
    refine ⟨rfl, ?_⟩
    congr 1
    first
      | (symm; simp only [runeOk, decide_eq_true_eq]; omega)
      | (symm; simp only [runeOk, decide_eq_false_iff_not]; omega)

/-- May an Id be, among n sites? -/
def mayId (t s : Int) (n : Int) : Bool := decide (1 ≤ t ∧ t ≤ 4294967295 ∧ 0 ≤ s ∧ s < n)

theorem fn62 (t s n : Int) (b off : Nat) (cs : Array Value) (e : Nat) (w : World) (hb : w.heap[b]? = some (.cells cs e (0, 0))) (hn : cs[off]? = some (.int .i64 n)) :
    Ret Try.prog 62 #[.agg #[.int .i64 t, .int .i64 s], .pointer (some ⟨b, off, none⟩)] w fun v w' => Ext w w' ∧ v = .bool (mayId t s n) := by
  refine Ret.of_vc tab_ok Try.func62 rfl Try.ntmps62 rfl (Nat.le_of_ble_eq_true rfl) Try.call62 ?_
  conv => whnf
  intro W hW
  have h2 := hW.at_
  have hb' := hW.e.at_ hb
  conv => whnf
  refine ⟨_, ld h2 rfl rfl, ?_⟩
  conv => whnf
  intro t1 ht1
  cases t1 <;> simp only [VB] at ht1 <;> (conv => whnf)
  · refine ⟨hW.e, ?_⟩
    congr 1; symm; simp only [mayId, decide_eq_false_iff_not]; omega
  refine ⟨_, ld h2 rfl rfl, ?_⟩
  conv => whnf
  refine (fn63 _ _).mono ?_
  rintro _ _ ⟨rfl, rfl⟩
  conv => whnf
  cases hc : isClk t <;> (conv => whnf)
  · refine ⟨hW.e, ?_⟩
    simp only [isClk, decide_eq_false_iff_not] at hc
    congr 1; symm; simp only [mayId, decide_eq_false_iff_not]; omega
  simp only [isClk, decide_eq_true_eq] at hc
  refine ⟨_, ld h2 rfl rfl, ?_⟩
  conv => whnf
  intro t2 ht2
  cases t2 <;> simp only [VB] at ht2 <;> (conv => whnf)
  · refine ⟨hW.e, ?_⟩
    congr 1; symm; simp only [mayId, decide_eq_false_iff_not]; omega
  refine ⟨_, ld h2 rfl rfl, ?_⟩
  conv => whnf
  refine ⟨_, ld hb' rfl hn, ?_⟩
  conv => whnf
  intro t3 ht3
  conv => whnf
  refine ⟨hW.e, ?_⟩
  congr 1
  cases t3 <;> simp only [VB] at ht3 <;> symm
  · simp only [mayId, decide_eq_false_iff_not]; omega
  · simp only [mayId, decide_eq_true_eq]; omega

theorem fn66 (n : Int) (w : World) : Ret Try.prog 66 #[.int .i64 n] w fun v w' => w = w' ∧ v = .bool (!isClk n) := by
  refine Ret.of_vc tab_ok Try.func66 rfl Try.ntmps66 rfl (Nat.le_of_ble_eq_true rfl) Try.call66 ?_
  conv => whnf
  refine (fn63 _ _).mono ?_
  rintro _ _ ⟨rfl, rfl⟩
  conv => whnf
  exact ⟨rfl, rfl⟩

/-- IndexFunc, the function telling p of a number and changing nothing. -/
theorem fn76 (p : Int → Bool) (f : Nat) (w : World) (hf : ∀ n, Ret Try.prog f #[.int .i64 n] w fun v w' => w = w' ∧ v = .bool (p n)) (A : Option Addr) (n c : Nat) (xs : List Int) (h : Ints w A n xs) :
    Ret Try.prog 76 #[.slice A n c, .func (.func f) #[] #[]] w fun v w' => w = w' ∧ v = .int .i64 (match xs.findIdx? p with | some i => (i : Int) | none => -1) := by
  have hl := h.len
  have hm := h.small
  refine Ret.of_vc tab_ok Try.func76 rfl Try.ntmps76 rfl (Nat.le_of_ble_eq_true rfl) Try.call76 ?_
  conv => whnf
  refine VLoop.mk' tab_ok (X := Nat) (fun k => [(0, .slice A n c), (1, .func (.func f) #[] #[]), (7, .int .i64 n), (8, .int .i64 k)])
    (fun k w' => w = w' ∧ k ≤ n ∧ ∀ i x, i < k → xs[i]? = some x → p x = false) (fun k _ => n - k) 0 ⟨rfl, rfl, rfl, rfl, trivial⟩ ⟨rfl, by omega, fun i x hi => by omega⟩ ?_
  rintro k j _ ⟨rfl, h1, h2⟩
  conv => whnf
  intro t ht
  cases t <;> simp only [VB] at ht <;> (conv => whnf)
  · refine ⟨rfl, ?_⟩
    have : xs.findIdx? p = none := by
      rw [List.findIdx?_eq_none_iff]
      intro x hx
      obtain ⟨i, hi, rfl⟩ := List.getElem_of_mem hx
      exact h2 i _ (by omega) (List.getElem?_eq_getElem hi)
    rw [this]
  obtain ⟨a, rfl, hck⟩ := h.at_ (k := k) (by omega)
  refine ⟨by omega, ht, a, rfl, ?_⟩
  conv => whnf
  refine ⟨.int .i64 (xs.getD k 0), by simpa using hck, ?_⟩
  conv => whnf
  refine (hf _).mono ?_
  rintro _ _ ⟨rfl, rfl⟩
  conv => whnf
  have hk : k < xs.length := by omega
  have hget : xs[k]? = some (xs.getD k 0) := by simp [List.getElem?_eq_getElem hk]
  cases hp : p (xs.getD k 0) <;> (conv => whnf)
  · intro r hr
    have hr3 : r = ((k + 1 : Nat) : Int) := by rw [hr]; exact wrap_nat (by omega) hm
    subst hr3
    conv => whnf
    refine ⟨k + 1, ⟨rfl, rfl, rfl, rfl, trivial⟩, ⟨rfl, by omega, fun i x hi hx => ?_⟩, by omega⟩
    by_cases e : i = k
    · subst e
      rw [hget] at hx
      cases hx
      exact hp
    · exact h2 i x (by omega) hx
  · refine ⟨rfl, ?_⟩
    have : xs.findIdx? p = some k := by
      rw [List.findIdx?_eq_some_iff_getElem]
      refine ⟨hk, ?_, fun i hi => ?_⟩
      · have : xs[k] = xs.getD k 0 := by simp [List.getElem?_eq_getElem hk]
        rw [this]; exact hp
      · rw [h2 i _ hi (List.getElem?_eq_getElem (by omega))]; simp
    rw [this]

theorem fn65 (p : Int → Bool) (f : Nat) (w : World) (hf : ∀ n, Ret Try.prog f #[.int .i64 n] w fun v w' => w = w' ∧ v = .bool (p n)) (A : Option Addr) (n c : Nat) (xs : List Int) (h : Ints w A n xs) :
    Ret Try.prog 65 #[.slice A n c, .func (.func f) #[] #[]] w fun v w' => w = w' ∧ v = .bool (xs.any p) := by
  refine Ret.of_vc tab_ok Try.func65 rfl Try.ntmps65 rfl (Nat.le_of_ble_eq_true rfl) Try.call65 ?_
  conv => whnf
  refine (fn76 p f w hf A n c xs h).mono ?_
  rintro _ _ ⟨rfl, rfl⟩
  conv => whnf
  intro t ht
  conv => whnf
  refine ⟨rfl, ?_⟩
  congr 1
  cases hfi : xs.findIdx? p with
  | none =>
    rw [hfi] at ht
    rw [List.findIdx?_eq_none_iff] at hfi
    rw [vbool ht]
    symm
    simp
    exact hfi
  | some i =>
    rw [hfi] at ht
    rw [List.findIdx?_eq_some_iff_getElem] at hfi
    obtain ⟨hi, hp, _⟩ := hfi
    rw [vbool ht]
    symm
    simp
    exact ⟨_, List.getElem_mem hi, hp⟩
end Go.Proofs.Ytgcelfplgfloaaa
