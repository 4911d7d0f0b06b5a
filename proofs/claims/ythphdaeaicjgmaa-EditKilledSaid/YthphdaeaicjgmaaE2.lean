/- edit.isLetter; the closure of Word. -/
import Derived.Test.YthphdaeaicjgmaaE1
namespace Go.Proofs.Ythphdaeaicjgmaa
open Go Go.VC Go.RowKit
set_option linter.unusedVariables false
set_option linter.unusedSimpArgs false
set_option maxRecDepth 100000

def or32 (c : Int) : Int := IntKind.i64.wrap ((BitVec.ofInt IntKind.i64.bits c ||| BitVec.ofInt IntKind.i64.bits 32)).toNat
def wfI (c : Int) : Prop := -9223372036854775808 ≤ c ∧ c ≤ 9223372036854775807
theorem or_32 (n : Nat) : n ||| 32 = n - n % 64 + (n % 32 + 32) := by
  have h1 : (n ||| 32) / 2 ^ 6 = n / 2 ^ 6 ||| 32 / 2 ^ 6 := Nat.or_div_two_pow ..
  have h2 : (n ||| 32) % 2 ^ 6 = n % 2 ^ 6 ||| 32 % 2 ^ 6 := Nat.or_mod_two_pow ..
  have h3 : ∀ m, m < 64 → (m ||| 32) = m % 32 + 32 := by decide
  have h4 := h3 (n % 64) (Nat.mod_lt _ (by decide))
  simp only [show (2 : Nat) ^ 6 = 64 from rfl, show 32 / 64 = 0 from rfl, show 32 % 64 = 32 from rfl, Nat.or_zero] at h1 h2
  omega
theorem or32_eq {c : Int} (h : wfI c) : or32 c = c - c % 64 + (c % 32 + 32) := by
  unfold or32
  have e1 : (BitVec.ofInt IntKind.i64.bits c ||| BitVec.ofInt IntKind.i64.bits 32).toNat = (c % 18446744073709551616).toNat ||| 32 := by
    rw [BitVec.toNat_or]
    congr 1
  rw [e1, or_32, IntKind.wrap_i64]
  obtain ⟨h1, h2⟩ := h
  omega
def letterE (c : Int) : Bool := decide (((48 ≤ c ∧ c ≤ 57) ∨ (97 ≤ or32 c ∧ or32 c ≤ 122)) ∨ c = 95 ∨ 127 < c)
theorem letterE_eq {c : Int} (h : wfI c) : letterE c = letterV c := by
  unfold letterE letterV
  rw [or32_eq h]
  rw [decide_eq_decide]
  omega
theorem fn38 (c : Int) (w : World) : Ret Try.prog 38 #[.int .i64 c] w fun v w' => w = w' ∧ v = .bool (letterE c) := by
  have key : Ret Try.prog 38 #[.int .i64 c] w fun v w' => ∃ t, w = w' ∧ VB t (letterE c = true) ∧ v = .bool t := by
    refine Ret.of_vc tab_ok Try.func38 rfl Try.ntmps38 rfl (Nat.le_of_ble_eq_true rfl) Try.call38 ?_
    conv => whnf
    repeat' (first
      | (intro t ht; cases t <;> simp only [VB] at ht <;> (conv => whnf))
      | (intro r hr; replace hr : r = or32 c := hr; subst hr; conv => whnf))
    all_goals
      first
        | exact ⟨true, rfl, by simp only [VB, letterE, decide_eq_true_eq]; omega, rfl⟩
        | exact ⟨false, rfl, by simp only [VB, letterE, decide_eq_true_eq]; omega, rfl⟩
  refine key.mono ?_
  rintro v w' ⟨t, rfl, ht, rfl⟩
  refine ⟨rfl, ?_⟩
  cases t <;> simp only [VB] at ht
  · rw [Bool.not_eq_true] at ht; rw [ht]
  · rw [ht]
end Go.Proofs.Ythphdaeaicjgmaa
