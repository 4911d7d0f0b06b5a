/- duetlaw18.EditApplies answers true for every input, without panic, and each argument reads behind the call as it read before. No conditions beside the row's own. -/
import Derived.Test.YthphdaeaicjgmaaRows
import Derived.Test.YthphdaeaicjgmaaE25
import Derived.Test.YthphdaeaicjgmaaE24
import Derived.WalkKit
import Derived.ProofKit
import Derived.OpenShut
import Derived.ShutString
import Derived.ChangeOld
import Derived.Below
namespace Go.Proofs.Ythphdaeaicjgmaa.editApplies
open Go.ChangeShapes Go.WideShapes Go.ChangeAt Go.RowKit
open Go.ChangeMaps (open_string shut_string)
set_option linter.unusedVariables false

theorem own : ownKnob Try.prog.godebug = none := by kernel_rfl
theorem laidOut : laidOutB Try.prog = true := by kernel_rfl

theorem walk (A0 : Option Addr) (n0 c0 : Nat) (x0 : List Int) (T0 : Option Addr) (m0 d0 : Nat) (z0 : List Act3) (a0 : Int) (b0 : Bool) (w : World) (h0 : InRow w A0 n0 c0 x0) (g0 : Go.VC.Rd w 3 T0 m0 (acells z0)) (f0 : wfI a0) (e0 : m0 ≤ 9223372036854775807) :
    Calls Try.prog 4 #[.agg #[.slice A0 n0 c0, .slice T0 m0 d0, .int .i64 a0, .bool b0]] w fun e w' => e = .returned (.bool true) ∧ Below w.heap.size w w' := by
  refine ((fn4 w A0 T0 n0 c0 m0 d0 x0 z0 a0 b0 h0 g0 e0).calls (Try.call4 _ _)).mono ?_
  rintro e w' ⟨v, rfl, he, rfl⟩
  exact ⟨rfl, he⟩

set_option maxRecDepth 100000 in
theorem lifted (os : Os) (started : os.Started) (H : Type) (enc : TypeId × Value → H) :
    ReturnsInHanded {} Try.checked os 4 .any (Rows.editAppliesSpec.pre6 enc Try.prog Try.f4 Rows.editAppliesRow.domain false) (Rows.editAppliesSpec.post enc Try.prog Try.f4 false true false false) := by
  refine returnsInHanded_of_change (C := Try.checked) own started (by kernel_rfl) Try.func4
    (ChangeSpec.witness6 (enc := enc) (C := Try.checked) false ⟨#[], #[.agg #[.slice none 0 0, .slice none 0 0, .int .i64 0, .bool false]], []⟩ 8 (by kernel_rfl) (by kernel_rfl) (by kernel_rfl) (by kernel_rfl)) ?_
  intro W base args ds gs before hval0 hW hcnd _
  have hval : ∀ (j : Nat) t v, Try.f4.params[j]? = some t → args[j]? = some v → Value.okWide Try.prog W .any base t v := hval0
  have hW' := hW
  obtain ⟨p, q, hA0, hV, rfl, hfz, hnd⟩ := hW
  have hA : DataW.TrodAll enc Try.prog W 0 (fun _ => true) true Try.f4.params.toList args.toList ds p := hA0
  rw [Try.params4] at hA hval
  obtain ⟨v0, vs0, d0, ds0, p0, q0, hargs, rfl, rfl, h0, r0⟩ := trodAll_cons hA
  obtain ⟨rfl, rfl, rfl⟩ := trodAll_nil r0
  obtain rfl : args = #[v0] := by cases args; simp_all
  obtain ⟨rfl, rfl⟩ := trodVars_none hV
  obtain ⟨cs0, rfl, hsz0⟩ := okWide_struct Try.underlying43 (hval 0 43 v0 rfl rfl)
  have k0 := h0
  have lt0 : ∀ x ∈ p0, x.block < W.heap.size := by obtain ⟨m, hm⟩ := k0; exact DataW.trod_lt m _ _ _ hm
  obtain ⟨A0, n0, c0, x0, T0, m0, t0, z0, a0, b0, hcs0, u0, g0, f0, e0⟩ := case_of h0
  subst hcs0
  clear hA0 hval0
  refine (walk A0 n0 c0 x0 T0 m0 t0 z0 a0 b0 W u0 g0 f0 e0).mono fun e W' ⟨he, bel⟩ => ?_
  subst he
  exact ⟨_, rfl, _, _, _, [], _, [], hW', trodAll_mk1 (shut_bool Try.underlying4 _), (trodAll_cons_mk (Below.trod laidOut (by kernel_rfl) (of_decide_eq_true (by kernel_rfl)) k0 bel lt0) trodAll_mk0), rfl, bel.frame _, fun h => by cases h⟩

theorem over : Rows.editAppliesRow.holds Try.pinned (OpenSpec.ofChange Rows.editAppliesSpec) :=
  OpenClaim.holds_of_wide 4 Try.f4 rfl rfl rfl rfl rfl rfl rfl ⟨rfl, rfl, rfl, rfl, rfl⟩ rfl rfl rfl rfl rfl (by kernel_rfl) Try.func4 (by kernel_rfl)
    (of_decide_eq_true (by kernel_rfl)) (by unfold Func.isWrapper; first | (rw [if_pos (by decide +kernel)]; kernel_rfl) | (rw [if_neg (by decide +kernel)]; exact ⟨rfl, rfl⟩))
    (fun os started H enc _ => lifted os started H enc)

/-- ████ THE STATEMENT ████ -/
theorem proved : Rows.EditAppliesSaid := over
#print axioms proved
end Go.Proofs.Ythphdaeaicjgmaa.editApplies
