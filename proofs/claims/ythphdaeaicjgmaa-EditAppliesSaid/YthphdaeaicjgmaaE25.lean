/- duetlaw18.EditApplies. -/
import Derived.Test.YthphdaeaicjgmaaE24
namespace Go.Proofs.Ythphdaeaicjgmaa
open Go Go.VC Go.RowKit
set_option linter.unusedVariables false
set_option linter.unusedSimpArgs false
set_option maxRecDepth 100000

set_option maxHeartbeats 8000000
theorem fn4 (w : World) (A TA : Option Addr) (n c m tc : Nat) (xs : List Int) (zs : List Act3) (at_ : Int) (b : Bool) (h : InRow w A n c xs) (hz : Rd w 3 TA m (acells zs)) (hm : m ≤ 9223372036854775807) :
    Ret Try.prog 4 #[.agg #[.slice A n c, .slice TA m tc, .int .i64 at_, .bool b]] w fun v W => Ext w W ∧ v = .bool true := by
  have hl := h.ints.len
  have hsm := h.ints.small
  have hat : heldV n at_ ≤ xs.length := by unfold heldV; omega
  refine Ret.of_vc tab_ok Try.func4 rfl Try.ntmps4 rfl (Nat.le_of_ble_eq_true rfl) Try.call4 ?_
  conv => whnf
  intro W1 hW1
  have h1 := hW1.at_
  have he := hW1.e
  generalize w.heap.size = b1 at h1 ⊢
  clear hW1
  conv => whnf
  refine VDraw.mk' tab_ok (Ext W1) [] (.take 0 <| .take 1 <| .take 2 <| .take 3 <| .take 4 <| .take 5 <| .take 6 <| .take 7 <| .take 8 <| .take 9 <| .take 10 <| .take 11 <| .done) mixed (by kernel_rfl) (by kernel_rfl) (Ext.drew _) ?_
  have eS := Ext.drew W1
  generalize W1.drew = V at eS ⊢
  conv => whnf
  refine ⟨_, fun w' hs => ld (hs.at_ h1) rfl rfl, ?_⟩
  conv => whnf
  refine ⟨_, fun w' hs => ld (hs.at_ h1) rfl rfl, ?_⟩
  conv => whnf
  refine ⟨_, fun w' hs => ld (hs.at_ h1) rfl rfl, ?_⟩
  conv => whnf
  refine ⟨_, fun w' hs => ld (hs.at_ h1) rfl rfl, ?_⟩
  replace he := he.tr eS
  clear eS h1
  conv => whnf
  intro t ht
  cases t <;> simp only [VB] at ht <;> (conv => whnf)
  case true =>
    refine (fn11 _).mono ?_
    rintro _ W4 ⟨e, rfl⟩
    conv => whnf
    exact ⟨he.tr e, rfl⟩
  intro t ht2
  cases t <;> simp only [VB] at ht2 <;> (conv => whnf)
  case true =>
    refine (fn11 _).mono ?_
    rintro _ W4 ⟨e, rfl⟩
    conv => whnf
    exact ⟨he.tr e, rfl⟩
  refine (fn19 V TA m tc zs (hz.ext he) (by omega)).mono ?_
  rintro _ W2 ⟨e, hown⟩
  obtain ⟨TB, td, rfl⟩ := own_form hown
  have hzb := own_rd hown
  clear hown
  replace he := he.tr e
  clear e
  conv => whnf
  refine (fn18 W2 A TB n c m td xs zs (h.ints.ext he) hzb (by omega) (by omega)).mono ?_
  rintro v3 W3 ⟨e, hv3⟩
  replace he := he.tr e
  clear e
  cases hap : applyAll xs zs with
  | none =>
    rw [hap] at hv3
    have hv3' : v3 = .tuple #[.slice none 0 0, .bool false] := hv3
    subst hv3'
    conv => whnf
    refine (fn20 W3 A TA n c m tc xs zs (h.ints.ext he) (hz.ext he) (by omega) (by omega)).mono ?_
    rintro v5 W5 ⟨e, hv5⟩
    rw [hap] at hv5
    have hv5' : v5 = .tuple #[.slice none 0 0, .bool false] := hv5
    subst hv5'
    replace he := he.tr e
    clear e
    conv => whnf
    refine (fn21 W5 none none 0 0 0 0 [] [] (Ints.nil _ _) (Ints.nil _ _)).mono ?_
    rintro _ W6 ⟨e, rfl⟩
    rw [decide_eq_true rfl]
    replace he := he.tr e
    clear e
    conv => whnf
    intro t ht
    obtain rfl : t = true := ht.yes rfl
    clear ht
    cases b with
    | false =>
      conv => whnf
      refine (fn22on W6 A n c xs at_ (h.ints.ext he) h.le h.cap).mono ?_
      rintro _ W7 ⟨e, rfl⟩
      replace he := he.tr e
      conv => whnf
      refine (fn23on W7 A n c xs at_ (h.ints.ext he)).mono ?_
      rintro _ _ ⟨rfl, rfl⟩
      rw [wordOn_ref h.wf hat]
      conv => whnf
      intro t ht
      obtain rfl : t = true := ht.yes rfl
      conv => whnf
      refine (fn11 _).mono ?_
      rintro _ W9 ⟨e, rfl⟩
      conv => whnf
      exact ⟨he.tr e, rfl⟩
    | true =>
      conv => whnf
      refine (fn22back W6 A n c xs at_ (h.ints.ext he) h.le (by omega)).mono ?_
      rintro _ W7 ⟨e, rfl⟩
      replace he := he.tr e
      conv => whnf
      refine (fn23back W7 A n c xs at_ (h.ints.ext he)).mono ?_
      rintro _ _ ⟨rfl, rfl⟩
      rw [wordBack_ref h.wf hat]
      conv => whnf
      intro t ht
      obtain rfl : t = true := ht.yes rfl
      conv => whnf
      refine (fn11 _).mono ?_
      rintro _ W9 ⟨e, rfl⟩
      conv => whnf
      exact ⟨he.tr e, rfl⟩
  | some l =>
    rw [hap] at hv3
    obtain ⟨L3, rfl, ho3⟩ := hv3
    obtain ⟨B3, d3, rfl⟩ := own_form ho3
    have i3 := own_ints ho3
    clear ho3
    conv => whnf
    refine (fn20 W3 A TA n c m tc xs zs (h.ints.ext he) (hz.ext he) (by omega) (by omega)).mono ?_
    rintro v5 W5 ⟨e, hv5⟩
    rw [hap] at hv5
    obtain ⟨L5, rfl, ho5⟩ := hv5
    obtain ⟨B5, d5, rfl⟩ := own_form ho5
    have i5 := own_ints ho5
    replace i3 := i3.ext e
    clear ho5
    replace he := he.tr e
    clear e
    conv => whnf
    refine (fn21 W5 B3 B5 l.length d3 l.length d5 l l i3 i5).mono ?_
    rintro _ W6 ⟨e, rfl⟩
    rw [decide_eq_true rfl]
    replace he := he.tr e
    clear e
    conv => whnf
    intro t ht
    obtain rfl : t = true := ht.yes rfl
    clear ht
    cases b with
    | false =>
      conv => whnf
      refine (fn22on W6 A n c xs at_ (h.ints.ext he) h.le h.cap).mono ?_
      rintro _ W7 ⟨e, rfl⟩
      replace he := he.tr e
      conv => whnf
      refine (fn23on W7 A n c xs at_ (h.ints.ext he)).mono ?_
      rintro _ _ ⟨rfl, rfl⟩
      rw [wordOn_ref h.wf hat]
      conv => whnf
      intro t ht
      obtain rfl : t = true := ht.yes rfl
      conv => whnf
      refine (fn11 _).mono ?_
      rintro _ W9 ⟨e, rfl⟩
      conv => whnf
      exact ⟨he.tr e, rfl⟩
    | true =>
      conv => whnf
      refine (fn22back W6 A n c xs at_ (h.ints.ext he) h.le (by omega)).mono ?_
      rintro _ W7 ⟨e, rfl⟩
      replace he := he.tr e
      conv => whnf
      refine (fn23back W7 A n c xs at_ (h.ints.ext he)).mono ?_
      rintro _ _ ⟨rfl, rfl⟩
      rw [wordBack_ref h.wf hat]
      conv => whnf
      intro t ht
      obtain rfl : t = true := ht.yes rfl
      conv => whnf
      refine (fn11 _).mono ?_
      rintro _ W9 ⟨e, rfl⟩
      conv => whnf
      exact ⟨he.tr e, rfl⟩
end Go.Proofs.Ythphdaeaicjgmaa
