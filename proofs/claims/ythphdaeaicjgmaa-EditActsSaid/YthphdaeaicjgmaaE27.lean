/- duetlaw18.EditActs. (Printed by tools/gen27.py.) -/
import Derived.Test.YthphdaeaicjgmaaE26
namespace Go.Proofs.Ythphdaeaicjgmaa
open Go Go.VC Go.RowKit
set_option linter.unusedVariables false
set_option linter.unusedSimpArgs false
set_option maxRecDepth 100000

set_option maxHeartbeats 8000000
theorem fn5 (w : World) (A KA : Option Addr) (n c kn kc : Nat) (xs ks : List Int) (at_ kind rune : Int) (h : InRow w A n c xs) (hk : InRow w KA kn kc ks) :
    Ret Try.prog 5 #[.agg #[.slice A n c, .int .i64 at_, .slice KA kn kc], .agg #[.int .i64 kind, .int .i64 rune]] w fun v W => Ext w W ∧ v = .bool true := by
  have hl := h.ints.len
  have hkl := hk.ints.len
  have hsm := h.ints.small
  have hksm := hk.ints.small
  refine Ret.of_vc tab_ok Try.func5 rfl Try.ntmps5 rfl (Nat.le_of_ble_eq_true rfl) Try.call5 ?_
  conv => whnf
  intro W1 hW1
  conv => whnf
  intro W2 hW2
  have h2 := hW2.e.at_ hW1.at_
  have h3 := hW2.at_
  have he := hW1.e.tr hW2.e
  generalize w.heap.size = b2 at h2 ⊢
  generalize W1.heap.size = b3 at h3 ⊢
  clear hW1 hW2
  conv => whnf
  refine ⟨[.slice A n c, .int .i64 at_, .slice KA kn kc], rfl, lds h2 rfl rfl, ?_⟩
  conv => whnf
  refine (fn10 _ A KA n c kn kc at_ hsm hksm).mono ?_
  rintro _ W8 ⟨e, rfl⟩
  replace h2 := e.at_ h2
  replace h3 := e.at_ h3
  replace he := he.tr e
  clear e
  by_cases hf : n ≤ 1100 ∧ kn ≤ 1100
  case neg =>
    rw [decide_eq_false hf]
    conv => whnf
    refine (fn11 _).mono ?_
    rintro _ W4 ⟨e, rfl⟩
    conv => whnf
    exact ⟨he.tr e, rfl⟩
  rw [decide_eq_true hf]
  have hgood := (good0 xs at_ ks).do kind rune
  have hdl := doS_acts_le (st0 xs at_ ks) kind rune (st0_le _ _ _)
  have hsl : (st0 xs at_ ks).line.length = n := hl
  have hskl : (st0 xs at_ ks).kill.length = kn := hkl
  have hsa : (st0 xs at_ ks).acts.length = 0 := rfl
  generalize hr : doS (st0 xs at_ ks) kind rune = r at hdl hgood ⊢
  conv => whnf
  refine VDraw.cut (X := Nat × Value × Value × Value) (fun x => [(2, .pointer (some ⟨b2, 0, none⟩)), (5, .pointer (some ⟨x.1, 0, none⟩)), (6, x.2.2.2)])
    (fun x W => Ext W8 W ∧ W.heap[x.1]? = some (.cells #[x.2.1, .int .i64 r.at_, x.2.2.1] 29 (0, 0)) ∧ ∃ base, Done W base r x.2.1 x.2.2.1 x.2.2.2) ?_ ?_
  · skip
    refine VDraw.mk' tab_ok (Ext W8) [14] (.take 0 <| .take 1 <| .take 2 <| .take 3 <| .take 4 <| .take 5 <| .take 6 <| .take 7 <| .alt [8, 13] (fun x => bif Nat.beq x 8 then (.alt [9, 13] (fun x => bif Nat.beq x 9 then (.take 10 <| .take 11 <| .take 12 <| .one 13 <| .one 14 <| .take 15 <| .done) else (.one 9 <| .take 10 <| .take 11 <| .take 12 <| .one 14 <| .take 15 <| .done))) else (.one 8 <| .one 9 <| .take 10 <| .take 11 <| .take 12 <| .one 14 <| .take 15 <| .done))) mixed (by kernel_rfl) (by kernel_rfl) (Ext.drew _) ?_
    have eS := Ext.drew W8
    generalize W8.drew = V at eS ⊢
    conv => whnf
    refine ⟨_, fun w' hs => ld (hs.at_ h2) rfl rfl, ?_⟩
    conv => whnf
    refine ⟨_, fun w' hs => ld (hs.at_ h2) rfl rfl, ?_⟩
    conv => whnf
    refine ⟨_, fun w' hs => ld (hs.at_ h2) rfl rfl, ?_⟩
    conv => whnf
    refine ⟨_, fun w' => build29 A KA n c kn kc at_ w', ?_⟩
    conv => whnf
    refine ⟨[.int .i64 kind, .int .i64 rune], rfl, fun w' hs => lds (hs.at_ h3) rfl rfl, ?_⟩
    conv => whnf
    refine ⟨?_, ?_⟩
    · refine (fn13 _ kind rune).mono ?_
      rintro _ X1 ⟨e, rfl⟩
      replace eS := eS.tr e
      clear e
      conv => whnf
      refine ⟨eS, ?_⟩
      conv => whnf
      refine ⟨?_, ?_⟩
      · refine (fn12 X1 A KA n c kn kc xs ks at_ kind rune ((h.ints.ext he).ext eS) ((hk.ints.ext he).ext eS) (by omega) (by omega)).mono ?_
        rintro _ X2 ⟨e, L, K, T, rfl, hD⟩
        rw [hr] at hD ⊢
        replace eS := eS.tr e
        clear e
        obtain ⟨LA, lc, rfl⟩ := own_form hD.line
        obtain ⟨KA', kc', rfl⟩ := own_form hD.kill
        conv => whnf
        refine ⟨eS, ?_⟩
        conv => whnf
        intro X3 hX
        have hlt6 := eS.le
        have h6 := hX.at_
        replace hD := hD.ext hX.e
        replace eS := eS.tr hX.e
        generalize X2.heap.size = b6 at h6 hlt6 ⊢
        clear hX
        conv => whnf
        refine ⟨eS, ?_⟩
        conv => whnf
        refine ⟨b6, 0, _, _, rfl, h6, Nat.le_of_ble_eq_true rfl, rfl, rfl, fun X4 hX => ?_⟩
        have hD2 : Done X4 _ _ _ _ _ := ⟨own_put hD.line hX h6 (by decide), own_put hD.kill hX h6 (by decide), own_put hD.acts hX h6 (by decide), hD.le⟩
        have eS2 := hX.e eS hlt6
        have h62 := hX.at_
        conv => whnf
        exact ⟨rfl, (b6, .slice LA r.line.length lc, .slice KA' r.kill.length kc', T), ⟨rfl, rfl, rfl, trivial⟩, eS2, h62, _, hD2⟩
      · intro X2 hX
        have hlt6 := eS.le
        have h6 := hX.at_
        replace eS := eS.tr hX.e
        generalize X1.heap.size = b6 at h6 hlt6 ⊢
        clear hX
        conv => whnf
        refine ⟨eS, ?_⟩
        conv => whnf
        refine (fn12 X2 A KA n c kn kc xs ks at_ kind rune ((h.ints.ext he).ext eS) ((hk.ints.ext he).ext eS) (by omega) (by omega)).mono ?_
        rintro _ X3 ⟨e, L, K, T, rfl, hD⟩
        rw [hr] at hD ⊢
        replace eS := eS.tr e
        replace h6 := e.at_ h6
        clear e
        obtain ⟨LA, lc, rfl⟩ := own_form hD.line
        obtain ⟨KA', kc', rfl⟩ := own_form hD.kill
        conv => whnf
        refine ⟨eS, ?_⟩
        conv => whnf
        refine ⟨b6, 0, _, _, rfl, h6, Nat.le_of_ble_eq_true rfl, rfl, rfl, fun X4 hX => ?_⟩
        have hD2 : Done X4 _ _ _ _ _ := ⟨own_put hD.line hX h6 (by decide), own_put hD.kill hX h6 (by decide), own_put hD.acts hX h6 (by decide), hD.le⟩
        have eS2 := hX.e eS hlt6
        have h62 := hX.at_
        conv => whnf
        exact ⟨rfl, (b6, .slice LA r.line.length lc, .slice KA' r.kill.length kc', T), ⟨rfl, rfl, rfl, trivial⟩, eS2, h62, _, hD2⟩
    · intro X1 hX
      have hlt6 := eS.le
      have h6 := hX.at_
      replace eS := eS.tr hX.e
      generalize V.heap.size = b6 at h6 hlt6 ⊢
      clear hX
      conv => whnf
      refine ⟨eS, ?_⟩
      conv => whnf
      refine (fn13 _ kind rune).mono ?_
      rintro _ X2 ⟨e, rfl⟩
      replace eS := eS.tr e
      replace h6 := e.at_ h6
      clear e
      conv => whnf
      refine ⟨eS, ?_⟩
      conv => whnf
      refine (fn12 X2 A KA n c kn kc xs ks at_ kind rune ((h.ints.ext he).ext eS) ((hk.ints.ext he).ext eS) (by omega) (by omega)).mono ?_
      rintro _ X3 ⟨e, L, K, T, rfl, hD⟩
      rw [hr] at hD ⊢
      replace eS := eS.tr e
      replace h6 := e.at_ h6
      clear e
      obtain ⟨LA, lc, rfl⟩ := own_form hD.line
      obtain ⟨KA', kc', rfl⟩ := own_form hD.kill
      conv => whnf
      refine ⟨eS, ?_⟩
      conv => whnf
      refine ⟨b6, 0, _, _, rfl, h6, Nat.le_of_ble_eq_true rfl, rfl, rfl, fun X4 hX => ?_⟩
      have hD2 : Done X4 _ _ _ _ _ := ⟨own_put hD.line hX h6 (by decide), own_put hD.kill hX h6 (by decide), own_put hD.acts hX h6 (by decide), hD.le⟩
      have eS2 := hX.e eS hlt6
      have h62 := hX.at_
      conv => whnf
      exact ⟨rfl, (b6, .slice LA r.line.length lc, .slice KA' r.kill.length kc', T), ⟨rfl, rfl, rfl, trivial⟩, eS2, h62, _, hD2⟩
  · rintro ⟨b6, L, K, T⟩ j V ⟨eS, h6, base, hD⟩
    dsimp only at h6 hD
    obtain ⟨A1, n1, c1, KA1, kn1, kc1, TA1, m1, tc1, rfl, rfl, rfl, hn1, hkn1, hm1, ia, ka, ra, _⟩ := hD.row
    clear hD
    replace h2 := eS.at_ h2
    replace he := he.tr eS
    clear eS
    conv => whnf
    refine ⟨_, ld h2 rfl rfl, ?_⟩
    conv => whnf
    refine (fn18 V A TA1 n c m1 tc1 xs _ (h.ints.ext he) ra (by omega) (by omega)).mono ?_
    rintro v2 V2 ⟨e, hv⟩
    rw [hgood.acts] at hv
    obtain ⟨L2, rfl, ho⟩ := hv
    obtain ⟨B2, d2, rfl⟩ := own_form ho
    have i2 := own_ints ho
    clear ho
    replace h2 := e.at_ h2
    replace h6 := e.at_ h6
    replace he := he.tr e
    replace ia := ia.ext e
    clear e
    conv => whnf
    refine ⟨_, ld h6 rfl rfl, ?_⟩
    conv => whnf
    refine (fn21 V2 B2 A1 r.line.length d2 n1 c1 r.line r.line i2 ia).mono ?_
    rintro _ V3 ⟨e, rfl⟩
    rw [decide_eq_true rfl]
    replace h2 := e.at_ h2
    replace h6 := e.at_ h6
    replace he := he.tr e
    clear e
    have g1 := hgood.le
    have g2 := hgood.few
    conv => whnf
    refine ⟨_, ld h6 rfl rfl, ?_⟩
    conv => whnf
    intro t ht
    obtain rfl : t = true := ht.yes (by omega)
    clear ht
    conv => whnf
    refine ⟨_, ld h6 rfl rfl, ?_⟩
    conv => whnf
    refine ⟨_, ld h6 rfl rfl, ?_⟩
    conv => whnf
    intro t ht
    obtain rfl : t = true := ht.yes (by omega)
    clear ht
    conv => whnf
    refine ⟨_, ld h6 rfl rfl, ?_⟩
    conv => whnf
    refine ⟨_, ld h2 rfl rfl, ?_⟩
    conv => whnf
    intro q hq
    have hq2 : (n1 : Int) ≤ q := by rw [hq]; split <;> omega
    clear hq
    conv => whnf
    intro t ht
    obtain rfl : t = true := ht.yes hq2
    clear ht
    conv => whnf
    refine (fn11 _).mono ?_
    rintro _ V9 ⟨e, rfl⟩
    conv => whnf
    exact ⟨he.tr e, rfl⟩
end Go.Proofs.Ythphdaeaicjgmaa
