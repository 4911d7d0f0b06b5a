/- duetlaw18.EditMoves. (Printed by tools/gen29.py.) -/
import Derived.Test.YthphdaeaicjgmaaE26
namespace Go.Proofs.Ythphdaeaicjgmaa
open Go Go.VC Go.RowKit
set_option linter.unusedVariables false
set_option linter.unusedSimpArgs false
set_option maxRecDepth 100000

/-! ### The plain law -/
def mvK (which : Int) : Int := if which = 0 then 7 else if which = 1 then 6 else if which = 2 then 8 else if which = 3 then 9 else 3
def mvR (which : Int) : Int := if which = 4 then 98 else if which = 5 then 102 else 0
structure MoveLaw (s r : St) (which : Int) : Prop where
  line : r.line = s.line
  kill : r.kill = s.kill
  acts : r.acts = s.acts
  home : which = 2 → r.at_ = 0
  end_ : which = 3 → r.at_ = s.line.length
theorem move_law (s : St) {which : Int} (h0 : 0 ≤ which) (h5 : which ≤ 5) : MoveLaw s (doS s (mvK which) (mvR which)) which := by
  have hw : which = 0 ∨ which = 1 ∨ which = 2 ∨ which = 3 ∨ which = 4 ∨ which = 5 := by omega
  rcases hw with rfl | rfl | rfl | rfl | rfl | rfl <;> exact ⟨rfl, rfl, rfl, fun h => (by first | rfl | omega), fun h => (by first | rfl | omega)⟩

/-! ### The walk -/
theorem slice51_6 (w : World) : (Instr.buildSlice 51 6 #[(0, K2 7 0), (1, K2 6 0), (2, K2 8 0), (3, K2 9 0), (4, K2 3 98), (5, K2 3 102)]).run Try.prog w = .ok (.slice (some ⟨w.heap.size, 0, none⟩) 6 6) (w.alloc (.cells #[.int .i64 7, .int .i64 0, .int .i64 6, .int .i64 0, .int .i64 8, .int .i64 0, .int .i64 9, .int .i64 0, .int .i64 3, .int .i64 98, .int .i64 3, .int .i64 102] 33)) := by kernel_rfl
theorem moves_at {W : World} {b : Nat} (h : W.heap[b]? = some (.cells #[.int .i64 7, .int .i64 0, .int .i64 6, .int .i64 0, .int .i64 8, .int .i64 0, .int .i64 9, .int .i64 0, .int .i64 3, .int .i64 98, .int .i64 3, .int .i64 102] 33 (0, 0))) {which : Int} (h0 : 0 ≤ which) (h3 : which ≤ 5) :
    Cells W ((⟨b, 0, none⟩ : Addr).add (which.toNat * 2)) [.int .i64 (mvK which), .int .i64 (mvR which)] := by
  have hw : which = 0 ∨ which = 1 ∨ which = 2 ∨ which = 3 ∨ which = 4 ∨ which = 5 := by omega
  rcases hw with rfl | rfl | rfl | rfl | rfl | rfl <;> exact lds (off := _) h (add_plain_ _ _ _) rfl

set_option maxHeartbeats 8000000
theorem fn7 (w : World) (A KA : Option Addr) (n c kn kc : Nat) (xs ks : List Int) (at_ which : Int) (h : InRow w A n c xs) (hk : InRow w KA kn kc ks) :
    Ret Try.prog 7 #[.agg #[.slice A n c, .int .i64 at_, .slice KA kn kc], .int .i64 which] w fun v W => Ext w W ∧ v = .bool true := by
  have hl := h.ints.len
  have hkl := hk.ints.len
  have hsm := h.ints.small
  have hksm := hk.ints.small
  refine Ret.of_vc tab_ok Try.func7 rfl Try.ntmps7 rfl (Nat.le_of_ble_eq_true rfl) Try.call7 ?_
  conv => whnf
  intro W1 hW1
  have h2 := hW1.at_
  have he := hW1.e
  generalize w.heap.size = b2 at h2 ⊢
  clear hW1
  conv => whnf
  refine ⟨[.slice A n c, .int .i64 at_, .slice KA kn kc], rfl, lds h2 rfl rfl, ?_⟩
  conv => whnf
  refine (fn10 _ A KA n c kn kc at_ hsm hksm).mono ?_
  rintro _ W2 ⟨e, rfl⟩
  replace h2 := e.at_ h2
  replace he := he.tr e
  clear e
  by_cases hf : n ≤ 1100 ∧ kn ≤ 1100
  case neg =>
    rw [decide_eq_false hf]
    conv => whnf
    refine (fn11 _).mono ?_
    rintro _ V9 ⟨e, rfl⟩
    conv => whnf
    exact ⟨he.tr e, rfl⟩
  rw [decide_eq_true hf]
  conv => whnf
  intro t ht1
  cases t <;> simp only [VB] at ht1 <;> (conv => whnf)
  case true =>
    refine (fn11 _).mono ?_
    rintro _ V9 ⟨e, rfl⟩
    conv => whnf
    exact ⟨he.tr e, rfl⟩
  intro t ht2
  cases t <;> simp only [VB] at ht2 <;> (conv => whnf)
  case true =>
    refine (fn11 _).mono ?_
    rintro _ V9 ⟨e, rfl⟩
    conv => whnf
    exact ⟨he.tr e, rfl⟩
  have hw0 : 0 ≤ which := by omega
  have hw3 : which ≤ 5 := by omega
  refine Run.mk' _ _ (build33_1 7 _) ?_
  conv => whnf
  refine Run.mk' _ _ (build33_1 6 _) ?_
  conv => whnf
  refine Run.mk' _ _ (build33_1 8 _) ?_
  conv => whnf
  refine Run.mk' _ _ (build33_1 9 _) ?_
  conv => whnf
  refine Run.mk' _ _ (build33 3 98 _) ?_
  conv => whnf
  refine Run.mk' _ _ (build33 3 102 _) ?_
  conv => whnf
  refine Run.mk' _ _ (slice51_6 _) ?_
  have hN := New.mk' W2 (.cells #[.int .i64 7, .int .i64 0, .int .i64 6, .int .i64 0, .int .i64 8, .int .i64 0, .int .i64 9, .int .i64 0, .int .i64 3, .int .i64 98, .int .i64 3, .int .i64 102] 33)
  generalize W2.alloc (.cells #[.int .i64 7, .int .i64 0, .int .i64 6, .int .i64 0, .int .i64 8, .int .i64 0, .int .i64 9, .int .i64 0, .int .i64 3, .int .i64 98, .int .i64 3, .int .i64 102] 33) = W8 at hN ⊢
  have h5 := hN.at_
  replace he := he.tr hN.e
  replace h2 := hN.e.at_ h2
  generalize W2.heap.size = b5 at h5 ⊢
  clear hN
  conv => whnf
  have hlaw := move_law (st0 xs at_ ks) hw0 hw3
  have hsl : (st0 xs at_ ks).line.length = n := hl
  have hskl : (st0 xs at_ ks).kill.length = kn := hkl
  generalize hr : doS (st0 xs at_ ks) (mvK which) (mvR which) = r at hlaw ⊢
  refine VDraw.cut (X := Nat × Value × Value × Value) (fun x => [(1, .int .i64 which), (2, .pointer (some ⟨b2, 0, none⟩)), (5, .slice (some ⟨b5, 0, none⟩) 6 6), (6, .pointer (some ⟨x.1, 0, none⟩)), (7, x.2.2.2)])
    (fun x W => Ext W8 W ∧ W.heap[x.1]? = some (.cells #[x.2.1, .int .i64 r.at_, x.2.2.1] 29 (0, 0)) ∧ ∃ base, Done W base r x.2.1 x.2.2.1 x.2.2.2) ?_ ?_
  · skip
    refine VDraw.mk' tab_ok (Ext W8) [16] (.take 0 <| .take 1 <| .take 2 <| .take 3 <| .take 4 <| .take 5 <| .take 6 <| .take 7 <| .take 8 <| .take 9 <| .take 10 <| .alt [11, 15] (fun x => bif Nat.beq x 11 then (.take 12 <| .take 13 <| .take 14 <| .one 15 <| .one 16 <| .take 17 <| .done) else (.one 11 <| .take 12 <| .take 13 <| .take 14 <| .one 16 <| .take 17 <| .done))) mixed (by kernel_rfl) (by kernel_rfl) (Ext.drew _) ?_
    have eS := Ext.drew W8
    generalize W8.drew = V at eS ⊢
    conv => whnf
    refine ⟨_, fun w' hs => ld (hs.at_ h2) rfl rfl, ?_⟩
    conv => whnf
    refine ⟨_, fun w' hs => ld (hs.at_ h2) rfl rfl, ?_⟩
    conv => whnf
    refine ⟨_, fun w' hs => ld (hs.at_ h2) rfl rfl, ?_⟩
    conv => whnf
    refine ⟨_, fun w' => build29 A KA n c kn kc at_ w', ?_⟩
    conv => whnf
    refine ⟨hw0, by omega, _, rfl, ?_⟩
    conv => whnf
    refine ⟨[.int .i64 (mvK which), .int .i64 (mvR which)], rfl, fun w' hs => moves_at (hs.at_ h5) hw0 hw3, ?_⟩
    conv => whnf
    refine ⟨?_, ?_⟩
    · refine (fn12 V A KA n c kn kc xs ks at_ (mvK which) (mvR which) ((h.ints.ext he).ext eS) ((hk.ints.ext he).ext eS) (by omega) (by omega)).mono ?_
      rintro _ X1 ⟨e, L, K, T, rfl, hD⟩
      rw [hr] at hD ⊢
      replace eS := eS.tr e
      clear e
      obtain ⟨LA, lc, rfl⟩ := own_form hD.line
      obtain ⟨KA', kc', rfl⟩ := own_form hD.kill
      conv => whnf
      refine ⟨eS, ?_⟩
      conv => whnf
      intro X2 hX
      have hlt6 := eS.le
      have h6 := hX.at_
      replace hD := hD.ext hX.e
      replace eS := eS.tr hX.e
      generalize X1.heap.size = b6 at h6 hlt6 ⊢
      clear hX
      conv => whnf
      refine ⟨eS, ?_⟩
      conv => whnf
      refine ⟨b6, 0, _, _, rfl, h6, Nat.le_of_ble_eq_true rfl, rfl, rfl, fun X3 hX => ?_⟩
      have hD2 : Done X3 _ _ _ _ _ := ⟨own_put hD.line hX h6 (by decide), own_put hD.kill hX h6 (by decide), own_put hD.acts hX h6 (by decide), hD.le⟩
      have eS2 := hX.e eS hlt6
      have h62 := hX.at_
      conv => whnf
      exact ⟨rfl, (b6, .slice LA r.line.length lc, .slice KA' r.kill.length kc', T), ⟨rfl, rfl, rfl, rfl, rfl, trivial⟩, eS2, h62, _, hD2⟩
    · intro X1 hX
      have hlt6 := eS.le
      have h6 := hX.at_
      replace eS := eS.tr hX.e
      generalize V.heap.size = b6 at h6 hlt6 ⊢
      clear hX
      conv => whnf
      refine ⟨eS, ?_⟩
      conv => whnf
      refine (fn12 X1 A KA n c kn kc xs ks at_ (mvK which) (mvR which) ((h.ints.ext he).ext eS) ((hk.ints.ext he).ext eS) (by omega) (by omega)).mono ?_
      rintro _ X2 ⟨e, L, K, T, rfl, hD⟩
      rw [hr] at hD ⊢
      replace eS := eS.tr e
      replace h6 := e.at_ h6
      clear e
      obtain ⟨LA, lc, rfl⟩ := own_form hD.line
      obtain ⟨KA', kc', rfl⟩ := own_form hD.kill
      conv => whnf
      refine ⟨eS, ?_⟩
      conv => whnf
      refine ⟨b6, 0, _, _, rfl, h6, Nat.le_of_ble_eq_true rfl, rfl, rfl, fun X3 hX => ?_⟩
      have hD2 : Done X3 _ _ _ _ _ := ⟨own_put hD.line hX h6 (by decide), own_put hD.kill hX h6 (by decide), own_put hD.acts hX h6 (by decide), hD.le⟩
      have eS2 := hX.e eS hlt6
      have h62 := hX.at_
      conv => whnf
      exact ⟨rfl, (b6, .slice LA r.line.length lc, .slice KA' r.kill.length kc', T), ⟨rfl, rfl, rfl, rfl, rfl, trivial⟩, eS2, h62, _, hD2⟩
  rintro ⟨b6, L, K, T⟩ j V ⟨eS, h6, base, hD⟩
  dsimp only at h6 hD
  have hrle := hD.le
  obtain ⟨A1, n1, c1, KA1, kn1, kc1, TA1, m1, tc1, rfl, rfl, rfl, hn1, hkn1, hm1, ia, ka, ra, _⟩ := hD.row
  clear hD
  replace h2 := eS.at_ h2
  replace h5 := eS.at_ h5
  replace he := he.tr eS
  clear eS
  have q1 := hlaw.line
  have q2 := hlaw.kill
  have q3 : r.acts.length = 0 := by rw [hlaw.acts]; rfl
  rw [show (st0 xs at_ ks).line = xs from rfl] at q1
  rw [show (st0 xs at_ ks).kill = ks from rfl] at q2
  conv => whnf
  intro t ht3
  obtain rfl : t = false := ht3.no (by simp only [ne_eq, Classical.not_not]; omega)
  conv => whnf
  refine ⟨_, ld h6 rfl rfl, ?_⟩
  conv => whnf
  refine ⟨_, ld h2 rfl rfl, ?_⟩
  conv => whnf
  refine (fn21 V A1 A n1 c1 n c r.line xs ia (h.ints.ext he)).mono ?_
  rintro _ V2 ⟨e, rfl⟩
  rw [decide_eq_true q1]
  replace h2 := e.at_ h2
  replace h5 := e.at_ h5
  replace h6 := e.at_ h6
  replace he := he.tr e
  replace ka := ka.ext e
  clear e
  conv => whnf
  refine ⟨_, ld h6 rfl rfl, ?_⟩
  conv => whnf
  refine ⟨_, ld h2 rfl rfl, ?_⟩
  conv => whnf
  refine (fn21 V2 KA1 KA kn1 kc1 kn kc r.kill ks ka (hk.ints.ext he)).mono ?_
  rintro _ W3 ⟨e, rfl⟩
  rw [decide_eq_true q2]
  replace h2 := e.at_ h2
  replace h5 := e.at_ h5
  replace h6 := e.at_ h6
  replace he := he.tr e
  clear e
  conv => whnf
  intro t ht4
  cases t <;> simp only [VB] at ht4 <;> (conv => whnf)
  case true =>
    subst ht4
    refine ⟨_, ld h6 rfl rfl, ?_⟩
    conv => whnf
    intro q hq
    rw [wrap_id (by omega) (by omega)] at hq
    conv => whnf
    refine ⟨_, ld h2 rfl rfl, ?_⟩
    conv => whnf
    intro q5 hq5
    have hq6 : q5 = 0 := by rw [hq5, hq]; simp [wrap_id]
    have hh := hlaw.home rfl
    conv => whnf
    intro t ht
    obtain rfl : t = true := ht.yes (by omega)
    clear ht
    conv => whnf
    refine (fn11 _).mono ?_
    rintro _ V9 ⟨e, rfl⟩
    conv => whnf
    exact ⟨he.tr e, rfl⟩
  intro t ht5
  cases t <;> simp only [VB] at ht5 <;> (conv => whnf)
  case true =>
    subst ht5
    refine ⟨_, ld h6 rfl rfl, ?_⟩
    conv => whnf
    intro q hq
    rw [wrap_id (by omega) (by omega)] at hq
    conv => whnf
    refine ⟨_, ld h2 rfl rfl, ?_⟩
    conv => whnf
    intro q5 hq5
    have hq6 : q5 = n := by rw [hq5, hq, wrap_id (by omega) (by omega)]; omega
    have hh := hlaw.end_ rfl
    conv => whnf
    intro t ht
    obtain rfl : t = true := ht.yes (by omega)
    clear ht
    conv => whnf
    refine (fn11 _).mono ?_
    rintro _ V9 ⟨e, rfl⟩
    conv => whnf
    exact ⟨he.tr e, rfl⟩
  refine ⟨_, ld h2 rfl rfl, ?_⟩
  conv => whnf
  intro t ht6
  cases t <;> simp only [VB] at ht6 <;> (conv => whnf)
  case true =>
    refine (fn11 _).mono ?_
    rintro _ V9 ⟨e, rfl⟩
    conv => whnf
    exact ⟨he.tr e, rfl⟩
  refine ⟨_, ld h2 rfl rfl, ?_⟩
  conv => whnf
  refine ⟨_, ld h2 rfl rfl, ?_⟩
  conv => whnf
  intro t ht7
  cases t <;> simp only [VB] at ht7 <;> (conv => whnf)
  case true =>
    refine (fn11 _).mono ?_
    rintro _ V9 ⟨e, rfl⟩
    conv => whnf
    exact ⟨he.tr e, rfl⟩
  clear ia ka ra h6 hlaw
  have hs8 : (st0 xs at_ []).line = xs := rfl
  have r8 : (doS (st0 xs at_ []) 7 0).at_ = heldV xs.length at_ - 1 ∧ (doS (st0 xs at_ []) 7 0).line = xs ∧ (doS (st0 xs at_ []) 7 0).kill = [] := ⟨rfl, rfl, rfl⟩
  have r8a : (heldV xs.length at_ : Int) = at_ := by unfold heldV; omega
  generalize hr8 : doS (st0 xs at_ []) 7 0 = r8s at r8 ⊢
  refine VDraw.cut (X := Nat × Value × Value) (fun x => [(2, .pointer (some ⟨b2, 0, none⟩)), (5, .slice (some ⟨b5, 0, none⟩) 6 6), (8, .pointer (some ⟨x.1, 0, none⟩))])
    (fun x W => Ext W3 W ∧ W.heap[x.1]? = some (.cells #[x.2.1, .int .i64 r8s.at_, x.2.2] 29 (0, 0)) ∧ ∃ base T, Done W base r8s x.2.1 x.2.2 T) ?_ ?_
  · skip
    refine VDraw.mk' tab_ok (Ext W3) [13] (.take 0 <| .take 1 <| .take 2 <| .take 3 <| .take 4 <| .take 5 <| .take 6 <| .take 7 <| .alt [8, 12] (fun x => bif Nat.beq x 8 then (.take 9 <| .take 10 <| .take 11 <| .one 12 <| .one 13 <| .take 14 <| .done) else (.one 8 <| .take 9 <| .take 10 <| .take 11 <| .one 13 <| .take 14 <| .done))) mixed (by kernel_rfl) (by kernel_rfl) (Ext.drew _) ?_
    have eS := Ext.drew W3
    generalize W3.drew = V at eS ⊢
    conv => whnf
    refine ⟨_, fun w' hs => ld (hs.at_ h2) rfl rfl, ?_⟩
    conv => whnf
    refine ⟨_, fun w' hs => ld (hs.at_ h2) rfl rfl, ?_⟩
    conv => whnf
    refine ⟨_, fun w' => build29b A n c at_ w', ?_⟩
    conv => whnf
    refine ⟨by decide, by decide, _, rfl, ?_⟩
    conv => whnf
    refine ⟨[.int .i64 7, .int .i64 0], rfl, fun w' hs => moves_at (which := 0) (hs.at_ h5) (by decide) (by decide), ?_⟩
    conv => whnf
    refine ⟨?_, ?_⟩
    · refine (fn12 V A none n c 0 0 xs [] at_ 7 0 ((h.ints.ext he).ext eS) (Ints.nil _ _) (by omega) (by omega)).mono ?_
      rintro _ X1 ⟨e, L, K, T, rfl, hD⟩
      rw [hr8] at hD ⊢
      replace eS := eS.tr e
      clear e
      obtain ⟨LA, lc, rfl⟩ := own_form hD.line
      obtain ⟨KA', kc', rfl⟩ := own_form hD.kill
      conv => whnf
      refine ⟨eS, ?_⟩
      conv => whnf
      intro X2 hX
      have hlt6 := eS.le
      have h6 := hX.at_
      replace hD := hD.ext hX.e
      replace eS := eS.tr hX.e
      generalize X1.heap.size = b6 at h6 hlt6 ⊢
      clear hX
      conv => whnf
      refine ⟨eS, ?_⟩
      conv => whnf
      refine ⟨b6, 0, _, _, rfl, h6, Nat.le_of_ble_eq_true rfl, rfl, rfl, fun X3 hX => ?_⟩
      have hD2 : Done X3 _ _ _ _ _ := ⟨own_put hD.line hX h6 (by decide), own_put hD.kill hX h6 (by decide), own_put hD.acts hX h6 (by decide), hD.le⟩
      have eS2 := hX.e eS hlt6
      have h62 := hX.at_
      conv => whnf
      exact ⟨rfl, (b6, .slice LA r8s.line.length lc, .slice KA' r8s.kill.length kc'), ⟨rfl, rfl, rfl, trivial⟩, eS2, h62, _, _, hD2⟩
    · intro X1 hX
      have hlt6 := eS.le
      have h6 := hX.at_
      replace eS := eS.tr hX.e
      generalize V.heap.size = b6 at h6 hlt6 ⊢
      clear hX
      conv => whnf
      refine ⟨eS, ?_⟩
      conv => whnf
      refine (fn12 X1 A none n c 0 0 xs [] at_ 7 0 ((h.ints.ext he).ext eS) (Ints.nil _ _) (by omega) (by omega)).mono ?_
      rintro _ X2 ⟨e, L, K, T, rfl, hD⟩
      rw [hr8] at hD ⊢
      replace eS := eS.tr e
      replace h6 := e.at_ h6
      clear e
      obtain ⟨LA, lc, rfl⟩ := own_form hD.line
      obtain ⟨KA', kc', rfl⟩ := own_form hD.kill
      conv => whnf
      refine ⟨eS, ?_⟩
      conv => whnf
      refine ⟨b6, 0, _, _, rfl, h6, Nat.le_of_ble_eq_true rfl, rfl, rfl, fun X3 hX => ?_⟩
      have hD2 : Done X3 _ _ _ _ _ := ⟨own_put hD.line hX h6 (by decide), own_put hD.kill hX h6 (by decide), own_put hD.acts hX h6 (by decide), hD.le⟩
      have eS2 := hX.e eS hlt6
      have h62 := hX.at_
      conv => whnf
      exact ⟨rfl, (b6, .slice LA r8s.line.length lc, .slice KA' r8s.kill.length kc'), ⟨rfl, rfl, rfl, trivial⟩, eS2, h62, _, _, hD2⟩
  rintro ⟨b8, L, K⟩ j V3 ⟨eS, h8, base, T, hD⟩
  dsimp only at h8 hD
  have hrle := hD.le
  obtain ⟨A3, n3, c3, KA3, kn3, kc3, TA3, m3, tc3, rfl, rfl, rfl, hn3, hkn3, hm3, ib, kb, rb, _⟩ := hD.row
  clear hD
  replace h2 := eS.at_ h2
  replace h5 := eS.at_ h5
  replace he := he.tr eS
  clear eS
  obtain ⟨p1, p2, p3⟩ := r8
  rw [p2] at hn3 ib
  rw [p3] at hkn3 kb
  rw [p1] at h8
  have p1' : ((heldV xs.length at_ - 1 : Nat) : Int) = at_ - 1 := by omega
  clear hrle p1 p2 p3 hr8
  have r9 : (doS (st0 xs ((heldV xs.length at_ - 1 : Nat) : Int) []) 6 0).at_ = min (heldV xs.length ((heldV xs.length at_ - 1 : Nat) : Int) + 1) xs.length := rfl
  have r9a : heldV xs.length ((heldV xs.length at_ - 1 : Nat) : Int) = heldV xs.length at_ - 1 := heldV_id (by unfold heldV; omega)
  rw [r9a] at r9
  have h9x : (heldV xs.length at_ - 1 : Nat) + 1 ≤ xs.length := by omega
  generalize hr9 : doS (st0 xs ((heldV xs.length at_ - 1 : Nat) : Int) []) 6 0 = r9s at r9 ⊢
  refine VDraw.cut (X := Nat × Value × Value) (fun x => [(2, .pointer (some ⟨b2, 0, none⟩)), (8, .pointer (some ⟨b8, 0, none⟩)), (10, .pointer (some ⟨x.1, 0, none⟩))])
    (fun x W => Ext V3 W ∧ W.heap[x.1]? = some (.cells #[x.2.1, .int .i64 r9s.at_, x.2.2] 29 (0, 0))) ?_ ?_
  · skip
    refine VDraw.mk' tab_ok (Ext V3) [9] (.take 0 <| .take 1 <| .take 2 <| .take 3 <| .alt [4, 8] (fun x => bif Nat.beq x 4 then (.take 5 <| .take 6 <| .take 7 <| .one 8 <| .one 9 <| .take 10 <| .done) else (.one 4 <| .take 5 <| .take 6 <| .take 7 <| .one 9 <| .take 10 <| .done))) mixed (by kernel_rfl) (by kernel_rfl) (Ext.drew _) ?_
    have eS := Ext.drew V3
    generalize V3.drew = V at eS ⊢
    conv => whnf
    refine ⟨[.slice A3 n3 c3, .int .i64 ((heldV xs.length at_ - 1 : Nat) : Int), .slice KA3 kn3 kc3], rfl, fun w' hs => lds (hs.at_ h8) rfl rfl, ?_⟩
    conv => whnf
    refine ⟨by decide, by decide, _, rfl, ?_⟩
    conv => whnf
    refine ⟨[.int .i64 6, .int .i64 0], rfl, fun w' hs => moves_at (which := 1) (hs.at_ h5) (by decide) (by decide), ?_⟩
    conv => whnf
    refine ⟨?_, ?_⟩
    · refine (fn12 V A3 KA3 n3 c3 kn3 kc3 xs [] ((heldV xs.length at_ - 1 : Nat) : Int) 6 0 (ib.ext eS) (kb.ext eS) (by omega) (by have : kn3 = 0 := hkn3; omega)).mono ?_
      rintro _ X1 ⟨e, L, K, T, rfl, hD⟩
      rw [hr9] at hD ⊢
      replace eS := eS.tr e
      clear e
      obtain ⟨LA, lc, rfl⟩ := own_form hD.line
      obtain ⟨KA', kc', rfl⟩ := own_form hD.kill
      conv => whnf
      refine ⟨eS, ?_⟩
      conv => whnf
      intro X2 hX
      have hlt6 := eS.le
      have h6 := hX.at_
      replace hD := hD.ext hX.e
      replace eS := eS.tr hX.e
      generalize X1.heap.size = b6 at h6 hlt6 ⊢
      clear hX
      conv => whnf
      refine ⟨eS, ?_⟩
      conv => whnf
      refine ⟨b6, 0, _, _, rfl, h6, Nat.le_of_ble_eq_true rfl, rfl, rfl, fun X3 hX => ?_⟩
      have hD2 : Done X3 _ _ _ _ _ := ⟨own_put hD.line hX h6 (by decide), own_put hD.kill hX h6 (by decide), own_put hD.acts hX h6 (by decide), hD.le⟩
      have eS2 := hX.e eS hlt6
      have h62 := hX.at_
      conv => whnf
      exact ⟨rfl, (b6, .slice LA r9s.line.length lc, .slice KA' r9s.kill.length kc'), ⟨rfl, rfl, rfl, trivial⟩, eS2, h62⟩
    · intro X1 hX
      have hlt6 := eS.le
      have h6 := hX.at_
      replace eS := eS.tr hX.e
      generalize V.heap.size = b6 at h6 hlt6 ⊢
      clear hX
      conv => whnf
      refine ⟨eS, ?_⟩
      conv => whnf
      refine (fn12 X1 A3 KA3 n3 c3 kn3 kc3 xs [] ((heldV xs.length at_ - 1 : Nat) : Int) 6 0 (ib.ext eS) (kb.ext eS) (by omega) (by have : kn3 = 0 := hkn3; omega)).mono ?_
      rintro _ X2 ⟨e, L, K, T, rfl, hD⟩
      rw [hr9] at hD ⊢
      replace eS := eS.tr e
      replace h6 := e.at_ h6
      clear e
      obtain ⟨LA, lc, rfl⟩ := own_form hD.line
      obtain ⟨KA', kc', rfl⟩ := own_form hD.kill
      conv => whnf
      refine ⟨eS, ?_⟩
      conv => whnf
      refine ⟨b6, 0, _, _, rfl, h6, Nat.le_of_ble_eq_true rfl, rfl, rfl, fun X3 hX => ?_⟩
      have hD2 : Done X3 _ _ _ _ _ := ⟨own_put hD.line hX h6 (by decide), own_put hD.kill hX h6 (by decide), own_put hD.acts hX h6 (by decide), hD.le⟩
      have eS2 := hX.e eS hlt6
      have h62 := hX.at_
      conv => whnf
      exact ⟨rfl, (b6, .slice LA r9s.line.length lc, .slice KA' r9s.kill.length kc'), ⟨rfl, rfl, rfl, trivial⟩, eS2, h62⟩
  rintro ⟨b9, L, K⟩ j V5 ⟨eS, h9⟩
  dsimp only at h9
  replace h2 := eS.at_ h2
  replace h8 := eS.at_ h8
  replace he := he.tr eS
  clear eS
  conv => whnf
  refine ⟨_, ld h8 rfl rfl, ?_⟩
  conv => whnf
  refine ⟨_, ld h2 rfl rfl, ?_⟩
  conv => whnf
  intro q hq
  rw [wrap_id (by omega) (by omega)] at hq
  conv => whnf
  intro t ht
  obtain rfl : t = true := ht.yes (by omega)
  clear ht
  conv => whnf
  refine ⟨_, ld h9 rfl rfl, ?_⟩
  conv => whnf
  refine ⟨_, ld h2 rfl rfl, ?_⟩
  conv => whnf
  intro t ht
  obtain rfl : t = true := ht.yes (by omega)
  clear ht
  conv => whnf
  refine (fn11 _).mono ?_
  rintro _ V9 ⟨e, rfl⟩
  conv => whnf
  exact ⟨he.tr e, rfl⟩
end Go.Proofs.Ythphdaeaicjgmaa
