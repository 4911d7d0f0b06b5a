/- duetlaw18.live: some answers. (Printed by tools/gen22.py.) -/
import Derived.Test.YthphdaeaicjgmaaE21
namespace Go.Proofs.Ythphdaeaicjgmaa
open Go Go.VC Go.RowKit
set_option linter.unusedVariables false
set_option linter.unusedSimpArgs false
set_option maxRecDepth 100000

def s1 : St := ⟨[97, 98, 32], 3, [99], [(2, 3, 99)]⟩
def s2 : St := ⟨[97, 98, 32, 99], 4, [99], [(1, 3, 99)]⟩
def s3 : St := ⟨[97, 98, 99, 32], 4, [99], [(2, 2, 32), (1, 3, 32)]⟩
theorem do1 : doS (st0 [97, 98, 32, 99] 4 []) 2 119 = s1 := by kernel_rfl
theorem do2 : doS (st0 s1.line (3 : Nat) s1.kill) 2 121 = s2 := by kernel_rfl
theorem do3 : doS (st0 s2.line (4 : Nat) s2.kill) 2 116 = s3 := by kernel_rfl
theorem ap1 : applyAll [97, 98, 32, 99] [(2, 3, 99)] = some [97, 98, 32] := by kernel_rfl
theorem wo1 : wordBack [97, 98, 32, 99] (heldV 4 4) = 3 := by kernel_rfl
theorem wo2 : wordOn [97, 98, 32, 99] (heldV 4 0) = 2 := by kernel_rfl
theorem build29b (A : Option Addr) (n c : Nat) (a : Int) (w : World) : (Instr.build 29 #[(0, .slice A n c), (1, .int .i64 a)]).run Try.prog w = .ok (.agg #[.slice A n c, .int .i64 a, .slice none 0 0]) w := by kernel_rfl

theorem Done.row {w : World} {base : Nat} {s : St} {L K T : Value} (h : Done w base s L K T) : ∃ A n c KA kn kc TA m tc, L = .slice A n c ∧ K = .slice KA kn kc ∧ T = .slice TA m tc ∧ n = s.line.length ∧ kn = s.kill.length ∧ m = s.acts.length ∧
    Ints w A n s.line ∧ Ints w KA kn s.kill ∧ Rd w 3 TA m (acells s.acts) ∧ n ≤ c ∧ c ≤ 9223372036854775807 ∧ kn ≤ kc ∧ kc ≤ 9223372036854775807 := by
  obtain ⟨A, c, rfl⟩ := own_form h.line
  obtain ⟨KA, kc, rfl⟩ := own_form h.kill
  obtain ⟨TA, tc, rfl⟩ := own_form h.acts
  exact ⟨A, _, c, KA, _, kc, TA, _, tc, rfl, rfl, rfl, rfl, rfl, rfl, own_ints h.line, own_ints h.kill, own_rd h.acts, (row_cap h.line).1, (row_cap h.line).2, (row_cap h.kill).1, (row_cap h.kill).2⟩

set_option maxHeartbeats 8000000
theorem fn11 (w : World) : Ret Try.prog 11 #[] w fun v W => Ext w W ∧ v = .bool true := by
  refine Ret.of_vc tab_ok Try.func11 rfl Try.ntmps11 rfl (Nat.le_of_ble_eq_true rfl) Try.call11 ?_
  conv => whnf
  refine (fn24 w _ (by decide)).mono ?_
  rintro _ W1 ⟨he, hown⟩
  obtain ⟨A0, c0, rfl⟩ := own_form hown
  have hb0 : bytesL (⟨#[97, 98, 32, 99]⟩ : ByteArray) = [97, 98, 32, 99] := by kernel_rfl
  have i0 : Ints W1 A0 4 [97, 98, 32, 99] := by
    have := own_ints hown
    exact hb0 ▸ this
  have hc0 := row_cap hown
  replace hc0 : 4 ≤ c0 ∧ c0 ≤ 9223372036854775807 := hc0
  clear hown hb0
  conv => whnf
  refine Run.mk' _ _ (build29b A0 4 c0 4 _) ?_
  conv => whnf
  intro V1 hV1
  conv => whnf
  refine ⟨W1.heap.size, 0, _, _, rfl, hV1.at_, Nat.le_of_ble_eq_true rfl, rfl, rfl, fun W2 hW2 => ?_⟩
  have hb1 : W2.heap[W1.heap.size]? = some (.cells #[.slice A0 4 c0, .int .i64 4, .slice none 0 0] 29 (0, 0)) := hW2.at_
  have ee := hW2.e hV1.e (Nat.le_refl _)
  generalize W1.heap.size = b1 at hb1 ⊢
  clear hV1 hW2
  replace he := he.tr ee
  replace i0 := i0.ext ee
  clear ee
  conv => whnf
  refine ⟨[.slice A0 4 c0, .int .i64 4, .slice none 0 0], rfl, lds hb1 rfl rfl, ?_⟩
  conv => whnf
  refine Run.mk' _ _ (build33 2 119 _) ?_
  conv => whnf
  refine (fn12 W2 A0 none 4 c0 0 0 _ _ 4 2 119 i0 (Ints.nil _ _) (by omega) (by omega)).mono ?_
  rintro _ W3 ⟨ee, L, K, T, rfl, hD⟩
  rw [do1] at hD ⊢
  obtain ⟨A1, n1, c1, KA1, kn1, kc1, TA1, m1, tc1, rfl, rfl, rfl, hn1, hkn1, hm1, i1, k1, r1, hc1, hcm1, hkc1, hkcm1⟩ := hD.row
  replace hn1 : n1 = 3 := hn1
  replace hkn1 : kn1 = 1 := hkn1
  replace hm1 : m1 = 1 := hm1
  subst hn1 hkn1 hm1
  clear hD
  replace he := he.tr ee
  replace i0 := i0.ext ee
  replace hb1 := ee.at_ hb1
  clear ee
  conv => whnf
  intro V1 hV1
  conv => whnf
  refine ⟨W3.heap.size, 0, _, _, rfl, hV1.at_, Nat.le_of_ble_eq_true rfl, rfl, rfl, fun W4 hW4 => ?_⟩
  have hb2 : W4.heap[W3.heap.size]? = some (.cells #[.slice A1 3 c1, .int .i64 ((3 : Nat) : Int), .slice KA1 1 kc1] 29 (0, 0)) := hW4.at_
  have ee := hW4.e hV1.e (Nat.le_refl _)
  generalize W3.heap.size = b2 at hb2 ⊢
  clear hV1 hW4
  replace he := he.tr ee
  replace i0 := i0.ext ee
  replace hb1 := ee.at_ hb1
  replace i1 := i1.ext ee
  replace k1 := k1.ext ee
  replace r1 := r1.ext ee
  clear ee
  conv => whnf
  refine ⟨[.slice A1 3 c1, .int .i64 3, .slice KA1 1 kc1], rfl, lds hb2 rfl rfl, ?_⟩
  conv => whnf
  refine Run.mk' _ _ (build33 2 121 _) ?_
  conv => whnf
  refine (fn12 W4 A1 KA1 3 c1 1 kc1 _ _ (3 : Nat) 2 121 i1 k1 (by omega) (by omega)).mono ?_
  rintro _ W5 ⟨ee, L, K, T, rfl, hD⟩
  rw [do2] at hD ⊢
  obtain ⟨A2, n2, c2, KA2, kn2, kc2, TA2, m2, tc2, rfl, rfl, rfl, hn2, hkn2, hm2, i2, k2, r2, hc2, hcm2, hkc2, hkcm2⟩ := hD.row
  replace hn2 : n2 = 4 := hn2
  replace hkn2 : kn2 = 1 := hkn2
  replace hm2 : m2 = 1 := hm2
  subst hn2 hkn2 hm2
  clear hD
  replace he := he.tr ee
  replace i0 := i0.ext ee
  replace hb1 := ee.at_ hb1
  replace i1 := i1.ext ee
  replace k1 := k1.ext ee
  replace r1 := r1.ext ee
  replace hb2 := ee.at_ hb2
  clear ee
  conv => whnf
  intro V1 hV1
  conv => whnf
  refine ⟨W5.heap.size, 0, _, _, rfl, hV1.at_, Nat.le_of_ble_eq_true rfl, rfl, rfl, fun W6 hW6 => ?_⟩
  have hb3 : W6.heap[W5.heap.size]? = some (.cells #[.slice A2 4 c2, .int .i64 ((4 : Nat) : Int), .slice KA2 1 kc2] 29 (0, 0)) := hW6.at_
  have ee := hW6.e hV1.e (Nat.le_refl _)
  generalize W5.heap.size = b3 at hb3 ⊢
  clear hV1 hW6
  replace he := he.tr ee
  replace i0 := i0.ext ee
  replace hb1 := ee.at_ hb1
  replace i1 := i1.ext ee
  replace k1 := k1.ext ee
  replace r1 := r1.ext ee
  replace hb2 := ee.at_ hb2
  replace i2 := i2.ext ee
  replace k2 := k2.ext ee
  replace r2 := r2.ext ee
  clear ee
  conv => whnf
  refine ⟨[.slice A2 4 c2, .int .i64 4, .slice KA2 1 kc2], rfl, lds hb3 rfl rfl, ?_⟩
  conv => whnf
  refine Run.mk' _ _ (build33 2 116 _) ?_
  conv => whnf
  refine (fn12 W6 A2 KA2 4 c2 1 kc2 _ _ (4 : Nat) 2 116 i2 k2 (by omega) (by omega)).mono ?_
  rintro _ W7 ⟨ee, L, K, T, rfl, hD⟩
  rw [do3] at hD ⊢
  obtain ⟨A3, n3, c3, KA3, kn3, kc3, TA3, m3, tc3, rfl, rfl, rfl, hn3, hkn3, hm3, i3, k3, r3, hc3, hcm3, hkc3, hkcm3⟩ := hD.row
  replace hn3 : n3 = 4 := hn3
  replace hkn3 : kn3 = 1 := hkn3
  replace hm3 : m3 = 2 := hm3
  subst hn3 hkn3 hm3
  clear hD
  replace he := he.tr ee
  replace i0 := i0.ext ee
  replace hb1 := ee.at_ hb1
  replace i1 := i1.ext ee
  replace k1 := k1.ext ee
  replace r1 := r1.ext ee
  replace hb2 := ee.at_ hb2
  replace i2 := i2.ext ee
  replace k2 := k2.ext ee
  replace r2 := r2.ext ee
  replace hb3 := ee.at_ hb3
  clear ee
  conv => whnf
  intro V1 hV1
  conv => whnf
  refine ⟨W7.heap.size, 0, _, _, rfl, hV1.at_, Nat.le_of_ble_eq_true rfl, rfl, rfl, fun W8 hW8 => ?_⟩
  have hb4 : W8.heap[W7.heap.size]? = some (.cells #[.slice A3 4 c3, .int .i64 ((4 : Nat) : Int), .slice KA3 1 kc3] 29 (0, 0)) := hW8.at_
  have ee := hW8.e hV1.e (Nat.le_refl _)
  generalize W7.heap.size = b4 at hb4 ⊢
  clear hV1 hW8
  replace he := he.tr ee
  replace i0 := i0.ext ee
  replace hb1 := ee.at_ hb1
  replace i1 := i1.ext ee
  replace k1 := k1.ext ee
  replace r1 := r1.ext ee
  replace hb2 := ee.at_ hb2
  replace i2 := i2.ext ee
  replace k2 := k2.ext ee
  replace r2 := r2.ext ee
  replace hb3 := ee.at_ hb3
  replace i3 := i3.ext ee
  replace k3 := k3.ext ee
  replace r3 := r3.ext ee
  clear ee
  conv => whnf
  refine ⟨_, ld hb1 rfl rfl, ?_⟩
  conv => whnf
  refine (fn18 W8 A0 TA1 4 c0 1 tc1 _ _ i0 r1 (by decide) (by decide)).mono ?_
  rintro _ W9 ⟨ee, hv⟩
  have hap : applyAll [97, 98, 32, 99] s1.acts = some [97, 98, 32] := ap1
  rw [hap] at hv
  obtain ⟨L, rfl, hL⟩ := hv
  obtain ⟨A9, c9, rfl⟩ := own_form hL
  have i9 : Ints W9 A9 3 [97, 98, 32] := own_ints hL
  clear hL hap
  replace he := he.tr ee
  replace i0 := i0.ext ee
  replace hb1 := ee.at_ hb1
  replace i1 := i1.ext ee
  replace k1 := k1.ext ee
  replace r1 := r1.ext ee
  replace hb2 := ee.at_ hb2
  replace i2 := i2.ext ee
  replace k2 := k2.ext ee
  replace r2 := r2.ext ee
  replace hb3 := ee.at_ hb3
  replace i3 := i3.ext ee
  replace k3 := k3.ext ee
  replace r3 := r3.ext ee
  replace hb4 := ee.at_ hb4
  clear ee
  conv => whnf
  refine VDraw.mk' tab_ok (Ext W9) [] (.take 0 <| .take 1 <| .one 2 <| .one 3 <| .take 4 <| .take 5 <| .take 6 <| .take 7 <| .take 8 <| .take 9 <| .take 10 <| .take 11 <| .one 12 <| .one 13 <| .take 14 <| .take 15 <| .take 16 <| .take 17 <| .take 18 <| .take 19 <| .take 20 <| .take 21 <| .take 22 <| .take 23 <| .take 24 <| .take 25 <| .take 26 <| .take 27 <| .take 28 <| .take 29 <| .one 30 <| .take 31 <| .take 32 <| .take 33 <| .take 34 <| .take 35 <| .take 36 <| .take 37 <| .take 38 <| .take 39 <| .one 40 <| .one 41 <| .take 42 <| .take 43 <| .take 44 <| .take 45 <| .take 46 <| .take 47 <| .take 48 <| .take 49 <| .take 50 <| .take 51 <| .take 52 <| .take 53 <| .take 54 <| .take 55 <| .take 56 <| .one 57 <| .take 58 <| .take 59 <| .take 60 <| .take 61 <| .take 62 <| .take 63 <| .take 64 <| .one 65 <| .take 66 <| .take 67 <| .take 68 <| .take 69 <| .take 70 <| .one 71 <| .take 72 <| .take 73 <| .take 74 <| .done) mixed (by kernel_rfl) (by kernel_rfl) (Ext.drew _) ?_
  have eS := Ext.drew W9
  generalize W9.drew = V at eS ⊢
  conv => whnf
  refine ⟨_, fun w' hs => ld (hs.at_ hb2) rfl rfl, ?_⟩
  conv => whnf
  refine (fn24 _ _ (by decide)).mono ?_
  rintro _ X1 ⟨e, hown⟩
  obtain ⟨B1, d1, rfl⟩ := own_form hown
  have j1 : Ints X1 B1 3 [97, 98, 32] := by
    have hb : bytesL (⟨#[97, 98, 32]⟩ : ByteArray) = [97, 98, 32] := by kernel_rfl
    exact hb ▸ own_ints hown
  clear hown
  replace eS := eS.tr e
  clear e
  conv => whnf
  refine ⟨eS, ?_⟩
  conv => whnf
  refine (fn21 _ _ _ _ _ _ _ _ _ (i1.ext eS) j1).mono ?_
  rintro _ X2 ⟨e, rfl⟩
  replace eS := eS.tr e
  clear e
  rw [decide_eq_true (by rfl)]
  conv => whnf
  refine ⟨eS, ?_⟩
  conv => whnf
  refine ⟨_, fun w' hs => ld (hs.at_ hb2) rfl rfl, ?_⟩
  conv => whnf
  intro t ht
  obtain rfl : t = true := ht.yes rfl
  clear ht
  conv => whnf
  refine ⟨_, fun w' hs => ld (hs.at_ hb2) rfl rfl, ?_⟩
  conv => whnf
  refine (fn24 _ _ (by decide)).mono ?_
  rintro _ X3 ⟨e, hown⟩
  obtain ⟨B3, d3, rfl⟩ := own_form hown
  have j3 : Ints X3 B3 1 [99] := by
    have hb : bytesL (⟨#[99]⟩ : ByteArray) = [99] := by kernel_rfl
    exact hb ▸ own_ints hown
  clear hown
  replace eS := eS.tr e
  clear e
  conv => whnf
  refine ⟨eS, ?_⟩
  conv => whnf
  refine (fn21 _ _ _ _ _ _ _ _ _ (k1.ext eS) j3).mono ?_
  rintro _ X4 ⟨e, rfl⟩
  replace eS := eS.tr e
  clear e
  rw [decide_eq_true (by rfl)]
  conv => whnf
  refine ⟨eS, ?_⟩
  conv => whnf
  intro t ht
  obtain rfl : t = true := ht.yes rfl
  clear ht
  conv => whnf
  intro t ht
  obtain rfl : t = true := ht.yes rfl
  clear ht
  conv => whnf
  refine ⟨_, fun w' hs => ld (hs.at_ hb3) rfl rfl, ?_⟩
  conv => whnf
  refine ⟨_, fun w' hs => ld (hs.at_ hb1) rfl rfl, ?_⟩
  conv => whnf
  refine (fn21 _ _ _ _ _ _ _ _ _ (i2.ext eS) (i0.ext eS)).mono ?_
  rintro _ X5 ⟨e, rfl⟩
  replace eS := eS.tr e
  clear e
  rw [decide_eq_true (by rfl)]
  conv => whnf
  refine ⟨eS, ?_⟩
  conv => whnf
  refine ⟨_, fun w' hs => ld (hs.at_ hb3) rfl rfl, ?_⟩
  conv => whnf
  intro t ht
  obtain rfl : t = true := ht.yes rfl
  clear ht
  conv => whnf
  refine ⟨_, fun w' hs => ld (hs.at_ hb4) rfl rfl, ?_⟩
  conv => whnf
  refine (fn24 _ _ (by decide)).mono ?_
  rintro _ X6 ⟨e, hown⟩
  obtain ⟨B6, d6, rfl⟩ := own_form hown
  have j6 : Ints X6 B6 4 [97, 98, 99, 32] := by
    have hb : bytesL (⟨#[97, 98, 99, 32]⟩ : ByteArray) = [97, 98, 99, 32] := by kernel_rfl
    exact hb ▸ own_ints hown
  clear hown
  replace eS := eS.tr e
  clear e
  conv => whnf
  refine ⟨eS, ?_⟩
  conv => whnf
  refine (fn21 _ _ _ _ _ _ _ _ _ (i3.ext eS) j6).mono ?_
  rintro _ X7 ⟨e, rfl⟩
  replace eS := eS.tr e
  clear e
  rw [decide_eq_true (by rfl)]
  conv => whnf
  refine ⟨eS, ?_⟩
  conv => whnf
  refine ⟨_, fun w' hs => ld (hs.at_ hb4) rfl rfl, ?_⟩
  conv => whnf
  intro t ht
  obtain rfl : t = true := ht.yes rfl
  clear ht
  conv => whnf
  intro t ht
  obtain rfl : t = true := ht.yes rfl
  clear ht
  conv => whnf
  refine ⟨_, fun w' hs => ld (hs.at_ hb2) rfl rfl, ?_⟩
  conv => whnf
  refine (fn21 _ _ _ _ _ _ _ _ _ (i9.ext eS) (i1.ext eS)).mono ?_
  rintro _ X8 ⟨e, rfl⟩
  replace eS := eS.tr e
  clear e
  rw [decide_eq_true (by rfl)]
  conv => whnf
  refine ⟨eS, ?_⟩
  conv => whnf
  refine ⟨_, fun w' hs => ld (hs.at_ hb1) rfl rfl, ?_⟩
  conv => whnf
  refine (fn22back _ A0 4 c0 _ 4 (i0.ext eS) hc0.1 (by decide)).mono ?_
  rintro _ Y1 ⟨e, rfl⟩
  replace eS := eS.tr e
  clear e
  rw [wo1]
  conv => whnf
  refine ⟨eS, ?_⟩
  conv => whnf
  intro t ht
  obtain rfl : t = true := ht.yes rfl
  clear ht
  conv => whnf
  refine ⟨_, fun w' hs => ld (hs.at_ hb1) rfl rfl, ?_⟩
  conv => whnf
  refine (fn22on _ A0 4 c0 _ 0 (i0.ext eS) hc0.1 hc0.2).mono ?_
  rintro _ Y2 ⟨e, rfl⟩
  replace eS := eS.tr e
  clear e
  rw [wo2]
  conv => whnf
  refine ⟨eS, ?_⟩
  conv => whnf
  intro t ht
  obtain rfl : t = true := ht.yes rfl
  clear ht
  conv => whnf
  exact ⟨he.tr eS, rfl⟩
end Go.Proofs.Ythphdaeaicjgmaa
