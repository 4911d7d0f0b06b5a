/- duetlaw11.live. -/
import Derived.Test.YtbkmbignincilaaW15
namespace Go.Proofs.Ytbkmbignincilaa
open Go Go.VC Go.RowKit
set_option linter.unusedVariables false
set_option linter.unusedSimpArgs false
set_option maxRecDepth 100000

abbrev L1 : El := ⟨⟨1, 0⟩, Idn.z, 97⟩
abbrev L2 : El := ⟨⟨2, 0⟩, ⟨1, 0⟩, 98⟩
abbrev L3 : El := ⟨⟨2, 1⟩, Idn.z, 99⟩
abbrev L4 : El := ⟨⟨5, 1⟩, ⟨4, 0⟩, 99⟩
theorem lv1 : insE [] L1 = 0 ∧ insS [] L1 = [L1] := by decide
theorem lv2 : insE [L1] L2 = 0 ∧ insS [L1] L2 = [L1, L2] := by decide
theorem lv3 : insE [L1, L2] L3 = 0 ∧ insS [L1, L2] L3 = [L1, L2, L3] := by decide
theorem lv4 : insE [L1, L2, L3] L3 = 7 ∧ insS [L1, L2, L3] L3 = [L1, L2, L3] := by decide
theorem lv5 : insE [L1, L2, L3] L4 = 6 ∧ insS [L1, L2, L3] L4 = [L1, L2, L3] := by decide
theorem lv6 : drpE [L1, L2, L3] ⟨1, 0⟩ = 8 ∧ drpS [L1, L2, L3] ⟨1, 0⟩ = [L1, L2, L3] := by decide
theorem lv7 : own [L1, L2, L3] Idn.z = [L3, L1, L2] := by decide
theorem lv8 : placeV (own [L1, L2, L3] Idn.z) ⟨2, 0⟩ = .tuple #[.int .i64 2, .bool true] := by rw [lv7]; rfl
theorem lv9 : drpE [L1, L2, L3] ⟨2, 0⟩ = 0 ∧ drpS [L1, L2, L3] ⟨2, 0⟩ = [L1, L3] := by decide
theorem lv10 : kidsOf [L1, L3] Idn.z = [⟨2, 1⟩, ⟨1, 0⟩] := by decide
theorem slice41_2 (a b c d : Int) (w : World) : (Instr.buildSlice 41 2 #[(0, K2 a b), (1, K2 c d)]).run Try.prog w = .ok (.slice (some ⟨w.heap.size, 0, none⟩) 2 2) (w.alloc (.cells #[.int .i64 a, .int .i64 b, .int .i64 c, .int .i64 d] 24)) := by kernel_rfl

theorem wIns' {w0 w : World} {B : Nat → Prop} {b : Nat} {S S' : List El} {e : El} {r : Int} (h : LX w0 w B b S) (hr : insE S e = r ∧ insS S e = S') : Ret Try.prog 16 #[ptr b, kI e.id, kI e.ref, .int .i64 e.rune] w fun v W => v = .int .i64 r ∧ ∃ B', LX w0 W B' b S' :=
  (xInsert h e).mono fun v W ⟨hv, _, B', h', _⟩ => ⟨by rw [hv, hr.1], B', by rw [← hr.2]; exact h'⟩
theorem wDrp' {w0 w : World} {B : Nat → Prop} {b : Nat} {S S' : List El} {x : Idn} {r : Int} (h : LX w0 w B b S) (hr : drpE S x = r ∧ drpS S x = S') : Ret Try.prog 14 #[ptr b, kI x] w fun v W => v = .int .i64 r ∧ ∃ B', LX w0 W B' b S' :=
  (xDrop h x).mono fun v W ⟨hv, _, B', h', _⟩ => ⟨by rw [hv, hr.1], B', by rw [← hr.2]; exact h'⟩

set_option maxHeartbeats 4000000
theorem fn27 (w : World) : Ret Try.prog 27 #[] w fun v W => Ext w W ∧ v = .bool true := by
  refine Ret.of_vc tab_ok Try.func27 rfl Try.ntmps27 rfl (Nat.le_of_ble_eq_true rfl) Try.call27 ?_
  conv => whnf
  refine (xNew (Ext.refl w)).mono ?_
  rintro _ W ⟨b, B, rfl, h⟩
  conv => whnf
  refine (fn30 1 0 _).mono ?_
  rintro _ W ⟨he, rfl⟩
  replace h := h.go he
  conv => whnf
  refine Run.mk' _ _ (build24_0 _) ?_
  conv => whnf
  refine (wIns' (e := L1) h lv1).mono ?_
  rintro _ W ⟨rfl, B, h⟩
  conv => whnf
  refine (fn30 2 0 _).mono ?_
  rintro _ W ⟨he, rfl⟩
  replace h := h.go he
  conv => whnf
  refine (fn30 1 0 _).mono ?_
  rintro _ W ⟨he, rfl⟩
  replace h := h.go he
  conv => whnf
  refine (wIns' (e := L2) h lv2).mono ?_
  rintro _ W ⟨rfl, B, h⟩
  conv => whnf
  refine (fn30 2 1 _).mono ?_
  rintro _ W ⟨he, rfl⟩
  replace h := h.go he
  conv => whnf
  refine Run.mk' _ _ (build24_0 _) ?_
  conv => whnf
  refine (wIns' (e := L3) h lv3).mono ?_
  rintro _ W ⟨rfl, B, h⟩
  conv => whnf
  refine (fn30 2 1 _).mono ?_
  rintro _ W ⟨he, rfl⟩
  replace h := h.go he
  conv => whnf
  refine Run.mk' _ _ (build24_0 _) ?_
  conv => whnf
  refine (wIns' (e := L3) h lv4).mono ?_
  rintro _ W ⟨rfl, B, h⟩
  conv => whnf
  refine (fn30 5 1 _).mono ?_
  rintro _ W ⟨he, rfl⟩
  replace h := h.go he
  conv => whnf
  refine (fn30 4 0 _).mono ?_
  rintro _ W ⟨he, rfl⟩
  replace h := h.go he
  conv => whnf
  refine (wIns' (e := L4) h lv5).mono ?_
  rintro _ W ⟨rfl, B, h⟩
  conv => whnf
  refine (fn30 1 0 _).mono ?_
  rintro _ W ⟨he, rfl⟩
  replace h := h.go he
  conv => whnf
  refine (wDrp' (x := ⟨1, 0⟩) h lv6).mono ?_
  rintro _ W ⟨rfl, B, h⟩
  conv => whnf
  refine (wElements h.line).mono ?_
  rw [lv7]
  rintro _ We ⟨he, A, c, rfl, hrow, _⟩
  replace h := h.go he
  conv => whnf
  refine (fn30 2 0 _).mono ?_
  rintro _ W ⟨he, rfl⟩
  replace h := h.go he
  replace hrow := hrow.ext he
  conv => whnf
  refine (wPlace h.line ⟨2, 0⟩).mono ?_
  rw [lv8]
  rintro _ W ⟨he, rfl⟩
  replace h := h.go he
  replace hrow := hrow.ext he
  conv => whnf
  intro t ht
  obtain rfl : t = false := ht.no (by simp)
  conv => whnf
  intro t ht
  obtain rfl : t = true := ht.yes (by decide)
  conv => whnf
  intro t ht
  obtain rfl : t = true := ht.yes (by decide)
  conv => whnf
  intro t ht
  obtain rfl : t = true := ht.yes (by decide)
  conv => whnf
  intro t ht
  obtain rfl : t = true := ht.yes (by decide)
  conv => whnf
  intro t ht
  obtain rfl : t = true := ht.yes (by decide)
  conv => whnf
  intro t ht
  obtain rfl : t = true := ht.yes (by decide)
  conv => whnf
  obtain ⟨a0, k0, hA0, d0⟩ := hrow.at_ (k := 0) (by decide)
  refine ⟨by decide, by decide, a0, hA0, ?_⟩
  conv => whnf
  refine ⟨.int .i64 99, d0.one 4 rfl, ?_⟩
  conv => whnf
  intro t ht
  obtain rfl : t = true := ht.yes (by decide)
  conv => whnf
  obtain ⟨a1, k1, hA1, d1⟩ := hrow.at_ (k := 1) (by decide)
  refine ⟨by decide, by decide, a1, hA1, ?_⟩
  conv => whnf
  refine ⟨.int .i64 97, d1.one 4 rfl, ?_⟩
  conv => whnf
  intro t ht
  obtain rfl : t = true := ht.yes (by decide)
  conv => whnf
  obtain ⟨a2, k2, hA2, d2⟩ := hrow.at_ (k := 2) (by decide)
  refine ⟨by decide, by decide, a2, hA2, ?_⟩
  conv => whnf
  refine ⟨.int .i64 98, d2.one 4 rfl, ?_⟩
  conv => whnf
  intro t ht
  obtain rfl : t = true := ht.yes (by decide)
  conv => whnf
  intro t ht
  obtain rfl : t = true := ht.yes (by decide)
  conv => whnf
  refine (fn30 2 0 _).mono ?_
  rintro _ W ⟨he, rfl⟩
  replace h := h.go he
  conv => whnf
  refine (wDrp' (x := ⟨2, 0⟩) h lv9).mono ?_
  rintro _ W ⟨rfl, B, h⟩
  conv => whnf
  intro t ht
  obtain rfl : t = true := ht.yes (by decide)
  conv => whnf
  refine (wLen h.line).mono ?_
  rintro _ Wz ⟨hwz, rfl⟩
  subst hwz
  conv => whnf
  intro t ht
  obtain rfl : t = true := ht.yes (by decide)
  conv => whnf
  refine Run.mk' _ _ (build24_0 _) ?_
  conv => whnf
  refine (wKids h.line Idn.z).mono ?_
  rw [lv10]
  rintro _ W ⟨he, A2, c2, rfl, hk, _⟩
  replace h := h.go he
  conv => whnf
  refine (fn30 2 1 _).mono ?_
  rintro _ W ⟨he, rfl⟩
  replace h := h.go he
  replace hk := hk.ext he
  conv => whnf
  refine (fn30 1 0 _).mono ?_
  rintro _ W5 ⟨he, rfl⟩
  replace h := h.go he
  replace hk := hk.ext he
  conv => whnf
  refine Run.mk' _ _ (slice41_2 2 1 1 0 W5) ?_
  have hN := New.mk' W5 (.cells #[.int .i64 2, .int .i64 1, .int .i64 1, .int .i64 0] 24)
  generalize W5.alloc (.cells #[.int .i64 2, .int .i64 1, .int .i64 1, .int .i64 0] 24) = W6 at hN ⊢
  replace h := h.go hN.e
  replace hk := hk.ext hN.e
  have hk2 : Row24 W6 (some ⟨W5.heap.size, 0, none⟩) 2 [⟨2, 1⟩, ⟨1, 0⟩] := Row.of_at cl24 (by decide) hN.at_ rfl rfl (by decide)
  conv => whnf
  refine (fn23 hk hk2).mono ?_
  rintro _ W ⟨he, rfl⟩
  conv => whnf
  exact ⟨h.ext.tr he, rfl⟩
end Go.Proofs.Ytbkmbignincilaa
