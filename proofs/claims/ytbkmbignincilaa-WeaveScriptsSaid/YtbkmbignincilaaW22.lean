/- duetlaw11.WeaveScripts. (Printed by tools/genw22w.py.) -/
import Derived.Test.YtbkmbignincilaaW28
namespace Go.Proofs.Ytbkmbignincilaa
open Go Go.VC Go.RowKit
set_option linter.unusedVariables false
set_option linter.unusedSimpArgs false
set_option maxRecDepth 100000

theorem build30_0 (w : World) : (Instr.build 30 #[]).run Try.prog w = .ok (.agg #[.slice none 0 0]) w := by kernel_rfl
/-- The program's line and the reference's, of one content. -/
structure Both (w0 w : World) (B F : Nat → Prop) (b rb : Nat) (S : List El) : Prop where
  lx : LX w0 w B b S
  rf : RF w F rb S
  low : ∀ k, F k → w0.heap.size ≤ k
  apart : ∀ k, B k → ¬ F k
theorem Both.go {w0 w W : World} {B F : Nat → Prop} {b rb : Nat} {S : List El} (h : Both w0 w B F b rb S) (he : Ext w W) : Both w0 W B F b rb S := ⟨h.lx.go he, h.rf.ext he, h.low, h.apart⟩
/-- First the one is changed, then the other. -/
theorem Both.step {w0 w W1 W2 : World} {B F B' F' : Nat → Prop} {b rb : Nat} {S S' : List El} (h : Both w0 w B F b rb S) (h1 : Chg B w W1) (hl : LX w0 W1 B' b S') (hB : ∀ k, B' k → B k ∨ w.heap.size ≤ k)
    (h2 : Chg F W1 W2) (hr : RF W2 F' rb S') (hF : ∀ k, F' k → F k ∨ W1.heap.size ≤ k) : Both w0 W2 B' F' b rb S' := by
  have hBF : ∀ k, B' k → ¬ F k := fun k hb hf => by
    rcases hB k hb with h3 | h3
    · exact h.apart k h3 hf
    · have := h.rf.lt hf; omega
  refine ⟨⟨hl.line.chg h2 (fun k hf hb => hBF k hb hf), Chg.ext_new hl.ext h2 h.low, hl.low⟩, hr, fun k hk => ?_, fun k hb hf => ?_⟩
  · rcases hF k hk with h3 | h3
    · exact h.low k h3
    · exact Nat.le_trans hl.ext.le h3
  · rcases hF k hf with h3 | h3
    · exact hBF k hb h3
    · have := hl.line.lt hb; omega

set_option maxHeartbeats 8000000
theorem fn3 {w : World} {A : Option Addr} {n c : Nat} {zs : List Op1} (h : Row32 w A n zs) (x : Idn) : Ret Try.prog 3 #[.slice A n c, kI x] w fun v W => Ext w W ∧ v = .bool true := by
  have hl := h.len
  have hs := h.small
  refine Ret.of_vc tab_ok Try.func3 rfl Try.ntmps3 rfl (Nat.le_of_ble_eq_true rfl) Try.call3 ?_
  conv => whnf
  intro W0 hW0
  have hb3 := hW0.at_
  have hE0 := hW0.e
  clear hW0
  generalize w.heap.size = b3 at hb3 ⊢
  conv => whnf
  refine (xNew (Ext.refl W0)).mono ?_
  rintro _ W ⟨b, B, rfl, hx⟩
  conv => whnf
  refine Run.mk' _ _ (build30_0 W) ?_
  conv => whnf
  intro W1 hW1
  have hboth : Both W0 W1 B (fun k => k = W.heap.size ∨ (Value.slice none 0 0).ownBlock = some k) b W.heap.size [] :=
    ⟨hx.go hW1.e, ⟨_, hW1.at_, own_nil_ _ _ _ _, by decide, fun k => Iff.rfl⟩, fun k hk => (by
      rcases hk with rfl | hk
      · exact hx.ext.le
      · cases hk), fun k hb hf => (by
      rcases hf with rfl | hf
      · have := hx.line.lt hb; omega
      · cases hf)⟩
  generalize W.heap.size = rb at hboth ⊢
  clear hx hW1
  have hbb : ∀ {Wn : World}, Ext W0 Wn → Wn.heap[b3]? = some (.cells #[.int .i64 x.t, .int .i64 x.s] 24 (0, 0)) := fun he => he.at_ hb3
  conv => whnf
  refine VLoop.mk' tab_ok (X := Nat × List El × (Nat → Prop) × (Nat → Prop)) (fun p => [(0, .slice A n c), (3, ptr b3), (5, ptr b), (6, ptr rb), (7, .int .i64 p.1), (4, .bool false)])
    (fun p W => Both W0 W p.2.2.1 p.2.2.2 b rb p.2.1 ∧ p.1 ≤ n) (fun p _ => n - p.1) (0, [], B, _) ⟨rfl, rfl, rfl, rfl, rfl, rfl, trivial⟩ ⟨hboth, Nat.zero_le _⟩ ?_
  clear hboth
  rintro ⟨i, S, B, F⟩ j Wi ⟨hx, hin⟩
  dsimp only at hx hin
  conv => whnf
  intro t ht
  cases t <;> simp only [VB] at ht
  case false =>
    conv => whnf
    refine (live_end (hE0.tr hx.lx.ext)).mono ?_
    rintro _ We ⟨he, rfl⟩
    conv => whnf
    exact ⟨he, rfl⟩
  conv => whnf
  intro t ht2
  cases t <;> simp only [VB] at ht2
  case false =>
    conv => whnf
    refine (live_end (hE0.tr hx.lx.ext)).mono ?_
    rintro _ We ⟨he, rfl⟩
    conv => whnf
    exact ⟨he, rfl⟩
  have hi : i < n := by omega
  conv => whnf
  obtain ⟨a0, hk0, hA, hcell⟩ := h.at_ hi
  obtain ⟨o, ho⟩ : ∃ o, o = zs[i] := ⟨_, rfl⟩
  rw [← ho] at hcell
  refine ⟨by omega, by omega, a0, hA, ?_⟩
  conv => whnf
  refine ⟨cO o, rfl, hcell.ext (hE0.tr hx.lx.ext), ?_⟩
  conv => whnf
  intro W2 hW2
  conv => whnf
  refine ⟨Wi.heap.size, 0, _, _, rfl, hW2.at_, Nat.le_of_ble_eq_true rfl, rfl, rfl, fun W3 hW3 => ?_⟩
  have hE13 : Ext Wi W3 := hW3.e hW2.e (Nat.le_refl _)
  have hb8 : W3.heap[Wi.heap.size]? = some (.cells (cO o).toArray 32 (0, 0)) := hW3.at_
  have hb8n : ¬ B Wi.heap.size := fun hf => by have := hx.lx.line.lt hf; omega
  generalize Wi.heap.size = b8 at hb8 hb8n ⊢
  replace hx := hx.go hE13
  clear hW2 hW3 hE13 hcell
  conv => whnf
  refine ⟨.bool o.drop, ld hb8 rfl rfl, ?_⟩
  have hok := hx.lx.line.ok
  cases hod : o.drop
  case false =>
    conv => whnf
    refine VDraw.mk' tab_ok (fun W' => W'.heap[b8]? = some (.cells (cO o).toArray 32 (0, 0))) [15] (.take 0 <| .take 1 <| .take 2 <| .take 3 <| .take 4 <| .take 5 <| .take 6 <| .take 8 <| .take 9 <| .take 10 <| .take 11 <| .take 12 <| .take 13 <| .take 14 <| .one 7 <| .one 15 <| .take 16 <| .take 17 <| .done) mixed (by kernel_rfl) (by kernel_rfl) ((Ext.drew _).at_ hb8) ?_
    have hd := Ext.drew W3
    replace hx := hx.go hd
    replace hb8 := hd.at_ hb8
    generalize W3.drew = Wd at hx hb8 ⊢
    conv => whnf
    refine ⟨cI o.e.id, rfl, fun w' hs => lds hs rfl rfl, ?_⟩
    conv => whnf
    refine ⟨cI o.e.ref, rfl, fun w' hs => lds hs rfl rfl, ?_⟩
    conv => whnf
    refine ⟨.int .i64 o.e.rune, fun w' hs => ld hs rfl rfl, ?_⟩
    conv => whnf
    refine ⟨cI o.e.id, rfl, fun w' hs => lds hs rfl rfl, ?_⟩
    conv => whnf
    refine ⟨cI o.e.ref, rfl, fun w' hs => lds hs rfl rfl, ?_⟩
    conv => whnf
    refine ⟨.int .i64 o.e.rune, fun w' hs => ld hs rfl rfl, ?_⟩
    conv => whnf
    refine (xInsert hx.lx o.e).mono ?_
    rintro _ W4 ⟨rfl, hc, B', hx', hB'⟩
    refine ⟨hc.at_ hb8 hb8n, ?_⟩
    conv => whnf
    refine (fn17 hok (hx.rf.chg hc hx.apart) o.e).mono ?_
    rintro _ W5 ⟨rfl, hc2, F', hr', hF'⟩
    replace hx := hx.step hc hx' hB' hc2 hr' hF'
    generalize insE S o.e = er
    generalize insS S o.e = S' at hx
    conv => whnf
    intro t ht
    obtain rfl : t = true := ht.yes rfl
    have hok' := hx.lx.line.ok
    conv => whnf
    refine ⟨cI x, rfl, lds (hbb hx.lx.ext) rfl rfl, ?_⟩
    conv => whnf
    refine (wPlace hx.lx.line x).mono ?_
    rintro _ W6 ⟨he6, rfl⟩
    replace hx := hx.go he6
    unfold placeV
    cases hpl : placeL (own S' Idn.z) x with
    | none =>
      conv => whnf
      refine ⟨cI x, rfl, lds (hbb hx.lx.ext) rfl rfl, ?_⟩
      conv => whnf
      refine (fn19 hok' hx.rf x).mono ?_
      rintro _ W7 ⟨he7, rfl⟩
      replace hx := hx.go he7
      unfold placeV
      rw [hpl]
      conv => whnf
      refine VDraw.mk' tab_ok (Ext W7) [] (.take 0 <| .take 1 <| .take 2 <| .take 3 <| .take 4 <| .take 5 <| .take 6 <| .take 7 <| .take 8 <| .take 9 <| .take 10 <| .take 11 <| .take 12 <| .take 13 <| .take 15 <| .one 14 <| .one 16 <| .one 17 <| .take 18 <| .take 19 <| .take 20 <| .take 21 <| .take 22 <| .take 24 <| .take 25 <| .one 23 <| .one 26 <| .one 27 <| .take 28 <| .take 29 <| .take 30 <| .take 31 <| .take 33 <| .take 34 <| .take 35 <| .take 36 <| .take 37 <| .one 32 <| .take 38 <| .take 39 <| .done) mixed (by kernel_rfl) (by kernel_rfl) (Ext.drew _) ?_
      have hd := Ext.drew W7
      have hx7 := hx
      replace hx := hx.go hd
      generalize W7.drew = Wa at hd hx ⊢
      conv => whnf
      intro t ht
      obtain rfl : t = false := ht.no (by simp)
      conv => whnf
      intro t ht
      obtain rfl : t = true := ht.yes rfl
      conv => whnf
      refine (wElements hx.lx.line).mono ?_
      rintro _ Wb ⟨heb, A1, c1, rfl, hr1, _⟩
      replace hd := hd.tr heb
      replace hx := hx.go heb
      refine ⟨hd, ?_⟩
      conv => whnf
      refine (fn22 hok' hx.rf).mono ?_
      rintro _ Wc ⟨hec, A2, c2, rfl, hr2⟩
      replace hd := hd.tr hec
      replace hx := hx.go hec
      refine ⟨hd, ?_⟩
      conv => whnf
      refine (fn20 (hr1.ext hec) hr2).mono ?_
      rintro _ We ⟨hee, rfl⟩
      replace hd := hd.tr hee
      replace hx := hx.go hee
      refine ⟨hd, ?_⟩
      rw [decide_eq_true rfl]
      conv => whnf
      refine ⟨cI x, rfl, fun w' hs => lds (hbb (hx7.lx.ext.tr hs)) rfl rfl, ?_⟩
      conv => whnf
      refine ⟨cI x, rfl, fun w' hs => lds (hbb (hx7.lx.ext.tr hs)) rfl rfl, ?_⟩
      conv => whnf
      refine (wKids hx.lx.line x).mono ?_
      rintro _ Wf ⟨hef, A3, c3, rfl, hr3, _⟩
      replace hd := hd.tr hef
      replace hx := hx.go hef
      refine ⟨hd, ?_⟩
      conv => whnf
      refine (fn25 hx.rf hok' x).mono ?_
      rintro _ Wg ⟨heg, A4, c4, rfl, hr4⟩
      replace hd := hd.tr heg
      replace hx := hx.go heg
      refine ⟨hd, ?_⟩
      conv => whnf
      refine (fn23 (hr3.ext heg) hr4).mono ?_
      rintro _ Wh ⟨heh, rfl⟩
      replace hd := hd.tr heh
      replace hx := hx.go heh
      refine ⟨hd, ?_⟩
      rw [decide_eq_true rfl]
      conv => whnf
      obtain ⟨Ar, cr, hrb, _⟩ := hx7.rf.open
      refine ⟨.slice Ar S'.length cr, fun w' hs => hs.cell (ld hrb rfl rfl), ?_⟩
      conv => whnf
      refine (wLen hx.lx.line).mono ?_
      rintro _ Wz ⟨hwz, rfl⟩
      subst hwz
      refine ⟨hd, ?_⟩
      conv => whnf
      intro t ht
      obtain rfl : t = false := ht.no (by simp)
      conv => whnf
      intro r hr
      obtain rfl : r = ((i + 1 : Nat) : Int) := by rw [hr, wrap_id (by omega) (by omega)]; rfl
      clear hr
      conv => whnf
      exact ⟨(i + 1, S', B', F'), ⟨rfl, rfl, rfl, rfl, rfl, rfl, trivial⟩, ⟨hx, by dsimp only; omega⟩, by dsimp only; omega⟩
    | some at_ =>
      conv => whnf
      refine ⟨cI x, rfl, lds (hbb hx.lx.ext) rfl rfl, ?_⟩
      conv => whnf
      refine (fn19 hok' hx.rf x).mono ?_
      rintro _ W7 ⟨he7, rfl⟩
      replace hx := hx.go he7
      unfold placeV
      rw [hpl]
      conv => whnf
      refine VDraw.mk' tab_ok (Ext W7) [] (.take 0 <| .take 1 <| .take 2 <| .take 3 <| .take 4 <| .take 5 <| .take 6 <| .take 7 <| .take 8 <| .take 9 <| .take 10 <| .take 11 <| .take 12 <| .take 13 <| .take 15 <| .one 14 <| .one 16 <| .one 17 <| .take 18 <| .take 19 <| .take 20 <| .take 21 <| .take 22 <| .take 24 <| .take 25 <| .one 23 <| .one 26 <| .one 27 <| .take 28 <| .take 29 <| .take 30 <| .take 31 <| .take 33 <| .take 34 <| .take 35 <| .take 36 <| .take 37 <| .one 32 <| .take 38 <| .take 39 <| .done) mixed (by kernel_rfl) (by kernel_rfl) (Ext.drew _) ?_
      have hd := Ext.drew W7
      have hx7 := hx
      replace hx := hx.go hd
      generalize W7.drew = Wa at hd hx ⊢
      conv => whnf
      intro t ht
      obtain rfl : t = false := ht.no (by simp)
      conv => whnf
      intro t ht
      obtain rfl : t = true := ht.yes rfl
      conv => whnf
      refine (wElements hx.lx.line).mono ?_
      rintro _ Wb ⟨heb, A1, c1, rfl, hr1, _⟩
      replace hd := hd.tr heb
      replace hx := hx.go heb
      refine ⟨hd, ?_⟩
      conv => whnf
      refine (fn22 hok' hx.rf).mono ?_
      rintro _ Wc ⟨hec, A2, c2, rfl, hr2⟩
      replace hd := hd.tr hec
      replace hx := hx.go hec
      refine ⟨hd, ?_⟩
      conv => whnf
      refine (fn20 (hr1.ext hec) hr2).mono ?_
      rintro _ We ⟨hee, rfl⟩
      replace hd := hd.tr hee
      replace hx := hx.go hee
      refine ⟨hd, ?_⟩
      rw [decide_eq_true rfl]
      conv => whnf
      refine ⟨cI x, rfl, fun w' hs => lds (hbb (hx7.lx.ext.tr hs)) rfl rfl, ?_⟩
      conv => whnf
      refine ⟨cI x, rfl, fun w' hs => lds (hbb (hx7.lx.ext.tr hs)) rfl rfl, ?_⟩
      conv => whnf
      refine (wKids hx.lx.line x).mono ?_
      rintro _ Wf ⟨hef, A3, c3, rfl, hr3, _⟩
      replace hd := hd.tr hef
      replace hx := hx.go hef
      refine ⟨hd, ?_⟩
      conv => whnf
      refine (fn25 hx.rf hok' x).mono ?_
      rintro _ Wg ⟨heg, A4, c4, rfl, hr4⟩
      replace hd := hd.tr heg
      replace hx := hx.go heg
      refine ⟨hd, ?_⟩
      conv => whnf
      refine (fn23 (hr3.ext heg) hr4).mono ?_
      rintro _ Wh ⟨heh, rfl⟩
      replace hd := hd.tr heh
      replace hx := hx.go heh
      refine ⟨hd, ?_⟩
      rw [decide_eq_true rfl]
      conv => whnf
      obtain ⟨Ar, cr, hrb, _⟩ := hx7.rf.open
      refine ⟨.slice Ar S'.length cr, fun w' hs => hs.cell (ld hrb rfl rfl), ?_⟩
      conv => whnf
      refine (wLen hx.lx.line).mono ?_
      rintro _ Wz ⟨hwz, rfl⟩
      subst hwz
      refine ⟨hd, ?_⟩
      conv => whnf
      intro t ht
      obtain rfl : t = false := ht.no (by simp)
      conv => whnf
      intro r hr
      obtain rfl : r = ((i + 1 : Nat) : Int) := by rw [hr, wrap_id (by omega) (by omega)]; rfl
      clear hr
      conv => whnf
      exact ⟨(i + 1, S', B', F'), ⟨rfl, rfl, rfl, rfl, rfl, rfl, trivial⟩, ⟨hx, by dsimp only; omega⟩, by dsimp only; omega⟩
  case true =>
    conv => whnf
    refine VDraw.mk' tab_ok (fun W' => W'.heap[b8]? = some (.cells (cO o).toArray 32 (0, 0))) [7] (.take 0 <| .take 1 <| .take 2 <| .take 4 <| .take 5 <| .take 6 <| .one 3 <| .one 7 <| .take 8 <| .take 9 <| .done) mixed (by kernel_rfl) (by kernel_rfl) ((Ext.drew _).at_ hb8) ?_
    have hd := Ext.drew W3
    replace hx := hx.go hd
    replace hb8 := hd.at_ hb8
    generalize W3.drew = Wd at hx hb8 ⊢
    conv => whnf
    refine ⟨cI o.e.id, rfl, fun w' hs => lds hs rfl rfl, ?_⟩
    conv => whnf
    refine ⟨cI o.e.id, rfl, fun w' hs => lds hs rfl rfl, ?_⟩
    conv => whnf
    refine (xDrop hx.lx o.e.id).mono ?_
    rintro _ W4 ⟨rfl, hc, B', hx', hB'⟩
    refine ⟨hc.at_ hb8 hb8n, ?_⟩
    conv => whnf
    refine (fn15 hok (hx.rf.chg hc hx.apart) o.e.id).mono ?_
    rintro _ W5 ⟨rfl, hc2, F', hr', hF'⟩
    replace hx := hx.step hc hx' hB' hc2 hr' hF'
    generalize drpE S o.e.id = er
    generalize drpS S o.e.id = S' at hx
    conv => whnf
    intro t ht
    obtain rfl : t = true := ht.yes rfl
    have hok' := hx.lx.line.ok
    conv => whnf
    refine ⟨cI x, rfl, lds (hbb hx.lx.ext) rfl rfl, ?_⟩
    conv => whnf
    refine (wPlace hx.lx.line x).mono ?_
    rintro _ W6 ⟨he6, rfl⟩
    replace hx := hx.go he6
    unfold placeV
    cases hpl : placeL (own S' Idn.z) x with
    | none =>
      conv => whnf
      refine ⟨cI x, rfl, lds (hbb hx.lx.ext) rfl rfl, ?_⟩
      conv => whnf
      refine (fn19 hok' hx.rf x).mono ?_
      rintro _ W7 ⟨he7, rfl⟩
      replace hx := hx.go he7
      unfold placeV
      rw [hpl]
      conv => whnf
      refine VDraw.mk' tab_ok (Ext W7) [] (.take 0 <| .take 1 <| .take 2 <| .take 3 <| .take 4 <| .take 5 <| .take 6 <| .take 7 <| .take 8 <| .take 9 <| .take 10 <| .take 11 <| .take 12 <| .take 13 <| .take 15 <| .one 14 <| .one 16 <| .one 17 <| .take 18 <| .take 19 <| .take 20 <| .take 21 <| .take 22 <| .take 24 <| .take 25 <| .one 23 <| .one 26 <| .one 27 <| .take 28 <| .take 29 <| .take 30 <| .take 31 <| .take 33 <| .take 34 <| .take 35 <| .take 36 <| .take 37 <| .one 32 <| .take 38 <| .take 39 <| .done) mixed (by kernel_rfl) (by kernel_rfl) (Ext.drew _) ?_
      have hd := Ext.drew W7
      have hx7 := hx
      replace hx := hx.go hd
      generalize W7.drew = Wa at hd hx ⊢
      conv => whnf
      intro t ht
      obtain rfl : t = false := ht.no (by simp)
      conv => whnf
      intro t ht
      obtain rfl : t = true := ht.yes rfl
      conv => whnf
      refine (wElements hx.lx.line).mono ?_
      rintro _ Wb ⟨heb, A1, c1, rfl, hr1, _⟩
      replace hd := hd.tr heb
      replace hx := hx.go heb
      refine ⟨hd, ?_⟩
      conv => whnf
      refine (fn22 hok' hx.rf).mono ?_
      rintro _ Wc ⟨hec, A2, c2, rfl, hr2⟩
      replace hd := hd.tr hec
      replace hx := hx.go hec
      refine ⟨hd, ?_⟩
      conv => whnf
      refine (fn20 (hr1.ext hec) hr2).mono ?_
      rintro _ We ⟨hee, rfl⟩
      replace hd := hd.tr hee
      replace hx := hx.go hee
      refine ⟨hd, ?_⟩
      rw [decide_eq_true rfl]
      conv => whnf
      refine ⟨cI x, rfl, fun w' hs => lds (hbb (hx7.lx.ext.tr hs)) rfl rfl, ?_⟩
      conv => whnf
      refine ⟨cI x, rfl, fun w' hs => lds (hbb (hx7.lx.ext.tr hs)) rfl rfl, ?_⟩
      conv => whnf
      refine (wKids hx.lx.line x).mono ?_
      rintro _ Wf ⟨hef, A3, c3, rfl, hr3, _⟩
      replace hd := hd.tr hef
      replace hx := hx.go hef
      refine ⟨hd, ?_⟩
      conv => whnf
      refine (fn25 hx.rf hok' x).mono ?_
      rintro _ Wg ⟨heg, A4, c4, rfl, hr4⟩
      replace hd := hd.tr heg
      replace hx := hx.go heg
      refine ⟨hd, ?_⟩
      conv => whnf
      refine (fn23 (hr3.ext heg) hr4).mono ?_
      rintro _ Wh ⟨heh, rfl⟩
      replace hd := hd.tr heh
      replace hx := hx.go heh
      refine ⟨hd, ?_⟩
      rw [decide_eq_true rfl]
      conv => whnf
      obtain ⟨Ar, cr, hrb, _⟩ := hx7.rf.open
      refine ⟨.slice Ar S'.length cr, fun w' hs => hs.cell (ld hrb rfl rfl), ?_⟩
      conv => whnf
      refine (wLen hx.lx.line).mono ?_
      rintro _ Wz ⟨hwz, rfl⟩
      subst hwz
      refine ⟨hd, ?_⟩
      conv => whnf
      intro t ht
      obtain rfl : t = false := ht.no (by simp)
      conv => whnf
      intro r hr
      obtain rfl : r = ((i + 1 : Nat) : Int) := by rw [hr, wrap_id (by omega) (by omega)]; rfl
      clear hr
      conv => whnf
      exact ⟨(i + 1, S', B', F'), ⟨rfl, rfl, rfl, rfl, rfl, rfl, trivial⟩, ⟨hx, by dsimp only; omega⟩, by dsimp only; omega⟩
    | some at_ =>
      conv => whnf
      refine ⟨cI x, rfl, lds (hbb hx.lx.ext) rfl rfl, ?_⟩
      conv => whnf
      refine (fn19 hok' hx.rf x).mono ?_
      rintro _ W7 ⟨he7, rfl⟩
      replace hx := hx.go he7
      unfold placeV
      rw [hpl]
      conv => whnf
      refine VDraw.mk' tab_ok (Ext W7) [] (.take 0 <| .take 1 <| .take 2 <| .take 3 <| .take 4 <| .take 5 <| .take 6 <| .take 7 <| .take 8 <| .take 9 <| .take 10 <| .take 11 <| .take 12 <| .take 13 <| .take 15 <| .one 14 <| .one 16 <| .one 17 <| .take 18 <| .take 19 <| .take 20 <| .take 21 <| .take 22 <| .take 24 <| .take 25 <| .one 23 <| .one 26 <| .one 27 <| .take 28 <| .take 29 <| .take 30 <| .take 31 <| .take 33 <| .take 34 <| .take 35 <| .take 36 <| .take 37 <| .one 32 <| .take 38 <| .take 39 <| .done) mixed (by kernel_rfl) (by kernel_rfl) (Ext.drew _) ?_
      have hd := Ext.drew W7
      have hx7 := hx
      replace hx := hx.go hd
      generalize W7.drew = Wa at hd hx ⊢
      conv => whnf
      intro t ht
      obtain rfl : t = false := ht.no (by simp)
      conv => whnf
      intro t ht
      obtain rfl : t = true := ht.yes rfl
      conv => whnf
      refine (wElements hx.lx.line).mono ?_
      rintro _ Wb ⟨heb, A1, c1, rfl, hr1, _⟩
      replace hd := hd.tr heb
      replace hx := hx.go heb
      refine ⟨hd, ?_⟩
      conv => whnf
      refine (fn22 hok' hx.rf).mono ?_
      rintro _ Wc ⟨hec, A2, c2, rfl, hr2⟩
      replace hd := hd.tr hec
      replace hx := hx.go hec
      refine ⟨hd, ?_⟩
      conv => whnf
      refine (fn20 (hr1.ext hec) hr2).mono ?_
      rintro _ We ⟨hee, rfl⟩
      replace hd := hd.tr hee
      replace hx := hx.go hee
      refine ⟨hd, ?_⟩
      rw [decide_eq_true rfl]
      conv => whnf
      refine ⟨cI x, rfl, fun w' hs => lds (hbb (hx7.lx.ext.tr hs)) rfl rfl, ?_⟩
      conv => whnf
      refine ⟨cI x, rfl, fun w' hs => lds (hbb (hx7.lx.ext.tr hs)) rfl rfl, ?_⟩
      conv => whnf
      refine (wKids hx.lx.line x).mono ?_
      rintro _ Wf ⟨hef, A3, c3, rfl, hr3, _⟩
      replace hd := hd.tr hef
      replace hx := hx.go hef
      refine ⟨hd, ?_⟩
      conv => whnf
      refine (fn25 hx.rf hok' x).mono ?_
      rintro _ Wg ⟨heg, A4, c4, rfl, hr4⟩
      replace hd := hd.tr heg
      replace hx := hx.go heg
      refine ⟨hd, ?_⟩
      conv => whnf
      refine (fn23 (hr3.ext heg) hr4).mono ?_
      rintro _ Wh ⟨heh, rfl⟩
      replace hd := hd.tr heh
      replace hx := hx.go heh
      refine ⟨hd, ?_⟩
      rw [decide_eq_true rfl]
      conv => whnf
      obtain ⟨Ar, cr, hrb, _⟩ := hx7.rf.open
      refine ⟨.slice Ar S'.length cr, fun w' hs => hs.cell (ld hrb rfl rfl), ?_⟩
      conv => whnf
      refine (wLen hx.lx.line).mono ?_
      rintro _ Wz ⟨hwz, rfl⟩
      subst hwz
      refine ⟨hd, ?_⟩
      conv => whnf
      intro t ht
      obtain rfl : t = false := ht.no (by simp)
      conv => whnf
      intro r hr
      obtain rfl : r = ((i + 1 : Nat) : Int) := by rw [hr, wrap_id (by omega) (by omega)]; rfl
      clear hr
      conv => whnf
      exact ⟨(i + 1, S', B', F'), ⟨rfl, rfl, rfl, rfl, rfl, rfl, trivial⟩, ⟨hx, by dsimp only; omega⟩, by dsimp only; omega⟩
end Go.Proofs.Ytbkmbignincilaa
