/- duetlaw11.WeaveStays. (Printed by tools/genw24.py.) -/
import Derived.Test.YtbkmbignincilaaW19
import Derived.Test.YtbkmbignincilaaW18
namespace Go.Proofs.Ytbkmbignincilaa
open Go Go.VC Go.RowKit
set_option linter.unusedVariables false
set_option linter.unusedSimpArgs false
set_option maxRecDepth 100000

theorem cl32 : ∀ z : Op1, (cO z).length = 6 := fun _ => rfl
def stepS (S : List El) (o : Op1) : List El := if o.drop then drpS S o.e.id else insS S o.e
/-- What was there, against what is there behind an insert of x. -/
structure NowI (was now : List El) (x : Idn) (i0 : Nat) : Prop where
  lo : ∀ j a, now[j]? = some a → j < i0 → was[j]? = some a
  eq : ∀ a, now[i0]? = some a → a.id = x ∧ ∀ b, was[i0]? = some b → b.id ≠ x
  hi : ∀ j a, now[j]? = some a → i0 < j → was[j - 1]? = some a
def NowD (was now : List El) (i0 : Nat) : Prop := ∀ j a, now[j]? = some a → was[if j < i0 then j else j + 1]? = some a
theorem now_ins {S : List El} (h : SOK S) (e : El) : ∃ i0, NowI (own S Idn.z) (own (insS S e) Idn.z) e.id i0 := by
  by_cases h0 : insE S e = 0
  · obtain ⟨i, hi, hn, hni, _⟩ := ins_at h h0
    generalize own (insS S e) Idn.z = now at *
    generalize own S Idn.z = was at *
    subst hn
    have hl : (was.take i).length = i := by rw [List.length_take]; omega
    refine ⟨i, fun j a ha hj => ?_, fun a ha => ?_, fun j a ha hj => ?_⟩
    · rw [List.getElem?_append_left (by omega), List.getElem?_take_of_lt hj] at ha
      exact ha
    · rw [List.getElem?_append_right (by omega), hl, Nat.sub_self] at ha
      simp only [List.getElem?_cons_zero, Option.some.injEq] at ha
      subst ha
      exact ⟨rfl, fun b hb e1 => hni (e1 ▸ List.mem_map_of_mem (f := fun e : El => e.id) (List.mem_of_getElem? hb))⟩
    · obtain ⟨d, rfl⟩ : ∃ d, j = i + 1 + d := ⟨j - (i + 1), by omega⟩
      rw [List.getElem?_append_right (by omega), hl, show i + 1 + d - i = d + 1 by omega, List.getElem?_cons_succ, List.getElem?_drop] at ha
      rw [show i + 1 + d - 1 = i + d by omega]
      exact ha
  · have : insS S e = S := by unfold insS; rw [if_neg h0]
    rw [this]
    refine ⟨(own S Idn.z).length, fun j a ha hj => ha, fun a ha => ?_, fun j a ha hj => ?_⟩
    · rw [List.getElem?_eq_none (Nat.le_refl _)] at ha; cases ha
    · have := (List.getElem?_eq_some_iff.1 ha).1; omega
theorem now_drp {S : List El} (h : SOK S) (x : Idn) : ∃ i0, NowD (own S Idn.z) (own (drpS S x) Idn.z) i0 := by
  by_cases h0 : drpE S x = 0
  · obtain ⟨i, hi, _, hn⟩ := drp_at h h0
    generalize own (drpS S x) Idn.z = now at *
    generalize own S Idn.z = was at *
    subst hn
    have hl : (was.take i).length = i := by rw [List.length_take]; omega
    refine ⟨i, fun j a ha => ?_⟩
    split
    · rename_i hj
      rw [List.getElem?_append_left (by omega), List.getElem?_take_of_lt hj] at ha
      exact ha
    · rw [List.getElem?_append_right (by omega), hl, List.getElem?_drop, show i + 1 + (j - i) = j + 1 by omega] at ha
      exact ha
  · have : drpS S x = S := by unfold drpS; rw [if_neg h0]
    rw [this]
    refine ⟨(own S Idn.z).length, fun j a ha => ?_⟩
    have := (List.getElem?_eq_some_iff.1 ha).1
    rw [if_pos this]
    exact ha
/-- The inner loop's k, ahead of step j. -/
def Kat (drop : Bool) (i0 j k : Nat) : Prop := if drop then k ≤ (if j < i0 then j else j + 1) else k = if j ≤ i0 then j else j - 1
theorem ids_inj {l : List El} (h : (ids l).Nodup) {i j : Nat} {a b : El} (ha : l[i]? = some a) (hb : l[j]? = some b) (e : a.id = b.id) : i = j := by
  have hi := (List.getElem?_eq_some_iff.1 ha).1
  have hj := (List.getElem?_eq_some_iff.1 hb).1
  have h1 := List.nodup_iff_pairwise_ne.1 h
  have h2 := List.pairwise_iff_getElem.1 h1
  have ea : (ids l)[i]'(by simpa using hi) = a.id := by simp [(List.getElem?_eq_some_iff.1 ha).2]
  have eb : (ids l)[j]'(by simpa using hj) = b.id := by simp [(List.getElem?_eq_some_iff.1 hb).2]
  rcases Nat.lt_trichotomy i j with h3 | h3 | h3
  · exact absurd (ea.trans (e.trans eb.symm)) (h2 i j _ _ h3)
  · exact h3
  · exact absurd (eb.trans (e.symm.trans ea.symm)) (h2 j i _ _ h3)
theorem live_end {w W : World} (h : Ext w W) : Ret Try.prog 27 #[] W fun v W' => Ext w W' ∧ v = .bool true := (fn27 W).mono fun v W' ⟨he, hv⟩ => ⟨h.tr he, hv⟩

set_option maxHeartbeats 8000000
theorem fn6 {w : World} {A : Option Addr} {n c : Nat} {zs : List Op1} (h : Row32 w A n zs) : Ret Try.prog 6 #[.slice A n c] w fun v W => Ext w W ∧ v = .bool true := by
  have hl := h.len
  have hs := h.small
  refine Ret.of_vc tab_ok Try.func6 rfl Try.ntmps6 rfl (Nat.le_of_ble_eq_true rfl) Try.call6 ?_
  conv => whnf
  refine (xNew (Ext.refl w)).mono ?_
  rintro _ W ⟨b, B, rfl, hx⟩
  conv => whnf
  refine VLoop.mk' tab_ok (X := Nat × List El × (Nat → Prop)) (fun p => [(0, .slice A n c), (3, ptr b), (4, .int .i64 p.1), (2, .bool false)])
    (fun p W => LX w W p.2.2 b p.2.1 ∧ p.1 ≤ n) (fun p _ => n - p.1) (0, [], B) ⟨rfl, rfl, rfl, rfl, trivial⟩ ⟨hx, Nat.zero_le _⟩ ?_
  rintro ⟨i, S, B⟩ j Wi ⟨hx, hin⟩
  dsimp only at hx hin
  conv => whnf
  intro t ht
  cases t <;> simp only [VB] at ht
  case false =>
    conv => whnf
    refine (live_end hx.ext).mono ?_
    rintro _ We ⟨he, rfl⟩
    conv => whnf
    exact ⟨he, rfl⟩
  conv => whnf
  intro t ht2
  cases t <;> simp only [VB] at ht2
  case false =>
    conv => whnf
    refine (live_end hx.ext).mono ?_
    rintro _ We ⟨he, rfl⟩
    conv => whnf
    exact ⟨he, rfl⟩
  have hi : i < n := by omega
  conv => whnf
  refine (wElements hx.line).mono ?_
  rintro _ W1 ⟨he, A1, c1, rfl, hwas, hfr⟩
  have hBlt : ∀ k, B k → k < Wi.heap.size := fun k hk => hx.line.lt hk
  replace hx := hx.go he
  have hok := hx.line.ok
  have hnd := own_ids hok (x := Idn.z) (.inl rfl)
  obtain ⟨was, hwase⟩ : ∃ was, was = own S Idn.z := ⟨_, rfl⟩
  rw [← hwase] at hwas hnd ⊢
  have hwlen : was.length ≤ 4096 := by rw [hwase]; exact Nat.le_trans (own_len hok (.inl rfl)) hx.line.few
  generalize hwn : was.length = wn at hwas ⊢
  conv => whnf
  obtain ⟨a0, hk0, hA, hcell⟩ := h.at_ hi
  obtain ⟨o, ho⟩ : ∃ o, o = zs[i] := ⟨_, rfl⟩
  rw [← ho] at hcell
  refine ⟨by omega, by omega, a0, hA, ?_⟩
  conv => whnf
  refine ⟨cO o, rfl, hcell.ext hx.ext, ?_⟩
  conv => whnf
  intro W2 hW2
  conv => whnf
  refine ⟨W1.heap.size, 0, _, _, rfl, hW2.at_, Nat.le_of_ble_eq_true rfl, rfl, rfl, fun W3 hW3 => ?_⟩
  have hE13 : Ext W1 W3 := hW3.e hW2.e (Nat.le_refl _)
  have hb6 : W3.heap[W1.heap.size]? = some (.cells (cO o).toArray 32 (0, 0)) := hW3.at_
  have hb6n : ¬ B W1.heap.size := fun hf => by have := hBlt _ hf; have := he.le; omega
  generalize W1.heap.size = b6 at hb6 hb6n ⊢
  replace hx := hx.go hE13
  replace hwas := hwas.ext hE13
  have hwB : ∀ a, A1 = some a → ¬ B a.block := fun a e hf => by have := hBlt _ hf; have := hfr a e; omega
  clear hW2 hW3 hE13 hcell hfr
  conv => whnf
  refine ⟨.bool o.drop, ld hb6 rfl rfl, ?_⟩
  cases hod : o.drop
  case false =>
    conv => whnf
    refine ⟨cI o.e.id, rfl, lds hb6 rfl rfl, ?_⟩
    conv => whnf
    refine ⟨cI o.e.ref, rfl, lds hb6 rfl rfl, ?_⟩
    conv => whnf
    refine ⟨.int .i64 o.e.rune, ld hb6 rfl rfl, ?_⟩
    conv => whnf
    refine (xInsert hx o.e).mono ?_
    rintro _ W4 ⟨rfl, hc, B', hx', _⟩
    replace hwas := hwas.chg hc hwB
    replace hb6 := hc.at_ hb6 hb6n
    clear hx hc
    obtain ⟨i0, hN⟩ := now_ins hok o.e
    have hat : insE S o.e = 0 → ∃ i, placeL (own (insS S o.e) Idn.z) o.e.id = some i ∧ i ≤ 4096 ∧ (o.e.ref ≠ Idn.z → ∃ j, j < i ∧ placeL (own (insS S o.e) Idn.z) o.e.ref = some j) := fun h0 => by
      obtain ⟨i, hi, hn, hni, href⟩ := ins_at hok h0
      refine ⟨i, ?_, by rw [← hwase] at hi; omega, href⟩
      rw [hn]
      have := placeL_at (l := (own S Idn.z).take i ++ o.e :: (own S Idn.z).drop i) (p0 := (own S Idn.z).take i) (e := o.e) (x := o.e.id) ⟨(own S Idn.z).drop i, by simp⟩ rfl (fun a ha e1 => hni (e1 ▸ List.mem_map_of_mem (f := fun e : El => e.id) (List.mem_of_mem_take ha)))
      rw [this, List.length_take, Nat.min_eq_left hi]
    obtain ⟨S', hS'⟩ : ∃ S', S' = insS S o.e := ⟨_, rfl⟩
    rw [← hS'] at hx' hN hat
    have hx := hx'
    clear hx'
    conv => whnf
    refine ⟨cI o.e.id, rfl, lds hb6 rfl rfl, ?_⟩
    conv => whnf
    refine (wPlace hx.line o.e.id).mono ?_
    rintro _ Wp ⟨he, rfl⟩
    replace hx := hx.go he
    replace hwas := hwas.ext he
    replace hb6 := he.at_ hb6
    clear he
    unfold placeV
    cases hp1 : placeL (own S' Idn.z) o.e.id with
    | none =>
      conv => whnf
      refine ⟨cI o.e.ref, rfl, lds hb6 rfl rfl, ?_⟩
      conv => whnf
      refine (wPlace hx.line o.e.ref).mono ?_
      rintro _ Wq ⟨he, rfl⟩
      replace hx := hx.go he
      replace hwas := hwas.ext he
      replace hb6 := he.at_ hb6
      clear he
      have hne : insE S o.e ≠ 0 := fun h0 => by
        obtain ⟨i, h1, _⟩ := hat h0
        rw [hp1] at h1
        cases h1
      unfold placeV
      cases hp2 : placeL (own S' Idn.z) o.e.ref with
      | none =>
        conv => whnf
        intro t ht
        obtain rfl : t = false := ht.no hne
        -- what is there now
        conv => whnf
        refine (wElements hx.line).mono ?_
        rintro _ W5 ⟨he, A2, c2, rfl, hnow, hfr2⟩
        replace hx := hx.go he
        replace hwas := hwas.ext he
        replace hb6 := he.at_ hb6
        clear he hfr2
        obtain ⟨now, hnowe⟩ : ∃ now, now = own S' Idn.z := ⟨_, rfl⟩
        rw [← hnowe] at hnow hN ⊢
        rw [← hwase] at hN
        have hnlen : now.length ≤ 4096 := by rw [hnowe]; exact Nat.le_trans (own_len hx.line.ok (.inl rfl)) hx.line.few
        generalize hnn : now.length = nn at hnow ⊢
        clear hnowe
        conv => whnf
        refine VLoop.mk' tab_ok (X := Nat × Nat) (fun p => [(0, .slice A n c), (3, ptr b), (4, .int .i64 i), (2, .bool false), (5, .slice A1 wn c1), (12, .slice A2 nn c2), (6, ptr b6), (13, .int .i64 p.2), (14, .int .i64 p.1)])
          (fun p W => Ext W5 W ∧ p.1 ≤ nn ∧ Kat false i0 p.1 p.2) (fun p _ => nn - p.1) (0, 0) ⟨rfl, rfl, rfl, rfl, rfl, rfl, rfl, rfl, rfl, trivial⟩ ⟨Ext.refl _, Nat.zero_le _, by simp [Kat]⟩ ?_
        rintro ⟨q, k⟩ j2 W6 ⟨he6, hqn, hK⟩
        dsimp only at hqn hK
        conv => whnf
        intro t htq
        cases t <;> simp only [VB] at htq
        case false =>
          conv => whnf
          intro r hr
          obtain rfl : r = ((i + 1 : Nat) : Int) := by rw [hr, wrap_id (by omega) (by omega)]; rfl
          clear hr
          conv => whnf
          exact ⟨(i + 1, S', B'), ⟨rfl, rfl, rfl, rfl, trivial⟩, ⟨hx.go he6, by dsimp only; omega⟩, by dsimp only; omega⟩
        have hq : q < nn := by omega
        obtain ⟨aq, kq, hAq, dq⟩ := hnow.at_ hq
        obtain ⟨y, hy⟩ : ∃ y, y = now[q] := ⟨_, rfl⟩
        have hyq : now[q]? = some y := by rw [hy]; exact List.getElem?_eq_getElem kq
        rw [← hy] at dq
        conv => whnf
        have hKk : k = if q ≤ i0 then q else q - 1 := by simpa [Kat] using hK
        refine VLoop.mk' tab_ok (X := Unit) (fun _ => [(0, .slice A n c), (3, ptr b), (4, .int .i64 i), (2, .bool false), (5, .slice A1 wn c1), (12, .slice A2 nn c2), (6, ptr b6), (13, .int .i64 k), (14, .int .i64 q)])
          (fun _ W => Ext W5 W) (fun _ _ => 0) () ⟨rfl, rfl, rfl, rfl, rfl, rfl, rfl, rfl, rfl, trivial⟩ he6 ?_
        clear hK he6
        rintro _ j3 W7 he7
        have hkn : k ≤ 4097 := by rw [hKk]; split <;> omega
        conv => whnf
        refine VDraw.mk' tab_ok (Ext W7) [] (.take 0 <| .take 1 <| .take 2 <| .take 3 <| .take 4 <| .take 5 <| .take 6 <| .take 7 <| .take 8 <| .take 9 <| .take 10 <| .take 11 <| .take 12 <| .take 13 <| .take 14 <| .take 15 <| .take 16 <| .take 17 <| .take 18 <| .take 19 <| .take 20 <| .done) mixed (by kernel_rfl) (by kernel_rfl) (Ext.drew _) ?_
        have hd := Ext.drew W7
        generalize W7.drew = W8 at hd
        conv => whnf
        intro t ht
        cases t <;> simp only [VB] at ht
        case false =>
          -- nothing more was there
          conv => whnf
          have hqi : q = i0 := by
            rcases Nat.lt_trichotomy q i0 with h1 | h1 | h1
            · rw [if_pos (by omega)] at hKk
              subst hKk
              have := (List.getElem?_eq_some_iff.1 (hN.lo _ y hyq h1)).1
              omega
            · exact h1
            · rw [if_neg (by omega)] at hKk
              subst hKk
              have := (List.getElem?_eq_some_iff.1 (hN.hi _ y hyq h1)).1
              omega
          refine VDraw.mk' tab_ok (Ext W8) [] (.take 0 <| .take 1 <| .take 2 <| .take 3 <| .take 4 <| .take 5 <| .take 6 <| .take 7 <| .take 8 <| .take 9 <| .take 10 <| .take 11 <| .take 12 <| .take 13 <| .take 14 <| .take 15 <| .take 16 <| .done) mixed (by kernel_rfl) (by kernel_rfl) (Ext.drew _) ?_
          have hd2 := Ext.drew W8
          generalize W8.drew = W9 at hd2
          conv => whnf
          intro t ht4
          obtain rfl : t = false := ht4.no (by omega)
          conv => whnf
          have hye : y.id = o.e.id := by rw [hqi] at hyq; exact (hN.eq y hyq).1
          refine VDraw.mk' tab_ok (Ext W9) [] (.take 0 <| .take 1 <| .take 2 <| .take 3 <| .take 4 <| .take 5 <| .take 6 <| .take 7 <| .take 8 <| .take 9 <| .take 10 <| .take 11 <| .done) mixed (by kernel_rfl) (by kernel_rfl) (Ext.drew _) ?_
          have hd3 := Ext.drew W9
          generalize W9.drew = W10 at hd3
          have heA : Ext W5 W10 := he7.tr (hd.tr (hd2.tr hd3))
          conv => whnf
          refine ⟨.bool false, fun w' hs => (hs.cell ((he7.tr (hd.tr hd2)).cell (ld (v := .bool o.drop) hb6 rfl rfl))).trans (by rw [hod]), ?_⟩
          conv => whnf
          refine ⟨by omega, by omega, aq, hAq, ?_⟩
          conv => whnf
          refine ⟨cI y.id, rfl, fun w' hs => (dq.ext (he7.tr (hd.tr (hd2.tr hs)))).sub 0 rfl, ?_⟩
          conv => whnf
          refine ⟨cI o.e.id, rfl, fun w' hs => lds (hs.at_ ((he7.tr (hd.tr hd2)).at_ hb6)) rfl rfl, ?_⟩
          conv => whnf
          refine ⟨_, neq24 y.id o.e.id, fun t ht => ?_⟩
          rw [decide_eq_true hye] at ht
          subst ht
          conv => whnf
          intro r hr
          obtain rfl : r = ((q + 1 : Nat) : Int) := by rw [hr, wrap_id (by omega) (by omega)]; rfl
          clear hr
          conv => whnf
          refine ⟨(q + 1, k), ⟨rfl, rfl, rfl, rfl, rfl, rfl, rfl, rfl, rfl, trivial⟩, ⟨heA, by dsimp only; omega, ?_⟩, by dsimp only; omega⟩
          simp only [Kat, Bool.false_eq_true, if_false]
          rw [hKk]
          split <;> split <;> omega
        have hkw : k < wn := by omega
        obtain ⟨ak, kk, hAk, dk⟩ := hwas.at_ hkw
        obtain ⟨x, hxk⟩ : ∃ x, x = was[k] := ⟨_, rfl⟩
        have hxk2 : was[k]? = some x := by rw [hxk]; exact List.getElem?_eq_getElem kk
        rw [← hxk] at dk
        conv => whnf
        refine ⟨by omega, by omega, ak, hAk, ?_⟩
        conv => whnf
        refine ⟨cI x.id, rfl, fun w' hs => (dk.ext (he7.tr hs)).sub 0 rfl, ?_⟩
        conv => whnf
        refine ⟨by omega, by omega, aq, hAq, ?_⟩
        conv => whnf
        refine ⟨cI y.id, rfl, fun w' hs => (dq.ext (he7.tr hs)).sub 0 rfl, ?_⟩
        conv => whnf
        refine ⟨_, neq24 x.id y.id, fun t ht3 => ?_⟩
        by_cases hxy : x.id = y.id
        case pos =>
          rw [decide_eq_true hxy] at ht3
          subst ht3
          conv => whnf
          refine VDraw.mk' tab_ok (Ext W8) [] (.take 0 <| .take 1 <| .take 2 <| .take 3 <| .take 4 <| .take 5 <| .take 6 <| .take 7 <| .take 8 <| .take 9 <| .take 10 <| .take 11 <| .take 12 <| .take 13 <| .take 14 <| .take 15 <| .take 16 <| .done) mixed (by kernel_rfl) (by kernel_rfl) (Ext.drew _) ?_
          have hd2 := Ext.drew W8
          generalize W8.drew = W9 at hd2
          conv => whnf
          intro t ht
          obtain rfl : t = true := ht.yes (by omega)
          conv => whnf
          refine ⟨by omega, by omega, ak, hAk, ?_⟩
          conv => whnf
          refine ⟨cI x.id, rfl, fun w' hs => (dk.ext (he7.tr (hd.tr hs))).sub 0 rfl, ?_⟩
          conv => whnf
          refine ⟨by omega, by omega, aq, hAq, ?_⟩
          conv => whnf
          refine ⟨cI y.id, rfl, fun w' hs => (dq.ext (he7.tr (hd.tr hs))).sub 0 rfl, ?_⟩
          conv => whnf
          refine ⟨_, eq24 x.id y.id, fun t ht => ?_⟩
          rw [decide_eq_true hxy] at ht
          subst ht
          conv => whnf
          intro r hr
          obtain rfl : r = ((k + 1 : Nat) : Int) := by rw [hr, wrap_id (by omega) (by omega)]; rfl
          clear hr
          conv => whnf
          intro r hr
          obtain rfl : r = ((q + 1 : Nat) : Int) := by rw [hr, wrap_id (by omega) (by omega)]; rfl
          clear hr
          conv => whnf
          refine ⟨(q + 1, k + 1), ⟨rfl, rfl, rfl, rfl, rfl, rfl, rfl, rfl, rfl, trivial⟩, ⟨he7.tr (hd.tr hd2), by dsimp only; omega, ?_⟩, by dsimp only; omega⟩
          simp only [Kat, Bool.false_eq_true, if_false]
          have hqi : q ≠ i0 := fun e1 => by
            subst e1
            rw [if_pos (Nat.le_refl _)] at hKk
            subst hKk
            obtain ⟨h1, h2⟩ := hN.eq y hyq
            exact h2 x hxk2 (hxy.trans h1)
          rw [hKk]
          split <;> split <;> omega
        have hqi : q = i0 := by
          rcases Nat.lt_trichotomy q i0 with h1 | h1 | h1
          · rw [if_pos (by omega)] at hKk
            subst hKk
            have := hN.lo _ y hyq h1
            rw [hxk2] at this
            cases this
            exact absurd rfl hxy
          · exact h1
          · rw [if_neg (by omega)] at hKk
            subst hKk
            have := hN.hi _ y hyq h1
            rw [hxk2] at this
            cases this
            exact absurd rfl hxy
        rw [decide_eq_false hxy] at ht3
        subst ht3
        conv => whnf
        refine ⟨.bool false, fun w' hs => (hs.cell (he7.cell (ld (v := .bool o.drop) hb6 rfl rfl))).trans (by rw [hod]), ?_⟩
        conv => whnf
        refine VDraw.mk' tab_ok (Ext W8) [] (.take 0 <| .take 1 <| .take 2 <| .take 3 <| .take 4 <| .take 5 <| .take 6 <| .take 7 <| .take 8 <| .take 9 <| .take 10 <| .take 11 <| .take 12 <| .take 13 <| .take 14 <| .take 15 <| .take 16 <| .done) mixed (by kernel_rfl) (by kernel_rfl) (Ext.drew _) ?_
        have hd2 := Ext.drew W8
        generalize W8.drew = W9 at hd2
        conv => whnf
        intro t ht
        obtain rfl : t = true := ht.yes (by omega)
        conv => whnf
        refine ⟨by omega, by omega, ak, hAk, ?_⟩
        conv => whnf
        refine ⟨cI x.id, rfl, fun w' hs => (dk.ext (he7.tr (hd.tr hs))).sub 0 rfl, ?_⟩
        conv => whnf
        refine ⟨by omega, by omega, aq, hAq, ?_⟩
        conv => whnf
        refine ⟨cI y.id, rfl, fun w' hs => (dq.ext (he7.tr (hd.tr hs))).sub 0 rfl, ?_⟩
        conv => whnf
        refine ⟨_, eq24 x.id y.id, fun t ht => ?_⟩
        rw [decide_eq_false hxy] at ht
        subst ht
        conv => whnf
        have hye : y.id = o.e.id := by rw [hqi] at hyq; exact (hN.eq y hyq).1
        refine VDraw.mk' tab_ok (Ext W9) [] (.take 0 <| .take 1 <| .take 2 <| .take 3 <| .take 4 <| .take 5 <| .take 6 <| .take 7 <| .take 8 <| .take 9 <| .take 10 <| .take 11 <| .done) mixed (by kernel_rfl) (by kernel_rfl) (Ext.drew _) ?_
        have hd3 := Ext.drew W9
        generalize W9.drew = W10 at hd3
        have heA : Ext W5 W10 := he7.tr (hd.tr (hd2.tr hd3))
        conv => whnf
        refine ⟨.bool false, fun w' hs => (hs.cell ((he7.tr (hd.tr hd2)).cell (ld (v := .bool o.drop) hb6 rfl rfl))).trans (by rw [hod]), ?_⟩
        conv => whnf
        refine ⟨by omega, by omega, aq, hAq, ?_⟩
        conv => whnf
        refine ⟨cI y.id, rfl, fun w' hs => (dq.ext (he7.tr (hd.tr (hd2.tr hs)))).sub 0 rfl, ?_⟩
        conv => whnf
        refine ⟨cI o.e.id, rfl, fun w' hs => lds (hs.at_ ((he7.tr (hd.tr hd2)).at_ hb6)) rfl rfl, ?_⟩
        conv => whnf
        refine ⟨_, neq24 y.id o.e.id, fun t ht => ?_⟩
        rw [decide_eq_true hye] at ht
        subst ht
        conv => whnf
        intro r hr
        obtain rfl : r = ((q + 1 : Nat) : Int) := by rw [hr, wrap_id (by omega) (by omega)]; rfl
        clear hr
        conv => whnf
        refine ⟨(q + 1, k), ⟨rfl, rfl, rfl, rfl, rfl, rfl, rfl, rfl, rfl, trivial⟩, ⟨heA, by dsimp only; omega, ?_⟩, by dsimp only; omega⟩
        simp only [Kat, Bool.false_eq_true, if_false]
        rw [hKk]
        split <;> split <;> omega
      | some i2 =>
        conv => whnf
        intro t ht
        obtain rfl : t = false := ht.no hne
        -- what is there now
        conv => whnf
        refine (wElements hx.line).mono ?_
        rintro _ W5 ⟨he, A2, c2, rfl, hnow, hfr2⟩
        replace hx := hx.go he
        replace hwas := hwas.ext he
        replace hb6 := he.at_ hb6
        clear he hfr2
        obtain ⟨now, hnowe⟩ : ∃ now, now = own S' Idn.z := ⟨_, rfl⟩
        rw [← hnowe] at hnow hN ⊢
        rw [← hwase] at hN
        have hnlen : now.length ≤ 4096 := by rw [hnowe]; exact Nat.le_trans (own_len hx.line.ok (.inl rfl)) hx.line.few
        generalize hnn : now.length = nn at hnow ⊢
        clear hnowe
        conv => whnf
        refine VLoop.mk' tab_ok (X := Nat × Nat) (fun p => [(0, .slice A n c), (3, ptr b), (4, .int .i64 i), (2, .bool false), (5, .slice A1 wn c1), (12, .slice A2 nn c2), (6, ptr b6), (13, .int .i64 p.2), (14, .int .i64 p.1)])
          (fun p W => Ext W5 W ∧ p.1 ≤ nn ∧ Kat false i0 p.1 p.2) (fun p _ => nn - p.1) (0, 0) ⟨rfl, rfl, rfl, rfl, rfl, rfl, rfl, rfl, rfl, trivial⟩ ⟨Ext.refl _, Nat.zero_le _, by simp [Kat]⟩ ?_
        rintro ⟨q, k⟩ j2 W6 ⟨he6, hqn, hK⟩
        dsimp only at hqn hK
        conv => whnf
        intro t htq
        cases t <;> simp only [VB] at htq
        case false =>
          conv => whnf
          intro r hr
          obtain rfl : r = ((i + 1 : Nat) : Int) := by rw [hr, wrap_id (by omega) (by omega)]; rfl
          clear hr
          conv => whnf
          exact ⟨(i + 1, S', B'), ⟨rfl, rfl, rfl, rfl, trivial⟩, ⟨hx.go he6, by dsimp only; omega⟩, by dsimp only; omega⟩
        have hq : q < nn := by omega
        obtain ⟨aq, kq, hAq, dq⟩ := hnow.at_ hq
        obtain ⟨y, hy⟩ : ∃ y, y = now[q] := ⟨_, rfl⟩
        have hyq : now[q]? = some y := by rw [hy]; exact List.getElem?_eq_getElem kq
        rw [← hy] at dq
        conv => whnf
        have hKk : k = if q ≤ i0 then q else q - 1 := by simpa [Kat] using hK
        refine VLoop.mk' tab_ok (X := Unit) (fun _ => [(0, .slice A n c), (3, ptr b), (4, .int .i64 i), (2, .bool false), (5, .slice A1 wn c1), (12, .slice A2 nn c2), (6, ptr b6), (13, .int .i64 k), (14, .int .i64 q)])
          (fun _ W => Ext W5 W) (fun _ _ => 0) () ⟨rfl, rfl, rfl, rfl, rfl, rfl, rfl, rfl, rfl, trivial⟩ he6 ?_
        clear hK he6
        rintro _ j3 W7 he7
        have hkn : k ≤ 4097 := by rw [hKk]; split <;> omega
        conv => whnf
        refine VDraw.mk' tab_ok (Ext W7) [] (.take 0 <| .take 1 <| .take 2 <| .take 3 <| .take 4 <| .take 5 <| .take 6 <| .take 7 <| .take 8 <| .take 9 <| .take 10 <| .take 11 <| .take 12 <| .take 13 <| .take 14 <| .take 15 <| .take 16 <| .take 17 <| .take 18 <| .take 19 <| .take 20 <| .done) mixed (by kernel_rfl) (by kernel_rfl) (Ext.drew _) ?_
        have hd := Ext.drew W7
        generalize W7.drew = W8 at hd
        conv => whnf
        intro t ht
        cases t <;> simp only [VB] at ht
        case false =>
          -- nothing more was there
          conv => whnf
          have hqi : q = i0 := by
            rcases Nat.lt_trichotomy q i0 with h1 | h1 | h1
            · rw [if_pos (by omega)] at hKk
              subst hKk
              have := (List.getElem?_eq_some_iff.1 (hN.lo _ y hyq h1)).1
              omega
            · exact h1
            · rw [if_neg (by omega)] at hKk
              subst hKk
              have := (List.getElem?_eq_some_iff.1 (hN.hi _ y hyq h1)).1
              omega
          refine VDraw.mk' tab_ok (Ext W8) [] (.take 0 <| .take 1 <| .take 2 <| .take 3 <| .take 4 <| .take 5 <| .take 6 <| .take 7 <| .take 8 <| .take 9 <| .take 10 <| .take 11 <| .take 12 <| .take 13 <| .take 14 <| .take 15 <| .take 16 <| .done) mixed (by kernel_rfl) (by kernel_rfl) (Ext.drew _) ?_
          have hd2 := Ext.drew W8
          generalize W8.drew = W9 at hd2
          conv => whnf
          intro t ht4
          obtain rfl : t = false := ht4.no (by omega)
          conv => whnf
          have hye : y.id = o.e.id := by rw [hqi] at hyq; exact (hN.eq y hyq).1
          refine VDraw.mk' tab_ok (Ext W9) [] (.take 0 <| .take 1 <| .take 2 <| .take 3 <| .take 4 <| .take 5 <| .take 6 <| .take 7 <| .take 8 <| .take 9 <| .take 10 <| .take 11 <| .done) mixed (by kernel_rfl) (by kernel_rfl) (Ext.drew _) ?_
          have hd3 := Ext.drew W9
          generalize W9.drew = W10 at hd3
          have heA : Ext W5 W10 := he7.tr (hd.tr (hd2.tr hd3))
          conv => whnf
          refine ⟨.bool false, fun w' hs => (hs.cell ((he7.tr (hd.tr hd2)).cell (ld (v := .bool o.drop) hb6 rfl rfl))).trans (by rw [hod]), ?_⟩
          conv => whnf
          refine ⟨by omega, by omega, aq, hAq, ?_⟩
          conv => whnf
          refine ⟨cI y.id, rfl, fun w' hs => (dq.ext (he7.tr (hd.tr (hd2.tr hs)))).sub 0 rfl, ?_⟩
          conv => whnf
          refine ⟨cI o.e.id, rfl, fun w' hs => lds (hs.at_ ((he7.tr (hd.tr hd2)).at_ hb6)) rfl rfl, ?_⟩
          conv => whnf
          refine ⟨_, neq24 y.id o.e.id, fun t ht => ?_⟩
          rw [decide_eq_true hye] at ht
          subst ht
          conv => whnf
          intro r hr
          obtain rfl : r = ((q + 1 : Nat) : Int) := by rw [hr, wrap_id (by omega) (by omega)]; rfl
          clear hr
          conv => whnf
          refine ⟨(q + 1, k), ⟨rfl, rfl, rfl, rfl, rfl, rfl, rfl, rfl, rfl, trivial⟩, ⟨heA, by dsimp only; omega, ?_⟩, by dsimp only; omega⟩
          simp only [Kat, Bool.false_eq_true, if_false]
          rw [hKk]
          split <;> split <;> omega
        have hkw : k < wn := by omega
        obtain ⟨ak, kk, hAk, dk⟩ := hwas.at_ hkw
        obtain ⟨x, hxk⟩ : ∃ x, x = was[k] := ⟨_, rfl⟩
        have hxk2 : was[k]? = some x := by rw [hxk]; exact List.getElem?_eq_getElem kk
        rw [← hxk] at dk
        conv => whnf
        refine ⟨by omega, by omega, ak, hAk, ?_⟩
        conv => whnf
        refine ⟨cI x.id, rfl, fun w' hs => (dk.ext (he7.tr hs)).sub 0 rfl, ?_⟩
        conv => whnf
        refine ⟨by omega, by omega, aq, hAq, ?_⟩
        conv => whnf
        refine ⟨cI y.id, rfl, fun w' hs => (dq.ext (he7.tr hs)).sub 0 rfl, ?_⟩
        conv => whnf
        refine ⟨_, neq24 x.id y.id, fun t ht3 => ?_⟩
        by_cases hxy : x.id = y.id
        case pos =>
          rw [decide_eq_true hxy] at ht3
          subst ht3
          conv => whnf
          refine VDraw.mk' tab_ok (Ext W8) [] (.take 0 <| .take 1 <| .take 2 <| .take 3 <| .take 4 <| .take 5 <| .take 6 <| .take 7 <| .take 8 <| .take 9 <| .take 10 <| .take 11 <| .take 12 <| .take 13 <| .take 14 <| .take 15 <| .take 16 <| .done) mixed (by kernel_rfl) (by kernel_rfl) (Ext.drew _) ?_
          have hd2 := Ext.drew W8
          generalize W8.drew = W9 at hd2
          conv => whnf
          intro t ht
          obtain rfl : t = true := ht.yes (by omega)
          conv => whnf
          refine ⟨by omega, by omega, ak, hAk, ?_⟩
          conv => whnf
          refine ⟨cI x.id, rfl, fun w' hs => (dk.ext (he7.tr (hd.tr hs))).sub 0 rfl, ?_⟩
          conv => whnf
          refine ⟨by omega, by omega, aq, hAq, ?_⟩
          conv => whnf
          refine ⟨cI y.id, rfl, fun w' hs => (dq.ext (he7.tr (hd.tr hs))).sub 0 rfl, ?_⟩
          conv => whnf
          refine ⟨_, eq24 x.id y.id, fun t ht => ?_⟩
          rw [decide_eq_true hxy] at ht
          subst ht
          conv => whnf
          intro r hr
          obtain rfl : r = ((k + 1 : Nat) : Int) := by rw [hr, wrap_id (by omega) (by omega)]; rfl
          clear hr
          conv => whnf
          intro r hr
          obtain rfl : r = ((q + 1 : Nat) : Int) := by rw [hr, wrap_id (by omega) (by omega)]; rfl
          clear hr
          conv => whnf
          refine ⟨(q + 1, k + 1), ⟨rfl, rfl, rfl, rfl, rfl, rfl, rfl, rfl, rfl, trivial⟩, ⟨he7.tr (hd.tr hd2), by dsimp only; omega, ?_⟩, by dsimp only; omega⟩
          simp only [Kat, Bool.false_eq_true, if_false]
          have hqi : q ≠ i0 := fun e1 => by
            subst e1
            rw [if_pos (Nat.le_refl _)] at hKk
            subst hKk
            obtain ⟨h1, h2⟩ := hN.eq y hyq
            exact h2 x hxk2 (hxy.trans h1)
          rw [hKk]
          split <;> split <;> omega
        have hqi : q = i0 := by
          rcases Nat.lt_trichotomy q i0 with h1 | h1 | h1
          · rw [if_pos (by omega)] at hKk
            subst hKk
            have := hN.lo _ y hyq h1
            rw [hxk2] at this
            cases this
            exact absurd rfl hxy
          · exact h1
          · rw [if_neg (by omega)] at hKk
            subst hKk
            have := hN.hi _ y hyq h1
            rw [hxk2] at this
            cases this
            exact absurd rfl hxy
        rw [decide_eq_false hxy] at ht3
        subst ht3
        conv => whnf
        refine ⟨.bool false, fun w' hs => (hs.cell (he7.cell (ld (v := .bool o.drop) hb6 rfl rfl))).trans (by rw [hod]), ?_⟩
        conv => whnf
        refine VDraw.mk' tab_ok (Ext W8) [] (.take 0 <| .take 1 <| .take 2 <| .take 3 <| .take 4 <| .take 5 <| .take 6 <| .take 7 <| .take 8 <| .take 9 <| .take 10 <| .take 11 <| .take 12 <| .take 13 <| .take 14 <| .take 15 <| .take 16 <| .done) mixed (by kernel_rfl) (by kernel_rfl) (Ext.drew _) ?_
        have hd2 := Ext.drew W8
        generalize W8.drew = W9 at hd2
        conv => whnf
        intro t ht
        obtain rfl : t = true := ht.yes (by omega)
        conv => whnf
        refine ⟨by omega, by omega, ak, hAk, ?_⟩
        conv => whnf
        refine ⟨cI x.id, rfl, fun w' hs => (dk.ext (he7.tr (hd.tr hs))).sub 0 rfl, ?_⟩
        conv => whnf
        refine ⟨by omega, by omega, aq, hAq, ?_⟩
        conv => whnf
        refine ⟨cI y.id, rfl, fun w' hs => (dq.ext (he7.tr (hd.tr hs))).sub 0 rfl, ?_⟩
        conv => whnf
        refine ⟨_, eq24 x.id y.id, fun t ht => ?_⟩
        rw [decide_eq_false hxy] at ht
        subst ht
        conv => whnf
        have hye : y.id = o.e.id := by rw [hqi] at hyq; exact (hN.eq y hyq).1
        refine VDraw.mk' tab_ok (Ext W9) [] (.take 0 <| .take 1 <| .take 2 <| .take 3 <| .take 4 <| .take 5 <| .take 6 <| .take 7 <| .take 8 <| .take 9 <| .take 10 <| .take 11 <| .done) mixed (by kernel_rfl) (by kernel_rfl) (Ext.drew _) ?_
        have hd3 := Ext.drew W9
        generalize W9.drew = W10 at hd3
        have heA : Ext W5 W10 := he7.tr (hd.tr (hd2.tr hd3))
        conv => whnf
        refine ⟨.bool false, fun w' hs => (hs.cell ((he7.tr (hd.tr hd2)).cell (ld (v := .bool o.drop) hb6 rfl rfl))).trans (by rw [hod]), ?_⟩
        conv => whnf
        refine ⟨by omega, by omega, aq, hAq, ?_⟩
        conv => whnf
        refine ⟨cI y.id, rfl, fun w' hs => (dq.ext (he7.tr (hd.tr (hd2.tr hs)))).sub 0 rfl, ?_⟩
        conv => whnf
        refine ⟨cI o.e.id, rfl, fun w' hs => lds (hs.at_ ((he7.tr (hd.tr hd2)).at_ hb6)) rfl rfl, ?_⟩
        conv => whnf
        refine ⟨_, neq24 y.id o.e.id, fun t ht => ?_⟩
        rw [decide_eq_true hye] at ht
        subst ht
        conv => whnf
        intro r hr
        obtain rfl : r = ((q + 1 : Nat) : Int) := by rw [hr, wrap_id (by omega) (by omega)]; rfl
        clear hr
        conv => whnf
        refine ⟨(q + 1, k), ⟨rfl, rfl, rfl, rfl, rfl, rfl, rfl, rfl, rfl, trivial⟩, ⟨heA, by dsimp only; omega, ?_⟩, by dsimp only; omega⟩
        simp only [Kat, Bool.false_eq_true, if_false]
        rw [hKk]
        split <;> split <;> omega
    | some i1 =>
      conv => whnf
      refine ⟨cI o.e.ref, rfl, lds hb6 rfl rfl, ?_⟩
      conv => whnf
      refine (wPlace hx.line o.e.ref).mono ?_
      rintro _ Wq ⟨he, rfl⟩
      replace hx := hx.go he
      replace hwas := hwas.ext he
      replace hb6 := he.at_ hb6
      clear he
      by_cases h0 : insE S o.e = 0
      case neg =>
        unfold placeV
        cases hp2 : placeL (own S' Idn.z) o.e.ref with
        | none =>
          conv => whnf
          intro t ht
          obtain rfl : t = false := ht.no h0
          -- what is there now
          conv => whnf
          refine (wElements hx.line).mono ?_
          rintro _ W5 ⟨he, A2, c2, rfl, hnow, hfr2⟩
          replace hx := hx.go he
          replace hwas := hwas.ext he
          replace hb6 := he.at_ hb6
          clear he hfr2
          obtain ⟨now, hnowe⟩ : ∃ now, now = own S' Idn.z := ⟨_, rfl⟩
          rw [← hnowe] at hnow hN ⊢
          rw [← hwase] at hN
          have hnlen : now.length ≤ 4096 := by rw [hnowe]; exact Nat.le_trans (own_len hx.line.ok (.inl rfl)) hx.line.few
          generalize hnn : now.length = nn at hnow ⊢
          clear hnowe
          conv => whnf
          refine VLoop.mk' tab_ok (X := Nat × Nat) (fun p => [(0, .slice A n c), (3, ptr b), (4, .int .i64 i), (2, .bool false), (5, .slice A1 wn c1), (12, .slice A2 nn c2), (6, ptr b6), (13, .int .i64 p.2), (14, .int .i64 p.1)])
            (fun p W => Ext W5 W ∧ p.1 ≤ nn ∧ Kat false i0 p.1 p.2) (fun p _ => nn - p.1) (0, 0) ⟨rfl, rfl, rfl, rfl, rfl, rfl, rfl, rfl, rfl, trivial⟩ ⟨Ext.refl _, Nat.zero_le _, by simp [Kat]⟩ ?_
          rintro ⟨q, k⟩ j2 W6 ⟨he6, hqn, hK⟩
          dsimp only at hqn hK
          conv => whnf
          intro t htq
          cases t <;> simp only [VB] at htq
          case false =>
            conv => whnf
            intro r hr
            obtain rfl : r = ((i + 1 : Nat) : Int) := by rw [hr, wrap_id (by omega) (by omega)]; rfl
            clear hr
            conv => whnf
            exact ⟨(i + 1, S', B'), ⟨rfl, rfl, rfl, rfl, trivial⟩, ⟨hx.go he6, by dsimp only; omega⟩, by dsimp only; omega⟩
          have hq : q < nn := by omega
          obtain ⟨aq, kq, hAq, dq⟩ := hnow.at_ hq
          obtain ⟨y, hy⟩ : ∃ y, y = now[q] := ⟨_, rfl⟩
          have hyq : now[q]? = some y := by rw [hy]; exact List.getElem?_eq_getElem kq
          rw [← hy] at dq
          conv => whnf
          have hKk : k = if q ≤ i0 then q else q - 1 := by simpa [Kat] using hK
          refine VLoop.mk' tab_ok (X := Unit) (fun _ => [(0, .slice A n c), (3, ptr b), (4, .int .i64 i), (2, .bool false), (5, .slice A1 wn c1), (12, .slice A2 nn c2), (6, ptr b6), (13, .int .i64 k), (14, .int .i64 q)])
            (fun _ W => Ext W5 W) (fun _ _ => 0) () ⟨rfl, rfl, rfl, rfl, rfl, rfl, rfl, rfl, rfl, trivial⟩ he6 ?_
          clear hK he6
          rintro _ j3 W7 he7
          have hkn : k ≤ 4097 := by rw [hKk]; split <;> omega
          conv => whnf
          refine VDraw.mk' tab_ok (Ext W7) [] (.take 0 <| .take 1 <| .take 2 <| .take 3 <| .take 4 <| .take 5 <| .take 6 <| .take 7 <| .take 8 <| .take 9 <| .take 10 <| .take 11 <| .take 12 <| .take 13 <| .take 14 <| .take 15 <| .take 16 <| .take 17 <| .take 18 <| .take 19 <| .take 20 <| .done) mixed (by kernel_rfl) (by kernel_rfl) (Ext.drew _) ?_
          have hd := Ext.drew W7
          generalize W7.drew = W8 at hd
          conv => whnf
          intro t ht
          cases t <;> simp only [VB] at ht
          case false =>
            -- nothing more was there
            conv => whnf
            have hqi : q = i0 := by
              rcases Nat.lt_trichotomy q i0 with h1 | h1 | h1
              · rw [if_pos (by omega)] at hKk
                subst hKk
                have := (List.getElem?_eq_some_iff.1 (hN.lo _ y hyq h1)).1
                omega
              · exact h1
              · rw [if_neg (by omega)] at hKk
                subst hKk
                have := (List.getElem?_eq_some_iff.1 (hN.hi _ y hyq h1)).1
                omega
            refine VDraw.mk' tab_ok (Ext W8) [] (.take 0 <| .take 1 <| .take 2 <| .take 3 <| .take 4 <| .take 5 <| .take 6 <| .take 7 <| .take 8 <| .take 9 <| .take 10 <| .take 11 <| .take 12 <| .take 13 <| .take 14 <| .take 15 <| .take 16 <| .done) mixed (by kernel_rfl) (by kernel_rfl) (Ext.drew _) ?_
            have hd2 := Ext.drew W8
            generalize W8.drew = W9 at hd2
            conv => whnf
            intro t ht4
            obtain rfl : t = false := ht4.no (by omega)
            conv => whnf
            have hye : y.id = o.e.id := by rw [hqi] at hyq; exact (hN.eq y hyq).1
            refine VDraw.mk' tab_ok (Ext W9) [] (.take 0 <| .take 1 <| .take 2 <| .take 3 <| .take 4 <| .take 5 <| .take 6 <| .take 7 <| .take 8 <| .take 9 <| .take 10 <| .take 11 <| .done) mixed (by kernel_rfl) (by kernel_rfl) (Ext.drew _) ?_
            have hd3 := Ext.drew W9
            generalize W9.drew = W10 at hd3
            have heA : Ext W5 W10 := he7.tr (hd.tr (hd2.tr hd3))
            conv => whnf
            refine ⟨.bool false, fun w' hs => (hs.cell ((he7.tr (hd.tr hd2)).cell (ld (v := .bool o.drop) hb6 rfl rfl))).trans (by rw [hod]), ?_⟩
            conv => whnf
            refine ⟨by omega, by omega, aq, hAq, ?_⟩
            conv => whnf
            refine ⟨cI y.id, rfl, fun w' hs => (dq.ext (he7.tr (hd.tr (hd2.tr hs)))).sub 0 rfl, ?_⟩
            conv => whnf
            refine ⟨cI o.e.id, rfl, fun w' hs => lds (hs.at_ ((he7.tr (hd.tr hd2)).at_ hb6)) rfl rfl, ?_⟩
            conv => whnf
            refine ⟨_, neq24 y.id o.e.id, fun t ht => ?_⟩
            rw [decide_eq_true hye] at ht
            subst ht
            conv => whnf
            intro r hr
            obtain rfl : r = ((q + 1 : Nat) : Int) := by rw [hr, wrap_id (by omega) (by omega)]; rfl
            clear hr
            conv => whnf
            refine ⟨(q + 1, k), ⟨rfl, rfl, rfl, rfl, rfl, rfl, rfl, rfl, rfl, trivial⟩, ⟨heA, by dsimp only; omega, ?_⟩, by dsimp only; omega⟩
            simp only [Kat, Bool.false_eq_true, if_false]
            rw [hKk]
            split <;> split <;> omega
          have hkw : k < wn := by omega
          obtain ⟨ak, kk, hAk, dk⟩ := hwas.at_ hkw
          obtain ⟨x, hxk⟩ : ∃ x, x = was[k] := ⟨_, rfl⟩
          have hxk2 : was[k]? = some x := by rw [hxk]; exact List.getElem?_eq_getElem kk
          rw [← hxk] at dk
          conv => whnf
          refine ⟨by omega, by omega, ak, hAk, ?_⟩
          conv => whnf
          refine ⟨cI x.id, rfl, fun w' hs => (dk.ext (he7.tr hs)).sub 0 rfl, ?_⟩
          conv => whnf
          refine ⟨by omega, by omega, aq, hAq, ?_⟩
          conv => whnf
          refine ⟨cI y.id, rfl, fun w' hs => (dq.ext (he7.tr hs)).sub 0 rfl, ?_⟩
          conv => whnf
          refine ⟨_, neq24 x.id y.id, fun t ht3 => ?_⟩
          by_cases hxy : x.id = y.id
          case pos =>
            rw [decide_eq_true hxy] at ht3
            subst ht3
            conv => whnf
            refine VDraw.mk' tab_ok (Ext W8) [] (.take 0 <| .take 1 <| .take 2 <| .take 3 <| .take 4 <| .take 5 <| .take 6 <| .take 7 <| .take 8 <| .take 9 <| .take 10 <| .take 11 <| .take 12 <| .take 13 <| .take 14 <| .take 15 <| .take 16 <| .done) mixed (by kernel_rfl) (by kernel_rfl) (Ext.drew _) ?_
            have hd2 := Ext.drew W8
            generalize W8.drew = W9 at hd2
            conv => whnf
            intro t ht
            obtain rfl : t = true := ht.yes (by omega)
            conv => whnf
            refine ⟨by omega, by omega, ak, hAk, ?_⟩
            conv => whnf
            refine ⟨cI x.id, rfl, fun w' hs => (dk.ext (he7.tr (hd.tr hs))).sub 0 rfl, ?_⟩
            conv => whnf
            refine ⟨by omega, by omega, aq, hAq, ?_⟩
            conv => whnf
            refine ⟨cI y.id, rfl, fun w' hs => (dq.ext (he7.tr (hd.tr hs))).sub 0 rfl, ?_⟩
            conv => whnf
            refine ⟨_, eq24 x.id y.id, fun t ht => ?_⟩
            rw [decide_eq_true hxy] at ht
            subst ht
            conv => whnf
            intro r hr
            obtain rfl : r = ((k + 1 : Nat) : Int) := by rw [hr, wrap_id (by omega) (by omega)]; rfl
            clear hr
            conv => whnf
            intro r hr
            obtain rfl : r = ((q + 1 : Nat) : Int) := by rw [hr, wrap_id (by omega) (by omega)]; rfl
            clear hr
            conv => whnf
            refine ⟨(q + 1, k + 1), ⟨rfl, rfl, rfl, rfl, rfl, rfl, rfl, rfl, rfl, trivial⟩, ⟨he7.tr (hd.tr hd2), by dsimp only; omega, ?_⟩, by dsimp only; omega⟩
            simp only [Kat, Bool.false_eq_true, if_false]
            have hqi : q ≠ i0 := fun e1 => by
              subst e1
              rw [if_pos (Nat.le_refl _)] at hKk
              subst hKk
              obtain ⟨h1, h2⟩ := hN.eq y hyq
              exact h2 x hxk2 (hxy.trans h1)
            rw [hKk]
            split <;> split <;> omega
          have hqi : q = i0 := by
            rcases Nat.lt_trichotomy q i0 with h1 | h1 | h1
            · rw [if_pos (by omega)] at hKk
              subst hKk
              have := hN.lo _ y hyq h1
              rw [hxk2] at this
              cases this
              exact absurd rfl hxy
            · exact h1
            · rw [if_neg (by omega)] at hKk
              subst hKk
              have := hN.hi _ y hyq h1
              rw [hxk2] at this
              cases this
              exact absurd rfl hxy
          rw [decide_eq_false hxy] at ht3
          subst ht3
          conv => whnf
          refine ⟨.bool false, fun w' hs => (hs.cell (he7.cell (ld (v := .bool o.drop) hb6 rfl rfl))).trans (by rw [hod]), ?_⟩
          conv => whnf
          refine VDraw.mk' tab_ok (Ext W8) [] (.take 0 <| .take 1 <| .take 2 <| .take 3 <| .take 4 <| .take 5 <| .take 6 <| .take 7 <| .take 8 <| .take 9 <| .take 10 <| .take 11 <| .take 12 <| .take 13 <| .take 14 <| .take 15 <| .take 16 <| .done) mixed (by kernel_rfl) (by kernel_rfl) (Ext.drew _) ?_
          have hd2 := Ext.drew W8
          generalize W8.drew = W9 at hd2
          conv => whnf
          intro t ht
          obtain rfl : t = true := ht.yes (by omega)
          conv => whnf
          refine ⟨by omega, by omega, ak, hAk, ?_⟩
          conv => whnf
          refine ⟨cI x.id, rfl, fun w' hs => (dk.ext (he7.tr (hd.tr hs))).sub 0 rfl, ?_⟩
          conv => whnf
          refine ⟨by omega, by omega, aq, hAq, ?_⟩
          conv => whnf
          refine ⟨cI y.id, rfl, fun w' hs => (dq.ext (he7.tr (hd.tr hs))).sub 0 rfl, ?_⟩
          conv => whnf
          refine ⟨_, eq24 x.id y.id, fun t ht => ?_⟩
          rw [decide_eq_false hxy] at ht
          subst ht
          conv => whnf
          have hye : y.id = o.e.id := by rw [hqi] at hyq; exact (hN.eq y hyq).1
          refine VDraw.mk' tab_ok (Ext W9) [] (.take 0 <| .take 1 <| .take 2 <| .take 3 <| .take 4 <| .take 5 <| .take 6 <| .take 7 <| .take 8 <| .take 9 <| .take 10 <| .take 11 <| .done) mixed (by kernel_rfl) (by kernel_rfl) (Ext.drew _) ?_
          have hd3 := Ext.drew W9
          generalize W9.drew = W10 at hd3
          have heA : Ext W5 W10 := he7.tr (hd.tr (hd2.tr hd3))
          conv => whnf
          refine ⟨.bool false, fun w' hs => (hs.cell ((he7.tr (hd.tr hd2)).cell (ld (v := .bool o.drop) hb6 rfl rfl))).trans (by rw [hod]), ?_⟩
          conv => whnf
          refine ⟨by omega, by omega, aq, hAq, ?_⟩
          conv => whnf
          refine ⟨cI y.id, rfl, fun w' hs => (dq.ext (he7.tr (hd.tr (hd2.tr hs)))).sub 0 rfl, ?_⟩
          conv => whnf
          refine ⟨cI o.e.id, rfl, fun w' hs => lds (hs.at_ ((he7.tr (hd.tr hd2)).at_ hb6)) rfl rfl, ?_⟩
          conv => whnf
          refine ⟨_, neq24 y.id o.e.id, fun t ht => ?_⟩
          rw [decide_eq_true hye] at ht
          subst ht
          conv => whnf
          intro r hr
          obtain rfl : r = ((q + 1 : Nat) : Int) := by rw [hr, wrap_id (by omega) (by omega)]; rfl
          clear hr
          conv => whnf
          refine ⟨(q + 1, k), ⟨rfl, rfl, rfl, rfl, rfl, rfl, rfl, rfl, rfl, trivial⟩, ⟨heA, by dsimp only; omega, ?_⟩, by dsimp only; omega⟩
          simp only [Kat, Bool.false_eq_true, if_false]
          rw [hKk]
          split <;> split <;> omega
        | some i2 =>
          conv => whnf
          intro t ht
          obtain rfl : t = false := ht.no h0
          -- what is there now
          conv => whnf
          refine (wElements hx.line).mono ?_
          rintro _ W5 ⟨he, A2, c2, rfl, hnow, hfr2⟩
          replace hx := hx.go he
          replace hwas := hwas.ext he
          replace hb6 := he.at_ hb6
          clear he hfr2
          obtain ⟨now, hnowe⟩ : ∃ now, now = own S' Idn.z := ⟨_, rfl⟩
          rw [← hnowe] at hnow hN ⊢
          rw [← hwase] at hN
          have hnlen : now.length ≤ 4096 := by rw [hnowe]; exact Nat.le_trans (own_len hx.line.ok (.inl rfl)) hx.line.few
          generalize hnn : now.length = nn at hnow ⊢
          clear hnowe
          conv => whnf
          refine VLoop.mk' tab_ok (X := Nat × Nat) (fun p => [(0, .slice A n c), (3, ptr b), (4, .int .i64 i), (2, .bool false), (5, .slice A1 wn c1), (12, .slice A2 nn c2), (6, ptr b6), (13, .int .i64 p.2), (14, .int .i64 p.1)])
            (fun p W => Ext W5 W ∧ p.1 ≤ nn ∧ Kat false i0 p.1 p.2) (fun p _ => nn - p.1) (0, 0) ⟨rfl, rfl, rfl, rfl, rfl, rfl, rfl, rfl, rfl, trivial⟩ ⟨Ext.refl _, Nat.zero_le _, by simp [Kat]⟩ ?_
          rintro ⟨q, k⟩ j2 W6 ⟨he6, hqn, hK⟩
          dsimp only at hqn hK
          conv => whnf
          intro t htq
          cases t <;> simp only [VB] at htq
          case false =>
            conv => whnf
            intro r hr
            obtain rfl : r = ((i + 1 : Nat) : Int) := by rw [hr, wrap_id (by omega) (by omega)]; rfl
            clear hr
            conv => whnf
            exact ⟨(i + 1, S', B'), ⟨rfl, rfl, rfl, rfl, trivial⟩, ⟨hx.go he6, by dsimp only; omega⟩, by dsimp only; omega⟩
          have hq : q < nn := by omega
          obtain ⟨aq, kq, hAq, dq⟩ := hnow.at_ hq
          obtain ⟨y, hy⟩ : ∃ y, y = now[q] := ⟨_, rfl⟩
          have hyq : now[q]? = some y := by rw [hy]; exact List.getElem?_eq_getElem kq
          rw [← hy] at dq
          conv => whnf
          have hKk : k = if q ≤ i0 then q else q - 1 := by simpa [Kat] using hK
          refine VLoop.mk' tab_ok (X := Unit) (fun _ => [(0, .slice A n c), (3, ptr b), (4, .int .i64 i), (2, .bool false), (5, .slice A1 wn c1), (12, .slice A2 nn c2), (6, ptr b6), (13, .int .i64 k), (14, .int .i64 q)])
            (fun _ W => Ext W5 W) (fun _ _ => 0) () ⟨rfl, rfl, rfl, rfl, rfl, rfl, rfl, rfl, rfl, trivial⟩ he6 ?_
          clear hK he6
          rintro _ j3 W7 he7
          have hkn : k ≤ 4097 := by rw [hKk]; split <;> omega
          conv => whnf
          refine VDraw.mk' tab_ok (Ext W7) [] (.take 0 <| .take 1 <| .take 2 <| .take 3 <| .take 4 <| .take 5 <| .take 6 <| .take 7 <| .take 8 <| .take 9 <| .take 10 <| .take 11 <| .take 12 <| .take 13 <| .take 14 <| .take 15 <| .take 16 <| .take 17 <| .take 18 <| .take 19 <| .take 20 <| .done) mixed (by kernel_rfl) (by kernel_rfl) (Ext.drew _) ?_
          have hd := Ext.drew W7
          generalize W7.drew = W8 at hd
          conv => whnf
          intro t ht
          cases t <;> simp only [VB] at ht
          case false =>
            -- nothing more was there
            conv => whnf
            have hqi : q = i0 := by
              rcases Nat.lt_trichotomy q i0 with h1 | h1 | h1
              · rw [if_pos (by omega)] at hKk
                subst hKk
                have := (List.getElem?_eq_some_iff.1 (hN.lo _ y hyq h1)).1
                omega
              · exact h1
              · rw [if_neg (by omega)] at hKk
                subst hKk
                have := (List.getElem?_eq_some_iff.1 (hN.hi _ y hyq h1)).1
                omega
            refine VDraw.mk' tab_ok (Ext W8) [] (.take 0 <| .take 1 <| .take 2 <| .take 3 <| .take 4 <| .take 5 <| .take 6 <| .take 7 <| .take 8 <| .take 9 <| .take 10 <| .take 11 <| .take 12 <| .take 13 <| .take 14 <| .take 15 <| .take 16 <| .done) mixed (by kernel_rfl) (by kernel_rfl) (Ext.drew _) ?_
            have hd2 := Ext.drew W8
            generalize W8.drew = W9 at hd2
            conv => whnf
            intro t ht4
            obtain rfl : t = false := ht4.no (by omega)
            conv => whnf
            have hye : y.id = o.e.id := by rw [hqi] at hyq; exact (hN.eq y hyq).1
            refine VDraw.mk' tab_ok (Ext W9) [] (.take 0 <| .take 1 <| .take 2 <| .take 3 <| .take 4 <| .take 5 <| .take 6 <| .take 7 <| .take 8 <| .take 9 <| .take 10 <| .take 11 <| .done) mixed (by kernel_rfl) (by kernel_rfl) (Ext.drew _) ?_
            have hd3 := Ext.drew W9
            generalize W9.drew = W10 at hd3
            have heA : Ext W5 W10 := he7.tr (hd.tr (hd2.tr hd3))
            conv => whnf
            refine ⟨.bool false, fun w' hs => (hs.cell ((he7.tr (hd.tr hd2)).cell (ld (v := .bool o.drop) hb6 rfl rfl))).trans (by rw [hod]), ?_⟩
            conv => whnf
            refine ⟨by omega, by omega, aq, hAq, ?_⟩
            conv => whnf
            refine ⟨cI y.id, rfl, fun w' hs => (dq.ext (he7.tr (hd.tr (hd2.tr hs)))).sub 0 rfl, ?_⟩
            conv => whnf
            refine ⟨cI o.e.id, rfl, fun w' hs => lds (hs.at_ ((he7.tr (hd.tr hd2)).at_ hb6)) rfl rfl, ?_⟩
            conv => whnf
            refine ⟨_, neq24 y.id o.e.id, fun t ht => ?_⟩
            rw [decide_eq_true hye] at ht
            subst ht
            conv => whnf
            intro r hr
            obtain rfl : r = ((q + 1 : Nat) : Int) := by rw [hr, wrap_id (by omega) (by omega)]; rfl
            clear hr
            conv => whnf
            refine ⟨(q + 1, k), ⟨rfl, rfl, rfl, rfl, rfl, rfl, rfl, rfl, rfl, trivial⟩, ⟨heA, by dsimp only; omega, ?_⟩, by dsimp only; omega⟩
            simp only [Kat, Bool.false_eq_true, if_false]
            rw [hKk]
            split <;> split <;> omega
          have hkw : k < wn := by omega
          obtain ⟨ak, kk, hAk, dk⟩ := hwas.at_ hkw
          obtain ⟨x, hxk⟩ : ∃ x, x = was[k] := ⟨_, rfl⟩
          have hxk2 : was[k]? = some x := by rw [hxk]; exact List.getElem?_eq_getElem kk
          rw [← hxk] at dk
          conv => whnf
          refine ⟨by omega, by omega, ak, hAk, ?_⟩
          conv => whnf
          refine ⟨cI x.id, rfl, fun w' hs => (dk.ext (he7.tr hs)).sub 0 rfl, ?_⟩
          conv => whnf
          refine ⟨by omega, by omega, aq, hAq, ?_⟩
          conv => whnf
          refine ⟨cI y.id, rfl, fun w' hs => (dq.ext (he7.tr hs)).sub 0 rfl, ?_⟩
          conv => whnf
          refine ⟨_, neq24 x.id y.id, fun t ht3 => ?_⟩
          by_cases hxy : x.id = y.id
          case pos =>
            rw [decide_eq_true hxy] at ht3
            subst ht3
            conv => whnf
            refine VDraw.mk' tab_ok (Ext W8) [] (.take 0 <| .take 1 <| .take 2 <| .take 3 <| .take 4 <| .take 5 <| .take 6 <| .take 7 <| .take 8 <| .take 9 <| .take 10 <| .take 11 <| .take 12 <| .take 13 <| .take 14 <| .take 15 <| .take 16 <| .done) mixed (by kernel_rfl) (by kernel_rfl) (Ext.drew _) ?_
            have hd2 := Ext.drew W8
            generalize W8.drew = W9 at hd2
            conv => whnf
            intro t ht
            obtain rfl : t = true := ht.yes (by omega)
            conv => whnf
            refine ⟨by omega, by omega, ak, hAk, ?_⟩
            conv => whnf
            refine ⟨cI x.id, rfl, fun w' hs => (dk.ext (he7.tr (hd.tr hs))).sub 0 rfl, ?_⟩
            conv => whnf
            refine ⟨by omega, by omega, aq, hAq, ?_⟩
            conv => whnf
            refine ⟨cI y.id, rfl, fun w' hs => (dq.ext (he7.tr (hd.tr hs))).sub 0 rfl, ?_⟩
            conv => whnf
            refine ⟨_, eq24 x.id y.id, fun t ht => ?_⟩
            rw [decide_eq_true hxy] at ht
            subst ht
            conv => whnf
            intro r hr
            obtain rfl : r = ((k + 1 : Nat) : Int) := by rw [hr, wrap_id (by omega) (by omega)]; rfl
            clear hr
            conv => whnf
            intro r hr
            obtain rfl : r = ((q + 1 : Nat) : Int) := by rw [hr, wrap_id (by omega) (by omega)]; rfl
            clear hr
            conv => whnf
            refine ⟨(q + 1, k + 1), ⟨rfl, rfl, rfl, rfl, rfl, rfl, rfl, rfl, rfl, trivial⟩, ⟨he7.tr (hd.tr hd2), by dsimp only; omega, ?_⟩, by dsimp only; omega⟩
            simp only [Kat, Bool.false_eq_true, if_false]
            have hqi : q ≠ i0 := fun e1 => by
              subst e1
              rw [if_pos (Nat.le_refl _)] at hKk
              subst hKk
              obtain ⟨h1, h2⟩ := hN.eq y hyq
              exact h2 x hxk2 (hxy.trans h1)
            rw [hKk]
            split <;> split <;> omega
          have hqi : q = i0 := by
            rcases Nat.lt_trichotomy q i0 with h1 | h1 | h1
            · rw [if_pos (by omega)] at hKk
              subst hKk
              have := hN.lo _ y hyq h1
              rw [hxk2] at this
              cases this
              exact absurd rfl hxy
            · exact h1
            · rw [if_neg (by omega)] at hKk
              subst hKk
              have := hN.hi _ y hyq h1
              rw [hxk2] at this
              cases this
              exact absurd rfl hxy
          rw [decide_eq_false hxy] at ht3
          subst ht3
          conv => whnf
          refine ⟨.bool false, fun w' hs => (hs.cell (he7.cell (ld (v := .bool o.drop) hb6 rfl rfl))).trans (by rw [hod]), ?_⟩
          conv => whnf
          refine VDraw.mk' tab_ok (Ext W8) [] (.take 0 <| .take 1 <| .take 2 <| .take 3 <| .take 4 <| .take 5 <| .take 6 <| .take 7 <| .take 8 <| .take 9 <| .take 10 <| .take 11 <| .take 12 <| .take 13 <| .take 14 <| .take 15 <| .take 16 <| .done) mixed (by kernel_rfl) (by kernel_rfl) (Ext.drew _) ?_
          have hd2 := Ext.drew W8
          generalize W8.drew = W9 at hd2
          conv => whnf
          intro t ht
          obtain rfl : t = true := ht.yes (by omega)
          conv => whnf
          refine ⟨by omega, by omega, ak, hAk, ?_⟩
          conv => whnf
          refine ⟨cI x.id, rfl, fun w' hs => (dk.ext (he7.tr (hd.tr hs))).sub 0 rfl, ?_⟩
          conv => whnf
          refine ⟨by omega, by omega, aq, hAq, ?_⟩
          conv => whnf
          refine ⟨cI y.id, rfl, fun w' hs => (dq.ext (he7.tr (hd.tr hs))).sub 0 rfl, ?_⟩
          conv => whnf
          refine ⟨_, eq24 x.id y.id, fun t ht => ?_⟩
          rw [decide_eq_false hxy] at ht
          subst ht
          conv => whnf
          have hye : y.id = o.e.id := by rw [hqi] at hyq; exact (hN.eq y hyq).1
          refine VDraw.mk' tab_ok (Ext W9) [] (.take 0 <| .take 1 <| .take 2 <| .take 3 <| .take 4 <| .take 5 <| .take 6 <| .take 7 <| .take 8 <| .take 9 <| .take 10 <| .take 11 <| .done) mixed (by kernel_rfl) (by kernel_rfl) (Ext.drew _) ?_
          have hd3 := Ext.drew W9
          generalize W9.drew = W10 at hd3
          have heA : Ext W5 W10 := he7.tr (hd.tr (hd2.tr hd3))
          conv => whnf
          refine ⟨.bool false, fun w' hs => (hs.cell ((he7.tr (hd.tr hd2)).cell (ld (v := .bool o.drop) hb6 rfl rfl))).trans (by rw [hod]), ?_⟩
          conv => whnf
          refine ⟨by omega, by omega, aq, hAq, ?_⟩
          conv => whnf
          refine ⟨cI y.id, rfl, fun w' hs => (dq.ext (he7.tr (hd.tr (hd2.tr hs)))).sub 0 rfl, ?_⟩
          conv => whnf
          refine ⟨cI o.e.id, rfl, fun w' hs => lds (hs.at_ ((he7.tr (hd.tr hd2)).at_ hb6)) rfl rfl, ?_⟩
          conv => whnf
          refine ⟨_, neq24 y.id o.e.id, fun t ht => ?_⟩
          rw [decide_eq_true hye] at ht
          subst ht
          conv => whnf
          intro r hr
          obtain rfl : r = ((q + 1 : Nat) : Int) := by rw [hr, wrap_id (by omega) (by omega)]; rfl
          clear hr
          conv => whnf
          refine ⟨(q + 1, k), ⟨rfl, rfl, rfl, rfl, rfl, rfl, rfl, rfl, rfl, trivial⟩, ⟨heA, by dsimp only; omega, ?_⟩, by dsimp only; omega⟩
          simp only [Kat, Bool.false_eq_true, if_false]
          rw [hKk]
          split <;> split <;> omega
      obtain ⟨i, h1, h2, h3⟩ := hat h0
      rw [hp1] at h1
      cases h1
      by_cases hz : o.e.ref = Idn.z
      case pos =>
        unfold placeV
        cases hp2 : placeL (own S' Idn.z) o.e.ref with
        | none =>
          conv => whnf
          intro t ht
          obtain rfl : t = true := ht.yes h0
          conv => whnf
          refine ⟨cI o.e.ref, rfl, lds hb6 rfl rfl, ?_⟩
          conv => whnf
          refine Run.mk' _ _ (build24_0 _) ?_
          conv => whnf
          refine ⟨_, neq24 o.e.ref Idn.z, fun t ht => ?_⟩
          rw [decide_eq_true hz] at ht
          subst ht
          -- what is there now
          conv => whnf
          refine (wElements hx.line).mono ?_
          rintro _ W5 ⟨he, A2, c2, rfl, hnow, hfr2⟩
          replace hx := hx.go he
          replace hwas := hwas.ext he
          replace hb6 := he.at_ hb6
          clear he hfr2
          obtain ⟨now, hnowe⟩ : ∃ now, now = own S' Idn.z := ⟨_, rfl⟩
          rw [← hnowe] at hnow hN ⊢
          rw [← hwase] at hN
          have hnlen : now.length ≤ 4096 := by rw [hnowe]; exact Nat.le_trans (own_len hx.line.ok (.inl rfl)) hx.line.few
          generalize hnn : now.length = nn at hnow ⊢
          clear hnowe
          conv => whnf
          refine VLoop.mk' tab_ok (X := Nat × Nat) (fun p => [(0, .slice A n c), (3, ptr b), (4, .int .i64 i), (2, .bool false), (5, .slice A1 wn c1), (12, .slice A2 nn c2), (6, ptr b6), (13, .int .i64 p.2), (14, .int .i64 p.1)])
            (fun p W => Ext W5 W ∧ p.1 ≤ nn ∧ Kat false i0 p.1 p.2) (fun p _ => nn - p.1) (0, 0) ⟨rfl, rfl, rfl, rfl, rfl, rfl, rfl, rfl, rfl, trivial⟩ ⟨Ext.refl _, Nat.zero_le _, by simp [Kat]⟩ ?_
          rintro ⟨q, k⟩ j2 W6 ⟨he6, hqn, hK⟩
          dsimp only at hqn hK
          conv => whnf
          intro t htq
          cases t <;> simp only [VB] at htq
          case false =>
            conv => whnf
            intro r hr
            obtain rfl : r = ((i + 1 : Nat) : Int) := by rw [hr, wrap_id (by omega) (by omega)]; rfl
            clear hr
            conv => whnf
            exact ⟨(i + 1, S', B'), ⟨rfl, rfl, rfl, rfl, trivial⟩, ⟨hx.go he6, by dsimp only; omega⟩, by dsimp only; omega⟩
          have hq : q < nn := by omega
          obtain ⟨aq, kq, hAq, dq⟩ := hnow.at_ hq
          obtain ⟨y, hy⟩ : ∃ y, y = now[q] := ⟨_, rfl⟩
          have hyq : now[q]? = some y := by rw [hy]; exact List.getElem?_eq_getElem kq
          rw [← hy] at dq
          conv => whnf
          have hKk : k = if q ≤ i0 then q else q - 1 := by simpa [Kat] using hK
          refine VLoop.mk' tab_ok (X := Unit) (fun _ => [(0, .slice A n c), (3, ptr b), (4, .int .i64 i), (2, .bool false), (5, .slice A1 wn c1), (12, .slice A2 nn c2), (6, ptr b6), (13, .int .i64 k), (14, .int .i64 q)])
            (fun _ W => Ext W5 W) (fun _ _ => 0) () ⟨rfl, rfl, rfl, rfl, rfl, rfl, rfl, rfl, rfl, trivial⟩ he6 ?_
          clear hK he6
          rintro _ j3 W7 he7
          have hkn : k ≤ 4097 := by rw [hKk]; split <;> omega
          conv => whnf
          refine VDraw.mk' tab_ok (Ext W7) [] (.take 0 <| .take 1 <| .take 2 <| .take 3 <| .take 4 <| .take 5 <| .take 6 <| .take 7 <| .take 8 <| .take 9 <| .take 10 <| .take 11 <| .take 12 <| .take 13 <| .take 14 <| .take 15 <| .take 16 <| .take 17 <| .take 18 <| .take 19 <| .take 20 <| .done) mixed (by kernel_rfl) (by kernel_rfl) (Ext.drew _) ?_
          have hd := Ext.drew W7
          generalize W7.drew = W8 at hd
          conv => whnf
          intro t ht
          cases t <;> simp only [VB] at ht
          case false =>
            -- nothing more was there
            conv => whnf
            have hqi : q = i0 := by
              rcases Nat.lt_trichotomy q i0 with h1 | h1 | h1
              · rw [if_pos (by omega)] at hKk
                subst hKk
                have := (List.getElem?_eq_some_iff.1 (hN.lo _ y hyq h1)).1
                omega
              · exact h1
              · rw [if_neg (by omega)] at hKk
                subst hKk
                have := (List.getElem?_eq_some_iff.1 (hN.hi _ y hyq h1)).1
                omega
            refine VDraw.mk' tab_ok (Ext W8) [] (.take 0 <| .take 1 <| .take 2 <| .take 3 <| .take 4 <| .take 5 <| .take 6 <| .take 7 <| .take 8 <| .take 9 <| .take 10 <| .take 11 <| .take 12 <| .take 13 <| .take 14 <| .take 15 <| .take 16 <| .done) mixed (by kernel_rfl) (by kernel_rfl) (Ext.drew _) ?_
            have hd2 := Ext.drew W8
            generalize W8.drew = W9 at hd2
            conv => whnf
            intro t ht4
            obtain rfl : t = false := ht4.no (by omega)
            conv => whnf
            have hye : y.id = o.e.id := by rw [hqi] at hyq; exact (hN.eq y hyq).1
            refine VDraw.mk' tab_ok (Ext W9) [] (.take 0 <| .take 1 <| .take 2 <| .take 3 <| .take 4 <| .take 5 <| .take 6 <| .take 7 <| .take 8 <| .take 9 <| .take 10 <| .take 11 <| .done) mixed (by kernel_rfl) (by kernel_rfl) (Ext.drew _) ?_
            have hd3 := Ext.drew W9
            generalize W9.drew = W10 at hd3
            have heA : Ext W5 W10 := he7.tr (hd.tr (hd2.tr hd3))
            conv => whnf
            refine ⟨.bool false, fun w' hs => (hs.cell ((he7.tr (hd.tr hd2)).cell (ld (v := .bool o.drop) hb6 rfl rfl))).trans (by rw [hod]), ?_⟩
            conv => whnf
            refine ⟨by omega, by omega, aq, hAq, ?_⟩
            conv => whnf
            refine ⟨cI y.id, rfl, fun w' hs => (dq.ext (he7.tr (hd.tr (hd2.tr hs)))).sub 0 rfl, ?_⟩
            conv => whnf
            refine ⟨cI o.e.id, rfl, fun w' hs => lds (hs.at_ ((he7.tr (hd.tr hd2)).at_ hb6)) rfl rfl, ?_⟩
            conv => whnf
            refine ⟨_, neq24 y.id o.e.id, fun t ht => ?_⟩
            rw [decide_eq_true hye] at ht
            subst ht
            conv => whnf
            intro r hr
            obtain rfl : r = ((q + 1 : Nat) : Int) := by rw [hr, wrap_id (by omega) (by omega)]; rfl
            clear hr
            conv => whnf
            refine ⟨(q + 1, k), ⟨rfl, rfl, rfl, rfl, rfl, rfl, rfl, rfl, rfl, trivial⟩, ⟨heA, by dsimp only; omega, ?_⟩, by dsimp only; omega⟩
            simp only [Kat, Bool.false_eq_true, if_false]
            rw [hKk]
            split <;> split <;> omega
          have hkw : k < wn := by omega
          obtain ⟨ak, kk, hAk, dk⟩ := hwas.at_ hkw
          obtain ⟨x, hxk⟩ : ∃ x, x = was[k] := ⟨_, rfl⟩
          have hxk2 : was[k]? = some x := by rw [hxk]; exact List.getElem?_eq_getElem kk
          rw [← hxk] at dk
          conv => whnf
          refine ⟨by omega, by omega, ak, hAk, ?_⟩
          conv => whnf
          refine ⟨cI x.id, rfl, fun w' hs => (dk.ext (he7.tr hs)).sub 0 rfl, ?_⟩
          conv => whnf
          refine ⟨by omega, by omega, aq, hAq, ?_⟩
          conv => whnf
          refine ⟨cI y.id, rfl, fun w' hs => (dq.ext (he7.tr hs)).sub 0 rfl, ?_⟩
          conv => whnf
          refine ⟨_, neq24 x.id y.id, fun t ht3 => ?_⟩
          by_cases hxy : x.id = y.id
          case pos =>
            rw [decide_eq_true hxy] at ht3
            subst ht3
            conv => whnf
            refine VDraw.mk' tab_ok (Ext W8) [] (.take 0 <| .take 1 <| .take 2 <| .take 3 <| .take 4 <| .take 5 <| .take 6 <| .take 7 <| .take 8 <| .take 9 <| .take 10 <| .take 11 <| .take 12 <| .take 13 <| .take 14 <| .take 15 <| .take 16 <| .done) mixed (by kernel_rfl) (by kernel_rfl) (Ext.drew _) ?_
            have hd2 := Ext.drew W8
            generalize W8.drew = W9 at hd2
            conv => whnf
            intro t ht
            obtain rfl : t = true := ht.yes (by omega)
            conv => whnf
            refine ⟨by omega, by omega, ak, hAk, ?_⟩
            conv => whnf
            refine ⟨cI x.id, rfl, fun w' hs => (dk.ext (he7.tr (hd.tr hs))).sub 0 rfl, ?_⟩
            conv => whnf
            refine ⟨by omega, by omega, aq, hAq, ?_⟩
            conv => whnf
            refine ⟨cI y.id, rfl, fun w' hs => (dq.ext (he7.tr (hd.tr hs))).sub 0 rfl, ?_⟩
            conv => whnf
            refine ⟨_, eq24 x.id y.id, fun t ht => ?_⟩
            rw [decide_eq_true hxy] at ht
            subst ht
            conv => whnf
            intro r hr
            obtain rfl : r = ((k + 1 : Nat) : Int) := by rw [hr, wrap_id (by omega) (by omega)]; rfl
            clear hr
            conv => whnf
            intro r hr
            obtain rfl : r = ((q + 1 : Nat) : Int) := by rw [hr, wrap_id (by omega) (by omega)]; rfl
            clear hr
            conv => whnf
            refine ⟨(q + 1, k + 1), ⟨rfl, rfl, rfl, rfl, rfl, rfl, rfl, rfl, rfl, trivial⟩, ⟨he7.tr (hd.tr hd2), by dsimp only; omega, ?_⟩, by dsimp only; omega⟩
            simp only [Kat, Bool.false_eq_true, if_false]
            have hqi : q ≠ i0 := fun e1 => by
              subst e1
              rw [if_pos (Nat.le_refl _)] at hKk
              subst hKk
              obtain ⟨h1, h2⟩ := hN.eq y hyq
              exact h2 x hxk2 (hxy.trans h1)
            rw [hKk]
            split <;> split <;> omega
          have hqi : q = i0 := by
            rcases Nat.lt_trichotomy q i0 with h1 | h1 | h1
            · rw [if_pos (by omega)] at hKk
              subst hKk
              have := hN.lo _ y hyq h1
              rw [hxk2] at this
              cases this
              exact absurd rfl hxy
            · exact h1
            · rw [if_neg (by omega)] at hKk
              subst hKk
              have := hN.hi _ y hyq h1
              rw [hxk2] at this
              cases this
              exact absurd rfl hxy
          rw [decide_eq_false hxy] at ht3
          subst ht3
          conv => whnf
          refine ⟨.bool false, fun w' hs => (hs.cell (he7.cell (ld (v := .bool o.drop) hb6 rfl rfl))).trans (by rw [hod]), ?_⟩
          conv => whnf
          refine VDraw.mk' tab_ok (Ext W8) [] (.take 0 <| .take 1 <| .take 2 <| .take 3 <| .take 4 <| .take 5 <| .take 6 <| .take 7 <| .take 8 <| .take 9 <| .take 10 <| .take 11 <| .take 12 <| .take 13 <| .take 14 <| .take 15 <| .take 16 <| .done) mixed (by kernel_rfl) (by kernel_rfl) (Ext.drew _) ?_
          have hd2 := Ext.drew W8
          generalize W8.drew = W9 at hd2
          conv => whnf
          intro t ht
          obtain rfl : t = true := ht.yes (by omega)
          conv => whnf
          refine ⟨by omega, by omega, ak, hAk, ?_⟩
          conv => whnf
          refine ⟨cI x.id, rfl, fun w' hs => (dk.ext (he7.tr (hd.tr hs))).sub 0 rfl, ?_⟩
          conv => whnf
          refine ⟨by omega, by omega, aq, hAq, ?_⟩
          conv => whnf
          refine ⟨cI y.id, rfl, fun w' hs => (dq.ext (he7.tr (hd.tr hs))).sub 0 rfl, ?_⟩
          conv => whnf
          refine ⟨_, eq24 x.id y.id, fun t ht => ?_⟩
          rw [decide_eq_false hxy] at ht
          subst ht
          conv => whnf
          have hye : y.id = o.e.id := by rw [hqi] at hyq; exact (hN.eq y hyq).1
          refine VDraw.mk' tab_ok (Ext W9) [] (.take 0 <| .take 1 <| .take 2 <| .take 3 <| .take 4 <| .take 5 <| .take 6 <| .take 7 <| .take 8 <| .take 9 <| .take 10 <| .take 11 <| .done) mixed (by kernel_rfl) (by kernel_rfl) (Ext.drew _) ?_
          have hd3 := Ext.drew W9
          generalize W9.drew = W10 at hd3
          have heA : Ext W5 W10 := he7.tr (hd.tr (hd2.tr hd3))
          conv => whnf
          refine ⟨.bool false, fun w' hs => (hs.cell ((he7.tr (hd.tr hd2)).cell (ld (v := .bool o.drop) hb6 rfl rfl))).trans (by rw [hod]), ?_⟩
          conv => whnf
          refine ⟨by omega, by omega, aq, hAq, ?_⟩
          conv => whnf
          refine ⟨cI y.id, rfl, fun w' hs => (dq.ext (he7.tr (hd.tr (hd2.tr hs)))).sub 0 rfl, ?_⟩
          conv => whnf
          refine ⟨cI o.e.id, rfl, fun w' hs => lds (hs.at_ ((he7.tr (hd.tr hd2)).at_ hb6)) rfl rfl, ?_⟩
          conv => whnf
          refine ⟨_, neq24 y.id o.e.id, fun t ht => ?_⟩
          rw [decide_eq_true hye] at ht
          subst ht
          conv => whnf
          intro r hr
          obtain rfl : r = ((q + 1 : Nat) : Int) := by rw [hr, wrap_id (by omega) (by omega)]; rfl
          clear hr
          conv => whnf
          refine ⟨(q + 1, k), ⟨rfl, rfl, rfl, rfl, rfl, rfl, rfl, rfl, rfl, trivial⟩, ⟨heA, by dsimp only; omega, ?_⟩, by dsimp only; omega⟩
          simp only [Kat, Bool.false_eq_true, if_false]
          rw [hKk]
          split <;> split <;> omega
        | some i2 =>
          conv => whnf
          intro t ht
          obtain rfl : t = true := ht.yes h0
          conv => whnf
          refine ⟨cI o.e.ref, rfl, lds hb6 rfl rfl, ?_⟩
          conv => whnf
          refine Run.mk' _ _ (build24_0 _) ?_
          conv => whnf
          refine ⟨_, neq24 o.e.ref Idn.z, fun t ht => ?_⟩
          rw [decide_eq_true hz] at ht
          subst ht
          -- what is there now
          conv => whnf
          refine (wElements hx.line).mono ?_
          rintro _ W5 ⟨he, A2, c2, rfl, hnow, hfr2⟩
          replace hx := hx.go he
          replace hwas := hwas.ext he
          replace hb6 := he.at_ hb6
          clear he hfr2
          obtain ⟨now, hnowe⟩ : ∃ now, now = own S' Idn.z := ⟨_, rfl⟩
          rw [← hnowe] at hnow hN ⊢
          rw [← hwase] at hN
          have hnlen : now.length ≤ 4096 := by rw [hnowe]; exact Nat.le_trans (own_len hx.line.ok (.inl rfl)) hx.line.few
          generalize hnn : now.length = nn at hnow ⊢
          clear hnowe
          conv => whnf
          refine VLoop.mk' tab_ok (X := Nat × Nat) (fun p => [(0, .slice A n c), (3, ptr b), (4, .int .i64 i), (2, .bool false), (5, .slice A1 wn c1), (12, .slice A2 nn c2), (6, ptr b6), (13, .int .i64 p.2), (14, .int .i64 p.1)])
            (fun p W => Ext W5 W ∧ p.1 ≤ nn ∧ Kat false i0 p.1 p.2) (fun p _ => nn - p.1) (0, 0) ⟨rfl, rfl, rfl, rfl, rfl, rfl, rfl, rfl, rfl, trivial⟩ ⟨Ext.refl _, Nat.zero_le _, by simp [Kat]⟩ ?_
          rintro ⟨q, k⟩ j2 W6 ⟨he6, hqn, hK⟩
          dsimp only at hqn hK
          conv => whnf
          intro t htq
          cases t <;> simp only [VB] at htq
          case false =>
            conv => whnf
            intro r hr
            obtain rfl : r = ((i + 1 : Nat) : Int) := by rw [hr, wrap_id (by omega) (by omega)]; rfl
            clear hr
            conv => whnf
            exact ⟨(i + 1, S', B'), ⟨rfl, rfl, rfl, rfl, trivial⟩, ⟨hx.go he6, by dsimp only; omega⟩, by dsimp only; omega⟩
          have hq : q < nn := by omega
          obtain ⟨aq, kq, hAq, dq⟩ := hnow.at_ hq
          obtain ⟨y, hy⟩ : ∃ y, y = now[q] := ⟨_, rfl⟩
          have hyq : now[q]? = some y := by rw [hy]; exact List.getElem?_eq_getElem kq
          rw [← hy] at dq
          conv => whnf
          have hKk : k = if q ≤ i0 then q else q - 1 := by simpa [Kat] using hK
          refine VLoop.mk' tab_ok (X := Unit) (fun _ => [(0, .slice A n c), (3, ptr b), (4, .int .i64 i), (2, .bool false), (5, .slice A1 wn c1), (12, .slice A2 nn c2), (6, ptr b6), (13, .int .i64 k), (14, .int .i64 q)])
            (fun _ W => Ext W5 W) (fun _ _ => 0) () ⟨rfl, rfl, rfl, rfl, rfl, rfl, rfl, rfl, rfl, trivial⟩ he6 ?_
          clear hK he6
          rintro _ j3 W7 he7
          have hkn : k ≤ 4097 := by rw [hKk]; split <;> omega
          conv => whnf
          refine VDraw.mk' tab_ok (Ext W7) [] (.take 0 <| .take 1 <| .take 2 <| .take 3 <| .take 4 <| .take 5 <| .take 6 <| .take 7 <| .take 8 <| .take 9 <| .take 10 <| .take 11 <| .take 12 <| .take 13 <| .take 14 <| .take 15 <| .take 16 <| .take 17 <| .take 18 <| .take 19 <| .take 20 <| .done) mixed (by kernel_rfl) (by kernel_rfl) (Ext.drew _) ?_
          have hd := Ext.drew W7
          generalize W7.drew = W8 at hd
          conv => whnf
          intro t ht
          cases t <;> simp only [VB] at ht
          case false =>
            -- nothing more was there
            conv => whnf
            have hqi : q = i0 := by
              rcases Nat.lt_trichotomy q i0 with h1 | h1 | h1
              · rw [if_pos (by omega)] at hKk
                subst hKk
                have := (List.getElem?_eq_some_iff.1 (hN.lo _ y hyq h1)).1
                omega
              · exact h1
              · rw [if_neg (by omega)] at hKk
                subst hKk
                have := (List.getElem?_eq_some_iff.1 (hN.hi _ y hyq h1)).1
                omega
            refine VDraw.mk' tab_ok (Ext W8) [] (.take 0 <| .take 1 <| .take 2 <| .take 3 <| .take 4 <| .take 5 <| .take 6 <| .take 7 <| .take 8 <| .take 9 <| .take 10 <| .take 11 <| .take 12 <| .take 13 <| .take 14 <| .take 15 <| .take 16 <| .done) mixed (by kernel_rfl) (by kernel_rfl) (Ext.drew _) ?_
            have hd2 := Ext.drew W8
            generalize W8.drew = W9 at hd2
            conv => whnf
            intro t ht4
            obtain rfl : t = false := ht4.no (by omega)
            conv => whnf
            have hye : y.id = o.e.id := by rw [hqi] at hyq; exact (hN.eq y hyq).1
            refine VDraw.mk' tab_ok (Ext W9) [] (.take 0 <| .take 1 <| .take 2 <| .take 3 <| .take 4 <| .take 5 <| .take 6 <| .take 7 <| .take 8 <| .take 9 <| .take 10 <| .take 11 <| .done) mixed (by kernel_rfl) (by kernel_rfl) (Ext.drew _) ?_
            have hd3 := Ext.drew W9
            generalize W9.drew = W10 at hd3
            have heA : Ext W5 W10 := he7.tr (hd.tr (hd2.tr hd3))
            conv => whnf
            refine ⟨.bool false, fun w' hs => (hs.cell ((he7.tr (hd.tr hd2)).cell (ld (v := .bool o.drop) hb6 rfl rfl))).trans (by rw [hod]), ?_⟩
            conv => whnf
            refine ⟨by omega, by omega, aq, hAq, ?_⟩
            conv => whnf
            refine ⟨cI y.id, rfl, fun w' hs => (dq.ext (he7.tr (hd.tr (hd2.tr hs)))).sub 0 rfl, ?_⟩
            conv => whnf
            refine ⟨cI o.e.id, rfl, fun w' hs => lds (hs.at_ ((he7.tr (hd.tr hd2)).at_ hb6)) rfl rfl, ?_⟩
            conv => whnf
            refine ⟨_, neq24 y.id o.e.id, fun t ht => ?_⟩
            rw [decide_eq_true hye] at ht
            subst ht
            conv => whnf
            intro r hr
            obtain rfl : r = ((q + 1 : Nat) : Int) := by rw [hr, wrap_id (by omega) (by omega)]; rfl
            clear hr
            conv => whnf
            refine ⟨(q + 1, k), ⟨rfl, rfl, rfl, rfl, rfl, rfl, rfl, rfl, rfl, trivial⟩, ⟨heA, by dsimp only; omega, ?_⟩, by dsimp only; omega⟩
            simp only [Kat, Bool.false_eq_true, if_false]
            rw [hKk]
            split <;> split <;> omega
          have hkw : k < wn := by omega
          obtain ⟨ak, kk, hAk, dk⟩ := hwas.at_ hkw
          obtain ⟨x, hxk⟩ : ∃ x, x = was[k] := ⟨_, rfl⟩
          have hxk2 : was[k]? = some x := by rw [hxk]; exact List.getElem?_eq_getElem kk
          rw [← hxk] at dk
          conv => whnf
          refine ⟨by omega, by omega, ak, hAk, ?_⟩
          conv => whnf
          refine ⟨cI x.id, rfl, fun w' hs => (dk.ext (he7.tr hs)).sub 0 rfl, ?_⟩
          conv => whnf
          refine ⟨by omega, by omega, aq, hAq, ?_⟩
          conv => whnf
          refine ⟨cI y.id, rfl, fun w' hs => (dq.ext (he7.tr hs)).sub 0 rfl, ?_⟩
          conv => whnf
          refine ⟨_, neq24 x.id y.id, fun t ht3 => ?_⟩
          by_cases hxy : x.id = y.id
          case pos =>
            rw [decide_eq_true hxy] at ht3
            subst ht3
            conv => whnf
            refine VDraw.mk' tab_ok (Ext W8) [] (.take 0 <| .take 1 <| .take 2 <| .take 3 <| .take 4 <| .take 5 <| .take 6 <| .take 7 <| .take 8 <| .take 9 <| .take 10 <| .take 11 <| .take 12 <| .take 13 <| .take 14 <| .take 15 <| .take 16 <| .done) mixed (by kernel_rfl) (by kernel_rfl) (Ext.drew _) ?_
            have hd2 := Ext.drew W8
            generalize W8.drew = W9 at hd2
            conv => whnf
            intro t ht
            obtain rfl : t = true := ht.yes (by omega)
            conv => whnf
            refine ⟨by omega, by omega, ak, hAk, ?_⟩
            conv => whnf
            refine ⟨cI x.id, rfl, fun w' hs => (dk.ext (he7.tr (hd.tr hs))).sub 0 rfl, ?_⟩
            conv => whnf
            refine ⟨by omega, by omega, aq, hAq, ?_⟩
            conv => whnf
            refine ⟨cI y.id, rfl, fun w' hs => (dq.ext (he7.tr (hd.tr hs))).sub 0 rfl, ?_⟩
            conv => whnf
            refine ⟨_, eq24 x.id y.id, fun t ht => ?_⟩
            rw [decide_eq_true hxy] at ht
            subst ht
            conv => whnf
            intro r hr
            obtain rfl : r = ((k + 1 : Nat) : Int) := by rw [hr, wrap_id (by omega) (by omega)]; rfl
            clear hr
            conv => whnf
            intro r hr
            obtain rfl : r = ((q + 1 : Nat) : Int) := by rw [hr, wrap_id (by omega) (by omega)]; rfl
            clear hr
            conv => whnf
            refine ⟨(q + 1, k + 1), ⟨rfl, rfl, rfl, rfl, rfl, rfl, rfl, rfl, rfl, trivial⟩, ⟨he7.tr (hd.tr hd2), by dsimp only; omega, ?_⟩, by dsimp only; omega⟩
            simp only [Kat, Bool.false_eq_true, if_false]
            have hqi : q ≠ i0 := fun e1 => by
              subst e1
              rw [if_pos (Nat.le_refl _)] at hKk
              subst hKk
              obtain ⟨h1, h2⟩ := hN.eq y hyq
              exact h2 x hxk2 (hxy.trans h1)
            rw [hKk]
            split <;> split <;> omega
          have hqi : q = i0 := by
            rcases Nat.lt_trichotomy q i0 with h1 | h1 | h1
            · rw [if_pos (by omega)] at hKk
              subst hKk
              have := hN.lo _ y hyq h1
              rw [hxk2] at this
              cases this
              exact absurd rfl hxy
            · exact h1
            · rw [if_neg (by omega)] at hKk
              subst hKk
              have := hN.hi _ y hyq h1
              rw [hxk2] at this
              cases this
              exact absurd rfl hxy
          rw [decide_eq_false hxy] at ht3
          subst ht3
          conv => whnf
          refine ⟨.bool false, fun w' hs => (hs.cell (he7.cell (ld (v := .bool o.drop) hb6 rfl rfl))).trans (by rw [hod]), ?_⟩
          conv => whnf
          refine VDraw.mk' tab_ok (Ext W8) [] (.take 0 <| .take 1 <| .take 2 <| .take 3 <| .take 4 <| .take 5 <| .take 6 <| .take 7 <| .take 8 <| .take 9 <| .take 10 <| .take 11 <| .take 12 <| .take 13 <| .take 14 <| .take 15 <| .take 16 <| .done) mixed (by kernel_rfl) (by kernel_rfl) (Ext.drew _) ?_
          have hd2 := Ext.drew W8
          generalize W8.drew = W9 at hd2
          conv => whnf
          intro t ht
          obtain rfl : t = true := ht.yes (by omega)
          conv => whnf
          refine ⟨by omega, by omega, ak, hAk, ?_⟩
          conv => whnf
          refine ⟨cI x.id, rfl, fun w' hs => (dk.ext (he7.tr (hd.tr hs))).sub 0 rfl, ?_⟩
          conv => whnf
          refine ⟨by omega, by omega, aq, hAq, ?_⟩
          conv => whnf
          refine ⟨cI y.id, rfl, fun w' hs => (dq.ext (he7.tr (hd.tr hs))).sub 0 rfl, ?_⟩
          conv => whnf
          refine ⟨_, eq24 x.id y.id, fun t ht => ?_⟩
          rw [decide_eq_false hxy] at ht
          subst ht
          conv => whnf
          have hye : y.id = o.e.id := by rw [hqi] at hyq; exact (hN.eq y hyq).1
          refine VDraw.mk' tab_ok (Ext W9) [] (.take 0 <| .take 1 <| .take 2 <| .take 3 <| .take 4 <| .take 5 <| .take 6 <| .take 7 <| .take 8 <| .take 9 <| .take 10 <| .take 11 <| .done) mixed (by kernel_rfl) (by kernel_rfl) (Ext.drew _) ?_
          have hd3 := Ext.drew W9
          generalize W9.drew = W10 at hd3
          have heA : Ext W5 W10 := he7.tr (hd.tr (hd2.tr hd3))
          conv => whnf
          refine ⟨.bool false, fun w' hs => (hs.cell ((he7.tr (hd.tr hd2)).cell (ld (v := .bool o.drop) hb6 rfl rfl))).trans (by rw [hod]), ?_⟩
          conv => whnf
          refine ⟨by omega, by omega, aq, hAq, ?_⟩
          conv => whnf
          refine ⟨cI y.id, rfl, fun w' hs => (dq.ext (he7.tr (hd.tr (hd2.tr hs)))).sub 0 rfl, ?_⟩
          conv => whnf
          refine ⟨cI o.e.id, rfl, fun w' hs => lds (hs.at_ ((he7.tr (hd.tr hd2)).at_ hb6)) rfl rfl, ?_⟩
          conv => whnf
          refine ⟨_, neq24 y.id o.e.id, fun t ht => ?_⟩
          rw [decide_eq_true hye] at ht
          subst ht
          conv => whnf
          intro r hr
          obtain rfl : r = ((q + 1 : Nat) : Int) := by rw [hr, wrap_id (by omega) (by omega)]; rfl
          clear hr
          conv => whnf
          refine ⟨(q + 1, k), ⟨rfl, rfl, rfl, rfl, rfl, rfl, rfl, rfl, rfl, trivial⟩, ⟨heA, by dsimp only; omega, ?_⟩, by dsimp only; omega⟩
          simp only [Kat, Bool.false_eq_true, if_false]
          rw [hKk]
          split <;> split <;> omega
      obtain ⟨jr, hjr, hpr⟩ := h3 hz
      unfold placeV
      rw [hpr]
      conv => whnf
      intro t ht
      obtain rfl : t = true := ht.yes h0
      conv => whnf
      refine ⟨cI o.e.ref, rfl, lds hb6 rfl rfl, ?_⟩
      conv => whnf
      refine Run.mk' _ _ (build24_0 _) ?_
      conv => whnf
      refine ⟨_, neq24 o.e.ref Idn.z, fun t ht => ?_⟩
      rw [decide_eq_false hz] at ht
      subst ht
      conv => whnf
      intro t ht
      obtain rfl : t = false := ht.no (by omega)
      -- what is there now
      conv => whnf
      refine (wElements hx.line).mono ?_
      rintro _ W5 ⟨he, A2, c2, rfl, hnow, hfr2⟩
      replace hx := hx.go he
      replace hwas := hwas.ext he
      replace hb6 := he.at_ hb6
      clear he hfr2
      obtain ⟨now, hnowe⟩ : ∃ now, now = own S' Idn.z := ⟨_, rfl⟩
      rw [← hnowe] at hnow hN ⊢
      rw [← hwase] at hN
      have hnlen : now.length ≤ 4096 := by rw [hnowe]; exact Nat.le_trans (own_len hx.line.ok (.inl rfl)) hx.line.few
      generalize hnn : now.length = nn at hnow ⊢
      clear hnowe
      conv => whnf
      refine VLoop.mk' tab_ok (X := Nat × Nat) (fun p => [(0, .slice A n c), (3, ptr b), (4, .int .i64 i), (2, .bool false), (5, .slice A1 wn c1), (12, .slice A2 nn c2), (6, ptr b6), (13, .int .i64 p.2), (14, .int .i64 p.1)])
        (fun p W => Ext W5 W ∧ p.1 ≤ nn ∧ Kat false i0 p.1 p.2) (fun p _ => nn - p.1) (0, 0) ⟨rfl, rfl, rfl, rfl, rfl, rfl, rfl, rfl, rfl, trivial⟩ ⟨Ext.refl _, Nat.zero_le _, by simp [Kat]⟩ ?_
      rintro ⟨q, k⟩ j2 W6 ⟨he6, hqn, hK⟩
      dsimp only at hqn hK
      conv => whnf
      intro t htq
      cases t <;> simp only [VB] at htq
      case false =>
        conv => whnf
        intro r hr
        obtain rfl : r = ((i + 1 : Nat) : Int) := by rw [hr, wrap_id (by omega) (by omega)]; rfl
        clear hr
        conv => whnf
        exact ⟨(i + 1, S', B'), ⟨rfl, rfl, rfl, rfl, trivial⟩, ⟨hx.go he6, by dsimp only; omega⟩, by dsimp only; omega⟩
      have hq : q < nn := by omega
      obtain ⟨aq, kq, hAq, dq⟩ := hnow.at_ hq
      obtain ⟨y, hy⟩ : ∃ y, y = now[q] := ⟨_, rfl⟩
      have hyq : now[q]? = some y := by rw [hy]; exact List.getElem?_eq_getElem kq
      rw [← hy] at dq
      conv => whnf
      have hKk : k = if q ≤ i0 then q else q - 1 := by simpa [Kat] using hK
      refine VLoop.mk' tab_ok (X := Unit) (fun _ => [(0, .slice A n c), (3, ptr b), (4, .int .i64 i), (2, .bool false), (5, .slice A1 wn c1), (12, .slice A2 nn c2), (6, ptr b6), (13, .int .i64 k), (14, .int .i64 q)])
        (fun _ W => Ext W5 W) (fun _ _ => 0) () ⟨rfl, rfl, rfl, rfl, rfl, rfl, rfl, rfl, rfl, trivial⟩ he6 ?_
      clear hK he6
      rintro _ j3 W7 he7
      have hkn : k ≤ 4097 := by rw [hKk]; split <;> omega
      conv => whnf
      refine VDraw.mk' tab_ok (Ext W7) [] (.take 0 <| .take 1 <| .take 2 <| .take 3 <| .take 4 <| .take 5 <| .take 6 <| .take 7 <| .take 8 <| .take 9 <| .take 10 <| .take 11 <| .take 12 <| .take 13 <| .take 14 <| .take 15 <| .take 16 <| .take 17 <| .take 18 <| .take 19 <| .take 20 <| .done) mixed (by kernel_rfl) (by kernel_rfl) (Ext.drew _) ?_
      have hd := Ext.drew W7
      generalize W7.drew = W8 at hd
      conv => whnf
      intro t ht
      cases t <;> simp only [VB] at ht
      case false =>
        -- nothing more was there
        conv => whnf
        have hqi : q = i0 := by
          rcases Nat.lt_trichotomy q i0 with h1 | h1 | h1
          · rw [if_pos (by omega)] at hKk
            subst hKk
            have := (List.getElem?_eq_some_iff.1 (hN.lo _ y hyq h1)).1
            omega
          · exact h1
          · rw [if_neg (by omega)] at hKk
            subst hKk
            have := (List.getElem?_eq_some_iff.1 (hN.hi _ y hyq h1)).1
            omega
        refine VDraw.mk' tab_ok (Ext W8) [] (.take 0 <| .take 1 <| .take 2 <| .take 3 <| .take 4 <| .take 5 <| .take 6 <| .take 7 <| .take 8 <| .take 9 <| .take 10 <| .take 11 <| .take 12 <| .take 13 <| .take 14 <| .take 15 <| .take 16 <| .done) mixed (by kernel_rfl) (by kernel_rfl) (Ext.drew _) ?_
        have hd2 := Ext.drew W8
        generalize W8.drew = W9 at hd2
        conv => whnf
        intro t ht4
        obtain rfl : t = false := ht4.no (by omega)
        conv => whnf
        have hye : y.id = o.e.id := by rw [hqi] at hyq; exact (hN.eq y hyq).1
        refine VDraw.mk' tab_ok (Ext W9) [] (.take 0 <| .take 1 <| .take 2 <| .take 3 <| .take 4 <| .take 5 <| .take 6 <| .take 7 <| .take 8 <| .take 9 <| .take 10 <| .take 11 <| .done) mixed (by kernel_rfl) (by kernel_rfl) (Ext.drew _) ?_
        have hd3 := Ext.drew W9
        generalize W9.drew = W10 at hd3
        have heA : Ext W5 W10 := he7.tr (hd.tr (hd2.tr hd3))
        conv => whnf
        refine ⟨.bool false, fun w' hs => (hs.cell ((he7.tr (hd.tr hd2)).cell (ld (v := .bool o.drop) hb6 rfl rfl))).trans (by rw [hod]), ?_⟩
        conv => whnf
        refine ⟨by omega, by omega, aq, hAq, ?_⟩
        conv => whnf
        refine ⟨cI y.id, rfl, fun w' hs => (dq.ext (he7.tr (hd.tr (hd2.tr hs)))).sub 0 rfl, ?_⟩
        conv => whnf
        refine ⟨cI o.e.id, rfl, fun w' hs => lds (hs.at_ ((he7.tr (hd.tr hd2)).at_ hb6)) rfl rfl, ?_⟩
        conv => whnf
        refine ⟨_, neq24 y.id o.e.id, fun t ht => ?_⟩
        rw [decide_eq_true hye] at ht
        subst ht
        conv => whnf
        intro r hr
        obtain rfl : r = ((q + 1 : Nat) : Int) := by rw [hr, wrap_id (by omega) (by omega)]; rfl
        clear hr
        conv => whnf
        refine ⟨(q + 1, k), ⟨rfl, rfl, rfl, rfl, rfl, rfl, rfl, rfl, rfl, trivial⟩, ⟨heA, by dsimp only; omega, ?_⟩, by dsimp only; omega⟩
        simp only [Kat, Bool.false_eq_true, if_false]
        rw [hKk]
        split <;> split <;> omega
      have hkw : k < wn := by omega
      obtain ⟨ak, kk, hAk, dk⟩ := hwas.at_ hkw
      obtain ⟨x, hxk⟩ : ∃ x, x = was[k] := ⟨_, rfl⟩
      have hxk2 : was[k]? = some x := by rw [hxk]; exact List.getElem?_eq_getElem kk
      rw [← hxk] at dk
      conv => whnf
      refine ⟨by omega, by omega, ak, hAk, ?_⟩
      conv => whnf
      refine ⟨cI x.id, rfl, fun w' hs => (dk.ext (he7.tr hs)).sub 0 rfl, ?_⟩
      conv => whnf
      refine ⟨by omega, by omega, aq, hAq, ?_⟩
      conv => whnf
      refine ⟨cI y.id, rfl, fun w' hs => (dq.ext (he7.tr hs)).sub 0 rfl, ?_⟩
      conv => whnf
      refine ⟨_, neq24 x.id y.id, fun t ht3 => ?_⟩
      by_cases hxy : x.id = y.id
      case pos =>
        rw [decide_eq_true hxy] at ht3
        subst ht3
        conv => whnf
        refine VDraw.mk' tab_ok (Ext W8) [] (.take 0 <| .take 1 <| .take 2 <| .take 3 <| .take 4 <| .take 5 <| .take 6 <| .take 7 <| .take 8 <| .take 9 <| .take 10 <| .take 11 <| .take 12 <| .take 13 <| .take 14 <| .take 15 <| .take 16 <| .done) mixed (by kernel_rfl) (by kernel_rfl) (Ext.drew _) ?_
        have hd2 := Ext.drew W8
        generalize W8.drew = W9 at hd2
        conv => whnf
        intro t ht
        obtain rfl : t = true := ht.yes (by omega)
        conv => whnf
        refine ⟨by omega, by omega, ak, hAk, ?_⟩
        conv => whnf
        refine ⟨cI x.id, rfl, fun w' hs => (dk.ext (he7.tr (hd.tr hs))).sub 0 rfl, ?_⟩
        conv => whnf
        refine ⟨by omega, by omega, aq, hAq, ?_⟩
        conv => whnf
        refine ⟨cI y.id, rfl, fun w' hs => (dq.ext (he7.tr (hd.tr hs))).sub 0 rfl, ?_⟩
        conv => whnf
        refine ⟨_, eq24 x.id y.id, fun t ht => ?_⟩
        rw [decide_eq_true hxy] at ht
        subst ht
        conv => whnf
        intro r hr
        obtain rfl : r = ((k + 1 : Nat) : Int) := by rw [hr, wrap_id (by omega) (by omega)]; rfl
        clear hr
        conv => whnf
        intro r hr
        obtain rfl : r = ((q + 1 : Nat) : Int) := by rw [hr, wrap_id (by omega) (by omega)]; rfl
        clear hr
        conv => whnf
        refine ⟨(q + 1, k + 1), ⟨rfl, rfl, rfl, rfl, rfl, rfl, rfl, rfl, rfl, trivial⟩, ⟨he7.tr (hd.tr hd2), by dsimp only; omega, ?_⟩, by dsimp only; omega⟩
        simp only [Kat, Bool.false_eq_true, if_false]
        have hqi : q ≠ i0 := fun e1 => by
          subst e1
          rw [if_pos (Nat.le_refl _)] at hKk
          subst hKk
          obtain ⟨h1, h2⟩ := hN.eq y hyq
          exact h2 x hxk2 (hxy.trans h1)
        rw [hKk]
        split <;> split <;> omega
      have hqi : q = i0 := by
        rcases Nat.lt_trichotomy q i0 with h1 | h1 | h1
        · rw [if_pos (by omega)] at hKk
          subst hKk
          have := hN.lo _ y hyq h1
          rw [hxk2] at this
          cases this
          exact absurd rfl hxy
        · exact h1
        · rw [if_neg (by omega)] at hKk
          subst hKk
          have := hN.hi _ y hyq h1
          rw [hxk2] at this
          cases this
          exact absurd rfl hxy
      rw [decide_eq_false hxy] at ht3
      subst ht3
      conv => whnf
      refine ⟨.bool false, fun w' hs => (hs.cell (he7.cell (ld (v := .bool o.drop) hb6 rfl rfl))).trans (by rw [hod]), ?_⟩
      conv => whnf
      refine VDraw.mk' tab_ok (Ext W8) [] (.take 0 <| .take 1 <| .take 2 <| .take 3 <| .take 4 <| .take 5 <| .take 6 <| .take 7 <| .take 8 <| .take 9 <| .take 10 <| .take 11 <| .take 12 <| .take 13 <| .take 14 <| .take 15 <| .take 16 <| .done) mixed (by kernel_rfl) (by kernel_rfl) (Ext.drew _) ?_
      have hd2 := Ext.drew W8
      generalize W8.drew = W9 at hd2
      conv => whnf
      intro t ht
      obtain rfl : t = true := ht.yes (by omega)
      conv => whnf
      refine ⟨by omega, by omega, ak, hAk, ?_⟩
      conv => whnf
      refine ⟨cI x.id, rfl, fun w' hs => (dk.ext (he7.tr (hd.tr hs))).sub 0 rfl, ?_⟩
      conv => whnf
      refine ⟨by omega, by omega, aq, hAq, ?_⟩
      conv => whnf
      refine ⟨cI y.id, rfl, fun w' hs => (dq.ext (he7.tr (hd.tr hs))).sub 0 rfl, ?_⟩
      conv => whnf
      refine ⟨_, eq24 x.id y.id, fun t ht => ?_⟩
      rw [decide_eq_false hxy] at ht
      subst ht
      conv => whnf
      have hye : y.id = o.e.id := by rw [hqi] at hyq; exact (hN.eq y hyq).1
      refine VDraw.mk' tab_ok (Ext W9) [] (.take 0 <| .take 1 <| .take 2 <| .take 3 <| .take 4 <| .take 5 <| .take 6 <| .take 7 <| .take 8 <| .take 9 <| .take 10 <| .take 11 <| .done) mixed (by kernel_rfl) (by kernel_rfl) (Ext.drew _) ?_
      have hd3 := Ext.drew W9
      generalize W9.drew = W10 at hd3
      have heA : Ext W5 W10 := he7.tr (hd.tr (hd2.tr hd3))
      conv => whnf
      refine ⟨.bool false, fun w' hs => (hs.cell ((he7.tr (hd.tr hd2)).cell (ld (v := .bool o.drop) hb6 rfl rfl))).trans (by rw [hod]), ?_⟩
      conv => whnf
      refine ⟨by omega, by omega, aq, hAq, ?_⟩
      conv => whnf
      refine ⟨cI y.id, rfl, fun w' hs => (dq.ext (he7.tr (hd.tr (hd2.tr hs)))).sub 0 rfl, ?_⟩
      conv => whnf
      refine ⟨cI o.e.id, rfl, fun w' hs => lds (hs.at_ ((he7.tr (hd.tr hd2)).at_ hb6)) rfl rfl, ?_⟩
      conv => whnf
      refine ⟨_, neq24 y.id o.e.id, fun t ht => ?_⟩
      rw [decide_eq_true hye] at ht
      subst ht
      conv => whnf
      intro r hr
      obtain rfl : r = ((q + 1 : Nat) : Int) := by rw [hr, wrap_id (by omega) (by omega)]; rfl
      clear hr
      conv => whnf
      refine ⟨(q + 1, k), ⟨rfl, rfl, rfl, rfl, rfl, rfl, rfl, rfl, rfl, trivial⟩, ⟨heA, by dsimp only; omega, ?_⟩, by dsimp only; omega⟩
      simp only [Kat, Bool.false_eq_true, if_false]
      rw [hKk]
      split <;> split <;> omega
  case true =>
    conv => whnf
    refine ⟨cI o.e.id, rfl, lds hb6 rfl rfl, ?_⟩
    conv => whnf
    refine (xDrop hx o.e.id).mono ?_
    rintro _ W4 ⟨rfl, hc, B', hx', _⟩
    replace hwas := hwas.chg hc hwB
    replace hb6 := hc.at_ hb6 hb6n
    clear hx hc
    obtain ⟨i0, hN⟩ := now_drp hok o.e.id
    obtain ⟨S', hS'⟩ : ∃ S', S' = drpS S o.e.id := ⟨_, rfl⟩
    rw [← hS'] at hx' hN
    have hx := hx'
    clear hx'
    -- what is there now
    conv => whnf
    refine (wElements hx.line).mono ?_
    rintro _ W5 ⟨he, A2, c2, rfl, hnow, hfr2⟩
    replace hx := hx.go he
    replace hwas := hwas.ext he
    replace hb6 := he.at_ hb6
    clear he hfr2
    obtain ⟨now, hnowe⟩ : ∃ now, now = own S' Idn.z := ⟨_, rfl⟩
    rw [← hnowe] at hnow hN ⊢
    rw [← hwase] at hN
    have hnlen : now.length ≤ 4096 := by rw [hnowe]; exact Nat.le_trans (own_len hx.line.ok (.inl rfl)) hx.line.few
    generalize hnn : now.length = nn at hnow ⊢
    clear hnowe
    conv => whnf
    refine VLoop.mk' tab_ok (X := Nat × Nat) (fun p => [(0, .slice A n c), (3, ptr b), (4, .int .i64 i), (2, .bool false), (5, .slice A1 wn c1), (12, .slice A2 nn c2), (6, ptr b6), (13, .int .i64 p.2), (14, .int .i64 p.1)])
      (fun p W => Ext W5 W ∧ p.1 ≤ nn ∧ Kat true i0 p.1 p.2) (fun p _ => nn - p.1) (0, 0) ⟨rfl, rfl, rfl, rfl, rfl, rfl, rfl, rfl, rfl, trivial⟩ ⟨Ext.refl _, Nat.zero_le _, by simp [Kat]⟩ ?_
    rintro ⟨q, k⟩ j2 W6 ⟨he6, hqn, hK⟩
    dsimp only at hqn hK
    conv => whnf
    intro t htq
    cases t <;> simp only [VB] at htq
    case false =>
      conv => whnf
      intro r hr
      obtain rfl : r = ((i + 1 : Nat) : Int) := by rw [hr, wrap_id (by omega) (by omega)]; rfl
      clear hr
      conv => whnf
      exact ⟨(i + 1, S', B'), ⟨rfl, rfl, rfl, rfl, trivial⟩, ⟨hx.go he6, by dsimp only; omega⟩, by dsimp only; omega⟩
    have hq : q < nn := by omega
    obtain ⟨aq, kq, hAq, dq⟩ := hnow.at_ hq
    obtain ⟨y, hy⟩ : ∃ y, y = now[q] := ⟨_, rfl⟩
    have hyq : now[q]? = some y := by rw [hy]; exact List.getElem?_eq_getElem kq
    rw [← hy] at dq
    conv => whnf
    -- the one to come up to
    obtain ⟨f, hfe⟩ : ∃ f, f = if q < i0 then q else q + 1 := ⟨_, rfl⟩
    have hfy : was[f]? = some y := by rw [hfe]; exact hN q y hyq
    have hfl : f < wn := by have := (List.getElem?_eq_some_iff.1 hfy).1; omega
    have hkf : k ≤ f := by rw [hfe]; simpa [Kat] using hK
    refine VLoop.mk' tab_ok (X := Nat) (fun k => [(0, .slice A n c), (3, ptr b), (4, .int .i64 i), (2, .bool false), (5, .slice A1 wn c1), (12, .slice A2 nn c2), (6, ptr b6), (13, .int .i64 k), (14, .int .i64 q)])
      (fun k W => Ext W5 W ∧ k ≤ f) (fun k _ => f - k) k ⟨rfl, rfl, rfl, rfl, rfl, rfl, rfl, rfl, rfl, trivial⟩ ⟨he6, hkf⟩ ?_
    clear hkf hK he6
    rintro k j3 W7 ⟨he7, hkf⟩
    have hkw : k < wn := by omega
    obtain ⟨ak, kk, hAk, dk⟩ := hwas.at_ hkw
    obtain ⟨x, hxk⟩ : ∃ x, x = was[k] := ⟨_, rfl⟩
    have hxk2 : was[k]? = some x := by rw [hxk]; exact List.getElem?_eq_getElem kk
    rw [← hxk] at dk
    conv => whnf
    refine VDraw.mk' tab_ok (Ext W7) [] (.take 0 <| .take 1 <| .take 2 <| .take 3 <| .take 4 <| .take 5 <| .take 6 <| .take 7 <| .take 8 <| .take 9 <| .take 10 <| .take 11 <| .take 12 <| .take 13 <| .take 14 <| .take 15 <| .take 16 <| .take 17 <| .take 18 <| .take 19 <| .take 20 <| .done) mixed (by kernel_rfl) (by kernel_rfl) (Ext.drew _) ?_
    have hd := Ext.drew W7
    generalize W7.drew = W8 at hd
    conv => whnf
    intro t ht
    obtain rfl : t = true := ht.yes (by omega)
    conv => whnf
    refine ⟨by omega, by omega, ak, hAk, ?_⟩
    conv => whnf
    refine ⟨cI x.id, rfl, fun w' hs => (dk.ext (he7.tr hs)).sub 0 rfl, ?_⟩
    conv => whnf
    refine ⟨by omega, by omega, aq, hAq, ?_⟩
    conv => whnf
    refine ⟨cI y.id, rfl, fun w' hs => (dq.ext (he7.tr hs)).sub 0 rfl, ?_⟩
    conv => whnf
    refine ⟨_, neq24 x.id y.id, fun t ht => ?_⟩
    by_cases hxy : x.id = y.id
    case neg =>
      rw [decide_eq_false hxy] at ht
      subst ht
      conv => whnf
      refine ⟨.bool true, fun w' hs => (hs.cell (he7.cell (ld (v := .bool o.drop) hb6 rfl rfl))).trans (by rw [hod]), ?_⟩
      conv => whnf
      intro r hr
      obtain rfl : r = ((k + 1 : Nat) : Int) := by rw [hr, wrap_id (by omega) (by omega)]; rfl
      clear hr
      conv => whnf
      have : k ≠ f := fun e1 => by
        subst e1
        rw [hfy] at hxk2
        cases hxk2
        exact hxy rfl
      exact ⟨k + 1, ⟨rfl, rfl, rfl, rfl, rfl, rfl, rfl, rfl, rfl, trivial⟩, ⟨he7.tr hd, by omega⟩, by omega⟩
    have hkfe : k = f := ids_inj hnd hxk2 hfy hxy
    rw [decide_eq_true hxy] at ht
    subst ht
    conv => whnf
    refine VDraw.mk' tab_ok (Ext W8) [] (.take 0 <| .take 1 <| .take 2 <| .take 3 <| .take 4 <| .take 5 <| .take 6 <| .take 7 <| .take 8 <| .take 9 <| .take 10 <| .take 11 <| .take 12 <| .take 13 <| .take 14 <| .take 15 <| .take 16 <| .done) mixed (by kernel_rfl) (by kernel_rfl) (Ext.drew _) ?_
    have hd2 := Ext.drew W8
    generalize W8.drew = W9 at hd2
    conv => whnf
    intro t ht
    obtain rfl : t = true := ht.yes (by omega)
    conv => whnf
    refine ⟨by omega, by omega, ak, hAk, ?_⟩
    conv => whnf
    refine ⟨cI x.id, rfl, fun w' hs => (dk.ext (he7.tr (hd.tr hs))).sub 0 rfl, ?_⟩
    conv => whnf
    refine ⟨by omega, by omega, aq, hAq, ?_⟩
    conv => whnf
    refine ⟨cI y.id, rfl, fun w' hs => (dq.ext (he7.tr (hd.tr hs))).sub 0 rfl, ?_⟩
    conv => whnf
    refine ⟨_, eq24 x.id y.id, fun t ht => ?_⟩
    rw [decide_eq_true hxy] at ht
    subst ht
    conv => whnf
    intro r hr
    obtain rfl : r = ((k + 1 : Nat) : Int) := by rw [hr, wrap_id (by omega) (by omega)]; rfl
    clear hr
    conv => whnf
    intro r hr
    obtain rfl : r = ((q + 1 : Nat) : Int) := by rw [hr, wrap_id (by omega) (by omega)]; rfl
    clear hr
    conv => whnf
    refine ⟨(q + 1, k + 1), ⟨rfl, rfl, rfl, rfl, rfl, rfl, rfl, rfl, rfl, trivial⟩, ⟨he7.tr (hd.tr hd2), by dsimp only; omega, ?_⟩, by dsimp only; omega⟩
    simp only [Kat, if_true]
    rw [hkfe, hfe]
    split <;> split <;> omega
end Go.Proofs.Ytbkmbignincilaa
