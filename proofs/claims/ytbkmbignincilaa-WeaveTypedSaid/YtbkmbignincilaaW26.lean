/- duetlaw11.WeaveKids. (Printed by tools/genw26.py.) -/
import Derived.Test.YtbkmbignincilaaW24
namespace Go.Proofs.Ytbkmbignincilaa
open Go Go.VC Go.RowKit
set_option linter.unusedVariables false
set_option linter.unusedSimpArgs false
set_option maxRecDepth 100000

section
variable {S : List El} (h : SOK S)
include h
theorem placeL_none_iff {x : Idn} : placeL (own S Idn.z) x = none ↔ x ∉ ids S := by
  unfold placeL
  rw [List.findIdx?_eq_none_iff]
  constructor
  · intro hn hx
    obtain ⟨e, he, rfl⟩ := List.mem_map.1 hx
    have := hn e ((mem_root h).2 he)
    simp at this
  · intro hx e he
    rw [decide_eq_false_iff_not]
    rintro rfl
    exact hx (List.mem_map_of_mem (f := fun e : El => e.id) ((mem_root h).1 he))
theorem placeL_some {x : Idn} {i : Nat} (hp : placeL (own S Idn.z) x = some i) : ∃ hi : i < (own S Idn.z).length, (own S Idn.z)[i] = elOf S x ∧ x ∈ ids S ∧ (elOf S x).id = x ∧ elOf S x ∈ S := by
  unfold placeL at hp
  obtain ⟨hi, h1, _⟩ := List.findIdx?_eq_some_iff_getElem.1 hp
  rw [decide_eq_true_eq] at h1
  have hm : (own S Idn.z)[i] ∈ S := (mem_root h).1 (List.getElem_mem _)
  have he := elOf_of h.nodup hm
  rw [h1] at he
  exact ⟨hi, he.symm, h1 ▸ List.mem_map_of_mem (f := fun e : El => e.id) hm, by rw [he]; exact h1, by rw [he]; exact hm⟩
theorem kid_place {x y : Idn} (hy : y ∈ kidsOf S x) : ∃ k, placeL (own S Idn.z) y = some k ∧ ∀ i, placeL (own S Idn.z) x = some i → i < k := by
  obtain ⟨m1, i1, r1⟩ := elOf_in h hy
  cases hk : placeL (own S Idn.z) y with
  | none => exact absurd (kid_in hy) ((placeL_none_iff h).1 hk)
  | some k =>
    refine ⟨k, rfl, fun i hi => ?_⟩
    obtain ⟨hi1, hi2, hx, hi3, hi4⟩ := placeL_some h hi
    obtain ⟨P, Q, hPQ⟩ := own_infix' h hi4
    rw [hi3] at hPQ
    have hm : elOf S y ∈ own S x := (mem_own' h (.inr hx)).2 (.kid m1 r1)
    obtain ⟨P2, Q2, hPQ2⟩ := List.append_of_mem hm
    have hnd := own_ids h (x := Idn.z) (.inl rfl)
    obtain ⟨hk1, hk2, _⟩ := placeL_some h hk
    have e1 : (own S Idn.z)[P.length]? = some (elOf S x) := by rw [hPQ]; simp
    have e2 : (own S Idn.z)[P.length + 1 + P2.length]? = some (elOf S y) := by
      rw [hPQ, hPQ2]
      have : P ++ elOf S x :: (P2 ++ elOf S y :: Q2) ++ Q = (P ++ elOf S x :: P2) ++ elOf S y :: (Q2 ++ Q) := by simp
      rw [this, List.getElem?_append_right (by simp; omega)]
      simp only [List.length_append, List.length_cons]
      rw [show P.length + 1 + P2.length - (P.length + (P2.length + 1)) = 0 by omega]
      rfl
    have f1 := ids_inj hnd (List.getElem?_eq_getElem hi1) e1 (by rw [hi2])
    have f2 := ids_inj hnd (List.getElem?_eq_getElem hk1) e2 (by rw [hk2])
    omega
theorem back {x : Idn} (hfew : S.length ≤ 4096) (hx : x ∈ ids S) (hk : kidsOf S x = []) : drpE S x = 0 ∧ placeL (own (drpS S x) Idn.z) x = none ∧ insE (drpS S x) (elOf S x) = 0 ∧ own (insS (drpS S x) (elOf S x)) Idn.z = own S Idn.z := by
  have h0 : drpE S x = 0 := by unfold drpE; rw [if_neg (by simpa using hx), if_neg (by simpa using hk)]
  have hS : drpS S x = S.filter (fun e => decide (e.id ≠ x)) := by unfold drpS; rw [if_pos h0]
  obtain ⟨e, he, rfl⟩ := List.mem_map.1 hx
  have hel := elOf_of h.nodup he
  have hni : e.id ∉ ids (drpS S e.id) := fun hm => by
    obtain ⟨a, ha, e1⟩ := List.mem_map.1 hm
    rw [hS] at ha
    have := (List.mem_filter.1 ha).2
    rw [decide_eq_true_eq] at this
    exact this e1
  have hi : insE (drpS S e.id) e = 0 := by
    have hlen : (drpS S e.id).length < S.length := by
      rw [hS]
      have := filter_lt (S := S) (p := fun a => decide (a.id ≠ e.id)) (q := fun _ => true) (fun _ _ _ => rfl) he (by simp) rfl
      rwa [List.filter_eq_self.2 (fun _ _ => rfl : ∀ a ∈ S, (fun _ : El => true) a = true)] at this
    unfold insE
    rw [if_neg (by simp [h.ok e he, h.rune e he]), if_neg, if_neg hni, if_neg, if_neg]
    · omega
    · rintro ⟨h1, h2⟩
      rcases h.ref e he with h3 | ⟨h3, h4⟩
      · exact h1 h3
      · obtain ⟨a, ha, e1⟩ := List.mem_map.1 h3
        refine h2 ?_
        have e1' : a.id = e.ref := e1
        rw [← e1', hS]
        refine List.mem_map_of_mem (f := fun e : El => e.id) (List.mem_filter.2 ⟨ha, ?_⟩)
        rw [decide_eq_true_eq, e1']
        exact ref_ne h he
    · rintro ⟨h1, h2⟩
      rcases h.ref e he with h3 | ⟨h3, h4⟩
      · exact h1 h3
      · obtain ⟨a, ha, e1⟩ := List.mem_map.1 h3
        have e1' : a.id = e.ref := e1
        rcases h2 with h2 | h2
        · rw [← e1', h.ok a ha] at h2; cases h2
        · omega
  rw [hel]
  refine ⟨h0, (placeL_none_iff (h.drp e.id)).2 hni, hi, ?_⟩
  refine own_congr' ((h.drp e.id).ins e) h fun a => ?_
  rw [show insS (drpS S e.id) e = drpS S e.id ++ [e] by unfold insS; rw [if_pos hi], hS, List.mem_append, List.mem_filter, List.mem_singleton, decide_eq_true_eq]
  constructor
  · rintro (⟨h1, _⟩ | rfl)
    · exact h1
    · exact he
  · intro ha
    by_cases e1 : a.id = e.id
    · right; rw [← elOf_of h.nodup ha, ← elOf_of h.nodup he, e1]
    · exact .inl ⟨ha, e1⟩
end

set_option maxHeartbeats 8000000
theorem fn8 {w : World} {A : Option Addr} {n c : Nat} {zs : List Op1} (h : Row32 w A n zs) (x : Idn) : Ret Try.prog 8 #[.slice A n c, kI x] w fun v W => Ext w W ∧ v = .bool true := by
  have hl := h.len
  have hs := h.small
  refine Ret.of_vc tab_ok Try.func8 rfl Try.ntmps8 rfl (Nat.le_of_ble_eq_true rfl) Try.call8 ?_
  conv => whnf
  intro W0 hW0
  have hb3 := hW0.at_
  have hE0 := hW0.e
  have hb3n : w.heap.size < W0.heap.size := by rw [hW0.size]; omega
  clear hW0
  generalize w.heap.size = b3 at hb3 hb3n ⊢
  conv => whnf
  refine (xNew (Ext.refl W0)).mono ?_
  rintro _ W ⟨b, B, rfl, hx⟩
  conv => whnf
  refine VLoop.mk' tab_ok (X := Nat × List El × (Nat → Prop)) (fun p => [(0, .slice A n c), (5, ptr b), (3, ptr b3), (6, .int .i64 p.1), (4, .bool false)])
    (fun p W => LX W0 W p.2.2 b p.2.1 ∧ p.1 ≤ n) (fun p _ => n - p.1) (0, [], B) ⟨rfl, rfl, rfl, rfl, rfl, trivial⟩ ⟨hx, Nat.zero_le _⟩ ?_
  rintro ⟨i, S, B⟩ j Wi ⟨hx, hin⟩
  dsimp only at hx hin
  conv => whnf
  intro t ht
  cases t <;> simp only [VB] at ht
  case false =>
    conv => whnf
    have hbb : ∀ {Wn : World}, Ext W0 Wn → Wn.heap[b3]? = some (.cells #[.int .i64 x.t, .int .i64 x.s] 24 (0, 0)) := fun he => he.at_ hb3
    refine ⟨cI x, rfl, lds (hbb hx.ext) rfl rfl, ?_⟩
    conv => whnf
    have hBlt : ∀ k, B k → k < Wi.heap.size := fun k hk => hx.line.lt hk
    have hok := hx.line.ok
    have hfew := hx.line.few
    refine (wKids hx.line x).mono ?_
    rintro _ W1 ⟨he, A1, c1, rfl, hkids, hfr⟩
    replace hx := hx.go he
    have hkB : ∀ a, A1 = some a → ¬ B a.block := fun a e hf => by have := hBlt _ hf; have := hfr a e; omega
    have hdesc := desc_kids S x
    have hkl := kids_len S x
    have hkp := fun y (hy : y ∈ kidsOf S x) => kid_place hok hy
    have hk0 : (kidsOf S x).length = 0 ↔ kidsOf S x = [] := List.length_eq_zero_iff
    obtain ⟨K, hK⟩ : ∃ K, K = kidsOf S x := ⟨_, rfl⟩
    rw [← hK] at hkids hdesc hkl hkp hk0 ⊢
    generalize hkn : K.length = kn at hkids hkl hk0 ⊢
    conv => whnf
    refine ⟨cI x, rfl, lds (hbb hx.ext) rfl rfl, ?_⟩
    conv => whnf
    refine (wPlace hx.line x).mono ?_
    rintro _ W2 ⟨he2, rfl⟩
    replace hx := hx.go he2
    replace hkids := hkids.ext he2
    have hpl1 := fun i => placeL_some (i := i) hok (x := x)
    have hpl0 := placeL_none_iff hok (x := x)
    unfold placeV
    have hnd := own_ids hok (x := Idn.z) (.inl rfl)
    have hwlen := own_len hok (x := Idn.z) (.inl rfl)
    cases hpl : placeL (own S Idn.z) x with
    | none =>
      conv => whnf
      refine VLoop.mk' tab_ok (X := Nat) (fun q => [(5, ptr b), (3, ptr b3), (7, .slice A1 kn c1), (8, .int .i64 0), (9, .bool false), (4, .bool false), (10, .int .i64 q)])
        (fun q W => Ext W2 W ∧ q ≤ kn) (fun q _ => kn - q) 0 ⟨rfl, rfl, rfl, rfl, rfl, rfl, rfl, trivial⟩ ⟨Ext.refl _, Nat.zero_le _⟩ ?_
      rintro q j2 W3 ⟨he3, hqn⟩
      conv => whnf
      intro t htq
      cases t <;> simp only [VB] at htq
      case true =>
        have hq : q < kn := by omega
        obtain ⟨aq, kq, hAq, dq⟩ := hkids.at_ hq
        obtain ⟨y, hy⟩ : ∃ y, y = K[q] := ⟨_, rfl⟩
        rw [← hy] at dq
        obtain ⟨pk, hpk, hpk2⟩ := hkp y (by rw [hy]; exact List.getElem_mem _)
        conv => whnf
        refine ⟨by omega, by omega, aq, hAq, ?_⟩
        conv => whnf
        refine ⟨cI y, rfl, dq.ext he3, ?_⟩
        conv => whnf
        refine (wPlace (hx.go he3).line y).mono ?_
        rintro _ W4 ⟨he4, rfl⟩
        unfold placeV
        rw [hpk]
        have hpkl : pk ≤ 4096 := by obtain ⟨h1, _⟩ := placeL_some hok hpk; omega
        conv => whnf
        refine VDraw.mk' tab_ok (Ext W4) [23] (.take 0 <| .take 1 <| .take 2 <| .take 3 <| .take 4 <| .take 5 <| .take 6 <| .take 7 <| .take 8 <| .take 9 <| .take 10 <| .take 11 <| .take 12 <| .take 13 <| .take 14 <| .take 15 <| .take 16 <| .take 17 <| .take 18 <| .take 19 <| .take 20 <| .take 21 <| .take 22 <| .one 23 <| .take 24 <| .take 25 <| .take 26 <| .done) mixed (by kernel_rfl) (by kernel_rfl) (Ext.drew _) ?_
        have hd := Ext.drew W4
        generalize W4.drew = W5 at hd
        have he5 := he3.tr (he4.tr hd)
        conv => whnf
        intro t ht
        cases t <;> simp only [VB] at ht
        case false =>
          conv => whnf
          intro r hr
          obtain rfl : r = ((q + 1 : Nat) : Int) := by rw [hr, wrap_id (by omega) (by omega)]; rfl
          clear hr
          conv => whnf
          exact ⟨q + 1, ⟨rfl, rfl, rfl, rfl, rfl, rfl, rfl, trivial⟩, ⟨he5, by omega⟩, by omega⟩
        obtain ⟨ap, kp, hAp, dp⟩ := hkids.at_ (show q - 1 < kn by omega)
        conv => whnf
        refine ⟨by omega, by omega, aq, hAq, ?_⟩
        conv => whnf
        refine ⟨cI y, rfl, fun w' hs => dq.ext (he3.tr (he4.tr hs)), ?_⟩
        conv => whnf
        intro r hr
        obtain rfl : r = ((q - 1 : Nat) : Int) := by rw [hr, wrap_id (by omega) (by omega)]; omega
        clear hr
        conv => whnf
        refine ⟨by omega, by omega, ap, hAp, ?_⟩
        conv => whnf
        refine ⟨cI K[q - 1], rfl, fun w' hs => dp.ext (he3.tr (he4.tr hs)), ?_⟩
        conv => whnf
        refine (fn31 y K[q - 1] _).mono ?_
        rintro _ W6 ⟨he6, rfl⟩
        have hless : lessI y K[q - 1] = true := by
          rw [hy]
          exact (List.pairwise_iff_getElem.1 hdesc) (q - 1) q kp kq (by omega)
        rw [hless]
        conv => whnf
        intro r hr
        obtain rfl : r = ((q + 1 : Nat) : Int) := by rw [hr, wrap_id (by omega) (by omega)]; rfl
        clear hr
        conv => whnf
        exact ⟨q + 1, ⟨rfl, rfl, rfl, rfl, rfl, rfl, rfl, trivial⟩, ⟨he5.tr he6, by omega⟩, by omega⟩
      case false =>
      conv => whnf
      replace hx := hx.go he3
      have hBlt3 : ∀ k, B k → k < W3.heap.size := fun k hk => hx.line.lt hk
      refine (wElements hx.line).mono ?_
      rintro _ W4 ⟨he4, A2, c2, rfl, hwas, hfr2⟩
      replace hx := hx.go he4
      have hwB : ∀ a, A2 = some a → ¬ B a.block := fun a e hf => by have := hBlt3 _ hf; have := hfr2 a e; omega
      conv => whnf
      have hne : drpE S x ≠ 0 := by unfold drpE; rw [if_pos (hpl0.1 hpl)]; decide
      have hsame : drpS S x = S := by unfold drpS; rw [if_neg hne]
      refine ⟨cI x, rfl, lds (hbb hx.ext) rfl rfl, ?_⟩
      conv => whnf
      refine (xDrop hx x).mono ?_
      rintro _ W5 ⟨rfl, hc, B', hx5, _⟩
      rw [hsame] at hx5
      have hwas5 := hwas.chg hc hwB
      conv => whnf
      intro t ht
      obtain rfl : t = true := ht.yes hne
      conv => whnf
      refine (wElements hx5.line).mono ?_
      rintro _ W6 ⟨he6, A3, c3, rfl, hnow, _⟩
      conv => whnf
      refine (fn20 hnow (hwas5.ext he6)).mono ?_
      rintro _ W7 ⟨he7, rfl⟩
      rw [decide_eq_true rfl]
      conv => whnf
      refine (live_end (hE0.tr (hx5.ext.tr (he6.tr he7)))).mono ?_
      rintro _ W8 ⟨he8, rfl⟩
      conv => whnf
      exact ⟨he8, rfl⟩
    | some at_ =>
      conv => whnf
      refine VLoop.mk' tab_ok (X := Nat) (fun q => [(5, ptr b), (3, ptr b3), (7, .slice A1 kn c1), (8, .int .i64 at_), (9, .bool true), (4, .bool false), (10, .int .i64 q)])
        (fun q W => Ext W2 W ∧ q ≤ kn) (fun q _ => kn - q) 0 ⟨rfl, rfl, rfl, rfl, rfl, rfl, rfl, trivial⟩ ⟨Ext.refl _, Nat.zero_le _⟩ ?_
      rintro q j2 W3 ⟨he3, hqn⟩
      conv => whnf
      intro t htq
      cases t <;> simp only [VB] at htq
      case true =>
        have hq : q < kn := by omega
        obtain ⟨aq, kq, hAq, dq⟩ := hkids.at_ hq
        obtain ⟨y, hy⟩ : ∃ y, y = K[q] := ⟨_, rfl⟩
        rw [← hy] at dq
        obtain ⟨pk, hpk, hpk2⟩ := hkp y (by rw [hy]; exact List.getElem_mem _)
        conv => whnf
        refine ⟨by omega, by omega, aq, hAq, ?_⟩
        conv => whnf
        refine ⟨cI y, rfl, dq.ext he3, ?_⟩
        conv => whnf
        refine (wPlace (hx.go he3).line y).mono ?_
        rintro _ W4 ⟨he4, rfl⟩
        unfold placeV
        rw [hpk]
        have hpkl : pk ≤ 4096 := by obtain ⟨h1, _⟩ := placeL_some hok hpk; omega
        conv => whnf
        refine VDraw.mk' tab_ok (Ext W4) [23] (.take 0 <| .take 1 <| .take 2 <| .take 3 <| .take 4 <| .take 5 <| .take 6 <| .take 7 <| .take 8 <| .take 9 <| .take 10 <| .take 11 <| .take 12 <| .take 13 <| .take 14 <| .take 15 <| .take 16 <| .take 17 <| .take 18 <| .take 19 <| .take 20 <| .take 21 <| .take 22 <| .one 23 <| .take 24 <| .take 25 <| .take 26 <| .done) mixed (by kernel_rfl) (by kernel_rfl) (Ext.drew _) ?_
        have hd := Ext.drew W4
        generalize W4.drew = W5 at hd
        have he5 := he3.tr (he4.tr hd)
        conv => whnf
        have hlt := hpk2 at_ hpl
        intro t ht
        obtain rfl : t = false := ht.no (by omega)
        conv => whnf
        intro t ht
        cases t <;> simp only [VB] at ht
        case false =>
          conv => whnf
          intro r hr
          obtain rfl : r = ((q + 1 : Nat) : Int) := by rw [hr, wrap_id (by omega) (by omega)]; rfl
          clear hr
          conv => whnf
          exact ⟨q + 1, ⟨rfl, rfl, rfl, rfl, rfl, rfl, rfl, trivial⟩, ⟨he5, by omega⟩, by omega⟩
        obtain ⟨ap, kp, hAp, dp⟩ := hkids.at_ (show q - 1 < kn by omega)
        conv => whnf
        refine ⟨by omega, by omega, aq, hAq, ?_⟩
        conv => whnf
        refine ⟨cI y, rfl, fun w' hs => dq.ext (he3.tr (he4.tr hs)), ?_⟩
        conv => whnf
        intro r hr
        obtain rfl : r = ((q - 1 : Nat) : Int) := by rw [hr, wrap_id (by omega) (by omega)]; omega
        clear hr
        conv => whnf
        refine ⟨by omega, by omega, ap, hAp, ?_⟩
        conv => whnf
        refine ⟨cI K[q - 1], rfl, fun w' hs => dp.ext (he3.tr (he4.tr hs)), ?_⟩
        conv => whnf
        refine (fn31 y K[q - 1] _).mono ?_
        rintro _ W6 ⟨he6, rfl⟩
        have hless : lessI y K[q - 1] = true := by
          rw [hy]
          exact (List.pairwise_iff_getElem.1 hdesc) (q - 1) q kp kq (by omega)
        rw [hless]
        conv => whnf
        intro r hr
        obtain rfl : r = ((q + 1 : Nat) : Int) := by rw [hr, wrap_id (by omega) (by omega)]; rfl
        clear hr
        conv => whnf
        exact ⟨q + 1, ⟨rfl, rfl, rfl, rfl, rfl, rfl, rfl, trivial⟩, ⟨he5.tr he6, by omega⟩, by omega⟩
      case false =>
      conv => whnf
      replace hx := hx.go he3
      have hBlt3 : ∀ k, B k → k < W3.heap.size := fun k hk => hx.line.lt hk
      refine (wElements hx.line).mono ?_
      rintro _ W4 ⟨he4, A2, c2, rfl, hwas, hfr2⟩
      replace hx := hx.go he4
      have hwB : ∀ a, A2 = some a → ¬ B a.block := fun a e hf => by have := hBlt3 _ hf; have := hfr2 a e; omega
      conv => whnf
      intro t htk
      cases t <;> simp only [VB] at htk
      case true =>
        conv => whnf
        have hne : drpE S x ≠ 0 := by
          unfold drpE
          rw [if_neg (by simpa using (hpl1 at_ hpl).2.2.1), if_pos (fun e1 => by rw [← hK] at e1; have := hk0.2 e1; omega)]
          decide
        have hsame : drpS S x = S := by unfold drpS; rw [if_neg hne]
        refine ⟨cI x, rfl, lds (hbb hx.ext) rfl rfl, ?_⟩
        conv => whnf
        refine (xDrop hx x).mono ?_
        rintro _ W5 ⟨rfl, hc, B', hx5, _⟩
        rw [hsame] at hx5
        have hwas5 := hwas.chg hc hwB
        conv => whnf
        intro t ht
        obtain rfl : t = true := ht.yes hne
        conv => whnf
        refine (wElements hx5.line).mono ?_
        rintro _ W6 ⟨he6, A3, c3, rfl, hnow, _⟩
        conv => whnf
        refine (fn20 hnow (hwas5.ext he6)).mono ?_
        rintro _ W7 ⟨he7, rfl⟩
        rw [decide_eq_true rfl]
        conv => whnf
        refine (live_end (hE0.tr (hx5.ext.tr (he6.tr he7)))).mono ?_
        rintro _ W8 ⟨he8, rfl⟩
        conv => whnf
        exact ⟨he8, rfl⟩
      obtain ⟨ha1, ha2, ha3, ha4, ha5⟩ := hpl1 at_ hpl
      have hKn : kidsOf S x = [] := by rw [← hK]; exact hk0.1 (by omega)
      obtain ⟨k1, k2, k3, k4⟩ := back hok hfew ha3 hKn
      obtain ⟨e, hee⟩ : ∃ e, e = elOf S x := ⟨_, rfl⟩
      rw [← hee] at k3 k4 ha2 ha4
      obtain ⟨aw, kw, hAw, dw⟩ := hwas.at_ ha1
      rw [ha2] at dw
      conv => whnf
      refine ⟨by omega, by omega, aw, hAw, ?_⟩
      conv => whnf
      refine ⟨cE e, rfl, dw, ?_⟩
      conv => whnf
      intro W5 hW5
      conv => whnf
      refine ⟨W4.heap.size, 0, _, _, rfl, hW5.at_, Nat.le_of_ble_eq_true rfl, rfl, rfl, fun W6 hW6 => ?_⟩
      have hE46 : Ext W4 W6 := hW6.e hW5.e (Nat.le_refl _)
      have hb14 : W6.heap[W4.heap.size]? = some (.cells (cE e).toArray 49 (0, 0)) := hW6.at_
      have hb14n : ¬ B W4.heap.size := fun hf => by have := hBlt3 _ hf; have := he4.le; omega
      generalize W4.heap.size = b14 at hb14 hb14n ⊢
      replace hx := hx.go hE46
      replace hwas := hwas.ext hE46
      clear hW5 hW6 dw
      conv => whnf
      refine ⟨cI x, rfl, lds (hbb hx.ext) rfl rfl, ?_⟩
      conv => whnf
      refine (xDrop hx x).mono ?_
      rintro _ W7 ⟨rfl, hc, B', hx7, hB'⟩
      have hwB' : ∀ a, A2 = some a → ¬ B' a.block := fun a e1 hf => by
        rcases hB' _ hf with h1 | h1
        · exact hwB a e1 h1
        · obtain ⟨a9, k9, hA9, d9⟩ := hwas.at_ ha1
          rw [e1] at hA9
          cases hA9
          have hc9 := d9 0 (by simp)
          have := World.block_lt_of_cell? _ _ hc9
          rw [add_block, add_block] at this
          omega
      replace hwas := hwas.chg hc hwB
      replace hb14 := hc.at_ hb14 hb14n
      rw [k1]
      conv => whnf
      refine ⟨cI x, rfl, lds (hbb hx7.ext) rfl rfl, ?_⟩
      conv => whnf
      refine (wPlace hx7.line x).mono ?_
      rintro _ W8 ⟨he8, rfl⟩
      unfold placeV
      rw [k2]
      replace hx7 := hx7.go he8
      replace hb14 := he8.at_ hb14
      replace hwas := hwas.ext he8
      conv => whnf
      refine ⟨cI e.id, rfl, lds hb14 rfl rfl, ?_⟩
      conv => whnf
      refine ⟨cI e.ref, rfl, lds hb14 rfl rfl, ?_⟩
      conv => whnf
      refine ⟨.int .i64 e.rune, ld hb14 rfl rfl, ?_⟩
      conv => whnf
      refine (xInsert hx7 e).mono ?_
      rintro _ W9 ⟨rfl, hc9, B9, hx9, _⟩
      rw [k3]
      replace hwas := hwas.chg hc9 hwB'
      conv => whnf
      intro t ht
      obtain rfl : t = true := ht.yes (by decide)
      conv => whnf
      intro t ht
      obtain rfl : t = true := ht.yes (by decide)
      conv => whnf
      refine (wElements hx9.line).mono ?_
      rw [k4]
      rintro _ Wa ⟨hea, A3, c3, rfl, hnow, _⟩
      conv => whnf
      refine (fn20 hnow (hwas.ext hea)).mono ?_
      rintro _ Wb ⟨heb, rfl⟩
      rw [decide_eq_true rfl]
      conv => whnf
      refine (live_end (hE0.tr (hx9.ext.tr (hea.tr heb)))).mono ?_
      rintro _ Wc ⟨hec, rfl⟩
      conv => whnf
      exact ⟨hec, rfl⟩
  conv => whnf
  intro t ht2
  cases t <;> simp only [VB] at ht2
  case false =>
    conv => whnf
    have hbb : ∀ {Wn : World}, Ext W0 Wn → Wn.heap[b3]? = some (.cells #[.int .i64 x.t, .int .i64 x.s] 24 (0, 0)) := fun he => he.at_ hb3
    refine ⟨cI x, rfl, lds (hbb hx.ext) rfl rfl, ?_⟩
    conv => whnf
    have hBlt : ∀ k, B k → k < Wi.heap.size := fun k hk => hx.line.lt hk
    have hok := hx.line.ok
    have hfew := hx.line.few
    refine (wKids hx.line x).mono ?_
    rintro _ W1 ⟨he, A1, c1, rfl, hkids, hfr⟩
    replace hx := hx.go he
    have hkB : ∀ a, A1 = some a → ¬ B a.block := fun a e hf => by have := hBlt _ hf; have := hfr a e; omega
    have hdesc := desc_kids S x
    have hkl := kids_len S x
    have hkp := fun y (hy : y ∈ kidsOf S x) => kid_place hok hy
    have hk0 : (kidsOf S x).length = 0 ↔ kidsOf S x = [] := List.length_eq_zero_iff
    obtain ⟨K, hK⟩ : ∃ K, K = kidsOf S x := ⟨_, rfl⟩
    rw [← hK] at hkids hdesc hkl hkp hk0 ⊢
    generalize hkn : K.length = kn at hkids hkl hk0 ⊢
    conv => whnf
    refine ⟨cI x, rfl, lds (hbb hx.ext) rfl rfl, ?_⟩
    conv => whnf
    refine (wPlace hx.line x).mono ?_
    rintro _ W2 ⟨he2, rfl⟩
    replace hx := hx.go he2
    replace hkids := hkids.ext he2
    have hpl1 := fun i => placeL_some (i := i) hok (x := x)
    have hpl0 := placeL_none_iff hok (x := x)
    unfold placeV
    have hnd := own_ids hok (x := Idn.z) (.inl rfl)
    have hwlen := own_len hok (x := Idn.z) (.inl rfl)
    cases hpl : placeL (own S Idn.z) x with
    | none =>
      conv => whnf
      refine VLoop.mk' tab_ok (X := Nat) (fun q => [(5, ptr b), (3, ptr b3), (7, .slice A1 kn c1), (8, .int .i64 0), (9, .bool false), (4, .bool false), (10, .int .i64 q)])
        (fun q W => Ext W2 W ∧ q ≤ kn) (fun q _ => kn - q) 0 ⟨rfl, rfl, rfl, rfl, rfl, rfl, rfl, trivial⟩ ⟨Ext.refl _, Nat.zero_le _⟩ ?_
      rintro q j2 W3 ⟨he3, hqn⟩
      conv => whnf
      intro t htq
      cases t <;> simp only [VB] at htq
      case true =>
        have hq : q < kn := by omega
        obtain ⟨aq, kq, hAq, dq⟩ := hkids.at_ hq
        obtain ⟨y, hy⟩ : ∃ y, y = K[q] := ⟨_, rfl⟩
        rw [← hy] at dq
        obtain ⟨pk, hpk, hpk2⟩ := hkp y (by rw [hy]; exact List.getElem_mem _)
        conv => whnf
        refine ⟨by omega, by omega, aq, hAq, ?_⟩
        conv => whnf
        refine ⟨cI y, rfl, dq.ext he3, ?_⟩
        conv => whnf
        refine (wPlace (hx.go he3).line y).mono ?_
        rintro _ W4 ⟨he4, rfl⟩
        unfold placeV
        rw [hpk]
        have hpkl : pk ≤ 4096 := by obtain ⟨h1, _⟩ := placeL_some hok hpk; omega
        conv => whnf
        refine VDraw.mk' tab_ok (Ext W4) [23] (.take 0 <| .take 1 <| .take 2 <| .take 3 <| .take 4 <| .take 5 <| .take 6 <| .take 7 <| .take 8 <| .take 9 <| .take 10 <| .take 11 <| .take 12 <| .take 13 <| .take 14 <| .take 15 <| .take 16 <| .take 17 <| .take 18 <| .take 19 <| .take 20 <| .take 21 <| .take 22 <| .one 23 <| .take 24 <| .take 25 <| .take 26 <| .done) mixed (by kernel_rfl) (by kernel_rfl) (Ext.drew _) ?_
        have hd := Ext.drew W4
        generalize W4.drew = W5 at hd
        have he5 := he3.tr (he4.tr hd)
        conv => whnf
        intro t ht
        cases t <;> simp only [VB] at ht
        case false =>
          conv => whnf
          intro r hr
          obtain rfl : r = ((q + 1 : Nat) : Int) := by rw [hr, wrap_id (by omega) (by omega)]; rfl
          clear hr
          conv => whnf
          exact ⟨q + 1, ⟨rfl, rfl, rfl, rfl, rfl, rfl, rfl, trivial⟩, ⟨he5, by omega⟩, by omega⟩
        obtain ⟨ap, kp, hAp, dp⟩ := hkids.at_ (show q - 1 < kn by omega)
        conv => whnf
        refine ⟨by omega, by omega, aq, hAq, ?_⟩
        conv => whnf
        refine ⟨cI y, rfl, fun w' hs => dq.ext (he3.tr (he4.tr hs)), ?_⟩
        conv => whnf
        intro r hr
        obtain rfl : r = ((q - 1 : Nat) : Int) := by rw [hr, wrap_id (by omega) (by omega)]; omega
        clear hr
        conv => whnf
        refine ⟨by omega, by omega, ap, hAp, ?_⟩
        conv => whnf
        refine ⟨cI K[q - 1], rfl, fun w' hs => dp.ext (he3.tr (he4.tr hs)), ?_⟩
        conv => whnf
        refine (fn31 y K[q - 1] _).mono ?_
        rintro _ W6 ⟨he6, rfl⟩
        have hless : lessI y K[q - 1] = true := by
          rw [hy]
          exact (List.pairwise_iff_getElem.1 hdesc) (q - 1) q kp kq (by omega)
        rw [hless]
        conv => whnf
        intro r hr
        obtain rfl : r = ((q + 1 : Nat) : Int) := by rw [hr, wrap_id (by omega) (by omega)]; rfl
        clear hr
        conv => whnf
        exact ⟨q + 1, ⟨rfl, rfl, rfl, rfl, rfl, rfl, rfl, trivial⟩, ⟨he5.tr he6, by omega⟩, by omega⟩
      case false =>
      conv => whnf
      replace hx := hx.go he3
      have hBlt3 : ∀ k, B k → k < W3.heap.size := fun k hk => hx.line.lt hk
      refine (wElements hx.line).mono ?_
      rintro _ W4 ⟨he4, A2, c2, rfl, hwas, hfr2⟩
      replace hx := hx.go he4
      have hwB : ∀ a, A2 = some a → ¬ B a.block := fun a e hf => by have := hBlt3 _ hf; have := hfr2 a e; omega
      conv => whnf
      have hne : drpE S x ≠ 0 := by unfold drpE; rw [if_pos (hpl0.1 hpl)]; decide
      have hsame : drpS S x = S := by unfold drpS; rw [if_neg hne]
      refine ⟨cI x, rfl, lds (hbb hx.ext) rfl rfl, ?_⟩
      conv => whnf
      refine (xDrop hx x).mono ?_
      rintro _ W5 ⟨rfl, hc, B', hx5, _⟩
      rw [hsame] at hx5
      have hwas5 := hwas.chg hc hwB
      conv => whnf
      intro t ht
      obtain rfl : t = true := ht.yes hne
      conv => whnf
      refine (wElements hx5.line).mono ?_
      rintro _ W6 ⟨he6, A3, c3, rfl, hnow, _⟩
      conv => whnf
      refine (fn20 hnow (hwas5.ext he6)).mono ?_
      rintro _ W7 ⟨he7, rfl⟩
      rw [decide_eq_true rfl]
      conv => whnf
      refine (live_end (hE0.tr (hx5.ext.tr (he6.tr he7)))).mono ?_
      rintro _ W8 ⟨he8, rfl⟩
      conv => whnf
      exact ⟨he8, rfl⟩
    | some at_ =>
      conv => whnf
      refine VLoop.mk' tab_ok (X := Nat) (fun q => [(5, ptr b), (3, ptr b3), (7, .slice A1 kn c1), (8, .int .i64 at_), (9, .bool true), (4, .bool false), (10, .int .i64 q)])
        (fun q W => Ext W2 W ∧ q ≤ kn) (fun q _ => kn - q) 0 ⟨rfl, rfl, rfl, rfl, rfl, rfl, rfl, trivial⟩ ⟨Ext.refl _, Nat.zero_le _⟩ ?_
      rintro q j2 W3 ⟨he3, hqn⟩
      conv => whnf
      intro t htq
      cases t <;> simp only [VB] at htq
      case true =>
        have hq : q < kn := by omega
        obtain ⟨aq, kq, hAq, dq⟩ := hkids.at_ hq
        obtain ⟨y, hy⟩ : ∃ y, y = K[q] := ⟨_, rfl⟩
        rw [← hy] at dq
        obtain ⟨pk, hpk, hpk2⟩ := hkp y (by rw [hy]; exact List.getElem_mem _)
        conv => whnf
        refine ⟨by omega, by omega, aq, hAq, ?_⟩
        conv => whnf
        refine ⟨cI y, rfl, dq.ext he3, ?_⟩
        conv => whnf
        refine (wPlace (hx.go he3).line y).mono ?_
        rintro _ W4 ⟨he4, rfl⟩
        unfold placeV
        rw [hpk]
        have hpkl : pk ≤ 4096 := by obtain ⟨h1, _⟩ := placeL_some hok hpk; omega
        conv => whnf
        refine VDraw.mk' tab_ok (Ext W4) [23] (.take 0 <| .take 1 <| .take 2 <| .take 3 <| .take 4 <| .take 5 <| .take 6 <| .take 7 <| .take 8 <| .take 9 <| .take 10 <| .take 11 <| .take 12 <| .take 13 <| .take 14 <| .take 15 <| .take 16 <| .take 17 <| .take 18 <| .take 19 <| .take 20 <| .take 21 <| .take 22 <| .one 23 <| .take 24 <| .take 25 <| .take 26 <| .done) mixed (by kernel_rfl) (by kernel_rfl) (Ext.drew _) ?_
        have hd := Ext.drew W4
        generalize W4.drew = W5 at hd
        have he5 := he3.tr (he4.tr hd)
        conv => whnf
        have hlt := hpk2 at_ hpl
        intro t ht
        obtain rfl : t = false := ht.no (by omega)
        conv => whnf
        intro t ht
        cases t <;> simp only [VB] at ht
        case false =>
          conv => whnf
          intro r hr
          obtain rfl : r = ((q + 1 : Nat) : Int) := by rw [hr, wrap_id (by omega) (by omega)]; rfl
          clear hr
          conv => whnf
          exact ⟨q + 1, ⟨rfl, rfl, rfl, rfl, rfl, rfl, rfl, trivial⟩, ⟨he5, by omega⟩, by omega⟩
        obtain ⟨ap, kp, hAp, dp⟩ := hkids.at_ (show q - 1 < kn by omega)
        conv => whnf
        refine ⟨by omega, by omega, aq, hAq, ?_⟩
        conv => whnf
        refine ⟨cI y, rfl, fun w' hs => dq.ext (he3.tr (he4.tr hs)), ?_⟩
        conv => whnf
        intro r hr
        obtain rfl : r = ((q - 1 : Nat) : Int) := by rw [hr, wrap_id (by omega) (by omega)]; omega
        clear hr
        conv => whnf
        refine ⟨by omega, by omega, ap, hAp, ?_⟩
        conv => whnf
        refine ⟨cI K[q - 1], rfl, fun w' hs => dp.ext (he3.tr (he4.tr hs)), ?_⟩
        conv => whnf
        refine (fn31 y K[q - 1] _).mono ?_
        rintro _ W6 ⟨he6, rfl⟩
        have hless : lessI y K[q - 1] = true := by
          rw [hy]
          exact (List.pairwise_iff_getElem.1 hdesc) (q - 1) q kp kq (by omega)
        rw [hless]
        conv => whnf
        intro r hr
        obtain rfl : r = ((q + 1 : Nat) : Int) := by rw [hr, wrap_id (by omega) (by omega)]; rfl
        clear hr
        conv => whnf
        exact ⟨q + 1, ⟨rfl, rfl, rfl, rfl, rfl, rfl, rfl, trivial⟩, ⟨he5.tr he6, by omega⟩, by omega⟩
      case false =>
      conv => whnf
      replace hx := hx.go he3
      have hBlt3 : ∀ k, B k → k < W3.heap.size := fun k hk => hx.line.lt hk
      refine (wElements hx.line).mono ?_
      rintro _ W4 ⟨he4, A2, c2, rfl, hwas, hfr2⟩
      replace hx := hx.go he4
      have hwB : ∀ a, A2 = some a → ¬ B a.block := fun a e hf => by have := hBlt3 _ hf; have := hfr2 a e; omega
      conv => whnf
      intro t htk
      cases t <;> simp only [VB] at htk
      case true =>
        conv => whnf
        have hne : drpE S x ≠ 0 := by
          unfold drpE
          rw [if_neg (by simpa using (hpl1 at_ hpl).2.2.1), if_pos (fun e1 => by rw [← hK] at e1; have := hk0.2 e1; omega)]
          decide
        have hsame : drpS S x = S := by unfold drpS; rw [if_neg hne]
        refine ⟨cI x, rfl, lds (hbb hx.ext) rfl rfl, ?_⟩
        conv => whnf
        refine (xDrop hx x).mono ?_
        rintro _ W5 ⟨rfl, hc, B', hx5, _⟩
        rw [hsame] at hx5
        have hwas5 := hwas.chg hc hwB
        conv => whnf
        intro t ht
        obtain rfl : t = true := ht.yes hne
        conv => whnf
        refine (wElements hx5.line).mono ?_
        rintro _ W6 ⟨he6, A3, c3, rfl, hnow, _⟩
        conv => whnf
        refine (fn20 hnow (hwas5.ext he6)).mono ?_
        rintro _ W7 ⟨he7, rfl⟩
        rw [decide_eq_true rfl]
        conv => whnf
        refine (live_end (hE0.tr (hx5.ext.tr (he6.tr he7)))).mono ?_
        rintro _ W8 ⟨he8, rfl⟩
        conv => whnf
        exact ⟨he8, rfl⟩
      obtain ⟨ha1, ha2, ha3, ha4, ha5⟩ := hpl1 at_ hpl
      have hKn : kidsOf S x = [] := by rw [← hK]; exact hk0.1 (by omega)
      obtain ⟨k1, k2, k3, k4⟩ := back hok hfew ha3 hKn
      obtain ⟨e, hee⟩ : ∃ e, e = elOf S x := ⟨_, rfl⟩
      rw [← hee] at k3 k4 ha2 ha4
      obtain ⟨aw, kw, hAw, dw⟩ := hwas.at_ ha1
      rw [ha2] at dw
      conv => whnf
      refine ⟨by omega, by omega, aw, hAw, ?_⟩
      conv => whnf
      refine ⟨cE e, rfl, dw, ?_⟩
      conv => whnf
      intro W5 hW5
      conv => whnf
      refine ⟨W4.heap.size, 0, _, _, rfl, hW5.at_, Nat.le_of_ble_eq_true rfl, rfl, rfl, fun W6 hW6 => ?_⟩
      have hE46 : Ext W4 W6 := hW6.e hW5.e (Nat.le_refl _)
      have hb14 : W6.heap[W4.heap.size]? = some (.cells (cE e).toArray 49 (0, 0)) := hW6.at_
      have hb14n : ¬ B W4.heap.size := fun hf => by have := hBlt3 _ hf; have := he4.le; omega
      generalize W4.heap.size = b14 at hb14 hb14n ⊢
      replace hx := hx.go hE46
      replace hwas := hwas.ext hE46
      clear hW5 hW6 dw
      conv => whnf
      refine ⟨cI x, rfl, lds (hbb hx.ext) rfl rfl, ?_⟩
      conv => whnf
      refine (xDrop hx x).mono ?_
      rintro _ W7 ⟨rfl, hc, B', hx7, hB'⟩
      have hwB' : ∀ a, A2 = some a → ¬ B' a.block := fun a e1 hf => by
        rcases hB' _ hf with h1 | h1
        · exact hwB a e1 h1
        · obtain ⟨a9, k9, hA9, d9⟩ := hwas.at_ ha1
          rw [e1] at hA9
          cases hA9
          have hc9 := d9 0 (by simp)
          have := World.block_lt_of_cell? _ _ hc9
          rw [add_block, add_block] at this
          omega
      replace hwas := hwas.chg hc hwB
      replace hb14 := hc.at_ hb14 hb14n
      rw [k1]
      conv => whnf
      refine ⟨cI x, rfl, lds (hbb hx7.ext) rfl rfl, ?_⟩
      conv => whnf
      refine (wPlace hx7.line x).mono ?_
      rintro _ W8 ⟨he8, rfl⟩
      unfold placeV
      rw [k2]
      replace hx7 := hx7.go he8
      replace hb14 := he8.at_ hb14
      replace hwas := hwas.ext he8
      conv => whnf
      refine ⟨cI e.id, rfl, lds hb14 rfl rfl, ?_⟩
      conv => whnf
      refine ⟨cI e.ref, rfl, lds hb14 rfl rfl, ?_⟩
      conv => whnf
      refine ⟨.int .i64 e.rune, ld hb14 rfl rfl, ?_⟩
      conv => whnf
      refine (xInsert hx7 e).mono ?_
      rintro _ W9 ⟨rfl, hc9, B9, hx9, _⟩
      rw [k3]
      replace hwas := hwas.chg hc9 hwB'
      conv => whnf
      intro t ht
      obtain rfl : t = true := ht.yes (by decide)
      conv => whnf
      intro t ht
      obtain rfl : t = true := ht.yes (by decide)
      conv => whnf
      refine (wElements hx9.line).mono ?_
      rw [k4]
      rintro _ Wa ⟨hea, A3, c3, rfl, hnow, _⟩
      conv => whnf
      refine (fn20 hnow (hwas.ext hea)).mono ?_
      rintro _ Wb ⟨heb, rfl⟩
      rw [decide_eq_true rfl]
      conv => whnf
      refine (live_end (hE0.tr (hx9.ext.tr (hea.tr heb)))).mono ?_
      rintro _ Wc ⟨hec, rfl⟩
      conv => whnf
      exact ⟨hec, rfl⟩
  have hi : i < n := by omega
  conv => whnf
  obtain ⟨a0, hk0, hA, hcell0⟩ := h.at_ hi
  obtain ⟨o, ho⟩ : ∃ o, o = zs[i] := ⟨_, rfl⟩
  rw [← ho] at hcell0
  have hcell := hcell0.ext (hE0.tr hx.ext)
  refine ⟨by omega, by omega, a0, hA, ?_⟩
  conv => whnf
  refine ⟨.bool o.drop, hcell.one 0 rfl, ?_⟩
  cases hod : o.drop
  case true =>
    conv => whnf
    refine ⟨by omega, by omega, a0, hA, ?_⟩
    conv => whnf
    refine ⟨cI o.e.id, rfl, hcell.sub 1 rfl, ?_⟩
    conv => whnf
    refine (xDrop hx o.e.id).mono ?_
    rintro _ W4 ⟨rfl, hc, B', hx', _⟩
    conv => whnf
    intro r hr
    obtain rfl : r = ((i + 1 : Nat) : Int) := by rw [hr, wrap_id (by omega) (by omega)]; rfl
    clear hr
    conv => whnf
    exact ⟨(i + 1, _, B'), ⟨rfl, rfl, rfl, rfl, rfl, trivial⟩, ⟨hx', by dsimp only; omega⟩, by dsimp only; omega⟩
  conv => whnf
  refine VDraw.mk' tab_ok (Ext Wi) [16] (.take 0 <| .take 1 <| .take 2 <| .take 3 <| .take 4 <| .take 5 <| .take 6 <| .take 7 <| .take 8 <| .take 9 <| .take 10 <| .take 11 <| .take 12 <| .take 13 <| .take 14 <| .take 15 <| .one 16 <| .done) mixed (by kernel_rfl) (by kernel_rfl) (Ext.drew _) ?_
  have hd := Ext.drew Wi
  generalize Wi.drew = Wd at hd
  conv => whnf
  refine ⟨by omega, by omega, a0, hA, ?_⟩
  conv => whnf
  refine ⟨cI o.e.id, rfl, fun w' hs => (hcell.ext hs).sub 1 rfl, ?_⟩
  conv => whnf
  refine ⟨by omega, by omega, a0, hA, ?_⟩
  conv => whnf
  refine ⟨cI o.e.ref, rfl, fun w' hs => (hcell.ext hs).sub 3 rfl, ?_⟩
  conv => whnf
  refine ⟨by omega, by omega, a0, hA, ?_⟩
  conv => whnf
  refine ⟨.int .i64 o.e.rune, fun w' hs => (hcell.ext hs).one 5 rfl, ?_⟩
  conv => whnf
  refine (xInsert (hx.go hd) o.e).mono ?_
  rintro _ W4 ⟨rfl, hc, B', hx', _⟩
  conv => whnf
  intro r hr
  obtain rfl : r = ((i + 1 : Nat) : Int) := by rw [hr, wrap_id (by omega) (by omega)]; rfl
  clear hr
  conv => whnf
  exact ⟨(i + 1, _, B'), ⟨rfl, rfl, rfl, rfl, rfl, trivial⟩, ⟨hx', by dsimp only; omega⟩, by dsimp only; omega⟩
end Go.Proofs.Ytbkmbignincilaa
