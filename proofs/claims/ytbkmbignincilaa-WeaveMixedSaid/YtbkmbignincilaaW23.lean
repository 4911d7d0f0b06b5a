/- duetlaw11.WeaveMixed. -/
import Derived.Test.YtbkmbignincilaaW24
namespace Go.Proofs.Ytbkmbignincilaa
open Go Go.VC Go.RowKit
set_option linter.unusedVariables false
set_option linter.unusedSimpArgs false
set_option maxRecDepth 100000

/-- What of some elements can ever be taken. -/
inductive Reach (l : List El) : El → Prop
  | root {e : El} : e ∈ l → okI e.id = true → okR e.rune = true → e.ref = Idn.z → Reach l e
  | step {e p : El} : e ∈ l → okI e.id = true → okR e.rune = true → Reach l p → p.id = e.ref → e.ref.t < e.id.t → Reach l e
theorem Reach.mem {l : List El} {e : El} (h : Reach l e) : e ∈ l := by cases h <;> assumption
theorem Reach.okId {l : List El} {e : El} (h : Reach l e) : okI e.id = true := by cases h <;> assumption
theorem reach_ins {l S : List El} (hS : ∀ e ∈ S, Reach l e) {e : El} (he : e ∈ l) (h0 : insE S e = 0) : ∀ a ∈ insS S e, Reach l a := by
  obtain ⟨i1, i2, i3, i4, i5⟩ := insE_zero h0
  intro a ha
  rw [show insS S e = S ++ [e] by unfold insS; rw [if_pos h0]] at ha
  rcases List.mem_append.1 ha with ha | ha
  · exact hS a ha
  · rw [List.mem_singleton] at ha
    subst ha
    rcases i3 with h1 | ⟨h1, h2⟩
    · exact .root he i1 i2 h1
    · obtain ⟨p, hp, hpe⟩ := List.mem_map.1 h1
      exact .step he i1 i2 (hS p hp) hpe h2
theorem id_inj {l : List El} (hl : (ids l).Nodup) {a b : El} (ha : a ∈ l) (hb : b ∈ l) (e : a.id = b.id) : a = b := by
  obtain ⟨i, hi⟩ := List.getElem?_of_mem ha
  obtain ⟨j, hj⟩ := List.getElem?_of_mem hb
  have := ids_inj hl hi hj e
  subst this
  rw [hi] at hj
  cases hj
  rfl
theorem reach_closed {l S : List El} (h : SOK S) (hl : (ids l).Nodup) (hS : ∀ e ∈ S, Reach l e) (hlen : S.length < 4096) (hc : (∀ e ∈ l, insE S e ≠ 0) ∨ l.length ≤ S.length) : ∀ e, e ∈ S ↔ Reach l e := by
  intro e
  refine ⟨hS e, fun hr => ?_⟩
  rcases hc with hc | hc
  · have key : ∀ e : El, e ∈ l → okI e.id = true → okR e.rune = true → (e.ref = Idn.z ∨ (e.ref ∈ ids S ∧ e.ref.t < e.id.t ∧ okI e.ref = true)) → e ∈ S := fun e he h1 h2 h3 => by
      refine Classical.byContradiction fun hn => hc e he ?_
      have hni : e.id ∉ ids S := fun hm => by
        obtain ⟨a, ha, e1⟩ := List.mem_map.1 hm
        have := id_inj hl (hS a ha).mem he e1
        subst this
        exact hn ha
      unfold insE
      rw [if_neg (by simp [h1, h2]), if_neg, if_neg hni, if_neg, if_neg (by omega)]
      · rintro ⟨h4, h5⟩
        rcases h3 with h3 | h3
        · exact h4 h3
        · exact h5 h3.1
      · rintro ⟨h4, h5⟩
        rcases h3 with h3 | ⟨h3, h6, h7⟩
        · exact h4 h3
        · rcases h5 with h5 | h5
          · rw [h7] at h5; cases h5
          · omega
    induction hr with
    | root he h1 h2 h3 => exact key _ he h1 h2 (.inl h3)
    | step he h1 h2 hp hpe hlt ih => exact key _ he h1 h2 (.inr ⟨hpe ▸ List.mem_map_of_mem (f := fun e : El => e.id) ih, hlt, hpe ▸ hp.okId⟩)
  · refine Classical.byContradiction fun hn => ?_
    have hnd : S.Nodup := by
      have := h.nodup
      exact List.Pairwise.of_map (fun e : El => e.id) (fun a b hab e1 => hab (by rw [e1])) this
    have := nodup_len (l := e :: S) (s := l) (List.nodup_cons.2 ⟨hn, hnd⟩) (fun a ha => by
      rcases List.mem_cons.1 ha with rfl | ha
      · exact hr.mem
      · exact (hS a ha).mem)
    simp at this
    omega
theorem round_all {n f m : Nat} (hm : m < n) : ∃ j, j < n ∧ (f + j) % n = m := by
  have h1 := Nat.mod_lt f (show 0 < n by omega)
  by_cases h2 : f % n ≤ m
  · refine ⟨m - f % n, by omega, ?_⟩
    rw [← Nat.mod_add_mod, show f % n + (m - f % n) = m by omega]
    exact Nat.mod_eq_of_lt hm
  · refine ⟨m + n - f % n, by omega, ?_⟩
    rw [← Nat.mod_add_mod, show f % n + (m + n - f % n) = m + n by omega, Nat.add_mod_right]
    exact Nat.mod_eq_of_lt hm

set_option maxHeartbeats 8000000
theorem fn28 {w : World} {A : Option Addr} {n c : Nat} {zs : List ElU} (h : RowU w A n zs) (hn : n ≤ 40) (hnd : (ids (zs.map (·.e))).Nodup) {f : Nat} (hf : f < 1000) :
    Ret Try.prog 28 #[.slice A n c, .int .i64 f] w fun v W => ∃ b B S, v = ptr b ∧ LX w W B b S ∧ ∀ e, e ∈ S ↔ Reach (zs.map (·.e)) e := by
  have hl := h.len
  have hlm : (zs.map (·.e)).length = n := by rw [List.length_map]; exact hl
  refine Ret.of_vc tab_ok Try.func28 rfl Try.ntmps28 rfl (Nat.le_of_ble_eq_true rfl) Try.call28 ?_
  conv => whnf
  refine (xNew (Ext.refl w)).mono ?_
  rintro _ W ⟨b, B, rfl, hx⟩
  obtain ⟨es, hes⟩ : ∃ es, es = zs.map (·.e) := ⟨_, rfl⟩
  rw [← hes] at hnd hlm ⊢
  have hlenS : ∀ {S : List El}, SOK S → (∀ e ∈ S, Reach es e) → S.length ≤ n := fun {S} hS hR => by
    rw [← hlm]
    exact nodup_len (List.Pairwise.of_map (fun e : El => e.id) (fun a b hab e1 => hab (by rw [e1])) hS.nodup) fun a ha => (hR a ha).mem
  conv => whnf
  refine VLoop.mk' tab_ok (X := Nat × List El × (Nat → Prop)) (fun p => [(0, .slice A n c), (1, .int .i64 f), (5, ptr b), (6, .int .i64 p.1), (4, .pointer none)])
    (fun p W => p.1 ≤ n ∧ LX w W p.2.2 b p.2.1 ∧ (∀ e ∈ p.2.1, Reach es e) ∧ p.1 ≤ p.2.1.length) (fun p _ => n - p.1) (0, [], B) ⟨rfl, rfl, rfl, rfl, rfl, trivial⟩ ⟨Nat.zero_le _, hx, fun e he => (by cases he), Nat.le_refl _⟩ ?_
  clear hx
  rintro ⟨rd, S, B⟩ j Wi ⟨hrn, hx, hR, hrS⟩
  dsimp only at hrn hx hR hrS
  conv => whnf
  intro t ht
  cases t <;> simp only [VB] at ht
  case false =>
    conv => whnf
    exact ⟨b, B, S, rfl, hx, reach_closed hx.line.ok hnd hR (by have := hlenS hx.line.ok hR; omega) (.inr (by omega))⟩
  have hr : rd < n := by omega
  conv => whnf
  refine VLoop.mk' tab_ok (X := Nat × List El × (Nat → Prop) × Bool) (fun p => [(0, .slice A n c), (1, .int .i64 f), (5, ptr b), (6, .int .i64 rd), (4, .pointer none), (7, .bool p.2.2.2), (8, .int .i64 p.1)])
    (fun p W => p.1 ≤ n ∧ LX w W p.2.2.1 b p.2.1 ∧ (∀ e ∈ p.2.1, Reach es e) ∧ (p.2.2.2 = false → p.2.1 = S ∧ ∀ j, j < p.1 → ∀ e, es[(f + j) % n]? = some e → insE S e ≠ 0) ∧ (p.2.2.2 = true → S.length < p.2.1.length)) (fun p _ => n - p.1) (0, S, B, false)
    ⟨rfl, rfl, rfl, rfl, rfl, rfl, rfl, trivial⟩ ⟨Nat.zero_le _, hx, hR, fun _ => ⟨rfl, fun j hj => (by cases hj)⟩, fun e1 => (by cases e1)⟩ ?_
  clear hx hR ht j
  rintro ⟨i, S2, B2, took⟩ j W2 ⟨hin, hx, hR, hno, hyes⟩
  dsimp only at hin hx hR hno hyes
  conv => whnf
  intro t ht
  cases t <;> simp only [VB] at ht
  case false =>
    obtain rfl : i = n := by omega
    cases took
    · conv => whnf
      obtain ⟨rfl, hall⟩ := hno rfl
      refine ⟨b, B2, S2, rfl, hx, reach_closed hx.line.ok hnd hR (by have := hlenS hx.line.ok hR; omega) (.inl fun e he => ?_)⟩
      obtain ⟨m, hm⟩ := List.getElem?_of_mem he
      have hmn : m < i := by have := (List.getElem?_eq_some_iff.1 hm).1; omega
      obtain ⟨j, hj, hjm⟩ := round_all (f := f) hmn
      exact hall j hj e (by rw [hjm]; exact hm)
    · conv => whnf
      intro r hr
      obtain rfl : r = ((rd + 1 : Nat) : Int) := by rw [hr, wrap_id (by omega) (by omega)]; rfl
      clear hr
      conv => whnf
      have := hyes rfl
      exact ⟨(rd + 1, S2, B2), ⟨rfl, rfl, rfl, rfl, rfl, trivial⟩, ⟨by dsimp only; omega, hx, hR, by dsimp only; omega⟩, by dsimp only; omega⟩
  have hi : i < n := by omega
  conv => whnf
  intro r hr2
  obtain rfl : r = ((f + i : Nat) : Int) := by rw [hr2, wrap_id (by omega) (by omega)]; omega
  clear hr2
  conv => whnf
  refine ⟨by omega, fun r hr2 => ?_⟩
  obtain ⟨m, hmd⟩ : ∃ m, m = (f + i) % n := ⟨_, rfl⟩
  have hmn : m < n := by rw [hmd]; exact Nat.mod_lt _ (by omega)
  obtain rfl : r = (m : Int) := by rw [hr2, hmd, Int.tmod_eq_emod_of_nonneg (by omega)]; rfl
  clear hr2
  obtain ⟨a0, hk0, hA, hcell0⟩ := h.at_ hmn
  obtain ⟨z, hz⟩ : ∃ z, z = zs[m] := ⟨_, rfl⟩
  rw [← hz] at hcell0
  have hze : es[m]? = some z.e := by rw [hes, List.getElem?_map, List.getElem?_eq_getElem hk0, ← hz]; rfl
  have hcell := hcell0.ext hx.ext
  conv => whnf
  refine ⟨by omega, by omega, a0, hA, ?_⟩
  conv => whnf
  refine ⟨cU z, rfl, hcell, ?_⟩
  conv => whnf
  intro W3 hW3
  conv => whnf
  refine ⟨W2.heap.size, 0, _, _, rfl, hW3.at_, Nat.le_of_ble_eq_true rfl, rfl, rfl, fun W4 hW4 => ?_⟩
  have hE : Ext W2 W4 := hW4.e hW3.e (Nat.le_refl _)
  have hb9 : W4.heap[W2.heap.size]? = some (.cells (cU z).toArray 49 (0, 0)) := hW4.at_
  generalize W2.heap.size = b9 at hb9 ⊢
  replace hx := hx.go hE
  clear hW3 hW4 hE hcell
  conv => whnf
  refine ⟨cI z.e.id, rfl, lds hb9 rfl rfl, ?_⟩
  conv => whnf
  refine ⟨cI z.e.ref, rfl, lds hb9 rfl rfl, ?_⟩
  conv => whnf
  refine ⟨.int .i64 z.e.rune, ld hb9 rfl rfl, ?_⟩
  conv => whnf
  refine (xInsert hx z.e).mono ?_
  rintro _ W5 ⟨rfl, hc, B5, hx5, _⟩
  conv => whnf
  intro t ht3
  cases t <;> simp only [VB] at ht3
  · conv => whnf
    intro r hr2
    obtain rfl : r = ((i + 1 : Nat) : Int) := by rw [hr2, wrap_id (by omega) (by omega)]; rfl
    clear hr2
    conv => whnf
    have hs : insS S2 z.e = S2 := by unfold insS; rw [if_neg ht3]
    rw [hs] at hx5
    refine ⟨(i + 1, S2, B5, took), ⟨rfl, rfl, rfl, rfl, rfl, rfl, rfl, trivial⟩, ⟨by dsimp only; omega, hx5, hR, fun e1 => ?_, hyes⟩, by dsimp only; omega⟩
    obtain ⟨h1, h2⟩ := hno e1
    refine ⟨h1, fun j hj e he => ?_⟩
    dsimp only at hj
    by_cases hji : j = i
    · rw [hji, ← hmd, hze] at he
      cases he
      rw [← h1]
      exact ht3
    · exact h2 j (by omega) e he
  · conv => whnf
    intro r hr2
    obtain rfl : r = ((i + 1 : Nat) : Int) := by rw [hr2, wrap_id (by omega) (by omega)]; rfl
    clear hr2
    conv => whnf
    refine ⟨(i + 1, insS S2 z.e, B5, true), ⟨rfl, rfl, rfl, rfl, rfl, rfl, rfl, trivial⟩, ⟨by dsimp only; omega, hx5, reach_ins hR (List.mem_of_getElem? hze) ht3, fun e1 => (by cases e1), fun _ => ?_⟩, by dsimp only; omega⟩
    dsimp only
    rw [show insS S2 z.e = S2 ++ [z.e] by unfold insS; rw [if_pos ht3], List.length_append]
    have : S.length ≤ S2.length := by
      cases took
      · rw [(hno rfl).1]; exact Nat.le_refl _
      · have := hyes rfl; omega
    simp
    omega
theorem fn5 {w : World} {A : Option Addr} {n c : Nat} {zs : List ElU} (h : RowU w A n zs) (F : Int) (hFw : wfI F) : Ret Try.prog 5 #[.slice A n c, .int .i64 F] w fun v W => Ext w W ∧ v = .bool true := by
  have hl := h.len
  have hsm := h.small
  have hlive : ∀ {W : World}, Ext w W → Ret Try.prog 27 #[] W fun v W' => Ext w W' ∧ v = .bool true := fun he => live_end he
  refine Ret.of_vc tab_ok Try.func5 rfl Try.ntmps5 rfl (Nat.le_of_ble_eq_true rfl) Try.call5 ?_
  conv => whnf
  intro t ht1
  cases t <;> simp only [VB] at ht1
  case true =>
    conv => whnf
    refine (hlive (Ext.refl w)).mono ?_
    rintro _ We ⟨he, rfl⟩
    conv => whnf
    exact ⟨he, rfl⟩
  conv => whnf
  intro t ht2
  cases t <;> simp only [VB] at ht2
  case true =>
    conv => whnf
    refine (hlive (Ext.refl w)).mono ?_
    rintro _ We ⟨he, rfl⟩
    conv => whnf
    exact ⟨he, rfl⟩
  obtain ⟨f, rfl⟩ : ∃ f : Nat, F = f := ⟨F.toNat, by omega⟩
  have hn : n ≤ 40 := by omega
  conv => whnf
  refine VLoop.mk' tab_ok (X := Nat) (fun i => [(0, .slice A n c), (1, .int .i64 f), (5, .int .i64 i), (4, .bool false)])
    (fun i W => i ≤ n ∧ Ext w W ∧ ∀ a b (ha : a < zs.length) (hb : b < zs.length), a < b → b < i → zs[a].e.id ≠ zs[b].e.id) (fun i _ => n - i) 0 ⟨rfl, rfl, rfl, rfl, trivial⟩ ⟨Nat.zero_le _, Ext.refl w, fun a b _ _ _ hb => by omega⟩ ?_
  rintro i j Wi ⟨hin, he, hall⟩
  conv => whnf
  intro t ht
  cases t <;> simp only [VB] at ht
  case true =>
    have hi : i < n := by omega
    obtain ⟨ai, ki, hAi, di⟩ := h.at_ hi
    conv => whnf
    refine VLoop.mk' tab_ok (X := Nat) (fun k => [(0, .slice A n c), (1, .int .i64 f), (5, .int .i64 i), (4, .bool false), (6, .int .i64 k)])
      (fun k W => k ≤ i ∧ Ext w W ∧ ∀ a (ha : a < zs.length), a < k → zs[a].e.id ≠ zs[i].e.id) (fun k _ => i - k) 0 ⟨rfl, rfl, rfl, rfl, rfl, trivial⟩ ⟨Nat.zero_le _, he, fun a _ ha => by omega⟩ ?_
    clear he
    rintro k j2 Wk ⟨hki, he, hk⟩
    conv => whnf
    intro t ht2
    cases t <;> simp only [VB] at ht2
    case false =>
      conv => whnf
      intro r hr
      obtain rfl : r = ((i + 1 : Nat) : Int) := by rw [hr, wrap_id (by omega) (by omega)]; rfl
      clear hr
      conv => whnf
      refine ⟨i + 1, ⟨rfl, rfl, rfl, rfl, trivial⟩, ⟨by omega, he, fun a b ha hb hab hbi => ?_⟩, by omega⟩
      by_cases hbe : b = i
      · subst hbe; exact hk a ha (by omega)
      · exact hall a b ha hb hab (by omega)
    have hkn : k < n := by omega
    obtain ⟨ak, kk, hAk, dk⟩ := h.at_ hkn
    conv => whnf
    refine VDraw.mk' tab_ok (Ext Wk) [] (.take 0 <| .take 1 <| .take 2 <| .take 3 <| .take 4 <| .take 5 <| .take 6 <| .take 7 <| .take 8 <| .take 9 <| .take 10 <| .done) mixed (by kernel_rfl) (by kernel_rfl) (Ext.drew _) ?_
    have hd := Ext.drew Wk
    generalize Wk.drew = Wd at hd
    conv => whnf
    refine ⟨by omega, by omega, ak, hAk, ?_⟩
    conv => whnf
    refine ⟨cI zs[k].e.id, rfl, fun w' hs => (dk.ext (he.tr hs)).sub 0 rfl, ?_⟩
    conv => whnf
    refine ⟨by omega, by omega, ai, hAi, ?_⟩
    conv => whnf
    refine ⟨cI zs[i].e.id, rfl, fun w' hs => (di.ext (he.tr hs)).sub 0 rfl, ?_⟩
    conv => whnf
    refine ⟨_, eq24 zs[k].e.id zs[i].e.id, fun t ht => ?_⟩
    by_cases hxy : zs[k].e.id = zs[i].e.id
    · rw [decide_eq_true hxy] at ht
      subst ht
      conv => whnf
      refine (hlive (he.tr hd)).mono ?_
      rintro _ We ⟨he, rfl⟩
      conv => whnf
      exact ⟨he, rfl⟩
    · rw [decide_eq_false hxy] at ht
      subst ht
      conv => whnf
      intro r hr
      obtain rfl : r = ((k + 1 : Nat) : Int) := by rw [hr, wrap_id (by omega) (by omega)]; rfl
      clear hr
      conv => whnf
      refine ⟨k + 1, ⟨rfl, rfl, rfl, rfl, rfl, trivial⟩, ⟨by omega, he.tr hd, fun a ha hak => ?_⟩, by omega⟩
      by_cases hae : a = k
      · subst hae; exact hxy
      · exact hk a ha (by omega)
  case false =>
  have hnd : (ids (zs.map (·.e))).Nodup := by
    rw [List.nodup_iff_pairwise_ne, List.pairwise_iff_getElem]
    intro a b ha hb hab
    simp only [List.getElem_map]
    simp only [ids, List.length_map] at ha hb
    exact hall a b ha hb hab (by omega)
  conv => whnf
  refine (fn28 (h.ext he) hn hnd (f := 0) (by omega)).mono ?_
  rintro _ Wa ⟨ba, Ba, Sa, rfl, hxa, hra⟩
  have he2 := he.tr hxa.ext
  conv => whnf
  refine ⟨by decide, fun r hr => ?_⟩
  obtain ⟨g, hg⟩ : ∃ g : Nat, g = f % 1000 := ⟨_, rfl⟩
  obtain rfl : r = (g : Int) := by rw [hr, hg, Int.tmod_eq_emod_of_nonneg (by omega)]; rfl
  conv => whnf
  refine (fn28 (h.ext he2) hn hnd (f := g) (by omega)).mono ?_
  rintro _ Wb ⟨bb, Bb, Sb, rfl, hxb, hrb⟩
  have hxa2 := hxa.go hxb.ext
  have he3 := he2.tr hxb.ext
  conv => whnf
  refine (wElements hxa2.line).mono ?_
  rintro _ Wc ⟨hec, A1, c1, rfl, hrow1, _⟩
  have hxb2 := hxb.go hec
  conv => whnf
  refine (wElements hxb2.line).mono ?_
  rintro _ Wd ⟨hed, A2, c2, rfl, hrow2, _⟩
  conv => whnf
  have heq : own Sa Idn.z = own Sb Idn.z := own_congr' hxa.line.ok hxb.line.ok fun e => (hra e).trans (hrb e).symm
  refine (fn20 (hrow1.ext hed) hrow2).mono ?_
  rintro _ We ⟨hee, rfl⟩
  rw [decide_eq_true heq]
  conv => whnf
  refine (hlive (he3.tr (hec.tr (hed.tr hee)))).mono ?_
  rintro _ Wf ⟨hef, rfl⟩
  conv => whnf
  exact ⟨hef, rfl⟩
end Go.Proofs.Ytbkmbignincilaa
