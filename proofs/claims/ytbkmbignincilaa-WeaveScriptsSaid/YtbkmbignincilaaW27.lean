/- The reference's own, Elements, Place. -/
import Derived.Test.YtbkmbignincilaaW21
namespace Go.Proofs.Ytbkmbignincilaa
open Go Go.VC Go.RowKit
set_option linter.unusedVariables false
set_option linter.unusedSimpArgs false
set_option maxRecDepth 100000

theorem slice28_1E (e : El) (w : World) : (Instr.buildSlice 28 1 #[(0, .agg (cE e).toArray)]).run Try.prog w = .ok (.slice (some ⟨w.heap.size, 0, none⟩) 1 1) (w.alloc (.cells (cE e).toArray 49)) := slice28_1 e w
theorem findI_in {S : List El} (h : SOK S) {y : Idn} (hy : y ∈ ids S) : ∃ i, ∃ hi : i < S.length, findI S y = (i : Nat) ∧ S[i] = elOf S y := by
  unfold findI
  cases hp : placeL S y with
  | none => exact absurd hy (placeL_none_ids.1 hp)
  | some i =>
    unfold placeL at hp
    obtain ⟨hi, h1, _⟩ := List.findIdx?_eq_some_iff_getElem.1 hp
    rw [decide_eq_true_eq] at h1
    refine ⟨i, hi, rfl, ?_⟩
    have := elOf_of h.nodup (List.getElem_mem hi)
    rw [h1] at this
    exact this.symm
theorem flat_len_le {S : List El} (h : SOK S) {x : Idn} (hx : x = Idn.z ∨ x ∈ ids S) (k : Nat) : (((kidsOf S x).take k).flatMap fun y => elOf S y :: own S y).length ≤ S.length := by
  refine Nat.le_trans ?_ (own_len h hx)
  rw [own_eq h hx]
  conv => rhs; rw [← List.take_append_drop k (kidsOf S x)]
  rw [List.flatMap_append, List.length_append]
  omega
set_option maxHeartbeats 8000000
theorem fn53 {S : List El} (hok : SOK S) {F : Nat → Prop} {rb : Nat} : ∀ (N : Nat) (x : Idn), gt S x ≤ N → (x = Idn.z ∨ x ∈ ids S) → ∀ {w : World}, RF w F rb S →
    Ret Try.prog 53 #[ptr rb, kI x] w fun v W => Ext w W ∧ ∃ A c, v = .slice A (own S x).length c ∧ Row49 W A (own S x).length (own S x) := by
  intro N
  induction N using Nat.strongRecOn with
  | _ N ih =>
    intro x hN hx w h
    obtain ⟨A, c, hb, hrow, hown, hfew, hc, hF⟩ := h.open
    refine Ret.of_vc tab_ok Try.func53 rfl Try.ntmps53 rfl (Nat.le_of_ble_eq_true rfl) Try.call53 ?_
    conv => whnf
    intro W hW
    have hb3 := hW.at_
    have hE := hW.e
    clear hW
    generalize w.heap.size = b3 at hb3 ⊢
    conv => whnf
    refine ⟨cI x, rfl, lds hb3 rfl rfl, ?_⟩
    conv => whnf
    refine (fn25 (h.ext hE) hok x).mono ?_
    rintro _ W1 ⟨he1, A1, c1, rfl, hk⟩
    replace hE := hE.tr he1
    clear hb3 he1
    obtain ⟨K, hKe⟩ : ∃ K, K = kidsOf S x := ⟨_, rfl⟩
    have hfl := flat_len_le hok hx
    have hoe := own_eq hok hx
    have hgk := fun y (hy : y ∈ kidsOf S x) => gt_kid hok hx hy
    have hkin := fun y (hy : y ∈ kidsOf S x) => kid_in hy
    have hkl := kids_len S x
    rw [← hKe] at hk hfl hoe hgk hkin hkl ⊢
    generalize hkn : K.length = kn at hk hkl ⊢
    conv => whnf
    refine VLoop.mk' tab_ok (X := Nat × Option Addr × Nat × List El) (fun p => [(0, ptr rb), (4, .slice none 0 0), (5, .slice A1 kn c1), (6, .slice p.2.1 p.2.2.2.length p.2.2.1), (7, .int .i64 p.1)])
      (fun p W' => p.1 ≤ kn ∧ Ext W1 W' ∧ p.2.2.2 = (K.take p.1).flatMap (fun y => elOf S y :: own S y) ∧ W'.ownsRow W1.heap.size 49 6 (.slice p.2.1 p.2.2.2.length p.2.2.1) p.2.2.2.length (p.2.2.2.flatMap cE)) (fun p _ => kn - p.1) (0, none, 0, [])
      ⟨rfl, rfl, rfl, rfl, rfl, trivial⟩ ⟨Nat.zero_le _, Ext.refl _, rfl, own_nil_ _ _ _ _⟩ ?_
    rintro ⟨i, A2, c2, G⟩ j Wi ⟨hi, he, hG, ho⟩
    dsimp only at hi he hG ho
    have hGl : G.length ≤ S.length := by rw [hG]; exact hfl i
    conv => whnf
    intro t ht
    cases t <;> simp only [VB] at ht
    case false =>
      obtain rfl : i = kn := by omega
      rw [List.take_of_length_le (by omega), ← hoe] at hG
      subst hG
      conv => whnf
      exact ⟨hE.tr he, A2, c2, rfl, own_row cl49 (by decide) ho⟩
    have hin : i < kn := by omega
    obtain ⟨a, ka, hA, hd⟩ := hk.at_ hin
    obtain ⟨y, hy⟩ : ∃ y, y = K[i] := ⟨_, rfl⟩
    rw [← hy] at hd
    have hyK : y ∈ K := by rw [hy]; exact List.getElem_mem _
    obtain ⟨fi, hfi, hfe, hfel⟩ := findI_in hok (hkin y hyK)
    obtain ⟨af, kf, hAf, hdf⟩ := hrow.at_ hfi
    rw [hfel] at hdf
    have hstep : (K.take (i + 1)).flatMap (fun y => elOf S y :: own S y) = G ++ elOf S y :: own S y := by
      rw [List.take_succ_eq_append_getElem ka, ← hy, List.flatMap_append, ← hG]
      simp
    have hstl : (G ++ elOf S y :: own S y).length ≤ S.length := by rw [← hstep]; exact hfl (i + 1)
    rw [List.length_append, List.length_cons] at hstl
    conv => whnf
    refine VDraw.mk' tab_ok (Ext Wi) [13, 14] (.take 0 <| .take 1 <| .take 2 <| .take 3 <| .take 4 <| .take 5 <| .take 6 <| .take 7 <| .take 8 <| .take 9 <| .one 10 <| .take 11 <| .take 12 <| .one 13 <| .one 14 <| .take 15 <| .done) mixed (by kernel_rfl) (by kernel_rfl) (Ext.drew _) ?_
    have hdr := Ext.drew Wi
    generalize Wi.drew = W2 at hdr
    conv => whnf
    refine ⟨.slice A S.length c, fun w' hs => hs.cell (ld ((hE.tr he).at_ hb) rfl rfl), ?_⟩
    conv => whnf
    refine ⟨by omega, by omega, a, hA, ?_⟩
    conv => whnf
    refine ⟨cI y, rfl, fun w' hs => hd.ext (he.tr hs), ?_⟩
    conv => whnf
    refine (fn45 (h.ext (hE.tr (he.tr hdr))) y).mono ?_
    rintro _ W3 ⟨he3, rfl⟩
    replace hdr := hdr.tr he3
    refine ⟨hdr, ?_⟩
    rw [hfe]
    conv => whnf
    refine ⟨by omega, by omega, af, hAf, ?_⟩
    conv => whnf
    refine ⟨cE (elOf S y), rfl, fun w' hs => hdf.ext (hE.tr (he.tr hs)), ?_⟩
    conv => whnf
    refine Run.mk' _ _ (slice28_1E (elOf S y) W3) ?_
    have hN := New.mk' W3 (.cells (cE (elOf S y)).toArray 49)
    generalize W3.alloc (.cells (cE (elOf S y)).toArray 49) = W5 at hN ⊢
    have hone : Row49 W5 (some ⟨W3.heap.size, 0, none⟩) 1 [elOf S y] := Row.of_at cl49 (by decide) hN.at_ rfl rfl (by decide)
    have he5 := he.tr (hdr.tr hN.e)
    have ho5 := own_ext ho (hdr.tr hN.e)
    conv => whnf
    refine run_append inf49 Try.underlying28 rfl (by decide) ho5 (hone.rd cl49) (onec49 _) (by simp only [maxLen]; omega) (by omega) he5.le ?_
    intro v2 W6 ho2 hg2 _
    rw [← List.flatMap_append] at ho2
    obtain ⟨B2, d2, rfl⟩ := own_form ho2
    have he6 : Ext W1 W6 := ext_row he5 hg2 ho5 (Nat.le_refl _)
    conv => whnf
    refine ⟨by omega, by omega, a, hA, ?_⟩
    conv => whnf
    refine ⟨cI y, rfl, hd.ext he6, ?_⟩
    conv => whnf
    refine (ih (gt S y) (by have := hgk y hyK; omega) y (Nat.le_refl _) (.inr (hkin y hyK)) (h.ext (hE.tr he6))).mono ?_
    rintro _ W7 ⟨he7, A3, c3, rfl, hr3⟩
    have he17 := he6.tr he7
    have ho7 := own_ext ho2 he7
    conv => whnf
    refine run_append inf49 Try.underlying28 rfl (by decide) ho7 (hr3.rd cl49) (onec49 _) (by simp only [maxLen]; omega) (by omega) he17.le ?_
    intro v3 W8 ho3 hg3 _
    rw [← List.flatMap_append, List.append_assoc, List.singleton_append] at ho3
    obtain ⟨B3, d3, rfl⟩ := own_form ho3
    have he8 : Ext W1 W8 := ext_row he17 hg3 ho7 (Nat.le_refl _)
    conv => whnf
    intro r hr
    obtain rfl : r = ((i + 1 : Nat) : Int) := by rw [hr, wrap_id (by omega) (by omega)]; rfl
    clear hr
    have hll : (G ++ elOf S y :: own S y).length = G.length + 1 + (own S y).length := by rw [List.length_append, List.length_cons]; omega
    conv => whnf
    refine ⟨(i + 1, B3, d3, G ++ elOf S y :: own S y), ⟨rfl, rfl, rfl, ?_, rfl, trivial⟩, ⟨by dsimp only; omega, he8, hstep.symm, ?_⟩, by dsimp only; omega⟩
    · dsimp only; rw [hll]; rfl
    · dsimp only; rw [hll]; exact ho3
theorem fn22 {S : List El} (hok : SOK S) {F : Nat → Prop} {rb : Nat} {w : World} (h : RF w F rb S) : Ret Try.prog 22 #[ptr rb] w fun v W => Ext w W ∧ ∃ A c, v = .slice A (own S Idn.z).length c ∧ Row49 W A (own S Idn.z).length (own S Idn.z) := by
  refine Ret.of_vc tab_ok Try.func22 rfl Try.ntmps22 rfl (Nat.le_of_ble_eq_true rfl) Try.call22 ?_
  conv => whnf
  refine Run.mk' _ _ (build24_0 w) ?_
  conv => whnf
  refine (fn53 hok (gt S Idn.z) Idn.z (Nat.le_refl _) (.inl rfl) h).mono ?_
  rintro _ W ⟨he, A, c, rfl, hr⟩
  conv => whnf
  exact ⟨he, A, c, rfl, hr⟩
theorem fn19 {S : List El} (hok : SOK S) {F : Nat → Prop} {rb : Nat} {w : World} (h : RF w F rb S) (x : Idn) : Ret Try.prog 19 #[ptr rb, kI x] w fun v W => Ext w W ∧ v = placeV (own S Idn.z) x := by
  refine Ret.of_vc tab_ok Try.func19 rfl Try.ntmps19 rfl (Nat.le_of_ble_eq_true rfl) Try.call19 ?_
  conv => whnf
  intro W hW
  have hb3 := hW.at_
  have hE := hW.e
  clear hW
  generalize w.heap.size = b3 at hb3 ⊢
  conv => whnf
  refine (fn22 hok (h.ext hE)).mono ?_
  rintro _ W1 ⟨he1, A, c, rfl, hrow⟩
  replace hE := hE.tr he1
  replace hb3 := he1.at_ hb3
  have hlen : (own S Idn.z).length ≤ 4096 := by
    obtain ⟨_, _, _, _, _, hfew, _⟩ := h.open
    exact Nat.le_trans (own_len hok (.inl rfl)) hfew
  obtain ⟨L, hLe⟩ : ∃ L, L = own S Idn.z := ⟨_, rfl⟩
  rw [← hLe] at hrow hlen ⊢
  generalize hn : L.length = n at hrow hlen ⊢
  conv => whnf
  refine VLoop.mk' tab_ok (X := Nat) (fun i => [(3, ptr b3), (6, .slice A n c), (7, .int .i64 i), (4, .int .i64 0), (5, .bool false)]) (fun i W' => Ext W1 W' ∧ i ≤ n ∧ ∀ k (hk : k < L.length), k < i → L[k].id ≠ x) (fun i _ => n - i) 0 ⟨rfl, rfl, rfl, rfl, rfl, trivial⟩ ⟨Ext.refl _, Nat.zero_le _, fun k _ hk => by omega⟩ ?_
  rintro i j Wi ⟨he, hi, hall⟩
  conv => whnf
  intro t ht
  cases t <;> simp only [VB] at ht
  case false =>
    conv => whnf
    refine ⟨hE.tr he, ?_⟩
    unfold placeV
    rw [placeL_none fun e hm => ?_]
    obtain ⟨k, hk⟩ := List.getElem?_of_mem hm
    have hkl := (List.getElem?_eq_some_iff.1 hk).1
    have := hall k hkl (by omega)
    rw [(List.getElem?_eq_some_iff.1 hk).2] at this
    exact this
  have hin : i < n := by omega
  obtain ⟨a, hk, hA, hd⟩ := hrow.at_ hin
  conv => whnf
  refine VDraw.mk' tab_ok (Ext Wi) [] (.take 0 <| .take 1 <| .take 2 <| .take 3 <| .take 4 <| .take 5 <| .take 6 <| .done) mixed (by kernel_rfl) (by kernel_rfl) (Ext.drew _) ?_
  have hdr := Ext.drew Wi
  generalize Wi.drew = W2 at hdr
  conv => whnf
  refine ⟨by omega, by omega, a, hA, ?_⟩
  conv => whnf
  refine ⟨cI L[i].id, rfl, fun w' hs => (hd.ext (he.tr hs)).sub 0 rfl, ?_⟩
  conv => whnf
  refine ⟨cI x, rfl, fun w' hs => lds (hs.at_ (he.at_ hb3)) rfl rfl, ?_⟩
  conv => whnf
  refine ⟨_, eq24 L[i].id x, fun t ht => ?_⟩
  by_cases hx : L[i].id = x
  · rw [decide_eq_true hx] at ht
    subst ht
    conv => whnf
    refine ⟨hE.tr (he.tr hdr), ?_⟩
    unfold placeV
    rw [placeL_at (p0 := L.take i) (e := L[i]) ⟨L.drop (i + 1), by simp⟩ hx fun b hb e1 => ?_]
    · rw [List.length_take, Nat.min_eq_left (by omega)]
    · obtain ⟨k, hk⟩ := List.getElem?_of_mem hb
      rw [List.getElem?_take] at hk
      split at hk
      · have hkl := (List.getElem?_eq_some_iff.1 hk).1
        have := hall k hkl (by assumption)
        rw [(List.getElem?_eq_some_iff.1 hk).2] at this
        exact this e1
      · cases hk
  · rw [decide_eq_false hx] at ht
    subst ht
    conv => whnf
    intro r hr
    obtain rfl : r = ((i + 1 : Nat) : Int) := by rw [hr, wrap_id (by omega) (by omega)]; rfl
    clear hr
    conv => whnf
    refine ⟨i + 1, ⟨rfl, rfl, rfl, rfl, rfl, trivial⟩, ⟨he.tr hdr, by omega, fun k hk hki => ?_⟩, by omega⟩
    by_cases hke : k = i
    · subst hke; exact hx
    · exact hall k hk (by omega)
end Go.Proofs.Ytbkmbignincilaa
