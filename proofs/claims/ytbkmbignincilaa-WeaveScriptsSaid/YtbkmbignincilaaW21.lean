/- The reference's Kids. -/
import Derived.Test.YtbkmbignincilaaW20
namespace Go.Proofs.Ytbkmbignincilaa
open Go Go.VC Go.RowKit
set_option linter.unusedVariables false
set_option linter.unusedSimpArgs false
set_option maxRecDepth 100000

theorem placeL_none_ids {l : List El} {x : Idn} : placeL l x = none ↔ x ∉ ids l := by
  unfold placeL
  rw [List.findIdx?_eq_none_iff]
  constructor
  · intro hn hx
    obtain ⟨e, he, rfl⟩ := List.mem_map.1 hx
    have := hn e he
    simp at this
  · intro hx e he
    rw [decide_eq_false_iff_not]
    rintro rfl
    exact hx (List.mem_map_of_mem (f := fun e : El => e.id) he)
theorem findI_neg {S : List El} {x : Idn} : findI S x < 0 ↔ x ∉ ids S := by
  rw [← placeL_none_ids]
  unfold findI
  cases placeL S x with
  | none => simp
  | some i => simp
def refsTo (S : List El) (x : Idn) : List Idn := (S.filter fun e => decide (e.ref = x)).map (·.id)
theorem refsTo_take {S : List El} {x : Idn} {i : Nat} (hi : i < S.length) : refsTo (S.take (i + 1)) x = refsTo (S.take i) x ++ (if S[i].ref = x then [S[i].id] else []) := by
  unfold refsTo
  rw [List.take_succ_eq_append_getElem hi, List.filter_append, List.map_append]
  congr 1
  by_cases h : S[i].ref = x
  · simp [h]
  · simp [h]
theorem refsTo_len (S : List El) (x : Idn) (i : Nat) : (refsTo (S.take i) x).length ≤ i := by
  unfold refsTo
  rw [List.length_map]
  exact Nat.le_trans (List.length_filter_le _ _) (by rw [List.length_take]; omega)
theorem mem_refsTo {S : List El} {x y : Idn} : y ∈ refsTo S x ↔ y ∈ kidsOf S x := by
  rw [mem_kids]
  unfold refsTo
  rw [List.mem_map]
  constructor
  · rintro ⟨e, he, rfl⟩
    have := List.mem_filter.1 he
    exact ⟨e, this.1, by simpa using this.2, rfl⟩
  · rintro ⟨e, he, h1, rfl⟩
    exact ⟨e, List.mem_filter.2 ⟨he, by simpa using h1⟩, rfl⟩
set_option maxHeartbeats 8000000
theorem fn25 {w : World} {F : Nat → Prop} {rb : Nat} {S : List El} (h : RF w F rb S) (hok : SOK S) (x : Idn) :
    Ret Try.prog 25 #[ptr rb, kI x] w fun v W => Ext w W ∧ ∃ A c, v = .slice A (kidsOf S x).length c ∧ Row24 W A (kidsOf S x).length (kidsOf S x) := by
  obtain ⟨A, c, hb, hrow, hown, hfew, hc, hF⟩ := h.open
  refine Ret.of_vc tab_ok Try.func25 rfl Try.ntmps25 rfl (Nat.le_of_ble_eq_true rfl) Try.call25 ?_
  conv => whnf
  intro W hW
  have hb3 := hW.at_
  have hE := hW.e
  clear hW
  generalize w.heap.size = b3 at hb3 ⊢
  conv => whnf
  refine ⟨cI x, rfl, lds hb3 rfl rfl, ?_⟩
  conv => whnf
  refine Run.mk' _ _ (build24_0 W) ?_
  conv => whnf
  refine ⟨_, neq24 x Idn.z, fun t ht => ?_⟩
  --WAYS25
  by_cases hz : x = Idn.z
  · rw [decide_eq_true hz] at ht
    subst ht
    conv => whnf
    have hEn := hE.le
    refine VLoop.mk' tab_ok (X := Nat × Option Addr × Nat × List Idn) (fun p => [(0, ptr rb), (3, ptr b3), (4, .slice none 0 0), (5, .slice p.2.1 p.2.2.2.length p.2.2.1), (6, .int .i64 p.1)])
      (fun p W' => p.1 ≤ S.length ∧ Ext W W' ∧ p.2.2.2 = refsTo (S.take p.1) x ∧ W'.ownsRow W.heap.size 24 2 (.slice p.2.1 p.2.2.2.length p.2.2.1) p.2.2.2.length (p.2.2.2.flatMap cI)) (fun p _ => S.length - p.1) (0, none, 0, [])
      ⟨rfl, rfl, rfl, rfl, rfl, trivial⟩ ⟨Nat.zero_le _, Ext.refl _, rfl, own_nil_ _ _ _ _⟩ ?_
    rintro ⟨i, A1, c1, ks⟩ j Wi ⟨hi, he, hks, ho⟩
    dsimp only at hi he hks ho
    have hkl : ks.length ≤ i := by rw [hks]; exact refsTo_len S x i
    conv => whnf
    refine ⟨.slice A S.length c, ld (he.at_ (hE.at_ hb)) rfl rfl, ?_⟩
    conv => whnf
    intro t ht
    cases t <;> simp only [VB] at ht
    case true =>
      have hin : i < S.length := by omega
      obtain ⟨a, hk, hA, hd⟩ := hrow.at_ hin
      conv => whnf
      refine VDraw.mk' tab_ok (Ext Wi) [] (.take 0 <| .take 1 <| .take 2 <| .take 3 <| .take 4 <| .take 5 <| .take 6 <| .take 7 <| .take 8 <| .take 9 <| .done) mixed (by kernel_rfl) (by kernel_rfl) (Ext.drew _) ?_
      have hdr := Ext.drew Wi
      generalize Wi.drew = W2 at hdr
      conv => whnf
      refine ⟨.slice A S.length c, fun w' hs => hs.cell (ld (he.at_ (hE.at_ hb)) rfl rfl), ?_⟩
      conv => whnf
      refine ⟨by omega, by omega, a, hA, ?_⟩
      conv => whnf
      refine ⟨cI S[i].ref, rfl, fun w' hs => (hd.ext (hE.tr (he.tr hs))).sub 2 rfl, ?_⟩
      conv => whnf
      refine ⟨cI x, rfl, fun w' hs => lds (hs.at_ (he.at_ hb3)) rfl rfl, ?_⟩
      conv => whnf
      refine ⟨_, eq24 S[i].ref x, fun t ht => ?_⟩
      have he2 := he.tr hdr
      by_cases hx : S[i].ref = x
      · rw [decide_eq_true hx] at ht
        subst ht
        conv => whnf
        refine ⟨.slice A S.length c, ld (he2.at_ (hE.at_ hb)) rfl rfl, ?_⟩
        conv => whnf
        refine ⟨by omega, by omega, a, hA, ?_⟩
        conv => whnf
        refine ⟨cI S[i].id, rfl, (hd.ext (hE.tr he2)).sub 0 rfl, ?_⟩
        conv => whnf
        refine Run.mk' _ _ (slice41_1K S[i].id W2) ?_
        have hN := New.mk' W2 (.cells #[.int .i64 S[i].id.t, .int .i64 S[i].id.s] 24)
        generalize W2.alloc (.cells #[.int .i64 S[i].id.t, .int .i64 S[i].id.s] 24) = W5 at hN ⊢
        have hone : Row24 W5 (some ⟨W2.heap.size, 0, none⟩) 1 [S[i].id] := Row.of_at cl24 (by decide) hN.at_ rfl rfl (by decide)
        have he5 := he2.tr hN.e
        have ho5 := own_ext ho (hdr.tr hN.e)
        conv => whnf
        refine run_append inf24 Try.underlying41 rfl (by decide) ho5 (hone.rd cl24) (onec24 _) (by simp only [maxLen]; omega) (by omega) he5.le ?_
        intro v2 W6 ho2 hg2 hat2
        rw [← List.flatMap_append] at ho2
        obtain ⟨B2, d2, rfl⟩ := own_form ho2
        have he6 : Ext W W6 := ext_row he5 hg2 ho5 (Nat.le_refl _)
        conv => whnf
        intro r hr
        obtain rfl : r = ((i + 1 : Nat) : Int) := by rw [hr, wrap_id (by omega) (by omega)]; rfl
        clear hr
        conv => whnf
        have hll : (ks ++ [S[i].id]).length = ks.length + 1 := by simp
        refine ⟨(i + 1, B2, d2, ks ++ [S[i].id]), ⟨rfl, rfl, rfl, ?_, rfl, trivial⟩, ⟨by dsimp only; omega, he6, ?_, ?_⟩, by dsimp only; omega⟩
        · dsimp only; rw [hll]; rfl
        · dsimp only; rw [refsTo_take hin, if_pos hx, hks]
        · dsimp only; rw [hll]; exact ho2
      · rw [decide_eq_false hx] at ht
        subst ht
        conv => whnf
        intro r hr
        obtain rfl : r = ((i + 1 : Nat) : Int) := by rw [hr, wrap_id (by omega) (by omega)]; rfl
        clear hr
        conv => whnf
        refine ⟨(i + 1, A1, c1, ks), ⟨rfl, rfl, rfl, rfl, rfl, trivial⟩, ⟨by dsimp only; omega, he2, ?_, own_ext ho hdr⟩, by dsimp only; omega⟩
        dsimp only; rw [refsTo_take hin, if_neg hx, List.append_nil, hks]
    case false =>
    obtain rfl : i = S.length := by omega
    rw [List.take_length] at hks
    conv => whnf
    refine (fn55 (own_row cl24 (by decide) ho) (by omega)).mono ?_
    rintro _ W7 ⟨he7, A2, n2, c2, ys, rfl, hrow2, hasc, hmem, hn2⟩
    have hfin : ys.reverse = kidsOf S x := by
      refine desc_ext (List.pairwise_reverse.2 hasc) (desc_kids S x) fun y => ?_
      rw [List.mem_reverse, hmem, hks, mem_refsTo]
    have hyl := hrow2.len
    have hE7 := he.tr he7
    conv => whnf
    intro r hr
    obtain rfl : r = (n2 : Int) - 1 := by rw [hr, wrap_id (by omega) (by omega)]
    clear hr
    conv => whnf
    refine VLoop.mk' tab_ok (X := Nat × Option Addr × Nat) (fun p => [(5, .slice A2 n2 c2), (7, .slice p.2.1 p.1 p.2.2), (8, .int .i64 ((n2 : Int) - 1 - p.1)), (4, .slice none 0 0)])
      (fun p W' => p.1 ≤ n2 ∧ Ext W7 W' ∧ W'.ownsRow W7.heap.size 24 2 (.slice p.2.1 p.1 p.2.2) p.1 ((ys.reverse.take p.1).flatMap cI)) (fun p _ => n2 - p.1) (0, none, 0)
      ⟨rfl, rfl, ?_, rfl, trivial⟩ ⟨Nat.zero_le _, Ext.refl _, own_nil_ _ _ _ _⟩ ?_
    · show _ = Value.int .i64 ((n2 : Int) - 1 - ((0 : Nat) : Int))
      rw [show (n2 : Int) - 1 - ((0 : Nat) : Int) = (n2 : Int) - 1 by omega]
      rfl
    rintro ⟨m, A3, c3⟩ j2 W8 ⟨hm, he8, ho3⟩
    dsimp only at hm he8 ho3
    conv => whnf
    intro t htm
    cases t <;> simp only [VB] at htm
    case false =>
      obtain rfl : m = n2 := by omega
      conv => whnf
      rw [← hfin, List.length_reverse, hyl]
      rw [List.take_of_length_le (by rw [List.length_reverse]; omega)] at ho3
      exact ⟨hE.tr (hE7.tr he8), A3, c3, rfl, own_row cl24 (by decide) ho3⟩
    have hmn : m < n2 := by omega
    obtain ⟨a, ka, hA2, hd2⟩ := hrow2.at_ (show n2 - 1 - m < n2 by omega)
    have hcast : (n2 : Int) - 1 - (m : Int) = ((n2 - 1 - m : Nat) : Int) := by omega
    rw [hcast]
    conv => whnf
    refine ⟨by omega, by omega, a, hA2, ?_⟩
    conv => whnf
    refine ⟨cI ys[n2 - 1 - m], rfl, hd2.ext he8, ?_⟩
    conv => whnf
    refine Run.mk' _ _ (slice41_1K ys[n2 - 1 - m] W8) ?_
    have hN := New.mk' W8 (.cells #[.int .i64 ys[n2 - 1 - m].t, .int .i64 ys[n2 - 1 - m].s] 24)
    generalize W8.alloc (.cells #[.int .i64 ys[n2 - 1 - m].t, .int .i64 ys[n2 - 1 - m].s] 24) = W9 at hN ⊢
    have hone : Row24 W9 (some ⟨W8.heap.size, 0, none⟩) 1 [ys[n2 - 1 - m]] := Row.of_at cl24 (by decide) hN.at_ rfl rfl (by decide)
    have he9 := he8.tr hN.e
    have ho9 := own_ext ho3 hN.e
    conv => whnf
    refine run_append inf24 Try.underlying41 rfl (by decide) ho9 (hone.rd cl24) (onec24 _) (by simp only [maxLen]; omega) (by omega) he9.le ?_
    intro v2 W10 ho10 hg10 _
    rw [← List.flatMap_append] at ho10
    obtain ⟨B4, d4, rfl⟩ := own_form ho10
    have he10 : Ext W7 W10 := ext_row he9 hg10 ho9 (Nat.le_refl _)
    conv => whnf
    intro r hr
    obtain rfl : r = (n2 : Int) - 1 - ((m + 1 : Nat) : Int) := by rw [hr, wrap_id (by omega) (by omega)]; omega
    clear hr
    conv => whnf
    refine ⟨(m + 1, B4, d4), ⟨rfl, rfl, rfl, rfl, trivial⟩, ⟨by dsimp only; omega, he10, ?_⟩, by dsimp only; omega⟩
    dsimp only
    have hml : m < ys.reverse.length := by rw [List.length_reverse]; omega
    have hge : ys.reverse[m] = ys[n2 - 1 - m] := by
      rw [List.getElem_reverse]
      congr 1
      omega
    rw [List.take_succ_eq_append_getElem hml, hge]
    exact ho10
  rw [decide_eq_false hz] at ht
  subst ht
  conv => whnf
  refine ⟨cI x, rfl, lds hb3 rfl rfl, ?_⟩
  conv => whnf
  refine (fn45 (h.ext hE) x).mono ?_
  rintro _ Wf ⟨hef, rfl⟩
  conv => whnf
  intro t ht2
  cases t <;> simp only [VB] at ht2
  case true =>
    conv => whnf
    have hk : kidsOf S x = [] := kids_gone hok hz (findI_neg.1 ht2)
    rw [hk]
    exact ⟨hE.tr hef, none, 0, rfl, Row.nil _ _⟩
  replace hE := hE.tr hef
  replace hb3 := hef.at_ hb3
  clear hef
  conv => whnf
  have hEn := hE.le
  refine VLoop.mk' tab_ok (X := Nat × Option Addr × Nat × List Idn) (fun p => [(0, ptr rb), (3, ptr b3), (4, .slice none 0 0), (5, .slice p.2.1 p.2.2.2.length p.2.2.1), (6, .int .i64 p.1)])
    (fun p W' => p.1 ≤ S.length ∧ Ext Wf W' ∧ p.2.2.2 = refsTo (S.take p.1) x ∧ W'.ownsRow Wf.heap.size 24 2 (.slice p.2.1 p.2.2.2.length p.2.2.1) p.2.2.2.length (p.2.2.2.flatMap cI)) (fun p _ => S.length - p.1) (0, none, 0, [])
    ⟨rfl, rfl, rfl, rfl, rfl, trivial⟩ ⟨Nat.zero_le _, Ext.refl _, rfl, own_nil_ _ _ _ _⟩ ?_
  rintro ⟨i, A1, c1, ks⟩ j Wi ⟨hi, he, hks, ho⟩
  dsimp only at hi he hks ho
  have hkl : ks.length ≤ i := by rw [hks]; exact refsTo_len S x i
  conv => whnf
  refine ⟨.slice A S.length c, ld (he.at_ (hE.at_ hb)) rfl rfl, ?_⟩
  conv => whnf
  intro t ht
  cases t <;> simp only [VB] at ht
  case true =>
    have hin : i < S.length := by omega
    obtain ⟨a, hk, hA, hd⟩ := hrow.at_ hin
    conv => whnf
    refine VDraw.mk' tab_ok (Ext Wi) [] (.take 0 <| .take 1 <| .take 2 <| .take 3 <| .take 4 <| .take 5 <| .take 6 <| .take 7 <| .take 8 <| .take 9 <| .done) mixed (by kernel_rfl) (by kernel_rfl) (Ext.drew _) ?_
    have hdr := Ext.drew Wi
    generalize Wi.drew = W2 at hdr
    conv => whnf
    refine ⟨.slice A S.length c, fun w' hs => hs.cell (ld (he.at_ (hE.at_ hb)) rfl rfl), ?_⟩
    conv => whnf
    refine ⟨by omega, by omega, a, hA, ?_⟩
    conv => whnf
    refine ⟨cI S[i].ref, rfl, fun w' hs => (hd.ext (hE.tr (he.tr hs))).sub 2 rfl, ?_⟩
    conv => whnf
    refine ⟨cI x, rfl, fun w' hs => lds (hs.at_ (he.at_ hb3)) rfl rfl, ?_⟩
    conv => whnf
    refine ⟨_, eq24 S[i].ref x, fun t ht => ?_⟩
    have he2 := he.tr hdr
    by_cases hx : S[i].ref = x
    · rw [decide_eq_true hx] at ht
      subst ht
      conv => whnf
      refine ⟨.slice A S.length c, ld (he2.at_ (hE.at_ hb)) rfl rfl, ?_⟩
      conv => whnf
      refine ⟨by omega, by omega, a, hA, ?_⟩
      conv => whnf
      refine ⟨cI S[i].id, rfl, (hd.ext (hE.tr he2)).sub 0 rfl, ?_⟩
      conv => whnf
      refine Run.mk' _ _ (slice41_1K S[i].id W2) ?_
      have hN := New.mk' W2 (.cells #[.int .i64 S[i].id.t, .int .i64 S[i].id.s] 24)
      generalize W2.alloc (.cells #[.int .i64 S[i].id.t, .int .i64 S[i].id.s] 24) = W5 at hN ⊢
      have hone : Row24 W5 (some ⟨W2.heap.size, 0, none⟩) 1 [S[i].id] := Row.of_at cl24 (by decide) hN.at_ rfl rfl (by decide)
      have he5 := he2.tr hN.e
      have ho5 := own_ext ho (hdr.tr hN.e)
      conv => whnf
      refine run_append inf24 Try.underlying41 rfl (by decide) ho5 (hone.rd cl24) (onec24 _) (by simp only [maxLen]; omega) (by omega) he5.le ?_
      intro v2 W6 ho2 hg2 hat2
      rw [← List.flatMap_append] at ho2
      obtain ⟨B2, d2, rfl⟩ := own_form ho2
      have he6 : Ext Wf W6 := ext_row he5 hg2 ho5 (Nat.le_refl _)
      conv => whnf
      intro r hr
      obtain rfl : r = ((i + 1 : Nat) : Int) := by rw [hr, wrap_id (by omega) (by omega)]; rfl
      clear hr
      conv => whnf
      have hll : (ks ++ [S[i].id]).length = ks.length + 1 := by simp
      refine ⟨(i + 1, B2, d2, ks ++ [S[i].id]), ⟨rfl, rfl, rfl, ?_, rfl, trivial⟩, ⟨by dsimp only; omega, he6, ?_, ?_⟩, by dsimp only; omega⟩
      · dsimp only; rw [hll]; rfl
      · dsimp only; rw [refsTo_take hin, if_pos hx, hks]
      · dsimp only; rw [hll]; exact ho2
    · rw [decide_eq_false hx] at ht
      subst ht
      conv => whnf
      intro r hr
      obtain rfl : r = ((i + 1 : Nat) : Int) := by rw [hr, wrap_id (by omega) (by omega)]; rfl
      clear hr
      conv => whnf
      refine ⟨(i + 1, A1, c1, ks), ⟨rfl, rfl, rfl, rfl, rfl, trivial⟩, ⟨by dsimp only; omega, he2, ?_, own_ext ho hdr⟩, by dsimp only; omega⟩
      dsimp only; rw [refsTo_take hin, if_neg hx, List.append_nil, hks]
  case false =>
  obtain rfl : i = S.length := by omega
  rw [List.take_length] at hks
  conv => whnf
  refine (fn55 (own_row cl24 (by decide) ho) (by omega)).mono ?_
  rintro _ W7 ⟨he7, A2, n2, c2, ys, rfl, hrow2, hasc, hmem, hn2⟩
  have hfin : ys.reverse = kidsOf S x := by
    refine desc_ext (List.pairwise_reverse.2 hasc) (desc_kids S x) fun y => ?_
    rw [List.mem_reverse, hmem, hks, mem_refsTo]
  have hyl := hrow2.len
  have hE7 := he.tr he7
  conv => whnf
  intro r hr
  obtain rfl : r = (n2 : Int) - 1 := by rw [hr, wrap_id (by omega) (by omega)]
  clear hr
  conv => whnf
  refine VLoop.mk' tab_ok (X := Nat × Option Addr × Nat) (fun p => [(5, .slice A2 n2 c2), (7, .slice p.2.1 p.1 p.2.2), (8, .int .i64 ((n2 : Int) - 1 - p.1)), (4, .slice none 0 0)])
    (fun p W' => p.1 ≤ n2 ∧ Ext W7 W' ∧ W'.ownsRow W7.heap.size 24 2 (.slice p.2.1 p.1 p.2.2) p.1 ((ys.reverse.take p.1).flatMap cI)) (fun p _ => n2 - p.1) (0, none, 0)
    ⟨rfl, rfl, ?_, rfl, trivial⟩ ⟨Nat.zero_le _, Ext.refl _, own_nil_ _ _ _ _⟩ ?_
  · show _ = Value.int .i64 ((n2 : Int) - 1 - ((0 : Nat) : Int))
    rw [show (n2 : Int) - 1 - ((0 : Nat) : Int) = (n2 : Int) - 1 by omega]
    rfl
  rintro ⟨m, A3, c3⟩ j2 W8 ⟨hm, he8, ho3⟩
  dsimp only at hm he8 ho3
  conv => whnf
  intro t htm
  cases t <;> simp only [VB] at htm
  case false =>
    obtain rfl : m = n2 := by omega
    conv => whnf
    rw [← hfin, List.length_reverse, hyl]
    rw [List.take_of_length_le (by rw [List.length_reverse]; omega)] at ho3
    exact ⟨hE.tr (hE7.tr he8), A3, c3, rfl, own_row cl24 (by decide) ho3⟩
  have hmn : m < n2 := by omega
  obtain ⟨a, ka, hA2, hd2⟩ := hrow2.at_ (show n2 - 1 - m < n2 by omega)
  have hcast : (n2 : Int) - 1 - (m : Int) = ((n2 - 1 - m : Nat) : Int) := by omega
  rw [hcast]
  conv => whnf
  refine ⟨by omega, by omega, a, hA2, ?_⟩
  conv => whnf
  refine ⟨cI ys[n2 - 1 - m], rfl, hd2.ext he8, ?_⟩
  conv => whnf
  refine Run.mk' _ _ (slice41_1K ys[n2 - 1 - m] W8) ?_
  have hN := New.mk' W8 (.cells #[.int .i64 ys[n2 - 1 - m].t, .int .i64 ys[n2 - 1 - m].s] 24)
  generalize W8.alloc (.cells #[.int .i64 ys[n2 - 1 - m].t, .int .i64 ys[n2 - 1 - m].s] 24) = W9 at hN ⊢
  have hone : Row24 W9 (some ⟨W8.heap.size, 0, none⟩) 1 [ys[n2 - 1 - m]] := Row.of_at cl24 (by decide) hN.at_ rfl rfl (by decide)
  have he9 := he8.tr hN.e
  have ho9 := own_ext ho3 hN.e
  conv => whnf
  refine run_append inf24 Try.underlying41 rfl (by decide) ho9 (hone.rd cl24) (onec24 _) (by simp only [maxLen]; omega) (by omega) he9.le ?_
  intro v2 W10 ho10 hg10 _
  rw [← List.flatMap_append] at ho10
  obtain ⟨B4, d4, rfl⟩ := own_form ho10
  have he10 : Ext W7 W10 := ext_row he9 hg10 ho9 (Nat.le_refl _)
  conv => whnf
  intro r hr
  obtain rfl : r = (n2 : Int) - 1 - ((m + 1 : Nat) : Int) := by rw [hr, wrap_id (by omega) (by omega)]; omega
  clear hr
  conv => whnf
  refine ⟨(m + 1, B4, d4), ⟨rfl, rfl, rfl, rfl, trivial⟩, ⟨by dsimp only; omega, he10, ?_⟩, by dsimp only; omega⟩
  dsimp only
  have hml : m < ys.reverse.length := by rw [List.length_reverse]; omega
  have hge : ys.reverse[m] = ys[n2 - 1 - m] := by
    rw [List.getElem_reverse]
    congr 1
    omega
  rw [List.take_succ_eq_append_getElem hml, hge]
  exact ho10
end Go.Proofs.Ytbkmbignincilaa
