/- duetlaw18.EditDoes. -/
import Derived.Test.YthphdaeaicjgmaaE22
namespace Go.Proofs.Ythphdaeaicjgmaa
open Go Go.VC Go.RowKit
set_option linter.unusedVariables false
set_option linter.unusedSimpArgs false
set_option maxRecDepth 100000

theorem build29c (a : Int) (w : World) : (Instr.build 29 #[(1, .int .i64 a)]).run Try.prog w = .ok (.agg #[.slice none 0 0, .int .i64 a, .slice none 0 0]) w := by kernel_rfl
theorem DoneR.row {w : World} {base : Nat} {s : St} {L K T : Value} (h : DoneR w base s L K T) : ∃ A n c KA kn kc TA m tc, L = .slice A n c ∧ K = .slice KA kn kc ∧ T = .slice TA m tc ∧ n = s.line.length ∧ kn = s.kill.length ∧ m = s.acts.length ∧
    Ints w A n s.line ∧ Ints w KA kn s.kill ∧ Rd w 3 TA m (acells s.acts) := by
  obtain ⟨A, c, rfl⟩ := own_form h.line
  obtain ⟨KA, kc, rfl⟩ := own_form h.kill
  obtain ⟨TA, tc, rfl⟩ := own_form h.acts
  exact ⟨A, _, c, KA, _, kc, TA, _, tc, rfl, rfl, rfl, rfl, rfl, rfl, own_ints h.line, own_ints h.kill, own_rd h.acts⟩
/-- A slice of numbers that came in. -/
structure InRow (w : World) (A : Option Addr) (n c : Nat) (xs : List Int) : Prop where
  ints : Ints w A n xs
  le : n ≤ c
  cap : c ≤ 9223372036854775807
  wf : wfL xs
theorem cut_acts_le (s : St) (f t : Nat) (ht : t ≤ s.line.length) : (s.cut f t).acts.length ≤ s.acts.length + s.line.length := by
  unfold St.cut
  split
  · simp [gone_len s f t ht]; omega
  · omega
theorem killed_acts_le (s : St) (f t : Nat) (ht : t ≤ s.line.length) : (s.killed f t).acts.length ≤ s.acts.length + s.line.length := by
  unfold St.killed
  split
  · exact cut_acts_le s f t ht
  · omega
theorem puts_acts_le : ∀ (l : List Int) (s : St), (s.puts l).acts.length ≤ s.acts.length + l.length
  | [], s => by simp [St.puts]
  | c :: l, s => by
    simp only [St.puts]
    split
    · have h1 := puts_acts_le l (s.put c).1
      have h2 := put_acts s c
      simp only [List.length_cons]; omega
    · omega
theorem swap_acts_le (s : St) : s.swap.acts.length ≤ s.acts.length + s.line.length + 1 := by
  unfold St.swap
  split
  · omega
  · split
    · omega
    · refine Nat.le_trans (put_acts _ _) ?_
      have := cut_acts_le s (min s.at_ (s.line.length - 1) - 1) (min s.at_ (s.line.length - 1)) (by omega)
      dsimp only; omega
theorem wayG_acts_le (f : Nat) (s : St) (hle : s.at_ ≤ s.line.length) : (wayG f s).acts.length ≤ s.acts.length + s.line.length + s.kill.length + 1 := by
  unfold wayG
  split
  · simp only [St.home]; omega
  · simp only [St.end']; omega
  · simp only [St.left]; omega
  · simp only [St.right]; omega
  · have := cut_acts_le s (s.at_ - 1) s.at_ hle; simp only [St.rub]; omega
  · have := cut_acts_le s s.at_ (min (s.at_ + 1) s.line.length) (by omega); simp only [St.del]; omega
  · have := killed_acts_le s s.at_ s.line.length (by omega); simp only [St.killOn]; omega
  · have := killed_acts_le s 0 s.at_ (by omega); simp only [St.killBack]; omega
  · have := killed_acts_le s (wordBack s.line s.at_) s.at_ (by omega); simp only [St.killWord]; omega
  · have := puts_acts_le s.kill s; simp only [St.yank]; omega
  · have := swap_acts_le s; omega
  · simp only [St.wback]; omega
  · simp only [St.won]; omega
  · have := killed_acts_le s s.at_ (wordOn s.line s.at_) (wordOn_le _ _ hle); simp only [St.killNext]; omega
  · omega
theorem doS_acts_le (s : St) (kind rune : Int) (hle : s.at_ ≤ s.line.length) : (doS s kind rune).acts.length ≤ s.acts.length + s.line.length + s.kill.length + 1 := by
  unfold doS
  split
  · have := put_acts s rune; omega
  · split
    · exact wayG_acts_le _ s hle
    · omega
theorem st0_le (xs : List Int) (at_ : Int) (ks : List Int) : (st0 xs at_ ks).at_ ≤ (st0 xs at_ ks).line.length := by simp only [st0, heldV]; omega

set_option maxHeartbeats 8000000
theorem fn3 (w : World) (A KA : Option Addr) (n c kn kc : Nat) (xs ks : List Int) (at_ kind rune : Int) (h : InRow w A n c xs) (hk : InRow w KA kn kc ks) :
    Ret Try.prog 3 #[.agg #[.slice A n c, .int .i64 at_, .slice KA kn kc], .agg #[.int .i64 kind, .int .i64 rune]] w fun v W => Ext w W ∧ v = .bool true := by
  have hl := h.ints.len
  have hkl := hk.ints.len
  have hsm := h.ints.small
  have hksm := hk.ints.small
  refine Ret.of_vc tab_ok Try.func3 rfl Try.ntmps3 rfl (Nat.le_of_ble_eq_true rfl) Try.call3 ?_
  conv => whnf
  intro W1 hW1
  conv => whnf
  intro W2 hW2
  have h2 := hW2.e.at_ hW1.at_
  have h3 := hW2.at_
  have he := hW1.e.tr hW2.e
  generalize w.heap.size = b2 at h2 ⊢
  generalize W1.heap.size = b3 at h3 ⊢
  clear hW1 hW2
  conv => whnf
  refine ⟨[.slice A n c, .int .i64 at_, .slice KA kn kc], rfl, lds h2 rfl rfl, ?_⟩
  conv => whnf
  refine (fn10 _ A KA n c kn kc at_ hsm hksm).mono ?_
  rintro _ W3 ⟨e, rfl⟩
  replace h2 := e.at_ h2
  replace h3 := e.at_ h3
  replace he := he.tr e
  clear e
  by_cases hf : n ≤ 1100 ∧ kn ≤ 1100
  case neg =>
    rw [decide_eq_false hf]
    conv => whnf
    refine (fn11 _).mono ?_
    rintro _ W4 ⟨e, rfl⟩
    conv => whnf
    exact ⟨he.tr e, rfl⟩
  rw [decide_eq_true hf]
  conv => whnf
  refine ⟨_, ld h2 rfl rfl, ?_⟩
  conv => whnf
  refine Run.mk' _ _ (build29c at_ _) ?_
  conv => whnf
  intro V1 hV1
  conv => whnf
  refine ⟨W3.heap.size, 0, _, _, rfl, hV1.at_, Nat.le_of_ble_eq_true rfl, rfl, rfl, fun W4 hW4 => ?_⟩
  have h5 : W4.heap[W3.heap.size]? = some (.cells #[.slice none 0 0, .int .i64 at_, .slice none 0 0] 29 (0, 0)) := hW4.at_
  have e := hW4.e hV1.e (Nat.le_refl _)
  have hb5 : w.heap.size ≤ W3.heap.size := he.le
  have hne2 : b2 ≠ W3.heap.size := by have := at_lt h2; omega
  have hne3 : b3 ≠ W3.heap.size := by have := at_lt h3; omega
  generalize W3.heap.size = b5 at h5 hb5 hne2 hne3 ⊢
  replace h2 := e.at_ h2
  replace h3 := e.at_ h3
  replace he := he.tr e
  clear e hV1 hW4
  conv => whnf
  refine ⟨_, ld h5 rfl rfl, ?_⟩
  conv => whnf
  refine ⟨_, ld h2 rfl rfl, ?_⟩
  conv => whnf
  refine run_append inf3 Try.underlying22 rfl (by decide) (own_nil_ _ w.heap.size 3 1) (h.ints.ext he).rd (one_ints _) (by simp only [maxLen]; omega) (by omega) he.le ?_
  intro v1 W5 hown1 hg1 _
  have e := ext_row (Ext.refl W4) hg1 (own_nil_ _ W4.heap.size 3 1) (Nat.le_refl _)
  simp only [Nat.zero_add, List.nil_append] at hown1
  obtain ⟨R1, r1, rfl⟩ := own_form hown1
  replace h2 := e.at_ h2
  replace h3 := e.at_ h3
  replace h5 := e.at_ h5
  replace he := he.tr e
  clear e hg1
  conv => whnf
  refine ⟨b5, 0, _, _, rfl, h5, Nat.le_of_ble_eq_true rfl, rfl, rfl, fun W6 hW6 => ?_⟩
  have h56 : W6.heap[b5]? = some (.cells #[.slice R1 n r1, .int .i64 at_, .slice none 0 0] 29 (0, 0)) := hW6.at_
  replace he := hW6.e he hb5
  replace h2 := hW6.keep h2 hne2
  replace h3 := hW6.keep h3 hne3
  have hown6 := own_put hown1 hW6 h5 (by decide)
  clear hW6 h5 hown1
  conv => whnf
  refine ⟨_, ld h56 rfl rfl, ?_⟩
  conv => whnf
  refine ⟨_, ld h2 rfl rfl, ?_⟩
  conv => whnf
  refine run_append inf3 Try.underlying22 rfl (by decide) (own_nil_ _ w.heap.size 3 1) (hk.ints.ext he).rd (one_ints _) (by simp only [maxLen]; omega) (by omega) he.le ?_
  intro v2 W7 hown2 hg2 _
  have e := ext_row (Ext.refl W6) hg2 (own_nil_ _ W6.heap.size 3 1) (Nat.le_refl _)
  simp only [Nat.zero_add, List.nil_append] at hown2
  obtain ⟨R2, r2, rfl⟩ := own_form hown2
  replace h2 := e.at_ h2
  replace h3 := e.at_ h3
  replace h56 := e.at_ h56
  replace he := he.tr e
  replace hown6 := own_ext hown6 e
  clear e hg2
  conv => whnf
  refine ⟨b5, 2, _, _, rfl, h56, Nat.le_of_ble_eq_true rfl, rfl, rfl, fun W8 hW8 => ?_⟩
  have h5 : W8.heap[b5]? = some (.cells #[.slice R1 n r1, .int .i64 at_, .slice R2 kn r2] 29 (0, 0)) := hW8.at_
  replace he := hW8.e he hb5
  replace h2 := hW8.keep h2 hne2
  replace h3 := hW8.keep h3 hne3
  have i1 := own_ints (own_put hown6 hW8 h56 (by decide))
  have i2 := own_ints (own_put hown2 hW8 h56 (by decide))
  clear hW8 h56 hown6 hown2 hne2 hne3 hb5
  have hsl : (st0 xs at_ ks).line.length = n := hl
  have hskl : (st0 xs at_ ks).kill.length = kn := hkl
  have hdl := doS_acts_le (st0 xs at_ ks) kind rune (st0_le _ _ _)
  have hsa : (st0 xs at_ ks).acts.length = 0 := rfl
  have heq : doR (st0 xs at_ ks) kind rune = doS (st0 xs at_ ks) kind rune := doR_eq h.wf (st0_le _ _ _)
  generalize hr : doS (st0 xs at_ ks) kind rune = r at hdl heq ⊢
  conv => whnf
  refine VDraw.cut (X := Nat × Value × Value × Value) (fun x => [(2, .pointer (some ⟨b2, 0, none⟩)), (3, .pointer (some ⟨b3, 0, none⟩)), (5, .pointer (some ⟨b5, 0, none⟩)), (6, .pointer (some ⟨x.1, 0, none⟩)), (7, x.2.2.2)])
    (fun x W => Ext W8 W ∧ W.heap[x.1]? = some (.cells #[x.2.1, .int .i64 r.at_, x.2.2.1] 29 (0, 0)) ∧ ∃ base, Done W base r x.2.1 x.2.2.1 x.2.2.2) ?_ ?_
  -- BEGIN PRINTED
  · skip
    refine VDraw.mk' tab_ok (Ext W8) [8] (.take 0 <| .take 1 <| .alt [2, 7] (fun x => bif Nat.beq x 2 then (.alt [3, 7] (fun x => bif Nat.beq x 3 then (.take 4 <| .take 5 <| .take 6 <| .one 7 <| .one 8 <| .take 9 <| .done) else (.one 3 <| .take 4 <| .take 5 <| .take 6 <| .one 8 <| .take 9 <| .done))) else (.one 2 <| .one 3 <| .take 4 <| .take 5 <| .take 6 <| .one 8 <| .take 9 <| .done))) mixed (by kernel_rfl) (by kernel_rfl) (Ext.drew _) ?_
    have eS := Ext.drew W8
    generalize W8.drew = V at eS ⊢
    conv => whnf
    refine ⟨[.slice R1 n r1, .int .i64 at_, .slice R2 kn r2], rfl, fun w' hs => lds (hs.at_ h5) rfl rfl, ?_⟩
    conv => whnf
    refine ⟨[.int .i64 kind, .int .i64 rune], rfl, fun w' hs => lds (hs.at_ h3) rfl rfl, ?_⟩
    conv => whnf
    refine ⟨?_, ?_⟩
    · refine (fn13 _ kind rune).mono ?_
      rintro _ X1 ⟨e, rfl⟩
      replace eS := eS.tr e
      clear e
      conv => whnf
      refine ⟨eS, ?_⟩
      conv => whnf
      refine ⟨?_, ?_⟩
      · refine (fn12 X1 R1 R2 n r1 kn r2 xs ks at_ kind rune (i1.ext eS) (i2.ext eS) (by omega) (by omega)).mono ?_
        rintro _ X2 ⟨e, L, K, T, rfl, hD⟩
        rw [hr] at hD ⊢
        replace eS := eS.tr e
        clear e
        obtain ⟨LA, lc, rfl⟩ := own_form hD.line
        obtain ⟨KA', kc', rfl⟩ := own_form hD.kill
        conv => whnf
        refine ⟨eS, ?_⟩
        conv => whnf
        intro X3 hX
        have hlt6 := eS.le
        have h6 := hX.at_
        replace hD := hD.ext hX.e
        replace eS := eS.tr hX.e
        generalize X2.heap.size = b6 at h6 hlt6 ⊢
        clear hX
        conv => whnf
        refine ⟨eS, ?_⟩
        conv => whnf
        refine ⟨b6, 0, _, _, rfl, h6, Nat.le_of_ble_eq_true rfl, rfl, rfl, fun X4 hX => ?_⟩
        have hD2 : Done X4 _ _ _ _ _ := ⟨own_put hD.line hX h6 (by decide), own_put hD.kill hX h6 (by decide), own_put hD.acts hX h6 (by decide), hD.le⟩
        have eS2 := hX.e eS hlt6
        have h62 := hX.at_
        conv => whnf
        exact ⟨rfl, (b6, .slice LA r.line.length lc, .slice KA' r.kill.length kc', T), ⟨rfl, rfl, rfl, rfl, rfl, trivial⟩, eS2, h62, _, hD2⟩
      · intro X2 hX
        have hlt6 := eS.le
        have h6 := hX.at_
        replace eS := eS.tr hX.e
        generalize X1.heap.size = b6 at h6 hlt6 ⊢
        clear hX
        conv => whnf
        refine ⟨eS, ?_⟩
        conv => whnf
        refine (fn12 X2 R1 R2 n r1 kn r2 xs ks at_ kind rune (i1.ext eS) (i2.ext eS) (by omega) (by omega)).mono ?_
        rintro _ X3 ⟨e, L, K, T, rfl, hD⟩
        rw [hr] at hD ⊢
        replace eS := eS.tr e
        replace h6 := e.at_ h6
        clear e
        obtain ⟨LA, lc, rfl⟩ := own_form hD.line
        obtain ⟨KA', kc', rfl⟩ := own_form hD.kill
        conv => whnf
        refine ⟨eS, ?_⟩
        conv => whnf
        refine ⟨b6, 0, _, _, rfl, h6, Nat.le_of_ble_eq_true rfl, rfl, rfl, fun X4 hX => ?_⟩
        have hD2 : Done X4 _ _ _ _ _ := ⟨own_put hD.line hX h6 (by decide), own_put hD.kill hX h6 (by decide), own_put hD.acts hX h6 (by decide), hD.le⟩
        have eS2 := hX.e eS hlt6
        have h62 := hX.at_
        conv => whnf
        exact ⟨rfl, (b6, .slice LA r.line.length lc, .slice KA' r.kill.length kc', T), ⟨rfl, rfl, rfl, rfl, rfl, trivial⟩, eS2, h62, _, hD2⟩
    · intro X1 hX
      have hlt6 := eS.le
      have h6 := hX.at_
      replace eS := eS.tr hX.e
      generalize V.heap.size = b6 at h6 hlt6 ⊢
      clear hX
      conv => whnf
      refine ⟨eS, ?_⟩
      conv => whnf
      refine (fn13 _ kind rune).mono ?_
      rintro _ X2 ⟨e, rfl⟩
      replace eS := eS.tr e
      replace h6 := e.at_ h6
      clear e
      conv => whnf
      refine ⟨eS, ?_⟩
      conv => whnf
      refine (fn12 X2 R1 R2 n r1 kn r2 xs ks at_ kind rune (i1.ext eS) (i2.ext eS) (by omega) (by omega)).mono ?_
      rintro _ X3 ⟨e, L, K, T, rfl, hD⟩
      rw [hr] at hD ⊢
      replace eS := eS.tr e
      replace h6 := e.at_ h6
      clear e
      obtain ⟨LA, lc, rfl⟩ := own_form hD.line
      obtain ⟨KA', kc', rfl⟩ := own_form hD.kill
      conv => whnf
      refine ⟨eS, ?_⟩
      conv => whnf
      refine ⟨b6, 0, _, _, rfl, h6, Nat.le_of_ble_eq_true rfl, rfl, rfl, fun X4 hX => ?_⟩
      have hD2 : Done X4 _ _ _ _ _ := ⟨own_put hD.line hX h6 (by decide), own_put hD.kill hX h6 (by decide), own_put hD.acts hX h6 (by decide), hD.le⟩
      have eS2 := hX.e eS hlt6
      have h62 := hX.at_
      conv => whnf
      exact ⟨rfl, (b6, .slice LA r.line.length lc, .slice KA' r.kill.length kc', T), ⟨rfl, rfl, rfl, rfl, rfl, trivial⟩, eS2, h62, _, hD2⟩
  · rintro ⟨b6, L, K, T⟩ j V ⟨eS, h6, base, hD⟩
    dsimp only at h6 hD
    obtain ⟨A1, n1, c1, KA1, kn1, kc1, TA1, m1, tc1, rfl, rfl, rfl, hn1, hkn1, hm1, ia, ka, ra, _⟩ := hD.row
    clear hD
    replace h2 := eS.at_ h2
    replace h3 := eS.at_ h3
    replace h5 := eS.at_ h5
    replace he := he.tr eS
    replace i1 := i1.ext eS
    replace i2 := i2.ext eS
    clear eS
    conv => whnf
    refine ⟨[.slice A n c, .int .i64 at_, .slice KA kn kc], rfl, lds h2 rfl rfl, ?_⟩
    conv => whnf
    refine ⟨[.int .i64 kind, .int .i64 rune], rfl, lds h3 rfl rfl, ?_⟩
    conv => whnf
    refine (fn14 _ A KA n c kn kc xs ks at_ kind rune (h.ints.ext he) (hk.ints.ext he) h.le h.cap hk.le hk.cap (by omega) (by omega)).mono ?_
    rintro _ V2 ⟨e, L2, K2, T2, rfl, hD⟩
    rw [heq] at hD ⊢
    obtain ⟨A2, n2, c2, KA2, kn2, kc2, TA2, m2, tc2, rfl, rfl, rfl, hn2, hkn2, hm2, ib, kb, rb⟩ := hD.row
    clear hD
    replace h2 := e.at_ h2
    replace h5 := e.at_ h5
    replace h6 := e.at_ h6
    replace he := he.tr e
    replace i1 := i1.ext e
    replace i2 := i2.ext e
    replace ia := ia.ext e
    replace ka := ka.ext e
    replace ra := ra.ext e
    clear e
    conv => whnf
    intro V3 hV3
    conv => whnf
    refine ⟨V2.heap.size, 0, _, _, rfl, hV3.at_, Nat.le_of_ble_eq_true rfl, rfl, rfl, fun V4 hV4 => ?_⟩
    have h8 : V4.heap[V2.heap.size]? = some (.cells #[.slice A2 n2 c2, .int .i64 r.at_, .slice KA2 kn2 kc2] 24 (0, 0)) := hV4.at_
    have e := hV4.e hV3.e (Nat.le_refl _)
    generalize V2.heap.size = b8 at h8 ⊢
    clear hV3 hV4
    replace h2 := e.at_ h2
    replace h5 := e.at_ h5
    replace h6 := e.at_ h6
    replace he := he.tr e
    replace i1 := i1.ext e
    replace i2 := i2.ext e
    replace ia := ia.ext e
    replace ka := ka.ext e
    replace ra := ra.ext e
    replace ib := ib.ext e
    replace kb := kb.ext e
    replace rb := rb.ext e
    clear e
    conv => whnf
    refine ⟨[.slice A1 n1 c1, .int .i64 r.at_, .slice KA1 kn1 kc1], rfl, lds h6 rfl rfl, ?_⟩
    conv => whnf
    refine ⟨[.slice A2 n2 c2, .int .i64 r.at_, .slice KA2 kn2 kc2], rfl, lds h8 rfl rfl, ?_⟩
    conv => whnf
    refine (fn15 V4 A1 KA1 A2 KA2 n1 c1 kn1 kc1 n2 c2 kn2 kc2 _ _ _ _ r.at_ r.at_ ia ka ib kb).mono ?_
    rintro _ V5 ⟨e, rfl⟩
    rw [decide_eq_true ⟨rfl, rfl, rfl⟩]
    replace h2 := e.at_ h2
    replace h5 := e.at_ h5
    replace he := he.tr e
    replace i1 := i1.ext e
    replace i2 := i2.ext e
    replace ra := ra.ext e
    replace rb := rb.ext e
    clear e
    conv => whnf
    refine (fn17 V5 TA1 m1 tc1 _ ra (by omega)).mono ?_
    rintro v V6 ⟨e, hv⟩
    obtain ⟨TA3, tc3, rfl⟩ := own_form hv
    have rc := own_rd hv
    clear hv
    replace h2 := e.at_ h2
    replace h5 := e.at_ h5
    replace he := he.tr e
    replace i1 := i1.ext e
    replace i2 := i2.ext e
    replace rb := rb.ext e
    clear e
    conv => whnf
    refine (fn16 V6 TA3 TA2 m1 tc3 m2 tc2 _ _ rc rb (by omega)).mono ?_
    rintro v V7 ⟨e, rfl⟩
    rw [decide_eq_true rfl]
    replace h2 := e.at_ h2
    replace h5 := e.at_ h5
    replace he := he.tr e
    replace i1 := i1.ext e
    replace i2 := i2.ext e
    clear e
    conv => whnf
    refine ⟨[.slice R1 n r1, .int .i64 at_, .slice R2 kn r2], rfl, lds h5 rfl rfl, ?_⟩
    conv => whnf
    refine ⟨[.slice A n c, .int .i64 at_, .slice KA kn kc], rfl, lds h2 rfl rfl, ?_⟩
    conv => whnf
    refine (fn15 V7 R1 R2 A KA n r1 kn r2 n c kn kc xs ks xs ks at_ at_ i1 i2 (h.ints.ext he) (hk.ints.ext he)).mono ?_
    rintro _ V8 ⟨e, rfl⟩
    rw [decide_eq_true ⟨rfl, rfl, rfl⟩]
    replace he := he.tr e
    conv => whnf
    refine (fn11 _).mono ?_
    rintro _ V9 ⟨e, rfl⟩
    conv => whnf
    exact ⟨he.tr e, rfl⟩
end Go.Proofs.Ythphdaeaicjgmaa
