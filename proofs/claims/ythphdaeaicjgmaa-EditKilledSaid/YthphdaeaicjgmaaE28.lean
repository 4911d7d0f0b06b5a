/- duetlaw18.EditKilled. (Printed by tools/gen28k.py.) -/
import Derived.Test.YthphdaeaicjgmaaE26
namespace Go.Proofs.Ythphdaeaicjgmaa
open Go Go.VC Go.RowKit
set_option linter.unusedVariables false
set_option linter.unusedSimpArgs false
set_option maxRecDepth 100000

/-! ### The plain law -/
def plain (c : Int) : Prop := 32 ≤ c ∧ c ≤ 126
theorem plain_ok {c : Int} (h : plain c) : runeOk c = true := by unfold plain at h; unfold runeOk; rw [decide_eq_true_eq]; omega
theorem put_yes {s : St} {c : Int} (h : plain c) (hl : s.line.length < 1000) : s.put c = (⟨s.line.take s.at_ ++ c :: s.line.drop s.at_, s.at_ + 1, s.kill, s.acts ++ [(1, (s.at_ : Int), c)]⟩, true) := by
  unfold St.put; rw [if_neg (by rw [plain_ok h]; simp; omega)]
theorem puts_yes : ∀ (l : List Int) (s : St), (∀ c ∈ l, plain c) → s.line.length + l.length ≤ 1000 → s.at_ ≤ s.line.length →
    (s.puts l).line = s.line.take s.at_ ++ l ++ s.line.drop s.at_ ∧ (s.puts l).at_ = s.at_ + l.length
  | [], s, _, _, _ => by simp [St.puts]
  | c :: l, s, h, hl, ha => by
    simp only [List.length_cons] at hl
    have hc := put_yes (s := s) (h c (List.mem_cons_self ..)) (by omega)
    simp only [St.puts, hc, if_true]
    have hlen : (s.line.take s.at_ ++ c :: s.line.drop s.at_).length = s.line.length + 1 := by simp; omega
    obtain ⟨h1, h2⟩ := puts_yes l ⟨s.line.take s.at_ ++ c :: s.line.drop s.at_, s.at_ + 1, s.kill, s.acts ++ [(1, (s.at_ : Int), c)]⟩ (fun x hx => h x (List.mem_cons_of_mem _ hx)) (by dsimp only; rw [hlen]; omega) (by dsimp only; omega)
    rw [h1, h2]
    dsimp only
    have hta : (s.line.take s.at_).length = s.at_ := by simp; omega
    constructor
    · have e1 : (s.line.take s.at_ ++ c :: s.line.drop s.at_).take (s.at_ + 1) = s.line.take s.at_ ++ [c] := by
        rw [show s.line.take s.at_ ++ c :: s.line.drop s.at_ = (s.line.take s.at_ ++ [c]) ++ s.line.drop s.at_ by simp]
        exact List.take_left' (by simp; omega)
      have e2 : (s.line.take s.at_ ++ c :: s.line.drop s.at_).drop (s.at_ + 1) = s.line.drop s.at_ := by
        rw [show s.line.take s.at_ ++ c :: s.line.drop s.at_ = (s.line.take s.at_ ++ [c]) ++ s.line.drop s.at_ by simp]
        exact List.drop_left' (by simp; omega)
      rw [e1, e2]
      simp
    · simp; omega
def keyK (which : Int) : Int := if which = 3 then 3 else 2
def keyR (which : Int) : Int := if which = 0 then 107 else if which = 1 then 117 else if which = 2 then 119 else 100
theorem kill_keys (s : St) (hle : s.at_ ≤ s.line.length) {which : Int} (h0 : 0 ≤ which) (h3 : which < 4) : ∃ f t, f ≤ t ∧ t ≤ s.line.length ∧ doS s (keyK which) (keyR which) = s.killed f t := by
  have hw : which = 0 ∨ which = 1 ∨ which = 2 ∨ which = 3 := by omega
  rcases hw with rfl | rfl | rfl | rfl
  · exact ⟨s.at_, s.line.length, hle, Nat.le_refl _, rfl⟩
  · exact ⟨0, s.at_, Nat.zero_le _, hle, rfl⟩
  · exact ⟨wordBack s.line s.at_, s.at_, wordBack_le _ _, hle, rfl⟩
  · exact ⟨s.at_, wordOn s.line s.at_, wordOn_ge _ _ hle, wordOn_le _ _ hle, rfl⟩
/-- What EditKilled says of what Do does. -/
structure KillLaw (xs : List Int) (ks : List Int) (r : St) : Prop where
  none_ : r.acts.length = 0 → r.line = xs ∧ r.kill = ks
  some_ : r.acts.length ≠ 0 → r.kill.length = r.acts.length ∧ (doS (st0 r.line (r.at_ : Int) r.kill) 2 121).line = xs ∧ (doS (st0 r.line (r.at_ : Int) r.kill) 2 121).at_ = r.at_ + r.acts.length ∧ r.line.length ≤ 1000
theorem kill_law (xs ks : List Int) (at_ : Int) (hx : ∀ c ∈ xs, plain c) (hl : xs.length ≤ 1000) {which : Int} (h0 : 0 ≤ which) (h3 : which < 4) : KillLaw xs ks (doS (st0 xs at_ ks) (keyK which) (keyR which)) := by
  obtain ⟨f, t, hft, ht, e⟩ := kill_keys (st0 xs at_ ks) (st0_le _ _ _) h0 h3
  rw [e]
  have hll : (st0 xs at_ ks).line = xs := rfl
  by_cases hlt : f < t
  · have hg : (gone (st0 xs at_ ks) f t).length = t - f := gone_len _ _ _ ht
    have ek : (st0 xs at_ ks).killed f t = ⟨xs.take f ++ xs.drop t, f, gone (st0 xs at_ ks) f t, (gone (st0 xs at_ ks) f t).map fun c => (2, (f : Int), c)⟩ := by
      unfold St.killed St.cut
      rw [if_pos hlt, if_pos hlt]
      rfl
    rw [ek]
    rw [hll] at ht
    have hlen : (xs.take f ++ xs.drop t).length = xs.length - (t - f) := by simp; omega
    refine ⟨fun h => ?_, fun _ => ⟨by simp, ?_⟩⟩
    · simp only [List.length_map] at h
      omega
    · have hy : doS (st0 (xs.take f ++ xs.drop t) (f : Int) (gone (st0 xs at_ ks) f t)) 2 121 = (st0 (xs.take f ++ xs.drop t) (f : Int) (gone (st0 xs at_ ks) f t)).puts (gone (st0 xs at_ ks) f t) := rfl
      have hat : (st0 (xs.take f ++ xs.drop t) (f : Int) (gone (st0 xs at_ ks) f t)).at_ = f := by
        show heldV (xs.take f ++ xs.drop t).length (f : Int) = f
        exact heldV_id (by omega)
      have hgm : ∀ c ∈ gone (st0 xs at_ ks) f t, plain c := fun c hc => hx c (List.mem_of_mem_take (List.mem_of_mem_drop hc))
      obtain ⟨p1, p2⟩ := puts_yes (gone (st0 xs at_ ks) f t) (st0 (xs.take f ++ xs.drop t) (f : Int) (gone (st0 xs at_ ks) f t)) hgm (by show (xs.take f ++ xs.drop t).length + _ ≤ 1000; omega) (st0_le _ _ _)
      dsimp only
      rw [hy, p1, p2, hat]
      refine ⟨?_, by simp, by omega⟩
      show (xs.take f ++ xs.drop t).take f ++ (xs.take t).drop f ++ (xs.take f ++ xs.drop t).drop f = xs
      rw [List.take_left' (by simp; omega), List.drop_left' (by simp; omega)]
      have e1 : xs.take f ++ (xs.take t).drop f = xs.take t := by
        have := List.take_append_drop f (xs.take t)
        rw [List.take_take, Nat.min_eq_left (by omega)] at this
        exact this
      rw [e1, List.take_append_drop]
  · have ek : (st0 xs at_ ks).killed f t = st0 xs at_ ks := by unfold St.killed; rw [if_neg hlt]
    rw [ek]
    exact ⟨fun _ => ⟨rfl, rfl⟩, fun h => absurd rfl h⟩

/-! ### The walk -/
theorem slice51_4 (w : World) : (Instr.buildSlice 51 4 #[(0, K2 2 107), (1, K2 2 117), (2, K2 2 119), (3, K2 3 100)]).run Try.prog w = .ok (.slice (some ⟨w.heap.size, 0, none⟩) 4 4) (w.alloc (.cells #[.int .i64 2, .int .i64 107, .int .i64 2, .int .i64 117, .int .i64 2, .int .i64 119, .int .i64 3, .int .i64 100] 33)) := by kernel_rfl
theorem keys_at {W : World} {b : Nat} (h : W.heap[b]? = some (.cells #[.int .i64 2, .int .i64 107, .int .i64 2, .int .i64 117, .int .i64 2, .int .i64 119, .int .i64 3, .int .i64 100] 33 (0, 0))) {which : Int} (h0 : 0 ≤ which) (h3 : which < 4) :
    Cells W ((⟨b, 0, none⟩ : Addr).add (which.toNat * 2)) [.int .i64 (keyK which), .int .i64 (keyR which)] := by
  have hw : which = 0 ∨ which = 1 ∨ which = 2 ∨ which = 3 := by omega
  rcases hw with rfl | rfl | rfl | rfl <;> exact lds (off := _) h (add_plain_ _ _ _) rfl

set_option maxHeartbeats 8000000
theorem fn6 (w : World) (A KA : Option Addr) (n c kn kc : Nat) (xs ks : List Int) (at_ which : Int) (h : InRow w A n c xs) (hk : InRow w KA kn kc ks) :
    Ret Try.prog 6 #[.agg #[.slice A n c, .int .i64 at_, .slice KA kn kc], .int .i64 which] w fun v W => Ext w W ∧ v = .bool true := by
  have hl := h.ints.len
  have hkl := hk.ints.len
  have hsm := h.ints.small
  have hksm := hk.ints.small
  refine Ret.of_vc tab_ok Try.func6 rfl Try.ntmps6 rfl (Nat.le_of_ble_eq_true rfl) Try.call6 ?_
  conv => whnf
  intro W1 hW1
  have h2 := hW1.at_
  have he := hW1.e
  generalize w.heap.size = b2 at h2 ⊢
  clear hW1
  conv => whnf
  refine ⟨_, ld h2 rfl rfl, ?_⟩
  conv => whnf
  intro t ht1
  cases t <;> simp only [VB] at ht1 <;> (conv => whnf)
  case true =>
    refine (fn11 _).mono ?_
    rintro _ W4 ⟨e, rfl⟩
    conv => whnf
    exact ⟨he.tr e, rfl⟩
  refine ⟨_, ld h2 rfl rfl, ?_⟩
  conv => whnf
  intro t ht2
  cases t <;> simp only [VB] at ht2 <;> (conv => whnf)
  case true =>
    refine (fn11 _).mono ?_
    rintro _ W4 ⟨e, rfl⟩
    conv => whnf
    exact ⟨he.tr e, rfl⟩
  refine ⟨_, ld h2 rfl rfl, ?_⟩
  conv => whnf
  refine ⟨_, ld h2 rfl rfl, ?_⟩
  conv => whnf
  intro t ht3
  cases t <;> simp only [VB] at ht3 <;> (conv => whnf)
  case true =>
    refine (fn11 _).mono ?_
    rintro _ W4 ⟨e, rfl⟩
    conv => whnf
    exact ⟨he.tr e, rfl⟩
  refine ⟨_, ld h2 rfl rfl, ?_⟩
  conv => whnf
  intro t ht4
  cases t <;> simp only [VB] at ht4 <;> (conv => whnf)
  case true =>
    refine (fn11 _).mono ?_
    rintro _ W4 ⟨e, rfl⟩
    conv => whnf
    exact ⟨he.tr e, rfl⟩
  refine Run.mk' _ _ (build33 2 107 _) ?_
  conv => whnf
  refine Run.mk' _ _ (build33 2 117 _) ?_
  conv => whnf
  refine Run.mk' _ _ (build33 2 119 _) ?_
  conv => whnf
  refine Run.mk' _ _ (build33 3 100 _) ?_
  conv => whnf
  refine Run.mk' _ _ (slice51_4 _) ?_
  have hN := New.mk' W1 (.cells #[.int .i64 2, .int .i64 107, .int .i64 2, .int .i64 117, .int .i64 2, .int .i64 119, .int .i64 3, .int .i64 100] 33)
  generalize W1.alloc (.cells #[.int .i64 2, .int .i64 107, .int .i64 2, .int .i64 117, .int .i64 2, .int .i64 119, .int .i64 3, .int .i64 100] 33) = W2 at hN ⊢
  have h5 := hN.at_
  replace he := he.tr hN.e
  replace h2 := hN.e.at_ h2
  generalize W1.heap.size = b5 at h5 ⊢
  clear hN
  conv => whnf
  intro t ht5
  cases t <;> simp only [VB] at ht5 <;> (conv => whnf)
  case true =>
    refine (fn11 _).mono ?_
    rintro _ W4 ⟨e, rfl⟩
    conv => whnf
    exact ⟨he.tr e, rfl⟩
  intro t ht6
  cases t <;> simp only [VB] at ht6 <;> (conv => whnf)
  case true =>
    refine (fn11 _).mono ?_
    rintro _ W4 ⟨e, rfl⟩
    conv => whnf
    exact ⟨he.tr e, rfl⟩
  have hw0 : 0 ≤ which := by omega
  have hw3 : which < 4 := by omega
  refine VLoop.mk' tab_ok (X := Nat) (fun k => [(1, .int .i64 which), (2, .pointer (some ⟨b2, 0, none⟩)), (5, .slice (some ⟨b5, 0, none⟩) 4 4), (6, .int .i64 k)])
    (fun k W => W = W2 ∧ k ≤ n ∧ ∀ i, i < k → plain (xs.getD i 0)) (fun k _ => n - k) 0 ⟨rfl, rfl, rfl, rfl, trivial⟩ ⟨rfl, Nat.zero_le _, fun i hi => by omega⟩ ?_
  rintro k j W8 ⟨hWe, hkn, hpl⟩
  subst hWe
  conv => whnf
  refine ⟨_, ld h2 rfl rfl, ?_⟩
  conv => whnf
  intro t ht7
  cases t <;> simp only [VB] at ht7 <;> (conv => whnf)
  case true =>
    obtain ⟨ad, hA, hck⟩ := (h.ints.ext he).at_ (k := k) (by omega)
    refine ⟨_, ld h2 rfl rfl, ?_⟩
    conv => whnf
    refine ⟨by omega, by omega, ad, hA, ?_⟩
    conv => whnf
    refine ⟨.int .i64 (xs.getD k 0), by simpa using hck, ?_⟩
    conv => whnf
    intro t ht8
    cases t <;> simp only [VB] at ht8 <;> (conv => whnf)
    case true =>
      refine (fn11 _).mono ?_
      rintro _ W4 ⟨e, rfl⟩
      conv => whnf
      exact ⟨he.tr e, rfl⟩
    refine ⟨_, ld h2 rfl rfl, ?_⟩
    conv => whnf
    refine ⟨by omega, by omega, ad, hA, ?_⟩
    conv => whnf
    refine ⟨.int .i64 (xs.getD k 0), by simpa using hck, ?_⟩
    conv => whnf
    intro t ht9
    cases t <;> simp only [VB] at ht9 <;> (conv => whnf)
    case true =>
      refine (fn11 _).mono ?_
      rintro _ W4 ⟨e, rfl⟩
      conv => whnf
      exact ⟨he.tr e, rfl⟩
    intro r hr
    obtain rfl : r = ((k + 1 : Nat) : Int) := by rw [hr]; exact wrap_nat (n := n) (by omega) (by omega)
    conv => whnf
    refine ⟨k + 1, ⟨rfl, rfl, rfl, rfl, trivial⟩, ⟨rfl, by omega, fun i hi => ?_⟩, by omega⟩
    by_cases e : i = k
    · subst e; exact ⟨by omega, by omega⟩
    · exact hpl i (by omega)
  obtain rfl : k = n := by omega
  have hx : ∀ c ∈ xs, plain c := fun c hc => by
    obtain ⟨i, hi, rfl⟩ := List.getElem_of_mem hc
    have := hpl i (by omega)
    rwa [List.getD_eq_getElem?_getD, List.getElem?_eq_getElem hi] at this
  clear hpl
  have hlaw := kill_law xs ks at_ hx (by omega) hw0 hw3
  have hdl := doS_acts_le (st0 xs at_ ks) (keyK which) (keyR which) (st0_le _ _ _)
  have hsl : (st0 xs at_ ks).line.length = k := hl
  have hskl : (st0 xs at_ ks).kill.length = kn := hkl
  have hsa : (st0 xs at_ ks).acts.length = 0 := rfl
  generalize hr : doS (st0 xs at_ ks) (keyK which) (keyR which) = r at hdl hlaw ⊢
  refine VDraw.cut (X := Nat × Value × Value × Value) (fun x => [(2, .pointer (some ⟨b2, 0, none⟩)), (7, .pointer (some ⟨x.1, 0, none⟩)), (8, x.2.2.2)])
    (fun x W => Ext W8 W ∧ W.heap[x.1]? = some (.cells #[x.2.1, .int .i64 r.at_, x.2.2.1] 29 (0, 0)) ∧ ∃ base, Done W base r x.2.1 x.2.2.1 x.2.2.2) ?_ ?_
  · skip
    refine VDraw.mk' tab_ok (Ext W8) [16] (.take 0 <| .take 1 <| .take 2 <| .take 3 <| .take 4 <| .take 5 <| .take 6 <| .take 7 <| .take 8 <| .take 9 <| .take 10 <| .alt [11, 15] (fun x => bif Nat.beq x 11 then (.take 12 <| .take 13 <| .take 14 <| .one 15 <| .one 16 <| .take 17 <| .done) else (.one 11 <| .take 12 <| .take 13 <| .take 14 <| .one 16 <| .take 17 <| .done))) mixed (by kernel_rfl) (by kernel_rfl) (Ext.drew _) ?_
    have eS := Ext.drew W8
    generalize W8.drew = V at eS ⊢
    conv => whnf
    refine ⟨_, fun w' hs => ld (hs.at_ h2) rfl rfl, ?_⟩
    conv => whnf
    refine ⟨_, fun w' hs => ld (hs.at_ h2) rfl rfl, ?_⟩
    conv => whnf
    refine ⟨_, fun w' hs => ld (hs.at_ h2) rfl rfl, ?_⟩
    conv => whnf
    refine ⟨_, fun w' => build29 A KA k c kn kc at_ w', ?_⟩
    conv => whnf
    refine ⟨hw0, hw3, _, rfl, ?_⟩
    conv => whnf
    refine ⟨[.int .i64 (keyK which), .int .i64 (keyR which)], rfl, fun w' hs => keys_at (hs.at_ h5) hw0 hw3, ?_⟩
    conv => whnf
    refine ⟨?_, ?_⟩
    · refine (fn12 V A KA k c kn kc xs ks at_ (keyK which) (keyR which) ((h.ints.ext he).ext eS) ((hk.ints.ext he).ext eS) (by omega) (by omega)).mono ?_
      rintro _ X1 ⟨e, L, K, T, rfl, hD⟩
      rw [hr] at hD ⊢
      replace eS := eS.tr e
      clear e
      obtain ⟨LA, lc, rfl⟩ := own_form hD.line
      obtain ⟨KA', kc', rfl⟩ := own_form hD.kill
      conv => whnf
      refine ⟨eS, ?_⟩
      conv => whnf
      intro X2 hX
      have hlt6 := eS.le
      have h6 := hX.at_
      replace hD := hD.ext hX.e
      replace eS := eS.tr hX.e
      generalize X1.heap.size = b6 at h6 hlt6 ⊢
      clear hX
      conv => whnf
      refine ⟨eS, ?_⟩
      conv => whnf
      refine ⟨b6, 0, _, _, rfl, h6, Nat.le_of_ble_eq_true rfl, rfl, rfl, fun X3 hX => ?_⟩
      have hD2 : Done X3 _ _ _ _ _ := ⟨own_put hD.line hX h6 (by decide), own_put hD.kill hX h6 (by decide), own_put hD.acts hX h6 (by decide), hD.le⟩
      have eS2 := hX.e eS hlt6
      have h62 := hX.at_
      conv => whnf
      exact ⟨rfl, (b6, .slice LA r.line.length lc, .slice KA' r.kill.length kc', T), ⟨rfl, rfl, rfl, trivial⟩, eS2, h62, _, hD2⟩
    · intro X1 hX
      have hlt6 := eS.le
      have h6 := hX.at_
      replace eS := eS.tr hX.e
      generalize V.heap.size = b6 at h6 hlt6 ⊢
      clear hX
      conv => whnf
      refine ⟨eS, ?_⟩
      conv => whnf
      refine (fn12 X1 A KA k c kn kc xs ks at_ (keyK which) (keyR which) ((h.ints.ext he).ext eS) ((hk.ints.ext he).ext eS) (by omega) (by omega)).mono ?_
      rintro _ X2 ⟨e, L, K, T, rfl, hD⟩
      rw [hr] at hD ⊢
      replace eS := eS.tr e
      replace h6 := e.at_ h6
      clear e
      obtain ⟨LA, lc, rfl⟩ := own_form hD.line
      obtain ⟨KA', kc', rfl⟩ := own_form hD.kill
      conv => whnf
      refine ⟨eS, ?_⟩
      conv => whnf
      refine ⟨b6, 0, _, _, rfl, h6, Nat.le_of_ble_eq_true rfl, rfl, rfl, fun X3 hX => ?_⟩
      have hD2 : Done X3 _ _ _ _ _ := ⟨own_put hD.line hX h6 (by decide), own_put hD.kill hX h6 (by decide), own_put hD.acts hX h6 (by decide), hD.le⟩
      have eS2 := hX.e eS hlt6
      have h62 := hX.at_
      conv => whnf
      exact ⟨rfl, (b6, .slice LA r.line.length lc, .slice KA' r.kill.length kc', T), ⟨rfl, rfl, rfl, trivial⟩, eS2, h62, _, hD2⟩
  · rintro ⟨b6, L, K, T⟩ j V ⟨eS, h6, base, hD⟩
    dsimp only at h6 hD
    have hrle := hD.le
    obtain ⟨A1, n1, c1, KA1, kn1, kc1, TA1, m1, tc1, rfl, rfl, rfl, hn1, hkn1, hm1, ia, ka, ra, _⟩ := hD.row
    clear hD
    replace h2 := eS.at_ h2
    replace he := he.tr eS
    clear eS
    conv => whnf
    intro t ht8
    cases t <;> simp only [VB] at ht8 <;> (conv => whnf)
    case true =>
      obtain ⟨q1, q2⟩ := hlaw.none_ (by omega)
      refine ⟨_, ld h6 rfl rfl, ?_⟩
      conv => whnf
      refine ⟨_, ld h2 rfl rfl, ?_⟩
      conv => whnf
      refine (fn21 V A1 A n1 c1 k c r.line xs ia (h.ints.ext he)).mono ?_
      rintro _ V2 ⟨e, rfl⟩
      rw [decide_eq_true q1]
      replace h2 := e.at_ h2
      replace h6 := e.at_ h6
      replace he := he.tr e
      replace ka := ka.ext e
      clear e
      conv => whnf
      refine ⟨_, ld h6 rfl rfl, ?_⟩
      conv => whnf
      refine ⟨_, ld h2 rfl rfl, ?_⟩
      conv => whnf
      refine (fn21 V2 KA1 KA kn1 kc1 kn kc r.kill ks ka (hk.ints.ext he)).mono ?_
      rintro _ V3 ⟨e, rfl⟩
      rw [decide_eq_true q2]
      replace he := he.tr e
      conv => whnf
      refine (fn11 _).mono ?_
      rintro _ V9 ⟨e, rfl⟩
      conv => whnf
      exact ⟨he.tr e, rfl⟩
    obtain ⟨q1, q2, q3, q4⟩ := hlaw.some_ (by omega)
    refine ⟨[.slice A1 n1 c1, .int .i64 r.at_, .slice KA1 kn1 kc1], rfl, lds h6 rfl rfl, ?_⟩
    conv => whnf
    refine Run.mk' _ _ (build33 2 121 _) ?_
    conv => whnf
    refine (fn12 V A1 KA1 n1 c1 kn1 kc1 _ _ (r.at_ : Int) 2 121 ia ka (by omega) (by omega)).mono ?_
    rintro _ V2 ⟨e, L2, K2', T2, rfl, hD⟩
    generalize doS (st0 r.line (r.at_ : Int) r.kill) 2 121 = r2 at hD q2 q3 ⊢
    obtain ⟨A2, n2, c2, KA2, kn2, kc2, TA2, m2, tc2, rfl, rfl, rfl, hn2, hkn2, hm2, ib, kb, rb, _⟩ := hD.row
    clear hD
    replace h2 := e.at_ h2
    replace h6 := e.at_ h6
    replace he := he.tr e
    clear e
    conv => whnf
    intro V3 hV3
    conv => whnf
    refine ⟨V2.heap.size, 0, _, _, rfl, hV3.at_, Nat.le_of_ble_eq_true rfl, rfl, rfl, fun V4 hV4 => ?_⟩
    have h9 : V4.heap[V2.heap.size]? = some (.cells #[.slice A2 n2 c2, .int .i64 r2.at_, .slice KA2 kn2 kc2] 29 (0, 0)) := hV4.at_
    have e := hV4.e hV3.e (Nat.le_refl _)
    generalize V2.heap.size = b9 at h9 ⊢
    clear hV3 hV4
    replace h2 := e.at_ h2
    replace h6 := e.at_ h6
    replace he := he.tr e
    replace ib := ib.ext e
    clear e
    conv => whnf
    refine ⟨_, ld h9 rfl rfl, ?_⟩
    conv => whnf
    refine ⟨_, ld h2 rfl rfl, ?_⟩
    conv => whnf
    refine (fn21 V4 A2 A n2 c2 k c r2.line xs ib (h.ints.ext he)).mono ?_
    rintro _ V5 ⟨e, rfl⟩
    rw [decide_eq_true q2]
    replace h6 := e.at_ h6
    replace h9 := e.at_ h9
    replace he := he.tr e
    clear e
    conv => whnf
    refine ⟨_, ld h6 rfl rfl, ?_⟩
    conv => whnf
    intro t ht
    obtain rfl : t = true := ht.yes (by omega)
    clear ht
    conv => whnf
    refine ⟨_, ld h9 rfl rfl, ?_⟩
    conv => whnf
    refine ⟨_, ld h6 rfl rfl, ?_⟩
    conv => whnf
    intro q hq
    rw [wrap_id (by omega) (by omega)] at hq
    conv => whnf
    intro t ht
    obtain rfl : t = true := ht.yes (by omega)
    clear ht
    conv => whnf
    refine (fn11 _).mono ?_
    rintro _ V9 ⟨e, rfl⟩
    conv => whnf
    exact ⟨he.tr e, rfl⟩
end Go.Proofs.Ythphdaeaicjgmaa
