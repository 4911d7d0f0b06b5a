/- duetlaw18.EditTyped. (Printed by tools/gen30.py.) -/
import Derived.Test.YthphdaeaicjgmaaE28
namespace Go.Proofs.Ythphdaeaicjgmaa
open Go Go.VC Go.RowKit
set_option linter.unusedVariables false
set_option linter.unusedSimpArgs false
set_option maxRecDepth 100000

/-! ### The plain law -/
/-- The line while runes stand in it that were typed. -/
def typedL (xs ts : List Int) (a : Nat) : List Int := xs.take a ++ ts ++ xs.drop a
theorem typed_len (xs ts : List Int) (a : Nat) (ha : a ≤ xs.length) : (typedL xs ts a).length = xs.length + ts.length := by simp [typedL]; omega
theorem type_one (xs ts ks : List Int) (a : Nat) (c : Int) (ha : a ≤ xs.length) (hc : plain c) (hl : xs.length + ts.length < 1000) :
    (doS (st0 (typedL xs ts a) ((a + ts.length : Nat) : Int) ks) 1 c).line = typedL xs (ts ++ [c]) a ∧ (doS (st0 (typedL xs ts a) ((a + ts.length : Nat) : Int) ks) 1 c).at_ = a + ts.length + 1 ∧ (doS (st0 (typedL xs ts a) ((a + ts.length : Nat) : Int) ks) 1 c).kill = ks := by
  have hlen := typed_len xs ts a ha
  have hat : (st0 (typedL xs ts a) ((a + ts.length : Nat) : Int) ks).at_ = a + ts.length := heldV_id (by omega)
  have e : doS (st0 (typedL xs ts a) ((a + ts.length : Nat) : Int) ks) 1 c = ((st0 (typedL xs ts a) ((a + ts.length : Nat) : Int) ks).put c).1 := rfl
  rw [e, put_yes hc (by show (typedL xs ts a).length < 1000; omega)]
  dsimp only
  rw [hat]
  refine ⟨?_, rfl, rfl⟩
  show (typedL xs ts a).take (a + ts.length) ++ c :: (typedL xs ts a).drop (a + ts.length) = typedL xs (ts ++ [c]) a
  unfold typedL
  rw [List.take_left' (by simp; omega), List.drop_left' (by simp; omega)]
  simp
theorem rub_one (xs ts ks : List Int) (a : Nat) (c : Int) (ha : a ≤ xs.length) :
    (doS (st0 (typedL xs (ts ++ [c]) a) ((a + (ts.length + 1) : Nat) : Int) ks) 2 104).line = typedL xs ts a ∧ (doS (st0 (typedL xs (ts ++ [c]) a) ((a + (ts.length + 1) : Nat) : Int) ks) 2 104).at_ = a + ts.length ∧ (doS (st0 (typedL xs (ts ++ [c]) a) ((a + (ts.length + 1) : Nat) : Int) ks) 2 104).kill = ks := by
  have hlen := typed_len xs (ts ++ [c]) a ha
  rw [List.length_append] at hlen
  simp only [List.length_cons, List.length_nil] at hlen
  have hat : (st0 (typedL xs (ts ++ [c]) a) ((a + (ts.length + 1) : Nat) : Int) ks).at_ = a + (ts.length + 1) := heldV_id (by omega)
  have e : doS (st0 (typedL xs (ts ++ [c]) a) ((a + (ts.length + 1) : Nat) : Int) ks) 2 104 = (st0 (typedL xs (ts ++ [c]) a) ((a + (ts.length + 1) : Nat) : Int) ks).rub := rfl
  rw [e]
  unfold St.rub St.cut
  rw [hat, if_pos (by omega)]
  refine ⟨?_, by dsimp only; omega, rfl⟩
  show (typedL xs (ts ++ [c]) a).take (a + (ts.length + 1) - 1) ++ (typedL xs (ts ++ [c]) a).drop (a + (ts.length + 1)) = typedL xs ts a
  have e1 : typedL xs (ts ++ [c]) a = (xs.take a ++ ts) ++ ([c] ++ xs.drop a) := by simp [typedL]
  have e2 : typedL xs (ts ++ [c]) a = (xs.take a ++ (ts ++ [c])) ++ xs.drop a := rfl
  rw [show a + (ts.length + 1) - 1 = a + ts.length by omega]
  have t1 : (typedL xs (ts ++ [c]) a).take (a + ts.length) = xs.take a ++ ts := by rw [e1]; exact List.take_left' (by simp; omega)
  have t2 : (typedL xs (ts ++ [c]) a).drop (a + (ts.length + 1)) = xs.drop a := by rw [e2]; exact List.drop_left' (by simp; omega)
  rw [t1, t2]
  rfl
theorem typed_nil (xs : List Int) (a : Nat) : typedL xs [] a = xs := by simp [typedL]

/-! ### The walk -/
structure TSt (W : World) (b : Nat) (L K : Value) (line ks : List Int) (a : Nat) : Prop where
  cell : W.heap[b]? = some (.cells #[L, .int .i64 a, K] 29 (0, 0))
  line : RO W L line.length line
  kill : RO W K ks.length ks
  nL : rb L ≠ some b
  nK : rb K ≠ some b
theorem TSt.ext {W W' : World} {b a : Nat} {L K : Value} {line ks : List Int} (h : TSt W b L K line ks a) (e : Ext W W') : TSt W' b L K line ks a :=
  ⟨e.at_ h.cell, h.line.ext e, h.kill.ext e, h.nL, h.nK⟩
theorem TSt.row {W : World} {b a : Nat} {L K : Value} {line ks : List Int} (h : TSt W b L K line ks a) : ∃ A n c KA kn kc, L = .slice A n c ∧ K = .slice KA kn kc ∧ n = line.length ∧ kn = ks.length ∧ Ints W A n line ∧ Ints W KA kn ks := by
  obtain ⟨A, c, rfl, h1, _⟩ := h.line.form
  obtain ⟨KA, kc, rfl, h2, _⟩ := h.kill.form
  exact ⟨A, _, c, KA, _, kc, rfl, rfl, rfl, rfl, h1, h2⟩

set_option maxHeartbeats 8000000
theorem fn8 (w : World) (A KA TA : Option Addr) (n c kn kc m tc : Nat) (xs ks ts : List Int) (at_ : Int) (h : InRow w A n c xs) (hk : InRow w KA kn kc ks) (ht : InRow w TA m tc ts) :
    Ret Try.prog 8 #[.agg #[.slice A n c, .int .i64 at_, .slice KA kn kc], .slice TA m tc] w fun v W => Ext w W ∧ v = .bool true := by
  have hl := h.ints.len
  have hkl := hk.ints.len
  have htl := ht.ints.len
  have hsm := h.ints.small
  have hksm := hk.ints.small
  have htsm := ht.ints.small
  refine Ret.of_vc tab_ok Try.func8 rfl Try.ntmps8 rfl (Nat.le_of_ble_eq_true rfl) Try.call8 ?_
  conv => whnf
  intro W1 hW1
  have h2 := hW1.at_
  have he := hW1.e
  generalize w.heap.size = b2 at h2 ⊢
  clear hW1
  conv => whnf
  refine ⟨_, ld h2 rfl rfl, ?_⟩
  conv => whnf
  intro t ht1
  cases t <;> simp only [VB] at ht1 <;> (conv => whnf)
  case true =>
    refine (fn11 _).mono ?_
    rintro _ V9 ⟨e, rfl⟩
    conv => whnf
    exact ⟨he.tr e, rfl⟩
  refine ⟨_, ld h2 rfl rfl, ?_⟩
  conv => whnf
  intro t ht2
  cases t <;> simp only [VB] at ht2 <;> (conv => whnf)
  case true =>
    refine (fn11 _).mono ?_
    rintro _ V9 ⟨e, rfl⟩
    conv => whnf
    exact ⟨he.tr e, rfl⟩
  intro t ht3
  cases t <;> simp only [VB] at ht3 <;> (conv => whnf)
  case true =>
    refine (fn11 _).mono ?_
    rintro _ V9 ⟨e, rfl⟩
    conv => whnf
    exact ⟨he.tr e, rfl⟩
  refine ⟨_, ld h2 rfl rfl, ?_⟩
  conv => whnf
  intro t ht4
  cases t <;> simp only [VB] at ht4 <;> (conv => whnf)
  case true =>
    refine (fn11 _).mono ?_
    rintro _ V9 ⟨e, rfl⟩
    conv => whnf
    exact ⟨he.tr e, rfl⟩
  refine ⟨_, ld h2 rfl rfl, ?_⟩
  conv => whnf
  refine ⟨_, ld h2 rfl rfl, ?_⟩
  conv => whnf
  intro t ht5
  cases t <;> simp only [VB] at ht5 <;> (conv => whnf)
  case true =>
    refine (fn11 _).mono ?_
    rintro _ V9 ⟨e, rfl⟩
    conv => whnf
    exact ⟨he.tr e, rfl⟩
  obtain ⟨a, rfl⟩ : ∃ a : Nat, at_ = a := ⟨at_.toNat, by omega⟩
  refine ⟨_, ld h2 rfl rfl, ?_⟩
  conv => whnf
  refine ⟨_, ld h2 rfl rfl, ?_⟩
  conv => whnf
  refine ⟨_, ld h2 rfl rfl, ?_⟩
  conv => whnf
  refine Run.mk' _ _ (build29 A KA n c kn kc a _) ?_
  conv => whnf
  have hro := RO.of_ints (h.ints.ext he) h.le h.cap
  have hrk := RO.of_ints (hk.ints.ext he) hk.le hk.cap
  intro V1 hV1
  conv => whnf
  refine ⟨W1.heap.size, 0, _, _, rfl, hV1.at_, Nat.le_of_ble_eq_true rfl, rfl, rfl, fun W2 hW2 => ?_⟩
  have e := hW2.e hV1.e (Nat.le_refl _)
  have hts : TSt W2 W1.heap.size (.slice A n c) (.slice KA kn kc) xs ks a :=
    ⟨hW2.at_, by rw [← hl] at hro ⊢; exact hro.ext e, by rw [← hkl] at hrk ⊢; exact hrk.ext e, fun q => by have := hro.lt _ q; omega, fun q => by have := hrk.lt _ q; omega⟩
  have hb5 : w.heap.size ≤ W1.heap.size := he.le
  have hne2 : b2 ≠ W1.heap.size := by have := at_lt h2; omega
  generalize W1.heap.size = b5 at hts hb5 hne2 ⊢
  replace h2 := e.at_ h2
  replace he := he.tr e
  clear hro hrk e hV1 hW2
  conv => whnf
  refine ⟨_, ld h2 rfl rfl, ?_⟩
  conv => whnf
  refine ⟨_, ld h2 rfl rfl, ?_⟩
  conv => whnf
  refine ⟨by omega, by have := h.le; omega, fun a' ha' => ?_⟩
  obtain rfl : a' = a := by omega
  conv => whnf
  refine run_append inf3 Try.underlying22 rfl (by decide) (own_nil_ _ w.heap.size 3 1) (ints_take (h.ints.ext he) a' (by omega)).rd (one_ints _) (by simp only [maxLen]; omega) (by omega) he.le ?_
  intro v3 W3 hown hg hat3
  have e := ext_row (Ext.refl W2) hg (own_nil_ _ W2.heap.size 3 1) (Nat.le_refl _)
  simp only [Nat.zero_add, List.nil_append] at hown
  have hoff : ∀ L : Value, (∀ k, rb L = some k → k < W2.heap.size) → Off L v3 := fun L hL k hk q => by
    rcases hat3 with hat3 | hat3
    · rw [hat3] at q; cases q
    · rw [hat3] at q; injection q with q; have := hL k hk; omega
  have hoL := hoff _ hts.line.lt
  have hoK := hoff _ hts.kill.lt
  replace h2 := e.at_ h2
  replace he := he.tr e
  replace hts := hts.ext e
  clear e hg hat3 hoff
  conv => whnf
  -- the runes are typed
  refine VLoop.mk' tab_ok (X := Nat × Value × Value × Value) (fun x => [(1, .slice TA m tc), (2, .pointer (some ⟨b2, 0, none⟩)), (5, .pointer (some ⟨b5, 0, none⟩)), (6, x.2.1), (7, .int .i64 x.1)])
    (fun x W => Ext w W ∧ x.1 ≤ m ∧ W.heap[b2]? = some (.cells #[.slice A n c, .int .i64 a', .slice KA kn kc] 24 (0, 0)) ∧ TSt W b5 x.2.2.1 x.2.2.2 (typedL xs (ts.take x.1) a') ks (a' + x.1) ∧
      W.ownsRow w.heap.size 3 1 x.2.1 (a' + x.1) (ints (xs.take a' ++ ts.take x.1)) ∧ Off x.2.2.1 x.2.1 ∧ Off x.2.2.2 x.2.1 ∧ ∀ c ∈ ts.take x.1, plain c) (fun x _ => m - x.1) (0, v3, .slice A n c, .slice KA kn kc)
    ⟨rfl, rfl, rfl, rfl, rfl, trivial⟩ ⟨he, Nat.zero_le _, h2, by simpa [typed_nil] using hts, by simpa using hown, hoL, hoK, fun c hc => by simp at hc⟩ ?_
  clear he h2 hts hown hoL hoK
  rintro ⟨k, v, L, K⟩ j W ⟨he, hkm, h2, hts, hown, hoL, hoK, hpl⟩
  dsimp only at hkm hts hown hoL hoK hpl
  obtain ⟨LA, ln, lc, KB, kbn, kbc, rfl, rfl, hln, hkbn, iL, iK⟩ := hts.row
  have htlen : (typedL xs (ts.take k) a').length = n + k := by rw [typed_len _ _ _ (by omega), List.length_take]; omega
  conv => whnf
  intro t ht6
  cases t <;> simp only [VB] at ht6 <;> (conv => whnf)
  case true =>
    obtain ⟨ta, hTA, hck⟩ := (ht.ints.ext he).at_ (k := k) (by omega)
    generalize hc : ts.getD k 0 = ck at hck
    refine ⟨by omega, ht6, ta, hTA, ?_⟩
    conv => whnf
    refine ⟨.int .i64 ck, by simpa using hck, ?_⟩
    conv => whnf
    intro t ht7
    cases t <;> simp only [VB] at ht7 <;> (conv => whnf)
    case true =>
      refine (fn11 _).mono ?_
      rintro _ V9 ⟨e, rfl⟩
      conv => whnf
      exact ⟨he.tr e, rfl⟩
    refine ⟨by omega, ht6, ta, hTA, ?_⟩
    conv => whnf
    refine ⟨.int .i64 ck, by simpa using hck, ?_⟩
    conv => whnf
    intro t ht8
    cases t <;> simp only [VB] at ht8 <;> (conv => whnf)
    case true =>
      refine (fn11 _).mono ?_
      rintro _ V9 ⟨e, rfl⟩
      conv => whnf
      exact ⟨he.tr e, rfl⟩
    have hck2 : plain ck := ⟨by omega, by omega⟩
    have htk : (ts.take k).length = k := by rw [List.length_take]; omega
    obtain ⟨q1, q2, q3⟩ := type_one xs (ts.take k) ks a' ck (by omega) hck2 (by omega)
    rw [htk] at q1 q2 q3
    rw [← hc, ← take_succ_getD ts k (by omega), hc] at q1
    have hdl := doS_acts_le (st0 (typedL xs (ts.take k) a') ((a' + k : Nat) : Int) ks) 1 ck (st0_le _ _ _)
    generalize hr : doS (st0 (typedL xs (ts.take k) a') ((a' + k : Nat) : Int) ks) 1 ck = r at q1 q2 q3
    refine VDraw.mk' tab_ok (Ext W) [6, 10] (.take 0 <| .take 1 <| .take 2 <| .take 3 <| .take 4 <| .take 5 <| .one 6 <| .take 7 <| .take 8 <| .take 9 <| .one 10 <| .done) mixed (by kernel_rfl) (by kernel_rfl) (Ext.drew _) ?_
    have eS := Ext.drew W
    generalize W.drew = V at eS ⊢
    conv => whnf
    refine ⟨[.slice LA ln lc, .int .i64 ((a' + k : Nat) : Int), .slice KB kbn kbc], rfl, fun w' hs => lds (hs.at_ hts.cell) rfl rfl, ?_⟩
    conv => whnf
    refine ⟨by omega, ht6, ta, hTA, ?_⟩
    conv => whnf
    refine ⟨.int .i64 ck, fun w' hs => hs.cell (by simpa using hck), ?_⟩
    conv => whnf
    refine ⟨_, fun w' => build33 1 ck w', ?_⟩
    conv => whnf
    refine (fn12 V LA KB ln lc kbn kbc _ _ ((a' + k : Nat) : Int) 1 ck (iL.ext eS) (iK.ext eS) (by omega) (by omega)).mono ?_
    rintro _ V2 ⟨e, L2, K2', T2, rfl, hD⟩
    rw [hr] at hD ⊢
    have hVl := eS.le
    replace eS := eS.tr e
    have hb5W := at_lt hts.cell
    have hLlt : ∀ k, rb L2 = some k → V.heap.size ≤ k := fun k hk => (own_elem hD.line (rb_own hk)).1
    have hKlt : ∀ k, rb K2' = some k → V.heap.size ≤ k := fun k hk => (own_elem hD.kill (rb_own hk)).1
    obtain ⟨LA2, lc2, rfl⟩ := own_form hD.line
    obtain ⟨KA2, kc2, rfl⟩ := own_form hD.kill
    have hcV := eS.at_ hts.cell
    conv => whnf
    refine ⟨b5, 0, _, _, rfl, hcV, Nat.le_of_ble_eq_true rfl, rfl, rfl, fun V3 hV3 => ?_⟩
    have h2' := hV3.keep (eS.at_ h2) hne2
    have hown3 := own_put (own_ext hown eS) hV3 hcV (by decide)
    have hcell3 : V3.heap[b5]? = some (.cells #[.slice LA2 r.line.length lc2, .int .i64 r.at_, .slice KA2 r.kill.length kc2] 29 (0, 0)) := hV3.at_
    have hvlt := fun k (hk : v.ownBlock = some k) => (hown.lt k hk).2
    have hoL3 : Off (.slice LA2 r.line.length lc2) v := fun k hk q => by have i1 := hLlt k hk; have i2 := hvlt k q; omega
    have hoK3 : Off (.slice KA2 r.kill.length kc2) v := fun k hk q => by have i1 := hKlt k hk; have i2 := hvlt k q; omega
    have hnL3 : rb (.slice LA2 r.line.length lc2) ≠ some b5 := fun q => by have i1 := hLlt _ q; omega
    have hnK3 : rb (.slice KA2 r.kill.length kc2) ≠ some b5 := fun q => by have i1 := hKlt _ q; omega
    have hrL3 := RO.of_own (own_put hD.line hV3 hcV (by decide))
    have hrK3 := RO.of_own (own_put hD.kill hV3 hcV (by decide))
    replace he := hV3.e (he.tr eS) hb5
    clear hV3 hD hcV hoL hoK iL iK hts h2 hown hLlt hKlt hvlt e eS
    rw [q1, q2, q3] at hcell3
    rw [q1] at hoL3 hnL3 hrL3
    rw [q3] at hoK3 hnK3 hrK3
    conv => whnf
    obtain ⟨tb, hTB, hck'⟩ := (ht.ints.ext he).at_ (k := k) (by omega)
    rw [hc] at hck'
    refine ⟨by omega, ht6, tb, hTB, ?_⟩
    conv => whnf
    refine ⟨.int .i64 ck, by simpa using hck', ?_⟩
    conv => whnf
    refine Run.mk' _ _ (slice22_1 _ _) ?_
    have hN := New.mk' V3 (.cells #[.int .i64 ck] 3)
    generalize V3.alloc (.cells #[.int .i64 ck] 3) = V4 at hN ⊢
    have hat := hN.at_
    have e4 := hN.e
    generalize V3.heap.size = g1 at hat ⊢
    have hri : Ints V4 (some ⟨g1, 0, none⟩) 1 [ck] := ints_of_at hat (by simp [ints]) rfl (by decide)
    clear hN hat
    conv => whnf
    refine run_append inf3 Try.underlying22 rfl (by decide) (own_ext hown3 e4) hri.rd (one_ints _) (by simp only [maxLen]; omega) (by omega) (he.tr e4).le ?_
    intro v5 V5 hown5 hgr hat5
    have he5 := ext_row (he.tr e4) hgr (own_ext hown3 e4) (Nat.le_refl _)
    have hcell5 := grown_at hgr (own_ext hown3 e4) (e4.at_ hcell3) (by decide)
    have h25 := grown_at hgr (own_ext hown3 e4) (e4.at_ h2') (by decide)
    have hrL5 := (hrL3.ext e4).grown hgr hoL3
    have hrK5 := (hrK3.ext e4).grown hgr hoK3
    have hoL5 := (hrL3.ext e4).off hoL3 hat5
    have hoK5 := (hrK3.ext e4).off hoK3 hat5
    have hw5 : ints (xs.take a' ++ ts.take k) ++ ints [ck] = ints (xs.take a' ++ ts.take (k + 1)) := by
      rw [← ints_app, take_succ_getD ts k (by omega), hc]; simp
    rw [hw5] at hown5
    conv => whnf
    intro r9 hr9
    have hr3 : r9 = ((k + 1 : Nat) : Int) := by rw [hr9]; exact wrap_nat (n := m) (by omega) (by omega)
    subst hr3
    conv => whnf
    refine ⟨(k + 1, v5, _, _), ⟨rfl, rfl, rfl, rfl, rfl, trivial⟩, ⟨he5, by dsimp only; omega, h25, ⟨hcell5, hrL5, hrK5, hnL3, hnK3⟩, by dsimp only; rw [show a' + (k + 1) = a' + k + 1 by omega]; exact hown5, hoL5, hoK5, fun c hc' => ?_⟩, by dsimp only; omega⟩
    dsimp only at hc'
    rw [take_succ_getD ts k (by omega), hc] at hc'
    rcases List.mem_append.1 hc' with hc' | hc'
    · exact hpl c hc'
    · rcases List.mem_cons.1 hc' with rfl | hc'
      · exact hck2
      · cases hc'
  obtain rfl : k = m := by omega
  have htk0 : ts.take k = ts := List.take_of_length_le (by omega)
  rw [htk0] at hts hown hpl htlen iL hln
  subst hln hkbn
  refine ⟨_, ld h2 rfl rfl, ?_⟩
  conv => whnf
  refine ⟨_, ld h2 rfl rfl, ?_⟩
  conv => whnf
  refine ⟨by omega, by omega, fun a2 ha2 => ?_⟩
  obtain rfl : a2 = a' := by omega
  conv => whnf
  have hdr : Ints W _ (n - a2) (xs.drop a2) := ints_drop (h.ints.ext he) h.le a2 (by omega)
  refine run_append inf3 Try.underlying22 rfl (by decide) hown hdr.rd (one_ints _) (by simp only [maxLen]; omega) (by omega) he.le ?_
  intro v6 W6 hown6 hgr hat6
  have he6 := ext_row he hgr hown (Nat.le_refl _)
  have hts6 : TSt W6 b5 _ _ (typedL xs ts a2) ks (a2 + k) := ⟨grown_at hgr hown hts.cell (by decide), hts.line.grown hgr hoL, hts.kill.grown hgr hoK, hts.nL, hts.nK⟩
  have h26 := grown_at hgr hown h2 (by decide)
  rw [← ints_app] at hown6
  obtain ⟨R6, r6, rfl⟩ := own_form hown6
  have i6 : Ints W6 R6 (a2 + k + (n - a2)) (typedL xs ts a2) := own_ints hown6
  obtain ⟨_, _, e, iL6, _⟩ := hts6.line.form
  cases e
  clear hgr hat6 hown6 hown h2 hts hoL hoK iL iK hdr he
  conv => whnf
  refine ⟨_, ld hts6.cell rfl rfl, ?_⟩
  conv => whnf
  refine (fn21 W6 LA R6 _ lc _ r6 _ _ iL6 i6).mono ?_
  rintro _ W7 ⟨e, rfl⟩
  rw [decide_eq_true rfl]
  replace h26 := e.at_ h26
  replace hts6 := hts6.ext e
  replace he6 := he6.tr e
  clear e iL6 i6
  conv => whnf
  refine ⟨_, ld hts6.cell rfl rfl, ?_⟩
  conv => whnf
  refine ⟨_, ld h26 rfl rfl, ?_⟩
  conv => whnf
  intro q hq
  rw [wrap_id (by omega) (by omega)] at hq
  conv => whnf
  intro t ht7
  obtain rfl : t = false := ht7.no (by omega)
  conv => whnf
  clear hq ht7 ht6
  -- and rubbed out again
  refine VLoop.mk' tab_ok (X := Nat × Value × Value) (fun x => [(1, .slice TA k tc), (2, .pointer (some ⟨b2, 0, none⟩)), (5, .pointer (some ⟨b5, 0, none⟩)), (8, .int .i64 x.1)])
    (fun x W => Ext w W ∧ x.1 ≤ k ∧ W.heap[b2]? = some (.cells #[.slice A n c, .int .i64 a2, .slice KA kn kc] 24 (0, 0)) ∧ TSt W b5 x.2.1 x.2.2 (typedL xs (ts.take (k - x.1)) a2) ks (a2 + (k - x.1))) (fun x _ => k - x.1) (0, .slice LA (typedL xs ts a2).length lc, .slice KB ks.length kbc)
    ⟨rfl, rfl, rfl, rfl, trivial⟩ ⟨he6, Nat.zero_le _, h26, by dsimp only; rw [Nat.sub_zero, List.take_of_length_le (by omega)]; exact hts6⟩ ?_
  clear he6 h26 hts6
  rintro ⟨i, L, K⟩ j W ⟨he, hi, h2, hts⟩
  dsimp only at hi hts
  obtain ⟨LA, ln, lc, KB, kbn, kbc, rfl, rfl, hln, hkbn, iL, iK⟩ := hts.row
  conv => whnf
  intro t ht8
  cases t <;> simp only [VB] at ht8 <;> (conv => whnf)
  case true =>
    obtain ⟨d, hd⟩ : ∃ d, k - i = d + 1 := ⟨k - i - 1, by omega⟩
    rw [hd] at hts hln iL
    have hd1 : (ts.take d).length = d := by rw [List.length_take]; omega
    have q0 := rub_one xs (ts.take d) ks a2 (ts.getD d 0) (by omega)
    rw [← take_succ_getD ts d (by omega), hd1] at q0
    obtain ⟨q1, q2, q3⟩ := q0
    have hll : (typedL xs (ts.take (d + 1)) a2).length ≤ 600 := by rw [typed_len _ _ _ (by omega), List.length_take]; omega
    have hdl := doS_acts_le (st0 (typedL xs (ts.take (d + 1)) a2) ((a2 + (d + 1) : Nat) : Int) ks) 2 104 (st0_le _ _ _)
    generalize hr : doS (st0 (typedL xs (ts.take (d + 1)) a2) ((a2 + (d + 1) : Nat) : Int) ks) 2 104 = r at q1 q2 q3
    refine ⟨[.slice LA ln lc, .int .i64 ((a2 + (d + 1) : Nat) : Int), .slice KB kbn kbc], rfl, lds hts.cell rfl rfl, ?_⟩
    conv => whnf
    refine Run.mk' _ _ (build33 2 104 _) ?_
    conv => whnf
    refine (fn12 W LA KB ln lc kbn kbc _ _ ((a2 + (d + 1) : Nat) : Int) 2 104 iL iK (by omega) (by omega)).mono ?_
    rintro _ V2 ⟨eS, L2, K2', T2, rfl, hD⟩
    rw [hr] at hD ⊢
    have hb5W := at_lt hts.cell
    have hLlt : ∀ k, rb L2 = some k → W.heap.size ≤ k := fun k hk => (own_elem hD.line (rb_own hk)).1
    have hKlt : ∀ k, rb K2' = some k → W.heap.size ≤ k := fun k hk => (own_elem hD.kill (rb_own hk)).1
    obtain ⟨LA2, lc2, rfl⟩ := own_form hD.line
    obtain ⟨KA2, kc2, rfl⟩ := own_form hD.kill
    have hcV := eS.at_ hts.cell
    conv => whnf
    refine ⟨b5, 0, _, _, rfl, hcV, Nat.le_of_ble_eq_true rfl, rfl, rfl, fun V3 hV3 => ?_⟩
    have h2' := hV3.keep (eS.at_ h2) hne2
    have hcell3 : V3.heap[b5]? = some (.cells #[.slice LA2 r.line.length lc2, .int .i64 r.at_, .slice KA2 r.kill.length kc2] 29 (0, 0)) := hV3.at_
    have hnL3 : rb (.slice LA2 r.line.length lc2) ≠ some b5 := fun q => by have i1 := hLlt _ q; omega
    have hnK3 : rb (.slice KA2 r.kill.length kc2) ≠ some b5 := fun q => by have i1 := hKlt _ q; omega
    have hrL3 := RO.of_own (own_put hD.line hV3 hcV (by decide))
    have hrK3 := RO.of_own (own_put hD.kill hV3 hcV (by decide))
    have he3 := hV3.e (he.tr eS) hb5
    clear hV3 hD hcV iL iK hts h2 hLlt hKlt eS he
    rw [q1, q2, q3] at hcell3
    rw [q1] at hnL3 hrL3
    rw [q3] at hnK3 hrK3
    conv => whnf
    intro r9 hr9
    have hr3 : r9 = ((i + 1 : Nat) : Int) := by rw [hr9]; exact wrap_nat (n := k) (by omega) (by omega)
    subst hr3
    conv => whnf
    refine ⟨(i + 1, .slice LA2 (typedL xs (ts.take d) a2).length lc2, .slice KA2 ks.length kc2), ⟨rfl, rfl, rfl, rfl, trivial⟩, ⟨he3, by dsimp only; omega, h2', ?_⟩, by dsimp only; omega⟩
    dsimp only
    rw [show k - (i + 1) = d by omega]
    exact ⟨hcell3, hrL3, hrK3, hnL3, hnK3⟩
  obtain rfl : i = k := by omega
  rw [Nat.sub_self, List.take_zero, typed_nil, Nat.add_zero] at hts
  rw [Nat.sub_self, List.take_zero, typed_nil] at hln iL
  refine ⟨_, ld hts.cell rfl rfl, ?_⟩
  conv => whnf
  refine ⟨_, ld h2 rfl rfl, ?_⟩
  conv => whnf
  refine (fn21 W LA A ln lc n c xs xs iL (h.ints.ext he)).mono ?_
  rintro _ W7 ⟨e, rfl⟩
  rw [decide_eq_true rfl]
  replace h2 := e.at_ h2
  replace hts := hts.ext e
  replace he := he.tr e
  replace iK := iK.ext e
  clear e
  conv => whnf
  refine ⟨_, ld hts.cell rfl rfl, ?_⟩
  conv => whnf
  refine ⟨_, ld h2 rfl rfl, ?_⟩
  conv => whnf
  intro t ht9
  obtain rfl : t = true := ht9.yes rfl
  conv => whnf
  refine ⟨_, ld hts.cell rfl rfl, ?_⟩
  conv => whnf
  refine ⟨_, ld h2 rfl rfl, ?_⟩
  conv => whnf
  refine (fn21 W7 KB KA kbn kbc kn kc ks ks iK (hk.ints.ext he)).mono ?_
  rintro _ W8 ⟨e, rfl⟩
  rw [decide_eq_true rfl]
  replace he := he.tr e
  clear e
  conv => whnf
  refine (fn11 _).mono ?_
  rintro _ V9 ⟨e, rfl⟩
  conv => whnf
  exact ⟨he.tr e, rfl⟩
end Go.Proofs.Ythphdaeaicjgmaa
