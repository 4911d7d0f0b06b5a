/- The document's work: swap, ctrl. -/
import Derived.Test.YthphdaeaicjgmaaE18
namespace Go.Proofs.Ythphdaeaicjgmaa
open Go Go.VC Go.RowKit
set_option linter.unusedVariables false
set_option linter.unusedSimpArgs false
set_option maxRecDepth 100000

theorem RefAt.atv {w W : World} {b base a : Nat} {s : St} {L K T : Value} (h : RefAt w b base s L K T) (hp : Put w b (.cells #[L, .int .i64 a, K, T] 68 (0, 0)) W) : RefAt W b base { s with at_ := a } L K T :=
  ⟨hp.at_, h.line.put hp h.nbL, h.kill.put hp h.nbK, own_put h.acts hp h.cell (by decide), h.offL, h.offK, h.nbL, h.nbK, h.few, h.kfew, by rw [hp.size]; exact h.old⟩
theorem St.cut_len (s : St) {f t : Nat} (hft : f ≤ t) (ht : t ≤ s.line.length) : (s.cut f t).line.length = s.line.length - (t - f) ∧ (s.cut f t).acts.length = s.acts.length + (t - f) := by
  unfold St.cut
  split
  · have := gone_len s f t ht
    constructor
    · simp only [List.length_append, List.length_take, List.length_drop]; omega
    · simp only [List.length_append, List.length_map, this]
  · omega

set_option maxHeartbeats 8000000
theorem fn59 {w0 w : World} {b base : Nat} {s : St} {L K T : Value} (h : RefAt w b base s L K T) (h0 : Ext w0 w) (hb0 : w0.heap.size ≤ base) (hbb : base ≤ b) (hle : s.at_ ≤ s.line.length) (ha1 : s.acts.length ≤ 3000) :
    Ret Try.prog 59 #[.pointer (some ⟨b, 0, none⟩)] w fun v W => Ext w0 W ∧ ∃ L' K' T', RefAt W b base s.swap L' K' T' := by
  obtain ⟨A, cap, rfl, hli, hcap, hcap2⟩ := h.line.form
  have hcell := h.cell
  have hfew := h.few
  refine Ret.of_vc tab_ok Try.func59 rfl Try.ntmps59 rfl (Nat.le_of_ble_eq_true rfl) Try.call59 ?_
  conv => whnf
  refine ⟨_, ld hcell rfl rfl, ?_⟩
  conv => whnf
  intro t ht
  cases t <;> simp only [VB] at ht <;> (conv => whnf)
  case true =>
    have e : s.swap = s := by unfold St.swap; rw [if_pos (.inl (by omega))]
    rw [e]
    exact ⟨h0, _, _, _, h⟩
  refine ⟨_, ld hcell rfl rfl, ?_⟩
  conv => whnf
  intro t ht2
  cases t <;> simp only [VB] at ht2 <;> (conv => whnf)
  case true =>
    have e : s.swap = s := by unfold St.swap; rw [if_pos (.inr (by omega))]
    rw [e]
    exact ⟨h0, _, _, _, h⟩
  unfold St.swap
  rw [if_neg (by omega)]
  refine ⟨_, ld hcell rfl rfl, ?_⟩
  conv => whnf
  intro r hr
  rw [wrap_id (by omega) (by omega)] at hr
  conv => whnf
  intro r2 hr2
  have hi0 : r2 = ((min s.at_ (s.line.length - 1) : Nat) : Int) := by rw [hr2, hr]; split <;> omega
  clear hr2 hr
  subst hi0
  generalize hi : min s.at_ (s.line.length - 1) = i
  conv => whnf
  intro t ht3
  cases t <;> simp only [VB] at ht3 <;> (conv => whnf)
  case true =>
    rw [if_pos (.inl (by omega))]
    exact ⟨h0, _, _, _, h⟩
  refine ⟨_, ld hcell rfl rfl, ?_⟩
  conv => whnf
  intro r3 hr3
  rw [wrap_id (by omega) (by omega)] at hr3
  obtain rfl : r3 = ((i - 1 : Nat) : Int) := by omega
  conv => whnf
  obtain ⟨ad, rfl, hck⟩ := hli.at_ (k := i - 1) (by omega)
  refine ⟨by omega, by omega, ad, rfl, ?_⟩
  conv => whnf
  refine ⟨.int .i64 (s.line.getD (i - 1) 0), by simpa using hck, ?_⟩
  conv => whnf
  refine (fn57 _ _).mono ?_
  rintro _ _ ⟨rfl, rfl⟩
  cases hru : runeOk (s.line.getD (i - 1) 0) <;> (conv => whnf)
  case false =>
    rw [if_pos (.inr rfl)]
    exact ⟨h0, _, _, _, h⟩
  rw [if_neg (by simp; omega)]
  intro r4 hr4
  rw [wrap_id (by omega) (by omega)] at hr4
  obtain rfl : r4 = ((i - 1 : Nat) : Int) := by omega
  conv => whnf
  refine (fn58 h h0 hb0 hbb (f := i - 1) (t := i) (by omega) (by omega) (by omega)).mono ?_
  rintro v W ⟨hE, ⟨L', T', hW⟩, hg⟩
  obtain ⟨GA, gc, rfl⟩ := own_form hg
  have hgl := gone_len s (i - 1) i (by omega)
  have hg0 : (gone s (i - 1) i).getD 0 0 = s.line.getD (i - 1) 0 := gone_get s (i - 1) i 0 (by omega)
  obtain ⟨hcl, hca⟩ := s.cut_len (f := i - 1) (t := i) (by omega) (by omega)
  conv => whnf
  refine ⟨b, 1, _, _, rfl, hW.cell, Nat.le_of_ble_eq_true rfl, rfl, rfl, fun W2 hW2 => ?_⟩
  have hE2 := hW2.e hE (by omega)
  have hg2 := own_put hg hW2 hW.cell (by decide)
  have h2 := hW.atv (a := i) hW2
  conv => whnf
  obtain ⟨ga, rfl, hck2⟩ := (own_ints hg2).at_ (k := 0) (by omega)
  refine ⟨by omega, by omega, ga, rfl, ?_⟩
  conv => whnf
  rw [hg0] at hck2
  refine ⟨.int .i64 (s.line.getD (i - 1) 0), by simpa using hck2, ?_⟩
  conv => whnf
  refine (fn30 (s.line.getD (i - 1) 0) h2 hE2 hb0 hbb (by dsimp only; omega) (by dsimp only; omega)).mono ?_
  rintro v W3 ⟨rfl, hE3, L3, T3, h3⟩
  conv => whnf
  exact ⟨hE3, _, _, _, h3⟩

def ctrlS (s : St) (c : Int) : St :=
  if c = 97 then s.home else if c = 101 then s.end' else if c = 98 then s.left else if c = 102 then s.right else if c = 104 then s.rub else if c = 100 then s.del
  else if c = 107 then s.killOn else if c = 117 then s.killBack else if c = 119 then s.killed (refBack s.line s.at_) s.at_ else if c = 121 then s.yank else if c = 116 then s.swap else s
theorem fn31 {w0 w : World} {b base : Nat} {s : St} {L K T : Value} (c : Int) (h : RefAt w b base s L K T) (h0 : Ext w0 w) (hb0 : w0.heap.size ≤ base) (hbb : base ≤ b) (hle : s.at_ ≤ s.line.length) (hl1 : s.line.length ≤ 3000) (hk1 : s.kill.length ≤ 3000) (ha1 : s.acts.length ≤ 3000) :
    Ret Try.prog 31 #[.pointer (some ⟨b, 0, none⟩), .int .i64 c] w fun v W => Ext w0 W ∧ ∃ L' K' T', RefAt W b base (ctrlS s c) L' K' T' := by
  obtain ⟨A, cap, rfl, hli, hcap, hcap2⟩ := h.line.form
  have hcell := h.cell
  unfold ctrlS
  refine Ret.of_vc tab_ok Try.func31 rfl Try.ntmps31 rfl (Nat.le_of_ble_eq_true rfl) Try.call31 ?_
  conv => whnf
  refine ⟨_, ld hcell rfl rfl, ?_⟩
  conv => whnf
  refine ⟨_, ld hcell rfl rfl, ?_⟩
  conv => whnf
  intro t ht
  cases t <;> simp only [VB] at ht <;> (conv => whnf)
  case true =>
    rw [if_pos ht]
    refine ⟨b, 1, _, _, rfl, hcell, Nat.le_of_ble_eq_true rfl, rfl, rfl, fun W hW => ?_⟩
    conv => whnf
    exact ⟨hW.e h0 (by omega), _, _, _, h.atv (a := 0) hW⟩
  rw [if_neg ht]
  clear ht
  intro t ht
  cases t <;> simp only [VB] at ht <;> (conv => whnf)
  case true =>
    rw [if_pos ht]
    refine ⟨b, 1, _, _, rfl, hcell, Nat.le_of_ble_eq_true rfl, rfl, rfl, fun W hW => ?_⟩
    conv => whnf
    exact ⟨hW.e h0 (by omega), _, _, _, h.atv (a := s.line.length) hW⟩
  rw [if_neg ht]
  clear ht
  intro t ht
  cases t <;> simp only [VB] at ht <;> (conv => whnf)
  case true =>
    rw [if_pos ht]
    intro r hr
    rw [wrap_id (by omega) (by omega)] at hr
    conv => whnf
    intro r2 hr2
    obtain rfl : r2 = ((s.at_ - 1 : Nat) : Int) := by rw [hr2, hr]; split <;> omega
    conv => whnf
    refine ⟨b, 1, _, _, rfl, hcell, Nat.le_of_ble_eq_true rfl, rfl, rfl, fun W hW => ?_⟩
    conv => whnf
    exact ⟨hW.e h0 (by omega), _, _, _, h.atv (a := s.at_ - 1) hW⟩
  rw [if_neg ht]
  clear ht
  intro t ht
  cases t <;> simp only [VB] at ht <;> (conv => whnf)
  case true =>
    rw [if_pos ht]
    intro r hr
    rw [wrap_id (by omega) (by omega)] at hr
    conv => whnf
    intro r2 hr2
    obtain rfl : r2 = ((min (s.at_ + 1) s.line.length : Nat) : Int) := by rw [hr2, hr]; split <;> omega
    conv => whnf
    refine ⟨b, 1, _, _, rfl, hcell, Nat.le_of_ble_eq_true rfl, rfl, rfl, fun W hW => ?_⟩
    conv => whnf
    exact ⟨hW.e h0 (by omega), _, _, _, h.atv (a := min (s.at_ + 1) s.line.length) hW⟩
  rw [if_neg ht]
  clear ht
  intro t ht
  cases t <;> simp only [VB] at ht <;> (conv => whnf)
  case true =>
    rw [if_pos ht]
    intro r hr
    rw [wrap_id (by omega) (by omega)] at hr
    conv => whnf
    intro r2 hr2
    obtain rfl : r2 = ((s.at_ - 1 : Nat) : Int) := by rw [hr2, hr]; split <;> omega
    conv => whnf
    refine (fn58 h h0 hb0 hbb (f := s.at_ - 1) (t := s.at_) (by omega) hle (by omega)).mono ?_
    rintro v W ⟨hE, ⟨L', T', hW⟩, _⟩
    conv => whnf
    exact ⟨hE, _, _, _, hW⟩
  rw [if_neg ht]
  clear ht
  intro t ht
  cases t <;> simp only [VB] at ht <;> (conv => whnf)
  case true =>
    rw [if_pos ht]
    intro r hr
    rw [wrap_id (by omega) (by omega)] at hr
    conv => whnf
    intro r2 hr2
    obtain rfl : r2 = ((min (s.at_ + 1) s.line.length : Nat) : Int) := by rw [hr2, hr]; split <;> omega
    conv => whnf
    refine (fn58 h h0 hb0 hbb (f := s.at_) (t := min (s.at_ + 1) s.line.length) (by omega) (by omega) (by omega)).mono ?_
    rintro v W ⟨hE, ⟨L', T', hW⟩, _⟩
    conv => whnf
    exact ⟨hE, _, _, _, hW⟩
  rw [if_neg ht]
  clear ht
  intro t ht
  cases t <;> simp only [VB] at ht <;> (conv => whnf)
  case true =>
    rw [if_pos ht]
    refine (fn32 h h0 hb0 hbb (f := s.at_) (t := s.line.length) (by omega) (by omega) (by omega)).mono ?_
    rintro v W ⟨hE, L', K', T', hW⟩
    conv => whnf
    exact ⟨hE, _, _, _, hW⟩
  rw [if_neg ht]
  clear ht
  intro t ht
  cases t <;> simp only [VB] at ht <;> (conv => whnf)
  case true =>
    rw [if_pos ht]
    refine (fn32 h h0 hb0 hbb (f := 0) (t := s.at_) (by omega) (by omega) (by omega)).mono ?_
    rintro v W ⟨hE, L', K', T', hW⟩
    conv => whnf
    exact ⟨hE, _, _, _, hW⟩
  rw [if_neg ht]
  clear ht
  intro t ht
  cases t <;> simp only [VB] at ht <;> (conv => whnf)
  case true =>
    rw [if_pos ht]
    refine ⟨_, ld hcell rfl rfl, ?_⟩
    conv => whnf
    refine (fn23back w A s.line.length cap s.line _ hli).mono ?_
    rintro _ _ ⟨rfl, rfl⟩
    rw [heldV_id hle]
    conv => whnf
    refine (fn32 h h0 hb0 hbb (f := refBack s.line s.at_) (t := s.at_) (refBack_le _ _) (by omega) (by omega)).mono ?_
    rintro v W ⟨hE, L', K', T', hW⟩
    conv => whnf
    exact ⟨hE, _, _, _, hW⟩
  rw [if_neg ht]
  clear ht
  intro t ht
  cases t <;> simp only [VB] at ht <;> (conv => whnf)
  case true =>
    rw [if_pos ht]
    obtain ⟨KA, kc, rfl, hki, hkcap, _⟩ := h.kill.form
    refine ⟨_, ld hcell rfl rfl, ?_⟩
    conv => whnf
    refine VLoop.mk' tab_ok (X := Nat × St) (fun x => [(0, .pointer (some ⟨b, 0, none⟩)), (6, .slice KA s.kill.length kc), (7, .int .i64 x.1)])
      (fun x W => Ext w0 W ∧ x.1 ≤ s.kill.length ∧ s.yank = x.2.puts (s.kill.drop x.1) ∧ x.2.kill = s.kill ∧ x.2.acts.length ≤ s.acts.length + x.1 ∧ x.2.at_ ≤ x.2.line.length ∧ ∃ L' T', RefAt W b base x.2 L' (.slice KA s.kill.length kc) T')
      (fun x _ => s.kill.length - x.1) (0, s) ⟨rfl, rfl, rfl, trivial⟩ ⟨h0, Nat.zero_le _, rfl, rfl, Nat.le_refl _, hle, _, _, h⟩ ?_
    clear h h0 hcell hli
    rintro ⟨k, u⟩ j W ⟨hE, hk, hy, huk, hua, hul, L', T', h⟩
    dsimp only at hk hy huk hua hul h
    conv => whnf
    intro t ht
    cases t <;> simp only [VB] at ht <;> (conv => whnf)
    case false =>
      rw [List.drop_of_length_le (by omega)] at hy
      rw [hy]
      exact ⟨hE, _, _, _, h⟩
    case true =>
      have hki : Ints W KA s.kill.length s.kill := by
        obtain ⟨A2, c2, e, hi, _⟩ := h.kill.form
        rw [huk] at e hi
        cases e
        exact hi
      obtain ⟨ka, rfl, hck⟩ := hki.at_ (k := k) (by omega)
      refine ⟨by omega, by omega, ka, rfl, ?_⟩
      conv => whnf
      refine ⟨.int .i64 (s.kill.getD k 0), by simpa using hck, ?_⟩
      conv => whnf
      refine (fn30 (s.kill.getD k 0) h hE hb0 hbb (by omega) hul).mono ?_
      rintro v W2 ⟨rfl, hE2, L2, T2, h2⟩
      have hd : s.kill.drop k = s.kill.getD k 0 :: s.kill.drop (k + 1) := by
        rw [List.drop_eq_getElem_cons (by omega)]
        congr 1
        rw [List.getD_eq_getElem?_getD, List.getElem?_eq_getElem (by omega)]
        rfl
      have hk2 := put_kill u (s.kill.getD k 0)
      have ha2 := put_acts u (s.kill.getD k 0)
      have hn2 := put_no u (s.kill.getD k 0)
      have hl2 : (u.put (s.kill.getD k 0)).1.at_ ≤ (u.put (s.kill.getD k 0)).1.line.length := by
        unfold St.put
        split
        · exact hul
        · simp; omega
      rw [hd] at hy
      simp only [St.puts] at hy
      generalize u.put (s.kill.getD k 0) = q at h2 hk2 ha2 hn2 hl2 hy
      obtain ⟨u2, ok⟩ := q
      dsimp only at h2 hk2 ha2 hn2 hl2 hy ⊢
      cases ok <;> (conv => whnf)
      case false =>
        rw [hn2 rfl] at h2
        simp only [Bool.false_eq_true, if_false] at hy
        rw [hy]
        exact ⟨hE2, _, _, _, h2⟩
      case true =>
        simp only [if_true] at hy
        intro r hr
        have hr3 : r = ((k + 1 : Nat) : Int) := by rw [hr]; exact wrap_nat (n := s.kill.length) (by omega) (by omega)
        subst hr3
        conv => whnf
        exact ⟨(k + 1, u2), ⟨rfl, rfl, rfl, trivial⟩, ⟨hE2, by dsimp only; omega, hy, by dsimp only; rw [hk2, huk], by dsimp only; omega, hl2, _, _, h2⟩, by dsimp only; omega⟩
  rw [if_neg ht]
  clear ht
  intro t ht
  cases t <;> simp only [VB] at ht <;> (conv => whnf)
  case true =>
    rw [if_pos ht]
    refine (fn59 h h0 hb0 hbb hle ha1).mono ?_
    rintro v W ⟨hE, L', K', T', hW⟩
    conv => whnf
    exact ⟨hE, _, _, _, hW⟩
  rw [if_neg ht]
  exact ⟨h0, _, _, _, h⟩
end Go.Proofs.Ythphdaeaicjgmaa
