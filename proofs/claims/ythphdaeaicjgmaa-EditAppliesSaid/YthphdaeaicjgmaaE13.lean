/- edit's work: yank, swap. -/
import Derived.Test.YthphdaeaicjgmaaE12
namespace Go.Proofs.Ythphdaeaicjgmaa
open Go Go.VC Go.RowKit
set_option linter.unusedVariables false
set_option linter.unusedSimpArgs false
set_option maxRecDepth 100000

theorem put_kill (s : St) (c : Int) : (s.put c).1.kill = s.kill := by unfold St.put; split <;> rfl
theorem put_acts (s : St) (c : Int) : (s.put c).1.acts.length ≤ s.acts.length + 1 := by unfold St.put; split <;> simp
theorem put_line (s : St) (c : Int) (h : s.at_ ≤ s.line.length) : (s.put c).1.line.length ≤ max s.line.length 1000 := by
  unfold St.put
  split
  · simp; omega
  · simp; omega
theorem put_no (s : St) (c : Int) (h : (s.put c).2 = false) : (s.put c).1 = s := by
  unfold St.put at *
  split
  · rfl
  · rw [if_neg ‹_›] at h; cases h

theorem fn52 : Way 52 St.yank := by
  intro w0 w b base s L K T h h0 hb0 hbb hl1 hk1 ha1
  obtain ⟨KA, kc, rfl⟩ := own_form h.kill
  refine Ret.of_vc tab_ok Try.func52 rfl Try.ntmps52 rfl (Nat.le_of_ble_eq_true rfl) Try.call52 ?_
  conv => whnf
  refine ⟨_, ld h.cell rfl rfl, ?_⟩
  conv => whnf
  refine VLoop.mk' tab_ok (X := Nat × St) (fun x => [(0, .pointer (some ⟨b, 0, none⟩)), (8, .slice KA s.kill.length kc), (9, .int .i64 s.kill.length), (10, .int .i64 x.1)])
    (fun x W => Ext w0 W ∧ x.1 ≤ s.kill.length ∧ s.yank = x.2.puts (s.kill.drop x.1) ∧ x.2.kill = s.kill ∧ x.2.acts.length ≤ s.acts.length + x.1 ∧ ∃ L' T', WorkAt W b base x.2 L' (.slice KA s.kill.length kc) T')
    (fun x _ => s.kill.length - x.1) (0, s) ⟨rfl, rfl, rfl, rfl, trivial⟩ ⟨h0, Nat.zero_le _, rfl, rfl, Nat.le_refl _, _, _, h⟩ ?_
  clear h h0
  rintro ⟨k, u⟩ j W ⟨hE, hk, hy, huk, hua, L', T', h⟩
  dsimp only at hk hy huk hua h
  conv => whnf
  intro t ht
  cases t <;> simp only [VB] at ht <;> (conv => whnf)
  case false =>
    rw [List.drop_of_length_le (by omega)] at hy
    rw [hy]
    exact ⟨hE, _, _, _, h⟩
  case true =>
    have hki := h.kill
    rw [huk] at hki
    obtain ⟨ka, rfl, hck⟩ := (own_ints hki).at_ (k := k) (by omega)
    refine ⟨by omega, ht, ka, rfl, ?_⟩
    conv => whnf
    refine ⟨.int .i64 (s.kill.getD k 0), by simpa using hck, ?_⟩
    conv => whnf
    refine (fn27 (s.kill.getD k 0) h hE hb0 hbb (by omega)).mono ?_
    rintro v W2 ⟨rfl, hE2, L2, T2, h2⟩
    have hd : s.kill.drop k = s.kill.getD k 0 :: s.kill.drop (k + 1) := by
      rw [List.drop_eq_getElem_cons (by omega)]
      congr 1
      rw [List.getD_eq_getElem?_getD, List.getElem?_eq_getElem (by omega)]
      rfl
    have hk2 := put_kill u (s.kill.getD k 0)
    have ha2 := put_acts u (s.kill.getD k 0)
    have hn2 := put_no u (s.kill.getD k 0)
    rw [hd] at hy
    simp only [St.puts] at hy
    generalize u.put (s.kill.getD k 0) = q at h2 hk2 ha2 hn2 hy
    obtain ⟨u2, ok⟩ := q
    dsimp only at h2 hk2 ha2 hn2 hy ⊢
    cases ok <;> (conv => whnf)
    case false =>
      rw [hn2 rfl] at h2
      simp only [Bool.false_eq_true, if_false] at hy
      rw [hy]
      exact ⟨hE2, _, _, _, h2⟩
    case true =>
      simp only [if_true] at hy
      intro r hr
      have hr3 : r = ((k + 1 : Nat) : Int) := by rw [hr]; exact wrap_nat (n := s.kill.length) (by omega) (by omega)
      subst hr3
      conv => whnf
      exact ⟨(k + 1, u2), ⟨rfl, rfl, rfl, rfl, trivial⟩, ⟨hE2, by dsimp only; omega, hy, by dsimp only; rw [hk2, huk], by dsimp only; omega, _, _, h2⟩, by dsimp only; omega⟩

theorem fn53 : Way 53 St.swap := by
  intro w0 w b base s L K T h h0 hb0 hbb hl1 hk1 ha1
  obtain ⟨A, cap, rfl⟩ := own_form h.line
  have hle := h.le
  have hcell := h.cell
  refine Ret.of_vc tab_ok Try.func53 rfl Try.ntmps53 rfl (Nat.le_of_ble_eq_true rfl) Try.call53 ?_
  conv => whnf
  refine ⟨_, ld hcell rfl rfl, ?_⟩
  conv => whnf
  intro t ht
  cases t <;> simp only [VB] at ht <;> (conv => whnf)
  case true =>
    have e : s.swap = s := by unfold St.swap; rw [if_pos (.inl (by omega))]
    rw [e]
    exact ⟨h0, _, _, _, h⟩
  refine ⟨_, ld hcell rfl rfl, ?_⟩
  conv => whnf
  intro t ht2
  cases t <;> simp only [VB] at ht2 <;> (conv => whnf)
  case true =>
    have e : s.swap = s := by unfold St.swap; rw [if_pos (.inr (by omega))]
    rw [e]
    exact ⟨h0, _, _, _, h⟩
  unfold St.swap
  rw [if_neg (by omega)]
  refine VDraw.mk' tab_ok (fun V => V.heap[b]? = w.heap[b]?) [] (.take 0 <| .take 1 <| .take 2 <| .take 3 <| .take 4 <| .take 5 <| .take 6 <| .take 7 <| .take 8 <| .take 9 <| .take 10 <| .take 11 <| .take 12 <| .take 13 <| .done) mixed (by kernel_rfl) (by kernel_rfl) rfl ?_
  have hd := Ext.drew w
  conv => whnf
  refine ⟨_, fun w' hs => ld (hs.trans hcell) rfl rfl, ?_⟩
  conv => whnf
  refine ⟨_, fun w' hs => ld (hs.trans hcell) rfl rfl, ?_⟩
  conv => whnf
  intro r hr
  rw [wrap_id (by omega) (by omega)] at hr
  conv => whnf
  intro r2 hr2
  have hi0 : r2 = ((min s.at_ (s.line.length - 1) : Nat) : Int) := by rw [hr2, hr]; split <;> omega
  clear hr2 hr
  subst hi0
  generalize hi : min s.at_ (s.line.length - 1) = i
  replace h := h.ext hd
  replace h0 := h0.tr hd
  have hcell := h.cell
  generalize w.drew = W1 at h h0 hcell ⊢
  conv => whnf
  refine ⟨_, ld hcell rfl rfl, ?_⟩
  conv => whnf
  intro t ht3
  cases t <;> simp only [VB] at ht3 <;> (conv => whnf)
  case true =>
    rw [if_pos (.inl (by omega))]
    exact ⟨h0, _, _, _, h⟩
  refine ⟨_, ld hcell rfl rfl, ?_⟩
  conv => whnf
  intro r3 hr3
  rw [wrap_id (by omega) (by omega)] at hr3
  obtain rfl : r3 = ((i - 1 : Nat) : Int) := by omega
  conv => whnf
  obtain ⟨ad, rfl, hck⟩ := (own_ints h.line).at_ (k := i - 1) (by omega)
  refine ⟨by omega, by omega, ad, rfl, ?_⟩
  conv => whnf
  refine ⟨.int .i64 (s.line.getD (i - 1) 0), by simpa using hck, ?_⟩
  conv => whnf
  refine (fn40 _ _).mono ?_
  rintro _ _ ⟨rfl, rfl⟩
  cases hru : runeOk (s.line.getD (i - 1) 0) <;> (conv => whnf)
  case false =>
    rw [if_pos (.inr rfl)]
    exact ⟨h0, _, _, _, h⟩
  rw [if_neg (by simp; omega)]
  intro r4 hr4
  rw [wrap_id (by omega) (by omega)] at hr4
  obtain rfl : r4 = ((i - 1 : Nat) : Int) := by omega
  conv => whnf
  refine (fn62 h h0 hb0 hbb (f := i - 1) (t := i) (by omega) (by omega) (by omega)).mono ?_
  rintro v W ⟨hE, ⟨L', T', hW, _⟩, hg⟩
  obtain ⟨GA, gc, rfl⟩ := own_form hg
  have hgl : (gone s (i - 1) i).length = 1 := by simp [gone]; omega
  have hg0 : (gone s (i - 1) i).getD 0 0 = s.line.getD (i - 1) 0 := by
    unfold gone
    rw [getD_drop, List.getD_eq_getElem?_getD, List.getElem?_take, if_pos (by omega), ← List.getD_eq_getElem?_getD]
    rfl
  conv => whnf
  refine ⟨b, 1, _, _, rfl, hW.cell, Nat.le_of_ble_eq_true rfl, rfl, rfl, fun W2 hW2 => ?_⟩
  have hcl : (s.cut (i - 1) i).line.length = s.line.length - 1 := by unfold St.cut; rw [if_pos (by omega)]; simp; omega
  have hca : (s.cut (i - 1) i).acts.length = s.acts.length + 1 := by unfold St.cut; rw [if_pos (by omega)]; simp [hgl]
  have hE2 := hW2.e hE (by omega)
  have hg2 := own_put hg hW2 hW.cell (by decide)
  have h2 := hW.atv (a := i) hW2 (by omega)
  conv => whnf
  obtain ⟨ga, rfl, hck2⟩ := (own_ints hg2).at_ (k := 0) (by omega)
  refine ⟨by omega, by omega, ga, rfl, ?_⟩
  conv => whnf
  rw [hg0] at hck2
  refine ⟨.int .i64 (s.line.getD (i - 1) 0), by simpa using hck2, ?_⟩
  conv => whnf
  refine (fn27 (s.line.getD (i - 1) 0) h2 hE2 hb0 hbb (by dsimp only; omega)).mono ?_
  rintro v W3 ⟨rfl, hE3, L3, T3, h3⟩
  conv => whnf
  exact ⟨hE3, _, _, _, h3⟩
end Go.Proofs.Ythphdaeaicjgmaa
