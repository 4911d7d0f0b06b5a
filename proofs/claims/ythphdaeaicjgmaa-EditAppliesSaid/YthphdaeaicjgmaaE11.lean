/- edit's work: cut, kill. -/
import Derived.Test.YthphdaeaicjgmaaE10
namespace Go.Proofs.Ythphdaeaicjgmaa
open Go Go.VC Go.RowKit
set_option linter.unusedVariables false
set_option linter.unusedSimpArgs false
set_option maxRecDepth 100000

def gone (s : St) (f t : Nat) : List Int := (s.line.take t).drop f
def St.cut (s : St) (f t : Nat) : St := if f < t then ⟨s.line.take f ++ s.line.drop t, f, s.kill, s.acts ++ (gone s f t).map fun c => (2, (f : Int), c)⟩ else s

/-- An act is done: a row of acts grows by one, the work's cell is written. -/
theorem WorkAt.acts_of {w W : World} {b base : Nat} {s : St} {L K T T' : Value} {l : List (Int × Int × Int)} (h : WorkAt w b base s L K T) (hc : W.heap[b]? = some (.cells #[L, .int .i64 s.at_, K, T'] 60 (0, 0)))
    (hl : W.ownsRow base 3 1 L s.line.length (ints s.line)) (hk : W.ownsRow base 3 1 K s.kill.length (ints s.kill)) (ha : W.ownsRow base 73 3 T' l.length (acells l)) (ho : base ≤ W.heap.size) :
    WorkAt W b base ⟨s.line, s.at_, s.kill, l⟩ L K T' := ⟨hc, hl, hk, ha, h.apart, h.le, h.few, ho⟩

theorem own_weak {w : World} {base base' e size n : Nat} {v : Value} {xs : List Value} (h : w.ownsRow base e size v n xs) (hb : base' ≤ base) : w.ownsRow base' e size v n xs := by
  refine ⟨h.1, ?_⟩
  rcases h.2 with h2 | ⟨g, cap, cur, h3, h4, h5, h6⟩
  · exact .inl h2
  · exact .inr ⟨g, cap, cur, h3, by omega, h5, h6⟩
set_option maxHeartbeats 4000000
theorem fn62 {w0 w : World} {b base f t : Nat} {s : St} {L K T : Value} (h : WorkAt w b base s L K T) (h0 : Ext w0 w) (hb0 : w0.heap.size ≤ base) (hbb : base ≤ b) (hft : f ≤ t) (ht : t ≤ s.line.length) (hta : s.acts.length + (t - f) ≤ 100000) :
    Ret Try.prog 62 #[.pointer (some ⟨b, 0, none⟩), .int .i64 f, .int .i64 t] w fun v W => Ext w0 W ∧ (∃ L' T', WorkAt W b base (s.cut f t) L' K T' ∧ (∀ k, v.ownBlock = some k → L'.ownBlock ≠ some k ∧ K.ownBlock ≠ some k)) ∧ W.ownsRow base 3 1 v (gone s f t).length (ints (gone s f t)) := by
  obtain ⟨A, cap, rfl⟩ := own_form h.line
  obtain ⟨TA, tc, rfl⟩ := own_form h.acts
  have hfew := h.few
  have hgl : (gone s f t).length = t - f := by simp [gone]; omega
  have hcap : s.line.length ≤ cap := by
    rcases h.line.2 with ⟨h1, h2⟩ | ⟨g, cap2, cur, h1, _, _, h2, _⟩
    · omega
    · injection h1 with h4 h5 h6; omega
  refine Ret.of_vc tab_ok Try.func62 rfl Try.ntmps62 rfl (Nat.le_of_ble_eq_true rfl) Try.call62 ?_
  conv => whnf
  refine ⟨_, ld h.cell rfl rfl, ?_⟩
  conv => whnf
  refine ⟨by omega, by omega, by omega, fun a c ha hc => ?_⟩
  obtain rfl : a = f := by omega
  obtain rfl : c = t := by omega
  clear ha hc
  conv => whnf
  have hgi : Ints w (if cap = a then A else A.map (·.add (a * ty3.size))) (c - a) (gone s a c) := by
    have h1 := ints_drop (ints_take (own_ints h.line) c ht) (c := cap) (by omega) a hft
    exact h1
  refine (fn25 w _ (c - a) _ _ hgi (by omega)).mono ?_
  rintro _ W1 ⟨GA, gc, rfl, he1, hown, _⟩
  have hG : ∀ k, (Value.slice GA (c - a) gc).ownBlock = some k → (Value.slice A s.line.length cap).ownBlock ≠ some k ∧ K.ownBlock ≠ some k := fun k hk => by
    have h1 := (own_elem hown hk).1
    refine ⟨fun e => ?_, fun e => ?_⟩
    · have := (h.line.lt _ e).2; omega
    · have := (h.kill.lt _ e).2; omega
  replace hown := own_weak hown h.old
  replace h := h.ext he1
  replace h0 := h0.tr he1
  conv => whnf
  refine VLoop.mk' tab_ok (X := Nat) (fun k => [(0, .pointer (some ⟨b, 0, none⟩)), (1, .int .i64 a), (2, .int .i64 c), (7, .slice GA (c - a) gc), (19, .slice GA (c - a) gc), (20, .int .i64 ((c - a : Nat) : Int)), (21, .int .i64 k)])
    (fun k W => Ext w0 W ∧ k ≤ c - a ∧ W.ownsRow base 3 1 (.slice GA (c - a) gc) (c - a) (ints (gone s a c)) ∧ ∃ T', WorkAt W b base ⟨s.line, s.at_, s.kill, s.acts ++ ((gone s a c).take k).map fun c => (2, (a : Int), c)⟩ (.slice A s.line.length cap) K T')
    (fun k _ => c - a - k) 0 ⟨rfl, rfl, rfl, rfl, rfl, rfl, rfl, trivial⟩ ⟨h0, Nat.zero_le _, hown, _, by simpa using h⟩ ?_
  clear h h0 hown he1 hgi
  rintro k j W ⟨hE, hk, hown, T', h⟩
  conv => whnf
  intro t' ht'
  cases t' <;> simp only [VB] at ht' <;> (conv => whnf)
  case true =>
    obtain ⟨ga, rfl, hck⟩ := (own_ints hown).at_ (k := k) (by omega)
    refine ⟨by omega, ht', ga, rfl, ?_⟩
    conv => whnf
    refine ⟨.int .i64 ((gone s a c).getD k 0), by simpa using hck, ?_⟩
    conv => whnf
    have hacl : (s.acts ++ ((gone s a c).take k).map fun c => (2, (a : Int), c)).length = s.acts.length + k := by simp [hgl]; omega
    have hacts := h.acts
    dsimp only at hacts
    rw [hacl] at hacts
    obtain ⟨TA', tc', rfl⟩ := own_form hacts
    refine ⟨_, ld h.cell rfl rfl, ?_⟩
    conv => whnf
    refine Run.mk' _ _ (build73 _ _ _ _) ?_
    conv => whnf
    refine Run.mk' _ _ (slice30_1 _ _ _ _) ?_
    have hN := New.mk' W (.cells #[.int .i64 2, .int .i64 a, .int .i64 ((gone s a c).getD k 0)] 73)
    generalize W.alloc (.cells #[.int .i64 2, .int .i64 a, .int .i64 ((gone s a c).getD k 0)] 73) = W2 at hN ⊢
    have hat := hN.at_
    replace hE := hE.tr hN.e
    replace h := h.ext hN.e
    replace hown := own_ext hown hN.e
    replace hacts := own_ext hacts hN.e
    clear hN hck
    generalize W.heap.size = g1 at hat ⊢
    conv => whnf
    refine run_append inf73 Try.underlying30 rfl (by decide) hacts (rd_three hat) (by intro u hu; simp at hu; rcases hu with rfl | rfl | rfl <;> rfl) (by simp only [maxLen]; omega) (by omega) h.old ?_
    intro v' W3 hacts3 hgr hat3
    obtain ⟨TA2, tc2, rfl⟩ := own_form hacts3
    have hcell3 : W3.heap[b]? = _ := (hgr.block b (at_lt h.cell) (not_row hacts h.cell (by decide))).trans h.cell
    have hE3 : Ext w0 W3 := grown_ext hE hgr fun k hk => by have := (own_elem hacts hk).1; omega
    have hline3 := h.line.kept hgr (own_apart h.line hacts (by decide))
    have hkill3 := h.kill.kept hgr (own_apart h.kill hacts (by decide))
    have hown3 := hown.kept hgr (own_apart hown hacts (by decide))
    have hold3 : base ≤ W3.heap.size := Nat.le_trans h.old hgr.size
    conv => whnf
    refine ⟨b, 3, _, _, rfl, hcell3, Nat.le_of_ble_eq_true rfl, rfl, rfl, fun W4 hW4 => ?_⟩
    conv => whnf
    intro r hr
    have hr3 : r = ((k + 1 : Nat) : Int) := by rw [hr]; exact wrap_nat (n := c - a) (by omega) (by omega)
    subst hr3
    conv => whnf
    have htk : (gone s a c).take (k + 1) = (gone s a c).take k ++ [(gone s a c).getD k 0] := by
      rw [List.take_succ_eq_append_getElem (by omega)]
      congr 1
      rw [List.getD_eq_getElem?_getD, List.getElem?_eq_getElem (by omega)]
      rfl
    have hal : s.acts ++ ((gone s a c).take (k + 1)).map (fun c => (2, (a : Int), c)) = (s.acts ++ ((gone s a c).take k).map fun c => (2, (a : Int), c)) ++ [(2, (a : Int), (gone s a c).getD k 0)] := by
      rw [htk]; simp
    refine ⟨k + 1, ⟨rfl, rfl, rfl, rfl, rfl, rfl, rfl, trivial⟩, ⟨hW4.e hE3 (by omega), by omega, own_put hown3 hW4 hcell3 (by decide), .slice TA2 (s.acts.length + k + 1) tc2, ?_⟩, by omega⟩
    refine ⟨hW4.at_, own_put hline3 hW4 hcell3 (by decide), own_put hkill3 hW4 hcell3 (by decide), ?_, h.apart, h.le, h.few, by rw [hW4.size]; exact hold3⟩
    dsimp only
    rw [hal, List.length_append, hacl, acells_app]
    exact own_put hacts3 hW4 hcell3 (by decide)
  case false =>
    obtain rfl : k = c - a := by omega
    have htk : (gone s a c).take (c - a) = gone s a c := List.take_of_length_le (by omega)
    rw [htk] at h
    have hin := own_ints hown
    intro t2 ht2
    cases t2 <;> simp only [VB] at ht2 <;> (conv => whnf)
    case false =>
      obtain rfl : c = a := by omega
      have e : s.cut c c = s := by unfold St.cut; rw [if_neg (by omega)]
      have e2 : gone s c c = [] := List.eq_nil_of_length_eq_zero (by omega)
      rw [e]
      rw [e2] at h
      simp only [List.map_nil, List.append_nil] at h
      exact ⟨hE, ⟨_, _, h, hG⟩, by rw [hgl]; exact hown⟩
    case true =>
      have hc1 := h.cell
      dsimp only at hc1
      refine ⟨_, ld hc1 rfl rfl, ?_⟩
      conv => whnf
      have hline := h.line
      dsimp only at hline
      refine (fn34 hline hft ht).mono ?_
      rintro _ W2 ⟨rfl, hline2, hgr⟩
      have hcell2 : W2.heap[b]? = _ := (hgr.block b (at_lt h.cell) (not_row h.line h.cell (by decide))).trans h.cell
      have hE2 : Ext w0 W2 := grown_ext hE hgr fun k hk => by have := (own_elem h.line hk).1; omega
      have hkill2 := h.kill.kept hgr (by
        cases hk : K.ownBlock with
        | none => exact .inl rfl
        | some k => exact .inr fun h2 => h.apart k h2.symm hk)
      have hacts2 := h.acts.kept hgr (own_apart h.acts h.line (by decide))
      have hown2 := hown.kept hgr (by
        cases hk : (Value.slice GA (c - a) gc).ownBlock with
        | none => exact .inl rfl
        | some k => exact .inr fun h2 => (hG k hk).1 h2.symm)
      have hold2 : base ≤ W2.heap.size := Nat.le_trans h.old hgr.size
      dsimp only at hcell2
      conv => whnf
      refine ⟨b, 0, _, _, rfl, hcell2, Nat.le_of_ble_eq_true rfl, rfl, rfl, fun W3 hW3 => ?_⟩
      have hcell3 : W3.heap[b]? = some (.cells #[.slice A (a + (s.line.length - c)) cap, .int .i64 s.at_, K, T'] 60 (0, 0)) := hW3.at_
      conv => whnf
      refine ⟨b, 1, _, _, rfl, hcell3, Nat.le_of_ble_eq_true rfl, rfl, rfl, fun W4 hW4 => ?_⟩
      conv => whnf
      have e : s.cut a c = ⟨s.line.take a ++ s.line.drop c, a, s.kill, s.acts ++ (gone s a c).map fun c => (2, (a : Int), c)⟩ := by unfold St.cut; rw [if_pos (by omega)]
      rw [e]
      have el : (s.line.take a ++ s.line.drop c).length = a + (s.line.length - c) := by simp; omega
      refine ⟨hW4.e (hW3.e hE2 (by omega)) (by omega), ⟨_, _, ⟨hW4.at_, ?_, own_put (own_put hkill2 hW3 hcell2 (by decide)) hW4 hcell3 (by decide), own_put (own_put hacts2 hW3 hcell2 (by decide)) hW4 hcell3 (by decide), fun k hk => h.apart k (by cases A <;> exact hk), ?_, ?_, ?_⟩, fun k hk => ⟨fun h2 => (hG k hk).1 (by cases A <;> exact h2), (hG k hk).2⟩⟩, ?_⟩
      · show W4.ownsRow base 3 1 _ (s.line.take a ++ s.line.drop c).length _
        rw [el]
        exact own_put (own_put hline2 hW3 hcell2 (by decide)) hW4 hcell3 (by decide)
      · show a ≤ (s.line.take a ++ s.line.drop c).length
        omega
      · show (s.line.take a ++ s.line.drop c).length ≤ 100000
        omega
      · rw [hW4.size, hW3.size]; exact hold2
      · rw [hgl]; exact own_put (own_put hown2 hW3 hcell2 (by decide)) hW4 hcell3 (by decide)

def St.killed (s : St) (f t : Nat) : St := if f < t then { s.cut f t with kill := gone s f t } else s
theorem fn63 {w0 w : World} {b base f t : Nat} {s : St} {L K T : Value} (h : WorkAt w b base s L K T) (h0 : Ext w0 w) (hb0 : w0.heap.size ≤ base) (hbb : base ≤ b) (hft : f ≤ t) (ht : t ≤ s.line.length) (hta : s.acts.length + (t - f) ≤ 100000) :
    Ret Try.prog 63 #[.pointer (some ⟨b, 0, none⟩), .int .i64 f, .int .i64 t] w fun v W => Ext w0 W ∧ ∃ L' K' T', WorkAt W b base (s.killed f t) L' K' T' := by
  have hgl : (gone s f t).length = t - f := by simp [gone]; omega
  refine Ret.of_vc tab_ok Try.func63 rfl Try.ntmps63 rfl (Nat.le_of_ble_eq_true rfl) Try.call63 ?_
  conv => whnf
  refine (fn62 h h0 hb0 hbb hft ht hta).mono ?_
  rintro v W ⟨hE, ⟨L', T', hW, hap⟩, hg⟩
  obtain ⟨GA, gc, rfl⟩ := own_form hg
  conv => whnf
  intro t2 ht2
  cases t2 <;> simp only [VB] at ht2 <;> (conv => whnf)
  case false =>
    have e : s.killed f t = s := by unfold St.killed; rw [if_neg (by omega)]
    have e2 : s.cut f t = s := by unfold St.cut; rw [if_neg (by omega)]
    rw [e2] at hW
    rw [e]
    exact ⟨hE, _, _, _, hW⟩
  case true =>
    refine ⟨b, 2, _, _, rfl, hW.cell, Nat.le_of_ble_eq_true rfl, rfl, rfl, fun W3 hW3 => ?_⟩
    conv => whnf
    have e : s.killed f t = { s.cut f t with kill := gone s f t } := by unfold St.killed; rw [if_pos (by omega)]
    rw [e]
    refine ⟨hW3.e hE (by omega), _, _, _, hW3.at_, own_put hW.line hW3 hW.cell (by decide), own_put hg hW3 hW.cell (by decide), own_put hW.acts hW3 hW.cell (by decide), ?_, hW.le, hW.few, by rw [hW3.size]; exact hW.old⟩
    intro k hk hk2
    exact (hap k hk2).1 hk
end Go.Proofs.Ythphdaeaicjgmaa
