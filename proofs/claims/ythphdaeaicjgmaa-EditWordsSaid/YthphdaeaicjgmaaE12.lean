/- edit's work: the ways of keys. -/
import Derived.Test.YthphdaeaicjgmaaE11
namespace Go.Proofs.Ythphdaeaicjgmaa
open Go Go.VC Go.RowKit
set_option linter.unusedVariables false
set_option linter.unusedSimpArgs false
set_option maxRecDepth 100000

def St.home (s : St) : St := { s with at_ := 0 }
def St.end' (s : St) : St := { s with at_ := s.line.length }
def St.left (s : St) : St := { s with at_ := s.at_ - 1 }
def St.right (s : St) : St := { s with at_ := min (s.at_ + 1) s.line.length }
def St.wback (s : St) : St := { s with at_ := wordBack s.line s.at_ }
def St.won (s : St) : St := { s with at_ := wordOn s.line s.at_ }
def St.rub (s : St) : St := s.cut (s.at_ - 1) s.at_
def St.del (s : St) : St := s.cut s.at_ (min (s.at_ + 1) s.line.length)
def St.killOn (s : St) : St := s.killed s.at_ s.line.length
def St.killBack (s : St) : St := s.killed 0 s.at_
def St.killWord (s : St) : St := s.killed (wordBack s.line s.at_) s.at_
def St.killNext (s : St) : St := s.killed s.at_ (wordOn s.line s.at_)
def St.puts (s : St) : List Int → St
  | [] => s
  | c :: l => if (s.put c).2 then (s.put c).1.puts l else s
def St.yank (s : St) : St := s.puts s.kill
def St.swap (s : St) : St :=
  if s.line.length < 2 ∨ s.at_ = 0 then s
  else if 1000 < s.line.length ∨ runeOk (s.line.getD (min s.at_ (s.line.length - 1) - 1) 0) = false then s
  else ({ s.cut (min s.at_ (s.line.length - 1) - 1) (min s.at_ (s.line.length - 1)) with at_ := min s.at_ (s.line.length - 1) }.put (s.line.getD (min s.at_ (s.line.length - 1) - 1) 0)).1

theorem wordOn_ge (l : List Int) (a : Nat) (h : a ≤ l.length) : a ≤ wordOn l a := by
  unfold wordOn
  split
  · omega
  · split <;> omega
theorem wordBack_le (l : List Int) (a : Nat) : wordBack l a ≤ a := Nat.sub_le _ _

theorem WorkAt.atv {w W : World} {b base a : Nat} {s : St} {L K T : Value} (h : WorkAt w b base s L K T) (hp : Put w b (.cells #[L, .int .i64 a, K, T] 60 (0, 0)) W) (ha : a ≤ s.line.length) : WorkAt W b base { s with at_ := a } L K T :=
  ⟨hp.at_, own_put h.line hp h.cell (by decide), own_put h.kill hp h.cell (by decide), own_put h.acts hp h.cell (by decide), h.apart, ha, h.few, by rw [hp.size]; exact h.old⟩
theorem heldV_id {n a : Nat} (h : a ≤ n) : heldV n a = a := by unfold heldV; omega
theorem row_cap {w : World} {base e n c : Nat} {A : Option Addr} {xs : List Value} (h : w.ownsRow base e 1 (.slice A n c) n xs) : n ≤ c ∧ c ≤ 9223372036854775807 := by
  rcases h.2 with ⟨h1, h2⟩ | ⟨g, cap2, cur, h1, _, _, h2, h3, _⟩
  · injection h1 with h4 h5 h6; omega
  · injection h1 with h4 h5 h6; simp only [maxLen] at h3; omega

def Way (f : Nat) (g : St → St) : Prop := ∀ (w0 w : World) (b base : Nat) (s : St) (L K T : Value), WorkAt w b base s L K T → Ext w0 w → w0.heap.size ≤ base → base ≤ b → s.line.length ≤ 3000 → s.kill.length ≤ 3000 → s.acts.length ≤ 3000 →
  Ret Try.prog f #[.pointer (some ⟨b, 0, none⟩)] w fun v W => Ext w0 W ∧ ∃ L' K' T', WorkAt W b base (g s) L' K' T'

theorem fn43 : Way 43 St.home := by
  intro w0 w b base s L K T h h0 hb0 hbb hl1 hk1 ha1
  refine Ret.of_vc tab_ok Try.func43 rfl Try.ntmps43 rfl (Nat.le_of_ble_eq_true rfl) Try.call43 ?_
  conv => whnf
  refine ⟨b, 1, _, _, rfl, h.cell, Nat.le_of_ble_eq_true rfl, rfl, rfl, fun W hW => ?_⟩
  conv => whnf
  exact ⟨hW.e h0 (by omega), _, _, _, h.atv (a := 0) hW (Nat.zero_le _)⟩
theorem fn44 : Way 44 St.end' := by
  intro w0 w b base s L K T h h0 hb0 hbb hl1 hk1 ha1
  obtain ⟨A, cap, rfl⟩ := own_form h.line
  refine Ret.of_vc tab_ok Try.func44 rfl Try.ntmps44 rfl (Nat.le_of_ble_eq_true rfl) Try.call44 ?_
  conv => whnf
  refine ⟨_, ld h.cell rfl rfl, ?_⟩
  conv => whnf
  refine ⟨b, 1, _, _, rfl, h.cell, Nat.le_of_ble_eq_true rfl, rfl, rfl, fun W hW => ?_⟩
  conv => whnf
  exact ⟨hW.e h0 (by omega), _, _, _, h.atv (a := s.line.length) hW (Nat.le_refl _)⟩
theorem fn45 : Way 45 St.left := by
  intro w0 w b base s L K T h h0 hb0 hbb hl1 hk1 ha1
  obtain ⟨A, cap, rfl⟩ := own_form h.line
  have hle := h.le
  have hcell := h.cell
  refine Ret.of_vc tab_ok Try.func45 rfl Try.ntmps45 rfl (Nat.le_of_ble_eq_true rfl) Try.call45 ?_
  conv => whnf
  refine VDraw.mk' tab_ok (fun V => V.heap[b]? = w.heap[b]?) [16] (.take 0 <| .take 1 <| .take 2 <| .take 3 <| .take 4 <| .take 5 <| .take 6 <| .take 7 <| .take 8 <| .take 9 <| .take 10 <| .take 11 <| .one 12 <| .take 13 <| .take 14 <| .take 15 <| .one 16 <| .done) mixed (by kernel_rfl) (by kernel_rfl) rfl ?_
  conv => whnf
  refine ⟨_, fun w' hs => ld (hs.trans hcell) rfl rfl, ?_⟩
  conv => whnf
  refine ⟨_, fun w' hs => ld (hs.trans hcell) rfl rfl, ?_⟩
  conv => whnf
  intro r hr
  rw [wrap_id (by omega) (by omega)] at hr
  conv => whnf
  refine (fn26 _ _ _ _ _).mono ?_
  rintro _ _ ⟨rfl, rfl⟩
  have e : heldV s.line.length r = s.at_ - 1 := by subst hr; unfold heldV; omega
  rw [e]
  conv => whnf
  refine ⟨rfl, ?_⟩
  conv => whnf
  refine ⟨b, 1, _, _, rfl, (h.ext (Ext.drew w)).cell, Nat.le_of_ble_eq_true rfl, rfl, rfl, fun W hW => ?_⟩
  conv => whnf
  exact ⟨hW.e (h0.tr (Ext.drew w)) (by omega), _, _, _, (h.ext (Ext.drew w)).atv (a := s.at_ - 1) hW (by omega)⟩
theorem fn46 : Way 46 St.right := by
  intro w0 w b base s L K T h h0 hb0 hbb hl1 hk1 ha1
  obtain ⟨A, cap, rfl⟩ := own_form h.line
  have hle := h.le
  have hcell := h.cell
  refine Ret.of_vc tab_ok Try.func46 rfl Try.ntmps46 rfl (Nat.le_of_ble_eq_true rfl) Try.call46 ?_
  conv => whnf
  refine VDraw.mk' tab_ok (fun V => V.heap[b]? = w.heap[b]?) [16] (.take 0 <| .take 1 <| .take 2 <| .take 3 <| .take 4 <| .take 5 <| .take 6 <| .take 7 <| .take 8 <| .take 9 <| .take 10 <| .take 11 <| .one 12 <| .take 13 <| .take 14 <| .take 15 <| .one 16 <| .done) mixed (by kernel_rfl) (by kernel_rfl) rfl ?_
  conv => whnf
  refine ⟨_, fun w' hs => ld (hs.trans hcell) rfl rfl, ?_⟩
  conv => whnf
  refine ⟨_, fun w' hs => ld (hs.trans hcell) rfl rfl, ?_⟩
  conv => whnf
  intro r hr
  rw [wrap_id (by omega) (by omega)] at hr
  conv => whnf
  refine (fn26 _ _ _ _ _).mono ?_
  rintro _ _ ⟨rfl, rfl⟩
  have e : heldV s.line.length r = min (s.at_ + 1) s.line.length := by subst hr; unfold heldV; omega
  rw [e]
  conv => whnf
  refine ⟨rfl, ?_⟩
  conv => whnf
  refine ⟨b, 1, _, _, rfl, (h.ext (Ext.drew w)).cell, Nat.le_of_ble_eq_true rfl, rfl, rfl, fun W hW => ?_⟩
  conv => whnf
  exact ⟨hW.e (h0.tr (Ext.drew w)) (by omega), _, _, _, (h.ext (Ext.drew w)).atv (a := min (s.at_ + 1) s.line.length) hW (by omega)⟩
theorem fn47 : Way 47 St.rub := by
  intro w0 w b base s L K T h h0 hb0 hbb hl1 hk1 ha1
  obtain ⟨A, cap, rfl⟩ := own_form h.line
  have hle := h.le
  have hcell := h.cell
  refine Ret.of_vc tab_ok Try.func47 rfl Try.ntmps47 rfl (Nat.le_of_ble_eq_true rfl) Try.call47 ?_
  conv => whnf
  refine VDraw.mk' tab_ok (fun V => V.heap[b]? = w.heap[b]?) [18] (.take 0 <| .take 1 <| .take 2 <| .take 3 <| .take 4 <| .take 5 <| .take 6 <| .take 7 <| .take 8 <| .take 9 <| .take 10 <| .take 11 <| .take 13 <| .take 14 <| .take 15 <| .take 16 <| .take 17 <| .one 12 <| .one 18 <| .done) mixed (by kernel_rfl) (by kernel_rfl) rfl ?_
  conv => whnf
  refine ⟨_, fun w' hs => ld (hs.trans hcell) rfl rfl, ?_⟩
  conv => whnf
  refine ⟨_, fun w' hs => ld (hs.trans hcell) rfl rfl, ?_⟩
  conv => whnf
  intro r hr
  rw [wrap_id (by omega) (by omega)] at hr
  conv => whnf
  refine ⟨_, fun w' hs => ld (hs.trans hcell) rfl rfl, ?_⟩
  conv => whnf
  refine (fn26 _ _ _ _ _).mono ?_
  rintro _ _ ⟨rfl, rfl⟩
  have e : heldV s.line.length r = s.at_ - 1 := by subst hr; unfold heldV; omega
  rw [e]
  conv => whnf
  refine ⟨rfl, ?_⟩
  conv => whnf
  refine (fn62 (h.ext (Ext.drew w)) (h0.tr (Ext.drew w)) hb0 hbb (f := s.at_ - 1) (t := s.at_) (by omega) hle (by omega)).mono ?_
  rintro v W ⟨hE, ⟨L', T', hW, _⟩, _⟩
  conv => whnf
  exact ⟨hE, _, _, _, hW⟩
theorem fn48 : Way 48 St.del := by
  intro w0 w b base s L K T h h0 hb0 hbb hl1 hk1 ha1
  obtain ⟨A, cap, rfl⟩ := own_form h.line
  have hle := h.le
  have hcell := h.cell
  refine Ret.of_vc tab_ok Try.func48 rfl Try.ntmps48 rfl (Nat.le_of_ble_eq_true rfl) Try.call48 ?_
  conv => whnf
  refine VDraw.mk' tab_ok (fun V => V.heap[b]? = w.heap[b]?) [18] (.take 0 <| .take 1 <| .take 2 <| .take 3 <| .take 4 <| .take 5 <| .take 6 <| .take 7 <| .take 8 <| .take 9 <| .take 10 <| .take 11 <| .take 12 <| .take 13 <| .take 14 <| .take 15 <| .take 16 <| .one 17 <| .one 18 <| .done) mixed (by kernel_rfl) (by kernel_rfl) rfl ?_
  conv => whnf
  refine ⟨_, fun w' hs => ld (hs.trans hcell) rfl rfl, ?_⟩
  conv => whnf
  refine ⟨_, fun w' hs => ld (hs.trans hcell) rfl rfl, ?_⟩
  conv => whnf
  refine ⟨_, fun w' hs => ld (hs.trans hcell) rfl rfl, ?_⟩
  conv => whnf
  intro r hr
  rw [wrap_id (by omega) (by omega)] at hr
  conv => whnf
  refine (fn26 _ _ _ _ _).mono ?_
  rintro _ _ ⟨rfl, rfl⟩
  have e : heldV s.line.length r = min (s.at_ + 1) s.line.length := by subst hr; unfold heldV; omega
  rw [e]
  conv => whnf
  refine ⟨rfl, ?_⟩
  conv => whnf
  refine (fn62 (h.ext (Ext.drew w)) (h0.tr (Ext.drew w)) hb0 hbb (f := s.at_) (t := min (s.at_ + 1) s.line.length) (by omega) (by omega) (by omega)).mono ?_
  rintro v W ⟨hE, ⟨L', T', hW, _⟩, _⟩
  conv => whnf
  exact ⟨hE, _, _, _, hW⟩
theorem fn49 : Way 49 St.killOn := by
  intro w0 w b base s L K T h h0 hb0 hbb hl1 hk1 ha1
  obtain ⟨A, cap, rfl⟩ := own_form h.line
  have hle := h.le
  have hcell := h.cell
  refine Ret.of_vc tab_ok Try.func49 rfl Try.ntmps49 rfl (Nat.le_of_ble_eq_true rfl) Try.call49 ?_
  conv => whnf
  refine VDraw.mk' tab_ok (fun V => V.heap[b]? = w.heap[b]?) [12] (.take 0 <| .take 1 <| .take 2 <| .take 3 <| .take 4 <| .take 5 <| .take 6 <| .take 7 <| .take 8 <| .take 9 <| .take 10 <| .take 11 <| .one 12 <| .done) mixed (by kernel_rfl) (by kernel_rfl) rfl ?_
  conv => whnf
  refine ⟨_, fun w' hs => ld (hs.trans hcell) rfl rfl, ?_⟩
  conv => whnf
  refine ⟨_, fun w' hs => ld (hs.trans hcell) rfl rfl, ?_⟩
  conv => whnf
  refine (fn63 (h.ext (Ext.drew w)) (h0.tr (Ext.drew w)) hb0 hbb (f := s.at_) (t := s.line.length) (by omega) (by omega) (by omega)).mono ?_
  rintro v W ⟨hE, L', K', T', hW⟩
  conv => whnf
  exact ⟨hE, _, _, _, hW⟩
theorem fn50 : Way 50 St.killBack := by
  intro w0 w b base s L K T h h0 hb0 hbb hl1 hk1 ha1
  have hle := h.le
  have hcell := h.cell
  refine Ret.of_vc tab_ok Try.func50 rfl Try.ntmps50 rfl (Nat.le_of_ble_eq_true rfl) Try.call50 ?_
  conv => whnf
  refine ⟨_, ld hcell rfl rfl, ?_⟩
  conv => whnf
  refine (fn63 h h0 hb0 hbb (f := 0) (t := s.at_) (by omega) (by omega) (by omega)).mono ?_
  rintro v W ⟨hE, L', K', T', hW⟩
  conv => whnf
  exact ⟨hE, _, _, _, hW⟩
theorem fn51 : Way 51 St.killWord := by
  intro w0 w b base s L K T h h0 hb0 hbb hl1 hk1 ha1
  obtain ⟨A, cap, rfl⟩ := own_form h.line
  have hle := h.le
  have hcell := h.cell
  refine Ret.of_vc tab_ok Try.func51 rfl Try.ntmps51 rfl (Nat.le_of_ble_eq_true rfl) Try.call51 ?_
  conv => whnf
  refine VDraw.mk' tab_ok (fun V => V.heap[b]? = w.heap[b]?) [17] (.take 0 <| .take 1 <| .take 2 <| .take 3 <| .take 4 <| .take 5 <| .take 6 <| .take 7 <| .take 8 <| .take 9 <| .take 10 <| .take 12 <| .take 13 <| .take 14 <| .take 15 <| .take 16 <| .one 11 <| .one 17 <| .done) mixed (by kernel_rfl) (by kernel_rfl) rfl ?_
  conv => whnf
  refine ⟨_, fun w' hs => ld (hs.trans hcell) rfl rfl, ?_⟩
  conv => whnf
  refine ⟨_, fun w' hs => ld (hs.trans hcell) rfl rfl, ?_⟩
  conv => whnf
  refine ⟨_, fun w' hs => ld (hs.trans hcell) rfl rfl, ?_⟩
  conv => whnf
  have hd := Ext.drew w
  have hb1 := at_lt hcell
  refine (fn22back _ _ _ _ _ _ (own_ints (h.ext hd).line) (row_cap h.line).1 (by omega)).mono ?_
  rintro _ W1 ⟨hE1, rfl⟩
  have hW1 := (h.ext hd).ext hE1
  rw [heldV_id hle]
  conv => whnf
  refine ⟨(hd.tr hE1).block b hb1, ?_⟩
  conv => whnf
  refine (fn63 hW1 ((h0.tr hd).tr hE1) hb0 hbb (f := wordBack s.line s.at_) (t := s.at_) (wordBack_le _ _) (by omega) (by omega)).mono ?_
  rintro v W ⟨hE, L', K', T', hW⟩
  conv => whnf
  exact ⟨hE, _, _, _, hW⟩
theorem fn54 : Way 54 St.wback := by
  intro w0 w b base s L K T h h0 hb0 hbb hl1 hk1 ha1
  obtain ⟨A, cap, rfl⟩ := own_form h.line
  have hle := h.le
  have hcell := h.cell
  refine Ret.of_vc tab_ok Try.func54 rfl Try.ntmps54 rfl (Nat.le_of_ble_eq_true rfl) Try.call54 ?_
  conv => whnf
  refine VDraw.mk' tab_ok (fun V => V.heap[b]? = w.heap[b]?) [11, 15] (.take 0 <| .take 1 <| .take 2 <| .take 3 <| .take 4 <| .take 5 <| .take 6 <| .take 7 <| .take 8 <| .take 9 <| .take 10 <| .one 11 <| .take 12 <| .take 13 <| .take 14 <| .one 15 <| .done) mixed (by kernel_rfl) (by kernel_rfl) rfl ?_
  conv => whnf
  refine ⟨_, fun w' hs => ld (hs.trans hcell) rfl rfl, ?_⟩
  conv => whnf
  refine ⟨_, fun w' hs => ld (hs.trans hcell) rfl rfl, ?_⟩
  conv => whnf
  have hd := Ext.drew w
  have hb1 := at_lt hcell
  refine (fn22back _ _ _ _ _ _ (own_ints (h.ext hd).line) (row_cap h.line).1 (by omega)).mono ?_
  rintro _ W1 ⟨hE1, rfl⟩
  have hW1 := (h.ext hd).ext hE1
  rw [heldV_id hle]
  conv => whnf
  refine ⟨b, 1, _, _, rfl, hW1.cell, Nat.le_of_ble_eq_true rfl, rfl, rfl, fun W hW => ?_⟩
  conv => whnf
  exact ⟨hW.e ((h0.tr hd).tr hE1) (by omega), _, _, _, hW1.atv (a := wordBack s.line s.at_) hW (Nat.le_trans (wordBack_le _ _) hle)⟩
theorem fn55 : Way 55 St.won := by
  intro w0 w b base s L K T h h0 hb0 hbb hl1 hk1 ha1
  obtain ⟨A, cap, rfl⟩ := own_form h.line
  have hle := h.le
  have hcell := h.cell
  refine Ret.of_vc tab_ok Try.func55 rfl Try.ntmps55 rfl (Nat.le_of_ble_eq_true rfl) Try.call55 ?_
  conv => whnf
  refine VDraw.mk' tab_ok (fun V => V.heap[b]? = w.heap[b]?) [11, 15] (.take 0 <| .take 1 <| .take 2 <| .take 3 <| .take 4 <| .take 5 <| .take 6 <| .take 7 <| .take 8 <| .take 9 <| .take 10 <| .one 11 <| .take 12 <| .take 13 <| .take 14 <| .one 15 <| .done) mixed (by kernel_rfl) (by kernel_rfl) rfl ?_
  conv => whnf
  refine ⟨_, fun w' hs => ld (hs.trans hcell) rfl rfl, ?_⟩
  conv => whnf
  refine ⟨_, fun w' hs => ld (hs.trans hcell) rfl rfl, ?_⟩
  conv => whnf
  have hd := Ext.drew w
  have hb1 := at_lt hcell
  refine (fn22on _ _ _ _ _ _ (own_ints (h.ext hd).line) (row_cap h.line).1 (row_cap h.line).2).mono ?_
  rintro _ W1 ⟨hE1, rfl⟩
  have hW1 := (h.ext hd).ext hE1
  rw [heldV_id hle]
  conv => whnf
  refine ⟨b, 1, _, _, rfl, hW1.cell, Nat.le_of_ble_eq_true rfl, rfl, rfl, fun W hW => ?_⟩
  conv => whnf
  exact ⟨hW.e ((h0.tr hd).tr hE1) (by omega), _, _, _, hW1.atv (a := wordOn s.line s.at_) hW (wordOn_le _ _ hle)⟩
theorem fn56 : Way 56 St.killNext := by
  intro w0 w b base s L K T h h0 hb0 hbb hl1 hk1 ha1
  obtain ⟨A, cap, rfl⟩ := own_form h.line
  have hle := h.le
  have hcell := h.cell
  refine Ret.of_vc tab_ok Try.func56 rfl Try.ntmps56 rfl (Nat.le_of_ble_eq_true rfl) Try.call56 ?_
  conv => whnf
  refine VDraw.mk' tab_ok (fun V => V.heap[b]? = w.heap[b]?) [17] (.take 0 <| .take 1 <| .take 2 <| .take 3 <| .take 4 <| .take 5 <| .take 6 <| .take 7 <| .take 8 <| .take 9 <| .take 10 <| .take 11 <| .take 12 <| .take 13 <| .take 14 <| .take 15 <| .one 16 <| .one 17 <| .done) mixed (by kernel_rfl) (by kernel_rfl) rfl ?_
  conv => whnf
  refine ⟨_, fun w' hs => ld (hs.trans hcell) rfl rfl, ?_⟩
  conv => whnf
  refine ⟨_, fun w' hs => ld (hs.trans hcell) rfl rfl, ?_⟩
  conv => whnf
  refine ⟨_, fun w' hs => ld (hs.trans hcell) rfl rfl, ?_⟩
  conv => whnf
  have hd := Ext.drew w
  have hb1 := at_lt hcell
  refine (fn22on _ _ _ _ _ _ (own_ints (h.ext hd).line) (row_cap h.line).1 (row_cap h.line).2).mono ?_
  rintro _ W1 ⟨hE1, rfl⟩
  have hW1 := (h.ext hd).ext hE1
  rw [heldV_id hle]
  conv => whnf
  refine ⟨(hd.tr hE1).block b hb1, ?_⟩
  conv => whnf
  have h1 := wordOn_le s.line s.at_ hle
  refine (fn63 hW1 ((h0.tr hd).tr hE1) hb0 hbb (f := s.at_) (t := wordOn s.line s.at_) (wordOn_ge _ _ hle) h1 (by omega)).mono ?_
  rintro v W ⟨hE, L', K', T', hW⟩
  conv => whnf
  exact ⟨hE, _, _, _, hW⟩
end Go.Proofs.Ythphdaeaicjgmaa
