/- edit's work: what it holds; put. -/
import Derived.Test.YthphdaeaicjgmaaE9
namespace Go.Proofs.Ythphdaeaicjgmaa
open Go Go.VC Go.RowKit
set_option linter.unusedVariables false
set_option linter.unusedSimpArgs false
set_option maxRecDepth 100000

/-- A line, a caret, what was killed, what was done. -/
structure St where
  line : List Int
  at_ : Nat
  kill : List Int
  acts : List (Int × Int × Int)
def acells (l : List (Int × Int × Int)) : List Value := l.flatMap fun p => [.int .i64 p.1, .int .i64 p.2.1, .int .i64 p.2.2]
theorem acells_app (l m : List (Int × Int × Int)) : acells (l ++ m) = acells l ++ acells m := by simp [acells]
/-- A work in memory: its own rows. -/
structure WorkAt (w : World) (b base : Nat) (s : St) (L K T : Value) : Prop where
  cell : w.heap[b]? = some (.cells #[L, .int .i64 s.at_, K, T] 60 (0, 0))
  line : w.ownsRow base 3 1 L s.line.length (ints s.line)
  kill : w.ownsRow base 3 1 K s.kill.length (ints s.kill)
  acts : w.ownsRow base 73 3 T s.acts.length (acells s.acts)
  apart : ∀ k, L.ownBlock = some k → K.ownBlock ≠ some k
  le : s.at_ ≤ s.line.length
  few : s.line.length ≤ 100000
  old : base ≤ w.heap.size
theorem WorkAt.ext {w W : World} {b base : Nat} {s : St} {L K T : Value} (h : WorkAt w b base s L K T) (he : Ext w W) : WorkAt W b base s L K T :=
  ⟨he.at_ h.cell, own_ext h.line he, own_ext h.kill he, own_ext h.acts he, h.apart, h.le, h.few, Nat.le_trans h.old he.le⟩

/-- What put does. -/
def St.put (s : St) (c : Int) : St × Bool :=
  if 1000 ≤ s.line.length ∨ runeOk c = false then (s, false)
  else (⟨s.line.take s.at_ ++ c :: s.line.drop s.at_, s.at_ + 1, s.kill, s.acts ++ [(1, (s.at_ : Int), c)]⟩, true)

theorem own_elem {w : World} {base e size n k : Nat} {v : Value} {xs : List Value} (h : w.ownsRow base e size v n xs) (hk : v.ownBlock = some k) : base ≤ k ∧ ∃ cs, w.heap[k]? = some (.cells cs e (0, 0)) := by
  rcases h.2 with ⟨rfl, _⟩ | ⟨g, cap, cur, rfl, hb, hg, _⟩
  · simp [Value.ownBlock] at hk
  · have : g = k := by simpa [Value.ownBlock] using hk
    subst this
    exact ⟨hb, _, hg⟩
theorem own_apart {w : World} {base base' e e' size size' n n' : Nat} {v v' : Value} {xs xs' : List Value} (h : w.ownsRow base e size v n xs) (h' : w.ownsRow base' e' size' v' n' xs') (hne : e ≠ e') : v.ownBlock = none ∨ v.ownBlock ≠ v'.ownBlock := by
  cases hv : v.ownBlock with
  | none => exact .inl rfl
  | some k =>
    refine .inr fun hk => ?_
    obtain ⟨_, cs, h1⟩ := own_elem h hv
    obtain ⟨_, ds, h2⟩ := own_elem h' hk.symm
    rw [h1] at h2
    injection h2 with h2
    injection h2 with _ h2
    exact hne h2
theorem own_put {w W : World} {base e e' size n b : Nat} {v : Value} {xs : List Value} {cs : Array Value} {f : Nat × Nat} {o : Obj} (h : w.ownsRow base e size v n xs) (hp : Put w b o W) (hb : w.heap[b]? = some (.cells cs e' f)) (hne : e ≠ e') : W.ownsRow base e size v n xs := by
  refine ⟨h.1, ?_⟩
  rcases h.2 with h2 | ⟨g, cap, cur, h3, h4, h5, h6⟩
  · exact .inl h2
  · refine .inr ⟨g, cap, cur, h3, h4, hp.keep h5 (fun e1 => ?_), h6⟩
    subst e1
    rw [h5] at hb
    injection hb with hb
    injection hb with _ hb
    exact hne hb
theorem not_row {w : World} {base e e' size n b : Nat} {v : Value} {xs : List Value} {cs : Array Value} {f : Nat × Nat} (h : w.ownsRow base e size v n xs) (hb : w.heap[b]? = some (.cells cs e' f)) (hne : e ≠ e') : some b ≠ v.ownBlock := fun hk => by
  obtain ⟨_, ds, h1⟩ := own_elem h hk.symm
  rw [h1] at hb
  injection hb with hb
  injection hb with _ hb
  exact hne hb
theorem inf73 : (Try.prog.info? 73).map (fun i => (i.zero, i.size, i.bytes)) = some (some (.agg #[.int .i64 0, .int .i64 0, .int .i64 0]), 3, 24) := by kernel_rfl
theorem build73 (a b c : Int) (w : World) : (Instr.build 73 #[(0, .int .i64 a), (1, .int .i64 b), (2, .int .i64 c)]).run Try.prog w = .ok (.agg #[.int .i64 a, .int .i64 b, .int .i64 c]) w := by kernel_rfl
theorem slice30_1 (a b c : Int) (w : World) : (Instr.buildSlice 30 1 #[(0, .agg #[.int .i64 a, .int .i64 b, .int .i64 c])]).run Try.prog w = .ok (.slice (some ⟨w.heap.size, 0, none⟩) 1 1) (w.alloc (.cells #[.int .i64 a, .int .i64 b, .int .i64 c] 73)) := by kernel_rfl
theorem slice22_1 (a : Int) (w : World) : (Instr.buildSlice 22 1 #[(0, .int .i64 a)]).run Try.prog w = .ok (.slice (some ⟨w.heap.size, 0, none⟩) 1 1) (w.alloc (.cells #[.int .i64 a] 3)) := by kernel_rfl
theorem rd_three {W : World} {g : Nat} {a b c : Int} (h : W.heap[g]? = some (.cells #[.int .i64 a, .int .i64 b, .int .i64 c] 73 (0, 0))) : Rd W 3 (some ⟨g, 0, none⟩) 1 [.int .i64 a, .int .i64 b, .int .i64 c] := by
  refine ⟨rfl, fun i u hu => ⟨_, rfl, ?_⟩⟩
  rw [add_plain_, cell_of_at h]
  match i, hu with
  | 0, hu => simpa using hu
  | 1, hu => simpa using hu
  | 2, hu => simpa using hu
  | i + 3, hu => simp at hu

set_option maxHeartbeats 4000000
theorem fn27 {w0 w : World} {b base : Nat} {s : St} {L K T : Value} (c : Int) (h : WorkAt w b base s L K T) (h0 : Ext w0 w) (hb0 : w0.heap.size ≤ base) (hbb : base ≤ b) (hta : s.acts.length ≤ 100000) :
    Ret Try.prog 27 #[.pointer (some ⟨b, 0, none⟩), .int .i64 c] w fun v W => v = .bool (s.put c).2 ∧ Ext w0 W ∧ ∃ L' T', WorkAt W b base (s.put c).1 L' K T' := by
  obtain ⟨A, cap, rfl⟩ := own_form h.line
  obtain ⟨TA, tc, rfl⟩ := own_form h.acts
  refine Ret.of_vc tab_ok Try.func27 rfl Try.ntmps27 rfl (Nat.le_of_ble_eq_true rfl) Try.call27 ?_
  conv => whnf
  refine ⟨_, ld h.cell rfl rfl, ?_⟩
  conv => whnf
  intro t ht
  cases t <;> simp only [VB] at ht <;> (conv => whnf)
  case true =>
    have e : s.put c = (s, false) := by unfold St.put; rw [if_pos (.inl (by omega))]
    rw [e]
    exact ⟨rfl, h0, _, _, h⟩
  refine (fn40 c w).mono ?_
  rintro _ _ ⟨rfl, rfl⟩
  cases hr : runeOk c <;> (conv => whnf)
  case false =>
    have e : s.put c = (s, false) := by unfold St.put; rw [if_pos (.inr hr)]
    rw [e]
    exact ⟨rfl, h0, _, _, h⟩
  have e : s.put c = (⟨s.line.take s.at_ ++ c :: s.line.drop s.at_, s.at_ + 1, s.kill, s.acts ++ [(1, (s.at_ : Int), c)]⟩, true) := by
    unfold St.put; rw [if_neg (by rw [hr]; simp; omega)]
  rw [e]
  clear e
  refine VDraw.mk' tab_ok (fun V => V.heap[b]? = w.heap[b]?) [16] (.take 0 <| .take 1 <| .take 2 <| .take 3 <| .take 4 <| .take 5 <| .take 6 <| .take 7 <| .take 8 <| .take 9 <| .take 10 <| .one 11 <| .one 12 <| .one 13 <| .take 14 <| .take 15 <| .one 16 <| .done) mixed (by kernel_rfl) (by kernel_rfl) rfl ?_
  have hd := Ext.drew w
  have hbl : w.drew.heap[b]? = w.heap[b]? := rfl
  replace h0 := h0.tr hd
  have hcell := h.cell
  replace h := h.ext hd
  generalize w.drew = W1 at hd h h0 hbl ⊢
  conv => whnf
  refine ⟨_, fun w' hs => ld (hs.trans hcell) rfl rfl, ?_⟩
  conv => whnf
  refine ⟨_, fun w' hs => ld (hs.trans hcell) rfl rfl, ?_⟩
  conv => whnf
  refine Run.mk' _ _ (build73 _ _ _ _) ?_
  conv => whnf
  refine ⟨hbl, ?_⟩
  conv => whnf
  refine Run.mk' _ _ (slice30_1 _ _ _ _) ?_
  have hN := New.mk' W1 (.cells #[.int .i64 1, .int .i64 s.at_, .int .i64 c] 73)
  generalize W1.alloc (.cells #[.int .i64 1, .int .i64 s.at_, .int .i64 c] 73) = W2 at hN ⊢
  have hat := hN.at_
  have hbl2 : W2.heap[b]? = w.heap[b]? := (hN.e.block b (by have := at_lt h.cell; omega)).trans hbl
  replace h0 := h0.tr hN.e
  replace h := h.ext hN.e
  clear hN hbl
  generalize W1.heap.size = g1 at hat ⊢
  conv => whnf
  refine ⟨hbl2, ?_⟩
  conv => whnf
  refine run_append inf73 Try.underlying30 rfl (by decide) h.acts (rd_three hat) (by intro u hu; simp at hu; rcases hu with rfl | rfl | rfl <;> rfl) (by simp only [maxLen]; omega) (by omega) h.old ?_
  intro v' W3 hacts hgr hown
  obtain ⟨TA', tc', rfl⟩ := own_form hacts
  have hcell3 : W3.heap[b]? = _ := (hgr.block b (at_lt h.cell) (not_row h.acts h.cell (by decide))).trans h.cell
  have h03 : Ext w0 W3 := grown_ext h0 hgr fun k hk => by have := (own_elem h.acts hk).1; omega
  have hline3 := h.line.kept hgr (own_apart h.line h.acts (by decide))
  have hkill3 := h.kill.kept hgr (own_apart h.kill h.acts (by decide))
  have hold3 : base ≤ W3.heap.size := Nat.le_trans h.old hgr.size
  have hap := h.apart
  have hle := h.le
  have hfew := h.few
  clear h h0 hgr hown hat hbl2 hd
  conv => whnf
  refine ⟨hcell3.trans hcell.symm, ?_⟩
  conv => whnf
  refine ⟨b, 3, _, _, rfl, hcell3, Nat.le_of_ble_eq_true rfl, rfl, rfl, fun W4 hW4 => ?_⟩
  have hcell4 : W4.heap[b]? = some (.cells #[.slice A s.line.length cap, .int .i64 s.at_, K, .slice TA' (s.acts.length + 1) tc'] 60 (0, 0)) := hW4.at_
  have h04 := hW4.e h03 (by omega)
  have hline4 := own_put hline3 hW4 hcell3 (by decide)
  have hkill4 := own_put hkill3 hW4 hcell3 (by decide)
  have hacts4 := own_put hacts hW4 hcell3 (by decide)
  have hold4 : base ≤ W4.heap.size := by rw [hW4.size]; exact hold3
  clear hW4 hline3 hkill3 hacts hold3 hcell3 h03
  conv => whnf
  refine VDraw.mk' tab_ok (fun V => V.heap[b]? = W4.heap[b]?) [17] (.take 0 <| .take 1 <| .take 2 <| .take 3 <| .take 4 <| .take 5 <| .take 6 <| .take 7 <| .take 8 <| .take 9 <| .take 10 <| .take 11 <| .one 12 <| .one 13 <| .take 14 <| .take 15 <| .take 16 <| .one 17 <| .done) mixed (by kernel_rfl) (by kernel_rfl) rfl ?_
  have hd := Ext.drew W4
  have hbl : W4.drew.heap[b]? = W4.heap[b]? := rfl
  replace h04 := h04.tr hd
  replace hline4 := own_ext hline4 hd
  replace hkill4 := own_ext hkill4 hd
  replace hacts4 := own_ext hacts4 hd
  have hold5 := Nat.le_trans hold4 hd.le
  generalize W4.drew = W5 at hd h04 hline4 hkill4 hacts4 hbl hold5 ⊢
  conv => whnf
  refine ⟨_, fun w' hs => ld (hs.trans hcell4) rfl rfl, ?_⟩
  conv => whnf
  refine ⟨_, fun w' hs => ld (hs.trans hcell4) rfl rfl, ?_⟩
  conv => whnf
  refine Run.mk' _ _ (slice22_1 _ _) ?_
  have hN := New.mk' W5 (.cells #[.int .i64 c] 3)
  generalize W5.alloc (.cells #[.int .i64 c] 3) = W6 at hN ⊢
  have hat := hN.at_
  have hbl6 : W6.heap[b]? = W4.heap[b]? := (hN.e.block b (by have := at_lt hcell4; have := hd.le; omega)).trans hbl
  replace h04 := h04.tr hN.e
  have hfr : (Value.slice A s.line.length cap).ownBlock ≠ some W5.heap.size := fun hk => by have := (hline4.lt _ hk).2; omega
  replace hline4 := own_ext hline4 hN.e
  replace hkill4 := own_ext hkill4 hN.e
  replace hacts4 := own_ext hacts4 hN.e
  replace hold5 := Nat.le_trans hold5 hN.e.le
  clear hN hbl hd
  generalize W5.heap.size = g1 at hat hfr ⊢
  conv => whnf
  refine ⟨hbl6, ?_⟩
  conv => whnf
  refine (fn33 (w0 := w0) hline4 hold5 hle hat hfr (by omega)).mono ?_
  rintro u W7 ⟨hline7, hgr, hmv⟩
  have hcell6 := hbl6.trans hcell4
  have hcell7 : W7.heap[b]? = _ := (hgr.block b (at_lt hcell6) (not_row hline4 hcell6 (by decide))).trans hcell6
  have h07 : Ext w0 W7 := grown_ext h04 hgr fun k hk => by have := (own_elem hline4 hk).1; omega
  have hkill7 := hkill4.kept hgr (by
    cases hk : K.ownBlock with
    | none => exact .inl rfl
    | some k => exact .inr fun h => hap k h.symm hk)
  have hacts7 := hacts4.kept hgr (own_apart hacts4 hline4 (by decide))
  have hap7 : ∀ k, u.ownBlock = some k → K.ownBlock ≠ some k := fun k hk hkk => by
    rcases hmv with hmv | ⟨k2, hmv, hge⟩
    · exact hap k (hmv.symm.trans hk) hkk
    · rw [hmv] at hk
      injection hk with hk
      have := (hkill4.lt _ hkk).2
      omega
  have hold7 : base ≤ W7.heap.size := Nat.le_trans hold5 hgr.size
  obtain ⟨A', cap', rfl⟩ := own_form hline7
  clear hgr hmv hline4 hkill4 hacts4 h04 hat hfr hbl6
  conv => whnf
  refine ⟨hcell7.trans hcell4.symm, ?_⟩
  conv => whnf
  refine ⟨b, 0, _, _, rfl, hcell7, Nat.le_of_ble_eq_true rfl, rfl, rfl, fun W8 hW8 => ?_⟩
  have hcell8 : W8.heap[b]? = some (.cells #[.slice A' (s.line.length + 1) cap', .int .i64 s.at_, K, .slice TA' (s.acts.length + 1) tc'] 60 (0, 0)) := hW8.at_
  have h08 := hW8.e h07 (by omega)
  have hline8 := own_put hline7 hW8 hcell7 (by decide)
  have hkill8 := own_put hkill7 hW8 hcell7 (by decide)
  have hacts8 := own_put hacts7 hW8 hcell7 (by decide)
  have hold8 : base ≤ W8.heap.size := by rw [hW8.size]; exact hold7
  conv => whnf
  refine ⟨_, ld hcell8 rfl rfl, ?_⟩
  conv => whnf
  intro r hr'
  obtain rfl : r = ((s.at_ + 1 : Nat) : Int) := by rw [hr']; exact wrap_nat (n := s.line.length + 1) (by omega) (by omega)
  conv => whnf
  refine ⟨b, 1, _, _, rfl, hcell8, Nat.le_of_ble_eq_true rfl, rfl, rfl, fun W9 hW9 => ?_⟩
  conv => whnf
  have el : (s.line.take s.at_ ++ c :: s.line.drop s.at_).length = s.line.length + 1 := by simp; omega
  have ea : (s.acts ++ [(1, (s.at_ : Int), c)]).length = s.acts.length + 1 := by simp
  refine ⟨rfl, hW9.e h08 (by omega), .slice A' (s.line.length + 1) cap', .slice TA' (s.acts.length + 1) tc', hW9.at_, ?_, own_put hkill8 hW9 hcell8 (by decide), ?_, hap7, ?_, ?_, ?_⟩
  · show W9.ownsRow base 3 1 _ (s.line.take s.at_ ++ c :: s.line.drop s.at_).length _
    rw [el]
    exact own_put hline8 hW9 hcell8 (by decide)
  · show W9.ownsRow base 73 3 _ (s.acts ++ [(1, (s.at_ : Int), c)]).length (acells (s.acts ++ [(1, (s.at_ : Int), c)]))
    rw [ea, acells_app]
    exact own_put hacts8 hW9 hcell8 (by decide)
  · show s.at_ + 1 ≤ (s.line.take s.at_ ++ c :: s.line.drop s.at_).length
    omega
  · show (s.line.take s.at_ ++ c :: s.line.drop s.at_).length ≤ 100000
    omega
  · rw [hW9.size]; exact hold8
end Go.Proofs.Ythphdaeaicjgmaa
