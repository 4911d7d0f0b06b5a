/- The document's work: put, cut, kill. -/
import Derived.Test.YthphdaeaicjgmaaE17
namespace Go.Proofs.Ythphdaeaicjgmaa
open Go Go.VC Go.RowKit
set_option linter.unusedVariables false
set_option linter.unusedSimpArgs false
set_option maxRecDepth 100000

/-- The block that a slice reads of, if it reads any. -/
def rb (L : Value) : Option Nat := match L with
  | .slice (some a) n _ => if n = 0 then none else some a.block
  | _ => none
theorem rb_own {L : Value} {k : Nat} (h : rb L = some k) : L.ownBlock = some k := by
  unfold rb at h
  split at h
  · split at h
    · cases h
    · exact h
  · cases h
theorem rb_some {a : Addr} {n c : Nat} (h : n ≠ 0) : rb (.slice (some a) n c) = some a.block := by unfold rb; dsimp only; rw [if_neg h]
/-- A slice that is only read. -/
structure RO (w : World) (L : Value) (n : Nat) (xs : List Int) : Prop where
  form : ∃ A c, L = .slice A n c ∧ Ints w A n xs ∧ n ≤ c ∧ c ≤ 9223372036854775807
  lt : ∀ k, rb L = some k → k < w.heap.size
def Off (L T : Value) : Prop := ∀ k, rb L = some k → T.ownBlock ≠ some k
theorem off_nil (L : Value) : Off L (.slice none 0 0) := fun k _ h => by simp [Value.ownBlock] at h
theorem RO.ext {w W : World} {L : Value} {n : Nat} {xs : List Int} (h : RO w L n xs) (he : Ext w W) : RO W L n xs := by
  obtain ⟨A, c, rfl, hi, h1, h2⟩ := h.form
  exact ⟨⟨A, c, rfl, hi.ext he, h1, h2⟩, fun k hk => Nat.lt_of_lt_of_le (h.lt k hk) he.le⟩
theorem RO.put {w W : World} {L : Value} {n b : Nat} {xs : List Int} {o : Obj} (h : RO w L n xs) (hp : Put w b o W) (hne : rb L ≠ some b) : RO W L n xs := by
  obtain ⟨A, c, rfl, hi, h1, h2⟩ := h.form
  refine ⟨⟨A, c, rfl, ?_, h1, h2⟩, fun k hk => by rw [hp.size]; exact h.lt k hk⟩
  by_cases hn : n = 0
  · subst hn
    have := hi.len
    have e : xs = [] := List.eq_nil_of_length_eq_zero this
    subst e
    exact Ints.nil _ _
  · exact hi.put hp (fun a e => by subst e; intro e; exact hne (by rw [← e]; exact rb_some hn))
theorem RO.grown {w W : World} {L T : Value} {n : Nat} {xs : List Int} (h : RO w L n xs) (hg : w.grownBy W T.ownBlock) (ho : Off L T) : RO W L n xs := by
  obtain ⟨A, c, rfl, hi, h1, h2⟩ := h.form
  refine ⟨⟨A, c, rfl, ⟨hi.len, hi.small, fun i x hx => ?_⟩, h1, h2⟩, fun k hk => Nat.lt_of_lt_of_le (h.lt k hk) hg.size⟩
  obtain ⟨a, rfl, hc⟩ := hi.get i x hx
  refine ⟨a, rfl, ?_⟩
  have hb : (a.add i).block = a.block := by unfold Addr.add; split <;> rfl
  have hn : n ≠ 0 := by have := (List.getElem?_eq_some_iff.1 hx).1; have := hi.len; omega
  rw [World.cell?, hb, hg.block a.block (h.lt a.block (rb_some hn)) (fun e => ho a.block (rb_some hn) e.symm), ← hb]
  exact hc
theorem RO.off {w : World} {L T T' : Value} {n : Nat} {xs : List Int} (h : RO w L n xs) (ho : Off L T) (hat : T'.ownBlock = T.ownBlock ∨ T'.ownBlock = some w.heap.size) : Off L T' := fun k hk e => by
  rcases hat with hat | hat
  · exact ho k hk (by rw [← hat]; exact e)
  · rw [hat] at e
    injection e with e
    have := h.lt k hk
    omega
theorem RO.of_own {w : World} {base : Nat} {L : Value} {n : Nat} {xs : List Int} (h : w.ownsRow base 3 1 L n (ints xs)) : RO w L n xs := by
  obtain ⟨A, c, rfl⟩ := own_form h
  exact ⟨⟨A, c, rfl, own_ints h, (row_cap h).1, (row_cap h).2⟩, fun k hk => (h.lt k (rb_own hk)).2⟩
theorem RO.of_ints {w : World} {A : Option Addr} {n c : Nat} {xs : List Int} (h : Ints w A n xs) (h1 : n ≤ c) (h2 : c ≤ 9223372036854775807) : RO w (.slice A n c) n xs := by
  refine ⟨⟨A, c, rfl, h, h1, h2⟩, fun k hk => ?_⟩
  cases A with
  | none => cases hk
  | some a =>
    by_cases hn : n = 0
    · subst hn; cases hk
    · rw [rb_some hn] at hk
      injection hk with hk
      subst hk
      obtain ⟨a', e, hc⟩ := h.at_ (k := 0) (by omega)
      cases e
      exact World.block_lt_of_cell? w _ hc

structure RefAt (w : World) (b base : Nat) (s : St) (L K T : Value) : Prop where
  cell : w.heap[b]? = some (.cells #[L, .int .i64 s.at_, K, T] 68 (0, 0))
  line : RO w L s.line.length s.line
  kill : RO w K s.kill.length s.kill
  acts : w.ownsRow base 72 3 T s.acts.length (acells s.acts)
  offL : Off L T
  offK : Off K T
  nbL : rb L ≠ some b
  nbK : rb K ≠ some b
  few : s.line.length ≤ 8000
  kfew : s.kill.length ≤ 8000
  old : base ≤ w.heap.size
theorem RefAt.ext {w W : World} {b base : Nat} {s : St} {L K T : Value} (h : RefAt w b base s L K T) (he : Ext w W) : RefAt W b base s L K T :=
  ⟨he.at_ h.cell, h.line.ext he, h.kill.ext he, own_ext h.acts he, h.offL, h.offK, h.nbL, h.nbK, h.few, h.kfew, Nat.le_trans h.old he.le⟩

theorem inf72 : (Try.prog.info? 72).map (fun i => (i.zero, i.size, i.bytes)) = some (some (.agg #[.int .i64 0, .int .i64 0, .int .i64 0]), 3, 24) := by kernel_rfl
theorem build72 (a b c : Int) (w : World) : (Instr.build 72 #[(0, .int .i64 a), (1, .int .i64 b), (2, .int .i64 c)]).run Try.prog w = .ok (.agg #[.int .i64 a, .int .i64 b, .int .i64 c]) w := by kernel_rfl
theorem slice35_1 (a b c : Int) (w : World) : (Instr.buildSlice 35 1 #[(0, .agg #[.int .i64 a, .int .i64 b, .int .i64 c])]).run Try.prog w = .ok (.slice (some ⟨w.heap.size, 0, none⟩) 1 1) (w.alloc (.cells #[.int .i64 a, .int .i64 b, .int .i64 c] 72)) := by kernel_rfl
theorem rd_three' {W : World} {g e : Nat} {a b c : Int} (h : W.heap[g]? = some (.cells #[.int .i64 a, .int .i64 b, .int .i64 c] e (0, 0))) : Rd W 3 (some ⟨g, 0, none⟩) 1 (acells [(a, b, c)]) := by
  refine ⟨rfl, fun i u hu => ⟨_, rfl, ?_⟩⟩
  rw [add_plain_, cell_of_at h]
  match i, hu with
  | 0, hu => simpa [acells] using hu
  | 1, hu => simpa [acells] using hu
  | 2, hu => simpa [acells] using hu
  | i + 3, hu => simp [acells] at hu
theorem one_three (a b c : Int) : ∀ u ∈ acells [(a, b, c)], u.oneCell' = true := by intro u hu; simp [acells] at hu; rcases hu with rfl | rfl | rfl <;> rfl

set_option maxHeartbeats 8000000
theorem fn30 {w0 w : World} {b base : Nat} {s : St} {L K T : Value} (c : Int) (h : RefAt w b base s L K T) (h0 : Ext w0 w) (hb0 : w0.heap.size ≤ base) (hbb : base ≤ b) (hta : s.acts.length ≤ 8000) (hle : s.at_ ≤ s.line.length) :
    Ret Try.prog 30 #[.pointer (some ⟨b, 0, none⟩), .int .i64 c] w fun v W => v = .bool (s.put c).2 ∧ Ext w0 W ∧ ∃ L' T', RefAt W b base (s.put c).1 L' K T' := by
  obtain ⟨A, cap, rfl, hli, hcap, hcap2⟩ := h.line.form
  obtain ⟨TA, tc, rfl⟩ := own_form h.acts
  have hfew := h.few
  have hkf := h.kfew
  refine Ret.of_vc tab_ok Try.func30 rfl Try.ntmps30 rfl (Nat.le_of_ble_eq_true rfl) Try.call30 ?_
  conv => whnf
  refine ⟨_, ld h.cell rfl rfl, ?_⟩
  conv => whnf
  intro t ht
  cases t <;> simp only [VB] at ht <;> (conv => whnf)
  case true =>
    have e : s.put c = (s, false) := by unfold St.put; rw [if_pos (.inl (by omega))]
    rw [e]
    exact ⟨rfl, h0, _, _, h⟩
  refine (fn57 c w).mono ?_
  rintro _ _ ⟨rfl, rfl⟩
  cases hr : runeOk c <;> (conv => whnf)
  case false =>
    have e : s.put c = (s, false) := by unfold St.put; rw [if_pos (.inr hr)]
    rw [e]
    exact ⟨rfl, h0, _, _, h⟩
  have e : s.put c = (⟨s.line.take s.at_ ++ c :: s.line.drop s.at_, s.at_ + 1, s.kill, s.acts ++ [(1, (s.at_ : Int), c)]⟩, true) := by
    unfold St.put; rw [if_neg (by rw [hr]; simp; omega)]
  rw [e]
  clear e
  refine ⟨_, ld h.cell rfl rfl, ?_⟩
  conv => whnf
  refine Run.mk' _ _ (build72 _ _ _ _) ?_
  conv => whnf
  intro W1 hW1
  have hbl := at_lt h.cell
  have e1 := hW1.e
  have h5a := hW1.at_
  have hz1 := hW1.size
  conv => whnf
  refine ⟨w.heap.size, 0, _, _, rfl, h5a, Nat.le_of_ble_eq_true rfl, rfl, rfl, fun W2 hW2 => ?_⟩
  have e2 := hW2.e e1 (Nat.le_refl _)
  have h5 : W2.heap[w.heap.size]? = some (.cells #[.int .i64 1, .int .i64 s.at_, .int .i64 c] 72 (0, 0)) := hW2.at_
  have hT5 : ∀ k, (Value.slice TA s.acts.length tc).ownBlock = some k → k ≠ w.heap.size := fun k hk e => by have := (h.acts.lt _ hk).2; omega
  generalize hb5 : w.heap.size = b5 at h5 h5a hT5 hbl ⊢
  replace h := h.ext e2
  replace h0 := h0.tr e2
  have h5lt := at_lt h5
  clear hW1 hW2 e1 e2 hli h5a
  conv => whnf
  refine VDraw.mk' tab_ok (fun V => V.heap[b]? = W2.heap[b]? ∧ V.heap[b5]? = W2.heap[b5]?) [7, 10] (.take 0 <| .take 1 <| .take 2 <| .take 3 <| .take 4 <| .take 5 <| .one 6 <| .one 7 <| .take 8 <| .take 9 <| .one 10 <| .done) mixed (by kernel_rfl) (by kernel_rfl) ⟨rfl, rfl⟩ ?_
  have hd := Ext.drew W2
  have hcell := h.cell
  conv => whnf
  refine ⟨_, fun w' hs => ld (hs.1.trans hcell) rfl rfl, ?_⟩
  conv => whnf
  refine ⟨[.int .i64 1, .int .i64 s.at_, .int .i64 c], rfl, fun w' hs => lds (hs.2.trans h5) rfl rfl, ?_⟩
  conv => whnf
  refine Run.mk' _ _ (slice35_1 _ _ _ _) ?_
  have hN := New.mk' W2.drew (.cells #[.int .i64 1, .int .i64 s.at_, .int .i64 c] 72)
  generalize W2.drew.alloc (.cells #[.int .i64 1, .int .i64 s.at_, .int .i64 c] 72) = W3 at hN ⊢
  have hat := hN.at_
  have e3 := hd.tr hN.e
  conv => whnf
  refine ⟨⟨e3.block b (at_lt hcell), e3.block b5 h5lt⟩, ?_⟩
  conv => whnf
  have h3 := h.ext e3
  have h53 := e3.at_ h5
  replace h0 := h0.tr e3
  clear e3 hN hd h h5
  generalize W2.drew.heap.size = g3 at hat ⊢
  refine run_append inf72 Try.underlying35 rfl (by decide) h3.acts (rd_three' hat) (one_three _ _ _) (by simp only [maxLen]; omega) (by omega) h3.old ?_
  intro v4 W4 hacts4 hg4 hat4
  have hE4 := ext_row h0 hg4 h3.acts hb0
  have hcell4 := grown_at hg4 h3.acts h3.cell (by decide)
  have h54 : W4.heap[b5]? = _ := (hg4.block b5 (at_lt h53) (fun e => hT5 b5 e.symm rfl)).trans h53
  have hl4 := h3.line.grown hg4 h3.offL
  have hk4 := h3.kill.grown hg4 h3.offK
  have hoL4 := h3.line.off h3.offL hat4
  have hoK4 := h3.kill.off h3.offK hat4
  have hold4 : base ≤ W4.heap.size := Nat.le_trans h3.old hg4.size
  have hnL := h3.nbL
  have hnK := h3.nbK
  rw [← acells_app] at hacts4
  obtain ⟨TA', tc', rfl⟩ := own_form hacts4
  clear hg4 hat4 hat h0 h3 h53
  conv => whnf
  refine ⟨b, 3, _, _, rfl, hcell4, Nat.le_of_ble_eq_true rfl, rfl, rfl, fun W5 hW5 => ?_⟩
  have hcell5 : W5.heap[b]? = some (.cells #[.slice A s.line.length cap, .int .i64 s.at_, K, .slice TA' (s.acts.length + 1) tc'] 68 (0, 0)) := hW5.at_
  have hE5 := hW5.e hE4 (by omega)
  have h55 := hW5.keep h54 (by omega)
  have hl5 := hl4.put hW5 hnL
  have hk5 := hk4.put hW5 hnK
  have ha5 := own_put hacts4 hW5 hcell4 (by decide)
  have hold5 : base ≤ W5.heap.size := by rw [hW5.size]; exact hold4
  clear hW5 hcell4 hE4 h54 hl4 hk4 hacts4 hold4
  conv => whnf
  refine VDraw.mk' tab_ok (fun V => V.heap[b]? = W5.heap[b]? ∧ V.heap[b5]? = W5.heap[b5]?) [7] (.take 0 <| .take 1 <| .take 2 <| .take 3 <| .take 4 <| .take 5 <| .one 6 <| .one 7 <| .take 8 <| .take 9 <| .take 10 <| .take 11 <| .take 12 <| .done) mixed (by kernel_rfl) (by kernel_rfl) ⟨rfl, rfl⟩ ?_
  have hd := Ext.drew W5
  conv => whnf
  refine ⟨_, fun w' hs => ld (hs.1.trans hcell5) rfl rfl, ?_⟩
  conv => whnf
  refine ⟨[.int .i64 1, .int .i64 s.at_, .int .i64 c], rfl, fun w' hs => lds (hs.2.trans h55) rfl rfl, ?_⟩
  conv => whnf
  refine Run.mk' _ _ (slice35_1 _ _ _ _) ?_
  have hN := New.mk' W5.drew (.cells #[.int .i64 1, .int .i64 s.at_, .int .i64 c] 72)
  generalize W5.drew.alloc (.cells #[.int .i64 1, .int .i64 s.at_, .int .i64 c] 72) = W6 at hN ⊢
  have hat := hN.at_
  have e6 := hd.tr hN.e
  conv => whnf
  refine ⟨⟨e6.block b (at_lt hcell5), e6.block b5 (at_lt h55)⟩, ?_⟩
  conv => whnf
  generalize W5.drew.heap.size = g6 at hat ⊢
  have hli6 : Ints W6 A s.line.length s.line := by
    obtain ⟨A2, c2, e, hi, _⟩ := (hl5.ext e6).form
    cases e
    exact hi
  have hE6 := hE5.tr e6
  refine (fn20 W6 A (some ⟨g6, 0, none⟩) s.line.length cap 1 1 s.line [(1, (s.at_ : Int), c)] hli6 (rd_three' hat) (by omega) (by omega)).mono ?_
  rintro v W7 ⟨e7, hv⟩
  have happ : applyAll s.line [(1, (s.at_ : Int), c)] = some (s.line.take s.at_ ++ c :: s.line.drop s.at_) := by simp only [applyAll]; rw [apply1_ins hle]
  rw [happ] at hv
  obtain ⟨L', rfl, hL'⟩ := hv
  have el : (s.line.take s.at_ ++ c :: s.line.drop s.at_).length = s.line.length + 1 := by simp; omega
  have ea : (s.acts ++ [(1, (s.at_ : Int), c)]).length = s.acts.length + 1 := by simp
  have e57 := e6.tr e7
  have hk7 := hk5.ext e57
  have ha7 := own_ext ha5 e57
  have hcell7 := e57.at_ hcell5
  have hE7 := hE5.tr e57
  have hold7 := Nat.le_trans hold5 e57.le
  have hoL7 : Off L' (.slice TA' (s.acts.length + 1) tc') := fun k hk e => by
    have i1 := (own_elem hL' (rb_own hk)).1
    have i2 := (ha5.lt _ e).2
    have i3 := e6.le
    omega
  have hnL7 : rb L' ≠ some b := fun e => by
    have i1 := (own_elem hL' (rb_own e)).1
    have i2 := at_lt hcell5
    have i3 := e6.le
    omega
  clear hl5 hk5 ha5 hcell5 hE5 hold5 e57 e7 e6 hE6 hli6 hat hN hd h55
  conv => whnf
  obtain ⟨LA, lc, rfl⟩ := own_form hL'
  refine ⟨b, 0, _, _, rfl, hcell7, Nat.le_of_ble_eq_true rfl, rfl, rfl, fun W8 hW8 => ?_⟩
  rw [el] at hL'
  have hcell8 : W8.heap[b]? = some (.cells #[.slice LA (s.line.take s.at_ ++ c :: s.line.drop s.at_).length lc, .int .i64 s.at_, K, .slice TA' (s.acts.length + 1) tc'] 68 (0, 0)) := hW8.at_
  conv => whnf
  refine ⟨_, ld hcell8 rfl rfl, ?_⟩
  conv => whnf
  intro r hr'
  obtain rfl : r = ((s.at_ + 1 : Nat) : Int) := by rw [hr']; exact wrap_nat (n := s.line.length + 1) (by omega) (by omega)
  conv => whnf
  refine ⟨b, 1, _, _, rfl, hcell8, Nat.le_of_ble_eq_true rfl, rfl, rfl, fun W9 hW9 => ?_⟩
  conv => whnf
  rw [el] at hcell8 hoL7 hnL7
  have hL9 := own_put (own_put hL' hW8 hcell7 (by decide)) hW9 hcell8 (by decide)
  have hlen : (⟨s.line.take s.at_ ++ c :: s.line.drop s.at_, s.at_ + 1, s.kill, s.acts ++ [(1, (s.at_ : Int), c)]⟩ : St).line.length = s.line.length + 1 := el
  refine ⟨rfl, hW9.e (hW8.e hE7 (by omega)) (by omega), .slice LA (s.line.length + 1) lc, .slice TA' (s.acts.length + 1) tc', by rw [← el]; exact hW9.at_, by rw [hlen]; exact RO.of_own hL9, (hk7.put hW8 hnK).put hW9 hnK, ?_, hoL7, hoK4, hnL7, hnK, ?_, hkf, ?_⟩
  · show W9.ownsRow base 72 3 _ (s.acts ++ [(1, (s.at_ : Int), c)]).length _
    rw [ea]
    exact own_put (own_put ha7 hW8 hcell7 (by decide)) hW9 hcell8 (by decide)
  · rw [hlen]; omega
  · rw [hW9.size, hW8.size]; exact hold7

theorem gone_get (s : St) (f t k : Nat) (h : f + k < t) : (gone s f t).getD k 0 = s.line.getD (f + k) 0 := by
  unfold gone
  rw [getD_drop, List.getD_eq_getElem?_getD, List.getElem?_take, if_pos (by omega), ← List.getD_eq_getElem?_getD]
theorem gone_len (s : St) (f t : Nat) (ht : t ≤ s.line.length) : (gone s f t).length = t - f := by simp [gone]; omega
theorem take_succ_getD (l : List Int) (k : Nat) (h : k < l.length) : l.take (k + 1) = l.take k ++ [l.getD k 0] := by
  rw [List.take_succ_eq_append_getElem h]
  congr 1
  rw [List.getD_eq_getElem?_getD, List.getElem?_eq_getElem h]
  rfl
/-- The work while it cuts. -/
def St.mid (s : St) (f t k : Nat) : St := ⟨s.line.take f ++ s.line.drop (f + k), s.at_, s.kill, s.acts ++ ((gone s f t).take k).map fun c => (2, (f : Int), c)⟩
theorem fn58 {w0 w : World} {b base f t : Nat} {s : St} {L K T : Value} (h : RefAt w b base s L K T) (h0 : Ext w0 w) (hb0 : w0.heap.size ≤ base) (hbb : base ≤ b) (hft : f ≤ t) (ht : t ≤ s.line.length) (hta : s.acts.length + (t - f) ≤ 8000) :
    Ret Try.prog 58 #[.pointer (some ⟨b, 0, none⟩), .int .i64 f, .int .i64 t] w fun v W => Ext w0 W ∧ (∃ L' T', RefAt W b base (s.cut f t) L' K T') ∧ W.ownsRow base 3 1 v (gone s f t).length (ints (gone s f t)) := by
  have hfew := h.few
  have hkf := h.kfew
  have hgl := gone_len s f t ht
  refine Ret.of_vc tab_ok Try.func58 rfl Try.ntmps58 rfl (Nat.le_of_ble_eq_true rfl) Try.call58 ?_
  conv => whnf
  refine VLoop.mk' tab_ok (X := Nat × Value × Value × Value) (fun x => [(0, .pointer (some ⟨b, 0, none⟩)), (1, .int .i64 f), (2, .int .i64 t), (7, x.2.1), (8, .int .i64 ((f + x.1 : Nat) : Int))])
    (fun x W => Ext w0 W ∧ x.1 ≤ t - f ∧ RefAt W b base (s.mid f t x.1) x.2.2.1 K x.2.2.2 ∧ W.ownsRow base 3 1 x.2.1 x.1 (ints ((gone s f t).take x.1)) ∧ Off x.2.2.1 x.2.1 ∧ Off K x.2.1)
    (fun x _ => t - f - x.1) (0, .slice none 0 0, L, T) ⟨rfl, rfl, rfl, rfl, rfl, trivial⟩ ⟨h0, Nat.zero_le _, by simpa [St.mid] using h, own_nil_ _ _ _ _, off_nil _, off_nil _⟩ ?_
  clear h h0
  rintro ⟨k, G, L, T⟩ j W ⟨hE, hk, h, hg, hoL, hoK⟩
  dsimp only at hk h hg hoL hoK
  conv => whnf
  intro t' ht'
  cases t' <;> simp only [VB] at ht' <;> (conv => whnf)
  case false =>
    obtain rfl : k = t - f := by omega
    have htk : (gone s f t).take (t - f) = gone s f t := List.take_of_length_le (by omega)
    rw [htk, ← hgl] at hg
    intro t2 ht2
    cases t2 <;> simp only [VB] at ht2 <;> (conv => whnf)
    case false =>
      obtain rfl : f = t := by omega
      have e : s.cut f f = s := by unfold St.cut; rw [if_neg (by omega)]
      have e2 : s.mid f f (f - f) = s := by unfold St.mid; simp
      rw [e]
      rw [e2] at h
      exact ⟨hE, ⟨_, _, h⟩, hg⟩
    case true =>
      refine ⟨b, 1, _, _, rfl, h.cell, Nat.le_of_ble_eq_true rfl, rfl, ?_, fun W2 hW2 => ?_⟩
      · rfl
      conv => whnf
      have e : s.cut f t = { s.mid f t (t - f) with at_ := f } := by
        unfold St.cut St.mid
        rw [if_pos (by omega), htk, show f + (t - f) = t by omega]
      rw [e]
      exact ⟨hW2.e hE (by omega), ⟨L, T, hW2.at_, h.line.put hW2 h.nbL, h.kill.put hW2 h.nbK, own_put h.acts hW2 h.cell (by decide), h.offL, h.offK, h.nbL, h.nbK, h.few, h.kfew, by rw [hW2.size]; exact h.old⟩, own_put hg hW2 h.cell (by decide)⟩
  case true =>
    obtain ⟨A, cap, rfl, hli, hcap, hcap2⟩ := h.line.form
    have hml : (s.mid f t k).line.length = s.line.length - k := by simp [St.mid]; omega
    have hma : (s.mid f t k).acts.length = s.acts.length + k := by simp [St.mid, hgl]; omega
    refine ⟨_, ld h.cell rfl rfl, ?_⟩
    conv => whnf
    obtain ⟨ad, rfl, hck⟩ := hli.at_ (k := f) (by omega)
    have hget : (s.mid f t k).line.getD f 0 = (gone s f t).getD k 0 := by
      rw [gone_get s f t k (by omega)]
      show (s.line.take f ++ s.line.drop (f + k)).getD f 0 = _
      rw [List.getD_eq_getElem?_getD, List.getElem?_append_right (by simp; omega), List.length_take, Nat.min_eq_left (by omega), Nat.sub_self, ← List.getD_eq_getElem?_getD, getD_drop]
      rfl
    rw [hget] at hck
    generalize hc : (gone s f t).getD k 0 = c at hck
    refine ⟨by omega, by omega, ad, rfl, ?_⟩
    conv => whnf
    refine ⟨.int .i64 c, by simpa using hck, ?_⟩
    conv => whnf
    refine Run.mk' _ _ (build72 _ _ _ _) ?_
    conv => whnf
    intro W1 hW1
    have e1 := hW1.e
    conv => whnf
    refine ⟨W.heap.size, 0, _, _, rfl, hW1.at_, Nat.le_of_ble_eq_true rfl, rfl, rfl, fun W2 hW2 => ?_⟩
    have e2 := hW2.e e1 (Nat.le_refl _)
    have h5 : W2.heap[W.heap.size]? = some (.cells #[.int .i64 2, .int .i64 f, .int .i64 c] 72 (0, 0)) := hW2.at_
    have hT5 : ∀ k, T.ownBlock = some k → k ≠ W.heap.size := fun k hk e => by have := (h.acts.lt _ hk).2; omega
    have hbl := at_lt h.cell
    generalize hb5 : W.heap.size = b5 at h5 hT5 hbl ⊢
    replace h := h.ext e2
    replace hE := hE.tr e2
    replace hg := own_ext hg e2
    clear hW1 hW2 e1 e2 hli hck
    conv => whnf
    refine ⟨_, ld h5 rfl rfl, ?_⟩
    conv => whnf
    refine Run.mk' _ _ (slice22_1 _ _) ?_
    have hN := New.mk' W2 (.cells #[.int .i64 c] 3)
    generalize W2.alloc (.cells #[.int .i64 c] 3) = W3 at hN ⊢
    have hat := hN.at_
    replace h := h.ext hN.e
    replace hE := hE.tr hN.e
    replace hg := own_ext hg hN.e
    replace h5 := hN.e.at_ h5
    generalize W2.heap.size = g3 at hat ⊢
    have hri : Ints W3 (some ⟨g3, 0, none⟩) 1 [c] := ints_of_at hat (by simp [ints]) rfl (by decide)
    clear hN hat
    conv => whnf
    refine run_append inf3 Try.underlying22 rfl (by decide) hg hri.rd (one_ints _) (by simp only [maxLen]; omega) (by omega) h.old ?_
    intro G4 W4 hg4 hgr4 hat4
    have hE4 := ext_row hE hgr4 hg hb0
    have hcell4 := grown_at hgr4 hg h.cell (by decide)
    have h54 := grown_at hgr4 hg h5 (by decide)
    have hl4 := h.line.grown hgr4 hoL
    have hk4 := h.kill.grown hgr4 hoK
    have hoL4 := h.line.off hoL hat4
    have hoK4 := h.kill.off hoK hat4
    have ha4 := h.acts.kept hgr4 (own_apart h.acts hg (by decide))
    have hgt : ints ((gone s f t).take k) ++ ints [c] = ints ((gone s f t).take (k + 1)) := by rw [take_succ_getD _ _ (by omega), ints_app, hc]
    rw [hgt] at hg4
    replace h : RefAt W4 b base (s.mid f t k) _ K T := ⟨hcell4, hl4, hk4, ha4, h.offL, h.offK, h.nbL, h.nbK, h.few, h.kfew, Nat.le_trans h.old hgr4.size⟩
    replace hE := hE4
    replace h5 := h54
    clear hg hgr4 hat4 hE4 hcell4 h54 hl4 hk4 ha4 hri hoL hoK
    have ha := h.acts
    rw [hma] at ha
    obtain ⟨TA, tc, rfl⟩ := own_form ha
    conv => whnf
    refine VDraw.mk' tab_ok (fun V => V.heap[b]? = W4.heap[b]? ∧ V.heap[b5]? = W4.heap[b5]?) [7, 10] (.take 0 <| .take 1 <| .take 2 <| .take 3 <| .take 4 <| .take 5 <| .one 6 <| .one 7 <| .take 8 <| .take 9 <| .one 10 <| .done) mixed (by kernel_rfl) (by kernel_rfl) ⟨rfl, rfl⟩ ?_
    have hd := Ext.drew W4
    have hcell := h.cell
    conv => whnf
    refine ⟨_, fun w' hs => ld (hs.1.trans hcell) rfl rfl, ?_⟩
    conv => whnf
    refine ⟨[.int .i64 2, .int .i64 f, .int .i64 c], rfl, fun w' hs => lds (hs.2.trans h5) rfl rfl, ?_⟩
    conv => whnf
    refine Run.mk' _ _ (slice35_1 _ _ _ _) ?_
    have hN := New.mk' W4.drew (.cells #[.int .i64 2, .int .i64 f, .int .i64 c] 72)
    generalize W4.drew.alloc (.cells #[.int .i64 2, .int .i64 f, .int .i64 c] 72) = W5 at hN ⊢
    have hat := hN.at_
    have e3 := hd.tr hN.e
    conv => whnf
    refine ⟨⟨e3.block b (at_lt hcell), e3.block b5 (at_lt h5)⟩, ?_⟩
    conv => whnf
    replace h := h.ext e3
    replace h5 := e3.at_ h5
    replace hE := hE.tr e3
    replace hg4 := own_ext hg4 e3
    replace ha := own_ext ha e3
    clear e3 hN hd hcell
    generalize W4.drew.heap.size = g5 at hat ⊢
    refine run_append inf72 Try.underlying35 rfl (by decide) ha (rd_three' hat) (one_three _ _ _) (by simp only [maxLen]; omega) (by omega) h.old ?_
    intro T6 W6 ha6 hg6 hat6
    have hE6 := ext_row hE hg6 ha hb0
    have hcell6 := grown_at hg6 ha h.cell (by decide)
    have h56 : W6.heap[b5]? = _ := (hg6.block b5 (at_lt h5) (fun e => hT5 b5 e.symm rfl)).trans h5
    have hl6 := h.line.grown hg6 h.offL
    have hk6 := h.kill.grown hg6 h.offK
    have hTL6 := h.line.off h.offL hat6
    have hTK6 := h.kill.off h.offK hat6
    have hg6' := hg4.kept hg6 (own_apart hg4 ha (by decide))
    have hold6 : base ≤ W6.heap.size := Nat.le_trans h.old hg6.size
    have hnL := h.nbL
    have hnK := h.nbK
    rw [← acells_app] at ha6
    obtain ⟨TA6, tc6, rfl⟩ := own_form ha6
    clear hg6 hat6 hat hE h h5 hg4 ha
    conv => whnf
    refine ⟨b, 3, _, _, rfl, hcell6, Nat.le_of_ble_eq_true rfl, rfl, rfl, fun W7 hW7 => ?_⟩
    have hcell7 : W7.heap[b]? = some (.cells #[.slice (some ad) (s.mid f t k).line.length cap, .int .i64 (s.mid f t k).at_, K, .slice TA6 (s.acts.length + k + 1) tc6] 68 (0, 0)) := hW7.at_
    have hE7 := hW7.e hE6 (by omega)
    have h57 := hW7.keep h56 (by omega)
    have hl7 := hl6.put hW7 hnL
    have hk7 := hk6.put hW7 hnK
    have ha7 := own_put ha6 hW7 hcell6 (by decide)
    have hg7 := own_put hg6' hW7 hcell6 (by decide)
    have hold7 : base ≤ W7.heap.size := by rw [hW7.size]; exact hold6
    clear hW7 hcell6 hE6 h56 hl6 hk6 ha6 hg6' hold6
    conv => whnf
    refine VDraw.mk' tab_ok (fun V => V.heap[b]? = W7.heap[b]? ∧ V.heap[b5]? = W7.heap[b5]?) [7] (.take 0 <| .take 1 <| .take 2 <| .take 3 <| .take 4 <| .take 5 <| .one 6 <| .one 7 <| .take 8 <| .take 9 <| .take 10 <| .take 11 <| .take 12 <| .done) mixed (by kernel_rfl) (by kernel_rfl) ⟨rfl, rfl⟩ ?_
    have hd := Ext.drew W7
    conv => whnf
    refine ⟨_, fun w' hs => ld (hs.1.trans hcell7) rfl rfl, ?_⟩
    conv => whnf
    refine ⟨[.int .i64 2, .int .i64 f, .int .i64 c], rfl, fun w' hs => lds (hs.2.trans h57) rfl rfl, ?_⟩
    conv => whnf
    refine Run.mk' _ _ (slice35_1 _ _ _ _) ?_
    have hN := New.mk' W7.drew (.cells #[.int .i64 2, .int .i64 f, .int .i64 c] 72)
    generalize W7.drew.alloc (.cells #[.int .i64 2, .int .i64 f, .int .i64 c] 72) = W8 at hN ⊢
    have hat := hN.at_
    have e8 := hd.tr hN.e
    conv => whnf
    refine ⟨⟨e8.block b (at_lt hcell7), e8.block b5 (at_lt h57)⟩, ?_⟩
    conv => whnf
    generalize W7.drew.heap.size = g8 at hat ⊢
    have hli8 : Ints W8 (some ad) (s.mid f t k).line.length (s.mid f t k).line := by
      obtain ⟨A2, c2, e, hi, _⟩ := (hl7.ext e8).form
      cases e
      exact hi
    refine (fn20 W8 (some ad) (some ⟨g8, 0, none⟩) (s.mid f t k).line.length cap 1 1 (s.mid f t k).line [(2, (f : Int), c)] hli8 (rd_three' hat) (by omega) (by omega)).mono ?_
    rintro v W9 ⟨e9, hv⟩
    have hnl : (s.mid f t k).line.take f ++ (s.mid f t k).line.drop (f + 1) = (s.mid f t (k + 1)).line := by
      simp only [St.mid]
      rw [List.take_left' (by simp; omega), List.drop_append]
      have : (s.line.take f).length = f := by simp; omega
      rw [this, List.drop_of_length_le (by omega), List.nil_append, List.drop_drop]
      congr 2
      omega
    have happ : applyAll (s.mid f t k).line [(2, (f : Int), c)] = some (s.mid f t (k + 1)).line := by
      simp only [applyAll]; rw [apply1_del (by omega)]; exact congrArg some hnl
    rw [happ] at hv
    obtain ⟨L', rfl, hL'⟩ := hv
    have e79 := e8.tr e9
    have hoffs : ∀ V : Value, (∀ k, V.ownBlock = some k → k < W7.heap.size) → Off L' V := fun V hV k hk e => by
      have i1 := (own_elem hL' (rb_own hk)).1
      have i2 := hV k e
      have i3 := e8.le
      omega
    have hoT9 : Off L' (.slice TA6 (s.acts.length + k + 1) tc6) := hoffs _ fun k hk => (ha7.lt _ hk).2
    have hoG9 : Off L' G4 := hoffs _ fun k hk => (hg7.lt _ hk).2
    have hnL9 : rb L' ≠ some b := fun e => by
      have i1 := (own_elem hL' (rb_own e)).1
      have i2 := at_lt hcell7
      have i3 := e8.le
      omega
    have hk9 := hk7.ext e79
    have ha9 := own_ext ha7 e79
    have hg9 := own_ext hg7 e79
    have hcell9 := e79.at_ hcell7
    have hE9 := hE7.tr e79
    have hold9 := Nat.le_trans hold7 e79.le
    clear hl7 hk7 ha7 hg7 hcell7 hE7 hold7 e79 e9 e8 hli8 hat hN hd h57 hoffs
    conv => whnf
    obtain ⟨LA, lc, rfl⟩ := own_form hL'
    refine ⟨b, 0, _, _, rfl, hcell9, Nat.le_of_ble_eq_true rfl, rfl, rfl, fun W10 hW10 => ?_⟩
    conv => whnf
    intro r hr
    obtain rfl : r = ((f + (k + 1) : Nat) : Int) := by rw [hr, wrap_id (by omega) (by omega)]; omega
    conv => whnf
    have hal : (s.mid f t (k + 1)).acts = (s.mid f t k).acts ++ [(2, (f : Int), c)] := by
      simp only [St.mid]
      rw [take_succ_getD _ _ (by omega), hc]; simp
    have hal2 : (s.mid f t (k + 1)).acts.length = s.acts.length + k + 1 := by rw [hal]; simp [hma]
    have hln : (s.mid f t (k + 1)).line.length ≤ 8000 := by simp [St.mid]; omega
    refine ⟨(k + 1, G4, .slice LA (s.mid f t (k + 1)).line.length lc, .slice TA6 (s.acts.length + k + 1) tc6), ⟨rfl, rfl, rfl, rfl, rfl, trivial⟩, ⟨hW10.e hE9 (by omega), by dsimp only; omega, ?_, own_put hg9 hW10 hcell9 (by decide), hoG9, hoK4⟩, by dsimp only; omega⟩
    refine ⟨hW10.at_, RO.of_own (own_put hL' hW10 hcell9 (by decide)), hk9.put hW10 hnK, ?_, hoT9, hTK6, hnL9, hnK, hln, hkf, by rw [hW10.size]; exact hold9⟩
    dsimp only
    rw [hal2, hal]
    exact own_put ha9 hW10 hcell9 (by decide)

theorem fn32 {w0 w : World} {b base f t : Nat} {s : St} {L K T : Value} (h : RefAt w b base s L K T) (h0 : Ext w0 w) (hb0 : w0.heap.size ≤ base) (hbb : base ≤ b) (hft : f ≤ t) (ht : t ≤ s.line.length) (hta : s.acts.length + (t - f) ≤ 8000) :
    Ret Try.prog 32 #[.pointer (some ⟨b, 0, none⟩), .int .i64 f, .int .i64 t] w fun v W => Ext w0 W ∧ ∃ L' K' T', RefAt W b base (s.killed f t) L' K' T' := by
  have hgl := gone_len s f t ht
  refine Ret.of_vc tab_ok Try.func32 rfl Try.ntmps32 rfl (Nat.le_of_ble_eq_true rfl) Try.call32 ?_
  conv => whnf
  refine (fn58 h h0 hb0 hbb hft ht hta).mono ?_
  rintro v W ⟨hE, ⟨L', T', hW⟩, hg⟩
  obtain ⟨GA, gc, rfl⟩ := own_form hg
  conv => whnf
  intro t2 ht2
  cases t2 <;> simp only [VB] at ht2 <;> (conv => whnf)
  case false =>
    have e : s.killed f t = s := by unfold St.killed; rw [if_neg (by omega)]
    have e2 : s.cut f t = s := by unfold St.cut; rw [if_neg (by omega)]
    rw [e2] at hW
    rw [e]
    exact ⟨hE, _, _, _, hW⟩
  case true =>
    refine ⟨b, 2, _, _, rfl, hW.cell, Nat.le_of_ble_eq_true rfl, rfl, rfl, fun W3 hW3 => ?_⟩
    conv => whnf
    have e : s.killed f t = { s.cut f t with kill := gone s f t } := by unfold St.killed; rw [if_pos (by omega)]
    rw [e]
    have hnr := not_row hg hW.cell (by decide)
    have hoff : Off (Value.slice GA (gone s f t).length gc) T' := fun k hk e => by
      rcases own_apart hg hW.acts (by decide) with h1 | h1
      · rw [rb_own hk] at h1; cases h1
      · exact h1 (by rw [rb_own hk, e])
    refine ⟨hW3.e hE (by omega), L', .slice GA (gone s f t).length gc, T', hW3.at_, hW.line.put hW3 hW.nbL, RO.of_own (own_put hg hW3 hW.cell (by decide)), own_put hW.acts hW3 hW.cell (by decide), hW.offL, hoff, hW.nbL, fun e => hnr (rb_own e).symm, hW.few, (by show (gone s f t).length ≤ 8000; have := h.few; omega), by rw [hW3.size]; exact hW.old⟩
end Go.Proofs.Ythphdaeaicjgmaa
