/- weave.Line.Insert: the walk. -/
import Derived.Test.YtbkmbignincilaaW7
namespace Go.Proofs.Ytbkmbignincilaa
open Go Go.VC Go.RowKit
set_option linter.unusedVariables false
set_option linter.unusedSimpArgs false
set_option maxRecDepth 100000

theorem slice41_1 (a b : Int) (w : World) : (Instr.buildSlice 41 1 #[(0, .agg #[.int .i64 a, .int .i64 b])]).run Try.prog w = .ok (.slice (some ⟨w.heap.size, 0, none⟩) 1 1) (w.alloc (.cells #[.int .i64 a, .int .i64 b] 24)) := by kernel_rfl
theorem build49 (a b c d r : Int) (w : World) : (Instr.build 49 #[(0, K2 a b), (1, K2 c d), (2, .int .i64 r)]).run Try.prog w = .ok (.agg #[.int .i64 a, .int .i64 b, .int .i64 c, .int .i64 d, .int .i64 r, .slice none 0 0]) w := by kernel_rfl
theorem build73 (a b c d r : Int) (w : World) : (Instr.build 73 #[(0, .agg #[.int .i64 a, .int .i64 b, .int .i64 c, .int .i64 d, .int .i64 r, .slice none 0 0])]).run Try.prog w = .ok (.agg #[.int .i64 a, .int .i64 b, .int .i64 c, .int .i64 d, .int .i64 r, .slice none 0 0, .slice none 0 0]) w := by kernel_rfl
theorem grown_chg {w W : World} {row : Option Nat} (h : w.grownBy W row) : Chg (fun k => row = some k) w W := ⟨h.os, h.tape, h.output, h.size, fun k hk hn => h.block k hk (fun e => hn e.symm)⟩
theorem _root_.Go.VC.Chg.mono {T U : Nat → Prop} {w W : World} (h : Chg T w W) (hu : ∀ k, T k → U k) : Chg U w W := ⟨h.os, h.tape, h.output, h.size, fun k hk hn => h.block k hk (fun t => hn (hu k t))⟩
section
variable {w : World} {b m cl : Nat} {S : List El} {R : NodeR} {Ns : List NodeR}
/-- What Insert leaves behind. -/
def Ins (w : World) (b m : Nat) (S : List El) (R : NodeR) (Ns : List NodeR) (e : El) (v : Value) (W : World) : Prop :=
  v = .int .i64 (insE S e) ∧ Chg (Foot b m (R :: Ns)) w W ∧ ∃ R' Ns' cl', LineAt W b m (insS S e) R' Ns' cl' ∧ ∀ k, Foot b m (R' :: Ns') k → Foot b m (R :: Ns) k ∨ w.heap.size ≤ k
theorem Ins.not {W : World} {e : El} {v : Value} (h : LineAt w b m S R Ns cl) (he : Ext w W) (h0 : insE S e ≠ 0) (hv : v = .int .i64 (insE S e)) : Ins w b m S R Ns e v W :=
  ⟨hv, he.chg _, R, Ns, cl, by unfold insS; rw [if_neg h0]; exact h.ext he, fun k hk => .inl hk⟩

set_option maxHeartbeats 4000000
theorem fn16 (h : LineAt w b m S R Ns cl) (e : El) : Ret Try.prog 16 #[.pointer (some ⟨b, 0, none⟩), kI e.id, kI e.ref, .int .i64 e.rune] w (Ins w b m S R Ns e) := by
  refine Ret.of_vc tab_ok Try.func16 rfl Try.ntmps16 rfl (Nat.le_of_ble_eq_true rfl) Try.call16 ?_
  conv => whnf
  intro W hW
  have hb5 := hW.at_
  have hE := hW.e
  conv => whnf
  intro W1 hW1
  have hb6 := hW1.at_
  replace hb5 := hW1.e.at_ hb5
  replace hE := hE.tr hW1.e
  have hb56e := hW.e
  clear hW hW1
  have hb56 : w.heap.size ≤ W.heap.size := hb56e.le
  generalize hb5n : w.heap.size = b5 at hb5 ⊢
  generalize hb6n : W.heap.size = b6 at hb6 hb56 ⊢
  conv => whnf
  refine ⟨cI e.ref, rfl, lds hb6 rfl rfl, ?_⟩
  conv => whnf
  refine Run.mk' _ _ (build24_0 W1) ?_
  conv => whnf
  refine ⟨_, eq24 e.ref Idn.z, fun tb htb => ?_⟩
  conv => whnf
  refine ⟨cI e.id, rfl, lds hb5 rfl rfl, ?_⟩
  conv => whnf
  refine (fn29 e.id W1).mono ?_
  rintro _ W2 ⟨he, rfl⟩
  replace hb5 := he.at_ hb5
  replace hb6 := he.at_ hb6
  replace hE := hE.tr he
  clear he
  have hdone : ∀ (k : Int), insE S e = k → k ≠ 0 → ∀ W', Ext w W' → Ins w b m S R Ns e (.int .i64 k) W' := fun k h1 h2 W' hE' => Ins.not h hE' (by rw [h1]; exact h2) (by rw [h1])
  cases hid : okI e.id
  · conv => whnf
    intro t ht
    obtain rfl : t = true := ht.yes (by decide)
    conv => whnf
    exact hdone 1 (by unfold insE; rw [if_pos (.inl hid)]) (by decide) _ hE
  conv => whnf
  intro t ht
  obtain rfl : t = false := ht.no (by decide)
  conv => whnf
  refine (fn46 e.rune W2).mono ?_
  rintro _ _ ⟨rfl, rfl⟩
  cases hru : okR e.rune
  · conv => whnf
    exact hdone 1 (by unfold insE; rw [if_pos (.inr hru)]) (by decide) _ hE
  conv => whnf
  have hstep1 : ∀ k, (if e.ref ≠ Idn.z ∧ (okI e.ref = false ∨ e.ref.t ≥ e.id.t) then 1 else if e.id ∈ ids S then 7 else if e.ref ≠ Idn.z ∧ e.ref ∉ ids S then 6 else if S.length ≥ 4096 then 5 else 0) = k → insE S e = k := fun k hk => by
    unfold insE
    rw [if_neg (by simp [hid, hru])]
    exact hk
  --WAYS
  cases tb
  · have hz : e.ref ≠ Idn.z := by simpa using htb.symm
    conv => whnf
    refine ⟨cI e.ref, rfl, lds hb6 rfl rfl, ?_⟩
    conv => whnf
    refine (fn29 e.ref _).mono ?_
    rintro _ W3 ⟨he, rfl⟩
    replace hb5 := he.at_ hb5
    replace hb6 := he.at_ hb6
    replace hE := hE.tr he
    clear he
    cases hir : okI e.ref
    · conv => whnf
      intro t ht
      obtain rfl : t = true := ht.yes (by decide)
      conv => whnf
      exact hdone 1 (hstep1 1 (by rw [if_pos ⟨hz, .inl hir⟩])) (by decide) _ hE
    conv => whnf
    intro t ht
    obtain rfl : t = false := ht.no (by decide)
    conv => whnf
    refine ⟨.int .i64 e.ref.t, ld hb6 rfl rfl, ?_⟩
    conv => whnf
    refine ⟨.int .i64 e.id.t, ld hb5 rfl rfl, ?_⟩
    conv => whnf
    intro t ht
    cases t <;> simp only [VB] at ht
    case true =>
      conv => whnf
      exact hdone 1 (hstep1 1 (by rw [if_pos ⟨hz, .inr ht⟩])) (by decide) _ hE
    conv => whnf
    have hn1 : ¬ (e.ref ≠ Idn.z ∧ (okI e.ref = false ∨ e.ref.t ≥ e.id.t)) := (fun h1 => by rcases h1.2 with h2 | h2; rw [hir] at h2; cases h2; exact ht h2)
    refine ⟨cI e.id, rfl, lds hb5 rfl rfl, ?_⟩
    conv => whnf
    refine (fn41 (h.ext hE) e.id).mono ?_
    rintro _ W4 ⟨he, rfl⟩
    replace hb5 := he.at_ hb5
    replace hb6 := he.at_ hb6
    replace hE := hE.tr he
    clear he
    by_cases hin : e.id ∈ ids S
    · rw [show hasS S e.id = true from decide_eq_true hin]
      conv => whnf
      exact hdone 7 (hstep1 7 (by rw [if_neg hn1, if_pos hin])) (by decide) _ hE
    rw [show hasS S e.id = false from decide_eq_false hin]
    conv => whnf
    refine ⟨cI e.ref, rfl, lds hb6 rfl rfl, ?_⟩
    conv => whnf
    refine (fn41 (h.ext hE) e.ref).mono ?_
    rintro _ W5 ⟨he, rfl⟩
    replace hb5 := he.at_ hb5
    replace hb6 := he.at_ hb6
    replace hE := hE.tr he
    clear he
    by_cases hir2 : e.ref ∈ ids S
    case neg =>
      rw [show hasS S e.ref = false from decide_eq_false hir2]
      conv => whnf
      exact hdone 6 (hstep1 6 (by rw [if_neg hn1, if_neg hin, if_pos ⟨hz, hir2⟩])) (by decide) _ hE
    rw [show hasS S e.ref = true from decide_eq_true hir2]
    conv => whnf
    have hn2 : ¬ (e.ref ≠ Idn.z ∧ e.ref ∉ ids S) := fun h1 => h1.2 hir2
    have hpar : e.ref = Idn.z ∨ e.ref ∈ ids S := .inr hir2
    refine (fn26 (h.ext hE)).mono ?_
    rintro _ Wz ⟨hwz, rfl⟩
    subst hwz
    conv => whnf
    intro t ht
    cases t <;> simp only [VB] at ht
    case true =>
      conv => whnf
      exact hdone 5 (hstep1 5 (by rw [if_neg hn1, if_neg hin, if_neg hn2, if_pos (by omega)])) (by decide) _ hE
    conv => whnf
    have hfew := h.few
    have h0 : insE S e = 0 := hstep1 0 (by rw [if_neg hn1, if_neg hin, if_neg hn2, if_neg (by omega)])
    clear hdone hstep1
    have hh := h.ext hE
    obtain ⟨p, hp, hpx, hptr, _⟩ := hh.there hpar
    have hE2 := Ext.drew W5
    refine VDraw.mk' tab_ok (Ext W5) [] (.take 0 <| .take 1 <| .take 2 <| .take 3 <| .take 4 <| .take 5 <| .take 6 <| .done) mixed (by kernel_rfl) (by kernel_rfl) (Ext.drew _) ?_
    generalize W5.drew = Wb at hE2
    conv => whnf
    refine ⟨_, fun w' hs => hs.cell (ld hh.head rfl rfl), ?_⟩
    conv => whnf
    refine ⟨cI e.ref, rfl, fun w' hs => lds (hs.at_ hb6) rfl rfl, ?_⟩
    conv => whnf
    refine ⟨_, fun w' hs => (hh.ext hs).lookup e.ref, ?_⟩
    rw [hptr]
    conv => whnf
    replace hb5 := hE2.at_ hb5
    replace hb6 := hE2.at_ hb6
    have h2 := hh.ext hE2
    replace hE := hE.tr hE2
    clear hE2 hh
    -- the place among the kids
    have hrow := h2.row p hp
    rw [hpx] at hrow
    have hlen : (kidsOf S e.ref).length = p.n := (own_row cl24 (by decide) hrow).len
    have hkl := kids_len S e.ref
    refine VDraw.mk' tab_ok (Ext Wb) [5] (.take 0 <| .take 1 <| .take 2 <| .take 3 <| .take 4 <| .one 5 <| .take 6 <| .take 7 <| .take 8 <| .take 9 <| .take 10 <| .done) mixed (by kernel_rfl) (by kernel_rfl) (Ext.drew _) ?_
    have hd := Ext.drew Wb
    generalize Wb.drew = Wc at hd
    conv => whnf
    refine ⟨.slice p.A p.n p.c, fun w' hs => hs.cell (ld (h2.node p hp) rfl rfl), ?_⟩
    conv => whnf
    refine ⟨cI e.id, rfl, fun w' hs => lds (hs.at_ hb5) rfl rfl, ?_⟩
    conv => whnf
    refine (fn42 e.id ((own_row cl24 (by decide) hrow).ext hd) (desc_kids _ _) (by omega)).mono ?_
    rintro _ Wd ⟨he, rfl, hpos⟩
    replace he := hd.tr he
    replace hb5 := he.at_ hb5
    replace hb6 := he.at_ hb6
    replace h2 := h2.ext he
    replace hE := hE.tr he
    clear he hd hrow
    conv => whnf
    -- the kids' row grows
    have hrow := h2.row p hp
    rw [hpx] at hrow
    refine VDraw.mk' tab_ok (Ext Wd) [8, 11] (.take 0 <| .take 1 <| .take 2 <| .take 3 <| .take 4 <| .take 5 <| .take 6 <| .one 7 <| .one 8 <| .take 9 <| .take 10 <| .one 11 <| .done) mixed (by kernel_rfl) (by kernel_rfl) (Ext.drew _) ?_
    have hd := Ext.drew Wd
    generalize Wd.drew = We at hd
    conv => whnf
    refine ⟨.slice p.A p.n p.c, fun w' hs => hs.cell (ld (h2.node p hp) rfl rfl), ?_⟩
    conv => whnf
    refine ⟨cI e.id, rfl, fun w' hs => lds (hs.at_ hb5) rfl rfl, ?_⟩
    conv => whnf
    refine Run.mk' _ _ (slice41_1 e.id.t e.id.s We) ?_
    have hN := New.mk' We (.cells #[.int .i64 e.id.t, .int .i64 e.id.s] 24)
    generalize We.alloc (.cells #[.int .i64 e.id.t, .int .i64 e.id.s] 24) = Wf at hN ⊢
    refine ⟨hd.tr hN.e, ?_⟩
    have hv := hN.at_
    have hvb : Wd.heap.size ≤ We.heap.size := hd.le
    replace hd := hd.tr hN.e
    generalize We.heap.size = bv at hv hvb
    clear hN
    conv => whnf
    have hrow2 := own_ext hrow hd
    have hnr : p.row ≠ some bv := fun e1 => by have := h2.row_lt p hp _ e1; omega
    refine (fn47 (w0 := Wf) (x := e.id) hrow2 (Nat.zero_le _) (by omega) hv hnr (by omega)).mono ?_
    rintro _ Wg ⟨hown, hgr, hmv⟩
    obtain ⟨A', c', rfl⟩ := own_form hown
    have hgc := (hd.chg (fun k => k = p.blk ∨ k = m ∨ p.row = some k)).tr ((grown_chg hgr).mono (fun k hk => .inr (.inr hk)))
    have hbn := h2.blk_ne hp
    have hnode : Wg.heap[p.blk]? = some p.obj := (grown_chg hgr).at_ ((h2.ext hd).node p hp) (fun e1 => (hbn.2.2.2 p hp _ e1).1 rfl)
    have hhead : Wg.heap[b]? = _ := (grown_chg hgr).at_ (h2.ext hd).head (fun e1 => (hbn.2.2.2 p hp _ e1).2.1 rfl)
    have hmap : Wg.heap[m]? = _ := (grown_chg hgr).at_ (h2.ext hd).map (fun e1 => (hbn.2.2.2 p hp _ e1).2.2 rfl)
    have hb5g : Wg.heap[b5]? = _ := (grown_chg hgr).at_ (hd.at_ hb5) (fun e1 => by have := h.row_lt p hp _ e1; omega)
    have hb6g : Wg.heap[b6]? = _ := (grown_chg hgr).at_ (hd.at_ hb6) (fun e1 => by have := h.row_lt p hp _ e1; omega)
    conv => whnf
    refine ⟨p.blk, 6, _, _, rfl, hnode, Nat.le_of_ble_eq_true rfl, rfl, rfl, fun Wh hWh => ?_⟩
    have hnode2 : Wh.heap[p.blk]? = some (NodeR.obj { p with A := A', n := p.n + 1, c := c' }) := hWh.at_
    replace hgc := hWh.chg hgc (.inl (.inl rfl))
    replace hhead := hWh.keep hhead hbn.1
    replace hmap := hWh.keep hmap hbn.2.1
    replace hb5g := hWh.keep hb5g (fun e1 => by have := at_lt (h.node p hp); omega)
    replace hb6g := hWh.keep hb6g (fun e1 => by have := at_lt (h.node p hp); omega)
    replace hown := own_chg hown (hWh.chg ((Ext.refl Wg).chg (· = p.blk)) (.inl rfl)) (fun k hk e1 => by
      subst e1
      obtain ⟨cs, h5⟩ := own_at hown hk
      rw [hnode] at h5
      cases h5)
    rw [← insD_new (not_kid hin)] at hown
    have hmv2 : Moved Wd (.slice A' (p.n + 1) c') (.slice p.A p.n p.c) := hmv.imp id fun ⟨k, h5, h6⟩ => ⟨k, h5, Nat.le_trans hd.le h6⟩
    clear hnode hWh hmv hgr hrow2 hnr hv hrow hb5 hb6
    conv => whnf
    -- the new node
    refine VDraw.mk' tab_ok (Ext Wh) [11] (.take 0 <| .take 1 <| .take 2 <| .take 3 <| .take 4 <| .take 5 <| .take 6 <| .take 7 <| .take 8 <| .take 9 <| .one 10 <| .one 11 <| .done) mixed (by kernel_rfl) (by kernel_rfl) (Ext.drew _) ?_
    have hdr := Ext.drew Wh
    generalize Wh.drew = Wi at hdr
    conv => whnf
    refine ⟨_, fun w' hs => hs.cell (ld hhead rfl rfl), ?_⟩
    conv => whnf
    refine ⟨cI e.id, rfl, fun w' hs => lds (hs.at_ hb5g) rfl rfl, ?_⟩
    conv => whnf
    refine ⟨cI e.id, rfl, fun w' hs => lds (hs.at_ hb5g) rfl rfl, ?_⟩
    conv => whnf
    refine ⟨cI e.ref, rfl, fun w' hs => lds (hs.at_ hb6g) rfl rfl, ?_⟩
    conv => whnf
    refine ⟨_, fun w' => build49 e.id.t e.id.s e.ref.t e.ref.s e.rune w', ?_⟩
    conv => whnf
    refine ⟨_, fun w' => build73 e.id.t e.id.s e.ref.t e.ref.s e.rune w', ?_⟩
    conv => whnf
    intro Wj hWj
    refine ⟨hdr.tr hWj.e, ?_⟩
    have hq := hWj.at_
    have hqb : Wh.heap.size ≤ Wi.heap.size := hdr.le
    replace hdr := hdr.tr hWj.e
    clear hWj
    generalize Wi.heap.size = bq at hq hqb
    have hmapj := hdr.at_ hmap
    have hqm : bq ≠ m := fun e1 => by have := at_lt hmap; omega
    conv => whnf
    have hnone : findE (kI e.id) ((R :: Ns).map NodeR.ent) = none := findE_none' fun r hr e1 => by
      rcases ids_root h r hr with h5 | h5
      · exact okI_ne hid (e1.symm.trans h5)
      · exact hin (e1 ▸ h5)
    refine RunU.mk' _ (update_new (k := kI e.id) keyLaw24 (mt := 74) (et := 71) Try.runUnderlying74 ⟨_, _, rfl⟩ hmapj (keys_ent _) hnone) ?_
    have hP := Put.mk' hmapj (.map (((R :: Ns).map NodeR.ent).toArray.push { key := kI e.id, val := .pointer (some ⟨bq, 0, none⟩), born := cl }) (cl + 1))
    generalize VC.World.putObj Wj m (.map (((R :: Ns).map NodeR.ent).toArray.push { key := kI e.id, val := .pointer (some ⟨bq, 0, none⟩), born := cl }) (cl + 1)) = Wk at hP ⊢
    have hgk := hP.chg (hgc.tr_ext hdr) (.inl (.inr (.inl rfl)))
    have hqk := hP.keep hq hqm
    have hnodek := hP.keep (hdr.at_ hnode2) (Ne.symm hbn.2.1)
    have hownk := own_chg (own_ext hown hdr) (hP.chg ((Ext.refl Wj).chg (· = m)) (.inl rfl)) (fun k hk e1 => by
      subst e1
      obtain ⟨cs, h5⟩ := own_at (own_ext hown hdr) hk
      rw [hmapj] at h5
      cases h5)
    have hmapk := hP.at_
    have hsz : Wd.heap.size ≤ bq := Nat.le_trans hgc.size hqb
    conv => whnf
    obtain ⟨hL, hF⟩ := h2.grow (W := Wk) (q := ⟨e, bq, cl, none, 0, 0⟩) (e := e) hp hpx h0 hgk hnodek hownk hmv2 hqk hsz rfl ⟨rfl, rfl, rfl⟩ hmapk
    refine ⟨by rw [h0], ?_, _, _, _, by rw [show insS S e = S ++ [e] by unfold insS; rw [if_pos h0]]; exact hL, fun k hk => (hF k hk).imp id fun h5 => Nat.le_trans hE.le h5⟩
    refine (hE.chg _).tr (hgk.mono ?_)
    rintro k (rfl | rfl | h5)
    · exact .inr (.inr ⟨p, hp, .inl rfl⟩)
    · exact .inr (.inl rfl)
    · exact .inr (.inr ⟨p, hp, .inr h5⟩)
  · have hz : e.ref = Idn.z := by simpa using htb.symm
    conv => whnf
    have hn1 : ¬ (e.ref ≠ Idn.z ∧ (okI e.ref = false ∨ e.ref.t ≥ e.id.t)) := (fun h1 => h1.1 hz)
    refine ⟨cI e.id, rfl, lds hb5 rfl rfl, ?_⟩
    conv => whnf
    refine (fn41 (h.ext hE) e.id).mono ?_
    rintro _ W4 ⟨he, rfl⟩
    replace hb5 := he.at_ hb5
    replace hb6 := he.at_ hb6
    replace hE := hE.tr he
    clear he
    by_cases hin : e.id ∈ ids S
    · rw [show hasS S e.id = true from decide_eq_true hin]
      conv => whnf
      exact hdone 7 (hstep1 7 (by rw [if_neg hn1, if_pos hin])) (by decide) _ hE
    rw [show hasS S e.id = false from decide_eq_false hin]
    conv => whnf
    have hn2 : ¬ (e.ref ≠ Idn.z ∧ e.ref ∉ ids S) := fun h1 => h1.1 hz
    have hpar : e.ref = Idn.z ∨ e.ref ∈ ids S := .inl hz
    refine (fn26 (h.ext hE)).mono ?_
    rintro _ Wz ⟨hwz, rfl⟩
    subst hwz
    conv => whnf
    intro t ht
    cases t <;> simp only [VB] at ht
    case true =>
      conv => whnf
      exact hdone 5 (hstep1 5 (by rw [if_neg hn1, if_neg hin, if_neg hn2, if_pos (by omega)])) (by decide) _ hE
    conv => whnf
    have hfew := h.few
    have h0 : insE S e = 0 := hstep1 0 (by rw [if_neg hn1, if_neg hin, if_neg hn2, if_neg (by omega)])
    clear hdone hstep1
    have hh := h.ext hE
    obtain ⟨p, hp, hpx, hptr, _⟩ := hh.there hpar
    have hE2 := Ext.drew W4
    refine VDraw.mk' tab_ok (Ext W4) [] (.take 0 <| .take 1 <| .take 2 <| .take 3 <| .take 4 <| .take 5 <| .take 6 <| .done) mixed (by kernel_rfl) (by kernel_rfl) (Ext.drew _) ?_
    generalize W4.drew = Wb at hE2
    conv => whnf
    refine ⟨_, fun w' hs => hs.cell (ld hh.head rfl rfl), ?_⟩
    conv => whnf
    refine ⟨cI e.ref, rfl, fun w' hs => lds (hs.at_ hb6) rfl rfl, ?_⟩
    conv => whnf
    refine ⟨_, fun w' hs => (hh.ext hs).lookup e.ref, ?_⟩
    rw [hptr]
    conv => whnf
    replace hb5 := hE2.at_ hb5
    replace hb6 := hE2.at_ hb6
    have h2 := hh.ext hE2
    replace hE := hE.tr hE2
    clear hE2 hh
    -- the place among the kids
    have hrow := h2.row p hp
    rw [hpx] at hrow
    have hlen : (kidsOf S e.ref).length = p.n := (own_row cl24 (by decide) hrow).len
    have hkl := kids_len S e.ref
    refine VDraw.mk' tab_ok (Ext Wb) [5] (.take 0 <| .take 1 <| .take 2 <| .take 3 <| .take 4 <| .one 5 <| .take 6 <| .take 7 <| .take 8 <| .take 9 <| .take 10 <| .done) mixed (by kernel_rfl) (by kernel_rfl) (Ext.drew _) ?_
    have hd := Ext.drew Wb
    generalize Wb.drew = Wc at hd
    conv => whnf
    refine ⟨.slice p.A p.n p.c, fun w' hs => hs.cell (ld (h2.node p hp) rfl rfl), ?_⟩
    conv => whnf
    refine ⟨cI e.id, rfl, fun w' hs => lds (hs.at_ hb5) rfl rfl, ?_⟩
    conv => whnf
    refine (fn42 e.id ((own_row cl24 (by decide) hrow).ext hd) (desc_kids _ _) (by omega)).mono ?_
    rintro _ Wd ⟨he, rfl, hpos⟩
    replace he := hd.tr he
    replace hb5 := he.at_ hb5
    replace hb6 := he.at_ hb6
    replace h2 := h2.ext he
    replace hE := hE.tr he
    clear he hd hrow
    conv => whnf
    -- the kids' row grows
    have hrow := h2.row p hp
    rw [hpx] at hrow
    refine VDraw.mk' tab_ok (Ext Wd) [8, 11] (.take 0 <| .take 1 <| .take 2 <| .take 3 <| .take 4 <| .take 5 <| .take 6 <| .one 7 <| .one 8 <| .take 9 <| .take 10 <| .one 11 <| .done) mixed (by kernel_rfl) (by kernel_rfl) (Ext.drew _) ?_
    have hd := Ext.drew Wd
    generalize Wd.drew = We at hd
    conv => whnf
    refine ⟨.slice p.A p.n p.c, fun w' hs => hs.cell (ld (h2.node p hp) rfl rfl), ?_⟩
    conv => whnf
    refine ⟨cI e.id, rfl, fun w' hs => lds (hs.at_ hb5) rfl rfl, ?_⟩
    conv => whnf
    refine Run.mk' _ _ (slice41_1 e.id.t e.id.s We) ?_
    have hN := New.mk' We (.cells #[.int .i64 e.id.t, .int .i64 e.id.s] 24)
    generalize We.alloc (.cells #[.int .i64 e.id.t, .int .i64 e.id.s] 24) = Wf at hN ⊢
    refine ⟨hd.tr hN.e, ?_⟩
    have hv := hN.at_
    have hvb : Wd.heap.size ≤ We.heap.size := hd.le
    replace hd := hd.tr hN.e
    generalize We.heap.size = bv at hv hvb
    clear hN
    conv => whnf
    have hrow2 := own_ext hrow hd
    have hnr : p.row ≠ some bv := fun e1 => by have := h2.row_lt p hp _ e1; omega
    refine (fn47 (w0 := Wf) (x := e.id) hrow2 (Nat.zero_le _) (by omega) hv hnr (by omega)).mono ?_
    rintro _ Wg ⟨hown, hgr, hmv⟩
    obtain ⟨A', c', rfl⟩ := own_form hown
    have hgc := (hd.chg (fun k => k = p.blk ∨ k = m ∨ p.row = some k)).tr ((grown_chg hgr).mono (fun k hk => .inr (.inr hk)))
    have hbn := h2.blk_ne hp
    have hnode : Wg.heap[p.blk]? = some p.obj := (grown_chg hgr).at_ ((h2.ext hd).node p hp) (fun e1 => (hbn.2.2.2 p hp _ e1).1 rfl)
    have hhead : Wg.heap[b]? = _ := (grown_chg hgr).at_ (h2.ext hd).head (fun e1 => (hbn.2.2.2 p hp _ e1).2.1 rfl)
    have hmap : Wg.heap[m]? = _ := (grown_chg hgr).at_ (h2.ext hd).map (fun e1 => (hbn.2.2.2 p hp _ e1).2.2 rfl)
    have hb5g : Wg.heap[b5]? = _ := (grown_chg hgr).at_ (hd.at_ hb5) (fun e1 => by have := h.row_lt p hp _ e1; omega)
    have hb6g : Wg.heap[b6]? = _ := (grown_chg hgr).at_ (hd.at_ hb6) (fun e1 => by have := h.row_lt p hp _ e1; omega)
    conv => whnf
    refine ⟨p.blk, 6, _, _, rfl, hnode, Nat.le_of_ble_eq_true rfl, rfl, rfl, fun Wh hWh => ?_⟩
    have hnode2 : Wh.heap[p.blk]? = some (NodeR.obj { p with A := A', n := p.n + 1, c := c' }) := hWh.at_
    replace hgc := hWh.chg hgc (.inl (.inl rfl))
    replace hhead := hWh.keep hhead hbn.1
    replace hmap := hWh.keep hmap hbn.2.1
    replace hb5g := hWh.keep hb5g (fun e1 => by have := at_lt (h.node p hp); omega)
    replace hb6g := hWh.keep hb6g (fun e1 => by have := at_lt (h.node p hp); omega)
    replace hown := own_chg hown (hWh.chg ((Ext.refl Wg).chg (· = p.blk)) (.inl rfl)) (fun k hk e1 => by
      subst e1
      obtain ⟨cs, h5⟩ := own_at hown hk
      rw [hnode] at h5
      cases h5)
    rw [← insD_new (not_kid hin)] at hown
    have hmv2 : Moved Wd (.slice A' (p.n + 1) c') (.slice p.A p.n p.c) := hmv.imp id fun ⟨k, h5, h6⟩ => ⟨k, h5, Nat.le_trans hd.le h6⟩
    clear hnode hWh hmv hgr hrow2 hnr hv hrow hb5 hb6
    conv => whnf
    -- the new node
    refine VDraw.mk' tab_ok (Ext Wh) [11] (.take 0 <| .take 1 <| .take 2 <| .take 3 <| .take 4 <| .take 5 <| .take 6 <| .take 7 <| .take 8 <| .take 9 <| .one 10 <| .one 11 <| .done) mixed (by kernel_rfl) (by kernel_rfl) (Ext.drew _) ?_
    have hdr := Ext.drew Wh
    generalize Wh.drew = Wi at hdr
    conv => whnf
    refine ⟨_, fun w' hs => hs.cell (ld hhead rfl rfl), ?_⟩
    conv => whnf
    refine ⟨cI e.id, rfl, fun w' hs => lds (hs.at_ hb5g) rfl rfl, ?_⟩
    conv => whnf
    refine ⟨cI e.id, rfl, fun w' hs => lds (hs.at_ hb5g) rfl rfl, ?_⟩
    conv => whnf
    refine ⟨cI e.ref, rfl, fun w' hs => lds (hs.at_ hb6g) rfl rfl, ?_⟩
    conv => whnf
    refine ⟨_, fun w' => build49 e.id.t e.id.s e.ref.t e.ref.s e.rune w', ?_⟩
    conv => whnf
    refine ⟨_, fun w' => build73 e.id.t e.id.s e.ref.t e.ref.s e.rune w', ?_⟩
    conv => whnf
    intro Wj hWj
    refine ⟨hdr.tr hWj.e, ?_⟩
    have hq := hWj.at_
    have hqb : Wh.heap.size ≤ Wi.heap.size := hdr.le
    replace hdr := hdr.tr hWj.e
    clear hWj
    generalize Wi.heap.size = bq at hq hqb
    have hmapj := hdr.at_ hmap
    have hqm : bq ≠ m := fun e1 => by have := at_lt hmap; omega
    conv => whnf
    have hnone : findE (kI e.id) ((R :: Ns).map NodeR.ent) = none := findE_none' fun r hr e1 => by
      rcases ids_root h r hr with h5 | h5
      · exact okI_ne hid (e1.symm.trans h5)
      · exact hin (e1 ▸ h5)
    refine RunU.mk' _ (update_new (k := kI e.id) keyLaw24 (mt := 74) (et := 71) Try.runUnderlying74 ⟨_, _, rfl⟩ hmapj (keys_ent _) hnone) ?_
    have hP := Put.mk' hmapj (.map (((R :: Ns).map NodeR.ent).toArray.push { key := kI e.id, val := .pointer (some ⟨bq, 0, none⟩), born := cl }) (cl + 1))
    generalize VC.World.putObj Wj m (.map (((R :: Ns).map NodeR.ent).toArray.push { key := kI e.id, val := .pointer (some ⟨bq, 0, none⟩), born := cl }) (cl + 1)) = Wk at hP ⊢
    have hgk := hP.chg (hgc.tr_ext hdr) (.inl (.inr (.inl rfl)))
    have hqk := hP.keep hq hqm
    have hnodek := hP.keep (hdr.at_ hnode2) (Ne.symm hbn.2.1)
    have hownk := own_chg (own_ext hown hdr) (hP.chg ((Ext.refl Wj).chg (· = m)) (.inl rfl)) (fun k hk e1 => by
      subst e1
      obtain ⟨cs, h5⟩ := own_at (own_ext hown hdr) hk
      rw [hmapj] at h5
      cases h5)
    have hmapk := hP.at_
    have hsz : Wd.heap.size ≤ bq := Nat.le_trans hgc.size hqb
    conv => whnf
    obtain ⟨hL, hF⟩ := h2.grow (W := Wk) (q := ⟨e, bq, cl, none, 0, 0⟩) (e := e) hp hpx h0 hgk hnodek hownk hmv2 hqk hsz rfl ⟨rfl, rfl, rfl⟩ hmapk
    refine ⟨by rw [h0], ?_, _, _, _, by rw [show insS S e = S ++ [e] by unfold insS; rw [if_pos h0]]; exact hL, fun k hk => (hF k hk).imp id fun h5 => Nat.le_trans hE.le h5⟩
    refine (hE.chg _).tr (hgk.mono ?_)
    rintro k (rfl | rfl | h5)
    · exact .inr (.inr ⟨p, hp, .inl rfl⟩)
    · exact .inr (.inl rfl)
    · exact .inr (.inr ⟨p, hp, .inr h5⟩)
end
end Go.Proofs.Ytbkmbignincilaa
